/- Texts of this claim, merged by merge.py (a program of this session's): the kit's printed words, where used; what functions come to; the plain law. -/
import Derived.Test.YtpjikgeglhjehaaGYoung2
namespace Go.Proofs.Ytpjikgeglhjehaa.PH
open Go.RowKit Go.Proofs.YtpjikgeglhjehaaW.PrintWords Go.Proofs.YtpjikgeglhjehaaW.PrintLast Go.Proofs.YtpjikgeglhjehaaW.PrintMore
attribute [local go_sem] max2_int min2_int max_two min_two max_three min_three max_four min_four   -- for this text's walks alone
set_option linter.unusedVariables false
set_option linter.unusedSimpArgs false
def laws_heldCellS.l0 : Nat → List (S46) → Int → Int → Option (Int)
 | 0, _, _, _ => none
 | k + 1, x0, x1, x5 => if x5 < (x0.length : Int) then (if 0 ≤ x5 then (if (((rd_T46 x0 x5).f0) != ((Int.tmod x1 3) == 0)) = true then (some (-1)) else (if ((rd_T46 x0 x5).f1) = (wrap64 (x1 + 1)) then (if ((rd_T46 x0 x5).f2) = (wrap64 ((wrap64 (x1 + 1)) + 1)) then (if ((rd_T46 x0 x5).f3) = (wrap64 ((wrap64 ((wrap64 (x1 + 1)) + 1)) + 1)) then (laws_heldCellS.l0 k x0 (wrap64 ((wrap64 ((wrap64 ((wrap64 (x1 + 1)) + 1)) + 1)) + 1)) (wrap64 (x5 + 1))) else (some (-1))) else (some (-1))) else (some (-1)))) else (none)) else (some x1)
def laws_heldCellS.f (k : Nat) (l0 : List (S46)) (a1 : Int) : Option (Int) := laws_heldCellS.l0 k l0 a1 0
theorem laws_heldCellS.mono_l : ∀ k, (∀ y0 y1 y2, LeO (laws_heldCellS.l0 k y0 y1 y2) (laws_heldCellS.l0 (k + 1) y0 y1 y2))
 | 0 => fun _ _ _ r h => by simp [laws_heldCellS.l0] at h
 | k + 1 => by
  have ih0 := laws_heldCellS.mono_l k
  ·intro y0 y1 y2
   unfold laws_heldCellS.l0
   repeat' first
   | (with_reducible exact ih0 _ _ _)
   | (with_reducible exact LeO.refl _)
   | (with_reducible exact LeO.none _)
   | (with_reducible refine LeO.ite ?_ ?_)
   | (with_reducible refine LeO.bind ?_ (fun _ => ?_))
   | exact ih0 _ _ _
   | exact LeO.none _
   | refine LeO.ite ?_ ?_
   | refine LeO.bind ?_ (fun _ => ?_)
theorem laws_heldCellS.mono : ∀ a0 a1 k, LeO (laws_heldCellS.f k a0 a1) (laws_heldCellS.f (k + 1) a0 a1) := by
 intro a0 a1 k
 have ih0 := laws_heldCellS.mono_l k
 unfold laws_heldCellS.f
 repeat' first
   | (with_reducible exact ih0 _ _ _)
   | (with_reducible exact LeO.refl _)
   | (with_reducible exact LeO.none _)
   | (with_reducible refine LeO.ite ?_ ?_)
   | (with_reducible refine LeO.bind ?_ (fun _ => ?_))
   | exact ih0 _ _ _
   | exact LeO.none _
   | refine LeO.ite ?_ ?_
   | refine LeO.bind ?_ (fun _ => ?_)
set_option maxHeartbeats 8000000 in
set_option maxRecDepth 100000 in
theorem laws_heldCellS.calls (k : Nat) (A0 : Option Addr) (c0 : Nat) (l0 : List (S46)) (a1 : Int) (r : Int) (w : World) (hr0 : Kd.C k46 w A0 l0.length l0) (hc0 : l0.length ≤ c0) (h : laws_heldCellS.f k l0 a1 = some r) :
  Calls Try.prog 45 #[.slice A0 l0.length c0, .int .i64 a1] w fun e w' => e = .returned (.int .i64 r) ∧ Drawn0 w w' := by
 have HR0 := Aside0.mk hr0
 have HC0 := Aside0.mk hc0
 clear hr0 hc0
 have H : (laws_heldCellS.l0 k l0 a1 0) = some r := h
 clear h
 have H' := Aside0.mk H
 clear H
 go_enter Try.func45, Try.ntmps45
 go_wp2
 go_loopg [1, 5] k (fun kq v1 v5 w' => ∃ (x1_1 : Int) (x5_1 : Int), v1 = .int .i64 x1_1 ∧ v5 = .int .i64 x5_1 ∧ Aside0 (laws_heldCellS.l0 kq l0 x1_1 x5_1 = some r) ∧ Aside0 (kq ≤ k) ∧ Drawn0 w w')
 case atStart => exact ⟨(a1), (0), (by first | rfl | (simp; done) | (simp [*]; done)), (by first | rfl | (simp; done) | (simp [*]; done)), H', ⟨Nat.le_refl _⟩, by repeat (first | exact Drawn0.refl _ | apply Drawn0.step)⟩
 case round =>
  clear H'
  try clear p2
  obtain ⟨x1_1, x5_1, rfl, rfl, HA, HK1, ⟨m1, rfl⟩⟩ := hrel
  cases gk with
  | zero => exact absurd HA.out (by simp [laws_heldCellS.l0])
  | succ k1 =>
   have H := HA.out
   clear HA
   simp only [laws_heldCellS.l0] at H
   by_cases c3 : x5_1 < (l0.length : Int)
   ·rw [if_pos c3] at H
    have c3b0 : decide (x5_1 < (l0.length : Int)) = true := decide_eq_true c3
    clear c3
    by_cases c4 : 0 ≤ x5_1
    ·rw [if_pos c4] at H
     have c4b0 : decide (0 ≤ x5_1) = true := decide_eq_true c4
     clear c4
     by_cases c5 : (((rd_T46 l0 x5_1).f0) != ((Int.tmod x1_1 3) == 0)) = true
     ·rw [if_pos c5] at H
      have c5b0 : (((rd_T46 l0 x5_1).f0) != ((Int.tmod x1_1 3) == 0)) = true := c5
      (try (have c5b1 : decide (((rd_T46 l0 x5_1).f0) = ((Int.tmod x1_1 3) == 0)) = false := by simpa using c5))
      (try (have c5b2 : (((rd_T46 l0 x5_1).f0) == ((Int.tmod x1_1 3) == 0)) = false := by simpa using c5))
      (try (have c5b3 : ¬ (((rd_T46 l0 x5_1).f0) = ((Int.tmod x1_1 3) == 0)) := by simpa using c5))
      clear c5
      obtain rfl := Option.some.inj H
      have p466 : 0 ≤ (x5_1 : Int) := of_decide_eq_true (by first | (with_reducible assumption) | assumption)
      have q466 : x5_1 < (l0.length : Int) := of_decide_eq_true (by first | (with_reducible assumption) | assumption)
      obtain ⟨ad466, e466, hx466_0, hx466_1, hx466_2, hx466_3⟩ := at_T46 HR0.out x5_1 p466 q466
      cases e466
      replace p466 := eq_true p466
      replace q466 := eq_true q466
      go_wp2
      go_ret
      exact ⟨by first | rfl | (simp; done) | (simp [*]; done), by repeat (first | exact Drawn0.refl _ | apply Drawn0.step)⟩
     ·rw [if_neg c5] at H
      have c5b0 : (((rd_T46 l0 x5_1).f0) != ((Int.tmod x1_1 3) == 0)) = false := by simpa using c5
      (try (have c5b1 : decide (((rd_T46 l0 x5_1).f0) = ((Int.tmod x1_1 3) == 0)) = true := by simpa using c5))
      (try (have c5b2 : (((rd_T46 l0 x5_1).f0) == ((Int.tmod x1_1 3) == 0)) = true := by simpa using c5))
      clear c5
      by_cases c6 : ((rd_T46 l0 x5_1).f1) = (wrap64 (x1_1 + 1))
      ·rw [if_pos c6] at H
       have c6b0 : (((rd_T46 l0 x5_1).f1) == (wrap64 (x1_1 + 1))) = true := beq_iff_eq.mpr c6
       have c6b1 : (((rd_T46 l0 x5_1).f1) != (wrap64 (x1_1 + 1))) = false := bne_eq_false_iff_eq.mpr c6
       clear c6
       by_cases c7 : ((rd_T46 l0 x5_1).f2) = (wrap64 ((wrap64 (x1_1 + 1)) + 1))
       ·rw [if_pos c7] at H
        have c7b0 : (((rd_T46 l0 x5_1).f2) == (wrap64 ((wrap64 (x1_1 + 1)) + 1))) = true := beq_iff_eq.mpr c7
        have c7b1 : (((rd_T46 l0 x5_1).f2) != (wrap64 ((wrap64 (x1_1 + 1)) + 1))) = false := bne_eq_false_iff_eq.mpr c7
        clear c7
        by_cases c8 : ((rd_T46 l0 x5_1).f3) = (wrap64 ((wrap64 ((wrap64 (x1_1 + 1)) + 1)) + 1))
        ·rw [if_pos c8] at H
         have c8b0 : (((rd_T46 l0 x5_1).f3) == (wrap64 ((wrap64 ((wrap64 (x1_1 + 1)) + 1)) + 1))) = true := beq_iff_eq.mpr c8
         have c8b1 : (((rd_T46 l0 x5_1).f3) != (wrap64 ((wrap64 ((wrap64 (x1_1 + 1)) + 1)) + 1))) = false := bne_eq_false_iff_eq.mpr c8
         clear c8
         have H' := Aside0.mk H
         clear H
         have p466 : 0 ≤ (x5_1 : Int) := of_decide_eq_true (by first | (with_reducible assumption) | assumption)
         have q466 : x5_1 < (l0.length : Int) := of_decide_eq_true (by first | (with_reducible assumption) | assumption)
         obtain ⟨ad466, e466, hx466_0, hx466_1, hx466_2, hx466_3⟩ := at_T46 HR0.out x5_1 p466 q466
         cases e466
         replace p466 := eq_true p466
         replace q466 := eq_true q466
         have p467 : 0 ≤ (x5_1 : Int) := of_decide_eq_true (by first | (with_reducible assumption) | assumption)
         have q467 : x5_1 < (l0.length : Int) := of_decide_eq_true (by first | (with_reducible assumption) | assumption)
         obtain ⟨ad467, e467, hx467_0, hx467_1, hx467_2, hx467_3⟩ := at_T46 HR0.out x5_1 p467 q467
         obtain rfl : ad466 = ad467 := (by injection e467)
         replace p467 := eq_true p467
         replace q467 := eq_true q467
         have p468 : 0 ≤ (x5_1 : Int) := of_decide_eq_true (by first | (with_reducible assumption) | assumption)
         have q468 : x5_1 < (l0.length : Int) := of_decide_eq_true (by first | (with_reducible assumption) | assumption)
         obtain ⟨ad468, e468, hx468_0, hx468_1, hx468_2, hx468_3⟩ := at_T46 HR0.out x5_1 p468 q468
         obtain rfl : ad466 = ad468 := (by injection e468)
         replace p468 := eq_true p468
         replace q468 := eq_true q468
         have p469 : 0 ≤ (x5_1 : Int) := of_decide_eq_true (by first | (with_reducible assumption) | assumption)
         have q469 : x5_1 < (l0.length : Int) := of_decide_eq_true (by first | (with_reducible assumption) | assumption)
         obtain ⟨ad469, e469, hx469_0, hx469_1, hx469_2, hx469_3⟩ := at_T46 HR0.out x5_1 p469 q469
         obtain rfl : ad466 = ad469 := (by injection e469)
         replace p469 := eq_true p469
         replace q469 := eq_true q469
         go_wp2
         go_roundg k1
         case measure => have := HK1.out; omega
         case rel => exact ⟨(wrap64 ((wrap64 ((wrap64 ((wrap64 (x1_1 + 1)) + 1)) + 1)) + 1)), (wrap64 (x5_1 + 1)), (by first | rfl | (simp; done) | (simp [*]; done)), (by first | rfl | (simp; done) | (simp [*]; done)), H', ⟨by have := HK1.out; omega⟩, by repeat (first | exact Drawn0.refl _ | apply Drawn0.step)⟩
        ·rw [if_neg c8] at H
         have c8b0 : (((rd_T46 l0 x5_1).f3) == (wrap64 ((wrap64 ((wrap64 (x1_1 + 1)) + 1)) + 1))) = false := beq_eq_false_iff_ne.mpr c8
         have c8b1 : (((rd_T46 l0 x5_1).f3) != (wrap64 ((wrap64 ((wrap64 (x1_1 + 1)) + 1)) + 1))) = true := bne_iff_ne.mpr c8
         obtain rfl := Option.some.inj H
         have p466 : 0 ≤ (x5_1 : Int) := of_decide_eq_true (by first | (with_reducible assumption) | assumption)
         have q466 : x5_1 < (l0.length : Int) := of_decide_eq_true (by first | (with_reducible assumption) | assumption)
         obtain ⟨ad466, e466, hx466_0, hx466_1, hx466_2, hx466_3⟩ := at_T46 HR0.out x5_1 p466 q466
         cases e466
         replace p466 := eq_true p466
         replace q466 := eq_true q466
         have p467 : 0 ≤ (x5_1 : Int) := of_decide_eq_true (by first | (with_reducible assumption) | assumption)
         have q467 : x5_1 < (l0.length : Int) := of_decide_eq_true (by first | (with_reducible assumption) | assumption)
         obtain ⟨ad467, e467, hx467_0, hx467_1, hx467_2, hx467_3⟩ := at_T46 HR0.out x5_1 p467 q467
         obtain rfl : ad466 = ad467 := (by injection e467)
         replace p467 := eq_true p467
         replace q467 := eq_true q467
         have p468 : 0 ≤ (x5_1 : Int) := of_decide_eq_true (by first | (with_reducible assumption) | assumption)
         have q468 : x5_1 < (l0.length : Int) := of_decide_eq_true (by first | (with_reducible assumption) | assumption)
         obtain ⟨ad468, e468, hx468_0, hx468_1, hx468_2, hx468_3⟩ := at_T46 HR0.out x5_1 p468 q468
         obtain rfl : ad466 = ad468 := (by injection e468)
         replace p468 := eq_true p468
         replace q468 := eq_true q468
         have p469 : 0 ≤ (x5_1 : Int) := of_decide_eq_true (by first | (with_reducible assumption) | assumption)
         have q469 : x5_1 < (l0.length : Int) := of_decide_eq_true (by first | (with_reducible assumption) | assumption)
         obtain ⟨ad469, e469, hx469_0, hx469_1, hx469_2, hx469_3⟩ := at_T46 HR0.out x5_1 p469 q469
         obtain rfl : ad466 = ad469 := (by injection e469)
         replace p469 := eq_true p469
         replace q469 := eq_true q469
         go_wp2
         go_ret
         exact ⟨by first | rfl | (simp; done) | (simp [*]; done), by repeat (first | exact Drawn0.refl _ | apply Drawn0.step)⟩
       ·rw [if_neg c7] at H
        have c7b0 : (((rd_T46 l0 x5_1).f2) == (wrap64 ((wrap64 (x1_1 + 1)) + 1))) = false := beq_eq_false_iff_ne.mpr c7
        have c7b1 : (((rd_T46 l0 x5_1).f2) != (wrap64 ((wrap64 (x1_1 + 1)) + 1))) = true := bne_iff_ne.mpr c7
        obtain rfl := Option.some.inj H
        have p466 : 0 ≤ (x5_1 : Int) := of_decide_eq_true (by first | (with_reducible assumption) | assumption)
        have q466 : x5_1 < (l0.length : Int) := of_decide_eq_true (by first | (with_reducible assumption) | assumption)
        obtain ⟨ad466, e466, hx466_0, hx466_1, hx466_2, hx466_3⟩ := at_T46 HR0.out x5_1 p466 q466
        cases e466
        replace p466 := eq_true p466
        replace q466 := eq_true q466
        have p467 : 0 ≤ (x5_1 : Int) := of_decide_eq_true (by first | (with_reducible assumption) | assumption)
        have q467 : x5_1 < (l0.length : Int) := of_decide_eq_true (by first | (with_reducible assumption) | assumption)
        obtain ⟨ad467, e467, hx467_0, hx467_1, hx467_2, hx467_3⟩ := at_T46 HR0.out x5_1 p467 q467
        obtain rfl : ad466 = ad467 := (by injection e467)
        replace p467 := eq_true p467
        replace q467 := eq_true q467
        have p468 : 0 ≤ (x5_1 : Int) := of_decide_eq_true (by first | (with_reducible assumption) | assumption)
        have q468 : x5_1 < (l0.length : Int) := of_decide_eq_true (by first | (with_reducible assumption) | assumption)
        obtain ⟨ad468, e468, hx468_0, hx468_1, hx468_2, hx468_3⟩ := at_T46 HR0.out x5_1 p468 q468
        obtain rfl : ad466 = ad468 := (by injection e468)
        replace p468 := eq_true p468
        replace q468 := eq_true q468
        go_wp2
        go_ret
        exact ⟨by first | rfl | (simp; done) | (simp [*]; done), by repeat (first | exact Drawn0.refl _ | apply Drawn0.step)⟩
      ·rw [if_neg c6] at H
       have c6b0 : (((rd_T46 l0 x5_1).f1) == (wrap64 (x1_1 + 1))) = false := beq_eq_false_iff_ne.mpr c6
       have c6b1 : (((rd_T46 l0 x5_1).f1) != (wrap64 (x1_1 + 1))) = true := bne_iff_ne.mpr c6
       obtain rfl := Option.some.inj H
       have p466 : 0 ≤ (x5_1 : Int) := of_decide_eq_true (by first | (with_reducible assumption) | assumption)
       have q466 : x5_1 < (l0.length : Int) := of_decide_eq_true (by first | (with_reducible assumption) | assumption)
       obtain ⟨ad466, e466, hx466_0, hx466_1, hx466_2, hx466_3⟩ := at_T46 HR0.out x5_1 p466 q466
       cases e466
       replace p466 := eq_true p466
       replace q466 := eq_true q466
       have p467 : 0 ≤ (x5_1 : Int) := of_decide_eq_true (by first | (with_reducible assumption) | assumption)
       have q467 : x5_1 < (l0.length : Int) := of_decide_eq_true (by first | (with_reducible assumption) | assumption)
       obtain ⟨ad467, e467, hx467_0, hx467_1, hx467_2, hx467_3⟩ := at_T46 HR0.out x5_1 p467 q467
       obtain rfl : ad466 = ad467 := (by injection e467)
       replace p467 := eq_true p467
       replace q467 := eq_true q467
       go_wp2
       go_ret
       exact ⟨by first | rfl | (simp; done) | (simp [*]; done), by repeat (first | exact Drawn0.refl _ | apply Drawn0.step)⟩
    ·rw [if_neg c4] at H
     exact absurd H (by simp)
   ·rw [if_neg c3] at H
    have c3b0 : decide (x5_1 < (l0.length : Int)) = false := decide_eq_false c3
    clear c3
    obtain rfl := Option.some.inj H
    go_wp2
    go_ret
    exact ⟨by first | rfl | (simp; done) | (simp [*]; done), by repeat (first | exact Drawn0.refl _ | apply Drawn0.step)⟩
def laws_heldYoung.f (k : Nat) (a0_0 : Int) (l0_1 : List (S46)) (l0_2 : List Int) (l0_3 : List Int) (a1 : Int) : Option (Int) := (laws_heldCellS.f k l0_1 a1).bind fun t471 => (if t471 < 0 then (some (-1)) else ((laws_heldIntS.f k l0_2 t471).bind fun t472 => (if t472 < 0 then (some (-1)) else ((laws_heldIntS.f k l0_3 t472).bind fun t473 => (if t473 < 0 then (some (-1)) else (some t473))))))
theorem laws_heldYoung.mono : ∀ a0 a1 a2 a3 a4 k, LeO (laws_heldYoung.f k a0 a1 a2 a3 a4) (laws_heldYoung.f (k + 1) a0 a1 a2 a3 a4) := by
 intro a0 a1 a2 a3 a4 k
 unfold laws_heldYoung.f
 repeat' first
   | (with_reducible exact laws_heldCellS.mono _ _ _)
   | (with_reducible exact laws_heldIntS.mono _ _ _)
   | (with_reducible exact LeO.refl _)
   | (with_reducible exact LeO.none _)
   | (with_reducible refine LeO.ite ?_ ?_)
   | (with_reducible refine LeO.bind ?_ (fun _ => ?_))
   | exact laws_heldCellS.mono _ _ _
   | exact laws_heldIntS.mono _ _ _
   | exact LeO.none _
   | refine LeO.ite ?_ ?_
   | refine LeO.bind ?_ (fun _ => ?_)
set_option maxHeartbeats 8000000 in
set_option maxRecDepth 100000 in
theorem laws_heldYoung.calls (k : Nat) (a0_0 : Int) (A0_1 : Option Addr) (c0_1 : Nat) (l0_1 : List (S46)) (A0_2 : Option Addr) (c0_2 : Nat) (l0_2 : List Int) (A0_3 : Option Addr) (c0_3 : Nat) (l0_3 : List Int) (a1 : Int) (r : Int) (w : World) (hr0_1 : Kd.C k46 w A0_1 l0_1.length l0_1) (hc0_1 : l0_1.length ≤ c0_1) (hr0_2 : Kd.C (Kd.int .i64) w A0_2 l0_2.length l0_2) (hc0_2 : l0_2.length ≤ c0_2) (hr0_3 : Kd.C (Kd.int .i64) w A0_3 l0_3.length l0_3) (hc0_3 : l0_3.length ≤ c0_3) (h : laws_heldYoung.f k a0_0 l0_1 l0_2 l0_3 a1 = some r) :
  Calls Try.prog 21 #[.agg #[.int .i64 a0_0, .slice A0_1 l0_1.length c0_1, .slice A0_2 l0_2.length c0_2, .slice A0_3 l0_3.length c0_3], .int .i64 a1] w fun e w' => e = .returned (.int .i64 r) ∧ Below w.heap.size w w' := by
 have hu30 := Try.underlying30
 have HR0_1 := Aside0.mk hr0_1
 have HC0_1 := Aside0.mk hc0_1
 clear hr0_1 hc0_1
 have HR0_2 := Aside0.mk hr0_2
 have HC0_2 := Aside0.mk hc0_2
 clear hr0_2 hc0_2
 have HR0_3 := Aside0.mk hr0_3
 have HC0_3 := Aside0.mk hc0_3
 clear hr0_3 hc0_3
 have HB := Aside0.mk (Below.refl w.heap.size w)
 have H : ((laws_heldCellS.f k l0_1 a1).bind fun t471 => (if t471 < 0 then (some (-1)) else ((laws_heldIntS.f k l0_2 t471).bind fun t472 => (if t472 < 0 then (some (-1)) else ((laws_heldIntS.f k l0_3 t472).bind fun t473 => (if t473 < 0 then (some (-1)) else (some t473))))))) = some r := h
 clear h
 replace H := Option.bind_eq_some_iff.mp H
 obtain ⟨t471, A30, H⟩ := H
 replace H : (if t471 < 0 then (some (-1)) else ((laws_heldIntS.f k l0_2 t471).bind fun t472 => (if t472 < 0 then (some (-1)) else ((laws_heldIntS.f k l0_3 t472).bind fun t473 => (if t473 < 0 then (some (-1)) else (some t473)))))) = some r := H
 have A3 := Aside0.mk A30
 clear A30
 by_cases c4 : t471 < 0
 ·rw [if_pos c4] at H
  have c4b0 : decide (t471 < 0) = true := decide_eq_true c4
  clear c4
  obtain rfl := Option.some.inj H
  go_enter Try.func21, Try.ntmps21
  go_wp2_with (first | ((with_reducible refine gate_dst (N := 2) rfl ?_); refine box_event ?hg (N := 2) ?hd (cs := #[.int .i64 a0_0, .slice A0_1 l0_1.length c0_1, .slice A0_2 l0_2.length c0_2, .slice A0_3 l0_3.length c0_3]) (t := 30) ?hr ?_; (case hd => rfl); (case hg => rfl); (case hr => first | (go_simp; done) | (go_simp; rfl)); intro gb470 hg w5 hbox hb; have n0_ := Aside0.mk (below_step pb_ hb); have n1_ := Aside0.mk (hbox); have n2_ := Aside0.mk ((by rw [hg]; exact (below_size pb_) : w.heap.size ≤ gb470)); have n3_ := Aside0.mk ((by rw [hg]; exact (below_size pb_) : w.heap.size ≤ gb470)); clear HB; have HB := n0_; have BK470 := n1_; have GW470 := n2_; have GE470 := n3_; clear n0_ n1_ n2_ n3_; clear hb hbox hg; have hcz6_0 := bc0 BK470.out; have hcz6_1 := bc1 BK470.out; have hcz6_2 := bc2 BK470.out; have hcz6_3 := bc3 BK470.out; have hfz6_0 := blk_frozen BK470.out 0; have hfz6_1 := blk_frozen BK470.out 1; have hfz6_2 := blk_frozen BK470.out 2; have hfz6_3 := blk_frozen BK470.out 3) | ((with_reducible refine gate_callee (f := 45) rfl ?_); refine goesL_ (some 8) rfl rfl Try.func45 (by kernel_rfl) rfl #[.slice A0_1 l0_1.length c0_1, .int .i64 a1] rfl (by (try simp only [List.map_toArray, List.map_cons, List.map_nil]); first | done | rfl | (simp only [List.length_drop, List.length_take]; rfl)) ?_; (with_reducible refine (laws_heldCellS.calls k _ _ l0_1 a1 t471 _ ?side1 ?side2 A3.out).mono ?_); (case side1 => exact pc_ (Kd.C_below HR0_1.out HB.out)); (case side2 => exact HC0_1.out); rintro e w' ⟨rfl, ⟨nd, rfl⟩⟩; refine ⟨_, rfl, ?_⟩))
  go_ret
  exact ⟨by first | rfl | (simp [errW_none, errW_some] <;> rfl) | (simp [*, errW_none, errW_some] <;> rfl), pb_⟩
 ·rw [if_neg c4] at H
  have c4b0 : decide (t471 < 0) = false := decide_eq_false c4
  clear c4
  replace H := Option.bind_eq_some_iff.mp H
  obtain ⟨t472, A70, H⟩ := H
  replace H : (if t472 < 0 then (some (-1)) else ((laws_heldIntS.f k l0_3 t472).bind fun t473 => (if t473 < 0 then (some (-1)) else (some t473)))) = some r := H
  have A7 := Aside0.mk A70
  clear A70
  by_cases c8 : t472 < 0
  ·rw [if_pos c8] at H
   have c8b0 : decide (t472 < 0) = true := decide_eq_true c8
   clear c8
   obtain rfl := Option.some.inj H
   go_enter Try.func21, Try.ntmps21
   go_wp2_with (first | ((with_reducible refine gate_dst (N := 2) rfl ?_); refine box_event ?hg (N := 2) ?hd (cs := #[.int .i64 a0_0, .slice A0_1 l0_1.length c0_1, .slice A0_2 l0_2.length c0_2, .slice A0_3 l0_3.length c0_3]) (t := 30) ?hr ?_; (case hd => rfl); (case hg => rfl); (case hr => first | (go_simp; done) | (go_simp; rfl)); intro gb470 hg w9 hbox hb; have n0_ := Aside0.mk (below_step pb_ hb); have n1_ := Aside0.mk (hbox); have n2_ := Aside0.mk ((by rw [hg]; exact (below_size pb_) : w.heap.size ≤ gb470)); have n3_ := Aside0.mk ((by rw [hg]; exact (below_size pb_) : w.heap.size ≤ gb470)); clear HB; have HB := n0_; have BK470 := n1_; have GW470 := n2_; have GE470 := n3_; clear n0_ n1_ n2_ n3_; clear hb hbox hg; have hcz10_0 := bc0 BK470.out; have hcz10_1 := bc1 BK470.out; have hcz10_2 := bc2 BK470.out; have hcz10_3 := bc3 BK470.out; have hfz10_0 := blk_frozen BK470.out 0; have hfz10_1 := blk_frozen BK470.out 1; have hfz10_2 := blk_frozen BK470.out 2; have hfz10_3 := blk_frozen BK470.out 3) | ((with_reducible refine gate_callee (f := 45) rfl ?_); refine goesL_ (some 8) rfl rfl Try.func45 (by kernel_rfl) rfl #[.slice A0_1 l0_1.length c0_1, .int .i64 a1] rfl (by (try simp only [List.map_toArray, List.map_cons, List.map_nil]); first | done | rfl | (simp only [List.length_drop, List.length_take]; rfl)) ?_; (with_reducible refine (laws_heldCellS.calls k _ _ l0_1 a1 t471 _ ?side1 ?side2 A3.out).mono ?_); (case side1 => exact pc_ (Kd.C_below HR0_1.out HB.out)); (case side2 => exact HC0_1.out); rintro e w' ⟨rfl, ⟨nd, rfl⟩⟩; refine ⟨_, rfl, ?_⟩) | ((with_reducible refine gate_callee (f := 18) rfl ?_); refine goesL_ (some 14) rfl rfl Try.func18 (by kernel_rfl) rfl #[.slice A0_2 l0_2.length c0_2, .int .i64 t471] rfl (by (try simp only [List.map_toArray, List.map_cons, List.map_nil]); first | done | rfl | (simp only [List.length_drop, List.length_take]; rfl)) ?_; (with_reducible refine (laws_heldIntS.calls k _ _ l0_2 t471 t472 _ ?side1 ?side2 A7.out).mono ?_); (case side1 => exact pc_ (Kd.C_below HR0_2.out pb_)); (case side2 => exact HC0_2.out); rintro e w' ⟨rfl, ⟨nd, rfl⟩⟩; refine ⟨_, rfl, ?_⟩))
   go_ret
   exact ⟨by first | rfl | (simp [errW_none, errW_some] <;> rfl) | (simp [*, errW_none, errW_some] <;> rfl), pb_⟩
  ·rw [if_neg c8] at H
   have c8b0 : decide (t472 < 0) = false := decide_eq_false c8
   clear c8
   replace H := Option.bind_eq_some_iff.mp H
   obtain ⟨t473, A110, H⟩ := H
   replace H : (if t473 < 0 then (some (-1)) else (some t473)) = some r := H
   have A11 := Aside0.mk A110
   clear A110
   by_cases c12 : t473 < 0
   ·rw [if_pos c12] at H
    have c12b0 : decide (t473 < 0) = true := decide_eq_true c12
    clear c12
    obtain rfl := Option.some.inj H
    go_enter Try.func21, Try.ntmps21
    go_wp2_with (first | ((with_reducible refine gate_dst (N := 2) rfl ?_); refine box_event ?hg (N := 2) ?hd (cs := #[.int .i64 a0_0, .slice A0_1 l0_1.length c0_1, .slice A0_2 l0_2.length c0_2, .slice A0_3 l0_3.length c0_3]) (t := 30) ?hr ?_; (case hd => rfl); (case hg => rfl); (case hr => first | (go_simp; done) | (go_simp; rfl)); intro gb470 hg w13 hbox hb; have n0_ := Aside0.mk (below_step pb_ hb); have n1_ := Aside0.mk (hbox); have n2_ := Aside0.mk ((by rw [hg]; exact (below_size pb_) : w.heap.size ≤ gb470)); have n3_ := Aside0.mk ((by rw [hg]; exact (below_size pb_) : w.heap.size ≤ gb470)); clear HB; have HB := n0_; have BK470 := n1_; have GW470 := n2_; have GE470 := n3_; clear n0_ n1_ n2_ n3_; clear hb hbox hg; have hcz14_0 := bc0 BK470.out; have hcz14_1 := bc1 BK470.out; have hcz14_2 := bc2 BK470.out; have hcz14_3 := bc3 BK470.out; have hfz14_0 := blk_frozen BK470.out 0; have hfz14_1 := blk_frozen BK470.out 1; have hfz14_2 := blk_frozen BK470.out 2; have hfz14_3 := blk_frozen BK470.out 3) | ((with_reducible refine gate_callee (f := 45) rfl ?_); refine goesL_ (some 8) rfl rfl Try.func45 (by kernel_rfl) rfl #[.slice A0_1 l0_1.length c0_1, .int .i64 a1] rfl (by (try simp only [List.map_toArray, List.map_cons, List.map_nil]); first | done | rfl | (simp only [List.length_drop, List.length_take]; rfl)) ?_; (with_reducible refine (laws_heldCellS.calls k _ _ l0_1 a1 t471 _ ?side1 ?side2 A3.out).mono ?_); (case side1 => exact pc_ (Kd.C_below HR0_1.out HB.out)); (case side2 => exact HC0_1.out); rintro e w' ⟨rfl, ⟨nd, rfl⟩⟩; refine ⟨_, rfl, ?_⟩) | ((with_reducible refine gate_callee (f := 18) rfl ?_); refine goesL_ (some 14) rfl rfl Try.func18 (by kernel_rfl) rfl #[.slice A0_2 l0_2.length c0_2, .int .i64 t471] rfl (by (try simp only [List.map_toArray, List.map_cons, List.map_nil]); first | done | rfl | (simp only [List.length_drop, List.length_take]; rfl)) ?_; (with_reducible refine (laws_heldIntS.calls k _ _ l0_2 t471 t472 _ ?side1 ?side2 A7.out).mono ?_); (case side1 => exact pc_ (Kd.C_below HR0_2.out pb_)); (case side2 => exact HC0_2.out); rintro e w' ⟨rfl, ⟨nd, rfl⟩⟩; refine ⟨_, rfl, ?_⟩) | ((with_reducible refine gate_callee (f := 18) rfl ?_); refine goesL_ (some 20) rfl rfl Try.func18 (by kernel_rfl) rfl #[.slice A0_3 l0_3.length c0_3, .int .i64 t472] rfl (by (try simp only [List.map_toArray, List.map_cons, List.map_nil]); first | done | rfl | (simp only [List.length_drop, List.length_take]; rfl)) ?_; (with_reducible refine (laws_heldIntS.calls k _ _ l0_3 t472 t473 _ ?side1 ?side2 A11.out).mono ?_); (case side1 => exact pc_ (Kd.C_below HR0_3.out pb_)); (case side2 => exact HC0_3.out); rintro e w' ⟨rfl, ⟨nd, rfl⟩⟩; refine ⟨_, rfl, ?_⟩))
    go_ret
    exact ⟨by first | rfl | (simp [errW_none, errW_some] <;> rfl) | (simp [*, errW_none, errW_some] <;> rfl), pb_⟩
   ·rw [if_neg c12] at H
    have c12b0 : decide (t473 < 0) = false := decide_eq_false c12
    clear c12
    obtain rfl := Option.some.inj H
    go_enter Try.func21, Try.ntmps21
    go_wp2_with (first | ((with_reducible refine gate_dst (N := 2) rfl ?_); refine box_event ?hg (N := 2) ?hd (cs := #[.int .i64 a0_0, .slice A0_1 l0_1.length c0_1, .slice A0_2 l0_2.length c0_2, .slice A0_3 l0_3.length c0_3]) (t := 30) ?hr ?_; (case hd => rfl); (case hg => rfl); (case hr => first | (go_simp; done) | (go_simp; rfl)); intro gb470 hg w15 hbox hb; have n0_ := Aside0.mk (below_step pb_ hb); have n1_ := Aside0.mk (hbox); have n2_ := Aside0.mk ((by rw [hg]; exact (below_size pb_) : w.heap.size ≤ gb470)); have n3_ := Aside0.mk ((by rw [hg]; exact (below_size pb_) : w.heap.size ≤ gb470)); clear HB; have HB := n0_; have BK470 := n1_; have GW470 := n2_; have GE470 := n3_; clear n0_ n1_ n2_ n3_; clear hb hbox hg; have hcz16_0 := bc0 BK470.out; have hcz16_1 := bc1 BK470.out; have hcz16_2 := bc2 BK470.out; have hcz16_3 := bc3 BK470.out; have hfz16_0 := blk_frozen BK470.out 0; have hfz16_1 := blk_frozen BK470.out 1; have hfz16_2 := blk_frozen BK470.out 2; have hfz16_3 := blk_frozen BK470.out 3) | ((with_reducible refine gate_callee (f := 45) rfl ?_); refine goesL_ (some 8) rfl rfl Try.func45 (by kernel_rfl) rfl #[.slice A0_1 l0_1.length c0_1, .int .i64 a1] rfl (by (try simp only [List.map_toArray, List.map_cons, List.map_nil]); first | done | rfl | (simp only [List.length_drop, List.length_take]; rfl)) ?_; (with_reducible refine (laws_heldCellS.calls k _ _ l0_1 a1 t471 _ ?side1 ?side2 A3.out).mono ?_); (case side1 => exact pc_ (Kd.C_below HR0_1.out HB.out)); (case side2 => exact HC0_1.out); rintro e w' ⟨rfl, ⟨nd, rfl⟩⟩; refine ⟨_, rfl, ?_⟩) | ((with_reducible refine gate_callee (f := 18) rfl ?_); refine goesL_ (some 14) rfl rfl Try.func18 (by kernel_rfl) rfl #[.slice A0_2 l0_2.length c0_2, .int .i64 t471] rfl (by (try simp only [List.map_toArray, List.map_cons, List.map_nil]); first | done | rfl | (simp only [List.length_drop, List.length_take]; rfl)) ?_; (with_reducible refine (laws_heldIntS.calls k _ _ l0_2 t471 t472 _ ?side1 ?side2 A7.out).mono ?_); (case side1 => exact pc_ (Kd.C_below HR0_2.out pb_)); (case side2 => exact HC0_2.out); rintro e w' ⟨rfl, ⟨nd, rfl⟩⟩; refine ⟨_, rfl, ?_⟩) | ((with_reducible refine gate_callee (f := 18) rfl ?_); refine goesL_ (some 20) rfl rfl Try.func18 (by kernel_rfl) rfl #[.slice A0_3 l0_3.length c0_3, .int .i64 t472] rfl (by (try simp only [List.map_toArray, List.map_cons, List.map_nil]); first | done | rfl | (simp only [List.length_drop, List.length_take]; rfl)) ?_; (with_reducible refine (laws_heldIntS.calls k _ _ l0_3 t472 t473 _ ?side1 ?side2 A11.out).mono ?_); (case side1 => exact pc_ (Kd.C_below HR0_3.out pb_)); (case side2 => exact HC0_3.out); rintro e w' ⟨rfl, ⟨nd, rfl⟩⟩; refine ⟨_, rfl, ?_⟩))
    go_ret
    exact ⟨by first | rfl | (simp [errW_none, errW_some] <;> rfl) | (simp [*, errW_none, errW_some] <;> rfl), pb_⟩
mutual
def spec_lhMark.j0 : Nat → List Bool → Bool → Bool → Int → List (S46) → List Int → List Int → Bool → Int → Int → Int → Option (List Bool)
 | 0, _, _, _, _, _, _, _, _, _, _, _ => none
 | k + 1, x2, x3, x31, x214000, x214001, x214002, x214003, x218000, x218001, x218002, x218003 => if x31 = true then (some x2) else ((spec_lhMark.f k x214000 x214001 x214002 x214003 x218002 x2 x3).bind fun t218 => ((spec_lhMark.f k x214000 x214001 x214002 x214003 x218003 t218 x3).bind fun t219 => (some t219)))
def spec_lhMark.f : Nat → Int → List (S46) → List Int → List Int → Int → List Bool → Bool → Option (List Bool)
 | 0, _, _, _, _, _, _, _ => none
 | k + 1, a0_0, l0_1, l0_2, l0_3, a1, l2, a3 => if 0 ≤ a1 then (if a1 < (l2.length : Int) then (if rdOf false l2 a1 = true then (some l2) else ((some (l2.set (a1 : Int).toNat true : List Bool)).bind fun y215 => (if a1 < (l0_1.length : Int) then (if (rd_T46 l0_1 a1).f0 = true then (spec_lhMark.j0 k y215 a3 true a0_0 l0_1 l0_2 l0_3 ((rd_T46 l0_1 a1).f0) ((rd_T46 l0_1 a1).f1) ((rd_T46 l0_1 a1).f2) ((rd_T46 l0_1 a1).f3)) else (if a3 = true then (spec_lhMark.j0 k y215 a3 (decide (a1 < a0_0)) a0_0 l0_1 l0_2 l0_3 ((rd_T46 l0_1 a1).f0) ((rd_T46 l0_1 a1).f1) ((rd_T46 l0_1 a1).f2) ((rd_T46 l0_1 a1).f3)) else (spec_lhMark.j0 k y215 a3 false a0_0 l0_1 l0_2 l0_3 ((rd_T46 l0_1 a1).f0) ((rd_T46 l0_1 a1).f1) ((rd_T46 l0_1 a1).f2) ((rd_T46 l0_1 a1).f3)))) else (none)))) else (none)) else (none)
end
theorem spec_lhMark.mono_l : ∀ k, (∀ y0 y1 y2 y3 y4 y5 y6, LeO (spec_lhMark.f k y0 y1 y2 y3 y4 y5 y6) (spec_lhMark.f (k + 1) y0 y1 y2 y3 y4 y5 y6)) ∧ (∀ y0 y1 y2 y3 y4 y5 y6 y7 y8 y9 y10, LeO (spec_lhMark.j0 k y0 y1 y2 y3 y4 y5 y6 y7 y8 y9 y10) (spec_lhMark.j0 (k + 1) y0 y1 y2 y3 y4 y5 y6 y7 y8 y9 y10))
 | 0 => ⟨fun _ _ _ _ _ _ _ r h => by simp [spec_lhMark.f] at h, fun _ _ _ _ _ _ _ _ _ _ _ r h => by simp [spec_lhMark.j0] at h⟩
 | k + 1 => by
  obtain ⟨ih0, ih1⟩ := spec_lhMark.mono_l k
  refine ⟨?_, ?_⟩
  ·intro y0 y1 y2 y3 y4 y5 y6
   unfold spec_lhMark.f
   repeat' first
   | (with_reducible exact ih0 _ _ _ _ _ _ _)
   | (with_reducible exact ih1 _ _ _ _ _ _ _ _ _ _ _)
   | (with_reducible exact LeO.refl _)
   | (with_reducible exact LeO.none _)
   | (with_reducible refine LeO.ite ?_ ?_)
   | (with_reducible refine LeO.bind ?_ (fun _ => ?_))
   | exact ih0 _ _ _ _ _ _ _
   | exact ih1 _ _ _ _ _ _ _ _ _ _ _
   | exact LeO.none _
   | refine LeO.ite ?_ ?_
   | refine LeO.bind ?_ (fun _ => ?_)
  ·intro y0 y1 y2 y3 y4 y5 y6 y7 y8 y9 y10
   unfold spec_lhMark.j0
   repeat' first
   | (with_reducible exact ih0 _ _ _ _ _ _ _)
   | (with_reducible exact ih1 _ _ _ _ _ _ _ _ _ _ _)
   | (with_reducible exact LeO.refl _)
   | (with_reducible exact LeO.none _)
   | (with_reducible refine LeO.ite ?_ ?_)
   | (with_reducible refine LeO.bind ?_ (fun _ => ?_))
   | exact ih0 _ _ _ _ _ _ _
   | exact ih1 _ _ _ _ _ _ _ _ _ _ _
   | exact LeO.none _
   | refine LeO.ite ?_ ?_
   | refine LeO.bind ?_ (fun _ => ?_)
theorem spec_lhMark.mono : ∀ a0 a1 a2 a3 a4 a5 a6 k, LeO (spec_lhMark.f k a0 a1 a2 a3 a4 a5 a6) (spec_lhMark.f (k + 1) a0 a1 a2 a3 a4 a5 a6) := by
 intro a0 a1 a2 a3 a4 a5 a6 k
 obtain ⟨ih0, ih1⟩ := spec_lhMark.mono_l k
 exact ih0 a0 a1 a2 a3 a4 a5 a6
set_option maxHeartbeats 8000000 in
set_option maxRecDepth 100000 in
theorem spec_lhMark.calls (k : Nat) : ∀ (a0_0 : Int) (A0_1 : Option Addr) (c0_1 : Nat) (l0_1 : List (S46)) (A0_2 : Option Addr) (c0_2 : Nat) (l0_2 : List Int) (A0_3 : Option Addr) (c0_3 : Nat) (l0_3 : List Int) (a1 : Int) (P2_ : Nat → Prop) (u9000_ : Value) (l2 : List Bool) (a3 : Bool) (r : List Bool) (w0 w : World) (hB : Below w0.heap.size w0 w) (hr0_1 : ∀ W_, Kept w W_ (fun k_ => P2_ k_) → Kd.C k46 W_ A0_1 l0_1.length l0_1) (hc0_1 : l0_1.length ≤ c0_1) (hr0_2 : ∀ W_, Kept w W_ (fun k_ => P2_ k_) → Kd.C (Kd.int .i64) W_ A0_2 l0_2.length l0_2) (hc0_2 : l0_2.length ≤ c0_2) (hr0_3 : ∀ W_, Kept w W_ (fun k_ => P2_ k_) → Kd.C (Kd.int .i64) W_ A0_3 l0_3.length l0_3) (hc0_3 : l0_3.length ≤ c0_3) (ho2 : Kd.R Kd.bool 4 w w0.heap.size P2_ u9000_ l2) (h : spec_lhMark.f k a0_0 l0_1 l0_2 l0_3 a1 l2 a3 = some r),
  Calls Try.prog 56 #[.agg #[.int .i64 a0_0, .slice A0_1 l0_1.length c0_1, .slice A0_2 l0_2.length c0_2, .slice A0_3 l0_3.length c0_3], .int .i64 a1, u9000_, .bool a3] w fun e w' => e = .returned (.tuple #[]) ∧ Kd.R Kd.bool 4 w' w0.heap.size (fun k_ => (P2_ k_ ∨ w.heap.size ≤ k_)) u9000_ r ∧ Below w0.heap.size w0 w' ∧ Kept w w' (fun k_ => P2_ k_) := by
 induction k using Nat.strongRecOn with
 | _ k ih =>
 intro a0_0 A0_1 c0_1 l0_1 A0_2 c0_2 l0_2 A0_3 c0_3 l0_3 a1 P2_ u9000_ l2 a3 r w0 w hB hr0_1 hc0_1 hr0_2 hc0_2 hr0_3 hc0_3 ho2 h
 cases k with
 | zero => exact absurd h (by simp [spec_lhMark.f])
 | succ k =>
 simp only [spec_lhMark.f] at h
 have hu30 := Try.underlying30
 have hu46 := Try.underlying46
 have HR0_1 := Aside0.mk hr0_1
 have HC0_1 := Aside0.mk hc0_1
 clear hr0_1 hc0_1
 have HR0_2 := Aside0.mk hr0_2
 have HC0_2 := Aside0.mk hc0_2
 clear hr0_2 hc0_2
 have HR0_3 := Aside0.mk hr0_3
 have HC0_3 := Aside0.mk hc0_3
 clear hr0_3 hc0_3
 have HO2 := Aside0.mk (show Kd.R Kd.bool 4 w w0.heap.size (fun k_ => (P2_ k_ ∨ w.heap.size ≤ k_)) u9000_ l2 from Kd.R_mono ho2 (fun k_ hk => (.inl hk)))
 have HK := Aside0.mk (Kept.refl w (fun k_ => P2_ k_))
 have HW0 := Aside0.mk hB.size
 have HB := Aside0.mk hB
 clear hB
 have H : (if 0 ≤ a1 then (if a1 < (l2.length : Int) then (if rdOf false l2 a1 = true then (some l2) else ((some (l2.set (a1 : Int).toNat true : List Bool)).bind fun y215 => (if a1 < (l0_1.length : Int) then (if (rd_T46 l0_1 a1).f0 = true then (spec_lhMark.j0 k y215 a3 true a0_0 l0_1 l0_2 l0_3 ((rd_T46 l0_1 a1).f0) ((rd_T46 l0_1 a1).f1) ((rd_T46 l0_1 a1).f2) ((rd_T46 l0_1 a1).f3)) else (if a3 = true then (spec_lhMark.j0 k y215 a3 (decide (a1 < a0_0)) a0_0 l0_1 l0_2 l0_3 ((rd_T46 l0_1 a1).f0) ((rd_T46 l0_1 a1).f1) ((rd_T46 l0_1 a1).f2) ((rd_T46 l0_1 a1).f3)) else (spec_lhMark.j0 k y215 a3 false a0_0 l0_1 l0_2 l0_3 ((rd_T46 l0_1 a1).f0) ((rd_T46 l0_1 a1).f1) ((rd_T46 l0_1 a1).f2) ((rd_T46 l0_1 a1).f3)))) else (none)))) else (none)) else (none)) = some r := h
 clear h
 by_cases c5 : 0 ≤ a1
 ·rw [if_pos c5] at H
  have c5b0 : decide (0 ≤ a1) = true := decide_eq_true c5
  clear c5
  by_cases c6 : a1 < (l2.length : Int)
  ·rw [if_pos c6] at H
   have c6b0 : decide (a1 < (l2.length : Int)) = true := decide_eq_true c6
   clear c6
   obtain ⟨bq7, hbq7⟩ : ∃ b_ : Bool, b_ = (rdOf false l2 a1) := ⟨_, rfl⟩
   replace H : (if bq7 = true then (some l2) else ((some (l2.set (a1 : Int).toNat true : List Bool)).bind fun y215 => (if a1 < (l0_1.length : Int) then (if (rd_T46 l0_1 a1).f0 = true then (spec_lhMark.j0 k y215 a3 true a0_0 l0_1 l0_2 l0_3 ((rd_T46 l0_1 a1).f0) ((rd_T46 l0_1 a1).f1) ((rd_T46 l0_1 a1).f2) ((rd_T46 l0_1 a1).f3)) else (if a3 = true then (spec_lhMark.j0 k y215 a3 (decide (a1 < a0_0)) a0_0 l0_1 l0_2 l0_3 ((rd_T46 l0_1 a1).f0) ((rd_T46 l0_1 a1).f1) ((rd_T46 l0_1 a1).f2) ((rd_T46 l0_1 a1).f3)) else (spec_lhMark.j0 k y215 a3 false a0_0 l0_1 l0_2 l0_3 ((rd_T46 l0_1 a1).f0) ((rd_T46 l0_1 a1).f1) ((rd_T46 l0_1 a1).f2) ((rd_T46 l0_1 a1).f3)))) else (none)))) = some r := by rw [← hbq7] at H; exact H
   have Nbq7 := Aside0.mk hbq7
   clear hbq7
   by_cases c8 : bq7 = true
   ·subst c8
    have H1 : (some l2) = some r := by rw [if_pos rfl] at H; exact H
    clear H
    have H := H1
    clear H1
    obtain rfl := Option.some.inj H
    go_enter Try.func56, Try.ntmps56
    go_wp2_with (first | ((with_reducible refine gate_dst (N := 4) rfl ?_); refine box_event ?hg (N := 4) ?hd (cs := #[.int .i64 a0_0, .slice A0_1 l0_1.length c0_1, .slice A0_2 l0_2.length c0_2, .slice A0_3 l0_3.length c0_3]) (t := 30) ?hr ?_; (case hd => rfl); (case hg => rfl); (case hr => first | (go_simp; done) | (go_simp; rfl)); intro gb213 hg w9 hbox hb; have n0_ := Aside0.mk (Kd.R_below (pr_ HO2.out) hb); have n1_ := Aside0.mk (Kept.below (S := (fun k_ => P2_ k_)) (by repeat (first | (with_reducible first | exact HK.out | apply Kept.alloc | apply Kept.drewN | apply Kept.drew) | exact HK.out)) hb); have n2_ := Aside0.mk (below_step pb_ hb); have n3_ := Aside0.mk (hbox); have n4_ := Aside0.mk ((by rw [hg]; exact (by first | exact HK.out.1 | exact (show Kept w _ (fun k_ => P2_ k_) from by repeat (first | (with_reducible first | exact HK.out | apply Kept.alloc | apply Kept.drewN | apply Kept.drew) | exact HK.out)).1) : w.heap.size ≤ gb213)); have n5_ := Aside0.mk ((by rw [hg]; exact (below_size pb_) : w0.heap.size ≤ gb213)); clear HO2; clear HK; clear HB; have HO2 := n0_; have HK := n1_; have HB := n2_; have BK213 := n3_; have GW213 := n4_; have GE213 := n5_; clear n0_ n1_ n2_ n3_ n4_ n5_; clear hb hbox hg; obtain ⟨Ao10, co10, eo10⟩ := Kd.R_slice HO2.out; subst eo10; have p214 : 0 ≤ (a1 : Int) := of_decide_eq_true (by first | (with_reducible assumption) | assumption); have q214 : a1 < (l2.length : Int) := of_decide_eq_true (by first | (with_reducible assumption) | assumption); obtain ⟨ad214, e214, hx214_0⟩ := Kd.at_bool (Kd.R_reads' HO2.out).2.2 a1 p214 q214; (try rw [← Nbq7.out] at hx214_0); cases e214; replace p214 := eq_true p214; replace q214 := eq_true q214))
    first | go_end0 | ((try simp only [Exit.inBlock, Exit.then]); refine bodyPost_ret (results_none rfl _ _ _) rfl ?_)
    exact ⟨by first | rfl | (simp [errW_none, errW_some] <;> rfl) | (simp [*, errW_none, errW_some] <;> rfl), by (with_reducible repeat (first | apply Kd.R_alloc | apply Kd.R_drewN | apply Kd.R_drew)); exact HO2.out, pb_, by repeat (first | (with_reducible first | exact HK.out | apply Kept.alloc | apply Kept.drewN | apply Kept.drew | refine Kept.setCell ?_ (.inr GW213.out) _) | exact HK.out)⟩
   ·replace c8 := Bool.eq_false_iff.mpr c8
    subst c8
    have H1 : ((some (l2.set (a1 : Int).toNat true : List Bool)).bind fun y215 => (if a1 < (l0_1.length : Int) then (if (rd_T46 l0_1 a1).f0 = true then (spec_lhMark.j0 k y215 a3 true a0_0 l0_1 l0_2 l0_3 ((rd_T46 l0_1 a1).f0) ((rd_T46 l0_1 a1).f1) ((rd_T46 l0_1 a1).f2) ((rd_T46 l0_1 a1).f3)) else (if a3 = true then (spec_lhMark.j0 k y215 a3 (decide (a1 < a0_0)) a0_0 l0_1 l0_2 l0_3 ((rd_T46 l0_1 a1).f0) ((rd_T46 l0_1 a1).f1) ((rd_T46 l0_1 a1).f2) ((rd_T46 l0_1 a1).f3)) else (spec_lhMark.j0 k y215 a3 false a0_0 l0_1 l0_2 l0_3 ((rd_T46 l0_1 a1).f0) ((rd_T46 l0_1 a1).f1) ((rd_T46 l0_1 a1).f2) ((rd_T46 l0_1 a1).f3)))) else (none))) = some r := by rw [if_neg (show ¬ (false = true) by decide)] at H; exact H
    clear H
    have H := H1
    clear H1
    obtain ⟨y215, hy215⟩ : ∃ y_ : List Bool, y_ = (l2.set (a1 : Int).toNat true) := ⟨_, rfl⟩
    replace H : (if a1 < (l0_1.length : Int) then (if (rd_T46 l0_1 a1).f0 = true then (spec_lhMark.j0 k y215 a3 true a0_0 l0_1 l0_2 l0_3 ((rd_T46 l0_1 a1).f0) ((rd_T46 l0_1 a1).f1) ((rd_T46 l0_1 a1).f2) ((rd_T46 l0_1 a1).f3)) else (if a3 = true then (spec_lhMark.j0 k y215 a3 (decide (a1 < a0_0)) a0_0 l0_1 l0_2 l0_3 ((rd_T46 l0_1 a1).f0) ((rd_T46 l0_1 a1).f1) ((rd_T46 l0_1 a1).f2) ((rd_T46 l0_1 a1).f3)) else (spec_lhMark.j0 k y215 a3 false a0_0 l0_1 l0_2 l0_3 ((rd_T46 l0_1 a1).f0) ((rd_T46 l0_1 a1).f1) ((rd_T46 l0_1 a1).f2) ((rd_T46 l0_1 a1).f3)))) else (none)) = some r := by first | (rw [hy215]; with_reducible exact H) | (have H2_ := (Option.bind_some _ _).symm.trans H; rw [hy215]; with_reducible exact H2_) | (have H2_ := (Option.bind_some _ _).symm.trans H; with_reducible exact H2_) | with_reducible exact H | (rw [hy215]; exact H) | exact H
    have Ny215 := Aside0.mk hy215
    clear hy215
    by_cases c12 : a1 < (l0_1.length : Int)
    ·rw [if_pos c12] at H
     have c12b0 : decide (a1 < (l0_1.length : Int)) = true := decide_eq_true c12
     clear c12
     have HC13 := Aside0.mk H
     clear H
     go_enter Try.func56, Try.ntmps56
     go_upto_region 4 with (first | ((with_reducible refine gate_dst (N := 4) rfl ?_); refine box_event ?hg (N := 4) ?hd (cs := #[.int .i64 a0_0, .slice A0_1 l0_1.length c0_1, .slice A0_2 l0_2.length c0_2, .slice A0_3 l0_3.length c0_3]) (t := 30) ?hr ?_; (case hd => rfl); (case hg => rfl); (case hr => first | (go_simp; done) | (go_simp; rfl)); intro gb213 hg w14 hbox hb; have n0_ := Aside0.mk (Kd.R_below (pr_ HO2.out) hb); have n1_ := Aside0.mk (Kept.below (S := (fun k_ => P2_ k_)) (by repeat (first | (with_reducible first | exact HK.out | apply Kept.alloc | apply Kept.drewN | apply Kept.drew) | exact HK.out)) hb); have n2_ := Aside0.mk (below_step pb_ hb); have n3_ := Aside0.mk (hbox); have n4_ := Aside0.mk ((by rw [hg]; exact (by first | exact HK.out.1 | exact (show Kept w _ (fun k_ => P2_ k_) from by repeat (first | (with_reducible first | exact HK.out | apply Kept.alloc | apply Kept.drewN | apply Kept.drew) | exact HK.out)).1) : w.heap.size ≤ gb213)); have n5_ := Aside0.mk ((by rw [hg]; exact (below_size pb_) : w0.heap.size ≤ gb213)); clear HO2; clear HK; clear HB; have HO2 := n0_; have HK := n1_; have HB := n2_; have BK213 := n3_; have GW213 := n4_; have GE213 := n5_; clear n0_ n1_ n2_ n3_ n4_ n5_; clear hb hbox hg; obtain ⟨Ao15, co15, eo15⟩ := Kd.R_slice HO2.out; subst eo15; have p214 : 0 ≤ (a1 : Int) := of_decide_eq_true (by first | (with_reducible assumption) | assumption); have q214 : a1 < (l2.length : Int) := of_decide_eq_true (by first | (with_reducible assumption) | assumption); obtain ⟨ad214, e214, hx214_0⟩ := Kd.at_bool (Kd.R_reads' HO2.out).2.2 a1 p214 q214; (try rw [← Nbq7.out] at hx214_0); cases e214; replace p214 := eq_true p214; replace q214 := eq_true q214; have p11 : 0 ≤ (a1 : Int) := of_decide_eq_true (by first | (with_reducible assumption) | assumption); have q11 : (a1 : Int) < ((l2.length : Int) : Int) := of_decide_eq_true (by first | (with_reducible assumption) | assumption); obtain ⟨go11, co11, eo11, gb11, gl11, cl11, HG11⟩ := Kd.R_form HO2.out (by omega); (first | cases eo11 | (injection eo11 with ea_ en_ ec_; (first | subst ea_ | (injection ea_ with ea_; subst ea_)); subst ec_; clear en_)); have GB11 := Aside0.mk gb11; have GG11 := Aside0.mk HG11; clear gb11 gl11 HG11; have HMgo11 := Aside0.mk (show (P2_ go11 ∨ w.heap.size ≤ go11) from (HO2.out.1 _ rfl)); (first | simp only [add_plain] at hx214_0 | skip); obtain ⟨hx11_0, hf11_0⟩ := Kd.R_celln false HO2.out (a1 : Int) p11 q11; replace p11 := eq_true p11; replace q11 := eq_true q11; obtain ⟨hy16_, hz16_⟩ := Kd.R_celln false HO2.out (a1 : Int) (of_decide_eq_true (by first | (with_reducible assumption) | assumption)) (of_decide_eq_true (by first | (with_reducible assumption) | assumption)); have HP16 := Kd.R_putg HO2.out (a1 : Int) true) | ((with_reducible refine gate_store (t := 4) (p := 15) rfl ?_); refine store_event (t := 4) (p := 15) (v := ?vo_w17) (w1 := (w14.setCell ⟨go11, (a1 : Int).toNat, none⟩ (.bool true))) ?hg ?ho ?hn ?hr ?_; (case ho => rfl); (case hg => rfl); (case hn => rfl); (case hr => first | (go_simp; done) | (go_simp; rfl)); intro w17 hw; have hg : w14.grownBy w17 (some go11) := (by rw [hw]; exact HP16.2); have hp_ : Kd.R Kd.bool 4 w17 w0.heap.size (fun k_ => (P2_ k_ ∨ w.heap.size ≤ k_)) (.slice (some ⟨go11, 0, none⟩) l2.length co15) y215 := (by rw [hw, Ny215.out]; exact HP16.1); clear HP16; have n0_ := Aside0.mk (hp_); have n1_ := Aside0.mk (blk_grown (g := gb213) (o := .cells #[.int .i64 a0_0, .slice A0_1 l0_1.length c0_1, .slice A0_2 l0_2.length c0_2, .slice A0_3 l0_3.length c0_3] 30 (0, 0)) (pk_ BK213.out) hg (Kd.R_ne HO2.out BK213.out (by decide))); have n2_ := Aside0.mk ((by rw [hw]; exact below_set (HB.out) GB11.out : Below w0.heap.size w0 w17)); have n3_ := Aside0.mk (Kept.of_grown (S := (fun k_ => P2_ k_)) hg (by repeat (first | (with_reducible first | exact HK.out | apply Kept.alloc | apply Kept.drewN | apply Kept.drew | refine Kept.setCell ?_ (.inr GW213.out) _) | exact HK.out)) (fun k_ e_ => (HO2.out.1 k_ e_))); clear HO2; clear BK213; clear HB; clear HK; have HO2 := n0_; have BK213 := n1_; have HB := n2_; have HK := n3_; clear n0_ n1_ n2_ n3_; clear hg hw hp_; have hcz18_0 := bc0 BK213.out; have hcz18_1 := bc1 BK213.out; have hcz18_2 := bc2 BK213.out; have hcz18_3 := bc3 BK213.out; have hfz18_0 := blk_frozen BK213.out 0; have hfz18_1 := blk_frozen BK213.out 1; have hfz18_2 := blk_frozen BK213.out 2; have hfz18_3 := blk_frozen BK213.out 3; have p216 : 0 ≤ (a1 : Int) := of_decide_eq_true (by first | (with_reducible assumption) | assumption); have q216 : a1 < (l0_1.length : Int) := of_decide_eq_true (by first | (with_reducible assumption) | assumption); obtain ⟨ad216, e216, hx216_0, hx216_1, hx216_2, hx216_3⟩ := at_T46 (Kd.C_kept_now HR0_1.out HK.out) a1 p216 q216; (try rw [← Nbq7.out] at hx216_0); cases e216; replace p216 := eq_true p216; replace q216 := eq_true q216) | ((with_reducible refine gate_dst (N := 8) rfl ?_); refine box_event ?hg (N := 8) ?hd (cs := #[.bool false, .int .i64 0, .int .i64 0, .int .i64 0]) (t := 46) ?hr ?_; (case hd => rfl); (case hg => rfl); (case hr => first | (go_simp; done) | (go_simp; rfl)); intro gb217 hg w19 hbox hb; have n0_ := Aside0.mk (Kd.R_below (pr_ HO2.out) hb); have n1_ := Aside0.mk (blk_below (pk_ BK213.out) hb); have n2_ := Aside0.mk (Kept.below (S := (fun k_ => P2_ k_)) (by repeat (first | (with_reducible first | exact HK.out | apply Kept.alloc | apply Kept.drewN | apply Kept.drew | refine Kept.setCell ?_ (.inr GW213.out) _) | exact HK.out)) hb); have n3_ := Aside0.mk (below_step pb_ hb); have n4_ := Aside0.mk (hbox); have n5_ := Aside0.mk ((by rw [hg]; exact (by first | exact HK.out.1 | exact (show Kept w _ (fun k_ => P2_ k_) from by repeat (first | (with_reducible first | exact HK.out | apply Kept.alloc | apply Kept.drewN | apply Kept.drew | refine Kept.setCell ?_ (.inr GW213.out) _) | exact HK.out)).1) : w.heap.size ≤ gb217)); have n6_ := Aside0.mk ((by rw [hg]; exact (below_size pb_) : w0.heap.size ≤ gb217)); have n7_ := Aside0.mk ((by rw [hg]; exact Nat.ne_of_lt (blk_lt (pk_ BK213.out)) : gb213 ≠ gb217)); have n8_ := Aside0.mk ((by rw [hg]; exact Nat.ne_of_gt (blk_lt (pk_ BK213.out)) : gb217 ≠ gb213)); clear HO2; clear BK213; clear HK; clear HB; have HO2 := n0_; have BK213 := n1_; have HK := n2_; have HB := n3_; have BK217 := n4_; have GW217 := n5_; have GE217 := n6_; have NB213_217 := n7_; have NB217_213 := n8_; clear n0_ n1_ n2_ n3_ n4_ n5_ n6_ n7_ n8_; clear hb hbox hg; have hnb20 := NB217_213.out; have hnc20 := NB213_217.out; have hcz21_0 := bc0 BK217.out; have hcz21_1 := bc1 BK217.out; have hcz21_2 := bc2 BK217.out; have hcz21_3 := bc3 BK217.out; have hfz21_0 := blk_frozen BK217.out 0; have hfz21_1 := blk_frozen BK217.out 1; have hfz21_2 := blk_frozen BK217.out 2; have hfz21_3 := blk_frozen BK217.out 3))
     (try simp only [Act.put, List.setIfInBounds_toArray, List.set_cons_zero, List.set_cons_succ])
     go_cut [31] (fun v31 wc => ∃ (kq : Nat) (x31_12 : Bool), v31 = .bool x31_12 ∧ Aside0 (spec_lhMark.j0 kq y215 a3 x31_12 a0_0 l0_1 l0_2 l0_3 ((rd_T46 l0_1 a1).f0) ((rd_T46 l0_1 a1).f1) ((rd_T46 l0_1 a1).f2) ((rd_T46 l0_1 a1).f3) = some r) ∧ Aside0 (kq ≤ k) ∧ Aside0 (Kd.R Kd.bool 4 wc w0.heap.size (fun k_ => (P2_ k_ ∨ w.heap.size ≤ k_)) (.slice (some ⟨go11, 0, none⟩) l2.length co15) y215) ∧ Aside0 (wc.heap[gb213]? = some (.cells #[.int .i64 a0_0, (.slice (some ad216) l0_1.length c0_1), (.slice A0_2 l0_2.length c0_2), (.slice A0_3 l0_3.length c0_3)] 30 (0, 0))) ∧ Aside0 (wc.heap[gb217]? = some (.cells #[.bool ((rd_T46 l0_1 a1).f0), .int .i64 ((rd_T46 l0_1 a1).f1), .int .i64 ((rd_T46 l0_1 a1).f2), .int .i64 ((rd_T46 l0_1 a1).f3)] 46 (0, 0))) ∧ Aside0 (Kept w wc (fun k_ => P2_ k_)) ∧ Aside0 (Below w0.heap.size w0 wc))
     case first =>
      have H := HC13.out
      clear HC13
      obtain ⟨bq22, hbq22⟩ : ∃ b_ : Bool, b_ = ((rd_T46 l0_1 a1).f0) := ⟨_, rfl⟩
      replace H : (if bq22 = true then (spec_lhMark.j0 k y215 a3 true a0_0 l0_1 l0_2 l0_3 bq22 ((rd_T46 l0_1 a1).f1) ((rd_T46 l0_1 a1).f2) ((rd_T46 l0_1 a1).f3)) else (if a3 = true then (spec_lhMark.j0 k y215 a3 (decide (a1 < a0_0)) a0_0 l0_1 l0_2 l0_3 bq22 ((rd_T46 l0_1 a1).f1) ((rd_T46 l0_1 a1).f2) ((rd_T46 l0_1 a1).f3)) else (spec_lhMark.j0 k y215 a3 false a0_0 l0_1 l0_2 l0_3 bq22 ((rd_T46 l0_1 a1).f1) ((rd_T46 l0_1 a1).f2) ((rd_T46 l0_1 a1).f3)))) = some r := by rw [← hbq22] at H; exact H
      have Nbq22 := Aside0.mk hbq22
      clear hbq22
      (try rw [← Nbq22.out])
      by_cases c23 : bq22 = true
      ·subst c23
       have H1 : (spec_lhMark.j0 k y215 a3 true a0_0 l0_1 l0_2 l0_3 true ((rd_T46 l0_1 a1).f1) ((rd_T46 l0_1 a1).f2) ((rd_T46 l0_1 a1).f3)) = some r := by rw [if_pos rfl] at H; exact H
       clear H
       have H := H1
       clear H1
       have H' := Aside0.mk H
       clear H
       have hnb24 := NB217_213.out
       have hnc24 := NB213_217.out
       have hcz25_0 := bc0 BK217.out
       have hcz25_1 := bc1 BK217.out
       have hcz25_2 := bc2 BK217.out
       have hcz25_3 := bc3 BK217.out
       have hfz25_0 := blk_frozen BK217.out 0
       have hfz25_1 := blk_frozen BK217.out 1
       have hfz25_2 := blk_frozen BK217.out 2
       have hfz25_3 := blk_frozen BK217.out 3
       go_wp2
       go_meet
       case rel => (try simp only [← Nbq7.out, ← Nbq22.out]); exact ⟨_, (true), (by first | rfl | (simp; done) | (simp [*]; done)), H', ⟨by first | omega | exact Nat.le_refl _⟩, ⟨by (with_reducible repeat (first | apply Kd.R_alloc | apply Kd.R_drewN | apply Kd.R_drew)); exact Kd.R_mono (Kd.R_far (p := ⟨gb217, 3, none⟩) (Kd.R_far (p := ⟨gb217, 2, none⟩) (Kd.R_far (p := ⟨gb217, 1, none⟩) (Kd.R_far (p := ⟨gb217, 0, none⟩) (Kd.R_types HO2.out BK217.out (by decide)) (fun _ hk => hk.2) (.bool (true))) (fun _ hk => hk.2) (.int .i64 ((rd_T46 l0_1 a1).f1))) (fun _ hk => hk.2) (.int .i64 ((rd_T46 l0_1 a1).f2))) (fun _ hk => hk.2) (.int .i64 ((rd_T46 l0_1 a1).f3))) (fun _ hk => hk.1)⟩, ⟨by (with_reducible repeat (first | refine blk_drewN ?_ _ | refine blk_drew ?_ | refine blk_alloc ?_ _)); refine blk_far ?_ NB213_217.out _; (with_reducible repeat (first | refine blk_drewN ?_ _ | refine blk_drew ?_ | refine blk_alloc ?_ _)); refine blk_far ?_ NB213_217.out _; (with_reducible repeat (first | refine blk_drewN ?_ _ | refine blk_drew ?_ | refine blk_alloc ?_ _)); refine blk_far ?_ NB213_217.out _; (with_reducible repeat (first | refine blk_drewN ?_ _ | refine blk_drew ?_ | refine blk_alloc ?_ _)); refine blk_far ?_ NB213_217.out _; (with_reducible repeat (first | refine blk_drewN ?_ _ | refine blk_drew ?_ | refine blk_alloc ?_ _)); exact BK213.out⟩, ⟨by (with_reducible repeat (first | refine blk_drewN ?_ _ | refine blk_drew ?_ | refine blk_alloc ?_ _)); refine blk_put (cs := #[.bool (true), .int .i64 ((rd_T46 l0_1 a1).f1), .int .i64 ((rd_T46 l0_1 a1).f2), .int .i64 0]) ?_ 3 _ rfl; (with_reducible repeat (first | refine blk_drewN ?_ _ | refine blk_drew ?_ | refine blk_alloc ?_ _)); refine blk_put (cs := #[.bool (true), .int .i64 ((rd_T46 l0_1 a1).f1), .int .i64 0, .int .i64 0]) ?_ 2 _ rfl; (with_reducible repeat (first | refine blk_drewN ?_ _ | refine blk_drew ?_ | refine blk_alloc ?_ _)); refine blk_put (cs := #[.bool (true), .int .i64 0, .int .i64 0, .int .i64 0]) ?_ 1 _ rfl; (with_reducible repeat (first | refine blk_drewN ?_ _ | refine blk_drew ?_ | refine blk_alloc ?_ _)); refine blk_put (cs := #[.bool false, .int .i64 0, .int .i64 0, .int .i64 0]) ?_ 0 _ rfl; (with_reducible repeat (first | refine blk_drewN ?_ _ | refine blk_drew ?_ | refine blk_alloc ?_ _)); exact BK217.out⟩, ⟨by repeat (first | (with_reducible first | exact HK.out | apply Kept.alloc | apply Kept.drewN | apply Kept.drew | refine Kept.setCell ?_ (.inr GW213.out) _ | refine Kept.setCell ?_ (.inr GW217.out) _) | exact HK.out)⟩, ⟨pb_⟩⟩
      ·replace c23 := Bool.eq_false_iff.mpr c23
       subst c23
       have H1 : (if a3 = true then (spec_lhMark.j0 k y215 a3 (decide (a1 < a0_0)) a0_0 l0_1 l0_2 l0_3 false ((rd_T46 l0_1 a1).f1) ((rd_T46 l0_1 a1).f2) ((rd_T46 l0_1 a1).f3)) else (spec_lhMark.j0 k y215 a3 false a0_0 l0_1 l0_2 l0_3 false ((rd_T46 l0_1 a1).f1) ((rd_T46 l0_1 a1).f2) ((rd_T46 l0_1 a1).f3))) = some r := by rw [if_neg (show ¬ (false = true) by decide)] at H; exact H
       clear H
       have H := H1
       clear H1
       by_cases c26 : a3 = true
       ·subst c26
        have H1 : (spec_lhMark.j0 k y215 true (decide (a1 < a0_0)) a0_0 l0_1 l0_2 l0_3 false ((rd_T46 l0_1 a1).f1) ((rd_T46 l0_1 a1).f2) ((rd_T46 l0_1 a1).f3)) = some r := by rw [if_pos rfl] at H; exact H
        clear H
        have H := H1
        clear H1
        have H' := Aside0.mk H
        clear H
        have hnb27 := NB217_213.out
        have hnc27 := NB213_217.out
        have hcz28_0 := bc0 BK217.out
        have hcz28_1 := bc1 BK217.out
        have hcz28_2 := bc2 BK217.out
        have hcz28_3 := bc3 BK217.out
        have hfz28_0 := blk_frozen BK217.out 0
        have hfz28_1 := blk_frozen BK217.out 1
        have hfz28_2 := blk_frozen BK217.out 2
        have hfz28_3 := blk_frozen BK217.out 3
        have hcz29_0 := bc0 BK213.out
        have hcz29_1 := bc1 BK213.out
        have hcz29_2 := bc2 BK213.out
        have hcz29_3 := bc3 BK213.out
        have hfz29_0 := blk_frozen BK213.out 0
        have hfz29_1 := blk_frozen BK213.out 1
        have hfz29_2 := blk_frozen BK213.out 2
        have hfz29_3 := blk_frozen BK213.out 3
        go_wp2
        go_meet
        case rel => (try simp only [← Nbq7.out, ← Nbq22.out]); exact ⟨_, (decide (a1 < a0_0)), (by first | rfl | (simp; done) | (simp [*]; done)), H', ⟨by first | omega | exact Nat.le_refl _⟩, ⟨by (with_reducible repeat (first | apply Kd.R_alloc | apply Kd.R_drewN | apply Kd.R_drew)); exact Kd.R_mono (Kd.R_far (p := ⟨gb217, 3, none⟩) (Kd.R_far (p := ⟨gb217, 2, none⟩) (Kd.R_far (p := ⟨gb217, 1, none⟩) (Kd.R_far (p := ⟨gb217, 0, none⟩) (Kd.R_types HO2.out BK217.out (by decide)) (fun _ hk => hk.2) (.bool (false))) (fun _ hk => hk.2) (.int .i64 ((rd_T46 l0_1 a1).f1))) (fun _ hk => hk.2) (.int .i64 ((rd_T46 l0_1 a1).f2))) (fun _ hk => hk.2) (.int .i64 ((rd_T46 l0_1 a1).f3))) (fun _ hk => hk.1)⟩, ⟨by (with_reducible repeat (first | refine blk_drewN ?_ _ | refine blk_drew ?_ | refine blk_alloc ?_ _)); refine blk_far ?_ NB213_217.out _; (with_reducible repeat (first | refine blk_drewN ?_ _ | refine blk_drew ?_ | refine blk_alloc ?_ _)); refine blk_far ?_ NB213_217.out _; (with_reducible repeat (first | refine blk_drewN ?_ _ | refine blk_drew ?_ | refine blk_alloc ?_ _)); refine blk_far ?_ NB213_217.out _; (with_reducible repeat (first | refine blk_drewN ?_ _ | refine blk_drew ?_ | refine blk_alloc ?_ _)); refine blk_far ?_ NB213_217.out _; (with_reducible repeat (first | refine blk_drewN ?_ _ | refine blk_drew ?_ | refine blk_alloc ?_ _)); exact BK213.out⟩, ⟨by (with_reducible repeat (first | refine blk_drewN ?_ _ | refine blk_drew ?_ | refine blk_alloc ?_ _)); refine blk_put (cs := #[.bool (false), .int .i64 ((rd_T46 l0_1 a1).f1), .int .i64 ((rd_T46 l0_1 a1).f2), .int .i64 0]) ?_ 3 _ rfl; (with_reducible repeat (first | refine blk_drewN ?_ _ | refine blk_drew ?_ | refine blk_alloc ?_ _)); refine blk_put (cs := #[.bool (false), .int .i64 ((rd_T46 l0_1 a1).f1), .int .i64 0, .int .i64 0]) ?_ 2 _ rfl; (with_reducible repeat (first | refine blk_drewN ?_ _ | refine blk_drew ?_ | refine blk_alloc ?_ _)); refine blk_put (cs := #[.bool (false), .int .i64 0, .int .i64 0, .int .i64 0]) ?_ 1 _ rfl; (with_reducible repeat (first | refine blk_drewN ?_ _ | refine blk_drew ?_ | refine blk_alloc ?_ _)); refine blk_put (cs := #[.bool false, .int .i64 0, .int .i64 0, .int .i64 0]) ?_ 0 _ rfl; (with_reducible repeat (first | refine blk_drewN ?_ _ | refine blk_drew ?_ | refine blk_alloc ?_ _)); exact BK217.out⟩, ⟨by repeat (first | (with_reducible first | exact HK.out | apply Kept.alloc | apply Kept.drewN | apply Kept.drew | refine Kept.setCell ?_ (.inr GW213.out) _ | refine Kept.setCell ?_ (.inr GW217.out) _) | exact HK.out)⟩, ⟨pb_⟩⟩
       ·replace c26 := Bool.eq_false_iff.mpr c26
        subst c26
        have H1 : (spec_lhMark.j0 k y215 false false a0_0 l0_1 l0_2 l0_3 false ((rd_T46 l0_1 a1).f1) ((rd_T46 l0_1 a1).f2) ((rd_T46 l0_1 a1).f3)) = some r := by rw [if_neg (show ¬ (false = true) by decide)] at H; exact H
        clear H
        have H := H1
        clear H1
        have H' := Aside0.mk H
        clear H
        have hnb30 := NB217_213.out
        have hnc30 := NB213_217.out
        have hcz31_0 := bc0 BK217.out
        have hcz31_1 := bc1 BK217.out
        have hcz31_2 := bc2 BK217.out
        have hcz31_3 := bc3 BK217.out
        have hfz31_0 := blk_frozen BK217.out 0
        have hfz31_1 := blk_frozen BK217.out 1
        have hfz31_2 := blk_frozen BK217.out 2
        have hfz31_3 := blk_frozen BK217.out 3
        go_wp2
        go_meet
        case rel => (try simp only [← Nbq7.out, ← Nbq22.out]); exact ⟨_, (false), (by first | rfl | (simp; done) | (simp [*]; done)), H', ⟨by first | omega | exact Nat.le_refl _⟩, ⟨by (with_reducible repeat (first | apply Kd.R_alloc | apply Kd.R_drewN | apply Kd.R_drew)); exact Kd.R_mono (Kd.R_far (p := ⟨gb217, 3, none⟩) (Kd.R_far (p := ⟨gb217, 2, none⟩) (Kd.R_far (p := ⟨gb217, 1, none⟩) (Kd.R_far (p := ⟨gb217, 0, none⟩) (Kd.R_types HO2.out BK217.out (by decide)) (fun _ hk => hk.2) (.bool (false))) (fun _ hk => hk.2) (.int .i64 ((rd_T46 l0_1 a1).f1))) (fun _ hk => hk.2) (.int .i64 ((rd_T46 l0_1 a1).f2))) (fun _ hk => hk.2) (.int .i64 ((rd_T46 l0_1 a1).f3))) (fun _ hk => hk.1)⟩, ⟨by (with_reducible repeat (first | refine blk_drewN ?_ _ | refine blk_drew ?_ | refine blk_alloc ?_ _)); refine blk_far ?_ NB213_217.out _; (with_reducible repeat (first | refine blk_drewN ?_ _ | refine blk_drew ?_ | refine blk_alloc ?_ _)); refine blk_far ?_ NB213_217.out _; (with_reducible repeat (first | refine blk_drewN ?_ _ | refine blk_drew ?_ | refine blk_alloc ?_ _)); refine blk_far ?_ NB213_217.out _; (with_reducible repeat (first | refine blk_drewN ?_ _ | refine blk_drew ?_ | refine blk_alloc ?_ _)); refine blk_far ?_ NB213_217.out _; (with_reducible repeat (first | refine blk_drewN ?_ _ | refine blk_drew ?_ | refine blk_alloc ?_ _)); exact BK213.out⟩, ⟨by (with_reducible repeat (first | refine blk_drewN ?_ _ | refine blk_drew ?_ | refine blk_alloc ?_ _)); refine blk_put (cs := #[.bool (false), .int .i64 ((rd_T46 l0_1 a1).f1), .int .i64 ((rd_T46 l0_1 a1).f2), .int .i64 0]) ?_ 3 _ rfl; (with_reducible repeat (first | refine blk_drewN ?_ _ | refine blk_drew ?_ | refine blk_alloc ?_ _)); refine blk_put (cs := #[.bool (false), .int .i64 ((rd_T46 l0_1 a1).f1), .int .i64 0, .int .i64 0]) ?_ 2 _ rfl; (with_reducible repeat (first | refine blk_drewN ?_ _ | refine blk_drew ?_ | refine blk_alloc ?_ _)); refine blk_put (cs := #[.bool (false), .int .i64 0, .int .i64 0, .int .i64 0]) ?_ 1 _ rfl; (with_reducible repeat (first | refine blk_drewN ?_ _ | refine blk_drew ?_ | refine blk_alloc ?_ _)); refine blk_put (cs := #[.bool false, .int .i64 0, .int .i64 0, .int .i64 0]) ?_ 0 _ rfl; (with_reducible repeat (first | refine blk_drewN ?_ _ | refine blk_drew ?_ | refine blk_alloc ?_ _)); exact BK217.out⟩, ⟨by repeat (first | (with_reducible first | exact HK.out | apply Kept.alloc | apply Kept.drewN | apply Kept.drew | refine Kept.setCell ?_ (.inr GW213.out) _ | refine Kept.setCell ?_ (.inr GW217.out) _) | exact HK.out)⟩, ⟨pb_⟩⟩
     case rest =>
      clear HC13
      try clear c1
      try clear p1
      try clear q1
      try clear hx1
      try clear c2
      try clear p2
      try clear q2
      try clear hx2
      try clear c3
      try clear c5
      try clear c5b0
      try clear c6
      try clear c6b0
      try clear q7
      try clear c8
      try clear p11
      try clear q11
      try clear hx11
      try clear hf11
      try clear c12
      try clear c12b0
      try clear c20
      try clear p21
      try clear q21
      try clear hx21
      try clear q22
      try clear c23
      try clear c24
      try clear c26
      try clear c27
      try clear c30
      try clear hcz18_0
      try clear hcz18_1
      try clear hcz18_2
      try clear hcz18_3
      try clear hcz21_0
      try clear hcz21_1
      try clear hcz21_2
      try clear hcz21_3
      try clear hcz25_0
      try clear hcz25_1
      try clear hcz25_2
      try clear hcz25_3
      try clear hcz28_0
      try clear hcz28_1
      try clear hcz28_2
      try clear hcz28_3
      try clear hcz29_0
      try clear hcz29_1
      try clear hcz29_2
      try clear hcz29_3
      try clear hcz31_0
      try clear hcz31_1
      try clear hcz31_2
      try clear hcz31_3
      try clear hfz18_0
      try clear hfz18_1
      try clear hfz18_2
      try clear hfz18_3
      try clear hfz21_0
      try clear hfz21_1
      try clear hfz21_2
      try clear hfz21_3
      try clear hfz25_0
      try clear hfz25_1
      try clear hfz25_2
      try clear hfz25_3
      try clear hfz28_0
      try clear hfz28_1
      try clear hfz28_2
      try clear hfz28_3
      try clear hfz29_0
      try clear hfz29_1
      try clear hfz29_2
      try clear hfz29_3
      try clear hfz31_0
      try clear hfz31_1
      try clear hfz31_2
      try clear hfz31_3
      try clear hx11_0
      try clear hx214_0
      try clear hx216_0
      try clear hx216_1
      try clear hx216_2
      try clear hx216_3
      try clear p11
      try clear p214
      try clear p216
      try clear q11
      try clear q214
      try clear q216
      obtain ⟨kq, x31_12, rfl, HA, HJ12, HO_2, BK213, BK217, HK, HB⟩ := hcut
      have hl2_12 := (Kd.R_reads' HO_2.out).1
      rw [hl2_12] at HO_2
      (try simp only [hl2_12])
      (try simp only [hl2_12] at BK213)
      (try simp only [hl2_12] at BK217)
      cases kq with
      | zero => exact absurd HA.out (by simp [spec_lhMark.j0])
      | succ kj12 =>
       have H := HA.out
       clear HA
       simp only [spec_lhMark.j0] at H
       by_cases c32 : x31_12 = true
       ·subst c32
        have H1 : (some y215) = some r := by rw [if_pos rfl] at H; exact H
        clear H
        have H := H1
        clear H1
        obtain rfl := Option.some.inj H
        go_wp2
        first | go_end0 | ((try simp only [Exit.inBlock, Exit.then]); refine bodyPost_ret (results_none rfl _ _ _) rfl ?_)
        exact ⟨by first | rfl | (simp [errW_none, errW_some] <;> rfl) | (simp [*, errW_none, errW_some] <;> rfl), (by first | exact (pr_ HO_2.out) | (simp only [hl2_12]; exact (pr_ HO_2.out))), pb_, by repeat (first | (with_reducible first | exact HK.out | apply Kept.alloc | apply Kept.drewN | apply Kept.drew | refine Kept.setCell ?_ (.inr GW213.out) _ | refine Kept.setCell ?_ (.inr GW217.out) _) | exact HK.out)⟩
       ·replace c32 := Bool.eq_false_iff.mpr c32
        subst c32
        have H1 : ((spec_lhMark.f kj12 a0_0 l0_1 l0_2 l0_3 ((rd_T46 l0_1 a1).f2) y215 a3).bind fun t218 => ((spec_lhMark.f kj12 a0_0 l0_1 l0_2 l0_3 ((rd_T46 l0_1 a1).f3) t218 a3).bind fun t219 => (some t219))) = some r := by rw [if_neg (show ¬ (false = true) by decide)] at H; exact H
        clear H
        have H := H1
        clear H1
        replace H := Option.bind_eq_some_iff.mp H
        obtain ⟨t218, A330, H⟩ := H
        replace H : ((spec_lhMark.f kj12 a0_0 l0_1 l0_2 l0_3 ((rd_T46 l0_1 a1).f3) t218 a3).bind fun t219 => (some t219)) = some r := H
        have A33 := Aside0.mk A330
        clear A330
        replace H := Option.bind_eq_some_iff.mp H
        obtain ⟨t219, A340, H⟩ := H
        replace H : (some t219) = some r := H
        have A34 := Aside0.mk A340
        clear A340
        obtain rfl := Option.some.inj H
        have hnb35 := NB213_217.out
        have hnc35 := NB217_213.out
        have hcz36_0 := bc0 BK213.out
        have hcz36_1 := bc1 BK213.out
        have hcz36_2 := bc2 BK213.out
        have hcz36_3 := bc3 BK213.out
        have hfz36_0 := blk_frozen BK213.out 0
        have hfz36_1 := blk_frozen BK213.out 1
        have hfz36_2 := blk_frozen BK213.out 2
        have hfz36_3 := blk_frozen BK213.out 3
        have hcz37_0 := bc0 BK217.out
        have hcz37_1 := bc1 BK217.out
        have hcz37_2 := bc2 BK217.out
        have hcz37_3 := bc3 BK217.out
        have hfz37_0 := blk_frozen BK217.out 0
        have hfz37_1 := blk_frozen BK217.out 1
        have hfz37_2 := blk_frozen BK217.out 2
        have hfz37_3 := blk_frozen BK217.out 3
        go_wp2_with (first | ((with_reducible refine gate_callee (f := 56) rfl ?_); refine goesL_ (some 37) rfl rfl Try.func56 (by kernel_rfl) rfl #[.agg #[.int .i64 a0_0, .slice (some ad216) l0_1.length c0_1, .slice A0_2 l0_2.length c0_2, .slice A0_3 l0_3.length c0_3], .int .i64 ((rd_T46 l0_1 a1).f2), .slice (some ⟨go11, 0, none⟩) y215.length co15, .bool a3] rfl (by (try simp only [List.map_toArray, List.map_cons, List.map_nil]); first | done | rfl | (simp only [List.length_drop, List.length_take]; rfl)) ?_; (with_reducible refine (ih kj12 (by have := HJ12.out; omega) a0_0 _ _ l0_1 _ _ l0_2 _ _ l0_3 ((rd_T46 l0_1 a1).f2) (fun k_ => some k_ = (.slice (some ⟨go11, 0, none⟩) y215.length co15 : Value).ownBlock) (.slice (some ⟨go11, 0, none⟩) y215.length co15) y215 a3 t218 w0 _ ?side1 ?side2 ?side3 ?side4 ?side5 ?side6 ?side7 ?side8 A33.out).mono ?_); (case side1 => exact pb_); (case side2 => exact Kd.C_kept_call HR0_1.out (by repeat (first | (with_reducible first | exact HK.out | apply Kept.alloc | apply Kept.drewN | apply Kept.drew | refine Kept.setCell ?_ (.inr GW213.out) _ | refine Kept.setCell ?_ (.inr GW217.out) _) | exact HK.out)) (fun k_ hs_ => (fun e_ => (HO_2.out.1 k_ e_.symm)) hs_)); (case side3 => exact HC0_1.out); (case side4 => exact Kd.C_kept_call HR0_2.out (by repeat (first | (with_reducible first | exact HK.out | apply Kept.alloc | apply Kept.drewN | apply Kept.drew | refine Kept.setCell ?_ (.inr GW213.out) _ | refine Kept.setCell ?_ (.inr GW217.out) _) | exact HK.out)) (fun k_ hs_ => (fun e_ => (HO_2.out.1 k_ e_.symm)) hs_)); (case side5 => exact HC0_2.out); (case side6 => exact Kd.C_kept_call HR0_3.out (by repeat (first | (with_reducible first | exact HK.out | apply Kept.alloc | apply Kept.drewN | apply Kept.drew | refine Kept.setCell ?_ (.inr GW213.out) _ | refine Kept.setCell ?_ (.inr GW217.out) _) | exact HK.out)) (fun k_ hs_ => (fun e_ => (HO_2.out.1 k_ e_.symm)) hs_)); (case side7 => exact HC0_3.out); (case side8 => exact Kd.R_tight rfl HO_2.out); rintro e w38 ⟨rfl, hy0, hb, hkp⟩; refine ⟨_, rfl, ?_⟩; have n0_ := Aside0.mk (Kd.R_reok rfl hy0 (fun k_ e_ => HO_2.out.1 k_ e_)); have n1_ := Aside0.mk (blk_kept (pk_ BK213.out) hkp (fun hs_ => (fun e_ => (Kd.R_ne HO_2.out BK213.out (by decide)) e_) hs_)); have n2_ := Aside0.mk (blk_kept (pk_ BK217.out) hkp (fun hs_ => (fun e_ => (Kd.R_ne HO_2.out BK217.out (by decide)) e_) hs_)); have n3_ := Aside0.mk (Kept.then_ (S := (fun k_ => P2_ k_)) (by repeat (first | (with_reducible first | exact HK.out | apply Kept.alloc | apply Kept.drewN | apply Kept.drew | refine Kept.setCell ?_ (.inr GW213.out) _ | refine Kept.setCell ?_ (.inr GW217.out) _) | exact HK.out)) hkp (fun k_ hs_ => (fun e_ => (HO_2.out.1 k_ e_.symm)) hs_)); have n4_ := Aside0.mk (hb); clear HO_2; clear BK213; clear BK217; clear HK; clear HB; have HO_2 := n0_; have BK213 := n1_; have BK217 := n2_; have HK := n3_; have HB := n4_; clear n0_ n1_ n2_ n3_ n4_; (try clear hb); (try clear hkp); (try clear hy0); have hcz39_0 := bc0 BK213.out; have hcz39_1 := bc1 BK213.out; have hcz39_2 := bc2 BK213.out; have hcz39_3 := bc3 BK213.out; have hfz39_0 := blk_frozen BK213.out 0; have hfz39_1 := blk_frozen BK213.out 1; have hfz39_2 := blk_frozen BK213.out 2; have hfz39_3 := blk_frozen BK213.out 3; have hcz40_0 := bc0 BK217.out; have hcz40_1 := bc1 BK217.out; have hcz40_2 := bc2 BK217.out; have hcz40_3 := bc3 BK217.out; have hfz40_0 := blk_frozen BK217.out 0; have hfz40_1 := blk_frozen BK217.out 1; have hfz40_2 := blk_frozen BK217.out 2; have hfz40_3 := blk_frozen BK217.out 3) | ((with_reducible refine gate_callee (f := 56) rfl ?_); refine goesL_ (some 43) rfl rfl Try.func56 (by kernel_rfl) rfl #[.agg #[.int .i64 a0_0, .slice (some ad216) l0_1.length c0_1, .slice A0_2 l0_2.length c0_2, .slice A0_3 l0_3.length c0_3], .int .i64 ((rd_T46 l0_1 a1).f3), .slice (some ⟨go11, 0, none⟩) y215.length co15, .bool a3] rfl (by (try simp only [List.map_toArray, List.map_cons, List.map_nil]); first | done | rfl | (simp only [List.length_drop, List.length_take]; rfl)) ?_; (with_reducible refine (ih kj12 (by have := HJ12.out; omega) a0_0 _ _ l0_1 _ _ l0_2 _ _ l0_3 ((rd_T46 l0_1 a1).f3) (fun k_ => some k_ = (.slice (some ⟨go11, 0, none⟩) y215.length co15 : Value).ownBlock) (.slice (some ⟨go11, 0, none⟩) y215.length co15) t218 a3 t219 w0 _ ?side1 ?side2 ?side3 ?side4 ?side5 ?side6 ?side7 ?side8 A34.out).mono ?_); (case side1 => exact pb_); (case side2 => exact Kd.C_kept_call HR0_1.out (by repeat (first | (with_reducible first | exact HK.out | apply Kept.alloc | apply Kept.drewN | apply Kept.drew | refine Kept.setCell ?_ (.inr GW213.out) _ | refine Kept.setCell ?_ (.inr GW217.out) _) | exact HK.out)) (fun k_ hs_ => (fun e_ => (HO_2.out.1 k_ e_.symm)) hs_)); (case side3 => exact HC0_1.out); (case side4 => exact Kd.C_kept_call HR0_2.out (by repeat (first | (with_reducible first | exact HK.out | apply Kept.alloc | apply Kept.drewN | apply Kept.drew | refine Kept.setCell ?_ (.inr GW213.out) _ | refine Kept.setCell ?_ (.inr GW217.out) _) | exact HK.out)) (fun k_ hs_ => (fun e_ => (HO_2.out.1 k_ e_.symm)) hs_)); (case side5 => exact HC0_2.out); (case side6 => exact Kd.C_kept_call HR0_3.out (by repeat (first | (with_reducible first | exact HK.out | apply Kept.alloc | apply Kept.drewN | apply Kept.drew | refine Kept.setCell ?_ (.inr GW213.out) _ | refine Kept.setCell ?_ (.inr GW217.out) _) | exact HK.out)) (fun k_ hs_ => (fun e_ => (HO_2.out.1 k_ e_.symm)) hs_)); (case side7 => exact HC0_3.out); (case side8 => exact Kd.R_tight rfl HO_2.out); rintro e w41 ⟨rfl, hy0, hb, hkp⟩; refine ⟨_, rfl, ?_⟩; have n0_ := Aside0.mk (Kd.R_reok rfl hy0 (fun k_ e_ => HO_2.out.1 k_ e_)); have n1_ := Aside0.mk (blk_kept (pk_ BK213.out) hkp (fun hs_ => (fun e_ => (Kd.R_ne HO_2.out BK213.out (by decide)) e_) hs_)); have n2_ := Aside0.mk (blk_kept (pk_ BK217.out) hkp (fun hs_ => (fun e_ => (Kd.R_ne HO_2.out BK217.out (by decide)) e_) hs_)); have n3_ := Aside0.mk (Kept.then_ (S := (fun k_ => P2_ k_)) (by repeat (first | (with_reducible first | exact HK.out | apply Kept.alloc | apply Kept.drewN | apply Kept.drew | refine Kept.setCell ?_ (.inr GW213.out) _ | refine Kept.setCell ?_ (.inr GW217.out) _) | exact HK.out)) hkp (fun k_ hs_ => (fun e_ => (HO_2.out.1 k_ e_.symm)) hs_)); have n4_ := Aside0.mk (hb); clear HO_2; clear BK213; clear BK217; clear HK; clear HB; have HO_2 := n0_; have BK213 := n1_; have BK217 := n2_; have HK := n3_; have HB := n4_; clear n0_ n1_ n2_ n3_ n4_; (try clear hb); (try clear hkp); (try clear hy0)))
        first | go_end0 | ((try simp only [Exit.inBlock, Exit.then]); refine bodyPost_ret (results_none rfl _ _ _) rfl ?_)
        exact ⟨by first | rfl | (simp [errW_none, errW_some] <;> rfl) | (simp [*, errW_none, errW_some] <;> rfl), (by first | exact (pr_ HO_2.out) | (simp only [hl2_12]; exact (pr_ HO_2.out))), pb_, by repeat (first | (with_reducible first | exact HK.out | apply Kept.alloc | apply Kept.drewN | apply Kept.drew | refine Kept.setCell ?_ (.inr GW213.out) _ | refine Kept.setCell ?_ (.inr GW217.out) _) | exact HK.out)⟩
    ·rw [if_neg c12] at H
     exact absurd H (by simp)
  ·rw [if_neg c6] at H
   exact absurd H (by simp)
 ·rw [if_neg c5] at H
  exact absurd H (by simp)
mutual
def spec_lhMove.l0 : Nat → List Bool → List Int → Int → List Bool → Int → Int → Int → List (S46) → List Int → List Int → Option (Int × (List (S46)) × List Int × List Int)
 | 0, _, _, _, _, _, _, _, _, _, _ => none
 | k + 1, x1, x5, x6, x18, x19, x20, x352000, x352001, x352002, x352003 => if x20 < x19 then (if 0 ≤ x20 then (if x20 < (x18.length : Int) then (if rdOf false x18 x20 = true then (if x20 < (x5.length : Int) then (spec_lhMove.l0 k x1 (x5.set (x20 : Int).toNat x6) (wrap64 (x6 + 1)) x18 x19 (wrap64 (x20 + 1)) x352000 x352001 x352002 x352003) else (none)) else (spec_lhMove.l0 k x1 x5 x6 x18 x19 (wrap64 (x20 + 1)) x352000 x352001 x352002 x352003)) else (none)) else (none)) else (spec_lhMove.l1 k x1 x5 x352001 (x352001.length : Int) 0 x352000 x352001 x352002 x352003 x6 ([] : List (S46)))
def spec_lhMove.l1 : Nat → List Bool → List Int → List (S46) → Int → Int → Int → List (S46) → List Int → List Int → Int → List (S46) → Option (Int × (List (S46)) × List Int × List Int)
 | 0, _, _, _, _, _, _, _, _, _, _, _ => none
 | k + 1, x1, x5, x36, x37, x38, x352000, x352001, x352002, x352003, x359000, x359001 => if x38 < x37 then (if 0 ≤ x38 then (if x38 < (x36.length : Int) then (if x38 < (x1.length : Int) then (if rdOf false x1 x38 = true then (if (rd_T46 x36 x38).f0 = true then (if x359001.length < 4398046511104 then (spec_lhMove.l1 k x1 x5 x36 x37 (wrap64 (x38 + 1)) x352000 x352001 x352002 x352003 x359000 (x359001 ++ [(⟨(rd_T46 x36 x38).f0, (rd_T46 x36 x38).f1, (rd_T46 x36 x38).f2, (rd_T46 x36 x38).f3⟩ : S46)])) else (none)) else (if 0 ≤ ((rd_T46 x36 x38).f2) then (if ((rd_T46 x36 x38).f2) < (x5.length : Int) then (if 0 ≤ ((rd_T46 x36 x38).f3) then (if ((rd_T46 x36 x38).f3) < (x5.length : Int) then (if x359001.length < 4398046511104 then (spec_lhMove.l1 k x1 x5 x36 x37 (wrap64 (x38 + 1)) x352000 x352001 x352002 x352003 x359000 (x359001 ++ [(⟨(rd_T46 x36 x38).f0, (rd_T46 x36 x38).f1, rd x5 ((rd_T46 x36 x38).f2), rd x5 ((rd_T46 x36 x38).f3)⟩ : S46)])) else (none)) else (none)) else (none)) else (none)) else (none))) else (spec_lhMove.l1 k x1 x5 x36 x37 (wrap64 (x38 + 1)) x352000 x352001 x352002 x352003 x359000 x359001)) else (none)) else (none)) else (none)) else (spec_lhMove.l2 k x5 x352002 (x352002.length : Int) 0 x359000 x359001 ([] : List Int))
def spec_lhMove.l2 : Nat → List Int → List Int → Int → Int → Int → List (S46) → List Int → Option (Int × (List (S46)) × List Int × List Int)
 | 0, _, _, _, _, _, _, _ => none
 | k + 1, x5, x71, x72, x73, x359000, x359001, x359002 => if x73 < x72 then (if 0 ≤ x73 then (if x73 < (x71.length : Int) then (if 0 ≤ (rd x71 x73) then (if (rd x71 x73) < (x5.length : Int) then (if x359002.length < 17592186044416 then (spec_lhMove.l2 k x5 x71 x72 (wrap64 (x73 + 1)) x359000 x359001 (x359002 ++ [rd x5 (rd x71 x73)])) else (none)) else (none)) else (none)) else (none)) else (none)) else (some (x359000, x359001, x359002, ([] : List Int)))
end
def spec_lhMove.f (k : Nat) (a0_0 : Int) (l0_1 : List (S46)) (l0_2 : List Int) (l0_3 : List Int) (l1 : List Bool) : Option (Int × (List (S46)) × List Int × List Int) := if 0 ≤ (l0_1.length : Int) then (if ((l0_1.length : Int) : Int).toNat ≤ 35184372088832 then (spec_lhMove.l0 k l1 (List.replicate ((l0_1.length : Int) : Int).toNat 0) 0 l1 (l1.length : Int) 0 a0_0 l0_1 l0_2 l0_3) else (none)) else (none)
theorem spec_lhMove.mono_l : ∀ k, (∀ y0 y1 y2 y3 y4 y5 y6 y7 y8 y9, LeO (spec_lhMove.l0 k y0 y1 y2 y3 y4 y5 y6 y7 y8 y9) (spec_lhMove.l0 (k + 1) y0 y1 y2 y3 y4 y5 y6 y7 y8 y9)) ∧ (∀ y0 y1 y2 y3 y4 y5 y6 y7 y8 y9 y10, LeO (spec_lhMove.l1 k y0 y1 y2 y3 y4 y5 y6 y7 y8 y9 y10) (spec_lhMove.l1 (k + 1) y0 y1 y2 y3 y4 y5 y6 y7 y8 y9 y10)) ∧ (∀ y0 y1 y2 y3 y4 y5 y6, LeO (spec_lhMove.l2 k y0 y1 y2 y3 y4 y5 y6) (spec_lhMove.l2 (k + 1) y0 y1 y2 y3 y4 y5 y6))
 | 0 => ⟨fun _ _ _ _ _ _ _ _ _ _ r h => by simp [spec_lhMove.l0] at h, fun _ _ _ _ _ _ _ _ _ _ _ r h => by simp [spec_lhMove.l1] at h, fun _ _ _ _ _ _ _ r h => by simp [spec_lhMove.l2] at h⟩
 | k + 1 => by
  obtain ⟨ih0, ih1, ih2⟩ := spec_lhMove.mono_l k
  refine ⟨?_, ?_, ?_⟩
  ·intro y0 y1 y2 y3 y4 y5 y6 y7 y8 y9
   unfold spec_lhMove.l0
   repeat' first
   | (with_reducible exact ih0 _ _ _ _ _ _ _ _ _ _)
   | (with_reducible exact ih1 _ _ _ _ _ _ _ _ _ _ _)
   | (with_reducible exact ih2 _ _ _ _ _ _ _)
   | (with_reducible exact LeO.refl _)
   | (with_reducible exact LeO.none _)
   | (with_reducible refine LeO.ite ?_ ?_)
   | (with_reducible refine LeO.bind ?_ (fun _ => ?_))
   | exact ih0 _ _ _ _ _ _ _ _ _ _
   | exact ih1 _ _ _ _ _ _ _ _ _ _ _
   | exact ih2 _ _ _ _ _ _ _
   | exact LeO.none _
   | refine LeO.ite ?_ ?_
   | refine LeO.bind ?_ (fun _ => ?_)
  ·intro y0 y1 y2 y3 y4 y5 y6 y7 y8 y9 y10
   unfold spec_lhMove.l1
   repeat' first
   | (with_reducible exact ih0 _ _ _ _ _ _ _ _ _ _)
   | (with_reducible exact ih1 _ _ _ _ _ _ _ _ _ _ _)
   | (with_reducible exact ih2 _ _ _ _ _ _ _)
   | (with_reducible exact LeO.refl _)
   | (with_reducible exact LeO.none _)
   | (with_reducible refine LeO.ite ?_ ?_)
   | (with_reducible refine LeO.bind ?_ (fun _ => ?_))
   | exact ih0 _ _ _ _ _ _ _ _ _ _
   | exact ih1 _ _ _ _ _ _ _ _ _ _ _
   | exact ih2 _ _ _ _ _ _ _
   | exact LeO.none _
   | refine LeO.ite ?_ ?_
   | refine LeO.bind ?_ (fun _ => ?_)
  ·intro y0 y1 y2 y3 y4 y5 y6
   unfold spec_lhMove.l2
   repeat' first
   | (with_reducible exact ih0 _ _ _ _ _ _ _ _ _ _)
   | (with_reducible exact ih1 _ _ _ _ _ _ _ _ _ _ _)
   | (with_reducible exact ih2 _ _ _ _ _ _ _)
   | (with_reducible exact LeO.refl _)
   | (with_reducible exact LeO.none _)
   | (with_reducible refine LeO.ite ?_ ?_)
   | (with_reducible refine LeO.bind ?_ (fun _ => ?_))
   | exact ih0 _ _ _ _ _ _ _ _ _ _
   | exact ih1 _ _ _ _ _ _ _ _ _ _ _
   | exact ih2 _ _ _ _ _ _ _
   | exact LeO.none _
   | refine LeO.ite ?_ ?_
   | refine LeO.bind ?_ (fun _ => ?_)
theorem spec_lhMove.mono : ∀ a0 a1 a2 a3 a4 k, LeO (spec_lhMove.f k a0 a1 a2 a3 a4) (spec_lhMove.f (k + 1) a0 a1 a2 a3 a4) := by
 intro a0 a1 a2 a3 a4 k
 obtain ⟨ih0, ih1, ih2⟩ := spec_lhMove.mono_l k
 unfold spec_lhMove.f
 repeat' first
   | (with_reducible exact ih0 _ _ _ _ _ _ _ _ _ _)
   | (with_reducible exact ih1 _ _ _ _ _ _ _ _ _ _ _)
   | (with_reducible exact ih2 _ _ _ _ _ _ _)
   | (with_reducible exact LeO.refl _)
   | (with_reducible exact LeO.none _)
   | (with_reducible refine LeO.ite ?_ ?_)
   | (with_reducible refine LeO.bind ?_ (fun _ => ?_))
   | exact ih0 _ _ _ _ _ _ _ _ _ _
   | exact ih1 _ _ _ _ _ _ _ _ _ _ _
   | exact ih2 _ _ _ _ _ _ _
   | exact LeO.none _
   | refine LeO.ite ?_ ?_
   | refine LeO.bind ?_ (fun _ => ?_)
def spec_lhMove.T23 : Bool × List (List Nat × List Nat) := (true, [([], []), ([0], [0]), ([], []), ([], []), ([2, 3], [2, 3]), ([4], [4]), ([5], [5]), ([1, 6], [1, 6]), ([0, 1, 2, 3, 4, 5, 6, 7], []), ([8, 7, 7, 0, 1, 2, 3, 4, 5, 6, 7], [7, 8])])
def spec_lhMove.B23 : List Nat := [0, 1, 0, 0, 12, 28, 60, 127, 255, 511]
theorem spec_lhMove.tab23 : rtab .any (opsOf Try.f58 23) = spec_lhMove.T23 := by kernel_rfl
theorem spec_lhMove.bits23 : waitsOk spec_lhMove.T23.2 spec_lhMove.B23 = true := by kernel_rfl
set_option maxHeartbeats 8000000 in
set_option maxRecDepth 100000 in
theorem spec_lhMove.calls (k : Nat) (a0_0 : Int) (A0_1 : Option Addr) (c0_1 : Nat) (l0_1 : List (S46)) (A0_2 : Option Addr) (c0_2 : Nat) (l0_2 : List Int) (A0_3 : Option Addr) (c0_3 : Nat) (l0_3 : List Int) (A1 : Option Addr) (c1 : Nat) (l1 : List Bool) (r1 : Int) (r2 : List (S46)) (r3 : List Int) (r4 : List Int) (w : World) (hr0_1 : Kd.C k46 w A0_1 l0_1.length l0_1) (hc0_1 : l0_1.length ≤ c0_1) (hr0_2 : Kd.C (Kd.int .i64) w A0_2 l0_2.length l0_2) (hc0_2 : l0_2.length ≤ c0_2) (hr0_3 : Kd.C (Kd.int .i64) w A0_3 l0_3.length l0_3) (hc0_3 : l0_3.length ≤ c0_3) (hr1 : Kd.C Kd.bool w A1 l1.length l1) (hc1 : l1.length ≤ c1) (h : spec_lhMove.f k a0_0 l0_1 l0_2 l0_3 l1 = some (r1, r2, r3, r4)) :
  Calls Try.prog 58 #[.agg #[.int .i64 a0_0, .slice A0_1 l0_1.length c0_1, .slice A0_2 l0_2.length c0_2, .slice A0_3 l0_3.length c0_3], .slice A1 l1.length c1] w fun e w' => ∃ v1_ v2_ v3_ : Value, e = .returned (.agg #[.int .i64 r1, v1_, v2_, v3_]) ∧ Kd.R k46 46 w' w.heap.size (fun _ => True) v1_ r2 ∧ Kd.R (Kd.int .i64) 3 w' w.heap.size (fun k_ => some k_ ≠ (v3_ : Value).ownBlock) v2_ r3 ∧ Kd.R (Kd.int .i64) 3 w' w.heap.size (fun k_ => some k_ ≠ (v2_ : Value).ownBlock) v3_ r4 ∧ Below w.heap.size w w' := by
 have hu30 := Try.underlying30
 have hu46 := Try.underlying46
 have HR0_1 := Aside0.mk hr0_1
 have HC0_1 := Aside0.mk hc0_1
 clear hr0_1 hc0_1
 have HR0_2 := Aside0.mk hr0_2
 have HC0_2 := Aside0.mk hc0_2
 clear hr0_2 hc0_2
 have HR0_3 := Aside0.mk hr0_3
 have HC0_3 := Aside0.mk hc0_3
 clear hr0_3 hc0_3
 have HR1 := Aside0.mk hr1
 have HC1 := Aside0.mk hc1
 clear hr1 hc1
 have HB := Aside0.mk (Below.refl w.heap.size w)
 have H : (if 0 ≤ (l0_1.length : Int) then (if ((l0_1.length : Int) : Int).toNat ≤ 35184372088832 then (spec_lhMove.l0 k l1 (List.replicate ((l0_1.length : Int) : Int).toNat 0) 0 l1 (l1.length : Int) 0 a0_0 l0_1 l0_2 l0_3) else (none)) else (none)) = some (r1, r2, r3, r4) := h
 clear h
 by_cases c3 : 0 ≤ (l0_1.length : Int)
 ·rw [if_pos c3] at H
  have c3b0 := eq_true c3
  have c3b1 : decide (0 ≤ (l0_1.length : Int)) = true := decide_eq_true c3
  clear c3
  by_cases c4 : ((l0_1.length : Int) : Int).toNat ≤ 35184372088832
  ·rw [if_pos c4] at H
   have c4b0 := eq_true c4
   have c4b1 : decide (((l0_1.length : Int) : Int).toNat ≤ 35184372088832) = true := decide_eq_true c4
   clear c4
   obtain ⟨y353, hy353⟩ : ∃ y_ : List Int, y_ = (List.replicate ((l0_1.length : Int) : Int).toNat 0) := ⟨_, rfl⟩
   replace H : (spec_lhMove.l0 k l1 y353 0 l1 (l1.length : Int) 0 a0_0 l0_1 l0_2 l0_3) = some (r1, r2, r3, r4) := by first | (rw [hy353]; with_reducible exact H) | (have H2_ := (Option.bind_some _ _).symm.trans H; rw [hy353]; with_reducible exact H2_) | (have H2_ := (Option.bind_some _ _).symm.trans H; with_reducible exact H2_) | with_reducible exact H | (rw [hy353]; exact H) | exact H
   have Ny353 := Aside0.mk hy353
   clear hy353
   have H' := Aside0.mk H
   clear H
   go_enter Try.func58, Try.ntmps58
   go_wp2_with (first | ((with_reducible refine gate_dst (N := 2) rfl ?_); refine box_event ?hg (N := 2) ?hd (cs := #[.int .i64 a0_0, .slice A0_1 l0_1.length c0_1, .slice A0_2 l0_2.length c0_2, .slice A0_3 l0_3.length c0_3]) (t := 30) ?hr ?_; (case hd => rfl); (case hg => rfl); (case hr => first | (go_simp; done) | (go_simp; rfl)); intro gb351 hg w5 hbox hb; have n0_ := Aside0.mk (below_step pb_ hb); have n1_ := Aside0.mk (hbox); have n2_ := Aside0.mk ((by rw [hg]; exact (below_size pb_) : w.heap.size ≤ gb351)); have n3_ := Aside0.mk ((by rw [hg]; exact (below_size pb_) : w.heap.size ≤ gb351)); clear HB; have HB := n0_; have BK351 := n1_; have GW351 := n2_; have GE351 := n3_; clear n0_ n1_ n2_ n3_; clear hb hbox hg) | ((with_reducible refine gate_dst (N := 4) rfl ?_); refine box_event ?hg (N := 4) ?hd (cs := #[.int .i64 0, .slice none 0 0, .slice none 0 0, .slice none 0 0]) (t := 30) ?hr ?_; (case hd => rfl); (case hg => rfl); (case hr => first | (go_simp; done) | (go_simp; rfl)); intro gb352 hg w6 hbox hb; have n0_ := Aside0.mk (blk_below (pk_ BK351.out) hb); have n1_ := Aside0.mk (below_step pb_ hb); have n2_ := Aside0.mk (hbox); have n3_ := Aside0.mk ((by rw [hg]; exact (below_size pb_) : w.heap.size ≤ gb352)); have n4_ := Aside0.mk ((by rw [hg]; exact (below_size pb_) : w.heap.size ≤ gb352)); have n5_ := Aside0.mk ((by rw [hg]; exact Nat.ne_of_lt (blk_lt (pk_ BK351.out)) : gb351 ≠ gb352)); have n6_ := Aside0.mk ((by rw [hg]; exact Nat.ne_of_gt (blk_lt (pk_ BK351.out)) : gb352 ≠ gb351)); clear BK351; clear HB; have BK351 := n0_; have HB := n1_; have BK352 := n2_; have GW352 := n3_; have GE352 := n4_; have NB351_352 := n5_; have NB352_351 := n6_; clear n0_ n1_ n2_ n3_ n4_ n5_ n6_; clear hb hbox hg; have hnb7 := NB351_352.out; have hnc7 := NB352_351.out; have hcz8_0 := bc0 BK351.out; have hcz8_1 := bc1 BK351.out; have hcz8_2 := bc2 BK351.out; have hcz8_3 := bc3 BK351.out; have hfz8_0 := blk_frozen BK351.out 0; have hfz8_1 := blk_frozen BK351.out 1; have hfz8_2 := blk_frozen BK351.out 2; have hfz8_3 := blk_frozen BK351.out 3) | ((with_reducible refine gate_dst (N := 17) rfl ?_); refine Kd.R_make (Kd.int .i64) _ 3 rfl (N := 17) rfl 23 _ _ rfl (l0_1.length : Int) rfl rfl Try.underlying23 (.int .i64 0) 8 info3 rfl (by decide) (by omega) 0 (ok := fun _ => True) (okp := fun _ => True) rfl (fun _ hk => hk) trivial (of_decide_eq_true (by first | (with_reducible assumption) | assumption)) (Nat.le_trans (Nat.mul_le_mul_right _ (of_decide_eq_true (by first | (with_reducible assumption) | assumption) : (l0_1.length : Int).toNat ≤ 35184372088832)) (by omega)) (Below.refl _ _) (Nat.le_refl _) ?_; intro v354 w9 ho10 hb hg_ hnew_; clear hg_ hnew_; (first | rw [← Ny353.out] at ho10 | (simp only [Int.reduceToNat] at ho10; rw [← Ny353.out] at ho10)); have n0_ := Aside0.mk (Kd.R_lower ho10 (below_size pb_)); have n1_ := Aside0.mk (blk_below (pk_ BK351.out) hb); have n2_ := Aside0.mk (blk_below (pk_ BK352.out) hb); have n3_ := Aside0.mk (below_step pb_ hb); clear BK351; clear BK352; clear HB; have HO355 := n0_; have BK351 := n1_; have BK352 := n2_; have HB := n3_; clear n0_ n1_ n2_ n3_; clear hb ho10))
   go_loopg [6, 20] k (fun kq v6 v20 w' => ∃ (x5_1 : List Int) (x6_1 : Int) (x20_1 : Int), v6 = .int .i64 x6_1 ∧ v20 = .int .i64 x20_1 ∧ Aside0 (spec_lhMove.l0 kq l1 x5_1 x6_1 l1 (l1.length : Int) x20_1 a0_0 l0_1 l0_2 l0_3 = some (r1, r2, r3, r4)) ∧ Aside0 (kq ≤ k) ∧ Aside0 (Kd.R (Kd.int .i64) 3 w' w.heap.size (fun _ => True) v354 x5_1) ∧ Aside0 (w'.heap[gb351]? = some (.cells #[.int .i64 a0_0, (.slice A0_1 l0_1.length c0_1), (.slice A0_2 l0_2.length c0_2), (.slice A0_3 l0_3.length c0_3)] 30 (0, 0))) ∧ Aside0 (w'.heap[gb352]? = some (.cells #[.int .i64 0, (.slice none 0 0), (.slice none 0 0), (.slice none 0 0)] 30 (0, 0))) ∧ Aside0 (Below w.heap.size w w'))
   case atStart => exact ⟨(y353), (0), (0), (by first | rfl | (simp; done) | (simp [*]; done)), (by first | rfl | (simp; done) | (simp [*]; done)), H', ⟨Nat.le_refl _⟩, ⟨by (with_reducible repeat (first | apply Kd.R_alloc | apply Kd.R_drewN | apply Kd.R_drew)); exact HO355.out⟩, ⟨pk_ BK351.out⟩, ⟨pk_ BK352.out⟩, ⟨pb_⟩⟩
   case round =>
    clear H'
    try clear c1
    try clear p2
    try clear c3
    try clear c3b0
    try clear c3b1
    try clear c4
    try clear c4b0
    try clear c4b1
    try clear c5
    try clear c7
    try clear hcz8_0
    try clear hcz8_1
    try clear hcz8_2
    try clear hcz8_3
    try clear hfz8_0
    try clear hfz8_1
    try clear hfz8_2
    try clear hfz8_3
    obtain ⟨x5_1, x6_1, x20_1, rfl, rfl, HA, HK1, HO_5, BK351, BK352, HB⟩ := hrel
    cases gk with
    | zero => exact absurd HA.out (by simp [spec_lhMove.l0])
    | succ k1 =>
     have H := HA.out
     clear HA
     simp only [spec_lhMove.l0] at H
     by_cases c11 : x20_1 < (l1.length : Int)
     ·rw [if_pos c11] at H
      have c11b0 : decide (x20_1 < (l1.length : Int)) = true := decide_eq_true c11
      clear c11
      by_cases c12 : 0 ≤ x20_1
      ·rw [if_pos c12] at H
       have c12b0 : decide (0 ≤ x20_1) = true := decide_eq_true c12
       clear c12
       by_cases c13 : x20_1 < (l1.length : Int)
       ·rw [if_pos c13] at H
        have c13b0 : decide (x20_1 < (l1.length : Int)) = true := decide_eq_true c13
        clear c13
        obtain ⟨bq14, hbq14⟩ : ∃ b_ : Bool, b_ = (rdOf false l1 x20_1) := ⟨_, rfl⟩
        replace H : (if bq14 = true then (if x20_1 < (x5_1.length : Int) then (spec_lhMove.l0 k1 l1 (x5_1.set (x20_1 : Int).toNat x6_1) (wrap64 (x6_1 + 1)) l1 (l1.length : Int) (wrap64 (x20_1 + 1)) a0_0 l0_1 l0_2 l0_3) else (none)) else (spec_lhMove.l0 k1 l1 x5_1 x6_1 l1 (l1.length : Int) (wrap64 (x20_1 + 1)) a0_0 l0_1 l0_2 l0_3)) = some (r1, r2, r3, r4) := by rw [← hbq14] at H; exact H
        have Nbq14 := Aside0.mk hbq14
        clear hbq14
        by_cases c15 : bq14 = true
        ·subst c15
         have H1 : (if x20_1 < (x5_1.length : Int) then (spec_lhMove.l0 k1 l1 (x5_1.set (x20_1 : Int).toNat x6_1) (wrap64 (x6_1 + 1)) l1 (l1.length : Int) (wrap64 (x20_1 + 1)) a0_0 l0_1 l0_2 l0_3) else (none)) = some (r1, r2, r3, r4) := by rw [if_pos rfl] at H; exact H
         clear H
         have H := H1
         clear H1
         by_cases c16 : x20_1 < (x5_1.length : Int)
         ·rw [if_pos c16] at H
          have c16b0 : decide (x20_1 < (x5_1.length : Int)) = true := decide_eq_true c16
          clear c16
          obtain ⟨y357, hy357⟩ : ∃ y_ : List Int, y_ = (x5_1.set (x20_1 : Int).toNat x6_1) := ⟨_, rfl⟩
          replace H : (spec_lhMove.l0 k1 l1 y357 (wrap64 (x6_1 + 1)) l1 (l1.length : Int) (wrap64 (x20_1 + 1)) a0_0 l0_1 l0_2 l0_3) = some (r1, r2, r3, r4) := by first | (rw [hy357]; with_reducible exact H) | (have H2_ := (Option.bind_some _ _).symm.trans H; rw [hy357]; with_reducible exact H2_) | (have H2_ := (Option.bind_some _ _).symm.trans H; with_reducible exact H2_) | with_reducible exact H | (rw [hy357]; exact H) | exact H
          have Ny357 := Aside0.mk hy357
          clear hy357
          have H' := Aside0.mk H
          clear H
          have p356 : 0 ≤ (x20_1 : Int) := of_decide_eq_true (by first | (with_reducible assumption) | assumption)
          have q356 : x20_1 < (l1.length : Int) := of_decide_eq_true (by first | (with_reducible assumption) | assumption)
          obtain ⟨ad356, e356, hx356_0⟩ := Kd.at_bool HR1.out x20_1 p356 q356
          (try rw [← Nbq14.out] at hx356_0)
          cases e356
          replace hx356_0 := (HB.out.cell (World.block_lt_of_cell? w _ hx356_0)).trans hx356_0
          replace p356 := eq_true p356
          replace q356 := eq_true q356
          have p17 : 0 ≤ (x20_1 : Int) := of_decide_eq_true (by first | (with_reducible assumption) | assumption)
          have q17 : (x20_1 : Int) < ((x5_1.length : Int) : Int) := of_decide_eq_true (by first | (with_reducible assumption) | assumption)
          obtain ⟨go17, co17, eo17, gb17, gl17, cl17, HG17⟩ := Kd.R_form HO_5.out (by omega)
          (first | cases eo17 | (injection eo17 with ea_ en_ ec_; (first | subst ea_ | (injection ea_ with ea_; subst ea_)); subst ec_; clear en_))
          have GB17 := Aside0.mk gb17
          have GG17 := Aside0.mk HG17
          clear gb17 gl17 HG17
          obtain ⟨hx17_0, hf17_0⟩ := Kd.R_celln 0 HO_5.out (x20_1 : Int) p17 q17
          replace p17 := eq_true p17
          replace q17 := eq_true q17
          have HP18 := Kd.R_putg HO_5.out (x20_1 : Int) x6_1
          go_wp2_with (first | ((with_reducible refine gate_store (t := 3) (p := 29) rfl ?_); refine store_event (t := 3) (p := 29) (v := ?vo_w19) (w1 := (wr.setCell ⟨go17, (x20_1 : Int).toNat, none⟩ (.int .i64 x6_1))) ?hg ?ho ?hn ?hr ?_; (case ho => rfl); (case hg => rfl); (case hn => rfl); (case hr => first | (go_simp; done) | (go_simp; rfl)); intro w19 hw; have hg : wr.grownBy w19 (some go17) := (by rw [hw]; exact HP18.2); have hp_ : Kd.R (Kd.int .i64) 3 w19 w.heap.size (fun _ => True) (.slice (some ⟨go17, 0, none⟩) x5_1.length co17) y357 := (by rw [hw, Ny357.out]; exact HP18.1); clear HP18; have n0_ := Aside0.mk (hp_); have n1_ := Aside0.mk (blk_grown (g := gb351) (o := .cells #[.int .i64 a0_0, .slice A0_1 l0_1.length c0_1, .slice A0_2 l0_2.length c0_2, .slice A0_3 l0_3.length c0_3] 30 (0, 0)) (pk_ BK351.out) hg (Kd.R_ne HO_5.out BK351.out (by decide))); have n2_ := Aside0.mk (blk_grown (g := gb352) (o := .cells #[.int .i64 0, .slice none 0 0, .slice none 0 0, .slice none 0 0] 30 (0, 0)) (pk_ BK352.out) hg (Kd.R_ne HO_5.out BK352.out (by decide))); have n3_ := Aside0.mk ((by rw [hw]; exact below_set (HB.out) GB17.out : Below w.heap.size w w19)); clear HO_5; clear BK351; clear BK352; clear HB; have HO_5 := n0_; have BK351 := n1_; have BK352 := n2_; have HB := n3_; clear n0_ n1_ n2_ n3_; clear hg hw hp_))
          go_roundg k1
          case measure => have := HK1.out; omega
          case rel => exact ⟨(y357), (wrap64 (x6_1 + 1)), (wrap64 (x20_1 + 1)), (by first | rfl | (simp; done) | (simp [*]; done)), (by first | rfl | (simp; done) | (simp [*]; done)), H', ⟨by have := HK1.out; omega⟩, ⟨by (with_reducible repeat (first | apply Kd.R_alloc | apply Kd.R_drewN | apply Kd.R_drew)); exact HO_5.out⟩, ⟨pk_ BK351.out⟩, ⟨pk_ BK352.out⟩, ⟨pb_⟩⟩
         ·rw [if_neg c16] at H
          exact absurd H (by simp)
        ·replace c15 := Bool.eq_false_iff.mpr c15
         subst c15
         have H1 : (spec_lhMove.l0 k1 l1 x5_1 x6_1 l1 (l1.length : Int) (wrap64 (x20_1 + 1)) a0_0 l0_1 l0_2 l0_3) = some (r1, r2, r3, r4) := by rw [if_neg (show ¬ (false = true) by decide)] at H; exact H
         clear H
         have H := H1
         clear H1
         have H' := Aside0.mk H
         clear H
         have p356 : 0 ≤ (x20_1 : Int) := of_decide_eq_true (by first | (with_reducible assumption) | assumption)
         have q356 : x20_1 < (l1.length : Int) := of_decide_eq_true (by first | (with_reducible assumption) | assumption)
         obtain ⟨ad356, e356, hx356_0⟩ := Kd.at_bool HR1.out x20_1 p356 q356
         (try rw [← Nbq14.out] at hx356_0)
         cases e356
         replace hx356_0 := (HB.out.cell (World.block_lt_of_cell? w _ hx356_0)).trans hx356_0
         replace p356 := eq_true p356
         replace q356 := eq_true q356
         go_wp2
         go_roundg k1
         case measure => have := HK1.out; omega
         case rel => exact ⟨(x5_1), (x6_1), (wrap64 (x20_1 + 1)), (by first | rfl | (simp; done) | (simp [*]; done)), (by first | rfl | (simp; done) | (simp [*]; done)), H', ⟨by have := HK1.out; omega⟩, ⟨by (with_reducible repeat (first | apply Kd.R_alloc | apply Kd.R_drewN | apply Kd.R_drew)); exact HO_5.out⟩, ⟨pk_ BK351.out⟩, ⟨pk_ BK352.out⟩, ⟨pb_⟩⟩
       ·rw [if_neg c13] at H
        exact absurd H (by simp)
      ·rw [if_neg c12] at H
       exact absurd H (by simp)
     ·rw [if_neg c11] at H
      have c11b0 : decide (x20_1 < (l1.length : Int)) = false := decide_eq_false c11
      clear c11
      have H' := Aside0.mk H
      clear H
      go_wp2_with (first | ((with_reducible refine gate_dst (N := 9) rfl ?_); refine box_event ?hg (N := 9) ?hd (cs := #[.int .i64 0, .slice none 0 0, .slice none 0 0, .slice none 0 0]) (t := 30) ?hr ?_; (case hd => rfl); (case hg => rfl); (case hr => first | (go_simp; done) | (go_simp; rfl)); intro gb358 hg w20 hbox hb; have n0_ := Aside0.mk (Kd.R_below (pr_ HO_5.out) hb); have n1_ := Aside0.mk (blk_below (pk_ BK351.out) hb); have n2_ := Aside0.mk (blk_below (pk_ BK352.out) hb); have n3_ := Aside0.mk (below_step pb_ hb); have n4_ := Aside0.mk (hbox); have n5_ := Aside0.mk ((by rw [hg]; exact (below_size pb_) : w.heap.size ≤ gb358)); have n6_ := Aside0.mk ((by rw [hg]; exact (below_size pb_) : w.heap.size ≤ gb358)); have n7_ := Aside0.mk ((by rw [hg]; exact Nat.ne_of_lt (blk_lt (pk_ BK351.out)) : gb351 ≠ gb358)); have n8_ := Aside0.mk ((by rw [hg]; exact Nat.ne_of_gt (blk_lt (pk_ BK351.out)) : gb358 ≠ gb351)); have n9_ := Aside0.mk ((by rw [hg]; exact Nat.ne_of_lt (blk_lt (pk_ BK352.out)) : gb352 ≠ gb358)); have n10_ := Aside0.mk ((by rw [hg]; exact Nat.ne_of_gt (blk_lt (pk_ BK352.out)) : gb358 ≠ gb352)); clear HO_5; clear BK351; clear BK352; clear HB; have HO_5 := n0_; have BK351 := n1_; have BK352 := n2_; have HB := n3_; have BK358 := n4_; have GW358 := n5_; have GE358 := n6_; have NB351_358 := n7_; have NB358_351 := n8_; have NB352_358 := n9_; have NB358_352 := n10_; clear n0_ n1_ n2_ n3_ n4_ n5_ n6_ n7_ n8_ n9_ n10_; clear hb hbox hg; have hnb21 := NB358_351.out; have hnc21 := NB351_358.out; have hnb22 := NB358_352.out; have hnc22 := NB352_358.out; have hcz23_0 := bc0 BK358.out; have hcz23_1 := bc1 BK358.out; have hcz23_2 := bc2 BK358.out; have hcz23_3 := bc3 BK358.out; have hfz23_0 := blk_frozen BK358.out 0; have hfz23_1 := blk_frozen BK358.out 1; have hfz23_2 := blk_frozen BK358.out 2; have hfz23_3 := blk_frozen BK358.out 3) | ((with_reducible refine gate_store (t := 30) (p := 9) rfl ?_); refine store_event (t := 30) (p := 9) (v := ?vo_w24) (w1 := ((((w20.setCell ⟨gb358, 0, none⟩ (.int .i64 x6_1)).setCell ⟨gb358, 1, none⟩ (.slice none 0 0)).setCell ⟨gb358, 2, none⟩ (.slice none 0 0)).setCell ⟨gb358, 3, none⟩ (.slice none 0 0))) ?hg ?ho ?hn ?hr ?_; (case ho => rfl); (case hg => rfl); (case hn => rfl); (case hr => first | (go_simp; done) | (go_simp; rfl)); intro w24 hw; have n0_ : Aside0 (Kd.R (Kd.int .i64) 3 w24 w.heap.size (fun _ => True) v354 x5_1) := ⟨(by rw [hw]; exact (by (with_reducible repeat (first | apply Kd.R_alloc | apply Kd.R_drewN | apply Kd.R_drew)); exact Kd.R_mono (Kd.R_far (p := ⟨gb358, 3, none⟩) (Kd.R_far (p := ⟨gb358, 2, none⟩) (Kd.R_far (p := ⟨gb358, 1, none⟩) (Kd.R_far (p := ⟨gb358, 0, none⟩) (Kd.R_types HO_5.out BK358.out (by decide)) (fun _ hk => hk.2) (.int .i64 x6_1)) (fun _ hk => hk.2) (.slice none 0 0)) (fun _ hk => hk.2) (.slice none 0 0)) (fun _ hk => hk.2) (.slice none 0 0)) (fun _ hk => trivial)))⟩; have n1_ : Aside0 (w24.heap[gb351]? = some (.cells #[.int .i64 a0_0, .slice A0_1 l0_1.length c0_1, .slice A0_2 l0_2.length c0_2, .slice A0_3 l0_3.length c0_3] 30 (0, 0))) := ⟨(by rw [hw]; exact (by (with_reducible repeat (first | refine blk_drewN ?_ _ | refine blk_drew ?_ | refine blk_alloc ?_ _)); refine blk_far ?_ NB351_358.out _; (with_reducible repeat (first | refine blk_drewN ?_ _ | refine blk_drew ?_ | refine blk_alloc ?_ _)); refine blk_far ?_ NB351_358.out _; (with_reducible repeat (first | refine blk_drewN ?_ _ | refine blk_drew ?_ | refine blk_alloc ?_ _)); refine blk_far ?_ NB351_358.out _; (with_reducible repeat (first | refine blk_drewN ?_ _ | refine blk_drew ?_ | refine blk_alloc ?_ _)); refine blk_far ?_ NB351_358.out _; (with_reducible repeat (first | refine blk_drewN ?_ _ | refine blk_drew ?_ | refine blk_alloc ?_ _)); exact BK351.out))⟩; have n2_ : Aside0 (w24.heap[gb352]? = some (.cells #[.int .i64 0, .slice none 0 0, .slice none 0 0, .slice none 0 0] 30 (0, 0))) := ⟨(by rw [hw]; exact (by (with_reducible repeat (first | refine blk_drewN ?_ _ | refine blk_drew ?_ | refine blk_alloc ?_ _)); refine blk_far ?_ NB352_358.out _; (with_reducible repeat (first | refine blk_drewN ?_ _ | refine blk_drew ?_ | refine blk_alloc ?_ _)); refine blk_far ?_ NB352_358.out _; (with_reducible repeat (first | refine blk_drewN ?_ _ | refine blk_drew ?_ | refine blk_alloc ?_ _)); refine blk_far ?_ NB352_358.out _; (with_reducible repeat (first | refine blk_drewN ?_ _ | refine blk_drew ?_ | refine blk_alloc ?_ _)); refine blk_far ?_ NB352_358.out _; (with_reducible repeat (first | refine blk_drewN ?_ _ | refine blk_drew ?_ | refine blk_alloc ?_ _)); exact BK352.out))⟩; have n3_ : Aside0 (w24.heap[gb358]? = some (.cells #[.int .i64 x6_1, .slice none 0 0, .slice none 0 0, .slice none 0 0] 30 (0, 0))) := ⟨(by rw [hw]; exact (by (with_reducible repeat (first | refine blk_drewN ?_ _ | refine blk_drew ?_ | refine blk_alloc ?_ _)); refine blk_put (cs := #[.int .i64 x6_1, .slice none 0 0, .slice none 0 0, .slice none 0 0]) ?_ 3 _ rfl; (with_reducible repeat (first | refine blk_drewN ?_ _ | refine blk_drew ?_ | refine blk_alloc ?_ _)); refine blk_put (cs := #[.int .i64 x6_1, .slice none 0 0, .slice none 0 0, .slice none 0 0]) ?_ 2 _ rfl; (with_reducible repeat (first | refine blk_drewN ?_ _ | refine blk_drew ?_ | refine blk_alloc ?_ _)); refine blk_put (cs := #[.int .i64 x6_1, .slice none 0 0, .slice none 0 0, .slice none 0 0]) ?_ 1 _ rfl; (with_reducible repeat (first | refine blk_drewN ?_ _ | refine blk_drew ?_ | refine blk_alloc ?_ _)); refine blk_put (cs := #[.int .i64 0, .slice none 0 0, .slice none 0 0, .slice none 0 0]) ?_ 0 _ rfl; (with_reducible repeat (first | refine blk_drewN ?_ _ | refine blk_drew ?_ | refine blk_alloc ?_ _)); exact BK358.out))⟩; have n4_ : Aside0 (Below w.heap.size w w24) := ⟨(by rw [hw]; exact pb_)⟩; clear hw; clear HO_5; clear BK351; clear BK352; clear BK358; clear HB; have HO_5 := n0_; have BK351 := n1_; have BK352 := n2_; have BK358 := n3_; have HB := n4_; clear n0_ n1_ n2_ n3_ n4_; have hnb25 := NB351_352.out; have hnc25 := NB352_351.out; have hcz26_0 := bc0 BK351.out; have hcz26_1 := bc1 BK351.out; have hcz26_2 := bc2 BK351.out; have hcz26_3 := bc3 BK351.out; have hfz26_0 := blk_frozen BK351.out 0; have hfz26_1 := blk_frozen BK351.out 1; have hfz26_2 := blk_frozen BK351.out 2; have hfz26_3 := blk_frozen BK351.out 3))
      go_loopg [38] k1 (fun kq v38 w' => ∃ (x38_2 : Int) (x359001_2 : List (S46)) (u359001 : Value), v38 = .int .i64 x38_2 ∧ Aside0 (spec_lhMove.l1 kq l1 x5_1 l0_1 (l0_1.length : Int) x38_2 a0_0 l0_1 l0_2 l0_3 x6_1 x359001_2 = some (r1, r2, r3, r4)) ∧ Aside0 (kq ≤ k1) ∧ Aside0 (Kd.R (Kd.int .i64) 3 w' w.heap.size (fun _ => True) v354 x5_1) ∧ Aside0 (Kd.R k46 46 w' w.heap.size (fun _ => True) u359001 x359001_2) ∧ Aside0 (w'.heap[gb351]? = some (.cells #[.int .i64 a0_0, (.slice A0_1 l0_1.length c0_1), (.slice A0_2 l0_2.length c0_2), (.slice A0_3 l0_3.length c0_3)] 30 (0, 0))) ∧ Aside0 (w'.heap[gb352]? = some (.cells #[.int .i64 0, (.slice none 0 0), (.slice none 0 0), (.slice none 0 0)] 30 (0, 0))) ∧ Aside0 (w'.heap[gb358]? = some (.cells #[.int .i64 x6_1, u359001, (.slice none 0 0), (.slice none 0 0)] 30 (0, 0))) ∧ Aside0 (Below w.heap.size w w'))
      case atStart => exact ⟨(0), (([] : List (S46))), (.slice none 0 0), (by first | rfl | (simp; done) | (simp [*]; done)), H', ⟨Nat.le_refl _⟩, ⟨by (with_reducible repeat (first | apply Kd.R_alloc | apply Kd.R_drewN | apply Kd.R_drew)); exact HO_5.out⟩, ⟨by first | exact Kd.R_nil _ _ _ _ _ | exact Kd.N_nil _ _ _ _ _ | exact Kd.V_nil _ _ _ _ _ | exact Kd.Q_nil _ _ _ _ _ | exact Kd.S_nil _ _ _ _ _⟩, ⟨pk_ BK351.out⟩, ⟨pk_ BK352.out⟩, ⟨pk_ BK358.out⟩, ⟨pb_⟩⟩
      case round =>
       clear H'
       try clear c1
       try clear p1
       try clear q1
       try clear hx1
       try clear c2
       try clear p2
       try clear c3
       try clear c3b0
       try clear c3b1
       try clear p3
       try clear q3
       try clear hx3
       try clear c4
       try clear c4b0
       try clear c4b1
       try clear c5
       try clear p6
       try clear c7
       try clear c11
       try clear c11b0
       try clear c12
       try clear c12b0
       try clear c13
       try clear c13b0
       try clear q14
       try clear c15
       try clear c16
       try clear c16b0
       try clear p17
       try clear q17
       try clear hx17
       try clear hf17
       try clear c21
       try clear c22
       try clear c25
       try clear hcz23_0
       try clear hcz23_1
       try clear hcz23_2
       try clear hcz23_3
       try clear hcz26_0
       try clear hcz26_1
       try clear hcz26_2
       try clear hcz26_3
       try clear hcz8_0
       try clear hcz8_1
       try clear hcz8_2
       try clear hcz8_3
       try clear hfz23_0
       try clear hfz23_1
       try clear hfz23_2
       try clear hfz23_3
       try clear hfz26_0
       try clear hfz26_1
       try clear hfz26_2
       try clear hfz26_3
       try clear hfz8_0
       try clear hfz8_1
       try clear hfz8_2
       try clear hfz8_3
       try clear hx17_0
       try clear hx356_0
       try clear p17
       try clear p2
       try clear p356
       try clear q17
       try clear q356
       obtain ⟨x38_2, x359001_2, u359001, rfl, HA, HK2, HO_5, HO_359001, BK351, BK352, BK358, HB⟩ := hrel
       cases gk with
       | zero => exact absurd HA.out (by simp [spec_lhMove.l1])
       | succ k2 =>
        have H := HA.out
        clear HA
        simp only [spec_lhMove.l1] at H
        by_cases c27 : x38_2 < (l0_1.length : Int)
        ·rw [if_pos c27] at H
         have c27b0 : decide (x38_2 < (l0_1.length : Int)) = true := decide_eq_true c27
         clear c27
         by_cases c28 : 0 ≤ x38_2
         ·rw [if_pos c28] at H
          have c28b0 : decide (0 ≤ x38_2) = true := decide_eq_true c28
          clear c28
          by_cases c29 : x38_2 < (l0_1.length : Int)
          ·rw [if_pos c29] at H
           have c29b0 : decide (x38_2 < (l0_1.length : Int)) = true := decide_eq_true c29
           clear c29
           by_cases c30 : x38_2 < (l1.length : Int)
           ·rw [if_pos c30] at H
            have c30b0 : decide (x38_2 < (l1.length : Int)) = true := decide_eq_true c30
            clear c30
            obtain ⟨bq31, hbq31⟩ : ∃ b_ : Bool, b_ = (rdOf false l1 x38_2) := ⟨_, rfl⟩
            replace H : (if bq31 = true then (if (rd_T46 l0_1 x38_2).f0 = true then (if x359001_2.length < 4398046511104 then (spec_lhMove.l1 k2 l1 x5_1 l0_1 (l0_1.length : Int) (wrap64 (x38_2 + 1)) a0_0 l0_1 l0_2 l0_3 x6_1 (x359001_2 ++ [(⟨(rd_T46 l0_1 x38_2).f0, (rd_T46 l0_1 x38_2).f1, (rd_T46 l0_1 x38_2).f2, (rd_T46 l0_1 x38_2).f3⟩ : S46)])) else (none)) else (if 0 ≤ ((rd_T46 l0_1 x38_2).f2) then (if ((rd_T46 l0_1 x38_2).f2) < (x5_1.length : Int) then (if 0 ≤ ((rd_T46 l0_1 x38_2).f3) then (if ((rd_T46 l0_1 x38_2).f3) < (x5_1.length : Int) then (if x359001_2.length < 4398046511104 then (spec_lhMove.l1 k2 l1 x5_1 l0_1 (l0_1.length : Int) (wrap64 (x38_2 + 1)) a0_0 l0_1 l0_2 l0_3 x6_1 (x359001_2 ++ [(⟨(rd_T46 l0_1 x38_2).f0, (rd_T46 l0_1 x38_2).f1, rd x5_1 ((rd_T46 l0_1 x38_2).f2), rd x5_1 ((rd_T46 l0_1 x38_2).f3)⟩ : S46)])) else (none)) else (none)) else (none)) else (none)) else (none))) else (spec_lhMove.l1 k2 l1 x5_1 l0_1 (l0_1.length : Int) (wrap64 (x38_2 + 1)) a0_0 l0_1 l0_2 l0_3 x6_1 x359001_2)) = some (r1, r2, r3, r4) := by rw [← hbq31] at H; exact H
            have Nbq31 := Aside0.mk hbq31
            clear hbq31
            by_cases c32 : bq31 = true
            ·subst c32
             have H1 : (if (rd_T46 l0_1 x38_2).f0 = true then (if x359001_2.length < 4398046511104 then (spec_lhMove.l1 k2 l1 x5_1 l0_1 (l0_1.length : Int) (wrap64 (x38_2 + 1)) a0_0 l0_1 l0_2 l0_3 x6_1 (x359001_2 ++ [(⟨(rd_T46 l0_1 x38_2).f0, (rd_T46 l0_1 x38_2).f1, (rd_T46 l0_1 x38_2).f2, (rd_T46 l0_1 x38_2).f3⟩ : S46)])) else (none)) else (if 0 ≤ ((rd_T46 l0_1 x38_2).f2) then (if ((rd_T46 l0_1 x38_2).f2) < (x5_1.length : Int) then (if 0 ≤ ((rd_T46 l0_1 x38_2).f3) then (if ((rd_T46 l0_1 x38_2).f3) < (x5_1.length : Int) then (if x359001_2.length < 4398046511104 then (spec_lhMove.l1 k2 l1 x5_1 l0_1 (l0_1.length : Int) (wrap64 (x38_2 + 1)) a0_0 l0_1 l0_2 l0_3 x6_1 (x359001_2 ++ [(⟨(rd_T46 l0_1 x38_2).f0, (rd_T46 l0_1 x38_2).f1, rd x5_1 ((rd_T46 l0_1 x38_2).f2), rd x5_1 ((rd_T46 l0_1 x38_2).f3)⟩ : S46)])) else (none)) else (none)) else (none)) else (none)) else (none))) = some (r1, r2, r3, r4) := by rw [if_pos rfl] at H; exact H
             clear H
             have H := H1
             clear H1
             obtain ⟨bq33, hbq33⟩ : ∃ b_ : Bool, b_ = ((rd_T46 l0_1 x38_2).f0) := ⟨_, rfl⟩
             replace H : (if bq33 = true then (if x359001_2.length < 4398046511104 then (spec_lhMove.l1 k2 l1 x5_1 l0_1 (l0_1.length : Int) (wrap64 (x38_2 + 1)) a0_0 l0_1 l0_2 l0_3 x6_1 (x359001_2 ++ [(⟨bq33, (rd_T46 l0_1 x38_2).f1, (rd_T46 l0_1 x38_2).f2, (rd_T46 l0_1 x38_2).f3⟩ : S46)])) else (none)) else (if 0 ≤ ((rd_T46 l0_1 x38_2).f2) then (if ((rd_T46 l0_1 x38_2).f2) < (x5_1.length : Int) then (if 0 ≤ ((rd_T46 l0_1 x38_2).f3) then (if ((rd_T46 l0_1 x38_2).f3) < (x5_1.length : Int) then (if x359001_2.length < 4398046511104 then (spec_lhMove.l1 k2 l1 x5_1 l0_1 (l0_1.length : Int) (wrap64 (x38_2 + 1)) a0_0 l0_1 l0_2 l0_3 x6_1 (x359001_2 ++ [(⟨bq33, (rd_T46 l0_1 x38_2).f1, rd x5_1 ((rd_T46 l0_1 x38_2).f2), rd x5_1 ((rd_T46 l0_1 x38_2).f3)⟩ : S46)])) else (none)) else (none)) else (none)) else (none)) else (none))) = some (r1, r2, r3, r4) := by rw [← hbq33] at H; exact H
             have Nbq33 := Aside0.mk hbq33
             clear hbq33
             by_cases c34 : bq33 = true
             ·subst c34
              have H1 : (if x359001_2.length < 4398046511104 then (spec_lhMove.l1 k2 l1 x5_1 l0_1 (l0_1.length : Int) (wrap64 (x38_2 + 1)) a0_0 l0_1 l0_2 l0_3 x6_1 (x359001_2 ++ [(⟨true, (rd_T46 l0_1 x38_2).f1, (rd_T46 l0_1 x38_2).f2, (rd_T46 l0_1 x38_2).f3⟩ : S46)])) else (none)) = some (r1, r2, r3, r4) := by rw [if_pos rfl] at H; exact H
              clear H
              have H := H1
              clear H1
              by_cases c35 : x359001_2.length < 4398046511104
              ·rw [if_pos c35] at H
               have LMc35 := Aside0.mk c35
               clear c35
               obtain ⟨y362, hy362⟩ : ∃ y_ : List (S46), y_ = (x359001_2 ++ [(⟨true, (rd_T46 l0_1 x38_2).f1, (rd_T46 l0_1 x38_2).f2, (rd_T46 l0_1 x38_2).f3⟩ : S46)]) := ⟨_, rfl⟩
               replace H : (spec_lhMove.l1 k2 l1 x5_1 l0_1 (l0_1.length : Int) (wrap64 (x38_2 + 1)) a0_0 l0_1 l0_2 l0_3 x6_1 y362) = some (r1, r2, r3, r4) := by first | (rw [hy362]; with_reducible exact H) | (have H2_ := (Option.bind_some _ _).symm.trans H; rw [hy362]; with_reducible exact H2_) | (have H2_ := (Option.bind_some _ _).symm.trans H; with_reducible exact H2_) | with_reducible exact H | (rw [hy362]; exact H) | exact H
               have Ny362 := Aside0.mk hy362
               clear hy362
               have H' := Aside0.mk H
               clear H
               have p359 : 0 ≤ (x38_2 : Int) := of_decide_eq_true (by first | (with_reducible assumption) | assumption)
               have q359 : x38_2 < (l0_1.length : Int) := of_decide_eq_true (by first | (with_reducible assumption) | assumption)
               obtain ⟨ad359, e359, hx359_0, hx359_1, hx359_2, hx359_3⟩ := at_T46 HR0_1.out x38_2 p359 q359
               (try rw [← Nbq31.out] at hx359_0)
               (try rw [← Nbq33.out] at hx359_0)
               cases e359
               replace hx359_0 := (HB.out.cell (World.block_lt_of_cell? w _ hx359_0)).trans hx359_0
               replace hx359_1 := (HB.out.cell (World.block_lt_of_cell? w _ hx359_1)).trans hx359_1
               replace hx359_2 := (HB.out.cell (World.block_lt_of_cell? w _ hx359_2)).trans hx359_2
               replace hx359_3 := (HB.out.cell (World.block_lt_of_cell? w _ hx359_3)).trans hx359_3
               replace p359 := eq_true p359
               replace q359 := eq_true q359
               go_wp2_with (first | ((with_reducible refine gate_dst (N := 11) rfl ?_); refine box_event ?hg (N := 11) ?hd (cs := #[.bool false, .int .i64 0, .int .i64 0, .int .i64 0]) (t := 46) ?hr ?_; (case hd => rfl); (case hg => rfl); (case hr => first | (go_simp; done) | (go_simp; rfl)); intro gb360 hg w36 hbox hb; have n0_ := Aside0.mk (Kd.R_below (pr_ HO_5.out) hb); have n1_ := Aside0.mk (Kd.R_below (Kd.R_elderB (pr_ HO_359001.out) gb360 (Nat.le_of_eq hg.symm)) hb); have n2_ := Aside0.mk (blk_below (pk_ BK351.out) hb); have n3_ := Aside0.mk (blk_below (pk_ BK352.out) hb); have n4_ := Aside0.mk (blk_below (pk_ BK358.out) hb); have n5_ := Aside0.mk (below_step pb_ hb); have n6_ := Aside0.mk (hbox); have n7_ := Aside0.mk ((by rw [hg]; exact (below_size pb_) : w.heap.size ≤ gb360)); have n8_ := Aside0.mk ((by rw [hg]; exact (below_size pb_) : w.heap.size ≤ gb360)); have n9_ := Aside0.mk ((by rw [hg]; exact Nat.ne_of_lt (blk_lt (pk_ BK351.out)) : gb351 ≠ gb360)); have n10_ := Aside0.mk ((by rw [hg]; exact Nat.ne_of_gt (blk_lt (pk_ BK351.out)) : gb360 ≠ gb351)); have n11_ := Aside0.mk ((by rw [hg]; exact Nat.ne_of_lt (blk_lt (pk_ BK352.out)) : gb352 ≠ gb360)); have n12_ := Aside0.mk ((by rw [hg]; exact Nat.ne_of_gt (blk_lt (pk_ BK352.out)) : gb360 ≠ gb352)); have n13_ := Aside0.mk ((by rw [hg]; exact Nat.ne_of_lt (blk_lt (pk_ BK358.out)) : gb358 ≠ gb360)); have n14_ := Aside0.mk ((by rw [hg]; exact Nat.ne_of_gt (blk_lt (pk_ BK358.out)) : gb360 ≠ gb358)); clear HO_5; clear HO_359001; clear BK351; clear BK352; clear BK358; clear HB; have HO_5 := n0_; have HO_359001 := n1_; have BK351 := n2_; have BK352 := n3_; have BK358 := n4_; have HB := n5_; have BK360 := n6_; have GW360 := n7_; have GE360 := n8_; have NB351_360 := n9_; have NB360_351 := n10_; have NB352_360 := n11_; have NB360_352 := n12_; have NB358_360 := n13_; have NB360_358 := n14_; clear n0_ n1_ n2_ n3_ n4_ n5_ n6_ n7_ n8_ n9_ n10_ n11_ n12_ n13_ n14_; clear hb hbox hg; have hnb37 := NB360_351.out; have hnc37 := NB351_360.out; have hnb38 := NB360_352.out; have hnc38 := NB352_360.out; have hnb39 := NB360_358.out; have hnc39 := NB358_360.out; have hcz40_0 := bc0 BK360.out; have hcz40_1 := bc1 BK360.out; have hcz40_2 := bc2 BK360.out; have hcz40_3 := bc3 BK360.out; have hfz40_0 := blk_frozen BK360.out 0; have hfz40_1 := blk_frozen BK360.out 1; have hfz40_2 := blk_frozen BK360.out 2; have hfz40_3 := blk_frozen BK360.out 3) | ((with_reducible refine gate_store (t := 46) (p := 11) rfl ?_); refine store_event (t := 46) (p := 11) (v := ?vo_w41) (w1 := ((((w36.setCell ⟨gb360, 0, none⟩ (.bool true)).setCell ⟨gb360, 1, none⟩ (.int .i64 ((rd_T46 l0_1 x38_2).f1))).setCell ⟨gb360, 2, none⟩ (.int .i64 ((rd_T46 l0_1 x38_2).f2))).setCell ⟨gb360, 3, none⟩ (.int .i64 ((rd_T46 l0_1 x38_2).f3)))) ?hg ?ho ?hn ?hr ?_; (case ho => rfl); (case hg => rfl); (case hn => rfl); (case hr => first | (go_simp; done) | (go_simp; rfl)); intro w41 hw; have n0_ : Aside0 (Kd.R (Kd.int .i64) 3 w41 w.heap.size (fun _ => True) v354 x5_1) := ⟨(by rw [hw]; exact (by (with_reducible repeat (first | apply Kd.R_alloc | apply Kd.R_drewN | apply Kd.R_drew)); exact Kd.R_mono (Kd.R_far (p := ⟨gb360, 3, none⟩) (Kd.R_far (p := ⟨gb360, 2, none⟩) (Kd.R_far (p := ⟨gb360, 1, none⟩) (Kd.R_far (p := ⟨gb360, 0, none⟩) (Kd.R_types HO_5.out BK360.out (by decide)) (fun _ hk => hk.2) (.bool true)) (fun _ hk => hk.2) (.int .i64 ((rd_T46 l0_1 x38_2).f1))) (fun _ hk => hk.2) (.int .i64 ((rd_T46 l0_1 x38_2).f2))) (fun _ hk => hk.2) (.int .i64 ((rd_T46 l0_1 x38_2).f3))) (fun _ hk => trivial)))⟩; have n1_ : Aside0 (Kd.R k46 46 w41 w.heap.size (fun k_ => k_ ≠ gb360) u359001 x359001_2) := ⟨(by rw [hw]; exact (by (with_reducible repeat (first | apply Kd.R_alloc | apply Kd.R_drewN | apply Kd.R_drew)); exact Kd.R_mono (Kd.R_far (p := ⟨gb360, 3, none⟩) (Kd.R_far (p := ⟨gb360, 2, none⟩) (Kd.R_far (p := ⟨gb360, 1, none⟩) (Kd.R_far (p := ⟨gb360, 0, none⟩) (Kd.R_mono HO_359001.out (fun k_ hk => (⟨hk, hk.2⟩ : _ ∧ k_ ≠ gb360))) (fun _ hk => hk.2) (.bool true)) (fun _ hk => hk.2) (.int .i64 ((rd_T46 l0_1 x38_2).f1))) (fun _ hk => hk.2) (.int .i64 ((rd_T46 l0_1 x38_2).f2))) (fun _ hk => hk.2) (.int .i64 ((rd_T46 l0_1 x38_2).f3))) (fun _ hk => hk.1.2)))⟩; have n2_ : Aside0 (w41.heap[gb351]? = some (.cells #[.int .i64 a0_0, .slice (some ad359) l0_1.length c0_1, .slice A0_2 l0_2.length c0_2, .slice A0_3 l0_3.length c0_3] 30 (0, 0))) := ⟨(by rw [hw]; exact (by (with_reducible repeat (first | refine blk_drewN ?_ _ | refine blk_drew ?_ | refine blk_alloc ?_ _)); refine blk_far ?_ NB351_360.out _; (with_reducible repeat (first | refine blk_drewN ?_ _ | refine blk_drew ?_ | refine blk_alloc ?_ _)); refine blk_far ?_ NB351_360.out _; (with_reducible repeat (first | refine blk_drewN ?_ _ | refine blk_drew ?_ | refine blk_alloc ?_ _)); refine blk_far ?_ NB351_360.out _; (with_reducible repeat (first | refine blk_drewN ?_ _ | refine blk_drew ?_ | refine blk_alloc ?_ _)); refine blk_far ?_ NB351_360.out _; (with_reducible repeat (first | refine blk_drewN ?_ _ | refine blk_drew ?_ | refine blk_alloc ?_ _)); exact BK351.out))⟩; have n3_ : Aside0 (w41.heap[gb352]? = some (.cells #[.int .i64 0, .slice none 0 0, .slice none 0 0, .slice none 0 0] 30 (0, 0))) := ⟨(by rw [hw]; exact (by (with_reducible repeat (first | refine blk_drewN ?_ _ | refine blk_drew ?_ | refine blk_alloc ?_ _)); refine blk_far ?_ NB352_360.out _; (with_reducible repeat (first | refine blk_drewN ?_ _ | refine blk_drew ?_ | refine blk_alloc ?_ _)); refine blk_far ?_ NB352_360.out _; (with_reducible repeat (first | refine blk_drewN ?_ _ | refine blk_drew ?_ | refine blk_alloc ?_ _)); refine blk_far ?_ NB352_360.out _; (with_reducible repeat (first | refine blk_drewN ?_ _ | refine blk_drew ?_ | refine blk_alloc ?_ _)); refine blk_far ?_ NB352_360.out _; (with_reducible repeat (first | refine blk_drewN ?_ _ | refine blk_drew ?_ | refine blk_alloc ?_ _)); exact BK352.out))⟩; have n4_ : Aside0 (w41.heap[gb358]? = some (.cells #[.int .i64 x6_1, u359001, .slice none 0 0, .slice none 0 0] 30 (0, 0))) := ⟨(by rw [hw]; exact (by (with_reducible repeat (first | refine blk_drewN ?_ _ | refine blk_drew ?_ | refine blk_alloc ?_ _)); refine blk_far ?_ NB358_360.out _; (with_reducible repeat (first | refine blk_drewN ?_ _ | refine blk_drew ?_ | refine blk_alloc ?_ _)); refine blk_far ?_ NB358_360.out _; (with_reducible repeat (first | refine blk_drewN ?_ _ | refine blk_drew ?_ | refine blk_alloc ?_ _)); refine blk_far ?_ NB358_360.out _; (with_reducible repeat (first | refine blk_drewN ?_ _ | refine blk_drew ?_ | refine blk_alloc ?_ _)); refine blk_far ?_ NB358_360.out _; (with_reducible repeat (first | refine blk_drewN ?_ _ | refine blk_drew ?_ | refine blk_alloc ?_ _)); exact BK358.out))⟩; have n5_ : Aside0 (w41.heap[gb360]? = some (.cells #[.bool true, .int .i64 ((rd_T46 l0_1 x38_2).f1), .int .i64 ((rd_T46 l0_1 x38_2).f2), .int .i64 ((rd_T46 l0_1 x38_2).f3)] 46 (0, 0))) := ⟨(by rw [hw]; exact (by (with_reducible repeat (first | refine blk_drewN ?_ _ | refine blk_drew ?_ | refine blk_alloc ?_ _)); refine blk_put (cs := #[.bool true, .int .i64 ((rd_T46 l0_1 x38_2).f1), .int .i64 ((rd_T46 l0_1 x38_2).f2), .int .i64 0]) ?_ 3 _ rfl; (with_reducible repeat (first | refine blk_drewN ?_ _ | refine blk_drew ?_ | refine blk_alloc ?_ _)); refine blk_put (cs := #[.bool true, .int .i64 ((rd_T46 l0_1 x38_2).f1), .int .i64 0, .int .i64 0]) ?_ 2 _ rfl; (with_reducible repeat (first | refine blk_drewN ?_ _ | refine blk_drew ?_ | refine blk_alloc ?_ _)); refine blk_put (cs := #[.bool true, .int .i64 0, .int .i64 0, .int .i64 0]) ?_ 1 _ rfl; (with_reducible repeat (first | refine blk_drewN ?_ _ | refine blk_drew ?_ | refine blk_alloc ?_ _)); refine blk_put (cs := #[.bool false, .int .i64 0, .int .i64 0, .int .i64 0]) ?_ 0 _ rfl; (with_reducible repeat (first | refine blk_drewN ?_ _ | refine blk_drew ?_ | refine blk_alloc ?_ _)); exact BK360.out))⟩; have n6_ : Aside0 (Below w.heap.size w w41) := ⟨(by rw [hw]; exact pb_)⟩; clear hw; clear HO_5; clear HO_359001; clear BK351; clear BK352; clear BK358; clear BK360; clear HB; have HO_5 := n0_; have HO_359001 := n1_; have BK351 := n2_; have BK352 := n3_; have BK358 := n4_; have BK360 := n5_; have HB := n6_; clear n0_ n1_ n2_ n3_ n4_ n5_ n6_; have p361 : 0 ≤ (x38_2 : Int) := of_decide_eq_true (by first | (with_reducible assumption) | assumption); have q361 : x38_2 < (l1.length : Int) := of_decide_eq_true (by first | (with_reducible assumption) | assumption); obtain ⟨ad361, e361, hx361_0⟩ := Kd.at_bool HR1.out x38_2 p361 q361; (try rw [← Nbq31.out] at hx361_0); (try rw [← Nbq33.out] at hx361_0); cases e361; replace hx361_0 := (HB.out.cell (World.block_lt_of_cell? w _ hx361_0)).trans hx361_0; replace p361 := eq_true p361; replace q361 := eq_true q361; have hcz42_0 := bc0 BK360.out; have hcz42_1 := bc1 BK360.out; have hcz42_2 := bc2 BK360.out; have hcz42_3 := bc3 BK360.out; have hfz42_0 := blk_frozen BK360.out 0; have hfz42_1 := blk_frozen BK360.out 1; have hfz42_2 := blk_frozen BK360.out 2; have hfz42_3 := blk_frozen BK360.out 3; have hnb43 := NB358_351.out; have hnc43 := NB351_358.out; have hnb44 := NB358_352.out; have hnc44 := NB352_358.out; have hcz45_0 := bc0 BK358.out; have hcz45_1 := bc1 BK358.out; have hcz45_2 := bc2 BK358.out; have hcz45_3 := bc3 BK358.out; have hfz45_0 := blk_frozen BK358.out 0; have hfz45_1 := blk_frozen BK358.out 1; have hfz45_2 := blk_frozen BK358.out 2; have hfz45_3 := blk_frozen BK358.out 3) | ((with_reducible refine gate_builtin (b := .append) (xs := #[.tmp 64, .tmp 66]) rfl ?_); at_builtin; refine Kd.R_append k46 (w0 := w) w.heap.size rfl (.tmp 64) (.tmp 66) 28 46 (.agg #[(.bool false), (.int .i64 0), (.int .i64 0), (.int .i64 0)]) 32 rfl Try.underlying28 info46 rfl (by decide) (by omega) u359001 x359001_2 (⟨true, (rd_T46 l0_1 x38_2).f1, (rd_T46 l0_1 x38_2).f2, (rd_T46 l0_1 x38_2).f3⟩ : S46) [.bool true, .int .i64 ((rd_T46 l0_1 x38_2).f1), .int .i64 ((rd_T46 l0_1 x38_2).f2), .int .i64 ((rd_T46 l0_1 x38_2).f3)] (fun k_ => k_ ≠ gb360) (fun _ => False) rfl rfl ?aP (fun _ hk => hk.elim) ?aF ?aO ?aB ?aS ?aL ?_; (case aP => exact k46_mkM _ _ _ (⟨true, (rd_T46 l0_1 x38_2).f1, (rd_T46 l0_1 x38_2).f2, (rd_T46 l0_1 x38_2).f3⟩ : S46)); (case aB => exact pb_); (case aF => exact (fun k_ hk => Kd.freshB (g := gb360) (o := .cells #[.bool true, .int .i64 ((rd_T46 l0_1 x38_2).f1), .int .i64 ((rd_T46 l0_1 x38_2).f2), .int .i64 ((rd_T46 l0_1 x38_2).f3)] 46 (0, 0)) (pk_ BK360.out) k_ hk)); (case aO => exact (pr_ HO_359001.out)); (case aS => exact (below_size pb_)); (case aL => have := LMc35.out; omega); intro v363 w46 ho hb hg hat; rw [← Ny362.out] at ho; have n0_ := Aside0.mk (Kd.R_over' (pr_ HO_5.out) (Kd.R_typed (pr_ HO_359001.out)) (by decide) hg); have n1_ := Aside0.mk (blk_grown (g := gb351) (o := .cells #[.int .i64 a0_0, .slice (some ad359) l0_1.length c0_1, .slice A0_2 l0_2.length c0_2, .slice A0_3 l0_3.length c0_3] 30 (0, 0)) (pk_ BK351.out) hg (Kd.R_ne HO_359001.out BK351.out (by decide))); have n2_ := Aside0.mk (blk_grown (g := gb352) (o := .cells #[.int .i64 0, .slice none 0 0, .slice none 0 0, .slice none 0 0] 30 (0, 0)) (pk_ BK352.out) hg (Kd.R_ne HO_359001.out BK352.out (by decide))); have n3_ := Aside0.mk (blk_grown (g := gb358) (o := .cells #[.int .i64 x6_1, u359001, .slice none 0 0, .slice none 0 0] 30 (0, 0)) (pk_ BK358.out) hg (Kd.R_ne HO_359001.out BK358.out (by decide))); have n4_ := Aside0.mk (blk_grown (g := gb360) (o := .cells #[.bool true, .int .i64 ((rd_T46 l0_1 x38_2).f1), .int .i64 ((rd_T46 l0_1 x38_2).f2), .int .i64 ((rd_T46 l0_1 x38_2).f3)] 46 (0, 0)) (pk_ BK360.out) hg (Kd.R_away HO_359001.out (fun _ hk => hk))); have n5_ := Aside0.mk (hb); have n6_ := Aside0.mk (ho); clear HO_5; clear BK351; clear BK352; clear BK358; clear BK360; clear HB; clear HO_359001; have HO_5 := n0_; have BK351 := n1_; have BK352 := n2_; have BK358 := n3_; have BK360 := n4_; have HB := n5_; have HO364 := n6_; clear n0_ n1_ n2_ n3_ n4_ n5_ n6_; clear ho hb hg hat; obtain ⟨Ao47, co47, eo47⟩ := Kd.R_slice HO364.out; subst eo47; have hcz48_0 := bc0 BK358.out; have hcz48_1 := bc1 BK358.out; have hcz48_2 := bc2 BK358.out; have hcz48_3 := bc3 BK358.out; have hfz48_0 := blk_frozen BK358.out 0; have hfz48_1 := blk_frozen BK358.out 1; have hfz48_2 := blk_frozen BK358.out 2; have hfz48_3 := blk_frozen BK358.out 3))
               go_roundg k2
               case measure => have := HK1.out; have := HK2.out; omega
               case rel => exact ⟨(wrap64 (x38_2 + 1)), (y362), (.slice Ao47 y362.length co47), (by first | rfl | (simp; done) | (simp [*]; done)), H', ⟨by have := HK1.out; have := HK2.out; omega⟩, ⟨by (with_reducible repeat (first | apply Kd.R_alloc | apply Kd.R_drewN | apply Kd.R_drew)); exact Kd.R_mono (Kd.R_far (p := ⟨gb358, 1, none⟩) (Kd.R_types HO_5.out BK358.out (by decide)) (fun _ hk => hk.2) (.slice Ao47 y362.length co47)) (fun _ hk => trivial)⟩, ⟨by (with_reducible repeat (first | apply Kd.R_alloc | apply Kd.R_drewN | apply Kd.R_drew)); exact Kd.R_mono (Kd.R_far (p := ⟨gb358, 1, none⟩) (Kd.R_types HO364.out BK358.out (by decide)) (fun _ hk => hk.2) (.slice Ao47 y362.length co47)) (fun _ hk => trivial)⟩, ⟨by (with_reducible repeat (first | refine blk_drewN ?_ _ | refine blk_drew ?_ | refine blk_alloc ?_ _)); refine blk_far ?_ NB351_358.out _; (with_reducible repeat (first | refine blk_drewN ?_ _ | refine blk_drew ?_ | refine blk_alloc ?_ _)); exact BK351.out⟩, ⟨by (with_reducible repeat (first | refine blk_drewN ?_ _ | refine blk_drew ?_ | refine blk_alloc ?_ _)); refine blk_far ?_ NB352_358.out _; (with_reducible repeat (first | refine blk_drewN ?_ _ | refine blk_drew ?_ | refine blk_alloc ?_ _)); exact BK352.out⟩, ⟨by (with_reducible repeat (first | refine blk_drewN ?_ _ | refine blk_drew ?_ | refine blk_alloc ?_ _)); refine blk_put (cs := #[.int .i64 x6_1, u359001, .slice none 0 0, .slice none 0 0]) ?_ 1 _ rfl; (with_reducible repeat (first | refine blk_drewN ?_ _ | refine blk_drew ?_ | refine blk_alloc ?_ _)); exact BK358.out⟩, ⟨pb_⟩⟩
              ·rw [if_neg c35] at H
               exact absurd H (by simp)
             ·replace c34 := Bool.eq_false_iff.mpr c34
              subst c34
              have H1 : (if 0 ≤ ((rd_T46 l0_1 x38_2).f2) then (if ((rd_T46 l0_1 x38_2).f2) < (x5_1.length : Int) then (if 0 ≤ ((rd_T46 l0_1 x38_2).f3) then (if ((rd_T46 l0_1 x38_2).f3) < (x5_1.length : Int) then (if x359001_2.length < 4398046511104 then (spec_lhMove.l1 k2 l1 x5_1 l0_1 (l0_1.length : Int) (wrap64 (x38_2 + 1)) a0_0 l0_1 l0_2 l0_3 x6_1 (x359001_2 ++ [(⟨false, (rd_T46 l0_1 x38_2).f1, rd x5_1 ((rd_T46 l0_1 x38_2).f2), rd x5_1 ((rd_T46 l0_1 x38_2).f3)⟩ : S46)])) else (none)) else (none)) else (none)) else (none)) else (none)) = some (r1, r2, r3, r4) := by rw [if_neg (show ¬ (false = true) by decide)] at H; exact H
              clear H
              have H := H1
              clear H1
              by_cases c49 : 0 ≤ ((rd_T46 l0_1 x38_2).f2)
              ·rw [if_pos c49] at H
               have c49b0 : decide (0 ≤ ((rd_T46 l0_1 x38_2).f2)) = true := decide_eq_true c49
               clear c49
               by_cases c50 : ((rd_T46 l0_1 x38_2).f2) < (x5_1.length : Int)
               ·rw [if_pos c50] at H
                have c50b0 : decide (((rd_T46 l0_1 x38_2).f2) < (x5_1.length : Int)) = true := decide_eq_true c50
                clear c50
                by_cases c51 : 0 ≤ ((rd_T46 l0_1 x38_2).f3)
                ·rw [if_pos c51] at H
                 have c51b0 : decide (0 ≤ ((rd_T46 l0_1 x38_2).f3)) = true := decide_eq_true c51
                 clear c51
                 by_cases c52 : ((rd_T46 l0_1 x38_2).f3) < (x5_1.length : Int)
                 ·rw [if_pos c52] at H
                  have c52b0 : decide (((rd_T46 l0_1 x38_2).f3) < (x5_1.length : Int)) = true := decide_eq_true c52
                  clear c52
                  by_cases c53 : x359001_2.length < 4398046511104
                  ·rw [if_pos c53] at H
                   have LMc53 := Aside0.mk c53
                   clear c53
                   obtain ⟨y367, hy367⟩ : ∃ y_ : List (S46), y_ = (x359001_2 ++ [(⟨false, (rd_T46 l0_1 x38_2).f1, rd x5_1 ((rd_T46 l0_1 x38_2).f2), rd x5_1 ((rd_T46 l0_1 x38_2).f3)⟩ : S46)]) := ⟨_, rfl⟩
                   replace H : (spec_lhMove.l1 k2 l1 x5_1 l0_1 (l0_1.length : Int) (wrap64 (x38_2 + 1)) a0_0 l0_1 l0_2 l0_3 x6_1 y367) = some (r1, r2, r3, r4) := by first | (rw [hy367]; with_reducible exact H) | (have H2_ := (Option.bind_some _ _).symm.trans H; rw [hy367]; with_reducible exact H2_) | (have H2_ := (Option.bind_some _ _).symm.trans H; with_reducible exact H2_) | with_reducible exact H | (rw [hy367]; exact H) | exact H
                   have Ny367 := Aside0.mk hy367
                   clear hy367
                   have H' := Aside0.mk H
                   clear H
                   have p359 : 0 ≤ (x38_2 : Int) := of_decide_eq_true (by first | (with_reducible assumption) | assumption)
                   have q359 : x38_2 < (l0_1.length : Int) := of_decide_eq_true (by first | (with_reducible assumption) | assumption)
                   obtain ⟨ad359, e359, hx359_0, hx359_1, hx359_2, hx359_3⟩ := at_T46 HR0_1.out x38_2 p359 q359
                   (try rw [← Nbq31.out] at hx359_0)
                   (try rw [← Nbq33.out] at hx359_0)
                   cases e359
                   replace hx359_0 := (HB.out.cell (World.block_lt_of_cell? w _ hx359_0)).trans hx359_0
                   replace hx359_1 := (HB.out.cell (World.block_lt_of_cell? w _ hx359_1)).trans hx359_1
                   replace hx359_2 := (HB.out.cell (World.block_lt_of_cell? w _ hx359_2)).trans hx359_2
                   replace hx359_3 := (HB.out.cell (World.block_lt_of_cell? w _ hx359_3)).trans hx359_3
                   replace p359 := eq_true p359
                   replace q359 := eq_true q359
                   go_wp2_with (first | ((with_reducible refine gate_dst (N := 11) rfl ?_); refine box_event ?hg (N := 11) ?hd (cs := #[.bool false, .int .i64 0, .int .i64 0, .int .i64 0]) (t := 46) ?hr ?_; (case hd => rfl); (case hg => rfl); (case hr => first | (go_simp; done) | (go_simp; rfl)); intro gb360 hg w54 hbox hb; have n0_ := Aside0.mk (Kd.R_below (pr_ HO_5.out) hb); have n1_ := Aside0.mk (Kd.R_below (Kd.R_elderB (pr_ HO_359001.out) gb360 (Nat.le_of_eq hg.symm)) hb); have n2_ := Aside0.mk (blk_below (pk_ BK351.out) hb); have n3_ := Aside0.mk (blk_below (pk_ BK352.out) hb); have n4_ := Aside0.mk (blk_below (pk_ BK358.out) hb); have n5_ := Aside0.mk (below_step pb_ hb); have n6_ := Aside0.mk (hbox); have n7_ := Aside0.mk ((by rw [hg]; exact (below_size pb_) : w.heap.size ≤ gb360)); have n8_ := Aside0.mk ((by rw [hg]; exact (below_size pb_) : w.heap.size ≤ gb360)); have n9_ := Aside0.mk ((by rw [hg]; exact Nat.ne_of_lt (blk_lt (pk_ BK351.out)) : gb351 ≠ gb360)); have n10_ := Aside0.mk ((by rw [hg]; exact Nat.ne_of_gt (blk_lt (pk_ BK351.out)) : gb360 ≠ gb351)); have n11_ := Aside0.mk ((by rw [hg]; exact Nat.ne_of_lt (blk_lt (pk_ BK352.out)) : gb352 ≠ gb360)); have n12_ := Aside0.mk ((by rw [hg]; exact Nat.ne_of_gt (blk_lt (pk_ BK352.out)) : gb360 ≠ gb352)); have n13_ := Aside0.mk ((by rw [hg]; exact Nat.ne_of_lt (blk_lt (pk_ BK358.out)) : gb358 ≠ gb360)); have n14_ := Aside0.mk ((by rw [hg]; exact Nat.ne_of_gt (blk_lt (pk_ BK358.out)) : gb360 ≠ gb358)); clear HO_5; clear HO_359001; clear BK351; clear BK352; clear BK358; clear HB; have HO_5 := n0_; have HO_359001 := n1_; have BK351 := n2_; have BK352 := n3_; have BK358 := n4_; have HB := n5_; have BK360 := n6_; have GW360 := n7_; have GE360 := n8_; have NB351_360 := n9_; have NB360_351 := n10_; have NB352_360 := n11_; have NB360_352 := n12_; have NB358_360 := n13_; have NB360_358 := n14_; clear n0_ n1_ n2_ n3_ n4_ n5_ n6_ n7_ n8_ n9_ n10_ n11_ n12_ n13_ n14_; clear hb hbox hg; have hnb55 := NB360_351.out; have hnc55 := NB351_360.out; have hnb56 := NB360_352.out; have hnc56 := NB352_360.out; have hnb57 := NB360_358.out; have hnc57 := NB358_360.out; have hcz58_0 := bc0 BK360.out; have hcz58_1 := bc1 BK360.out; have hcz58_2 := bc2 BK360.out; have hcz58_3 := bc3 BK360.out; have hfz58_0 := blk_frozen BK360.out 0; have hfz58_1 := blk_frozen BK360.out 1; have hfz58_2 := blk_frozen BK360.out 2; have hfz58_3 := blk_frozen BK360.out 3) | ((with_reducible refine gate_store (t := 46) (p := 11) rfl ?_); refine store_event (t := 46) (p := 11) (v := ?vo_w59) (w1 := ((((w54.setCell ⟨gb360, 0, none⟩ (.bool false)).setCell ⟨gb360, 1, none⟩ (.int .i64 ((rd_T46 l0_1 x38_2).f1))).setCell ⟨gb360, 2, none⟩ (.int .i64 ((rd_T46 l0_1 x38_2).f2))).setCell ⟨gb360, 3, none⟩ (.int .i64 ((rd_T46 l0_1 x38_2).f3)))) ?hg ?ho ?hn ?hr ?_; (case ho => rfl); (case hg => rfl); (case hn => rfl); (case hr => first | (go_simp; done) | (go_simp; rfl)); intro w59 hw; have n0_ : Aside0 (Kd.R (Kd.int .i64) 3 w59 w.heap.size (fun _ => True) v354 x5_1) := ⟨(by rw [hw]; exact (by (with_reducible repeat (first | apply Kd.R_alloc | apply Kd.R_drewN | apply Kd.R_drew)); exact Kd.R_mono (Kd.R_far (p := ⟨gb360, 3, none⟩) (Kd.R_far (p := ⟨gb360, 2, none⟩) (Kd.R_far (p := ⟨gb360, 1, none⟩) (Kd.R_far (p := ⟨gb360, 0, none⟩) (Kd.R_types HO_5.out BK360.out (by decide)) (fun _ hk => hk.2) (.bool false)) (fun _ hk => hk.2) (.int .i64 ((rd_T46 l0_1 x38_2).f1))) (fun _ hk => hk.2) (.int .i64 ((rd_T46 l0_1 x38_2).f2))) (fun _ hk => hk.2) (.int .i64 ((rd_T46 l0_1 x38_2).f3))) (fun _ hk => trivial)))⟩; have n1_ : Aside0 (Kd.R k46 46 w59 w.heap.size (fun k_ => k_ ≠ gb360) u359001 x359001_2) := ⟨(by rw [hw]; exact (by (with_reducible repeat (first | apply Kd.R_alloc | apply Kd.R_drewN | apply Kd.R_drew)); exact Kd.R_mono (Kd.R_far (p := ⟨gb360, 3, none⟩) (Kd.R_far (p := ⟨gb360, 2, none⟩) (Kd.R_far (p := ⟨gb360, 1, none⟩) (Kd.R_far (p := ⟨gb360, 0, none⟩) (Kd.R_mono HO_359001.out (fun k_ hk => (⟨hk, hk.2⟩ : _ ∧ k_ ≠ gb360))) (fun _ hk => hk.2) (.bool false)) (fun _ hk => hk.2) (.int .i64 ((rd_T46 l0_1 x38_2).f1))) (fun _ hk => hk.2) (.int .i64 ((rd_T46 l0_1 x38_2).f2))) (fun _ hk => hk.2) (.int .i64 ((rd_T46 l0_1 x38_2).f3))) (fun _ hk => hk.1.2)))⟩; have n2_ : Aside0 (w59.heap[gb351]? = some (.cells #[.int .i64 a0_0, .slice (some ad359) l0_1.length c0_1, .slice A0_2 l0_2.length c0_2, .slice A0_3 l0_3.length c0_3] 30 (0, 0))) := ⟨(by rw [hw]; exact (by (with_reducible repeat (first | refine blk_drewN ?_ _ | refine blk_drew ?_ | refine blk_alloc ?_ _)); refine blk_far ?_ NB351_360.out _; (with_reducible repeat (first | refine blk_drewN ?_ _ | refine blk_drew ?_ | refine blk_alloc ?_ _)); refine blk_far ?_ NB351_360.out _; (with_reducible repeat (first | refine blk_drewN ?_ _ | refine blk_drew ?_ | refine blk_alloc ?_ _)); refine blk_far ?_ NB351_360.out _; (with_reducible repeat (first | refine blk_drewN ?_ _ | refine blk_drew ?_ | refine blk_alloc ?_ _)); refine blk_far ?_ NB351_360.out _; (with_reducible repeat (first | refine blk_drewN ?_ _ | refine blk_drew ?_ | refine blk_alloc ?_ _)); exact BK351.out))⟩; have n3_ : Aside0 (w59.heap[gb352]? = some (.cells #[.int .i64 0, .slice none 0 0, .slice none 0 0, .slice none 0 0] 30 (0, 0))) := ⟨(by rw [hw]; exact (by (with_reducible repeat (first | refine blk_drewN ?_ _ | refine blk_drew ?_ | refine blk_alloc ?_ _)); refine blk_far ?_ NB352_360.out _; (with_reducible repeat (first | refine blk_drewN ?_ _ | refine blk_drew ?_ | refine blk_alloc ?_ _)); refine blk_far ?_ NB352_360.out _; (with_reducible repeat (first | refine blk_drewN ?_ _ | refine blk_drew ?_ | refine blk_alloc ?_ _)); refine blk_far ?_ NB352_360.out _; (with_reducible repeat (first | refine blk_drewN ?_ _ | refine blk_drew ?_ | refine blk_alloc ?_ _)); refine blk_far ?_ NB352_360.out _; (with_reducible repeat (first | refine blk_drewN ?_ _ | refine blk_drew ?_ | refine blk_alloc ?_ _)); exact BK352.out))⟩; have n4_ : Aside0 (w59.heap[gb358]? = some (.cells #[.int .i64 x6_1, u359001, .slice none 0 0, .slice none 0 0] 30 (0, 0))) := ⟨(by rw [hw]; exact (by (with_reducible repeat (first | refine blk_drewN ?_ _ | refine blk_drew ?_ | refine blk_alloc ?_ _)); refine blk_far ?_ NB358_360.out _; (with_reducible repeat (first | refine blk_drewN ?_ _ | refine blk_drew ?_ | refine blk_alloc ?_ _)); refine blk_far ?_ NB358_360.out _; (with_reducible repeat (first | refine blk_drewN ?_ _ | refine blk_drew ?_ | refine blk_alloc ?_ _)); refine blk_far ?_ NB358_360.out _; (with_reducible repeat (first | refine blk_drewN ?_ _ | refine blk_drew ?_ | refine blk_alloc ?_ _)); refine blk_far ?_ NB358_360.out _; (with_reducible repeat (first | refine blk_drewN ?_ _ | refine blk_drew ?_ | refine blk_alloc ?_ _)); exact BK358.out))⟩; have n5_ : Aside0 (w59.heap[gb360]? = some (.cells #[.bool false, .int .i64 ((rd_T46 l0_1 x38_2).f1), .int .i64 ((rd_T46 l0_1 x38_2).f2), .int .i64 ((rd_T46 l0_1 x38_2).f3)] 46 (0, 0))) := ⟨(by rw [hw]; exact (by (with_reducible repeat (first | refine blk_drewN ?_ _ | refine blk_drew ?_ | refine blk_alloc ?_ _)); refine blk_put (cs := #[.bool false, .int .i64 ((rd_T46 l0_1 x38_2).f1), .int .i64 ((rd_T46 l0_1 x38_2).f2), .int .i64 0]) ?_ 3 _ rfl; (with_reducible repeat (first | refine blk_drewN ?_ _ | refine blk_drew ?_ | refine blk_alloc ?_ _)); refine blk_put (cs := #[.bool false, .int .i64 ((rd_T46 l0_1 x38_2).f1), .int .i64 0, .int .i64 0]) ?_ 2 _ rfl; (with_reducible repeat (first | refine blk_drewN ?_ _ | refine blk_drew ?_ | refine blk_alloc ?_ _)); refine blk_put (cs := #[.bool false, .int .i64 0, .int .i64 0, .int .i64 0]) ?_ 1 _ rfl; (with_reducible repeat (first | refine blk_drewN ?_ _ | refine blk_drew ?_ | refine blk_alloc ?_ _)); refine blk_put (cs := #[.bool false, .int .i64 0, .int .i64 0, .int .i64 0]) ?_ 0 _ rfl; (with_reducible repeat (first | refine blk_drewN ?_ _ | refine blk_drew ?_ | refine blk_alloc ?_ _)); exact BK360.out))⟩; have n6_ : Aside0 (Below w.heap.size w w59) := ⟨(by rw [hw]; exact pb_)⟩; clear hw; clear HO_5; clear HO_359001; clear BK351; clear BK352; clear BK358; clear BK360; clear HB; have HO_5 := n0_; have HO_359001 := n1_; have BK351 := n2_; have BK352 := n3_; have BK358 := n4_; have BK360 := n5_; have HB := n6_; clear n0_ n1_ n2_ n3_ n4_ n5_ n6_; have p361 : 0 ≤ (x38_2 : Int) := of_decide_eq_true (by first | (with_reducible assumption) | assumption); have q361 : x38_2 < (l1.length : Int) := of_decide_eq_true (by first | (with_reducible assumption) | assumption); obtain ⟨ad361, e361, hx361_0⟩ := Kd.at_bool HR1.out x38_2 p361 q361; (try rw [← Nbq31.out] at hx361_0); (try rw [← Nbq33.out] at hx361_0); cases e361; replace hx361_0 := (HB.out.cell (World.block_lt_of_cell? w _ hx361_0)).trans hx361_0; replace p361 := eq_true p361; replace q361 := eq_true q361; have hcz60_0 := bc0 BK360.out; have hcz60_1 := bc1 BK360.out; have hcz60_2 := bc2 BK360.out; have hcz60_3 := bc3 BK360.out; have hfz60_0 := blk_frozen BK360.out 0; have hfz60_1 := blk_frozen BK360.out 1; have hfz60_2 := blk_frozen BK360.out 2; have hfz60_3 := blk_frozen BK360.out 3; obtain ⟨Ao61, co61, eo61⟩ := Kd.R_slice HO_5.out; subst eo61; have p365 : 0 ≤ (((rd_T46 l0_1 x38_2).f2) : Int) := of_decide_eq_true (by first | (with_reducible assumption) | assumption); have q365 : ((rd_T46 l0_1 x38_2).f2) < (x5_1.length : Int) := of_decide_eq_true (by first | (with_reducible assumption) | assumption); obtain ⟨ad365, e365, hx365_0⟩ := Kd.at_int (Kd.R_reads' HO_5.out).2.2 ((rd_T46 l0_1 x38_2).f2) p365 q365; cases e365; replace p365 := eq_true p365; replace q365 := eq_true q365; have p366 : 0 ≤ (((rd_T46 l0_1 x38_2).f3) : Int) := of_decide_eq_true (by first | (with_reducible assumption) | assumption); have q366 : ((rd_T46 l0_1 x38_2).f3) < (x5_1.length : Int) := of_decide_eq_true (by first | (with_reducible assumption) | assumption); obtain ⟨ad366, e366, hx366_0⟩ := Kd.at_int (Kd.R_reads' HO_5.out).2.2 ((rd_T46 l0_1 x38_2).f3) p366 q366; obtain rfl : ad365 = ad366 := (by injection e366); have hn366_0 : ad365.block ≠ gb360 := Kd.own_blk (Kd.R_ne HO_5.out BK360.out (by decide)); replace hx366_0 := (cell_far (p := ⟨gb360, 2, none⟩) (by first | (rw [add_block]; exact hn366_0) | (show (Addr.add _ _).block ≠ _; rw [add_block]; exact hn366_0) | exact hn366_0) (.int .i64 (rd x5_1 ((rd_T46 l0_1 x38_2).f2)))).trans hx366_0; clear hn366_0; replace p366 := eq_true p366; replace q366 := eq_true q366; have hnb62 := NB358_351.out; have hnc62 := NB351_358.out; have hnb63 := NB358_352.out; have hnc63 := NB352_358.out; have hcz64_0 := bc0 BK358.out; have hcz64_1 := bc1 BK358.out; have hcz64_2 := bc2 BK358.out; have hcz64_3 := bc3 BK358.out; have hfz64_0 := blk_frozen BK358.out 0; have hfz64_1 := blk_frozen BK358.out 1; have hfz64_2 := blk_frozen BK358.out 2; have hfz64_3 := blk_frozen BK358.out 3) | ((with_reducible refine gate_builtin (b := .append) (xs := #[.tmp 64, .tmp 66]) rfl ?_); at_builtin; refine Kd.R_append k46 (w0 := w) w.heap.size rfl (.tmp 64) (.tmp 66) 28 46 (.agg #[(.bool false), (.int .i64 0), (.int .i64 0), (.int .i64 0)]) 32 rfl Try.underlying28 info46 rfl (by decide) (by omega) u359001 x359001_2 (⟨false, (rd_T46 l0_1 x38_2).f1, rd x5_1 ((rd_T46 l0_1 x38_2).f2), rd x5_1 ((rd_T46 l0_1 x38_2).f3)⟩ : S46) [.bool false, .int .i64 ((rd_T46 l0_1 x38_2).f1), .int .i64 (rd x5_1 ((rd_T46 l0_1 x38_2).f2)), .int .i64 (rd x5_1 ((rd_T46 l0_1 x38_2).f3))] (fun k_ => k_ ≠ gb360) (fun _ => False) rfl (by first | (go_simp; done) | (go_simp; rfl)) ?aP (fun _ hk => hk.elim) ?aF ?aO ?aB ?aS ?aL ?_; (case aP => exact k46_mkM _ _ _ (⟨false, (rd_T46 l0_1 x38_2).f1, rd x5_1 ((rd_T46 l0_1 x38_2).f2), rd x5_1 ((rd_T46 l0_1 x38_2).f3)⟩ : S46)); (case aB => exact pb_); (case aF => exact (fun k_ hk => Kd.freshB (g := gb360) (o := .cells #[.bool false, .int .i64 ((rd_T46 l0_1 x38_2).f1), .int .i64 (rd x5_1 ((rd_T46 l0_1 x38_2).f2)), .int .i64 (rd x5_1 ((rd_T46 l0_1 x38_2).f3))] 46 (0, 0)) (by (with_reducible repeat (first | refine blk_drewN ?_ _ | refine blk_drew ?_ | refine blk_alloc ?_ _)); refine blk_put (cs := #[.bool false, .int .i64 ((rd_T46 l0_1 x38_2).f1), .int .i64 (rd x5_1 ((rd_T46 l0_1 x38_2).f2)), .int .i64 ((rd_T46 l0_1 x38_2).f3)]) ?_ 3 _ rfl; (with_reducible repeat (first | refine blk_drewN ?_ _ | refine blk_drew ?_ | refine blk_alloc ?_ _)); refine blk_put (cs := #[.bool false, .int .i64 ((rd_T46 l0_1 x38_2).f1), .int .i64 ((rd_T46 l0_1 x38_2).f2), .int .i64 ((rd_T46 l0_1 x38_2).f3)]) ?_ 2 _ rfl; (with_reducible repeat (first | refine blk_drewN ?_ _ | refine blk_drew ?_ | refine blk_alloc ?_ _)); exact BK360.out) k_ hk)); (case aO => exact (by (with_reducible repeat (first | apply Kd.R_alloc | apply Kd.R_drewN | apply Kd.R_drew)); exact Kd.R_mono (Kd.R_far (p := ⟨gb360, 3, none⟩) (Kd.R_far (p := ⟨gb360, 2, none⟩) (Kd.R_mono HO_359001.out (fun k_ hk => (⟨hk, hk⟩ : _ ∧ k_ ≠ gb360))) (fun _ hk => hk.2) (.int .i64 (rd x5_1 ((rd_T46 l0_1 x38_2).f2)))) (fun _ hk => hk.2) (.int .i64 (rd x5_1 ((rd_T46 l0_1 x38_2).f3)))) (fun _ hk => hk.1))); (case aS => exact (below_size pb_)); (case aL => have := LMc53.out; omega); intro v368 w65 ho hb hg hat; rw [← Ny367.out] at ho; have n0_ := Aside0.mk (Kd.R_over' (by (with_reducible repeat (first | apply Kd.R_alloc | apply Kd.R_drewN | apply Kd.R_drew)); exact (Kd.R_mono (Kd.R_far (p := ⟨gb360, 3, none⟩) (Kd.R_far (p := ⟨gb360, 2, none⟩) (Kd.R_types HO_5.out BK360.out (by decide)) (fun _ hk => hk.2) (.int .i64 (rd x5_1 ((rd_T46 l0_1 x38_2).f2)))) (fun _ hk => hk.2) (.int .i64 (rd x5_1 ((rd_T46 l0_1 x38_2).f3)))) (fun _ h_ => h_.1))) (Kd.R_typed (by (with_reducible repeat (first | apply Kd.R_alloc | apply Kd.R_drewN | apply Kd.R_drew)); exact (Kd.R_mono (Kd.R_far (p := ⟨gb360, 3, none⟩) (Kd.R_far (p := ⟨gb360, 2, none⟩) (Kd.R_mono HO_359001.out (fun k_ hk => (⟨hk, hk⟩ : _ ∧ k_ ≠ gb360))) (fun _ hk => hk.2) (.int .i64 (rd x5_1 ((rd_T46 l0_1 x38_2).f2)))) (fun _ hk => hk.2) (.int .i64 (rd x5_1 ((rd_T46 l0_1 x38_2).f3)))) (fun _ h_ => h_.1)))) (by decide) hg); have n1_ := Aside0.mk (blk_grown (g := gb351) (o := .cells #[.int .i64 a0_0, .slice (some ad359) l0_1.length c0_1, .slice A0_2 l0_2.length c0_2, .slice A0_3 l0_3.length c0_3] 30 (0, 0)) (by (with_reducible repeat (first | refine blk_drewN ?_ _ | refine blk_drew ?_ | refine blk_alloc ?_ _)); refine blk_far ?_ NB351_360.out _; (with_reducible repeat (first | refine blk_drewN ?_ _ | refine blk_drew ?_ | refine blk_alloc ?_ _)); refine blk_far ?_ NB351_360.out _; (with_reducible repeat (first | refine blk_drewN ?_ _ | refine blk_drew ?_ | refine blk_alloc ?_ _)); exact BK351.out) hg (Kd.R_ne HO_359001.out BK351.out (by decide))); have n2_ := Aside0.mk (blk_grown (g := gb352) (o := .cells #[.int .i64 0, .slice none 0 0, .slice none 0 0, .slice none 0 0] 30 (0, 0)) (by (with_reducible repeat (first | refine blk_drewN ?_ _ | refine blk_drew ?_ | refine blk_alloc ?_ _)); refine blk_far ?_ NB352_360.out _; (with_reducible repeat (first | refine blk_drewN ?_ _ | refine blk_drew ?_ | refine blk_alloc ?_ _)); refine blk_far ?_ NB352_360.out _; (with_reducible repeat (first | refine blk_drewN ?_ _ | refine blk_drew ?_ | refine blk_alloc ?_ _)); exact BK352.out) hg (Kd.R_ne HO_359001.out BK352.out (by decide))); have n3_ := Aside0.mk (blk_grown (g := gb358) (o := .cells #[.int .i64 x6_1, u359001, .slice none 0 0, .slice none 0 0] 30 (0, 0)) (by (with_reducible repeat (first | refine blk_drewN ?_ _ | refine blk_drew ?_ | refine blk_alloc ?_ _)); refine blk_far ?_ NB358_360.out _; (with_reducible repeat (first | refine blk_drewN ?_ _ | refine blk_drew ?_ | refine blk_alloc ?_ _)); refine blk_far ?_ NB358_360.out _; (with_reducible repeat (first | refine blk_drewN ?_ _ | refine blk_drew ?_ | refine blk_alloc ?_ _)); exact BK358.out) hg (Kd.R_ne HO_359001.out BK358.out (by decide))); have n4_ := Aside0.mk (blk_grown (g := gb360) (o := .cells #[.bool false, .int .i64 ((rd_T46 l0_1 x38_2).f1), .int .i64 (rd x5_1 ((rd_T46 l0_1 x38_2).f2)), .int .i64 (rd x5_1 ((rd_T46 l0_1 x38_2).f3))] 46 (0, 0)) (by (with_reducible repeat (first | refine blk_drewN ?_ _ | refine blk_drew ?_ | refine blk_alloc ?_ _)); refine blk_put (cs := #[.bool false, .int .i64 ((rd_T46 l0_1 x38_2).f1), .int .i64 (rd x5_1 ((rd_T46 l0_1 x38_2).f2)), .int .i64 ((rd_T46 l0_1 x38_2).f3)]) ?_ 3 _ rfl; (with_reducible repeat (first | refine blk_drewN ?_ _ | refine blk_drew ?_ | refine blk_alloc ?_ _)); refine blk_put (cs := #[.bool false, .int .i64 ((rd_T46 l0_1 x38_2).f1), .int .i64 ((rd_T46 l0_1 x38_2).f2), .int .i64 ((rd_T46 l0_1 x38_2).f3)]) ?_ 2 _ rfl; (with_reducible repeat (first | refine blk_drewN ?_ _ | refine blk_drew ?_ | refine blk_alloc ?_ _)); exact BK360.out) hg (Kd.R_away HO_359001.out (fun _ hk => hk))); have n5_ := Aside0.mk (hb); have n6_ := Aside0.mk (ho); clear HO_5; clear BK351; clear BK352; clear BK358; clear BK360; clear HB; clear HO_359001; have HO_5 := n0_; have BK351 := n1_; have BK352 := n2_; have BK358 := n3_; have BK360 := n4_; have HB := n5_; have HO369 := n6_; clear n0_ n1_ n2_ n3_ n4_ n5_ n6_; clear ho hb hg hat; obtain ⟨Ao66, co66, eo66⟩ := Kd.R_slice HO369.out; subst eo66; have hcz67_0 := bc0 BK358.out; have hcz67_1 := bc1 BK358.out; have hcz67_2 := bc2 BK358.out; have hcz67_3 := bc3 BK358.out; have hfz67_0 := blk_frozen BK358.out 0; have hfz67_1 := blk_frozen BK358.out 1; have hfz67_2 := blk_frozen BK358.out 2; have hfz67_3 := blk_frozen BK358.out 3))
                   go_roundg k2
                   case measure => have := HK1.out; have := HK2.out; omega
                   case rel => exact ⟨(wrap64 (x38_2 + 1)), (y367), (.slice Ao66 y367.length co66), (by first | rfl | (simp; done) | (simp [*]; done)), H', ⟨by have := HK1.out; have := HK2.out; omega⟩, ⟨by (with_reducible repeat (first | apply Kd.R_alloc | apply Kd.R_drewN | apply Kd.R_drew)); exact Kd.R_mono (Kd.R_far (p := ⟨gb358, 1, none⟩) (Kd.R_types HO_5.out BK358.out (by decide)) (fun _ hk => hk.2) (.slice Ao66 y367.length co66)) (fun _ hk => trivial)⟩, ⟨by (with_reducible repeat (first | apply Kd.R_alloc | apply Kd.R_drewN | apply Kd.R_drew)); exact Kd.R_mono (Kd.R_far (p := ⟨gb358, 1, none⟩) (Kd.R_types HO369.out BK358.out (by decide)) (fun _ hk => hk.2) (.slice Ao66 y367.length co66)) (fun _ hk => trivial)⟩, ⟨by (with_reducible repeat (first | refine blk_drewN ?_ _ | refine blk_drew ?_ | refine blk_alloc ?_ _)); refine blk_far ?_ NB351_358.out _; (with_reducible repeat (first | refine blk_drewN ?_ _ | refine blk_drew ?_ | refine blk_alloc ?_ _)); exact BK351.out⟩, ⟨by (with_reducible repeat (first | refine blk_drewN ?_ _ | refine blk_drew ?_ | refine blk_alloc ?_ _)); refine blk_far ?_ NB352_358.out _; (with_reducible repeat (first | refine blk_drewN ?_ _ | refine blk_drew ?_ | refine blk_alloc ?_ _)); exact BK352.out⟩, ⟨by (with_reducible repeat (first | refine blk_drewN ?_ _ | refine blk_drew ?_ | refine blk_alloc ?_ _)); refine blk_put (cs := #[.int .i64 x6_1, u359001, .slice none 0 0, .slice none 0 0]) ?_ 1 _ rfl; (with_reducible repeat (first | refine blk_drewN ?_ _ | refine blk_drew ?_ | refine blk_alloc ?_ _)); exact BK358.out⟩, ⟨pb_⟩⟩
                  ·rw [if_neg c53] at H
                   exact absurd H (by simp)
                 ·rw [if_neg c52] at H
                  exact absurd H (by simp)
                ·rw [if_neg c51] at H
                 exact absurd H (by simp)
               ·rw [if_neg c50] at H
                exact absurd H (by simp)
              ·rw [if_neg c49] at H
               exact absurd H (by simp)
            ·replace c32 := Bool.eq_false_iff.mpr c32
             subst c32
             have H1 : (spec_lhMove.l1 k2 l1 x5_1 l0_1 (l0_1.length : Int) (wrap64 (x38_2 + 1)) a0_0 l0_1 l0_2 l0_3 x6_1 x359001_2) = some (r1, r2, r3, r4) := by rw [if_neg (show ¬ (false = true) by decide)] at H; exact H
             clear H
             have H := H1
             clear H1
             have H' := Aside0.mk H
             clear H
             have p359 : 0 ≤ (x38_2 : Int) := of_decide_eq_true (by first | (with_reducible assumption) | assumption)
             have q359 : x38_2 < (l0_1.length : Int) := of_decide_eq_true (by first | (with_reducible assumption) | assumption)
             obtain ⟨ad359, e359, hx359_0, hx359_1, hx359_2, hx359_3⟩ := at_T46 HR0_1.out x38_2 p359 q359
             (try rw [← Nbq31.out] at hx359_0)
             cases e359
             replace hx359_0 := (HB.out.cell (World.block_lt_of_cell? w _ hx359_0)).trans hx359_0
             replace hx359_1 := (HB.out.cell (World.block_lt_of_cell? w _ hx359_1)).trans hx359_1
             replace hx359_2 := (HB.out.cell (World.block_lt_of_cell? w _ hx359_2)).trans hx359_2
             replace hx359_3 := (HB.out.cell (World.block_lt_of_cell? w _ hx359_3)).trans hx359_3
             replace p359 := eq_true p359
             replace q359 := eq_true q359
             go_wp2_with (first | ((with_reducible refine gate_dst (N := 11) rfl ?_); refine box_event ?hg (N := 11) ?hd (cs := #[.bool false, .int .i64 0, .int .i64 0, .int .i64 0]) (t := 46) ?hr ?_; (case hd => rfl); (case hg => rfl); (case hr => first | (go_simp; done) | (go_simp; rfl)); intro gb360 hg w68 hbox hb; have n0_ := Aside0.mk (Kd.R_below (pr_ HO_5.out) hb); have n1_ := Aside0.mk (Kd.R_below (Kd.R_elderB (pr_ HO_359001.out) gb360 (Nat.le_of_eq hg.symm)) hb); have n2_ := Aside0.mk (blk_below (pk_ BK351.out) hb); have n3_ := Aside0.mk (blk_below (pk_ BK352.out) hb); have n4_ := Aside0.mk (blk_below (pk_ BK358.out) hb); have n5_ := Aside0.mk (below_step pb_ hb); have n6_ := Aside0.mk (hbox); have n7_ := Aside0.mk ((by rw [hg]; exact (below_size pb_) : w.heap.size ≤ gb360)); have n8_ := Aside0.mk ((by rw [hg]; exact (below_size pb_) : w.heap.size ≤ gb360)); have n9_ := Aside0.mk ((by rw [hg]; exact Nat.ne_of_lt (blk_lt (pk_ BK351.out)) : gb351 ≠ gb360)); have n10_ := Aside0.mk ((by rw [hg]; exact Nat.ne_of_gt (blk_lt (pk_ BK351.out)) : gb360 ≠ gb351)); have n11_ := Aside0.mk ((by rw [hg]; exact Nat.ne_of_lt (blk_lt (pk_ BK352.out)) : gb352 ≠ gb360)); have n12_ := Aside0.mk ((by rw [hg]; exact Nat.ne_of_gt (blk_lt (pk_ BK352.out)) : gb360 ≠ gb352)); have n13_ := Aside0.mk ((by rw [hg]; exact Nat.ne_of_lt (blk_lt (pk_ BK358.out)) : gb358 ≠ gb360)); have n14_ := Aside0.mk ((by rw [hg]; exact Nat.ne_of_gt (blk_lt (pk_ BK358.out)) : gb360 ≠ gb358)); clear HO_5; clear HO_359001; clear BK351; clear BK352; clear BK358; clear HB; have HO_5 := n0_; have HO_359001 := n1_; have BK351 := n2_; have BK352 := n3_; have BK358 := n4_; have HB := n5_; have BK360 := n6_; have GW360 := n7_; have GE360 := n8_; have NB351_360 := n9_; have NB360_351 := n10_; have NB352_360 := n11_; have NB360_352 := n12_; have NB358_360 := n13_; have NB360_358 := n14_; clear n0_ n1_ n2_ n3_ n4_ n5_ n6_ n7_ n8_ n9_ n10_ n11_ n12_ n13_ n14_; clear hb hbox hg; have hnb69 := NB360_351.out; have hnc69 := NB351_360.out; have hnb70 := NB360_352.out; have hnc70 := NB352_360.out; have hnb71 := NB360_358.out; have hnc71 := NB358_360.out; have hcz72_0 := bc0 BK360.out; have hcz72_1 := bc1 BK360.out; have hcz72_2 := bc2 BK360.out; have hcz72_3 := bc3 BK360.out; have hfz72_0 := blk_frozen BK360.out 0; have hfz72_1 := blk_frozen BK360.out 1; have hfz72_2 := blk_frozen BK360.out 2; have hfz72_3 := blk_frozen BK360.out 3) | ((with_reducible refine gate_store (t := 46) (p := 11) rfl ?_); refine store_event (t := 46) (p := 11) (v := ?vo_w73) (w1 := ((((w68.setCell ⟨gb360, 0, none⟩ (.bool ((rd_T46 l0_1 x38_2).f0))).setCell ⟨gb360, 1, none⟩ (.int .i64 ((rd_T46 l0_1 x38_2).f1))).setCell ⟨gb360, 2, none⟩ (.int .i64 ((rd_T46 l0_1 x38_2).f2))).setCell ⟨gb360, 3, none⟩ (.int .i64 ((rd_T46 l0_1 x38_2).f3)))) ?hg ?ho ?hn ?hr ?_; (case ho => rfl); (case hg => rfl); (case hn => rfl); (case hr => first | (go_simp; done) | (go_simp; rfl)); intro w73 hw; have n0_ : Aside0 (Kd.R (Kd.int .i64) 3 w73 w.heap.size (fun _ => True) v354 x5_1) := ⟨(by rw [hw]; exact (by (with_reducible repeat (first | apply Kd.R_alloc | apply Kd.R_drewN | apply Kd.R_drew)); exact Kd.R_mono (Kd.R_far (p := ⟨gb360, 3, none⟩) (Kd.R_far (p := ⟨gb360, 2, none⟩) (Kd.R_far (p := ⟨gb360, 1, none⟩) (Kd.R_far (p := ⟨gb360, 0, none⟩) (Kd.R_types HO_5.out BK360.out (by decide)) (fun _ hk => hk.2) (.bool ((rd_T46 l0_1 x38_2).f0))) (fun _ hk => hk.2) (.int .i64 ((rd_T46 l0_1 x38_2).f1))) (fun _ hk => hk.2) (.int .i64 ((rd_T46 l0_1 x38_2).f2))) (fun _ hk => hk.2) (.int .i64 ((rd_T46 l0_1 x38_2).f3))) (fun _ hk => trivial)))⟩; have n1_ : Aside0 (Kd.R k46 46 w73 w.heap.size (fun k_ => k_ ≠ gb360) u359001 x359001_2) := ⟨(by rw [hw]; exact (by (with_reducible repeat (first | apply Kd.R_alloc | apply Kd.R_drewN | apply Kd.R_drew)); exact Kd.R_mono (Kd.R_far (p := ⟨gb360, 3, none⟩) (Kd.R_far (p := ⟨gb360, 2, none⟩) (Kd.R_far (p := ⟨gb360, 1, none⟩) (Kd.R_far (p := ⟨gb360, 0, none⟩) (Kd.R_mono HO_359001.out (fun k_ hk => (⟨hk, hk.2⟩ : _ ∧ k_ ≠ gb360))) (fun _ hk => hk.2) (.bool ((rd_T46 l0_1 x38_2).f0))) (fun _ hk => hk.2) (.int .i64 ((rd_T46 l0_1 x38_2).f1))) (fun _ hk => hk.2) (.int .i64 ((rd_T46 l0_1 x38_2).f2))) (fun _ hk => hk.2) (.int .i64 ((rd_T46 l0_1 x38_2).f3))) (fun _ hk => hk.1.2)))⟩; have n2_ : Aside0 (w73.heap[gb351]? = some (.cells #[.int .i64 a0_0, .slice (some ad359) l0_1.length c0_1, .slice A0_2 l0_2.length c0_2, .slice A0_3 l0_3.length c0_3] 30 (0, 0))) := ⟨(by rw [hw]; exact (by (with_reducible repeat (first | refine blk_drewN ?_ _ | refine blk_drew ?_ | refine blk_alloc ?_ _)); refine blk_far ?_ NB351_360.out _; (with_reducible repeat (first | refine blk_drewN ?_ _ | refine blk_drew ?_ | refine blk_alloc ?_ _)); refine blk_far ?_ NB351_360.out _; (with_reducible repeat (first | refine blk_drewN ?_ _ | refine blk_drew ?_ | refine blk_alloc ?_ _)); refine blk_far ?_ NB351_360.out _; (with_reducible repeat (first | refine blk_drewN ?_ _ | refine blk_drew ?_ | refine blk_alloc ?_ _)); refine blk_far ?_ NB351_360.out _; (with_reducible repeat (first | refine blk_drewN ?_ _ | refine blk_drew ?_ | refine blk_alloc ?_ _)); exact BK351.out))⟩; have n3_ : Aside0 (w73.heap[gb352]? = some (.cells #[.int .i64 0, .slice none 0 0, .slice none 0 0, .slice none 0 0] 30 (0, 0))) := ⟨(by rw [hw]; exact (by (with_reducible repeat (first | refine blk_drewN ?_ _ | refine blk_drew ?_ | refine blk_alloc ?_ _)); refine blk_far ?_ NB352_360.out _; (with_reducible repeat (first | refine blk_drewN ?_ _ | refine blk_drew ?_ | refine blk_alloc ?_ _)); refine blk_far ?_ NB352_360.out _; (with_reducible repeat (first | refine blk_drewN ?_ _ | refine blk_drew ?_ | refine blk_alloc ?_ _)); refine blk_far ?_ NB352_360.out _; (with_reducible repeat (first | refine blk_drewN ?_ _ | refine blk_drew ?_ | refine blk_alloc ?_ _)); refine blk_far ?_ NB352_360.out _; (with_reducible repeat (first | refine blk_drewN ?_ _ | refine blk_drew ?_ | refine blk_alloc ?_ _)); exact BK352.out))⟩; have n4_ : Aside0 (w73.heap[gb358]? = some (.cells #[.int .i64 x6_1, u359001, .slice none 0 0, .slice none 0 0] 30 (0, 0))) := ⟨(by rw [hw]; exact (by (with_reducible repeat (first | refine blk_drewN ?_ _ | refine blk_drew ?_ | refine blk_alloc ?_ _)); refine blk_far ?_ NB358_360.out _; (with_reducible repeat (first | refine blk_drewN ?_ _ | refine blk_drew ?_ | refine blk_alloc ?_ _)); refine blk_far ?_ NB358_360.out _; (with_reducible repeat (first | refine blk_drewN ?_ _ | refine blk_drew ?_ | refine blk_alloc ?_ _)); refine blk_far ?_ NB358_360.out _; (with_reducible repeat (first | refine blk_drewN ?_ _ | refine blk_drew ?_ | refine blk_alloc ?_ _)); refine blk_far ?_ NB358_360.out _; (with_reducible repeat (first | refine blk_drewN ?_ _ | refine blk_drew ?_ | refine blk_alloc ?_ _)); exact BK358.out))⟩; have n5_ : Aside0 (w73.heap[gb360]? = some (.cells #[.bool ((rd_T46 l0_1 x38_2).f0), .int .i64 ((rd_T46 l0_1 x38_2).f1), .int .i64 ((rd_T46 l0_1 x38_2).f2), .int .i64 ((rd_T46 l0_1 x38_2).f3)] 46 (0, 0))) := ⟨(by rw [hw]; exact (by (with_reducible repeat (first | refine blk_drewN ?_ _ | refine blk_drew ?_ | refine blk_alloc ?_ _)); refine blk_put (cs := #[.bool ((rd_T46 l0_1 x38_2).f0), .int .i64 ((rd_T46 l0_1 x38_2).f1), .int .i64 ((rd_T46 l0_1 x38_2).f2), .int .i64 0]) ?_ 3 _ rfl; (with_reducible repeat (first | refine blk_drewN ?_ _ | refine blk_drew ?_ | refine blk_alloc ?_ _)); refine blk_put (cs := #[.bool ((rd_T46 l0_1 x38_2).f0), .int .i64 ((rd_T46 l0_1 x38_2).f1), .int .i64 0, .int .i64 0]) ?_ 2 _ rfl; (with_reducible repeat (first | refine blk_drewN ?_ _ | refine blk_drew ?_ | refine blk_alloc ?_ _)); refine blk_put (cs := #[.bool ((rd_T46 l0_1 x38_2).f0), .int .i64 0, .int .i64 0, .int .i64 0]) ?_ 1 _ rfl; (with_reducible repeat (first | refine blk_drewN ?_ _ | refine blk_drew ?_ | refine blk_alloc ?_ _)); refine blk_put (cs := #[.bool false, .int .i64 0, .int .i64 0, .int .i64 0]) ?_ 0 _ rfl; (with_reducible repeat (first | refine blk_drewN ?_ _ | refine blk_drew ?_ | refine blk_alloc ?_ _)); exact BK360.out))⟩; have n6_ : Aside0 (Below w.heap.size w w73) := ⟨(by rw [hw]; exact pb_)⟩; clear hw; clear HO_5; clear HO_359001; clear BK351; clear BK352; clear BK358; clear BK360; clear HB; have HO_5 := n0_; have HO_359001 := n1_; have BK351 := n2_; have BK352 := n3_; have BK358 := n4_; have BK360 := n5_; have HB := n6_; clear n0_ n1_ n2_ n3_ n4_ n5_ n6_; have p361 : 0 ≤ (x38_2 : Int) := of_decide_eq_true (by first | (with_reducible assumption) | assumption); have q361 : x38_2 < (l1.length : Int) := of_decide_eq_true (by first | (with_reducible assumption) | assumption); obtain ⟨ad361, e361, hx361_0⟩ := Kd.at_bool HR1.out x38_2 p361 q361; (try rw [← Nbq31.out] at hx361_0); cases e361; replace hx361_0 := (HB.out.cell (World.block_lt_of_cell? w _ hx361_0)).trans hx361_0; replace p361 := eq_true p361; replace q361 := eq_true q361))
             go_roundg k2
             case measure => have := HK1.out; have := HK2.out; omega
             case rel => exact ⟨(wrap64 (x38_2 + 1)), (x359001_2), (u359001), (by first | rfl | (simp; done) | (simp [*]; done)), H', ⟨by have := HK1.out; have := HK2.out; omega⟩, ⟨by (with_reducible repeat (first | apply Kd.R_alloc | apply Kd.R_drewN | apply Kd.R_drew)); exact HO_5.out⟩, ⟨by (with_reducible repeat (first | apply Kd.R_alloc | apply Kd.R_drewN | apply Kd.R_drew)); exact Kd.R_mono HO_359001.out (fun _ hk => trivial)⟩, ⟨pk_ BK351.out⟩, ⟨pk_ BK352.out⟩, ⟨pk_ BK358.out⟩, ⟨pb_⟩⟩
           ·rw [if_neg c30] at H
            exact absurd H (by simp)
          ·rw [if_neg c29] at H
           exact absurd H (by simp)
         ·rw [if_neg c28] at H
          exact absurd H (by simp)
        ·rw [if_neg c27] at H
         have c27b0 : decide (x38_2 < (l0_1.length : Int)) = false := decide_eq_false c27
         clear c27
         have H' := Aside0.mk H
         clear H
         have hnb74 := NB351_352.out
         have hnc74 := NB352_351.out
         have hnb75 := NB351_358.out
         have hnc75 := NB358_351.out
         have hcz76_0 := bc0 BK351.out
         have hcz76_1 := bc1 BK351.out
         have hcz76_2 := bc2 BK351.out
         have hcz76_3 := bc3 BK351.out
         have hfz76_0 := blk_frozen BK351.out 0
         have hfz76_1 := blk_frozen BK351.out 1
         have hfz76_2 := blk_frozen BK351.out 2
         have hfz76_3 := blk_frozen BK351.out 3
         go_wp2
         go_loopg [73] k2 (fun kq v73 w' => ∃ (x73_3 : Int) (x359002_3 : List Int) (u359002 : Value), v73 = .int .i64 x73_3 ∧ Aside0 (spec_lhMove.l2 kq x5_1 l0_2 (l0_2.length : Int) x73_3 x6_1 x359001_2 x359002_3 = some (r1, r2, r3, r4)) ∧ Aside0 (kq ≤ k2) ∧ Aside0 (Kd.R (Kd.int .i64) 3 w' w.heap.size (fun k_ => some k_ ≠ (u359002 : Value).ownBlock) v354 x5_1) ∧ Aside0 (Kd.R k46 46 w' w.heap.size (fun _ => True) u359001 x359001_2) ∧ Aside0 (Kd.R (Kd.int .i64) 3 w' w.heap.size (fun k_ => some k_ ≠ (v354 : Value).ownBlock) u359002 x359002_3) ∧ Aside0 (w'.heap[gb351]? = some (.cells #[.int .i64 a0_0, (.slice A0_1 l0_1.length c0_1), (.slice A0_2 l0_2.length c0_2), (.slice A0_3 l0_3.length c0_3)] 30 (0, 0))) ∧ Aside0 (w'.heap[gb352]? = some (.cells #[.int .i64 0, (.slice none 0 0), (.slice none 0 0), (.slice none 0 0)] 30 (0, 0))) ∧ Aside0 (w'.heap[gb358]? = some (.cells #[.int .i64 x6_1, u359001, u359002, (.slice none 0 0)] 30 (0, 0))) ∧ Aside0 (Below w.heap.size w w'))
         case atStart => exact ⟨(0), (([] : List Int)), (.slice none 0 0), (by first | rfl | (simp; done) | (simp [*]; done)), H', ⟨Nat.le_refl _⟩, ⟨by (with_reducible repeat (first | apply Kd.R_alloc | apply Kd.R_drewN | apply Kd.R_drew)); exact Kd.R_mono HO_5.out (fun _ hk => (by simp [Value.ownBlock]))⟩, ⟨by (with_reducible repeat (first | apply Kd.R_alloc | apply Kd.R_drewN | apply Kd.R_drew)); exact HO_359001.out⟩, ⟨by first | exact Kd.R_nil _ _ _ _ _ | exact Kd.N_nil _ _ _ _ _ | exact Kd.V_nil _ _ _ _ _ | exact Kd.Q_nil _ _ _ _ _ | exact Kd.S_nil _ _ _ _ _⟩, ⟨pk_ BK351.out⟩, ⟨pk_ BK352.out⟩, ⟨pk_ BK358.out⟩, ⟨pb_⟩⟩
         case round =>
          clear H'
          try clear c1
          try clear p1
          try clear q1
          try clear hx1
          try clear c2
          try clear p2
          try clear c3
          try clear c3b0
          try clear c3b1
          try clear p3
          try clear q3
          try clear hx3
          try clear c4
          try clear c4b0
          try clear c4b1
          try clear c5
          try clear c6
          try clear p6
          try clear c7
          try clear c11
          try clear c11b0
          try clear c12
          try clear c12b0
          try clear c13
          try clear c13b0
          try clear q14
          try clear c15
          try clear c16
          try clear c16b0
          try clear p17
          try clear q17
          try clear hx17
          try clear hf17
          try clear c21
          try clear c22
          try clear c25
          try clear c27
          try clear c27b0
          try clear c28
          try clear c28b0
          try clear c29
          try clear c29b0
          try clear c30
          try clear c30b0
          try clear q31
          try clear c32
          try clear q33
          try clear c34
          try clear c35
          try clear p35
          try clear q35
          try clear hx35
          try clear p36
          try clear q36
          try clear hx36
          try clear c37
          try clear c38
          try clear c39
          try clear c43
          try clear c44
          try clear c49
          try clear c49b0
          try clear c50
          try clear c50b0
          try clear c51
          try clear c51b0
          try clear c52
          try clear c52b0
          try clear c53
          try clear c55
          try clear c56
          try clear c57
          try clear c58
          try clear c62
          try clear c63
          try clear p64
          try clear c69
          try clear c70
          try clear c71
          try clear c74
          try clear c75
          try clear hcz23_0
          try clear hcz23_1
          try clear hcz23_2
          try clear hcz23_3
          try clear hcz26_0
          try clear hcz26_1
          try clear hcz26_2
          try clear hcz26_3
          try clear hcz40_0
          try clear hcz40_1
          try clear hcz40_2
          try clear hcz40_3
          try clear hcz42_0
          try clear hcz42_1
          try clear hcz42_2
          try clear hcz42_3
          try clear hcz45_0
          try clear hcz45_1
          try clear hcz45_2
          try clear hcz45_3
          try clear hcz48_0
          try clear hcz48_1
          try clear hcz48_2
          try clear hcz48_3
          try clear hcz58_0
          try clear hcz58_1
          try clear hcz58_2
          try clear hcz58_3
          try clear hcz60_0
          try clear hcz60_1
          try clear hcz60_2
          try clear hcz60_3
          try clear hcz64_0
          try clear hcz64_1
          try clear hcz64_2
          try clear hcz64_3
          try clear hcz67_0
          try clear hcz67_1
          try clear hcz67_2
          try clear hcz67_3
          try clear hcz72_0
          try clear hcz72_1
          try clear hcz72_2
          try clear hcz72_3
          try clear hcz76_0
          try clear hcz76_1
          try clear hcz76_2
          try clear hcz76_3
          try clear hcz8_0
          try clear hcz8_1
          try clear hcz8_2
          try clear hcz8_3
          try clear hfz23_0
          try clear hfz23_1
          try clear hfz23_2
          try clear hfz23_3
          try clear hfz26_0
          try clear hfz26_1
          try clear hfz26_2
          try clear hfz26_3
          try clear hfz40_0
          try clear hfz40_1
          try clear hfz40_2
          try clear hfz40_3
          try clear hfz42_0
          try clear hfz42_1
          try clear hfz42_2
          try clear hfz42_3
          try clear hfz45_0
          try clear hfz45_1
          try clear hfz45_2
          try clear hfz45_3
          try clear hfz48_0
          try clear hfz48_1
          try clear hfz48_2
          try clear hfz48_3
          try clear hfz58_0
          try clear hfz58_1
          try clear hfz58_2
          try clear hfz58_3
          try clear hfz60_0
          try clear hfz60_1
          try clear hfz60_2
          try clear hfz60_3
          try clear hfz64_0
          try clear hfz64_1
          try clear hfz64_2
          try clear hfz64_3
          try clear hfz67_0
          try clear hfz67_1
          try clear hfz67_2
          try clear hfz67_3
          try clear hfz72_0
          try clear hfz72_1
          try clear hfz72_2
          try clear hfz72_3
          try clear hfz76_0
          try clear hfz76_1
          try clear hfz76_2
          try clear hfz76_3
          try clear hfz8_0
          try clear hfz8_1
          try clear hfz8_2
          try clear hfz8_3
          try clear hx17_0
          try clear hx356_0
          try clear hx359_0
          try clear hx359_1
          try clear hx359_2
          try clear hx359_3
          try clear hx361_0
          try clear hx365_0
          try clear hx366_0
          try clear p1
          try clear p17
          try clear p2
          try clear p3
          try clear p356
          try clear p359
          try clear p361
          try clear p365
          try clear p366
          try clear p6
          try clear q1
          try clear q14
          try clear q17
          try clear q3
          try clear q356
          try clear q359
          try clear q361
          try clear q365
          try clear q366
          obtain ⟨x73_3, x359002_3, u359002, rfl, HA, HK3, HO_5, HO_359001, HO_359002, BK351, BK352, BK358, HB⟩ := hrel
          cases gk with
          | zero => exact absurd HA.out (by simp [spec_lhMove.l2])
          | succ k3 =>
           have H := HA.out
           clear HA
           simp only [spec_lhMove.l2] at H
           by_cases c77 : x73_3 < (l0_2.length : Int)
           ·rw [if_pos c77] at H
            have c77b0 : decide (x73_3 < (l0_2.length : Int)) = true := decide_eq_true c77
            clear c77
            by_cases c78 : 0 ≤ x73_3
            ·rw [if_pos c78] at H
             have c78b0 : decide (0 ≤ x73_3) = true := decide_eq_true c78
             clear c78
             by_cases c79 : x73_3 < (l0_2.length : Int)
             ·rw [if_pos c79] at H
              have c79b0 : decide (x73_3 < (l0_2.length : Int)) = true := decide_eq_true c79
              clear c79
              by_cases c80 : 0 ≤ (rd l0_2 x73_3)
              ·rw [if_pos c80] at H
               have c80b0 : decide (0 ≤ (rd l0_2 x73_3)) = true := decide_eq_true c80
               clear c80
               by_cases c81 : (rd l0_2 x73_3) < (x5_1.length : Int)
               ·rw [if_pos c81] at H
                have c81b0 : decide ((rd l0_2 x73_3) < (x5_1.length : Int)) = true := decide_eq_true c81
                clear c81
                by_cases c82 : x359002_3.length < 17592186044416
                ·rw [if_pos c82] at H
                 have LMc82 := Aside0.mk c82
                 clear c82
                 obtain ⟨y372, hy372⟩ : ∃ y_ : List Int, y_ = (x359002_3 ++ [rd x5_1 (rd l0_2 x73_3)]) := ⟨_, rfl⟩
                 replace H : (spec_lhMove.l2 k3 x5_1 l0_2 (l0_2.length : Int) (wrap64 (x73_3 + 1)) x6_1 x359001_2 y372) = some (r1, r2, r3, r4) := by first | (rw [hy372]; with_reducible exact H) | (have H2_ := (Option.bind_some _ _).symm.trans H; rw [hy372]; with_reducible exact H2_) | (have H2_ := (Option.bind_some _ _).symm.trans H; with_reducible exact H2_) | with_reducible exact H | (rw [hy372]; exact H) | exact H
                 have Ny372 := Aside0.mk hy372
                 clear hy372
                 have H' := Aside0.mk H
                 clear H
                 have p370 : 0 ≤ (x73_3 : Int) := of_decide_eq_true (by first | (with_reducible assumption) | assumption)
                 have q370 : x73_3 < (l0_2.length : Int) := of_decide_eq_true (by first | (with_reducible assumption) | assumption)
                 obtain ⟨ad370, e370, hx370_0⟩ := Kd.at_int HR0_2.out x73_3 p370 q370
                 cases e370
                 replace hx370_0 := (HB.out.cell (World.block_lt_of_cell? w _ hx370_0)).trans hx370_0
                 replace p370 := eq_true p370
                 replace q370 := eq_true q370
                 try go_wp2
                 have n0_ := Aside0.mk (Kd.R_drew HO_5.out)
                 have n1_ := Aside0.mk (Kd.R_drew HO_359001.out)
                 have n2_ := Aside0.mk (Kd.R_drew HO_359002.out)
                 have n3_ := Aside0.mk (blk_drew BK351.out)
                 have n4_ := Aside0.mk (blk_drew BK352.out)
                 have n5_ := Aside0.mk (blk_drew BK358.out)
                 have n6_ := Aside0.mk (below_drew1 HB.out)
                 clear HO_5
                 clear HO_359001
                 clear HO_359002
                 clear BK351
                 clear BK352
                 clear BK358
                 clear HB
                 have HO_5 := n0_
                 have HO_359001 := n1_
                 have HO_359002 := n2_
                 have BK351 := n3_
                 have BK352 := n4_
                 have BK358 := n5_
                 have HB := n6_
                 clear n0_ n1_ n2_ n3_ n4_ n5_ n6_
                 obtain ⟨Ao84, co84, eo84⟩ := Kd.R_slice HO_5.out
                 (first | subst eo84 | (injection eo84 with f1_ f2_ f3_; have f4_ := f1_.symm; have f5_ := f3_.symm; clear f1_ f2_ f3_; subst f4_; subst f5_))
                 have p371 : 0 ≤ ((rd l0_2 x73_3) : Int) := of_decide_eq_true (by first | (with_reducible assumption) | assumption)
                 have q371 : (rd l0_2 x73_3) < (x5_1.length : Int) := of_decide_eq_true (by first | (with_reducible assumption) | assumption)
                 obtain ⟨ad371, e371, hx371_0⟩ := Kd.at_int (Kd.R_reads' HO_5.out).2.2 (rd l0_2 x73_3) p371 q371
                 cases e371
                 replace p371 := eq_true p371
                 replace q371 := eq_true q371
                 refine start_ (n := 10) (S := fun w' => w'.cell? ⟨gb358, 0, none⟩ = some (.int .i64 x6_1) ∧ w'.cell? ⟨gb358, 1, none⟩ = some (u359001) ∧ w'.cell? ⟨gb358, 2, none⟩ = some (u359002) ∧ w'.cell? ⟨gb358, 3, none⟩ = some (.slice none 0 0) ∧ w'.cell? (ad371.add ((rd l0_2 x73_3)).toNat) = some (.int .i64 (rd x5_1 (rd l0_2 x73_3)))) (ds := [7, 9]) #[false, false, false, false, false, false, false, false, false, false] (by kernel_rfl) rfl rfl ⟨(blk_cell BK358.out 0).trans rfl, (blk_cell BK358.out 1).trans rfl, (blk_cell BK358.out 2).trans rfl, (blk_cell BK358.out 3).trans rfl, hx371_0⟩ (fun hHeld => ?_); refine with_tabW spec_lhMove.tab23 spec_lhMove.bits23 (fun HT_ HW_ => ?_)
                 generalize wr.drew = w83 at HO_5 HO_359001 HO_359002 BK351 BK352 BK358 HB hx371_0 hHeld ⊢
                 refine pure_ (i := 0) (N := some 77) (v := ?_) (a' := ?_) #[true, false, false, false, false, false, false, false, false, false] rfl rfl (any_of HT_.out (by kernel_rfl)) (fun _ _ _ h => h) (Or.inl ⟨by rfl, ?_⟩) ?_ ?_
                 rotate_left
                 ·intro w'
                  go_simp
                  with_reducible rfl
                 rotate_left
                 ·simp only [Act.put, List.setIfInBounds_toArray, List.set_cons_zero, List.set_cons_succ, i64_w, i32_w]
                  rfl
                 refine pure_ (i := 2) (N := some 79) (v := ?_) (a' := ?_) #[true, false, true, false, false, false, false, false, false, false] rfl rfl (any_of HT_.out (by kernel_rfl)) (fun _ _ _ h => h) (Or.inl ⟨by rfl, ?_⟩) ?_ ?_
                 rotate_left
                 ·intro w'
                  go_simp
                  with_reducible rfl
                 rotate_left
                 ·simp only [Act.put, List.setIfInBounds_toArray, List.set_cons_zero, List.set_cons_succ, i64_w, i32_w]
                  rfl
                 refine pure_ (i := 3) (N := some 80) (v := ?_) (a' := ?_) #[true, false, true, true, false, false, false, false, false, false] rfl rfl (any_of HT_.out (by kernel_rfl)) (fun _ _ _ h => h) (Or.inl ⟨by rfl, ?_⟩) ?_ ?_
                 rotate_left
                 ·intro w'
                  go_simp
                  with_reducible rfl
                 rotate_left
                 ·simp only [Act.put, List.setIfInBounds_toArray, List.set_cons_zero, List.set_cons_succ, i64_w, i32_w]
                  rfl
                 refine pure_ (i := 4) (N := some 81) (v := ?_) (a' := ?_) #[true, false, true, true, true, false, false, false, false, false] rfl rfl (any_of HT_.out (by kernel_rfl)) (fun _ _ _ h => h) (Or.inl ⟨by rfl, ?_⟩) ?_ ?_
                 rotate_left
                 ·intro w'
                  go_simp
                  with_reducible rfl
                 rotate_left
                 ·simp only [Act.put, List.setIfInBounds_toArray, List.set_cons_zero, List.set_cons_succ, i64_w, i32_w]
                  rfl
                 refine take_ (i := 1) (N := some 78) (v := ?_) (a' := ?_) #[true, true, true, true, true, false, false, false, false, false] rfl rfl (take_ofW HT_.out HW_.out (by kernel_rfl)) (fun _ _ _ h => h) (Or.inl ⟨by rfl, ?_⟩) hHeld ?_ ?_
                 rotate_left
                 ·rintro w' ⟨s0, s1, s2, s3, s4⟩
                  go_simp
                  with_reducible rfl
                 rotate_left
                 ·simp only [Act.put, List.setIfInBounds_toArray, List.set_cons_zero, List.set_cons_succ, i64_w, i32_w]
                  rfl
                 refine take_ (i := 5) (N := some 82) (v := ?_) (a' := ?_) #[true, true, true, true, true, true, false, false, false, false] rfl rfl (take_ofW HT_.out HW_.out (by kernel_rfl)) (fun _ _ _ h => h) (Or.inl ⟨by rfl, ?_⟩) hHeld ?_ ?_
                 rotate_left
                 ·rintro w' ⟨s0, s1, s2, s3, s4⟩
                  go_simp
                  with_reducible rfl
                 rotate_left
                 ·simp only [Act.put, List.setIfInBounds_toArray, List.set_cons_zero, List.set_cons_succ, i64_w, i32_w]
                  rfl
                 refine one_ (i := 6) (N := some 83) #[true, true, true, true, true, true, true, false, false, false] rfl rfl (one_of HT_.out (by kernel_rfl)) (by decide) (fun K hK => ?_)
                 refine value_ (w1 := ?_) (v := ?_) (by rfl) rfl ?_ ?_
                 rotate_left 2
                 ·go_simp
                  constructor
                  ·rfl
                  ·rfl
                 refine hK.out _ _ ⟨(blk_cell (blk_alloc BK358.out _) 0).trans rfl, (blk_cell (blk_alloc BK358.out _) 1).trans rfl, (blk_cell (blk_alloc BK358.out _) 2).trans rfl, (blk_cell (blk_alloc BK358.out _) 3).trans rfl, (World.cell?_alloc_lt _ _ _ (World.block_lt_of_cell? _ _ (hHeld.2.2.2.2))).trans (hHeld.2.2.2.2)⟩ (fun hHeld => ?_)
                 clear hK K
                 refine norm_ (a' := ?_) ?_ ?_
                 rotate_left
                 ·show Act.put _ (some 83) _ = _
                  simp only [Act.put, List.setIfInBounds_toArray, List.set_cons_zero, List.set_cons_succ, i64_w, i32_w]
                  rfl
                 refine last_ (i := 7) (N := some 84) #[true, true, true, true, true, true, true, true, false, false] rfl rfl (one_of HT_.out (by kernel_rfl)) (by decide) (fun K hK => ?_)
                 refine Kd.R_append_step (Kd.int .i64) (w0 := w) w.heap.size (by rfl) (.tmp 78) (.tmp 83) 23 3 (.int .i64 0) 8 rfl Try.underlying23 info3 rfl (by decide) (by omega) u359002 x359002_3 (rd x5_1 (rd l0_2 x73_3)) [.int .i64 (rd x5_1 (rd l0_2 x73_3))] (fun k_ => some k_ ≠ (.slice (some ad371) x5_1.length co84 : Value).ownBlock) (fun _ => False) rfl rfl ?aP (fun _ hk => hk.elim) ?aF ?aO ?aB ?aS ?aL ?_
                 (case aP => exact rfl)
                 (case aB => exact pb_)
                 (case aF => exact (fun k_ hk => Kd.fresh' (Kd.R_lt (pr_ HO_5.out)) k_ hk))
                 (case aO => exact (pr_ HO_359002.out))
                 (case aS => exact (below_size pb_))
                 (case aL => have := LMc82.out; omega)
                 intro v373 w85 ho hb hg hat
                 rw [← Ny372.out] at ho
                 have n0_ := Aside0.mk (Kd.R_after (ok := (fun _ => True)) (by (with_reducible repeat (first | apply Kd.R_alloc | apply Kd.R_drewN | apply Kd.R_drew)); exact Kd.R_mono HO_5.out (fun _ hk => ⟨trivial, hk⟩)) hg hat)
                 have n1_ := Aside0.mk (Kd.R_over' (pr_ HO_359001.out) (Kd.R_typed (pr_ HO_359002.out)) (by decide) hg)
                 have n2_ := Aside0.mk (blk_grown (g := gb351) (o := .cells #[.int .i64 a0_0, .slice A0_1 l0_1.length c0_1, .slice (some ad370) l0_2.length c0_2, .slice A0_3 l0_3.length c0_3] 30 (0, 0)) (pk_ BK351.out) hg (Kd.R_ne HO_359002.out BK351.out (by decide)))
                 have n3_ := Aside0.mk (blk_grown (g := gb352) (o := .cells #[.int .i64 0, .slice none 0 0, .slice none 0 0, .slice none 0 0] 30 (0, 0)) (pk_ BK352.out) hg (Kd.R_ne HO_359002.out BK352.out (by decide)))
                 have n4_ := Aside0.mk (blk_grown (g := gb358) (o := .cells #[.int .i64 x6_1, u359001, u359002, .slice none 0 0] 30 (0, 0)) (pk_ BK358.out) hg (Kd.R_ne HO_359002.out BK358.out (by decide)))
                 have n5_ := Aside0.mk (hb)
                 have n6_ := Aside0.mk (ho)
                 clear HO_5
                 clear HO_359001
                 clear BK351
                 clear BK352
                 clear BK358
                 clear HB
                 clear HO_359002
                 have HO_5 := n0_
                 have HO_359001 := n1_
                 have BK351 := n2_
                 have BK352 := n3_
                 have BK358 := n4_
                 have HB := n5_
                 have HO374 := n6_
                 clear n0_ n1_ n2_ n3_ n4_ n5_ n6_
                 clear ho hb hg hat
                 obtain ⟨Ao86, co86, eo86⟩ := Kd.R_slice HO374.out
                 (first | subst eo86 | (injection eo86 with f1_ f2_ f3_; have f4_ := f1_.symm; have f5_ := f3_.symm; clear f1_ f2_ f3_; subst f4_; subst f5_))
                 refine hK.out _ _ ?_
                 clear hK K
                 refine norm_ (a' := ?_) ?_ ?_
                 rotate_left
                 ·show Act.put _ (some 84) _ = _
                  simp only [Act.put, List.setIfInBounds_toArray, List.set_cons_zero, List.set_cons_succ, i64_w, i32_w]
                  rfl
                 refine pure_ (i := 8) (N := some 85) (v := ?_) (a' := ?_) #[true, true, true, true, true, true, true, true, true, false] rfl rfl (any_of HT_.out (by kernel_rfl)) (fun _ _ _ h => h) (Or.inl ⟨by rfl, ?_⟩) ?_ ?_
                 rotate_left
                 ·intro w'
                  go_simp
                  with_reducible rfl
                 rotate_left
                 ·simp only [Act.put, List.setIfInBounds_toArray, List.set_cons_zero, List.set_cons_succ, i64_w, i32_w]
                  rfl
                 refine last_ (i := 9) (N := none) #[true, true, true, true, true, true, true, true, true, true] rfl rfl (one_of HT_.out (by kernel_rfl)) (by decide) (fun K hK => ?_)
                 have hs87 : w85.cell? ⟨gb358, 2, none⟩ = some (u359002) := (blk_cell BK358.out 2).trans rfl
                 have hfs87 := blk_frozen BK358.out 2
                 have hns87_0 := NB351_358.out
                 have hns87_1 := NB352_358.out
                 have hms87_0 := NB358_351.out
                 have hms87_1 := NB358_352.out
                 refine skip_ (w1 := ?_) (by rfl) rfl ?_ ?_
                 rotate_left
                 ·go_simp
                  rfl
                 refine hK.out _ _ ?_
                 clear hK K
                 refine done_ (done_of HT_.out (by kernel_rfl)) ?_
                 try go_wp2
                 go_roundg k3
                 case measure => have := HK1.out; have := HK2.out; have := HK3.out; omega
                 case rel => exact ⟨(wrap64 (x73_3 + 1)), (y372), (.slice Ao86 y372.length co86), (by first | rfl | (simp; done) | (simp [*]; done)), H', ⟨by have := HK1.out; have := HK2.out; have := HK3.out; omega⟩, ⟨by (with_reducible repeat (first | apply Kd.R_alloc | apply Kd.R_drewN | apply Kd.R_drew)); exact Kd.R_mono (Kd.R_far (p := ⟨gb358, 2, none⟩) (Kd.R_types HO_5.out BK358.out (by decide)) (fun _ hk => hk.2) (.slice Ao86 y372.length co86)) (fun _ hk => hk.1.2)⟩, ⟨by (with_reducible repeat (first | apply Kd.R_alloc | apply Kd.R_drewN | apply Kd.R_drew)); exact Kd.R_mono (Kd.R_far (p := ⟨gb358, 2, none⟩) (Kd.R_types HO_359001.out BK358.out (by decide)) (fun _ hk => hk.2) (.slice Ao86 y372.length co86)) (fun _ hk => trivial)⟩, ⟨by (with_reducible repeat (first | apply Kd.R_alloc | apply Kd.R_drewN | apply Kd.R_drew)); exact Kd.R_mono (Kd.R_far (p := ⟨gb358, 2, none⟩) (Kd.R_types HO374.out BK358.out (by decide)) (fun _ hk => hk.2) (.slice Ao86 y372.length co86)) (fun _ hk => hk.1)⟩, ⟨by (with_reducible repeat (first | refine blk_drewN ?_ _ | refine blk_drew ?_ | refine blk_alloc ?_ _)); refine blk_far ?_ NB351_358.out _; (with_reducible repeat (first | refine blk_drewN ?_ _ | refine blk_drew ?_ | refine blk_alloc ?_ _)); exact BK351.out⟩, ⟨by (with_reducible repeat (first | refine blk_drewN ?_ _ | refine blk_drew ?_ | refine blk_alloc ?_ _)); refine blk_far ?_ NB352_358.out _; (with_reducible repeat (first | refine blk_drewN ?_ _ | refine blk_drew ?_ | refine blk_alloc ?_ _)); exact BK352.out⟩, ⟨by (with_reducible repeat (first | refine blk_drewN ?_ _ | refine blk_drew ?_ | refine blk_alloc ?_ _)); refine blk_put (cs := #[.int .i64 x6_1, u359001, u359002, .slice none 0 0]) ?_ 2 _ rfl; (with_reducible repeat (first | refine blk_drewN ?_ _ | refine blk_drew ?_ | refine blk_alloc ?_ _)); exact BK358.out⟩, ⟨pb_⟩⟩
                ·rw [if_neg c82] at H
                 exact absurd H (by simp)
               ·rw [if_neg c81] at H
                exact absurd H (by simp)
              ·rw [if_neg c80] at H
               exact absurd H (by simp)
             ·rw [if_neg c79] at H
              exact absurd H (by simp)
            ·rw [if_neg c78] at H
             exact absurd H (by simp)
           ·rw [if_neg c77] at H
            have c77b0 : decide (x73_3 < (l0_2.length : Int)) = false := decide_eq_false c77
            clear c77
            simp only [Option.some.injEq, Prod.mk.injEq] at H
            obtain ⟨rfl, rfl, rfl, rfl⟩ := H
            have hnb88 := NB358_351.out
            have hnc88 := NB351_358.out
            have hnb89 := NB358_352.out
            have hnc89 := NB352_358.out
            have hcz90_0 := bc0 BK358.out
            have hcz90_1 := bc1 BK358.out
            have hcz90_2 := bc2 BK358.out
            have hcz90_3 := bc3 BK358.out
            have hfz90_0 := blk_frozen BK358.out 0
            have hfz90_1 := blk_frozen BK358.out 1
            have hfz90_2 := blk_frozen BK358.out 2
            have hfz90_3 := blk_frozen BK358.out 3
            have hnb91 := NB352_351.out
            have hnc91 := NB351_352.out
            have hcz92_0 := bc0 BK352.out
            have hcz92_1 := bc1 BK352.out
            have hcz92_2 := bc2 BK352.out
            have hcz92_3 := bc3 BK352.out
            have hfz92_0 := blk_frozen BK352.out 0
            have hfz92_1 := blk_frozen BK352.out 1
            have hfz92_2 := blk_frozen BK352.out 2
            have hfz92_3 := blk_frozen BK352.out 3
            obtain ⟨Ao93, co93, eo93⟩ := Kd.R_slice HO_359001.out
            subst eo93
            obtain ⟨Ao94, co94, eo94⟩ := Kd.R_slice HO_359002.out
            subst eo94
            go_wp2_with (first | ((with_reducible refine gate_store (t := 30) (p := 4) rfl ?_); refine store_event (t := 30) (p := 4) (v := ?vo_w95) (w1 := ((((wr.setCell ⟨gb352, 0, none⟩ (.int .i64 x6_1)).setCell ⟨gb352, 1, none⟩ (.slice Ao93 x359001_2.length co93)).setCell ⟨gb352, 2, none⟩ (.slice Ao94 x359002_3.length co94)).setCell ⟨gb352, 3, none⟩ (.slice none 0 0))) ?hg ?ho ?hn ?hr ?_; (case ho => rfl); (case hg => rfl); (case hn => rfl); (case hr => first | (go_simp; done) | (go_simp; rfl)); intro w95 hw; have n0_ : Aside0 (Kd.R (Kd.int .i64) 3 w95 w.heap.size (fun k_ => some k_ ≠ (.slice Ao94 x359002_3.length co94 : Value).ownBlock) v354 x5_1) := ⟨(by rw [hw]; exact (by (with_reducible repeat (first | apply Kd.R_alloc | apply Kd.R_drewN | apply Kd.R_drew)); exact Kd.R_mono (Kd.R_far (p := ⟨gb352, 3, none⟩) (Kd.R_far (p := ⟨gb352, 2, none⟩) (Kd.R_far (p := ⟨gb352, 1, none⟩) (Kd.R_far (p := ⟨gb352, 0, none⟩) (Kd.R_types HO_5.out BK352.out (by decide)) (fun _ hk => hk.2) (.int .i64 x6_1)) (fun _ hk => hk.2) (.slice Ao93 x359001_2.length co93)) (fun _ hk => hk.2) (.slice Ao94 x359002_3.length co94)) (fun _ hk => hk.2) (.slice none 0 0)) (fun _ hk => hk.1)))⟩; have n1_ : Aside0 (Kd.R k46 46 w95 w.heap.size (fun _ => True) (.slice Ao93 x359001_2.length co93) x359001_2) := ⟨(by rw [hw]; exact (by (with_reducible repeat (first | apply Kd.R_alloc | apply Kd.R_drewN | apply Kd.R_drew)); exact Kd.R_mono (Kd.R_far (p := ⟨gb352, 3, none⟩) (Kd.R_far (p := ⟨gb352, 2, none⟩) (Kd.R_far (p := ⟨gb352, 1, none⟩) (Kd.R_far (p := ⟨gb352, 0, none⟩) (Kd.R_types HO_359001.out BK352.out (by decide)) (fun _ hk => hk.2) (.int .i64 x6_1)) (fun _ hk => hk.2) (.slice Ao93 x359001_2.length co93)) (fun _ hk => hk.2) (.slice Ao94 x359002_3.length co94)) (fun _ hk => hk.2) (.slice none 0 0)) (fun _ hk => trivial)))⟩; have n2_ : Aside0 (Kd.R (Kd.int .i64) 3 w95 w.heap.size (fun k_ => some k_ ≠ (v354 : Value).ownBlock) (.slice Ao94 x359002_3.length co94) x359002_3) := ⟨(by rw [hw]; exact (by (with_reducible repeat (first | apply Kd.R_alloc | apply Kd.R_drewN | apply Kd.R_drew)); exact Kd.R_mono (Kd.R_far (p := ⟨gb352, 3, none⟩) (Kd.R_far (p := ⟨gb352, 2, none⟩) (Kd.R_far (p := ⟨gb352, 1, none⟩) (Kd.R_far (p := ⟨gb352, 0, none⟩) (Kd.R_types HO_359002.out BK352.out (by decide)) (fun _ hk => hk.2) (.int .i64 x6_1)) (fun _ hk => hk.2) (.slice Ao93 x359001_2.length co93)) (fun _ hk => hk.2) (.slice Ao94 x359002_3.length co94)) (fun _ hk => hk.2) (.slice none 0 0)) (fun _ hk => hk.1)))⟩; have n3_ : Aside0 (w95.heap[gb351]? = some (.cells #[.int .i64 a0_0, .slice A0_1 l0_1.length c0_1, .slice A0_2 l0_2.length c0_2, .slice A0_3 l0_3.length c0_3] 30 (0, 0))) := ⟨(by rw [hw]; exact (by (with_reducible repeat (first | refine blk_drewN ?_ _ | refine blk_drew ?_ | refine blk_alloc ?_ _)); refine blk_far ?_ NB351_352.out _; (with_reducible repeat (first | refine blk_drewN ?_ _ | refine blk_drew ?_ | refine blk_alloc ?_ _)); refine blk_far ?_ NB351_352.out _; (with_reducible repeat (first | refine blk_drewN ?_ _ | refine blk_drew ?_ | refine blk_alloc ?_ _)); refine blk_far ?_ NB351_352.out _; (with_reducible repeat (first | refine blk_drewN ?_ _ | refine blk_drew ?_ | refine blk_alloc ?_ _)); refine blk_far ?_ NB351_352.out _; (with_reducible repeat (first | refine blk_drewN ?_ _ | refine blk_drew ?_ | refine blk_alloc ?_ _)); exact BK351.out))⟩; have n4_ : Aside0 (w95.heap[gb352]? = some (.cells #[.int .i64 x6_1, .slice Ao93 x359001_2.length co93, .slice Ao94 x359002_3.length co94, .slice none 0 0] 30 (0, 0))) := ⟨(by rw [hw]; exact (by (with_reducible repeat (first | refine blk_drewN ?_ _ | refine blk_drew ?_ | refine blk_alloc ?_ _)); refine blk_put (cs := #[.int .i64 x6_1, .slice Ao93 x359001_2.length co93, .slice Ao94 x359002_3.length co94, .slice none 0 0]) ?_ 3 _ rfl; (with_reducible repeat (first | refine blk_drewN ?_ _ | refine blk_drew ?_ | refine blk_alloc ?_ _)); refine blk_put (cs := #[.int .i64 x6_1, .slice Ao93 x359001_2.length co93, .slice none 0 0, .slice none 0 0]) ?_ 2 _ rfl; (with_reducible repeat (first | refine blk_drewN ?_ _ | refine blk_drew ?_ | refine blk_alloc ?_ _)); refine blk_put (cs := #[.int .i64 x6_1, .slice none 0 0, .slice none 0 0, .slice none 0 0]) ?_ 1 _ rfl; (with_reducible repeat (first | refine blk_drewN ?_ _ | refine blk_drew ?_ | refine blk_alloc ?_ _)); refine blk_put (cs := #[.int .i64 0, .slice none 0 0, .slice none 0 0, .slice none 0 0]) ?_ 0 _ rfl; (with_reducible repeat (first | refine blk_drewN ?_ _ | refine blk_drew ?_ | refine blk_alloc ?_ _)); exact BK352.out))⟩; have n5_ : Aside0 (w95.heap[gb358]? = some (.cells #[.int .i64 x6_1, .slice Ao93 x359001_2.length co93, .slice Ao94 x359002_3.length co94, .slice none 0 0] 30 (0, 0))) := ⟨(by rw [hw]; exact (by (with_reducible repeat (first | refine blk_drewN ?_ _ | refine blk_drew ?_ | refine blk_alloc ?_ _)); refine blk_far ?_ NB358_352.out _; (with_reducible repeat (first | refine blk_drewN ?_ _ | refine blk_drew ?_ | refine blk_alloc ?_ _)); refine blk_far ?_ NB358_352.out _; (with_reducible repeat (first | refine blk_drewN ?_ _ | refine blk_drew ?_ | refine blk_alloc ?_ _)); refine blk_far ?_ NB358_352.out _; (with_reducible repeat (first | refine blk_drewN ?_ _ | refine blk_drew ?_ | refine blk_alloc ?_ _)); refine blk_far ?_ NB358_352.out _; (with_reducible repeat (first | refine blk_drewN ?_ _ | refine blk_drew ?_ | refine blk_alloc ?_ _)); exact BK358.out))⟩; have n6_ : Aside0 (Below w.heap.size w w95) := ⟨(by rw [hw]; exact pb_)⟩; clear hw; clear HO_5; clear HO_359001; clear HO_359002; clear BK351; clear BK352; clear BK358; clear HB; have HO_5 := n0_; have HO_359001 := n1_; have HO_359002 := n2_; have BK351 := n3_; have BK352 := n4_; have BK358 := n5_; have HB := n6_; clear n0_ n1_ n2_ n3_ n4_ n5_ n6_))
            refine bodyPost_ret (results_cell_row rfl _ _ gb352 30 #[.int .i64 x6_1, .slice Ao93 x359001_2.length co93, .slice Ao94 x359002_3.length co94, .slice none 0 0] (0, 0) _ rfl (pk_ BK352.out) Try.underlying30 rfl (by kernel_rfl)) rfl ?_
            exact ⟨_, _, _, by first | rfl | (simp [errW_none, errW_some] <;> rfl) | (simp [*, errW_none, errW_some] <;> rfl), by (with_reducible repeat (first | apply Kd.R_alloc | apply Kd.R_drewN | apply Kd.R_drew)); exact HO_359001.out, by (with_reducible repeat (first | apply Kd.R_alloc | apply Kd.R_drewN | apply Kd.R_drew)); exact Kd.R_mono HO_359002.out (fun _ hk => (by simp [Value.ownBlock])), by first | exact Kd.R_nil _ _ _ _ _ | exact Kd.N_nil _ _ _ _ _ | exact Kd.V_nil _ _ _ _ _ | exact Kd.Q_nil _ _ _ _ _ | exact Kd.S_nil _ _ _ _ _, pb_⟩
  ·rw [if_neg c4] at H
   exact absurd H (by simp)
 ·rw [if_neg c3] at H
  exact absurd H (by simp)
end Go.Proofs.Ytpjikgeglhjehaa.PH
