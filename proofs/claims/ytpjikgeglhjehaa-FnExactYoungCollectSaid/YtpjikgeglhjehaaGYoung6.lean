/- Texts of this claim, merged by merge.py (a program of this session's): the kit's printed words, where used; what functions come to; the plain law. -/
import Derived.Test.YtpjikgeglhjehaaGYoung2
import Derived.Test.YtpjikgeglhjehaaGYoung5
namespace Go.Proofs.Ytpjikgeglhjehaa.PH
open Go.RowKit Go.Proofs.YtpjikgeglhjehaaW.PrintWords Go.Proofs.YtpjikgeglhjehaaW.PrintLast Go.Proofs.YtpjikgeglhjehaaW.PrintMore
attribute [local go_sem] max2_int min2_int max_two min_two max_three min_three max_four min_four   -- for this text's walks alone
set_option linter.unusedVariables false
set_option linter.unusedSimpArgs false
mutual
def impl_kept.l0 : Nat → List (S46) → List Int → List Bool → List Int → List (S46) → List Int → Int → List Bool → Int → Int → Option ((List (S46)) × List Int)
 | 0, _, _, _, _, _, _, _, _, _, _ => none
 | k + 1, x0, x1, x2, x8, x9, x10, x11, x23, x24, x25 => if x25 < x24 then (if 0 ≤ x25 then (if x25 < (x23.length : Int) then (if x25 < (x8.length : Int) then ((some (x8.set (x25 : Int).toNat x11 : List Int)).bind fun y413 => (if rdOf false x23 x25 = true then (impl_kept.l0 k x0 x1 x2 y413 x9 x10 (wrap64 (x11 + 1)) x23 x24 (wrap64 (x25 + 1))) else (impl_kept.l0 k x0 x1 x2 y413 x9 x10 x11 x23 x24 (wrap64 (x25 + 1))))) else (none)) else (none)) else (none)) else (impl_kept.l1 k x1 x2 x8 x9 x10 x0 (x0.length : Int) 0)
def impl_kept.l1 : Nat → List Int → List Bool → List Int → List (S46) → List Int → List (S46) → Int → Int → Option ((List (S46)) × List Int)
 | 0, _, _, _, _, _, _, _, _ => none
 | k + 1, x1, x2, x8, x9, x10, x38, x39, x40 => if x40 < x39 then (if 0 ≤ x40 then (if x40 < (x38.length : Int) then (if x40 < (x2.length : Int) then (if rdOf false x2 x40 = true then (if (rd_T46 x38 x40).f0 = true then (if x9.length < 4398046511104 then (impl_kept.l1 k x1 x2 x8 (x9 ++ [(⟨(rd_T46 x38 x40).f0, (rd_T46 x38 x40).f1, (rd_T46 x38 x40).f2, (rd_T46 x38 x40).f3⟩ : S46)]) x10 x38 x39 (wrap64 (x40 + 1))) else (none)) else (if 0 ≤ ((rd_T46 x38 x40).f2) then (if ((rd_T46 x38 x40).f2) < (x8.length : Int) then (if 0 ≤ ((rd_T46 x38 x40).f3) then (if ((rd_T46 x38 x40).f3) < (x8.length : Int) then (if x9.length < 4398046511104 then (impl_kept.l1 k x1 x2 x8 (x9 ++ [(⟨(rd_T46 x38 x40).f0, (rd_T46 x38 x40).f1, rd x8 ((rd_T46 x38 x40).f2), rd x8 ((rd_T46 x38 x40).f3)⟩ : S46)]) x10 x38 x39 (wrap64 (x40 + 1))) else (none)) else (none)) else (none)) else (none)) else (none))) else (impl_kept.l1 k x1 x2 x8 x9 x10 x38 x39 (wrap64 (x40 + 1)))) else (none)) else (none)) else (none)) else (impl_kept.l2 k x8 x9 x10 x1 (x1.length : Int) 0)
def impl_kept.l2 : Nat → List Int → List (S46) → List Int → List Int → Int → Int → Option ((List (S46)) × List Int)
 | 0, _, _, _, _, _, _ => none
 | k + 1, x8, x9, x10, x70, x71, x72 => if x72 < x71 then (if 0 ≤ x72 then (if x72 < (x70.length : Int) then (if 0 ≤ (rd x70 x72) then (if (rd x70 x72) < (x8.length : Int) then (if x10.length < 17592186044416 then (impl_kept.l2 k x8 x9 (x10 ++ [rd x8 (rd x70 x72)]) x70 x71 (wrap64 (x72 + 1))) else (none)) else (none)) else (none)) else (none)) else (none)) else (some (x9, x10))
end
def impl_kept.f (k : Nat) (l0 : List (S46)) (l1 : List Int) (l2 : List Bool) : Option ((List (S46)) × List Int) := if 0 ≤ (l0.length : Int) then (if ((l0.length : Int) : Int).toNat ≤ 35184372088832 then (impl_kept.l0 k l0 l1 l2 (List.replicate ((l0.length : Int) : Int).toNat 0) (([] : List (S46))) (([] : List Int)) 0 l2 (l2.length : Int) 0) else (none)) else (none)
theorem impl_kept.mono_l : ∀ k, (∀ y0 y1 y2 y3 y4 y5 y6 y7 y8 y9, LeO (impl_kept.l0 k y0 y1 y2 y3 y4 y5 y6 y7 y8 y9) (impl_kept.l0 (k + 1) y0 y1 y2 y3 y4 y5 y6 y7 y8 y9)) ∧ (∀ y0 y1 y2 y3 y4 y5 y6 y7, LeO (impl_kept.l1 k y0 y1 y2 y3 y4 y5 y6 y7) (impl_kept.l1 (k + 1) y0 y1 y2 y3 y4 y5 y6 y7)) ∧ (∀ y0 y1 y2 y3 y4 y5, LeO (impl_kept.l2 k y0 y1 y2 y3 y4 y5) (impl_kept.l2 (k + 1) y0 y1 y2 y3 y4 y5))
 | 0 => ⟨fun _ _ _ _ _ _ _ _ _ _ r h => by simp [impl_kept.l0] at h, fun _ _ _ _ _ _ _ _ r h => by simp [impl_kept.l1] at h, fun _ _ _ _ _ _ r h => by simp [impl_kept.l2] at h⟩
 | k + 1 => by
  obtain ⟨ih0, ih1, ih2⟩ := impl_kept.mono_l k
  refine ⟨?_, ?_, ?_⟩
  ·intro y0 y1 y2 y3 y4 y5 y6 y7 y8 y9
   unfold impl_kept.l0
   repeat' first
   | (with_reducible exact ih0 _ _ _ _ _ _ _ _ _ _)
   | (with_reducible exact ih1 _ _ _ _ _ _ _ _)
   | (with_reducible exact ih2 _ _ _ _ _ _)
   | (with_reducible exact LeO.refl _)
   | (with_reducible exact LeO.none _)
   | (with_reducible refine LeO.ite ?_ ?_)
   | (with_reducible refine LeO.bind ?_ (fun _ => ?_))
   | exact ih0 _ _ _ _ _ _ _ _ _ _
   | exact ih1 _ _ _ _ _ _ _ _
   | exact ih2 _ _ _ _ _ _
   | exact LeO.none _
   | refine LeO.ite ?_ ?_
   | refine LeO.bind ?_ (fun _ => ?_)
  ·intro y0 y1 y2 y3 y4 y5 y6 y7
   unfold impl_kept.l1
   repeat' first
   | (with_reducible exact ih0 _ _ _ _ _ _ _ _ _ _)
   | (with_reducible exact ih1 _ _ _ _ _ _ _ _)
   | (with_reducible exact ih2 _ _ _ _ _ _)
   | (with_reducible exact LeO.refl _)
   | (with_reducible exact LeO.none _)
   | (with_reducible refine LeO.ite ?_ ?_)
   | (with_reducible refine LeO.bind ?_ (fun _ => ?_))
   | exact ih0 _ _ _ _ _ _ _ _ _ _
   | exact ih1 _ _ _ _ _ _ _ _
   | exact ih2 _ _ _ _ _ _
   | exact LeO.none _
   | refine LeO.ite ?_ ?_
   | refine LeO.bind ?_ (fun _ => ?_)
  ·intro y0 y1 y2 y3 y4 y5
   unfold impl_kept.l2
   repeat' first
   | (with_reducible exact ih0 _ _ _ _ _ _ _ _ _ _)
   | (with_reducible exact ih1 _ _ _ _ _ _ _ _)
   | (with_reducible exact ih2 _ _ _ _ _ _)
   | (with_reducible exact LeO.refl _)
   | (with_reducible exact LeO.none _)
   | (with_reducible refine LeO.ite ?_ ?_)
   | (with_reducible refine LeO.bind ?_ (fun _ => ?_))
   | exact ih0 _ _ _ _ _ _ _ _ _ _
   | exact ih1 _ _ _ _ _ _ _ _
   | exact ih2 _ _ _ _ _ _
   | exact LeO.none _
   | refine LeO.ite ?_ ?_
   | refine LeO.bind ?_ (fun _ => ?_)
theorem impl_kept.mono : ∀ a0 a1 a2 k, LeO (impl_kept.f k a0 a1 a2) (impl_kept.f (k + 1) a0 a1 a2) := by
 intro a0 a1 a2 k
 obtain ⟨ih0, ih1, ih2⟩ := impl_kept.mono_l k
 unfold impl_kept.f
 repeat' first
   | (with_reducible exact ih0 _ _ _ _ _ _ _ _ _ _)
   | (with_reducible exact ih1 _ _ _ _ _ _ _ _)
   | (with_reducible exact ih2 _ _ _ _ _ _)
   | (with_reducible exact LeO.refl _)
   | (with_reducible exact LeO.none _)
   | (with_reducible refine LeO.ite ?_ ?_)
   | (with_reducible refine LeO.bind ?_ (fun _ => ?_))
   | exact ih0 _ _ _ _ _ _ _ _ _ _
   | exact ih1 _ _ _ _ _ _ _ _
   | exact ih2 _ _ _ _ _ _
   | exact LeO.none _
   | refine LeO.ite ?_ ?_
   | refine LeO.bind ?_ (fun _ => ?_)
set_option maxHeartbeats 8000000 in
set_option maxRecDepth 100000 in
theorem impl_kept.calls (k : Nat) (A0 : Option Addr) (c0 : Nat) (l0 : List (S46)) (A1 : Option Addr) (c1 : Nat) (l1 : List Int) (A2 : Option Addr) (c2 : Nat) (l2 : List Bool) (r1 : List (S46)) (r2 : List Int) (w : World) (hr0 : Kd.C k46 w A0 l0.length l0) (hc0 : l0.length ≤ c0) (hr1 : Kd.C (Kd.int .i64) w A1 l1.length l1) (hc1 : l1.length ≤ c1) (hr2 : Kd.C Kd.bool w A2 l2.length l2) (hc2 : l2.length ≤ c2) (h : impl_kept.f k l0 l1 l2 = some (r1, r2)) :
  Calls Try.prog 65 #[.slice A0 l0.length c0, .slice A1 l1.length c1, .slice A2 l2.length c2] w fun e w' => ∃ v0_ v1_ : Value, e = .returned (.tuple #[v0_, v1_]) ∧ Kd.R k46 46 w' w.heap.size (fun _ => True) v0_ r1 ∧ Kd.R (Kd.int .i64) 3 w' w.heap.size (fun _ => True) v1_ r2 ∧ Below w.heap.size w w' := by
 have hu46 := Try.underlying46
 have HR0 := Aside0.mk hr0
 have HC0 := Aside0.mk hc0
 clear hr0 hc0
 have HR1 := Aside0.mk hr1
 have HC1 := Aside0.mk hc1
 clear hr1 hc1
 have HR2 := Aside0.mk hr2
 have HC2 := Aside0.mk hc2
 clear hr2 hc2
 have HB := Aside0.mk (Below.refl w.heap.size w)
 have H : (if 0 ≤ (l0.length : Int) then (if ((l0.length : Int) : Int).toNat ≤ 35184372088832 then (impl_kept.l0 k l0 l1 l2 (List.replicate ((l0.length : Int) : Int).toNat 0) (([] : List (S46))) (([] : List Int)) 0 l2 (l2.length : Int) 0) else (none)) else (none)) = some (r1, r2) := h
 clear h
 by_cases c4 : 0 ≤ (l0.length : Int)
 ·rw [if_pos c4] at H
  have c4b0 := eq_true c4
  have c4b1 : decide (0 ≤ (l0.length : Int)) = true := decide_eq_true c4
  clear c4
  by_cases c5 : ((l0.length : Int) : Int).toNat ≤ 35184372088832
  ·rw [if_pos c5] at H
   have c5b0 := eq_true c5
   have c5b1 : decide (((l0.length : Int) : Int).toNat ≤ 35184372088832) = true := decide_eq_true c5
   clear c5
   obtain ⟨y403, hy403⟩ : ∃ y_ : List Int, y_ = (List.replicate ((l0.length : Int) : Int).toNat 0) := ⟨_, rfl⟩
   replace H : (impl_kept.l0 k l0 l1 l2 y403 (([] : List (S46))) (([] : List Int)) 0 l2 (l2.length : Int) 0) = some (r1, r2) := by first | (rw [hy403]; with_reducible exact H) | (have H2_ := (Option.bind_some _ _).symm.trans H; rw [hy403]; with_reducible exact H2_) | (have H2_ := (Option.bind_some _ _).symm.trans H; with_reducible exact H2_) | with_reducible exact H | (rw [hy403]; exact H) | exact H
   have Ny403 := Aside0.mk hy403
   clear hy403
   obtain ⟨y406, hy406⟩ : ∃ y_ : List (S46), y_ = (([] : List (S46))) := ⟨_, rfl⟩
   replace H : (impl_kept.l0 k l0 l1 l2 y403 y406 (([] : List Int)) 0 l2 (l2.length : Int) 0) = some (r1, r2) := by first | (rw [hy406]; with_reducible exact H) | (have H2_ := (Option.bind_some _ _).symm.trans H; rw [hy406]; with_reducible exact H2_) | (have H2_ := (Option.bind_some _ _).symm.trans H; with_reducible exact H2_) | with_reducible exact H | (rw [hy406]; exact H) | exact H
   have Ny406 := Aside0.mk hy406
   clear hy406
   obtain ⟨y409, hy409⟩ : ∃ y_ : List Int, y_ = (([] : List Int)) := ⟨_, rfl⟩
   replace H : (impl_kept.l0 k l0 l1 l2 y403 y406 y409 0 l2 (l2.length : Int) 0) = some (r1, r2) := by first | (rw [hy409]; with_reducible exact H) | (have H2_ := (Option.bind_some _ _).symm.trans H; rw [hy409]; with_reducible exact H2_) | (have H2_ := (Option.bind_some _ _).symm.trans H; with_reducible exact H2_) | with_reducible exact H | (rw [hy409]; exact H) | exact H
   have Ny409 := Aside0.mk hy409
   clear hy409
   have H' := Aside0.mk H
   clear H
   go_enter Try.func65, Try.ntmps65
   go_wp2_with (first | ((with_reducible refine gate_dst (N := 20) rfl ?_); refine Kd.R_make (Kd.int .i64) _ 3 rfl (N := 20) rfl 23 _ _ rfl (l0.length : Int) rfl rfl Try.underlying23 (.int .i64 0) 8 info3 rfl (by decide) (by omega) 0 (ok := fun _ => True) (okp := fun _ => True) rfl (fun _ hk => hk) trivial (of_decide_eq_true (by first | (with_reducible assumption) | assumption)) (Nat.le_trans (Nat.mul_le_mul_right _ (of_decide_eq_true (by first | (with_reducible assumption) | assumption) : (l0.length : Int).toNat ≤ 35184372088832)) (by omega)) (Below.refl _ _) (Nat.le_refl _) ?_; intro v404 w6 ho7 hb hg_ hnew_; clear hg_ hnew_; (first | rw [← Ny403.out] at ho7 | (simp only [Int.reduceToNat] at ho7; rw [← Ny403.out] at ho7)); have n0_ := Aside0.mk (Kd.R_lower ho7 (below_size pb_)); have n1_ := Aside0.mk (below_step pb_ hb); clear HB; have HO405 := n0_; have HB := n1_; clear n0_ n1_; clear hb ho7) | ((with_reducible refine gate_dst (N := 21) rfl ?_); refine Kd.R_lit k46 _ 46 ?hg (N := 21) ?hd (xs := ([] : List (S46))) (inner := []) (ok := fun _ => True) (okp := fun _ => True) ?hr ?hp (fun _ hk => hk) trivial (Below.refl _ _) (Nat.le_refl _) (by simp) ?_; (case hd => rfl); (case hg => rfl); (case hr => first | (go_simp; done) | (go_simp; rfl)); (case hp => exact (Reps.none _ _)); intro v407 w8 ho9 hb hg_ hnew_; clear hg_ hnew_; (first | rw [← Ny406.out] at ho9 | (simp only [Int.reduceToNat] at ho9; rw [← Ny406.out] at ho9)); have n0_ := Aside0.mk (Kd.R_below (pr_ HO405.out) hb); have n1_ := Aside0.mk (Kd.R_lower ho9 (below_size pb_)); have n2_ := Aside0.mk (below_step pb_ hb); clear HO405; clear HB; have HO405 := n0_; have HO408 := n1_; have HB := n2_; clear n0_ n1_ n2_; clear hb ho9) | ((with_reducible refine gate_dst (N := 22) rfl ?_); refine Kd.R_lit (Kd.int .i64) _ 3 ?hg (N := 22) ?hd (xs := ([] : List Int)) (inner := []) (ok := fun _ => True) (okp := fun _ => True) ?hr ?hp (fun _ hk => hk) trivial (Below.refl _ _) (Nat.le_refl _) (by simp) ?_; (case hd => rfl); (case hg => rfl); (case hr => first | (go_simp; done) | (go_simp; rfl)); (case hp => exact (Reps.none _ _)); intro v410 w10 ho11 hb hg_ hnew_; clear hg_ hnew_; (first | rw [← Ny409.out] at ho11 | (simp only [Int.reduceToNat] at ho11; rw [← Ny409.out] at ho11)); have n0_ := Aside0.mk (Kd.R_elder' (pr_ HO405.out) (Kd.R_base ho11) hb); have n1_ := Aside0.mk (Kd.R_below (pr_ HO408.out) hb); have n2_ := Aside0.mk (Kd.R_lower (Kd.R_new' ho11 (Kd.R_lt (pr_ HO405.out))) (below_size pb_)); have n3_ := Aside0.mk (below_step pb_ hb); clear HO405; clear HO408; clear HB; have HO405 := n0_; have HO408 := n1_; have HO411 := n2_; have HB := n3_; clear n0_ n1_ n2_ n3_; clear hb ho11))
   go_loopg [11, 25] k (fun kq v11 v25 w' => ∃ (x8_1 : List Int) (x11_1 : Int) (x25_1 : Int), v11 = .int .i64 x11_1 ∧ v25 = .int .i64 x25_1 ∧ Aside0 (impl_kept.l0 kq l0 l1 l2 x8_1 y406 y409 x11_1 l2 (l2.length : Int) x25_1 = some (r1, r2)) ∧ Aside0 (kq ≤ k) ∧ Aside0 (Kd.R (Kd.int .i64) 3 w' w.heap.size (fun k_ => some k_ ≠ (v410 : Value).ownBlock) v404 x8_1) ∧ Aside0 (Kd.R k46 46 w' w.heap.size (fun _ => True) v407 y406) ∧ Aside0 (Kd.R (Kd.int .i64) 3 w' w.heap.size (fun k_ => some k_ ≠ (v404 : Value).ownBlock) v410 y409) ∧ Aside0 (Below w.heap.size w w'))
   case atStart => exact ⟨(y403), (0), (0), (by first | rfl | (simp; done) | (simp [*]; done)), (by first | rfl | (simp; done) | (simp [*]; done)), H', ⟨Nat.le_refl _⟩, ⟨by (with_reducible repeat (first | apply Kd.R_alloc | apply Kd.R_drewN | apply Kd.R_drew)); exact Kd.R_mono HO405.out (fun _ hk => hk.2)⟩, ⟨by (with_reducible repeat (first | apply Kd.R_alloc | apply Kd.R_drewN | apply Kd.R_drew)); exact HO408.out⟩, ⟨by (with_reducible repeat (first | apply Kd.R_alloc | apply Kd.R_drewN | apply Kd.R_drew)); exact Kd.R_mono HO411.out (fun _ hk => hk.2)⟩, ⟨pb_⟩⟩
   case round =>
    clear H'
    try clear c1
    try clear c2
    try clear p2
    try clear c4
    try clear c4b0
    try clear c4b1
    try clear c5
    try clear c5b0
    try clear c5b1
    try clear c6
    obtain ⟨x8_1, x11_1, x25_1, rfl, rfl, HA, HK1, HO_8, HO_9, HO_10, HB⟩ := hrel
    cases gk with
    | zero => exact absurd HA.out (by simp [impl_kept.l0])
    | succ k1 =>
     have H := HA.out
     clear HA
     simp only [impl_kept.l0] at H
     by_cases c12 : x25_1 < (l2.length : Int)
     ·rw [if_pos c12] at H
      have c12b0 : decide (x25_1 < (l2.length : Int)) = true := decide_eq_true c12
      clear c12
      by_cases c13 : 0 ≤ x25_1
      ·rw [if_pos c13] at H
       have c13b0 : decide (0 ≤ x25_1) = true := decide_eq_true c13
       clear c13
       by_cases c14 : x25_1 < (l2.length : Int)
       ·rw [if_pos c14] at H
        have c14b0 : decide (x25_1 < (l2.length : Int)) = true := decide_eq_true c14
        clear c14
        by_cases c15 : x25_1 < (x8_1.length : Int)
        ·rw [if_pos c15] at H
         have c15b0 : decide (x25_1 < (x8_1.length : Int)) = true := decide_eq_true c15
         clear c15
         obtain ⟨y413, hy413⟩ : ∃ y_ : List Int, y_ = (x8_1.set (x25_1 : Int).toNat x11_1) := ⟨_, rfl⟩
         replace H : (if rdOf false l2 x25_1 = true then (impl_kept.l0 k1 l0 l1 l2 y413 y406 y409 (wrap64 (x11_1 + 1)) l2 (l2.length : Int) (wrap64 (x25_1 + 1))) else (impl_kept.l0 k1 l0 l1 l2 y413 y406 y409 x11_1 l2 (l2.length : Int) (wrap64 (x25_1 + 1)))) = some (r1, r2) := by first | (rw [hy413]; with_reducible exact H) | (have H2_ := (Option.bind_some _ _).symm.trans H; rw [hy413]; with_reducible exact H2_) | (have H2_ := (Option.bind_some _ _).symm.trans H; with_reducible exact H2_) | with_reducible exact H | (rw [hy413]; exact H) | exact H
         have Ny413 := Aside0.mk hy413
         clear hy413
         obtain ⟨bq17, hbq17⟩ : ∃ b_ : Bool, b_ = (rdOf false l2 x25_1) := ⟨_, rfl⟩
         replace H : (if bq17 = true then (impl_kept.l0 k1 l0 l1 l2 y413 y406 y409 (wrap64 (x11_1 + 1)) l2 (l2.length : Int) (wrap64 (x25_1 + 1))) else (impl_kept.l0 k1 l0 l1 l2 y413 y406 y409 x11_1 l2 (l2.length : Int) (wrap64 (x25_1 + 1)))) = some (r1, r2) := by rw [← hbq17] at H; exact H
         have Nbq17 := Aside0.mk hbq17
         clear hbq17
         by_cases c18 : bq17 = true
         ·subst c18
          have H1 : (impl_kept.l0 k1 l0 l1 l2 y413 y406 y409 (wrap64 (x11_1 + 1)) l2 (l2.length : Int) (wrap64 (x25_1 + 1))) = some (r1, r2) := by rw [if_pos rfl] at H; exact H
          clear H
          have H := H1
          clear H1
          have H' := Aside0.mk H
          clear H
          have p412 : 0 ≤ (x25_1 : Int) := of_decide_eq_true (by first | (with_reducible assumption) | assumption)
          have q412 : x25_1 < (l2.length : Int) := of_decide_eq_true (by first | (with_reducible assumption) | assumption)
          obtain ⟨ad412, e412, hx412_0⟩ := Kd.at_bool HR2.out x25_1 p412 q412
          (try rw [← Nbq17.out] at hx412_0)
          cases e412
          replace hx412_0 := (HB.out.cell (World.block_lt_of_cell? w _ hx412_0)).trans hx412_0
          replace p412 := eq_true p412
          replace q412 := eq_true q412
          have p16 : 0 ≤ (x25_1 : Int) := of_decide_eq_true (by first | (with_reducible assumption) | assumption)
          have q16 : (x25_1 : Int) < ((x8_1.length : Int) : Int) := of_decide_eq_true (by first | (with_reducible assumption) | assumption)
          obtain ⟨go16, co16, eo16, gb16, gl16, cl16, HG16⟩ := Kd.R_form HO_8.out (by omega)
          (first | cases eo16 | (injection eo16 with ea_ en_ ec_; (first | subst ea_ | (injection ea_ with ea_; subst ea_)); subst ec_; clear en_))
          have GB16 := Aside0.mk gb16
          have GG16 := Aside0.mk HG16
          clear gb16 gl16 HG16
          obtain ⟨hx16_0, hf16_0⟩ := Kd.R_celln 0 HO_8.out (x25_1 : Int) p16 q16
          replace p16 := eq_true p16
          replace q16 := eq_true q16
          have HP19 := Kd.R_putg HO_8.out (x25_1 : Int) x11_1
          go_wp2_with (first | ((with_reducible refine gate_store (t := 3) (p := 33) rfl ?_); refine store_event (t := 3) (p := 33) (v := ?vo_w20) (w1 := (wr.setCell ⟨go16, (x25_1 : Int).toNat, none⟩ (.int .i64 x11_1))) ?hg ?ho ?hn ?hr ?_; (case ho => rfl); (case hg => rfl); (case hn => rfl); (case hr => first | (go_simp; done) | (go_simp; rfl)); intro w20 hw; have hg : wr.grownBy w20 (some go16) := (by rw [hw]; exact HP19.2); have hp_ : Kd.R (Kd.int .i64) 3 w20 w.heap.size (fun k_ => some k_ ≠ (v410 : Value).ownBlock) (.slice (some ⟨go16, 0, none⟩) x8_1.length co16) y413 := (by rw [hw, Ny413.out]; exact HP19.1); clear HP19; have n0_ := Aside0.mk (hp_); have n1_ := Aside0.mk (Kd.R_over' (v := (.slice (some ⟨go16, 0, none⟩) x8_1.length co16)) (pr_ HO_9.out) (Kd.R_typed HO_8.out) (by decide) hg); have n2_ := Aside0.mk (Kd.R_after (v := (.slice (some ⟨go16, 0, none⟩) x8_1.length co16)) (v1 := (.slice (some ⟨go16, 0, none⟩) x8_1.length co16)) (ok := (fun _ => True)) (by (with_reducible repeat (first | apply Kd.R_alloc | apply Kd.R_drewN | apply Kd.R_drew)); exact Kd.R_mono HO_10.out (fun _ hk => ⟨trivial, hk⟩)) hg (.inl rfl)); have n3_ := Aside0.mk ((by rw [hw]; exact below_set (HB.out) GB16.out : Below w.heap.size w w20)); clear HO_8; clear HO_9; clear HO_10; clear HB; have HO_8 := n0_; have HO_9 := n1_; have HO_10 := n2_; have HB := n3_; clear n0_ n1_ n2_ n3_; clear hg hw hp_))
          go_roundg k1
          case measure => have := HK1.out; omega
          case rel => exact ⟨(y413), (wrap64 (x11_1 + 1)), (wrap64 (x25_1 + 1)), (by first | rfl | (simp; done) | (simp [*]; done)), (by first | rfl | (simp; done) | (simp [*]; done)), H', ⟨by have := HK1.out; omega⟩, ⟨by (with_reducible repeat (first | apply Kd.R_alloc | apply Kd.R_drewN | apply Kd.R_drew)); exact HO_8.out⟩, ⟨by (with_reducible repeat (first | apply Kd.R_alloc | apply Kd.R_drewN | apply Kd.R_drew)); exact HO_9.out⟩, ⟨by (with_reducible repeat (first | apply Kd.R_alloc | apply Kd.R_drewN | apply Kd.R_drew)); exact Kd.R_mono HO_10.out (fun _ hk => hk.2)⟩, ⟨pb_⟩⟩
         ·replace c18 := Bool.eq_false_iff.mpr c18
          subst c18
          have H1 : (impl_kept.l0 k1 l0 l1 l2 y413 y406 y409 x11_1 l2 (l2.length : Int) (wrap64 (x25_1 + 1))) = some (r1, r2) := by rw [if_neg (show ¬ (false = true) by decide)] at H; exact H
          clear H
          have H := H1
          clear H1
          have H' := Aside0.mk H
          clear H
          have p412 : 0 ≤ (x25_1 : Int) := of_decide_eq_true (by first | (with_reducible assumption) | assumption)
          have q412 : x25_1 < (l2.length : Int) := of_decide_eq_true (by first | (with_reducible assumption) | assumption)
          obtain ⟨ad412, e412, hx412_0⟩ := Kd.at_bool HR2.out x25_1 p412 q412
          (try rw [← Nbq17.out] at hx412_0)
          cases e412
          replace hx412_0 := (HB.out.cell (World.block_lt_of_cell? w _ hx412_0)).trans hx412_0
          replace p412 := eq_true p412
          replace q412 := eq_true q412
          have p16 : 0 ≤ (x25_1 : Int) := of_decide_eq_true (by first | (with_reducible assumption) | assumption)
          have q16 : (x25_1 : Int) < ((x8_1.length : Int) : Int) := of_decide_eq_true (by first | (with_reducible assumption) | assumption)
          obtain ⟨go16, co16, eo16, gb16, gl16, cl16, HG16⟩ := Kd.R_form HO_8.out (by omega)
          (first | cases eo16 | (injection eo16 with ea_ en_ ec_; (first | subst ea_ | (injection ea_ with ea_; subst ea_)); subst ec_; clear en_))
          have GB16 := Aside0.mk gb16
          have GG16 := Aside0.mk HG16
          clear gb16 gl16 HG16
          obtain ⟨hx16_0, hf16_0⟩ := Kd.R_celln 0 HO_8.out (x25_1 : Int) p16 q16
          replace p16 := eq_true p16
          replace q16 := eq_true q16
          have HP21 := Kd.R_putg HO_8.out (x25_1 : Int) x11_1
          go_wp2_with (first | ((with_reducible refine gate_store (t := 3) (p := 33) rfl ?_); refine store_event (t := 3) (p := 33) (v := ?vo_w22) (w1 := (wr.setCell ⟨go16, (x25_1 : Int).toNat, none⟩ (.int .i64 x11_1))) ?hg ?ho ?hn ?hr ?_; (case ho => rfl); (case hg => rfl); (case hn => rfl); (case hr => first | (go_simp; done) | (go_simp; rfl)); intro w22 hw; have hg : wr.grownBy w22 (some go16) := (by rw [hw]; exact HP21.2); have hp_ : Kd.R (Kd.int .i64) 3 w22 w.heap.size (fun k_ => some k_ ≠ (v410 : Value).ownBlock) (.slice (some ⟨go16, 0, none⟩) x8_1.length co16) y413 := (by rw [hw, Ny413.out]; exact HP21.1); clear HP21; have n0_ := Aside0.mk (hp_); have n1_ := Aside0.mk (Kd.R_over' (v := (.slice (some ⟨go16, 0, none⟩) x8_1.length co16)) (pr_ HO_9.out) (Kd.R_typed HO_8.out) (by decide) hg); have n2_ := Aside0.mk (Kd.R_after (v := (.slice (some ⟨go16, 0, none⟩) x8_1.length co16)) (v1 := (.slice (some ⟨go16, 0, none⟩) x8_1.length co16)) (ok := (fun _ => True)) (by (with_reducible repeat (first | apply Kd.R_alloc | apply Kd.R_drewN | apply Kd.R_drew)); exact Kd.R_mono HO_10.out (fun _ hk => ⟨trivial, hk⟩)) hg (.inl rfl)); have n3_ := Aside0.mk ((by rw [hw]; exact below_set (HB.out) GB16.out : Below w.heap.size w w22)); clear HO_8; clear HO_9; clear HO_10; clear HB; have HO_8 := n0_; have HO_9 := n1_; have HO_10 := n2_; have HB := n3_; clear n0_ n1_ n2_ n3_; clear hg hw hp_))
          go_roundg k1
          case measure => have := HK1.out; omega
          case rel => exact ⟨(y413), (x11_1), (wrap64 (x25_1 + 1)), (by first | rfl | (simp; done) | (simp [*]; done)), (by first | rfl | (simp; done) | (simp [*]; done)), H', ⟨by have := HK1.out; omega⟩, ⟨by (with_reducible repeat (first | apply Kd.R_alloc | apply Kd.R_drewN | apply Kd.R_drew)); exact HO_8.out⟩, ⟨by (with_reducible repeat (first | apply Kd.R_alloc | apply Kd.R_drewN | apply Kd.R_drew)); exact HO_9.out⟩, ⟨by (with_reducible repeat (first | apply Kd.R_alloc | apply Kd.R_drewN | apply Kd.R_drew)); exact Kd.R_mono HO_10.out (fun _ hk => hk.2)⟩, ⟨pb_⟩⟩
        ·rw [if_neg c15] at H
         exact absurd H (by simp)
       ·rw [if_neg c14] at H
        exact absurd H (by simp)
      ·rw [if_neg c13] at H
       exact absurd H (by simp)
     ·rw [if_neg c12] at H
      have c12b0 : decide (x25_1 < (l2.length : Int)) = false := decide_eq_false c12
      clear c12
      have H' := Aside0.mk H
      clear H
      go_wp2
      go_loopg [9, 40] k1 (fun kq v9 v40 w' => ∃ (x9_2 : List (S46)) (x40_2 : Int), v40 = .int .i64 x40_2 ∧ Aside0 (impl_kept.l1 kq l1 l2 x8_1 x9_2 y409 l0 (l0.length : Int) x40_2 = some (r1, r2)) ∧ Aside0 (kq ≤ k1) ∧ Aside0 (Kd.R (Kd.int .i64) 3 w' w.heap.size (fun k_ => some k_ ≠ (v410 : Value).ownBlock) v404 x8_1) ∧ Aside0 (Kd.R k46 46 w' w.heap.size (fun _ => True) v9 x9_2) ∧ Aside0 (Kd.R (Kd.int .i64) 3 w' w.heap.size (fun k_ => some k_ ≠ (v404 : Value).ownBlock) v410 y409) ∧ Aside0 (Below w.heap.size w w'))
      case atStart => exact ⟨(y406), (0), (by first | rfl | (simp; done) | (simp [*]; done)), H', ⟨Nat.le_refl _⟩, ⟨by (with_reducible repeat (first | apply Kd.R_alloc | apply Kd.R_drewN | apply Kd.R_drew)); exact HO_8.out⟩, ⟨by (with_reducible repeat (first | apply Kd.R_alloc | apply Kd.R_drewN | apply Kd.R_drew)); exact HO_9.out⟩, ⟨by (with_reducible repeat (first | apply Kd.R_alloc | apply Kd.R_drewN | apply Kd.R_drew)); exact HO_10.out⟩, ⟨pb_⟩⟩
      case round =>
       clear H'
       try clear c1
       try clear p1
       try clear q1
       try clear hx1
       try clear c2
       try clear p2
       try clear c4
       try clear c4b0
       try clear c4b1
       try clear p4
       try clear q4
       try clear hx4
       try clear c5
       try clear c5b0
       try clear c5b1
       try clear c6
       try clear p6
       try clear c12
       try clear c12b0
       try clear c13
       try clear c13b0
       try clear c14
       try clear c14b0
       try clear c15
       try clear c15b0
       try clear p16
       try clear q16
       try clear hx16
       try clear hf16
       try clear q17
       try clear c18
       try clear hx16_0
       try clear hx412_0
       try clear p16
       try clear p2
       try clear p412
       try clear q16
       try clear q412
       obtain ⟨x9_2, x40_2, rfl, HA, HK2, HO_8, HO_9, HO_10, HB⟩ := hrel
       cases gk with
       | zero => exact absurd HA.out (by simp [impl_kept.l1])
       | succ k2 =>
        have H := HA.out
        clear HA
        simp only [impl_kept.l1] at H
        by_cases c23 : x40_2 < (l0.length : Int)
        ·rw [if_pos c23] at H
         have c23b0 : decide (x40_2 < (l0.length : Int)) = true := decide_eq_true c23
         clear c23
         by_cases c24 : 0 ≤ x40_2
         ·rw [if_pos c24] at H
          have c24b0 : decide (0 ≤ x40_2) = true := decide_eq_true c24
          clear c24
          by_cases c25 : x40_2 < (l0.length : Int)
          ·rw [if_pos c25] at H
           have c25b0 : decide (x40_2 < (l0.length : Int)) = true := decide_eq_true c25
           clear c25
           by_cases c26 : x40_2 < (l2.length : Int)
           ·rw [if_pos c26] at H
            have c26b0 : decide (x40_2 < (l2.length : Int)) = true := decide_eq_true c26
            clear c26
            obtain ⟨bq27, hbq27⟩ : ∃ b_ : Bool, b_ = (rdOf false l2 x40_2) := ⟨_, rfl⟩
            replace H : (if bq27 = true then (if (rd_T46 l0 x40_2).f0 = true then (if x9_2.length < 4398046511104 then (impl_kept.l1 k2 l1 l2 x8_1 (x9_2 ++ [(⟨(rd_T46 l0 x40_2).f0, (rd_T46 l0 x40_2).f1, (rd_T46 l0 x40_2).f2, (rd_T46 l0 x40_2).f3⟩ : S46)]) y409 l0 (l0.length : Int) (wrap64 (x40_2 + 1))) else (none)) else (if 0 ≤ ((rd_T46 l0 x40_2).f2) then (if ((rd_T46 l0 x40_2).f2) < (x8_1.length : Int) then (if 0 ≤ ((rd_T46 l0 x40_2).f3) then (if ((rd_T46 l0 x40_2).f3) < (x8_1.length : Int) then (if x9_2.length < 4398046511104 then (impl_kept.l1 k2 l1 l2 x8_1 (x9_2 ++ [(⟨(rd_T46 l0 x40_2).f0, (rd_T46 l0 x40_2).f1, rd x8_1 ((rd_T46 l0 x40_2).f2), rd x8_1 ((rd_T46 l0 x40_2).f3)⟩ : S46)]) y409 l0 (l0.length : Int) (wrap64 (x40_2 + 1))) else (none)) else (none)) else (none)) else (none)) else (none))) else (impl_kept.l1 k2 l1 l2 x8_1 x9_2 y409 l0 (l0.length : Int) (wrap64 (x40_2 + 1)))) = some (r1, r2) := by rw [← hbq27] at H; exact H
            have Nbq27 := Aside0.mk hbq27
            clear hbq27
            by_cases c28 : bq27 = true
            ·subst c28
             have H1 : (if (rd_T46 l0 x40_2).f0 = true then (if x9_2.length < 4398046511104 then (impl_kept.l1 k2 l1 l2 x8_1 (x9_2 ++ [(⟨(rd_T46 l0 x40_2).f0, (rd_T46 l0 x40_2).f1, (rd_T46 l0 x40_2).f2, (rd_T46 l0 x40_2).f3⟩ : S46)]) y409 l0 (l0.length : Int) (wrap64 (x40_2 + 1))) else (none)) else (if 0 ≤ ((rd_T46 l0 x40_2).f2) then (if ((rd_T46 l0 x40_2).f2) < (x8_1.length : Int) then (if 0 ≤ ((rd_T46 l0 x40_2).f3) then (if ((rd_T46 l0 x40_2).f3) < (x8_1.length : Int) then (if x9_2.length < 4398046511104 then (impl_kept.l1 k2 l1 l2 x8_1 (x9_2 ++ [(⟨(rd_T46 l0 x40_2).f0, (rd_T46 l0 x40_2).f1, rd x8_1 ((rd_T46 l0 x40_2).f2), rd x8_1 ((rd_T46 l0 x40_2).f3)⟩ : S46)]) y409 l0 (l0.length : Int) (wrap64 (x40_2 + 1))) else (none)) else (none)) else (none)) else (none)) else (none))) = some (r1, r2) := by rw [if_pos rfl] at H; exact H
             clear H
             have H := H1
             clear H1
             obtain ⟨bq29, hbq29⟩ : ∃ b_ : Bool, b_ = ((rd_T46 l0 x40_2).f0) := ⟨_, rfl⟩
             replace H : (if bq29 = true then (if x9_2.length < 4398046511104 then (impl_kept.l1 k2 l1 l2 x8_1 (x9_2 ++ [(⟨bq29, (rd_T46 l0 x40_2).f1, (rd_T46 l0 x40_2).f2, (rd_T46 l0 x40_2).f3⟩ : S46)]) y409 l0 (l0.length : Int) (wrap64 (x40_2 + 1))) else (none)) else (if 0 ≤ ((rd_T46 l0 x40_2).f2) then (if ((rd_T46 l0 x40_2).f2) < (x8_1.length : Int) then (if 0 ≤ ((rd_T46 l0 x40_2).f3) then (if ((rd_T46 l0 x40_2).f3) < (x8_1.length : Int) then (if x9_2.length < 4398046511104 then (impl_kept.l1 k2 l1 l2 x8_1 (x9_2 ++ [(⟨bq29, (rd_T46 l0 x40_2).f1, rd x8_1 ((rd_T46 l0 x40_2).f2), rd x8_1 ((rd_T46 l0 x40_2).f3)⟩ : S46)]) y409 l0 (l0.length : Int) (wrap64 (x40_2 + 1))) else (none)) else (none)) else (none)) else (none)) else (none))) = some (r1, r2) := by rw [← hbq29] at H; exact H
             have Nbq29 := Aside0.mk hbq29
             clear hbq29
             by_cases c30 : bq29 = true
             ·subst c30
              have H1 : (if x9_2.length < 4398046511104 then (impl_kept.l1 k2 l1 l2 x8_1 (x9_2 ++ [(⟨true, (rd_T46 l0 x40_2).f1, (rd_T46 l0 x40_2).f2, (rd_T46 l0 x40_2).f3⟩ : S46)]) y409 l0 (l0.length : Int) (wrap64 (x40_2 + 1))) else (none)) = some (r1, r2) := by rw [if_pos rfl] at H; exact H
              clear H
              have H := H1
              clear H1
              by_cases c31 : x9_2.length < 4398046511104
              ·rw [if_pos c31] at H
               have LMc31 := Aside0.mk c31
               clear c31
               obtain ⟨y417, hy417⟩ : ∃ y_ : List (S46), y_ = (x9_2 ++ [(⟨true, (rd_T46 l0 x40_2).f1, (rd_T46 l0 x40_2).f2, (rd_T46 l0 x40_2).f3⟩ : S46)]) := ⟨_, rfl⟩
               replace H : (impl_kept.l1 k2 l1 l2 x8_1 y417 y409 l0 (l0.length : Int) (wrap64 (x40_2 + 1))) = some (r1, r2) := by first | (rw [hy417]; with_reducible exact H) | (have H2_ := (Option.bind_some _ _).symm.trans H; rw [hy417]; with_reducible exact H2_) | (have H2_ := (Option.bind_some _ _).symm.trans H; with_reducible exact H2_) | with_reducible exact H | (rw [hy417]; exact H) | exact H
               have Ny417 := Aside0.mk hy417
               clear hy417
               have H' := Aside0.mk H
               clear H
               have p414 : 0 ≤ (x40_2 : Int) := of_decide_eq_true (by first | (with_reducible assumption) | assumption)
               have q414 : x40_2 < (l0.length : Int) := of_decide_eq_true (by first | (with_reducible assumption) | assumption)
               obtain ⟨ad414, e414, hx414_0, hx414_1, hx414_2, hx414_3⟩ := at_T46 HR0.out x40_2 p414 q414
               (try rw [← Nbq27.out] at hx414_0)
               (try rw [← Nbq29.out] at hx414_0)
               cases e414
               replace hx414_0 := (HB.out.cell (World.block_lt_of_cell? w _ hx414_0)).trans hx414_0
               replace hx414_1 := (HB.out.cell (World.block_lt_of_cell? w _ hx414_1)).trans hx414_1
               replace hx414_2 := (HB.out.cell (World.block_lt_of_cell? w _ hx414_2)).trans hx414_2
               replace hx414_3 := (HB.out.cell (World.block_lt_of_cell? w _ hx414_3)).trans hx414_3
               replace p414 := eq_true p414
               replace q414 := eq_true q414
               go_wp2_with (first | ((with_reducible refine gate_dst (N := 15) rfl ?_); refine box_event ?hg (N := 15) ?hd (cs := #[.bool false, .int .i64 0, .int .i64 0, .int .i64 0]) (t := 46) ?hr ?_; (case hd => rfl); (case hg => rfl); (case hr => first | (go_simp; done) | (go_simp; rfl)); intro gb415 hg w32 hbox hb; have n0_ := Aside0.mk (Kd.R_below (pr_ HO_8.out) hb); have n1_ := Aside0.mk (Kd.R_below (Kd.R_elderB (pr_ HO_9.out) gb415 (Nat.le_of_eq hg.symm)) hb); have n2_ := Aside0.mk (Kd.R_below (pr_ HO_10.out) hb); have n3_ := Aside0.mk (below_step pb_ hb); have n4_ := Aside0.mk (hbox); have n5_ := Aside0.mk ((by rw [hg]; exact (below_size pb_) : w.heap.size ≤ gb415)); have n6_ := Aside0.mk ((by rw [hg]; exact (below_size pb_) : w.heap.size ≤ gb415)); clear HO_8; clear HO_9; clear HO_10; clear HB; have HO_8 := n0_; have HO_9 := n1_; have HO_10 := n2_; have HB := n3_; have BK415 := n4_; have GW415 := n5_; have GE415 := n6_; clear n0_ n1_ n2_ n3_ n4_ n5_ n6_; clear hb hbox hg; have hcz33_0 := bc0 BK415.out; have hcz33_1 := bc1 BK415.out; have hcz33_2 := bc2 BK415.out; have hcz33_3 := bc3 BK415.out; have hfz33_0 := blk_frozen BK415.out 0; have hfz33_1 := blk_frozen BK415.out 1; have hfz33_2 := blk_frozen BK415.out 2; have hfz33_3 := blk_frozen BK415.out 3; have p416 : 0 ≤ (x40_2 : Int) := of_decide_eq_true (by first | (with_reducible assumption) | assumption); have q416 : x40_2 < (l2.length : Int) := of_decide_eq_true (by first | (with_reducible assumption) | assumption); obtain ⟨ad416, e416, hx416_0⟩ := Kd.at_bool HR2.out x40_2 p416 q416; (try rw [← Nbq27.out] at hx416_0); (try rw [← Nbq29.out] at hx416_0); cases e416; have hn416_0 : ad416.block ≠ gb415 := Nat.ne_of_lt (Nat.lt_of_lt_of_le (by have := World.block_lt_of_cell? _ _ hx416_0; first | rwa [add_block] at this | exact this) GW415.out); have hn416_1 : ad416.block ≠ gb415 := Nat.ne_of_lt (Nat.lt_of_lt_of_le (by have := World.block_lt_of_cell? _ _ hx416_0; first | rwa [add_block] at this | exact this) GW415.out); have hn416_2 : ad416.block ≠ gb415 := Nat.ne_of_lt (Nat.lt_of_lt_of_le (by have := World.block_lt_of_cell? _ _ hx416_0; first | rwa [add_block] at this | exact this) GW415.out); have hn416_3 : ad416.block ≠ gb415 := Nat.ne_of_lt (Nat.lt_of_lt_of_le (by have := World.block_lt_of_cell? _ _ hx416_0; first | rwa [add_block] at this | exact this) GW415.out); replace hx416_0 := (HB.out.cell (World.block_lt_of_cell? w _ hx416_0)).trans hx416_0; replace hx416_0 := (cell_far (p := ⟨gb415, 0, none⟩) (by first | (rw [add_block]; exact hn416_0) | (show (Addr.add _ _).block ≠ _; rw [add_block]; exact hn416_0) | exact hn416_0) (.bool true)).trans hx416_0; replace hx416_0 := (cell_far (p := ⟨gb415, 1, none⟩) (by first | (rw [add_block]; exact hn416_1) | (show (Addr.add _ _).block ≠ _; rw [add_block]; exact hn416_1) | exact hn416_1) (.int .i64 ((rd_T46 l0 x40_2).f1))).trans hx416_0; replace hx416_0 := (cell_far (p := ⟨gb415, 2, none⟩) (by first | (rw [add_block]; exact hn416_2) | (show (Addr.add _ _).block ≠ _; rw [add_block]; exact hn416_2) | exact hn416_2) (.int .i64 ((rd_T46 l0 x40_2).f2))).trans hx416_0; replace hx416_0 := (cell_far (p := ⟨gb415, 3, none⟩) (by first | (rw [add_block]; exact hn416_3) | (show (Addr.add _ _).block ≠ _; rw [add_block]; exact hn416_3) | exact hn416_3) (.int .i64 ((rd_T46 l0 x40_2).f3))).trans hx416_0; clear hn416_0; clear hn416_1; clear hn416_2; clear hn416_3; replace p416 := eq_true p416; replace q416 := eq_true q416) | ((with_reducible refine gate_builtin (b := .append) (xs := #[.tmp 65, .tmp 67]) rfl ?_); at_builtin; refine Kd.R_append k46 (w0 := w) w.heap.size rfl (.tmp 65) (.tmp 67) 28 46 (.agg #[(.bool false), (.int .i64 0), (.int .i64 0), (.int .i64 0)]) 32 rfl Try.underlying28 info46 rfl (by decide) (by omega) u9 x9_2 (⟨true, (rd_T46 l0 x40_2).f1, (rd_T46 l0 x40_2).f2, (rd_T46 l0 x40_2).f3⟩ : S46) [.bool true, .int .i64 ((rd_T46 l0 x40_2).f1), .int .i64 ((rd_T46 l0 x40_2).f2), .int .i64 ((rd_T46 l0 x40_2).f3)] (fun k_ => k_ ≠ gb415) (fun _ => False) rfl (by first | (go_simp; done) | (go_simp; rfl)) ?aP (fun _ hk => hk.elim) ?aF ?aO ?aB ?aS ?aL ?_; (case aP => exact k46_mkM _ _ _ (⟨true, (rd_T46 l0 x40_2).f1, (rd_T46 l0 x40_2).f2, (rd_T46 l0 x40_2).f3⟩ : S46)); (case aB => exact pb_); (case aF => exact (fun k_ hk => Kd.freshB (g := gb415) (o := .cells #[.bool true, .int .i64 ((rd_T46 l0 x40_2).f1), .int .i64 ((rd_T46 l0 x40_2).f2), .int .i64 ((rd_T46 l0 x40_2).f3)] 46 (0, 0)) (by (with_reducible repeat (first | refine blk_drewN ?_ _ | refine blk_drew ?_ | refine blk_alloc ?_ _)); refine blk_put (cs := #[.bool true, .int .i64 ((rd_T46 l0 x40_2).f1), .int .i64 ((rd_T46 l0 x40_2).f2), .int .i64 0]) ?_ 3 _ rfl; (with_reducible repeat (first | refine blk_drewN ?_ _ | refine blk_drew ?_ | refine blk_alloc ?_ _)); refine blk_put (cs := #[.bool true, .int .i64 ((rd_T46 l0 x40_2).f1), .int .i64 0, .int .i64 0]) ?_ 2 _ rfl; (with_reducible repeat (first | refine blk_drewN ?_ _ | refine blk_drew ?_ | refine blk_alloc ?_ _)); refine blk_put (cs := #[.bool true, .int .i64 0, .int .i64 0, .int .i64 0]) ?_ 1 _ rfl; (with_reducible repeat (first | refine blk_drewN ?_ _ | refine blk_drew ?_ | refine blk_alloc ?_ _)); refine blk_put (cs := #[.bool false, .int .i64 0, .int .i64 0, .int .i64 0]) ?_ 0 _ rfl; (with_reducible repeat (first | refine blk_drewN ?_ _ | refine blk_drew ?_ | refine blk_alloc ?_ _)); exact BK415.out) k_ hk)); (case aO => exact (by (with_reducible repeat (first | apply Kd.R_alloc | apply Kd.R_drewN | apply Kd.R_drew)); exact Kd.R_mono (Kd.R_far (p := ⟨gb415, 3, none⟩) (Kd.R_far (p := ⟨gb415, 2, none⟩) (Kd.R_far (p := ⟨gb415, 1, none⟩) (Kd.R_far (p := ⟨gb415, 0, none⟩) (Kd.R_mono HO_9.out (fun k_ hk => (⟨hk, hk.2⟩ : _ ∧ k_ ≠ gb415))) (fun _ hk => hk.2) (.bool true)) (fun _ hk => hk.2) (.int .i64 ((rd_T46 l0 x40_2).f1))) (fun _ hk => hk.2) (.int .i64 ((rd_T46 l0 x40_2).f2))) (fun _ hk => hk.2) (.int .i64 ((rd_T46 l0 x40_2).f3))) (fun _ hk => hk.1.2))); (case aS => exact (below_size pb_)); (case aL => have := LMc31.out; omega); intro v418 w34 ho hb hg hat; rw [← Ny417.out] at ho; have n0_ := Aside0.mk (Kd.R_over' (by (with_reducible repeat (first | apply Kd.R_alloc | apply Kd.R_drewN | apply Kd.R_drew)); exact (Kd.R_mono (Kd.R_far (p := ⟨gb415, 3, none⟩) (Kd.R_far (p := ⟨gb415, 2, none⟩) (Kd.R_far (p := ⟨gb415, 1, none⟩) (Kd.R_far (p := ⟨gb415, 0, none⟩) (Kd.R_types HO_8.out BK415.out (by decide)) (fun _ hk => hk.2) (.bool true)) (fun _ hk => hk.2) (.int .i64 ((rd_T46 l0 x40_2).f1))) (fun _ hk => hk.2) (.int .i64 ((rd_T46 l0 x40_2).f2))) (fun _ hk => hk.2) (.int .i64 ((rd_T46 l0 x40_2).f3))) (fun _ h_ => h_.1))) (Kd.R_typed (by (with_reducible repeat (first | apply Kd.R_alloc | apply Kd.R_drewN | apply Kd.R_drew)); exact (Kd.R_mono (Kd.R_far (p := ⟨gb415, 3, none⟩) (Kd.R_far (p := ⟨gb415, 2, none⟩) (Kd.R_far (p := ⟨gb415, 1, none⟩) (Kd.R_far (p := ⟨gb415, 0, none⟩) (Kd.R_mono HO_9.out (fun k_ hk => (⟨hk, hk.2⟩ : _ ∧ k_ ≠ gb415))) (fun _ hk => hk.2) (.bool true)) (fun _ hk => hk.2) (.int .i64 ((rd_T46 l0 x40_2).f1))) (fun _ hk => hk.2) (.int .i64 ((rd_T46 l0 x40_2).f2))) (fun _ hk => hk.2) (.int .i64 ((rd_T46 l0 x40_2).f3))) (fun _ h_ => h_.1)))) (by decide) hg); have n1_ := Aside0.mk (Kd.R_over' (by (with_reducible repeat (first | apply Kd.R_alloc | apply Kd.R_drewN | apply Kd.R_drew)); exact (Kd.R_mono (Kd.R_far (p := ⟨gb415, 3, none⟩) (Kd.R_far (p := ⟨gb415, 2, none⟩) (Kd.R_far (p := ⟨gb415, 1, none⟩) (Kd.R_far (p := ⟨gb415, 0, none⟩) (Kd.R_types HO_10.out BK415.out (by decide)) (fun _ hk => hk.2) (.bool true)) (fun _ hk => hk.2) (.int .i64 ((rd_T46 l0 x40_2).f1))) (fun _ hk => hk.2) (.int .i64 ((rd_T46 l0 x40_2).f2))) (fun _ hk => hk.2) (.int .i64 ((rd_T46 l0 x40_2).f3))) (fun _ h_ => h_.1))) (Kd.R_typed (by (with_reducible repeat (first | apply Kd.R_alloc | apply Kd.R_drewN | apply Kd.R_drew)); exact (Kd.R_mono (Kd.R_far (p := ⟨gb415, 3, none⟩) (Kd.R_far (p := ⟨gb415, 2, none⟩) (Kd.R_far (p := ⟨gb415, 1, none⟩) (Kd.R_far (p := ⟨gb415, 0, none⟩) (Kd.R_mono HO_9.out (fun k_ hk => (⟨hk, hk.2⟩ : _ ∧ k_ ≠ gb415))) (fun _ hk => hk.2) (.bool true)) (fun _ hk => hk.2) (.int .i64 ((rd_T46 l0 x40_2).f1))) (fun _ hk => hk.2) (.int .i64 ((rd_T46 l0 x40_2).f2))) (fun _ hk => hk.2) (.int .i64 ((rd_T46 l0 x40_2).f3))) (fun _ h_ => h_.1)))) (by decide) hg); have n2_ := Aside0.mk (blk_grown (g := gb415) (o := .cells #[.bool true, .int .i64 ((rd_T46 l0 x40_2).f1), .int .i64 ((rd_T46 l0 x40_2).f2), .int .i64 ((rd_T46 l0 x40_2).f3)] 46 (0, 0)) (by (with_reducible repeat (first | refine blk_drewN ?_ _ | refine blk_drew ?_ | refine blk_alloc ?_ _)); refine blk_put (cs := #[.bool true, .int .i64 ((rd_T46 l0 x40_2).f1), .int .i64 ((rd_T46 l0 x40_2).f2), .int .i64 0]) ?_ 3 _ rfl; (with_reducible repeat (first | refine blk_drewN ?_ _ | refine blk_drew ?_ | refine blk_alloc ?_ _)); refine blk_put (cs := #[.bool true, .int .i64 ((rd_T46 l0 x40_2).f1), .int .i64 0, .int .i64 0]) ?_ 2 _ rfl; (with_reducible repeat (first | refine blk_drewN ?_ _ | refine blk_drew ?_ | refine blk_alloc ?_ _)); refine blk_put (cs := #[.bool true, .int .i64 0, .int .i64 0, .int .i64 0]) ?_ 1 _ rfl; (with_reducible repeat (first | refine blk_drewN ?_ _ | refine blk_drew ?_ | refine blk_alloc ?_ _)); refine blk_put (cs := #[.bool false, .int .i64 0, .int .i64 0, .int .i64 0]) ?_ 0 _ rfl; (with_reducible repeat (first | refine blk_drewN ?_ _ | refine blk_drew ?_ | refine blk_alloc ?_ _)); exact BK415.out) hg (Kd.R_away HO_9.out (fun _ hk => hk.2))); have n3_ := Aside0.mk (hb); have n4_ := Aside0.mk (ho); clear HO_8; clear HO_10; clear BK415; clear HB; clear HO_9; have HO_8 := n0_; have HO_10 := n1_; have BK415 := n2_; have HB := n3_; have HO419 := n4_; clear n0_ n1_ n2_ n3_ n4_; clear ho hb hg hat))
               go_roundg k2
               case measure => have := HK1.out; have := HK2.out; omega
               case rel => exact ⟨(y417), (wrap64 (x40_2 + 1)), (by first | rfl | (simp; done) | (simp [*]; done)), H', ⟨by have := HK1.out; have := HK2.out; omega⟩, ⟨by (with_reducible repeat (first | apply Kd.R_alloc | apply Kd.R_drewN | apply Kd.R_drew)); exact HO_8.out⟩, ⟨by (with_reducible repeat (first | apply Kd.R_alloc | apply Kd.R_drewN | apply Kd.R_drew)); exact Kd.R_mono HO419.out (fun _ hk => trivial)⟩, ⟨by (with_reducible repeat (first | apply Kd.R_alloc | apply Kd.R_drewN | apply Kd.R_drew)); exact HO_10.out⟩, ⟨pb_⟩⟩
              ·rw [if_neg c31] at H
               exact absurd H (by simp)
             ·replace c30 := Bool.eq_false_iff.mpr c30
              subst c30
              have H1 : (if 0 ≤ ((rd_T46 l0 x40_2).f2) then (if ((rd_T46 l0 x40_2).f2) < (x8_1.length : Int) then (if 0 ≤ ((rd_T46 l0 x40_2).f3) then (if ((rd_T46 l0 x40_2).f3) < (x8_1.length : Int) then (if x9_2.length < 4398046511104 then (impl_kept.l1 k2 l1 l2 x8_1 (x9_2 ++ [(⟨false, (rd_T46 l0 x40_2).f1, rd x8_1 ((rd_T46 l0 x40_2).f2), rd x8_1 ((rd_T46 l0 x40_2).f3)⟩ : S46)]) y409 l0 (l0.length : Int) (wrap64 (x40_2 + 1))) else (none)) else (none)) else (none)) else (none)) else (none)) = some (r1, r2) := by rw [if_neg (show ¬ (false = true) by decide)] at H; exact H
              clear H
              have H := H1
              clear H1
              by_cases c35 : 0 ≤ ((rd_T46 l0 x40_2).f2)
              ·rw [if_pos c35] at H
               have c35b0 : decide (0 ≤ ((rd_T46 l0 x40_2).f2)) = true := decide_eq_true c35
               clear c35
               by_cases c36 : ((rd_T46 l0 x40_2).f2) < (x8_1.length : Int)
               ·rw [if_pos c36] at H
                have c36b0 : decide (((rd_T46 l0 x40_2).f2) < (x8_1.length : Int)) = true := decide_eq_true c36
                clear c36
                by_cases c37 : 0 ≤ ((rd_T46 l0 x40_2).f3)
                ·rw [if_pos c37] at H
                 have c37b0 : decide (0 ≤ ((rd_T46 l0 x40_2).f3)) = true := decide_eq_true c37
                 clear c37
                 by_cases c38 : ((rd_T46 l0 x40_2).f3) < (x8_1.length : Int)
                 ·rw [if_pos c38] at H
                  have c38b0 : decide (((rd_T46 l0 x40_2).f3) < (x8_1.length : Int)) = true := decide_eq_true c38
                  clear c38
                  by_cases c39 : x9_2.length < 4398046511104
                  ·rw [if_pos c39] at H
                   have LMc39 := Aside0.mk c39
                   clear c39
                   obtain ⟨y422, hy422⟩ : ∃ y_ : List (S46), y_ = (x9_2 ++ [(⟨false, (rd_T46 l0 x40_2).f1, rd x8_1 ((rd_T46 l0 x40_2).f2), rd x8_1 ((rd_T46 l0 x40_2).f3)⟩ : S46)]) := ⟨_, rfl⟩
                   replace H : (impl_kept.l1 k2 l1 l2 x8_1 y422 y409 l0 (l0.length : Int) (wrap64 (x40_2 + 1))) = some (r1, r2) := by first | (rw [hy422]; with_reducible exact H) | (have H2_ := (Option.bind_some _ _).symm.trans H; rw [hy422]; with_reducible exact H2_) | (have H2_ := (Option.bind_some _ _).symm.trans H; with_reducible exact H2_) | with_reducible exact H | (rw [hy422]; exact H) | exact H
                   have Ny422 := Aside0.mk hy422
                   clear hy422
                   have H' := Aside0.mk H
                   clear H
                   have p414 : 0 ≤ (x40_2 : Int) := of_decide_eq_true (by first | (with_reducible assumption) | assumption)
                   have q414 : x40_2 < (l0.length : Int) := of_decide_eq_true (by first | (with_reducible assumption) | assumption)
                   obtain ⟨ad414, e414, hx414_0, hx414_1, hx414_2, hx414_3⟩ := at_T46 HR0.out x40_2 p414 q414
                   (try rw [← Nbq27.out] at hx414_0)
                   (try rw [← Nbq29.out] at hx414_0)
                   cases e414
                   replace hx414_0 := (HB.out.cell (World.block_lt_of_cell? w _ hx414_0)).trans hx414_0
                   replace hx414_1 := (HB.out.cell (World.block_lt_of_cell? w _ hx414_1)).trans hx414_1
                   replace hx414_2 := (HB.out.cell (World.block_lt_of_cell? w _ hx414_2)).trans hx414_2
                   replace hx414_3 := (HB.out.cell (World.block_lt_of_cell? w _ hx414_3)).trans hx414_3
                   replace p414 := eq_true p414
                   replace q414 := eq_true q414
                   go_wp2_with (first | ((with_reducible refine gate_dst (N := 15) rfl ?_); refine box_event ?hg (N := 15) ?hd (cs := #[.bool false, .int .i64 0, .int .i64 0, .int .i64 0]) (t := 46) ?hr ?_; (case hd => rfl); (case hg => rfl); (case hr => first | (go_simp; done) | (go_simp; rfl)); intro gb415 hg w40 hbox hb; have n0_ := Aside0.mk (Kd.R_below (pr_ HO_8.out) hb); have n1_ := Aside0.mk (Kd.R_below (Kd.R_elderB (pr_ HO_9.out) gb415 (Nat.le_of_eq hg.symm)) hb); have n2_ := Aside0.mk (Kd.R_below (pr_ HO_10.out) hb); have n3_ := Aside0.mk (below_step pb_ hb); have n4_ := Aside0.mk (hbox); have n5_ := Aside0.mk ((by rw [hg]; exact (below_size pb_) : w.heap.size ≤ gb415)); have n6_ := Aside0.mk ((by rw [hg]; exact (below_size pb_) : w.heap.size ≤ gb415)); clear HO_8; clear HO_9; clear HO_10; clear HB; have HO_8 := n0_; have HO_9 := n1_; have HO_10 := n2_; have HB := n3_; have BK415 := n4_; have GW415 := n5_; have GE415 := n6_; clear n0_ n1_ n2_ n3_ n4_ n5_ n6_; clear hb hbox hg; have hcz41_0 := bc0 BK415.out; have hcz41_1 := bc1 BK415.out; have hcz41_2 := bc2 BK415.out; have hcz41_3 := bc3 BK415.out; have hfz41_0 := blk_frozen BK415.out 0; have hfz41_1 := blk_frozen BK415.out 1; have hfz41_2 := blk_frozen BK415.out 2; have hfz41_3 := blk_frozen BK415.out 3; have p416 : 0 ≤ (x40_2 : Int) := of_decide_eq_true (by first | (with_reducible assumption) | assumption); have q416 : x40_2 < (l2.length : Int) := of_decide_eq_true (by first | (with_reducible assumption) | assumption); obtain ⟨ad416, e416, hx416_0⟩ := Kd.at_bool HR2.out x40_2 p416 q416; (try rw [← Nbq27.out] at hx416_0); (try rw [← Nbq29.out] at hx416_0); cases e416; have hn416_0 : ad416.block ≠ gb415 := Nat.ne_of_lt (Nat.lt_of_lt_of_le (by have := World.block_lt_of_cell? _ _ hx416_0; first | rwa [add_block] at this | exact this) GW415.out); have hn416_1 : ad416.block ≠ gb415 := Nat.ne_of_lt (Nat.lt_of_lt_of_le (by have := World.block_lt_of_cell? _ _ hx416_0; first | rwa [add_block] at this | exact this) GW415.out); have hn416_2 : ad416.block ≠ gb415 := Nat.ne_of_lt (Nat.lt_of_lt_of_le (by have := World.block_lt_of_cell? _ _ hx416_0; first | rwa [add_block] at this | exact this) GW415.out); have hn416_3 : ad416.block ≠ gb415 := Nat.ne_of_lt (Nat.lt_of_lt_of_le (by have := World.block_lt_of_cell? _ _ hx416_0; first | rwa [add_block] at this | exact this) GW415.out); replace hx416_0 := (HB.out.cell (World.block_lt_of_cell? w _ hx416_0)).trans hx416_0; replace hx416_0 := (cell_far (p := ⟨gb415, 0, none⟩) (by first | (rw [add_block]; exact hn416_0) | (show (Addr.add _ _).block ≠ _; rw [add_block]; exact hn416_0) | exact hn416_0) (.bool false)).trans hx416_0; replace hx416_0 := (cell_far (p := ⟨gb415, 1, none⟩) (by first | (rw [add_block]; exact hn416_1) | (show (Addr.add _ _).block ≠ _; rw [add_block]; exact hn416_1) | exact hn416_1) (.int .i64 ((rd_T46 l0 x40_2).f1))).trans hx416_0; replace hx416_0 := (cell_far (p := ⟨gb415, 2, none⟩) (by first | (rw [add_block]; exact hn416_2) | (show (Addr.add _ _).block ≠ _; rw [add_block]; exact hn416_2) | exact hn416_2) (.int .i64 ((rd_T46 l0 x40_2).f2))).trans hx416_0; replace hx416_0 := (cell_far (p := ⟨gb415, 3, none⟩) (by first | (rw [add_block]; exact hn416_3) | (show (Addr.add _ _).block ≠ _; rw [add_block]; exact hn416_3) | exact hn416_3) (.int .i64 ((rd_T46 l0 x40_2).f3))).trans hx416_0; clear hn416_0; clear hn416_1; clear hn416_2; clear hn416_3; replace p416 := eq_true p416; replace q416 := eq_true q416; obtain ⟨Ao42, co42, eo42⟩ := Kd.R_slice HO_8.out; subst eo42; have p420 : 0 ≤ (((rd_T46 l0 x40_2).f2) : Int) := of_decide_eq_true (by first | (with_reducible assumption) | assumption); have q420 : ((rd_T46 l0 x40_2).f2) < (x8_1.length : Int) := of_decide_eq_true (by first | (with_reducible assumption) | assumption); obtain ⟨ad420, e420, hx420_0⟩ := Kd.at_int (Kd.R_reads' HO_8.out).2.2 ((rd_T46 l0 x40_2).f2) p420 q420; cases e420; have hn420_0 : ad420.block ≠ gb415 := Kd.own_blk (Kd.R_ne HO_8.out BK415.out (by decide)); have hn420_1 : ad420.block ≠ gb415 := Kd.own_blk (Kd.R_ne HO_8.out BK415.out (by decide)); have hn420_2 : ad420.block ≠ gb415 := Kd.own_blk (Kd.R_ne HO_8.out BK415.out (by decide)); have hn420_3 : ad420.block ≠ gb415 := Kd.own_blk (Kd.R_ne HO_8.out BK415.out (by decide)); replace hx420_0 := (cell_far (p := ⟨gb415, 0, none⟩) (by first | (rw [add_block]; exact hn420_0) | (show (Addr.add _ _).block ≠ _; rw [add_block]; exact hn420_0) | exact hn420_0) (.bool false)).trans hx420_0; replace hx420_0 := (cell_far (p := ⟨gb415, 1, none⟩) (by first | (rw [add_block]; exact hn420_1) | (show (Addr.add _ _).block ≠ _; rw [add_block]; exact hn420_1) | exact hn420_1) (.int .i64 ((rd_T46 l0 x40_2).f1))).trans hx420_0; replace hx420_0 := (cell_far (p := ⟨gb415, 2, none⟩) (by first | (rw [add_block]; exact hn420_2) | (show (Addr.add _ _).block ≠ _; rw [add_block]; exact hn420_2) | exact hn420_2) (.int .i64 ((rd_T46 l0 x40_2).f2))).trans hx420_0; replace hx420_0 := (cell_far (p := ⟨gb415, 3, none⟩) (by first | (rw [add_block]; exact hn420_3) | (show (Addr.add _ _).block ≠ _; rw [add_block]; exact hn420_3) | exact hn420_3) (.int .i64 ((rd_T46 l0 x40_2).f3))).trans hx420_0; clear hn420_0; clear hn420_1; clear hn420_2; clear hn420_3; replace p420 := eq_true p420; replace q420 := eq_true q420; have p421 : 0 ≤ (((rd_T46 l0 x40_2).f3) : Int) := of_decide_eq_true (by first | (with_reducible assumption) | assumption); have q421 : ((rd_T46 l0 x40_2).f3) < (x8_1.length : Int) := of_decide_eq_true (by first | (with_reducible assumption) | assumption); obtain ⟨ad421, e421, hx421_0⟩ := Kd.at_int (Kd.R_reads' HO_8.out).2.2 ((rd_T46 l0 x40_2).f3) p421 q421; obtain rfl : ad420 = ad421 := (by injection e421); have hn421_0 : ad420.block ≠ gb415 := Kd.own_blk (Kd.R_ne HO_8.out BK415.out (by decide)); have hn421_1 : ad420.block ≠ gb415 := Kd.own_blk (Kd.R_ne HO_8.out BK415.out (by decide)); have hn421_2 : ad420.block ≠ gb415 := Kd.own_blk (Kd.R_ne HO_8.out BK415.out (by decide)); have hn421_3 : ad420.block ≠ gb415 := Kd.own_blk (Kd.R_ne HO_8.out BK415.out (by decide)); replace hx421_0 := (cell_far (p := ⟨gb415, 0, none⟩) (by first | (rw [add_block]; exact hn421_0) | (show (Addr.add _ _).block ≠ _; rw [add_block]; exact hn421_0) | exact hn421_0) (.bool false)).trans hx421_0; replace hx421_0 := (cell_far (p := ⟨gb415, 1, none⟩) (by first | (rw [add_block]; exact hn421_1) | (show (Addr.add _ _).block ≠ _; rw [add_block]; exact hn421_1) | exact hn421_1) (.int .i64 ((rd_T46 l0 x40_2).f1))).trans hx421_0; replace hx421_0 := (cell_far (p := ⟨gb415, 2, none⟩) (by first | (rw [add_block]; exact hn421_2) | (show (Addr.add _ _).block ≠ _; rw [add_block]; exact hn421_2) | exact hn421_2) (.int .i64 ((rd_T46 l0 x40_2).f2))).trans hx421_0; replace hx421_0 := (cell_far (p := ⟨gb415, 3, none⟩) (by first | (rw [add_block]; exact hn421_3) | (show (Addr.add _ _).block ≠ _; rw [add_block]; exact hn421_3) | exact hn421_3) (.int .i64 ((rd_T46 l0 x40_2).f3))).trans hx421_0; clear hn421_0; clear hn421_1; clear hn421_2; clear hn421_3; replace p421 := eq_true p421; replace q421 := eq_true q421) | ((with_reducible refine gate_builtin (b := .append) (xs := #[.tmp 65, .tmp 67]) rfl ?_); at_builtin; refine Kd.R_append k46 (w0 := w) w.heap.size rfl (.tmp 65) (.tmp 67) 28 46 (.agg #[(.bool false), (.int .i64 0), (.int .i64 0), (.int .i64 0)]) 32 rfl Try.underlying28 info46 rfl (by decide) (by omega) u9 x9_2 (⟨false, (rd_T46 l0 x40_2).f1, rd x8_1 ((rd_T46 l0 x40_2).f2), rd x8_1 ((rd_T46 l0 x40_2).f3)⟩ : S46) [.bool false, .int .i64 ((rd_T46 l0 x40_2).f1), .int .i64 (rd x8_1 ((rd_T46 l0 x40_2).f2)), .int .i64 (rd x8_1 ((rd_T46 l0 x40_2).f3))] (fun k_ => k_ ≠ gb415) (fun _ => False) rfl (by first | (go_simp; done) | (go_simp; rfl)) ?aP (fun _ hk => hk.elim) ?aF ?aO ?aB ?aS ?aL ?_; (case aP => exact k46_mkM _ _ _ (⟨false, (rd_T46 l0 x40_2).f1, rd x8_1 ((rd_T46 l0 x40_2).f2), rd x8_1 ((rd_T46 l0 x40_2).f3)⟩ : S46)); (case aB => exact pb_); (case aF => exact (fun k_ hk => Kd.freshB (g := gb415) (o := .cells #[.bool false, .int .i64 ((rd_T46 l0 x40_2).f1), .int .i64 (rd x8_1 ((rd_T46 l0 x40_2).f2)), .int .i64 (rd x8_1 ((rd_T46 l0 x40_2).f3))] 46 (0, 0)) (by (with_reducible repeat (first | refine blk_drewN ?_ _ | refine blk_drew ?_ | refine blk_alloc ?_ _)); refine blk_put (cs := #[.bool false, .int .i64 ((rd_T46 l0 x40_2).f1), .int .i64 (rd x8_1 ((rd_T46 l0 x40_2).f2)), .int .i64 ((rd_T46 l0 x40_2).f3)]) ?_ 3 _ rfl; (with_reducible repeat (first | refine blk_drewN ?_ _ | refine blk_drew ?_ | refine blk_alloc ?_ _)); refine blk_put (cs := #[.bool false, .int .i64 ((rd_T46 l0 x40_2).f1), .int .i64 ((rd_T46 l0 x40_2).f2), .int .i64 ((rd_T46 l0 x40_2).f3)]) ?_ 2 _ rfl; (with_reducible repeat (first | refine blk_drewN ?_ _ | refine blk_drew ?_ | refine blk_alloc ?_ _)); refine blk_put (cs := #[.bool false, .int .i64 ((rd_T46 l0 x40_2).f1), .int .i64 ((rd_T46 l0 x40_2).f2), .int .i64 0]) ?_ 3 _ rfl; (with_reducible repeat (first | refine blk_drewN ?_ _ | refine blk_drew ?_ | refine blk_alloc ?_ _)); refine blk_put (cs := #[.bool false, .int .i64 ((rd_T46 l0 x40_2).f1), .int .i64 0, .int .i64 0]) ?_ 2 _ rfl; (with_reducible repeat (first | refine blk_drewN ?_ _ | refine blk_drew ?_ | refine blk_alloc ?_ _)); refine blk_put (cs := #[.bool false, .int .i64 0, .int .i64 0, .int .i64 0]) ?_ 1 _ rfl; (with_reducible repeat (first | refine blk_drewN ?_ _ | refine blk_drew ?_ | refine blk_alloc ?_ _)); refine blk_put (cs := #[.bool false, .int .i64 0, .int .i64 0, .int .i64 0]) ?_ 0 _ rfl; (with_reducible repeat (first | refine blk_drewN ?_ _ | refine blk_drew ?_ | refine blk_alloc ?_ _)); exact BK415.out) k_ hk)); (case aO => exact (by (with_reducible repeat (first | apply Kd.R_alloc | apply Kd.R_drewN | apply Kd.R_drew)); exact Kd.R_mono (Kd.R_far (p := ⟨gb415, 3, none⟩) (Kd.R_far (p := ⟨gb415, 2, none⟩) (Kd.R_far (p := ⟨gb415, 3, none⟩) (Kd.R_far (p := ⟨gb415, 2, none⟩) (Kd.R_far (p := ⟨gb415, 1, none⟩) (Kd.R_far (p := ⟨gb415, 0, none⟩) (Kd.R_mono HO_9.out (fun k_ hk => (⟨hk, hk.2⟩ : _ ∧ k_ ≠ gb415))) (fun _ hk => hk.2) (.bool false)) (fun _ hk => hk.2) (.int .i64 ((rd_T46 l0 x40_2).f1))) (fun _ hk => hk.2) (.int .i64 ((rd_T46 l0 x40_2).f2))) (fun _ hk => hk.2) (.int .i64 ((rd_T46 l0 x40_2).f3))) (fun _ hk => hk.2) (.int .i64 (rd x8_1 ((rd_T46 l0 x40_2).f2)))) (fun _ hk => hk.2) (.int .i64 (rd x8_1 ((rd_T46 l0 x40_2).f3)))) (fun _ hk => hk.1.2))); (case aS => exact (below_size pb_)); (case aL => have := LMc39.out; omega); intro v423 w43 ho hb hg hat; rw [← Ny422.out] at ho; have n0_ := Aside0.mk (Kd.R_over' (by (with_reducible repeat (first | apply Kd.R_alloc | apply Kd.R_drewN | apply Kd.R_drew)); exact (Kd.R_mono (Kd.R_far (p := ⟨gb415, 3, none⟩) (Kd.R_far (p := ⟨gb415, 2, none⟩) (Kd.R_far (p := ⟨gb415, 3, none⟩) (Kd.R_far (p := ⟨gb415, 2, none⟩) (Kd.R_far (p := ⟨gb415, 1, none⟩) (Kd.R_far (p := ⟨gb415, 0, none⟩) (Kd.R_types HO_8.out BK415.out (by decide)) (fun _ hk => hk.2) (.bool false)) (fun _ hk => hk.2) (.int .i64 ((rd_T46 l0 x40_2).f1))) (fun _ hk => hk.2) (.int .i64 ((rd_T46 l0 x40_2).f2))) (fun _ hk => hk.2) (.int .i64 ((rd_T46 l0 x40_2).f3))) (fun _ hk => hk.2) (.int .i64 (rd x8_1 ((rd_T46 l0 x40_2).f2)))) (fun _ hk => hk.2) (.int .i64 (rd x8_1 ((rd_T46 l0 x40_2).f3)))) (fun _ h_ => h_.1))) (Kd.R_typed (by (with_reducible repeat (first | apply Kd.R_alloc | apply Kd.R_drewN | apply Kd.R_drew)); exact (Kd.R_mono (Kd.R_far (p := ⟨gb415, 3, none⟩) (Kd.R_far (p := ⟨gb415, 2, none⟩) (Kd.R_far (p := ⟨gb415, 3, none⟩) (Kd.R_far (p := ⟨gb415, 2, none⟩) (Kd.R_far (p := ⟨gb415, 1, none⟩) (Kd.R_far (p := ⟨gb415, 0, none⟩) (Kd.R_mono HO_9.out (fun k_ hk => (⟨hk, hk.2⟩ : _ ∧ k_ ≠ gb415))) (fun _ hk => hk.2) (.bool false)) (fun _ hk => hk.2) (.int .i64 ((rd_T46 l0 x40_2).f1))) (fun _ hk => hk.2) (.int .i64 ((rd_T46 l0 x40_2).f2))) (fun _ hk => hk.2) (.int .i64 ((rd_T46 l0 x40_2).f3))) (fun _ hk => hk.2) (.int .i64 (rd x8_1 ((rd_T46 l0 x40_2).f2)))) (fun _ hk => hk.2) (.int .i64 (rd x8_1 ((rd_T46 l0 x40_2).f3)))) (fun _ h_ => h_.1)))) (by decide) hg); have n1_ := Aside0.mk (Kd.R_over' (by (with_reducible repeat (first | apply Kd.R_alloc | apply Kd.R_drewN | apply Kd.R_drew)); exact (Kd.R_mono (Kd.R_far (p := ⟨gb415, 3, none⟩) (Kd.R_far (p := ⟨gb415, 2, none⟩) (Kd.R_far (p := ⟨gb415, 3, none⟩) (Kd.R_far (p := ⟨gb415, 2, none⟩) (Kd.R_far (p := ⟨gb415, 1, none⟩) (Kd.R_far (p := ⟨gb415, 0, none⟩) (Kd.R_types HO_10.out BK415.out (by decide)) (fun _ hk => hk.2) (.bool false)) (fun _ hk => hk.2) (.int .i64 ((rd_T46 l0 x40_2).f1))) (fun _ hk => hk.2) (.int .i64 ((rd_T46 l0 x40_2).f2))) (fun _ hk => hk.2) (.int .i64 ((rd_T46 l0 x40_2).f3))) (fun _ hk => hk.2) (.int .i64 (rd x8_1 ((rd_T46 l0 x40_2).f2)))) (fun _ hk => hk.2) (.int .i64 (rd x8_1 ((rd_T46 l0 x40_2).f3)))) (fun _ h_ => h_.1))) (Kd.R_typed (by (with_reducible repeat (first | apply Kd.R_alloc | apply Kd.R_drewN | apply Kd.R_drew)); exact (Kd.R_mono (Kd.R_far (p := ⟨gb415, 3, none⟩) (Kd.R_far (p := ⟨gb415, 2, none⟩) (Kd.R_far (p := ⟨gb415, 3, none⟩) (Kd.R_far (p := ⟨gb415, 2, none⟩) (Kd.R_far (p := ⟨gb415, 1, none⟩) (Kd.R_far (p := ⟨gb415, 0, none⟩) (Kd.R_mono HO_9.out (fun k_ hk => (⟨hk, hk.2⟩ : _ ∧ k_ ≠ gb415))) (fun _ hk => hk.2) (.bool false)) (fun _ hk => hk.2) (.int .i64 ((rd_T46 l0 x40_2).f1))) (fun _ hk => hk.2) (.int .i64 ((rd_T46 l0 x40_2).f2))) (fun _ hk => hk.2) (.int .i64 ((rd_T46 l0 x40_2).f3))) (fun _ hk => hk.2) (.int .i64 (rd x8_1 ((rd_T46 l0 x40_2).f2)))) (fun _ hk => hk.2) (.int .i64 (rd x8_1 ((rd_T46 l0 x40_2).f3)))) (fun _ h_ => h_.1)))) (by decide) hg); have n2_ := Aside0.mk (blk_grown (g := gb415) (o := .cells #[.bool false, .int .i64 ((rd_T46 l0 x40_2).f1), .int .i64 (rd x8_1 ((rd_T46 l0 x40_2).f2)), .int .i64 (rd x8_1 ((rd_T46 l0 x40_2).f3))] 46 (0, 0)) (by (with_reducible repeat (first | refine blk_drewN ?_ _ | refine blk_drew ?_ | refine blk_alloc ?_ _)); refine blk_put (cs := #[.bool false, .int .i64 ((rd_T46 l0 x40_2).f1), .int .i64 (rd x8_1 ((rd_T46 l0 x40_2).f2)), .int .i64 ((rd_T46 l0 x40_2).f3)]) ?_ 3 _ rfl; (with_reducible repeat (first | refine blk_drewN ?_ _ | refine blk_drew ?_ | refine blk_alloc ?_ _)); refine blk_put (cs := #[.bool false, .int .i64 ((rd_T46 l0 x40_2).f1), .int .i64 ((rd_T46 l0 x40_2).f2), .int .i64 ((rd_T46 l0 x40_2).f3)]) ?_ 2 _ rfl; (with_reducible repeat (first | refine blk_drewN ?_ _ | refine blk_drew ?_ | refine blk_alloc ?_ _)); refine blk_put (cs := #[.bool false, .int .i64 ((rd_T46 l0 x40_2).f1), .int .i64 ((rd_T46 l0 x40_2).f2), .int .i64 0]) ?_ 3 _ rfl; (with_reducible repeat (first | refine blk_drewN ?_ _ | refine blk_drew ?_ | refine blk_alloc ?_ _)); refine blk_put (cs := #[.bool false, .int .i64 ((rd_T46 l0 x40_2).f1), .int .i64 0, .int .i64 0]) ?_ 2 _ rfl; (with_reducible repeat (first | refine blk_drewN ?_ _ | refine blk_drew ?_ | refine blk_alloc ?_ _)); refine blk_put (cs := #[.bool false, .int .i64 0, .int .i64 0, .int .i64 0]) ?_ 1 _ rfl; (with_reducible repeat (first | refine blk_drewN ?_ _ | refine blk_drew ?_ | refine blk_alloc ?_ _)); refine blk_put (cs := #[.bool false, .int .i64 0, .int .i64 0, .int .i64 0]) ?_ 0 _ rfl; (with_reducible repeat (first | refine blk_drewN ?_ _ | refine blk_drew ?_ | refine blk_alloc ?_ _)); exact BK415.out) hg (Kd.R_away HO_9.out (fun _ hk => hk.2))); have n3_ := Aside0.mk (hb); have n4_ := Aside0.mk (ho); clear HO_8; clear HO_10; clear BK415; clear HB; clear HO_9; have HO_8 := n0_; have HO_10 := n1_; have BK415 := n2_; have HB := n3_; have HO424 := n4_; clear n0_ n1_ n2_ n3_ n4_; clear ho hb hg hat))
                   have hn_ : ad420.block ≠ gb415 := Kd.own_blk (Kd.R_ne HO_8.out BK415.out (by decide))
                   have hy_ := (cell_far (p := ⟨gb415, 2, none⟩) (by first | (rw [add_block]; exact hn_) | (show (Addr.add _ _).block ≠ _; rw [add_block]; exact hn_) | exact hn_) (.int .i64 (rd x8_1 ((rd_T46 l0 x40_2).f2)))).trans hx421_0
                   go_region
                   clear hy_ hx420_0 hx421_0 hn_ hcz41_0 hcz41_1 hcz41_2 hcz41_3 hfz41_0 hfz41_1 hfz41_2 hfz41_3
                   have HX8 : Aside0 (Kd.R (Kd.int .i64) 3 (((((((w40.setCell ⟨gb415, 0, none⟩ (.bool false)).setCell ⟨gb415, 1, none⟩ (.int .i64 ((rd_T46 l0 x40_2).f1))).setCell ⟨gb415, 2, none⟩ (.int .i64 ((rd_T46 l0 x40_2).f2))).setCell ⟨gb415, 3, none⟩ (.int .i64 ((rd_T46 l0 x40_2).f3))).setCell ⟨gb415, 2, none⟩ (.int .i64 (rd x8_1 ((rd_T46 l0 x40_2).f2)))).setCell ⟨gb415, 3, none⟩ (.int .i64 (rd x8_1 ((rd_T46 l0 x40_2).f3)))).drew) w.heap.size (fun k_ => some k_ ≠ (v410 : Value).ownBlock) (.slice (some ad420) x8_1.length co42) x8_1) := ⟨by apply Kd.R_drew; exact Kd.R_mono (Kd.R_far (p := ⟨gb415, 3, none⟩) (Kd.R_far (p := ⟨gb415, 2, none⟩) (Kd.R_far (p := ⟨gb415, 3, none⟩) (Kd.R_far (p := ⟨gb415, 2, none⟩) (Kd.R_far (p := ⟨gb415, 1, none⟩) (Kd.R_far (p := ⟨gb415, 0, none⟩) (Kd.R_types HO_8.out BK415.out (by decide)) (fun _ hk => hk.2) _) (fun _ hk => hk.2) _) (fun _ hk => hk.2) _) (fun _ hk => hk.2) _) (fun _ hk => hk.2) _) (fun _ hk => hk.2) _) (fun _ h_ => h_.1)⟩
                   have HX9 : Aside0 (Kd.R k46 46 (((((((w40.setCell ⟨gb415, 0, none⟩ (.bool false)).setCell ⟨gb415, 1, none⟩ (.int .i64 ((rd_T46 l0 x40_2).f1))).setCell ⟨gb415, 2, none⟩ (.int .i64 ((rd_T46 l0 x40_2).f2))).setCell ⟨gb415, 3, none⟩ (.int .i64 ((rd_T46 l0 x40_2).f3))).setCell ⟨gb415, 2, none⟩ (.int .i64 (rd x8_1 ((rd_T46 l0 x40_2).f2)))).setCell ⟨gb415, 3, none⟩ (.int .i64 (rd x8_1 ((rd_T46 l0 x40_2).f3)))).drew) w.heap.size (fun k_ => k_ ≠ gb415) u9 x9_2) := ⟨by apply Kd.R_drew; exact Kd.R_mono (Kd.R_far (p := ⟨gb415, 3, none⟩) (Kd.R_far (p := ⟨gb415, 2, none⟩) (Kd.R_far (p := ⟨gb415, 3, none⟩) (Kd.R_far (p := ⟨gb415, 2, none⟩) (Kd.R_far (p := ⟨gb415, 1, none⟩) (Kd.R_far (p := ⟨gb415, 0, none⟩) (Kd.R_mono (ok' := fun k_ => True ∧ k_ ≠ gb415) HO_9.out (fun k_ hk => (⟨trivial, hk.2⟩ : _ ∧ k_ ≠ gb415))) (fun _ hk => hk.2) _) (fun _ hk => hk.2) _) (fun _ hk => hk.2) _) (fun _ hk => hk.2) _) (fun _ hk => hk.2) _) (fun _ hk => hk.2) _) (fun _ hk => hk.2)⟩
                   have HX10 : Aside0 (Kd.R (Kd.int .i64) 3 (((((((w40.setCell ⟨gb415, 0, none⟩ (.bool false)).setCell ⟨gb415, 1, none⟩ (.int .i64 ((rd_T46 l0 x40_2).f1))).setCell ⟨gb415, 2, none⟩ (.int .i64 ((rd_T46 l0 x40_2).f2))).setCell ⟨gb415, 3, none⟩ (.int .i64 ((rd_T46 l0 x40_2).f3))).setCell ⟨gb415, 2, none⟩ (.int .i64 (rd x8_1 ((rd_T46 l0 x40_2).f2)))).setCell ⟨gb415, 3, none⟩ (.int .i64 (rd x8_1 ((rd_T46 l0 x40_2).f3)))).drew) w.heap.size (fun k_ => some k_ ≠ (Value.slice (some ad420) x8_1.length co42 : Value).ownBlock) v410 y409) := ⟨by apply Kd.R_drew; exact Kd.R_mono (Kd.R_far (p := ⟨gb415, 3, none⟩) (Kd.R_far (p := ⟨gb415, 2, none⟩) (Kd.R_far (p := ⟨gb415, 3, none⟩) (Kd.R_far (p := ⟨gb415, 2, none⟩) (Kd.R_far (p := ⟨gb415, 1, none⟩) (Kd.R_far (p := ⟨gb415, 0, none⟩) (Kd.R_types HO_10.out BK415.out (by decide)) (fun _ hk => hk.2) _) (fun _ hk => hk.2) _) (fun _ hk => hk.2) _) (fun _ hk => hk.2) _) (fun _ hk => hk.2) _) (fun _ hk => hk.2) _) (fun _ h_ => h_.1)⟩
                   have HXB : Aside0 (Below w.heap.size w (((((((w40.setCell ⟨gb415, 0, none⟩ (.bool false)).setCell ⟨gb415, 1, none⟩ (.int .i64 ((rd_T46 l0 x40_2).f1))).setCell ⟨gb415, 2, none⟩ (.int .i64 ((rd_T46 l0 x40_2).f2))).setCell ⟨gb415, 3, none⟩ (.int .i64 ((rd_T46 l0 x40_2).f3))).setCell ⟨gb415, 2, none⟩ (.int .i64 (rd x8_1 ((rd_T46 l0 x40_2).f2)))).setCell ⟨gb415, 3, none⟩ (.int .i64 (rd x8_1 ((rd_T46 l0 x40_2).f3)))).drew)) := ⟨pb_⟩
                   have HXK : Aside0 ((((((((w40.setCell ⟨gb415, 0, none⟩ (.bool false)).setCell ⟨gb415, 1, none⟩ (.int .i64 ((rd_T46 l0 x40_2).f1))).setCell ⟨gb415, 2, none⟩ (.int .i64 ((rd_T46 l0 x40_2).f2))).setCell ⟨gb415, 3, none⟩ (.int .i64 ((rd_T46 l0 x40_2).f3))).setCell ⟨gb415, 2, none⟩ (.int .i64 (rd x8_1 ((rd_T46 l0 x40_2).f2)))).setCell ⟨gb415, 3, none⟩ (.int .i64 (rd x8_1 ((rd_T46 l0 x40_2).f3)))).drew).heap[gb415]? = some (.cells #[.bool false, .int .i64 ((rd_T46 l0 x40_2).f1), .int .i64 (rd x8_1 ((rd_T46 l0 x40_2).f2)), .int .i64 (rd x8_1 ((rd_T46 l0 x40_2).f3))] 46 (0, 0))) := ⟨by refine blk_drew ?_; refine blk_put (cs := #[.bool false, .int .i64 ((rd_T46 l0 x40_2).f1), .int .i64 (rd x8_1 ((rd_T46 l0 x40_2).f2)), .int .i64 ((rd_T46 l0 x40_2).f3)]) ?_ 3 _ rfl; refine blk_put (cs := #[.bool false, .int .i64 ((rd_T46 l0 x40_2).f1), .int .i64 ((rd_T46 l0 x40_2).f2), .int .i64 ((rd_T46 l0 x40_2).f3)]) ?_ 2 _ rfl; refine blk_put (cs := #[.bool false, .int .i64 ((rd_T46 l0 x40_2).f1), .int .i64 ((rd_T46 l0 x40_2).f2), .int .i64 0]) ?_ 3 _ rfl; refine blk_put (cs := #[.bool false, .int .i64 ((rd_T46 l0 x40_2).f1), .int .i64 0, .int .i64 0]) ?_ 2 _ rfl; refine blk_put (cs := #[.bool false, .int .i64 0, .int .i64 0, .int .i64 0]) ?_ 1 _ rfl; refine blk_put (cs := #[.bool false, .int .i64 0, .int .i64 0, .int .i64 0]) ?_ 0 _ rfl; exact BK415.out⟩
                   generalize hw44 : ((((((w40.setCell ⟨gb415, 0, none⟩ (.bool false)).setCell ⟨gb415, 1, none⟩ (.int .i64 ((rd_T46 l0 x40_2).f1))).setCell ⟨gb415, 2, none⟩ (.int .i64 ((rd_T46 l0 x40_2).f2))).setCell ⟨gb415, 3, none⟩ (.int .i64 ((rd_T46 l0 x40_2).f3))).setCell ⟨gb415, 2, none⟩ (.int .i64 (rd x8_1 ((rd_T46 l0 x40_2).f2)))).setCell ⟨gb415, 3, none⟩ (.int .i64 (rd x8_1 ((rd_T46 l0 x40_2).f3)))).drew = w44 at HX8 HX9 HX10 HXB HXK ⊢
                   clear hw44 HB BK415 HO_8 HO_9 HO_10
                   have hcy_0 : w44.cell? ⟨gb415, 0, none⟩ = some (.bool false) := (blk_cell HXK.out 0).trans rfl
                   have hcy_1 : w44.cell? ⟨gb415, 1, none⟩ = some (.int .i64 ((rd_T46 l0 x40_2).f1)) := (blk_cell HXK.out 1).trans rfl
                   have hcy_2 : w44.cell? ⟨gb415, 2, none⟩ = some (.int .i64 (rd x8_1 ((rd_T46 l0 x40_2).f2))) := (blk_cell HXK.out 2).trans rfl
                   have hcy_3 : w44.cell? ⟨gb415, 3, none⟩ = some (.int .i64 (rd x8_1 ((rd_T46 l0 x40_2).f3))) := (blk_cell HXK.out 3).trans rfl
                   go_wp2_with (first | ((with_reducible refine gate_builtin (b := .append) (xs := #[.tmp 65, .tmp 67]) rfl ?_); at_builtin; refine Kd.R_append k46 (w0 := w) w.heap.size rfl (.tmp 65) (.tmp 67) 28 46 (.agg #[(.bool false), (.int .i64 0), (.int .i64 0), (.int .i64 0)]) 32 rfl Try.underlying28 info46 rfl (by decide) (by omega) u9 x9_2 (⟨false, (rd_T46 l0 x40_2).f1, rd x8_1 ((rd_T46 l0 x40_2).f2), rd x8_1 ((rd_T46 l0 x40_2).f3)⟩ : S46) [.bool false, .int .i64 ((rd_T46 l0 x40_2).f1), .int .i64 (rd x8_1 ((rd_T46 l0 x40_2).f2)), .int .i64 (rd x8_1 ((rd_T46 l0 x40_2).f3))] (fun k_ => k_ ≠ gb415) (fun _ => False) rfl (by first | (go_simp; done) | (go_simp; rfl)) ?aP (fun _ hk => hk.elim) ?aF ?aO ?aB ?aS ?aL ?_; (case aP => exact k46_mkM _ _ _ (⟨false, (rd_T46 l0 x40_2).f1, rd x8_1 ((rd_T46 l0 x40_2).f2), rd x8_1 ((rd_T46 l0 x40_2).f3)⟩ : S46)); (case aB => repeat (first | (with_reducible first | exact HXB.out | apply below_alloc | apply pw_below_drewN | apply below_drew1 | refine below_set ?_ GE415.out) | exact HXB.out)); (case aF => exact (fun k_ hk => Kd.freshB (g := gb415) (o := .cells #[.bool false, .int .i64 ((rd_T46 l0 x40_2).f1), .int .i64 (rd x8_1 ((rd_T46 l0 x40_2).f2)), .int .i64 (rd x8_1 ((rd_T46 l0 x40_2).f3))] 46 (0, 0)) HXK.out k_ hk)); (case aO => exact (pr_ HX9.out)); (case aS => exact (below_size (by repeat (first | (with_reducible first | exact HXB.out | apply below_alloc | apply pw_below_drewN | apply below_drew1 | refine below_set ?_ GE415.out) | exact HXB.out)))); (case aL => have := LMc39.out; omega); intro v423 w43 ho hb hg hat; rw [← Ny422.out] at ho; have n0_ := Aside0.mk (Kd.R_over' HX8.out (Kd.R_typed HX9.out) (by decide) hg); have n1_ := Aside0.mk (Kd.R_over' HX10.out (Kd.R_typed HX9.out) (by decide) hg); have n3_ := Aside0.mk (hb); have n4_ := Aside0.mk (ho); clear HX8 HX9 HX10 HXB HXK hcy_0 hcy_1 hcy_2 hcy_3; have HO_8 := n0_; have HO_10 := n1_; have HB := n3_; have HO424 := n4_; clear n0_ n1_ n3_ n4_; clear ho hb hg hat))
                   go_roundg k2
                   case measure => have := HK1.out; have := HK2.out; omega
                   case rel => exact ⟨(y422), (wrap64 (x40_2 + 1)), (by first | rfl | (simp; done) | (simp [*]; done)), H', ⟨by have := HK1.out; have := HK2.out; omega⟩, ⟨by (with_reducible repeat (first | apply Kd.R_alloc | apply Kd.R_drewN | apply Kd.R_drew)); exact HO_8.out⟩, ⟨by (with_reducible repeat (first | apply Kd.R_alloc | apply Kd.R_drewN | apply Kd.R_drew)); exact Kd.R_mono HO424.out (fun _ hk => trivial)⟩, ⟨by (with_reducible repeat (first | apply Kd.R_alloc | apply Kd.R_drewN | apply Kd.R_drew)); exact HO_10.out⟩, ⟨pb_⟩⟩
                  ·rw [if_neg c39] at H
                   exact absurd H (by simp)
                 ·rw [if_neg c38] at H
                  exact absurd H (by simp)
                ·rw [if_neg c37] at H
                 exact absurd H (by simp)
               ·rw [if_neg c36] at H
                exact absurd H (by simp)
              ·rw [if_neg c35] at H
               exact absurd H (by simp)
            ·replace c28 := Bool.eq_false_iff.mpr c28
             subst c28
             have H1 : (impl_kept.l1 k2 l1 l2 x8_1 x9_2 y409 l0 (l0.length : Int) (wrap64 (x40_2 + 1))) = some (r1, r2) := by rw [if_neg (show ¬ (false = true) by decide)] at H; exact H
             clear H
             have H := H1
             clear H1
             have H' := Aside0.mk H
             clear H
             have p414 : 0 ≤ (x40_2 : Int) := of_decide_eq_true (by first | (with_reducible assumption) | assumption)
             have q414 : x40_2 < (l0.length : Int) := of_decide_eq_true (by first | (with_reducible assumption) | assumption)
             obtain ⟨ad414, e414, hx414_0, hx414_1, hx414_2, hx414_3⟩ := at_T46 HR0.out x40_2 p414 q414
             (try rw [← Nbq27.out] at hx414_0)
             cases e414
             replace hx414_0 := (HB.out.cell (World.block_lt_of_cell? w _ hx414_0)).trans hx414_0
             replace hx414_1 := (HB.out.cell (World.block_lt_of_cell? w _ hx414_1)).trans hx414_1
             replace hx414_2 := (HB.out.cell (World.block_lt_of_cell? w _ hx414_2)).trans hx414_2
             replace hx414_3 := (HB.out.cell (World.block_lt_of_cell? w _ hx414_3)).trans hx414_3
             replace p414 := eq_true p414
             replace q414 := eq_true q414
             go_wp2_with (first | ((with_reducible refine gate_dst (N := 15) rfl ?_); refine box_event ?hg (N := 15) ?hd (cs := #[.bool false, .int .i64 0, .int .i64 0, .int .i64 0]) (t := 46) ?hr ?_; (case hd => rfl); (case hg => rfl); (case hr => first | (go_simp; done) | (go_simp; rfl)); intro gb415 hg w44 hbox hb; have n0_ := Aside0.mk (Kd.R_below (pr_ HO_8.out) hb); have n1_ := Aside0.mk (Kd.R_below (Kd.R_elderB (pr_ HO_9.out) gb415 (Nat.le_of_eq hg.symm)) hb); have n2_ := Aside0.mk (Kd.R_below (pr_ HO_10.out) hb); have n3_ := Aside0.mk (below_step pb_ hb); have n4_ := Aside0.mk (hbox); have n5_ := Aside0.mk ((by rw [hg]; exact (below_size pb_) : w.heap.size ≤ gb415)); have n6_ := Aside0.mk ((by rw [hg]; exact (below_size pb_) : w.heap.size ≤ gb415)); clear HO_8; clear HO_9; clear HO_10; clear HB; have HO_8 := n0_; have HO_9 := n1_; have HO_10 := n2_; have HB := n3_; have BK415 := n4_; have GW415 := n5_; have GE415 := n6_; clear n0_ n1_ n2_ n3_ n4_ n5_ n6_; clear hb hbox hg; have hcz45_0 := bc0 BK415.out; have hcz45_1 := bc1 BK415.out; have hcz45_2 := bc2 BK415.out; have hcz45_3 := bc3 BK415.out; have hfz45_0 := blk_frozen BK415.out 0; have hfz45_1 := blk_frozen BK415.out 1; have hfz45_2 := blk_frozen BK415.out 2; have hfz45_3 := blk_frozen BK415.out 3; have p416 : 0 ≤ (x40_2 : Int) := of_decide_eq_true (by first | (with_reducible assumption) | assumption); have q416 : x40_2 < (l2.length : Int) := of_decide_eq_true (by first | (with_reducible assumption) | assumption); obtain ⟨ad416, e416, hx416_0⟩ := Kd.at_bool HR2.out x40_2 p416 q416; (try rw [← Nbq27.out] at hx416_0); cases e416; have hn416_0 : ad416.block ≠ gb415 := Nat.ne_of_lt (Nat.lt_of_lt_of_le (by have := World.block_lt_of_cell? _ _ hx416_0; first | rwa [add_block] at this | exact this) GW415.out); have hn416_1 : ad416.block ≠ gb415 := Nat.ne_of_lt (Nat.lt_of_lt_of_le (by have := World.block_lt_of_cell? _ _ hx416_0; first | rwa [add_block] at this | exact this) GW415.out); have hn416_2 : ad416.block ≠ gb415 := Nat.ne_of_lt (Nat.lt_of_lt_of_le (by have := World.block_lt_of_cell? _ _ hx416_0; first | rwa [add_block] at this | exact this) GW415.out); have hn416_3 : ad416.block ≠ gb415 := Nat.ne_of_lt (Nat.lt_of_lt_of_le (by have := World.block_lt_of_cell? _ _ hx416_0; first | rwa [add_block] at this | exact this) GW415.out); replace hx416_0 := (HB.out.cell (World.block_lt_of_cell? w _ hx416_0)).trans hx416_0; replace hx416_0 := (cell_far (p := ⟨gb415, 0, none⟩) (by first | (rw [add_block]; exact hn416_0) | (show (Addr.add _ _).block ≠ _; rw [add_block]; exact hn416_0) | exact hn416_0) (.bool ((rd_T46 l0 x40_2).f0))).trans hx416_0; replace hx416_0 := (cell_far (p := ⟨gb415, 1, none⟩) (by first | (rw [add_block]; exact hn416_1) | (show (Addr.add _ _).block ≠ _; rw [add_block]; exact hn416_1) | exact hn416_1) (.int .i64 ((rd_T46 l0 x40_2).f1))).trans hx416_0; replace hx416_0 := (cell_far (p := ⟨gb415, 2, none⟩) (by first | (rw [add_block]; exact hn416_2) | (show (Addr.add _ _).block ≠ _; rw [add_block]; exact hn416_2) | exact hn416_2) (.int .i64 ((rd_T46 l0 x40_2).f2))).trans hx416_0; replace hx416_0 := (cell_far (p := ⟨gb415, 3, none⟩) (by first | (rw [add_block]; exact hn416_3) | (show (Addr.add _ _).block ≠ _; rw [add_block]; exact hn416_3) | exact hn416_3) (.int .i64 ((rd_T46 l0 x40_2).f3))).trans hx416_0; clear hn416_0; clear hn416_1; clear hn416_2; clear hn416_3; replace p416 := eq_true p416; replace q416 := eq_true q416))
             go_roundg k2
             case measure => have := HK1.out; have := HK2.out; omega
             case rel => exact ⟨(x9_2), (wrap64 (x40_2 + 1)), (by first | rfl | (simp; done) | (simp [*]; done)), H', ⟨by have := HK1.out; have := HK2.out; omega⟩, ⟨by (with_reducible repeat (first | apply Kd.R_alloc | apply Kd.R_drewN | apply Kd.R_drew)); exact Kd.R_mono (Kd.R_far (p := ⟨gb415, 3, none⟩) (Kd.R_far (p := ⟨gb415, 2, none⟩) (Kd.R_far (p := ⟨gb415, 1, none⟩) (Kd.R_far (p := ⟨gb415, 0, none⟩) (Kd.R_types HO_8.out BK415.out (by decide)) (fun _ hk => hk.2) (.bool ((rd_T46 l0 x40_2).f0))) (fun _ hk => hk.2) (.int .i64 ((rd_T46 l0 x40_2).f1))) (fun _ hk => hk.2) (.int .i64 ((rd_T46 l0 x40_2).f2))) (fun _ hk => hk.2) (.int .i64 ((rd_T46 l0 x40_2).f3))) (fun _ hk => hk.1)⟩, ⟨by (with_reducible repeat (first | apply Kd.R_alloc | apply Kd.R_drewN | apply Kd.R_drew)); exact Kd.R_mono (Kd.R_far (p := ⟨gb415, 3, none⟩) (Kd.R_far (p := ⟨gb415, 2, none⟩) (Kd.R_far (p := ⟨gb415, 1, none⟩) (Kd.R_far (p := ⟨gb415, 0, none⟩) (Kd.R_mono HO_9.out (fun k_ hk => (⟨hk, hk.2⟩ : _ ∧ k_ ≠ gb415))) (fun _ hk => hk.2) (.bool ((rd_T46 l0 x40_2).f0))) (fun _ hk => hk.2) (.int .i64 ((rd_T46 l0 x40_2).f1))) (fun _ hk => hk.2) (.int .i64 ((rd_T46 l0 x40_2).f2))) (fun _ hk => hk.2) (.int .i64 ((rd_T46 l0 x40_2).f3))) (fun _ hk => trivial)⟩, ⟨by (with_reducible repeat (first | apply Kd.R_alloc | apply Kd.R_drewN | apply Kd.R_drew)); exact Kd.R_mono (Kd.R_far (p := ⟨gb415, 3, none⟩) (Kd.R_far (p := ⟨gb415, 2, none⟩) (Kd.R_far (p := ⟨gb415, 1, none⟩) (Kd.R_far (p := ⟨gb415, 0, none⟩) (Kd.R_types HO_10.out BK415.out (by decide)) (fun _ hk => hk.2) (.bool ((rd_T46 l0 x40_2).f0))) (fun _ hk => hk.2) (.int .i64 ((rd_T46 l0 x40_2).f1))) (fun _ hk => hk.2) (.int .i64 ((rd_T46 l0 x40_2).f2))) (fun _ hk => hk.2) (.int .i64 ((rd_T46 l0 x40_2).f3))) (fun _ hk => hk.1)⟩, ⟨pb_⟩⟩
           ·rw [if_neg c26] at H
            exact absurd H (by simp)
          ·rw [if_neg c25] at H
           exact absurd H (by simp)
         ·rw [if_neg c24] at H
          exact absurd H (by simp)
        ·rw [if_neg c23] at H
         have c23b0 : decide (x40_2 < (l0.length : Int)) = false := decide_eq_false c23
         clear c23
         have H' := Aside0.mk H
         clear H
         go_wp2
         go_loopg [10, 72] k2 (fun kq v10 v72 w' => ∃ (x10_3 : List Int) (x72_3 : Int), v72 = .int .i64 x72_3 ∧ Aside0 (impl_kept.l2 kq x8_1 x9_2 x10_3 l1 (l1.length : Int) x72_3 = some (r1, r2)) ∧ Aside0 (kq ≤ k2) ∧ Aside0 (Kd.R (Kd.int .i64) 3 w' w.heap.size (fun k_ => some k_ ≠ (v10 : Value).ownBlock) v404 x8_1) ∧ Aside0 (Kd.R k46 46 w' w.heap.size (fun _ => True) u9 x9_2) ∧ Aside0 (Kd.R (Kd.int .i64) 3 w' w.heap.size (fun k_ => some k_ ≠ (v404 : Value).ownBlock) v10 x10_3) ∧ Aside0 (Below w.heap.size w w'))
         case atStart => exact ⟨(y409), (0), (by first | rfl | (simp; done) | (simp [*]; done)), H', ⟨Nat.le_refl _⟩, ⟨by (with_reducible repeat (first | apply Kd.R_alloc | apply Kd.R_drewN | apply Kd.R_drew)); exact HO_8.out⟩, ⟨by (with_reducible repeat (first | apply Kd.R_alloc | apply Kd.R_drewN | apply Kd.R_drew)); exact HO_9.out⟩, ⟨by (with_reducible repeat (first | apply Kd.R_alloc | apply Kd.R_drewN | apply Kd.R_drew)); exact HO_10.out⟩, ⟨pb_⟩⟩
         case round =>
          clear H'
          try clear c1
          try clear p1
          try clear q1
          try clear hx1
          try clear c2
          try clear p2
          try clear q2
          try clear c3
          try clear c4
          try clear c4b0
          try clear c4b1
          try clear p4
          try clear q4
          try clear hx4
          try clear c5
          try clear c5b0
          try clear c5b1
          try clear c6
          try clear p6
          try clear c12
          try clear c12b0
          try clear c13
          try clear c13b0
          try clear c14
          try clear c14b0
          try clear c15
          try clear c15b0
          try clear p16
          try clear q16
          try clear hx16
          try clear hf16
          try clear q17
          try clear c18
          try clear c23
          try clear c23b0
          try clear c24
          try clear c24b0
          try clear c25
          try clear c25b0
          try clear c26
          try clear c26b0
          try clear q27
          try clear c28
          try clear q29
          try clear c30
          try clear c31
          try clear c35
          try clear c35b0
          try clear c36
          try clear c36b0
          try clear c37
          try clear c37b0
          try clear c38
          try clear c38b0
          try clear c39
          try clear p41
          try clear q41
          try clear hx41
          try clear p42
          try clear q42
          try clear hx42
          try clear hcz33_0
          try clear hcz33_1
          try clear hcz33_2
          try clear hcz33_3
          try clear hcz41_0
          try clear hcz41_1
          try clear hcz41_2
          try clear hcz41_3
          try clear hcz45_0
          try clear hcz45_1
          try clear hcz45_2
          try clear hcz45_3
          try clear hfz33_0
          try clear hfz33_1
          try clear hfz33_2
          try clear hfz33_3
          try clear hfz41_0
          try clear hfz41_1
          try clear hfz41_2
          try clear hfz41_3
          try clear hfz45_0
          try clear hfz45_1
          try clear hfz45_2
          try clear hfz45_3
          try clear hx16_0
          try clear hx412_0
          try clear hx414_0
          try clear hx414_1
          try clear hx414_2
          try clear hx414_3
          try clear hx416_0
          try clear hx420_0
          try clear hx421_0
          try clear p1
          try clear p16
          try clear p2
          try clear p4
          try clear p412
          try clear p414
          try clear p416
          try clear p420
          try clear p421
          try clear p6
          try clear q1
          try clear q16
          try clear q17
          try clear q4
          try clear q412
          try clear q414
          try clear q416
          try clear q420
          try clear q421
          obtain ⟨x10_3, x72_3, rfl, HA, HK3, HO_8, HO_9, HO_10, HB⟩ := hrel
          cases gk with
          | zero => exact absurd HA.out (by simp [impl_kept.l2])
          | succ k3 =>
           have H := HA.out
           clear HA
           simp only [impl_kept.l2] at H
           by_cases c46 : x72_3 < (l1.length : Int)
           ·rw [if_pos c46] at H
            have c46b0 : decide (x72_3 < (l1.length : Int)) = true := decide_eq_true c46
            clear c46
            by_cases c47 : 0 ≤ x72_3
            ·rw [if_pos c47] at H
             have c47b0 : decide (0 ≤ x72_3) = true := decide_eq_true c47
             clear c47
             by_cases c48 : x72_3 < (l1.length : Int)
             ·rw [if_pos c48] at H
              have c48b0 : decide (x72_3 < (l1.length : Int)) = true := decide_eq_true c48
              clear c48
              by_cases c49 : 0 ≤ (rd l1 x72_3)
              ·rw [if_pos c49] at H
               have c49b0 : decide (0 ≤ (rd l1 x72_3)) = true := decide_eq_true c49
               clear c49
               by_cases c50 : (rd l1 x72_3) < (x8_1.length : Int)
               ·rw [if_pos c50] at H
                have c50b0 : decide ((rd l1 x72_3) < (x8_1.length : Int)) = true := decide_eq_true c50
                clear c50
                by_cases c51 : x10_3.length < 17592186044416
                ·rw [if_pos c51] at H
                 have LMc51 := Aside0.mk c51
                 clear c51
                 obtain ⟨y427, hy427⟩ : ∃ y_ : List Int, y_ = (x10_3 ++ [rd x8_1 (rd l1 x72_3)]) := ⟨_, rfl⟩
                 replace H : (impl_kept.l2 k3 x8_1 x9_2 y427 l1 (l1.length : Int) (wrap64 (x72_3 + 1))) = some (r1, r2) := by first | (rw [hy427]; with_reducible exact H) | (have H2_ := (Option.bind_some _ _).symm.trans H; rw [hy427]; with_reducible exact H2_) | (have H2_ := (Option.bind_some _ _).symm.trans H; with_reducible exact H2_) | with_reducible exact H | (rw [hy427]; exact H) | exact H
                 have Ny427 := Aside0.mk hy427
                 clear hy427
                 have H' := Aside0.mk H
                 clear H
                 have p425 : 0 ≤ (x72_3 : Int) := of_decide_eq_true (by first | (with_reducible assumption) | assumption)
                 have q425 : x72_3 < (l1.length : Int) := of_decide_eq_true (by first | (with_reducible assumption) | assumption)
                 obtain ⟨ad425, e425, hx425_0⟩ := Kd.at_int HR1.out x72_3 p425 q425
                 cases e425
                 replace hx425_0 := (HB.out.cell (World.block_lt_of_cell? w _ hx425_0)).trans hx425_0
                 replace p425 := eq_true p425
                 replace q425 := eq_true q425
                 obtain ⟨Ao52, co52, eo52⟩ := Kd.R_slice HO_8.out
                 subst eo52
                 have p426 : 0 ≤ ((rd l1 x72_3) : Int) := of_decide_eq_true (by first | (with_reducible assumption) | assumption)
                 have q426 : (rd l1 x72_3) < (x8_1.length : Int) := of_decide_eq_true (by first | (with_reducible assumption) | assumption)
                 obtain ⟨ad426, e426, hx426_0⟩ := Kd.at_int (Kd.R_reads' HO_8.out).2.2 (rd l1 x72_3) p426 q426
                 cases e426
                 replace p426 := eq_true p426
                 replace q426 := eq_true q426
                 go_wp2_with (first | ((with_reducible refine gate_builtin (b := .append) (xs := #[.tmp 76, .tmp 81]) rfl ?_); at_builtin; refine Kd.R_append (Kd.int .i64) (w0 := w) w.heap.size rfl (.tmp 76) (.tmp 81) 23 3 (.int .i64 0) 8 rfl Try.underlying23 info3 rfl (by decide) (by omega) u10 x10_3 (rd x8_1 (rd l1 x72_3)) [.int .i64 (rd x8_1 (rd l1 x72_3))] (fun k_ => some k_ ≠ (.slice (some ad426) x8_1.length co52 : Value).ownBlock) (fun _ => False) rfl rfl ?aP (fun _ hk => hk.elim) ?aF ?aO ?aB ?aS ?aL ?_; (case aP => exact rfl); (case aB => exact pb_); (case aF => exact (fun k_ hk => Kd.fresh' (Kd.R_lt (pr_ HO_8.out)) k_ hk)); (case aO => exact (pr_ HO_10.out)); (case aS => exact (below_size pb_)); (case aL => have := LMc51.out; omega); intro v428 w53 ho hb hg hat; rw [← Ny427.out] at ho; have n0_ := Aside0.mk (Kd.R_after (ok := (fun _ => True)) (by (with_reducible repeat (first | apply Kd.R_alloc | apply Kd.R_drewN | apply Kd.R_drew)); exact Kd.R_mono HO_8.out (fun _ hk => ⟨trivial, hk⟩)) hg hat); have n1_ := Aside0.mk (Kd.R_over' (pr_ HO_9.out) (Kd.R_typed (pr_ HO_10.out)) (by decide) hg); have n2_ := Aside0.mk (hb); have n3_ := Aside0.mk (ho); clear HO_8; clear HO_9; clear HB; clear HO_10; have HO_8 := n0_; have HO_9 := n1_; have HB := n2_; have HO429 := n3_; clear n0_ n1_ n2_ n3_; clear ho hb hg hat))
                 go_roundg k3
                 case measure => have := HK1.out; have := HK2.out; have := HK3.out; omega
                 case rel => exact ⟨(y427), (wrap64 (x72_3 + 1)), (by first | rfl | (simp; done) | (simp [*]; done)), H', ⟨by have := HK1.out; have := HK2.out; have := HK3.out; omega⟩, ⟨by (with_reducible repeat (first | apply Kd.R_alloc | apply Kd.R_drewN | apply Kd.R_drew)); exact Kd.R_mono HO_8.out (fun _ hk => hk.2)⟩, ⟨by (with_reducible repeat (first | apply Kd.R_alloc | apply Kd.R_drewN | apply Kd.R_drew)); exact HO_9.out⟩, ⟨by (with_reducible repeat (first | apply Kd.R_alloc | apply Kd.R_drewN | apply Kd.R_drew)); exact HO429.out⟩, ⟨pb_⟩⟩
                ·rw [if_neg c51] at H
                 exact absurd H (by simp)
               ·rw [if_neg c50] at H
                exact absurd H (by simp)
              ·rw [if_neg c49] at H
               exact absurd H (by simp)
             ·rw [if_neg c48] at H
              exact absurd H (by simp)
            ·rw [if_neg c47] at H
             exact absurd H (by simp)
           ·rw [if_neg c46] at H
            have c46b0 : decide (x72_3 < (l1.length : Int)) = false := decide_eq_false c46
            clear c46
            simp only [Option.some.injEq, Prod.mk.injEq] at H
            obtain ⟨rfl, rfl⟩ := H
            go_wp2
            go_ret2
            exact ⟨_, _, by first | rfl | (simp [errW_none, errW_some] <;> rfl) | (simp [*, errW_none, errW_some] <;> rfl), by (with_reducible repeat (first | apply Kd.R_alloc | apply Kd.R_drewN | apply Kd.R_drew)); exact HO_9.out, by (with_reducible repeat (first | apply Kd.R_alloc | apply Kd.R_drewN | apply Kd.R_drew)); exact Kd.R_mono HO_10.out (fun _ hk => trivial), pb_⟩
  ·rw [if_neg c5] at H
   exact absurd H (by simp)
 ·rw [if_neg c4] at H
  exact absurd H (by simp)
def impl_Young_stay.f (k : Nat) (a0_0 : Int) (l0_1 : List (S46)) (l0_2 : List Int) (l0_3 : List Int) (l1 : List Bool) : Option (Int × (List (S46)) × List Int × List Int) := (impl_kept.f k l0_1 l0_2 l1).bind fun bt432 => (some ((bt432.1.length : Int), bt432.1, bt432.2, ([] : List Int)))
theorem impl_Young_stay.mono : ∀ a0 a1 a2 a3 a4 k, LeO (impl_Young_stay.f k a0 a1 a2 a3 a4) (impl_Young_stay.f (k + 1) a0 a1 a2 a3 a4) := by
 intro a0 a1 a2 a3 a4 k
 unfold impl_Young_stay.f
 repeat' first
   | (with_reducible exact impl_kept.mono _ _ _ _)
   | (with_reducible exact LeO.refl _)
   | (with_reducible exact LeO.none _)
   | (with_reducible refine LeO.ite ?_ ?_)
   | (with_reducible refine LeO.bind ?_ (fun _ => ?_))
   | exact impl_kept.mono _ _ _ _
   | exact LeO.none _
   | refine LeO.ite ?_ ?_
   | refine LeO.bind ?_ (fun _ => ?_)
set_option maxHeartbeats 8000000 in
set_option maxRecDepth 100000 in
theorem impl_Young_stay.calls (k : Nat) (a0_0 : Int) (A0_1 : Option Addr) (c0_1 : Nat) (l0_1 : List (S46)) (A0_2 : Option Addr) (c0_2 : Nat) (l0_2 : List Int) (A0_3 : Option Addr) (c0_3 : Nat) (l0_3 : List Int) (A1 : Option Addr) (c1 : Nat) (l1 : List Bool) (r1 : Int) (r2 : List (S46)) (r3 : List Int) (r4 : List Int) (w : World) (hr0_1 : Kd.C k46 w A0_1 l0_1.length l0_1) (hc0_1 : l0_1.length ≤ c0_1) (hr0_2 : Kd.C (Kd.int .i64) w A0_2 l0_2.length l0_2) (hc0_2 : l0_2.length ≤ c0_2) (hr0_3 : Kd.C (Kd.int .i64) w A0_3 l0_3.length l0_3) (hc0_3 : l0_3.length ≤ c0_3) (hr1 : Kd.C Kd.bool w A1 l1.length l1) (hc1 : l1.length ≤ c1) (h : impl_Young_stay.f k a0_0 l0_1 l0_2 l0_3 l1 = some (r1, r2, r3, r4)) :
  Calls Try.prog 59 #[.agg #[.int .i64 a0_0, .slice A0_1 l0_1.length c0_1, .slice A0_2 l0_2.length c0_2, .slice A0_3 l0_3.length c0_3], .slice A1 l1.length c1] w fun e w' => ∃ v1_ v2_ v3_ : Value, e = .returned (.agg #[.int .i64 r1, v1_, v2_, v3_]) ∧ Kd.R k46 46 w' w.heap.size (fun _ => True) v1_ r2 ∧ Kd.R (Kd.int .i64) 3 w' w.heap.size (fun k_ => some k_ ≠ (v3_ : Value).ownBlock) v2_ r3 ∧ Kd.R (Kd.int .i64) 3 w' w.heap.size (fun k_ => some k_ ≠ (v2_ : Value).ownBlock) v3_ r4 ∧ Below w.heap.size w w' := by
 have hu30 := Try.underlying30
 have HR0_1 := Aside0.mk hr0_1
 have HC0_1 := Aside0.mk hc0_1
 clear hr0_1 hc0_1
 have HR0_2 := Aside0.mk hr0_2
 have HC0_2 := Aside0.mk hc0_2
 clear hr0_2 hc0_2
 have HR0_3 := Aside0.mk hr0_3
 have HC0_3 := Aside0.mk hc0_3
 clear hr0_3 hc0_3
 have HR1 := Aside0.mk hr1
 have HC1 := Aside0.mk hc1
 clear hr1 hc1
 have HB := Aside0.mk (Below.refl w.heap.size w)
 have H : ((impl_kept.f k l0_1 l0_2 l1).bind fun bt432 => (some ((bt432.1.length : Int), bt432.1, bt432.2, ([] : List Int)))) = some (r1, r2, r3, r4) := h
 clear h
 replace H := Option.bind_eq_some_iff.mp H
 obtain ⟨⟨t432, t433⟩, A30, H⟩ := H
 replace H : (some ((t432.length : Int), t432, t433, ([] : List Int))) = some (r1, r2, r3, r4) := H
 have A3 := Aside0.mk A30
 clear A30
 simp only [Option.some.injEq, Prod.mk.injEq] at H
 obtain ⟨rfl, rfl, rfl, rfl⟩ := H
 go_enter Try.func59, Try.ntmps59
 go_wp2_with (first | ((with_reducible refine gate_dst (N := 2) rfl ?_); refine box_event ?hg (N := 2) ?hd (cs := #[.int .i64 a0_0, .slice A0_1 l0_1.length c0_1, .slice A0_2 l0_2.length c0_2, .slice A0_3 l0_3.length c0_3]) (t := 30) ?hr ?_; (case hd => rfl); (case hg => rfl); (case hr => first | (go_simp; done) | (go_simp; rfl)); intro gb430 hg w4 hbox hb; have n0_ := Aside0.mk (below_step pb_ hb); have n1_ := Aside0.mk (hbox); have n2_ := Aside0.mk ((by rw [hg]; exact (below_size pb_) : w.heap.size ≤ gb430)); have n3_ := Aside0.mk ((by rw [hg]; exact (below_size pb_) : w.heap.size ≤ gb430)); clear HB; have HB := n0_; have BK430 := n1_; have GW430 := n2_; have GE430 := n3_; clear n0_ n1_ n2_ n3_; clear hb hbox hg) | ((with_reducible refine gate_dst (N := 4) rfl ?_); refine box_event ?hg (N := 4) ?hd (cs := #[.int .i64 0, .slice none 0 0, .slice none 0 0, .slice none 0 0]) (t := 30) ?hr ?_; (case hd => rfl); (case hg => rfl); (case hr => first | (go_simp; done) | (go_simp; rfl)); intro gb431 hg w5 hbox hb; have n0_ := Aside0.mk (blk_below (pk_ BK430.out) hb); have n1_ := Aside0.mk (below_step pb_ hb); have n2_ := Aside0.mk (hbox); have n3_ := Aside0.mk ((by rw [hg]; exact (below_size pb_) : w.heap.size ≤ gb431)); have n4_ := Aside0.mk ((by rw [hg]; exact (below_size pb_) : w.heap.size ≤ gb431)); have n5_ := Aside0.mk ((by rw [hg]; exact Nat.ne_of_lt (blk_lt (pk_ BK430.out)) : gb430 ≠ gb431)); have n6_ := Aside0.mk ((by rw [hg]; exact Nat.ne_of_gt (blk_lt (pk_ BK430.out)) : gb431 ≠ gb430)); clear BK430; clear HB; have BK430 := n0_; have HB := n1_; have BK431 := n2_; have GW431 := n3_; have GE431 := n4_; have NB430_431 := n5_; have NB431_430 := n6_; clear n0_ n1_ n2_ n3_ n4_ n5_ n6_; clear hb hbox hg; have hnb6 := NB430_431.out; have hnc6 := NB431_430.out; have hcz7_0 := bc0 BK430.out; have hcz7_1 := bc1 BK430.out; have hcz7_2 := bc2 BK430.out; have hcz7_3 := bc3 BK430.out; have hfz7_0 := blk_frozen BK430.out 0; have hfz7_1 := blk_frozen BK430.out 1; have hfz7_2 := blk_frozen BK430.out 2; have hfz7_3 := blk_frozen BK430.out 3) | ((with_reducible refine gate_callee (f := 65) rfl ?_); refine goesL_ (some 13) rfl rfl Try.func65 (by kernel_rfl) rfl #[.slice A0_1 l0_1.length c0_1, .slice A0_2 l0_2.length c0_2, .slice A1 l1.length c1] rfl (by (try simp only [List.map_toArray, List.map_cons, List.map_nil]); first | done | rfl | (simp only [List.length_drop, List.length_take]; rfl)) ?_; (with_reducible refine (impl_kept.calls k _ _ l0_1 _ _ l0_2 _ _ l1 t432 t433 _ ?side1 ?side2 ?side3 ?side4 ?side5 ?side6 A3.out).mono ?_); (case side1 => exact pc_ (Kd.C_below HR0_1.out HB.out)); (case side2 => exact HC0_1.out); (case side3 => exact pc_ (Kd.C_below HR0_2.out HB.out)); (case side4 => exact HC0_2.out); (case side5 => exact pc_ (Kd.C_below HR1.out HB.out)); (case side6 => exact HC1.out); rintro e w8 ⟨v434, v436, rfl, ho0, ho1, hb⟩; refine ⟨_, rfl, ?_⟩; have n0_ := Aside0.mk (Kd.R_lower ho0 (below_size pb_)); have n1_ := Aside0.mk (Kd.R_lower ho1 (below_size pb_)); have n2_ := Aside0.mk (blk_below (pk_ BK430.out) hb); have n3_ := Aside0.mk (blk_below (pk_ BK431.out) hb); have n4_ := Aside0.mk (below_step pb_ hb); clear BK430; clear BK431; clear HB; have HO435 := n0_; have HO437 := n1_; have BK430 := n2_; have BK431 := n3_; have HB := n4_; clear n0_ n1_ n2_ n3_ n4_; (try clear hb); (try clear hb2); (try clear hk); (try clear hi); (try clear ho0); (try clear ho1); obtain ⟨Ao9, co9, eo9⟩ := Kd.R_slice HO435.out; subst eo9; obtain ⟨Ao10, co10, eo10⟩ := Kd.R_slice HO437.out; subst eo10; have hcz11_0 := bc0 BK431.out; have hcz11_1 := bc1 BK431.out; have hcz11_2 := bc2 BK431.out; have hcz11_3 := bc3 BK431.out; have hfz11_0 := blk_frozen BK431.out 0; have hfz11_1 := blk_frozen BK431.out 1; have hfz11_2 := blk_frozen BK431.out 2; have hfz11_3 := blk_frozen BK431.out 3))
 refine bodyPost_ret (results_cell_row rfl _ _ gb431 30 #[.int .i64 (t432.length : Int), .slice Ao9 t432.length co9, .slice Ao10 t433.length co10, .slice none 0 0] (0, 0) _ rfl (by (with_reducible repeat (first | refine blk_drewN ?_ _ | refine blk_drew ?_ | refine blk_alloc ?_ _)); refine blk_put (cs := #[.int .i64 (t432.length : Int), .slice Ao9 t432.length co9, .slice Ao10 t433.length co10, .slice none 0 0]) ?_ 3 _ rfl; (with_reducible repeat (first | refine blk_drewN ?_ _ | refine blk_drew ?_ | refine blk_alloc ?_ _)); refine blk_put (cs := #[.int .i64 (t432.length : Int), .slice Ao9 t432.length co9, .slice none 0 0, .slice none 0 0]) ?_ 2 _ rfl; (with_reducible repeat (first | refine blk_drewN ?_ _ | refine blk_drew ?_ | refine blk_alloc ?_ _)); refine blk_put (cs := #[.int .i64 (t432.length : Int), .slice none 0 0, .slice none 0 0, .slice none 0 0]) ?_ 1 _ rfl; (with_reducible repeat (first | refine blk_drewN ?_ _ | refine blk_drew ?_ | refine blk_alloc ?_ _)); refine blk_put (cs := #[.int .i64 0, .slice none 0 0, .slice none 0 0, .slice none 0 0]) ?_ 0 _ rfl; (with_reducible repeat (first | refine blk_drewN ?_ _ | refine blk_drew ?_ | refine blk_alloc ?_ _)); exact BK431.out) Try.underlying30 rfl (by kernel_rfl)) rfl ?_
 exact ⟨_, _, _, by first | rfl | (simp [errW_none, errW_some] <;> rfl) | (simp [*, errW_none, errW_some] <;> rfl), by (with_reducible repeat (first | apply Kd.R_alloc | apply Kd.R_drewN | apply Kd.R_drew)); exact Kd.R_mono (Kd.R_far (p := ⟨gb431, 3, none⟩) (Kd.R_far (p := ⟨gb431, 2, none⟩) (Kd.R_far (p := ⟨gb431, 1, none⟩) (Kd.R_far (p := ⟨gb431, 0, none⟩) (Kd.R_types HO435.out BK431.out (by decide)) (fun _ hk => hk.2) (.int .i64 (t432.length : Int))) (fun _ hk => hk.2) (.slice Ao9 t432.length co9)) (fun _ hk => hk.2) (.slice Ao10 t433.length co10)) (fun _ hk => hk.2) (.slice none 0 0)) (fun _ hk => trivial), by (with_reducible repeat (first | apply Kd.R_alloc | apply Kd.R_drewN | apply Kd.R_drew)); exact Kd.R_mono (Kd.R_far (p := ⟨gb431, 3, none⟩) (Kd.R_far (p := ⟨gb431, 2, none⟩) (Kd.R_far (p := ⟨gb431, 1, none⟩) (Kd.R_far (p := ⟨gb431, 0, none⟩) (Kd.R_types HO437.out BK431.out (by decide)) (fun _ hk => hk.2) (.int .i64 (t432.length : Int))) (fun _ hk => hk.2) (.slice Ao9 t432.length co9)) (fun _ hk => hk.2) (.slice Ao10 t433.length co10)) (fun _ hk => hk.2) (.slice none 0 0)) (fun _ hk => (by simp [Value.ownBlock])), by first | exact Kd.R_nil _ _ _ _ _ | exact Kd.N_nil _ _ _ _ _ | exact Kd.V_nil _ _ _ _ _ | exact Kd.Q_nil _ _ _ _ _ | exact Kd.S_nil _ _ _ _ _, pb_⟩
theorem contains_at (l : List Int) (x : Int) (h : l.length ≤ 9223372036854775807) : ∃ k, slices_Contains_int_int.f k l x = some (decide (x ∈ l)) := by
 have key : ∀ d i : Nat, i + d = l.length → ∃ (r : Int) (k : Nat), slices_Index_int_int.l0 k l x (l.length : Int) (i : Int) = some r ∧ decide (r ≥ 0) = decide (x ∈ l.drop i) := by
  intro d
  induction d with
  | zero =>
   intro i hi
   refine ⟨-1, 1, ?_, ?_⟩
   ·simp only [slices_Index_int_int.l0, if_neg (show ¬ (i : Int) < (l.length : Int) by omega)]
   ·rw [List.drop_eq_nil_of_le (by omega)]; simp
  | succ d ih =>
   intro i hi
   have hd0 : l.drop i = rd l (i : Int) :: l.drop (i + 1) := by
    rw [List.drop_eq_getElem_cons (show i < l.length by omega)]
    simp [rd, List.getD_eq_getElem?_getD, List.getElem?_eq_getElem (show i < l.length by omega)]
   by_cases e : x = rd l (i : Int)
   ·refine ⟨(i : Int), 1, ?_, ?_⟩
    ·simp only [slices_Index_int_int.l0, if_pos (show (i : Int) < (l.length : Int) by omega), if_pos (show (0 : Int) ≤ (i : Int) by omega), if_pos e]
    ·rw [hd0]; simp [← e]
   ·obtain ⟨r, k, hr, hd⟩ := ih (i + 1) (by omega)
    refine ⟨r, k + 1, ?_, ?_⟩
    ·simp only [slices_Index_int_int.l0, if_pos (show (i : Int) < (l.length : Int) by omega), if_pos (show (0 : Int) ≤ (i : Int) by omega), if_neg e,
      show wrap64 ((i : Int) + 1) = ((i + 1 : Nat) : Int) from by unfold wrap64; omega]
     exact hr
    ·rw [hd0, hd]; simp [e]
 obtain ⟨r, k, hr, hd⟩ := key l.length 0 (by omega)
 refine ⟨k, ?_⟩
 unfold slices_Contains_int_int.f slices_Index_int_int.f
 rw [show ((0 : Nat) : Int) = 0 from rfl] at hr
 rw [hr, Option.bind_some, hd]
 simp
/-- The function value that goes on from young cells, and from roots; lb: where its copy of the heap lies. -/
@[reducible] def fv_young (lb : Array Value) (o : Int) (r : List Int) : FV := ⟨60, lb, fun x => decide (x ≥ o) || decide (x ∈ r), enters_ Try.func60 (by kernel_rfl) rfl⟩
/-- What is marked asks only what the function value answers. -/
theorem reached_lb {v v' : FV} (h : v.p = v'.p) (k : Nat) (l0 : List S46) (l1 : List Int) : impl_reached.f k l0 l1 v = impl_reached.f k l0 l1 v' := by
 have key : ∀ k (c : List S46) (o : List Bool) (p : List Int), impl_reached.l0 v k c o p = impl_reached.l0 v' k c o p := by
  intro k
  induction k with
  | zero => intro c o p; rfl
  | succ k ih => intro c o p; simp only [impl_reached.l0, FV.f, h, ih]
 unfold impl_reached.f
 simp only [key]
set_option maxHeartbeats 8000000 in
set_option maxRecDepth 100000 in
theorem fv_young_ok {w : World} {b : Nat} {o : Int} {V1 V3 : Value} {A2 : Option Addr} {c2 : Nat} {r : List Int} (hk : w.heap[b]? = some (.cells #[.int .i64 o, V1, .slice A2 r.length c2, V3] 30 (0, 0)))
  (hr : Kd.C (Kd.int .i64) w A2 r.length r) (hc : r.length ≤ c2) : FV.ok (fv_young #[.pointer (some ⟨b, 0, none⟩)] o r) w := fun W x hB => by
 have hk' := blk_below hk hB
 have c0 : W.cell? ⟨b, 0, none⟩ = some (.int .i64 o) := (blk_cell hk' 0).trans rfl
 have c2_ : W.cell? ⟨b, 2, none⟩ = some (.slice A2 r.length c2) := (blk_cell hk' 2).trans rfl
 have f0 := blk_frozen hk' 0
 have f2 := blk_frozen hk' 2
 obtain ⟨k, hf⟩ := contains_at r x hr.2.1
 have HC := Aside0.mk (slices_Contains_int_int.calls k A2 c2 r x _ W (Kd.C_below hr hB) hc hf)
 clear hk hk' hB hr hf
 by_cases ho : x ≥ o
 ·go_enter Try.func60, Try.ntmps60
  go_wp2_with fail
  go_ret
  exact ⟨by simp [ho], by repeat (first | exact Drawn0.refl _ | apply Drawn0.step)⟩
 ·go_enter Try.func60, Try.ntmps60
  go_wp2_with fail
  refine HC.out.mono ?_
  rintro e w' ⟨rfl, q', rfl⟩
  go_wp2_with fail
  go_ret
  exact ⟨by simp; intro h; omega, by repeat (first | exact Drawn0.refl _ | apply Drawn0.step)⟩
mutual
def impl_Young_young.l0 : Nat → List Int → List Int → Int → Int → Int → List (S46) → List Int → List Int → Option (Int × (List (S46)) × List Int × List Int)
 | 0, _, _, _, _, _, _, _, _ => none
 | k + 1, x3, x13, x14, x15, x604000, x604001, x604002, x604003 => if x15 < x14 then (if 0 ≤ x15 then (if x15 < (x13.length : Int) then (if 0 ≤ (rd x13 x15) then (if (rd x13 x15) < (x604001.length : Int) then (if (rd_T46 x604001 (rd x13 x15)).f0 = true then (impl_Young_young.l0 k x3 x13 x14 (wrap64 (x15 + 1)) x604000 x604001 x604002 x604003) else ((some (([(rd_T46 x604001 (rd x13 x15)).f2, (rd_T46 x604001 (rd x13 x15)).f3] : List Int) : List Int)).bind fun y611 => (if x3.length + y611.length < 17592186044416 then (impl_Young_young.l0 k (x3 ++ y611) x13 x14 (wrap64 (x15 + 1)) x604000 x604001 x604002 x604003) else (none)))) else (none)) else (none)) else (none)) else (none)) else ((impl_reached.f k x604001 x3 (fv_young #[] x604000 x604002)).bind fun t617 => (impl_Young_young.l1 k t617 x604000 0 x604000 x604001 x604002 x604003))
def impl_Young_young.l1 : Nat → List Bool → Int → Int → Int → List (S46) → List Int → List Int → Option (Int × (List (S46)) × List Int × List Int)
 | 0, _, _, _, _, _, _, _ => none
 | k + 1, x7, x41, x42, x604000, x604001, x604002, x604003 => if x42 < x41 then (if 0 ≤ x42 then (if x42 < (x7.length : Int) then (impl_Young_young.l1 k (x7.set (x42 : Int).toNat true) x41 (wrap64 (x42 + 1)) x604000 x604001 x604002 x604003) else (none)) else (none)) else ((impl_Young_stay.f k x604000 x604001 x604002 x604003 x7).bind fun bt621 => (some (bt621.1, bt621.2.1, bt621.2.2.1, bt621.2.2.2)))
end
def impl_Young_young.f (k : Nat) (a0_0 : Int) (l0_1 : List (S46)) (l0_2 : List Int) (l0_3 : List Int) : Option (Int × (List (S46)) × List Int × List Int) := (slices_Clone_int_int.f l0_2).bind fun t605 => (impl_Young_young.l0 k t605 l0_3 (l0_3.length : Int) 0 a0_0 l0_1 l0_2 l0_3)
theorem impl_Young_young.mono_l : ∀ k, (∀ y0 y1 y2 y3 y4 y5 y6 y7, LeO (impl_Young_young.l0 k y0 y1 y2 y3 y4 y5 y6 y7) (impl_Young_young.l0 (k + 1) y0 y1 y2 y3 y4 y5 y6 y7)) ∧ (∀ y0 y1 y2 y3 y4 y5 y6, LeO (impl_Young_young.l1 k y0 y1 y2 y3 y4 y5 y6) (impl_Young_young.l1 (k + 1) y0 y1 y2 y3 y4 y5 y6))
 | 0 => ⟨fun _ _ _ _ _ _ _ _ r h => by simp [impl_Young_young.l0] at h, fun _ _ _ _ _ _ _ r h => by simp [impl_Young_young.l1] at h⟩
 | k + 1 => by
  obtain ⟨ih0, ih1⟩ := impl_Young_young.mono_l k
  refine ⟨?_, ?_⟩
  ·intro y0 y1 y2 y3 y4 y5 y6 y7
   unfold impl_Young_young.l0
   repeat' first
   | (with_reducible exact ih0 _ _ _ _ _ _ _ _)
   | (with_reducible exact ih1 _ _ _ _ _ _ _)
   | (with_reducible exact impl_Young_stay.mono _ _ _ _ _ _)
   | (with_reducible exact impl_reached.mono _ _ _ _)
   | (with_reducible exact LeO.refl _)
   | (with_reducible exact LeO.none _)
   | (with_reducible refine LeO.ite ?_ ?_)
   | (with_reducible refine LeO.bind ?_ (fun _ => ?_))
   | exact ih0 _ _ _ _ _ _ _ _
   | exact ih1 _ _ _ _ _ _ _
   | exact impl_Young_stay.mono _ _ _ _ _ _
   | exact impl_reached.mono _ _ _ _
   | exact LeO.none _
   | refine LeO.ite ?_ ?_
   | refine LeO.bind ?_ (fun _ => ?_)
  ·intro y0 y1 y2 y3 y4 y5 y6
   unfold impl_Young_young.l1
   repeat' first
   | (with_reducible exact ih0 _ _ _ _ _ _ _ _)
   | (with_reducible exact ih1 _ _ _ _ _ _ _)
   | (with_reducible exact impl_Young_stay.mono _ _ _ _ _ _)
   | (with_reducible exact impl_reached.mono _ _ _ _)
   | (with_reducible exact LeO.refl _)
   | (with_reducible exact LeO.none _)
   | (with_reducible refine LeO.ite ?_ ?_)
   | (with_reducible refine LeO.bind ?_ (fun _ => ?_))
   | exact ih0 _ _ _ _ _ _ _ _
   | exact ih1 _ _ _ _ _ _ _
   | exact impl_Young_stay.mono _ _ _ _ _ _
   | exact impl_reached.mono _ _ _ _
   | exact LeO.none _
   | refine LeO.ite ?_ ?_
   | refine LeO.bind ?_ (fun _ => ?_)
theorem impl_Young_young.mono : ∀ a0 a1 a2 a3 k, LeO (impl_Young_young.f k a0 a1 a2 a3) (impl_Young_young.f (k + 1) a0 a1 a2 a3) := by
 intro a0 a1 a2 a3 k
 obtain ⟨ih0, ih1⟩ := impl_Young_young.mono_l k
 unfold impl_Young_young.f
 repeat' first
   | (with_reducible exact ih0 _ _ _ _ _ _ _ _)
   | (with_reducible exact ih1 _ _ _ _ _ _ _)
   | (with_reducible exact impl_Young_stay.mono _ _ _ _ _ _)
   | (with_reducible exact impl_reached.mono _ _ _ _)
   | (with_reducible exact LeO.refl _)
   | (with_reducible exact LeO.none _)
   | (with_reducible refine LeO.ite ?_ ?_)
   | (with_reducible refine LeO.bind ?_ (fun _ => ?_))
   | exact ih0 _ _ _ _ _ _ _ _
   | exact ih1 _ _ _ _ _ _ _
   | exact impl_Young_stay.mono _ _ _ _ _ _
   | exact impl_reached.mono _ _ _ _
   | exact LeO.none _
   | refine LeO.ite ?_ ?_
   | refine LeO.bind ?_ (fun _ => ?_)
set_option maxHeartbeats 8000000 in
set_option maxRecDepth 100000 in
theorem impl_Young_young.calls (k : Nat) (a0_0 : Int) (A0_1 : Option Addr) (c0_1 : Nat) (l0_1 : List (S46)) (A0_2 : Option Addr) (c0_2 : Nat) (l0_2 : List Int) (A0_3 : Option Addr) (c0_3 : Nat) (l0_3 : List Int) (r1 : Int) (r2 : List (S46)) (r3 : List Int) (r4 : List Int) (w : World) (hr0_1 : Kd.C k46 w A0_1 l0_1.length l0_1) (hc0_1 : l0_1.length ≤ c0_1) (hr0_2 : Kd.C (Kd.int .i64) w A0_2 l0_2.length l0_2) (hc0_2 : l0_2.length ≤ c0_2) (hr0_3 : Kd.C (Kd.int .i64) w A0_3 l0_3.length l0_3) (hc0_3 : l0_3.length ≤ c0_3) (h : impl_Young_young.f k a0_0 l0_1 l0_2 l0_3 = some (r1, r2, r3, r4)) :
  Calls Try.prog 47 #[.agg #[.int .i64 a0_0, .slice A0_1 l0_1.length c0_1, .slice A0_2 l0_2.length c0_2, .slice A0_3 l0_3.length c0_3]] w fun e w' => ∃ v1_ v2_ v3_ : Value, e = .returned (.agg #[.int .i64 r1, v1_, v2_, v3_]) ∧ Kd.R k46 46 w' w.heap.size (fun _ => True) v1_ r2 ∧ Kd.R (Kd.int .i64) 3 w' w.heap.size (fun k_ => some k_ ≠ (v3_ : Value).ownBlock) v2_ r3 ∧ Kd.R (Kd.int .i64) 3 w' w.heap.size (fun k_ => some k_ ≠ (v2_ : Value).ownBlock) v3_ r4 ∧ Below w.heap.size w w' := by
 have hu30 := Try.underlying30
 have hu46 := Try.underlying46
 have HR0_1 := Aside0.mk hr0_1
 have HC0_1 := Aside0.mk hc0_1
 clear hr0_1 hc0_1
 have HR0_2 := Aside0.mk hr0_2
 have HC0_2 := Aside0.mk hc0_2
 clear hr0_2 hc0_2
 have HR0_3 := Aside0.mk hr0_3
 have HC0_3 := Aside0.mk hc0_3
 clear hr0_3 hc0_3
 have HB := Aside0.mk (Below.refl w.heap.size w)
 have H : ((slices_Clone_int_int.f l0_2).bind fun t605 => (impl_Young_young.l0 k t605 l0_3 (l0_3.length : Int) 0 a0_0 l0_1 l0_2 l0_3)) = some (r1, r2, r3, r4) := h
 clear h
 replace H := Option.bind_eq_some_iff.mp H
 obtain ⟨t605, A20, H⟩ := H
 replace H : (impl_Young_young.l0 k t605 l0_3 (l0_3.length : Int) 0 a0_0 l0_1 l0_2 l0_3) = some (r1, r2, r3, r4) := H
 have A2 := Aside0.mk A20
 clear A20
 have H' := Aside0.mk H
 clear H
 go_enter Try.func47, Try.ntmps47
 go_wp2_with (first | ((with_reducible refine gate_dst (N := 1) rfl ?_); refine box_event ?hg (N := 1) ?hd (cs := #[.int .i64 a0_0, .slice A0_1 l0_1.length c0_1, .slice A0_2 l0_2.length c0_2, .slice A0_3 l0_3.length c0_3]) (t := 30) ?hr ?_; (case hd => rfl); (case hg => rfl); (case hr => first | (go_simp; done) | (go_simp; rfl)); intro gb603 hg w3 hbox hb; have n0_ := Aside0.mk (below_step pb_ hb); have n1_ := Aside0.mk (hbox); have n2_ := Aside0.mk ((by rw [hg]; exact (below_size pb_) : w.heap.size ≤ gb603)); have n3_ := Aside0.mk ((by rw [hg]; exact (below_size pb_) : w.heap.size ≤ gb603)); clear HB; have HB := n0_; have BK603 := n1_; have GW603 := n2_; have GE603 := n3_; clear n0_ n1_ n2_ n3_; clear hb hbox hg) | ((with_reducible refine gate_dst (N := 2) rfl ?_); refine box_event ?hg (N := 2) ?hd (cs := #[.int .i64 0, .slice none 0 0, .slice none 0 0, .slice none 0 0]) (t := 30) ?hr ?_; (case hd => rfl); (case hg => rfl); (case hr => first | (go_simp; done) | (go_simp; rfl)); intro gb604 hg w4 hbox hb; have n0_ := Aside0.mk (blk_below (pk_ BK603.out) hb); have n1_ := Aside0.mk (below_step pb_ hb); have n2_ := Aside0.mk (hbox); have n3_ := Aside0.mk ((by rw [hg]; exact (below_size pb_) : w.heap.size ≤ gb604)); have n4_ := Aside0.mk ((by rw [hg]; exact (below_size pb_) : w.heap.size ≤ gb604)); have n5_ := Aside0.mk ((by rw [hg]; exact Nat.ne_of_lt (blk_lt (pk_ BK603.out)) : gb603 ≠ gb604)); have n6_ := Aside0.mk ((by rw [hg]; exact Nat.ne_of_gt (blk_lt (pk_ BK603.out)) : gb604 ≠ gb603)); clear BK603; clear HB; have BK603 := n0_; have HB := n1_; have BK604 := n2_; have GW604 := n3_; have GE604 := n4_; have NB603_604 := n5_; have NB604_603 := n6_; clear n0_ n1_ n2_ n3_ n4_ n5_ n6_; clear hb hbox hg; have hnb5 := NB603_604.out; have hnc5 := NB604_603.out; have hcz6_0 := bc0 BK603.out; have hcz6_1 := bc1 BK603.out; have hcz6_2 := bc2 BK603.out; have hcz6_3 := bc3 BK603.out; have hfz6_0 := blk_frozen BK603.out 0; have hfz6_1 := blk_frozen BK603.out 1; have hfz6_2 := blk_frozen BK603.out 2; have hfz6_3 := blk_frozen BK603.out 3) | ((with_reducible refine gate_callee (f := 57) rfl ?_); refine goesL_ (some 11) rfl rfl Try.func57 (by kernel_rfl) rfl #[.slice A0_2 l0_2.length c0_2] rfl (by (try simp only [List.map_toArray, List.map_cons, List.map_nil]); first | done | rfl | (simp only [List.length_drop, List.length_take]; rfl)) ?_; (with_reducible refine (slices_Clone_int_int.calls _ _ l0_2 t605 _ ?side1 ?side2 A2.out).mono ?_); (case side1 => exact pc_ (Kd.C_below HR0_2.out HB.out)); (case side2 => exact HC0_2.out); rintro e w7 ⟨v606, rfl, ho0, hb⟩; refine ⟨_, rfl, ?_⟩; have n0_ := Aside0.mk (Kd.R_lower ho0 (below_size pb_)); have n1_ := Aside0.mk (blk_below (pk_ BK603.out) hb); have n2_ := Aside0.mk (blk_below (pk_ BK604.out) hb); have n3_ := Aside0.mk (below_step pb_ hb); clear BK603; clear BK604; clear HB; have HO607 := n0_; have BK603 := n1_; have BK604 := n2_; have HB := n3_; clear n0_ n1_ n2_ n3_; (try clear hb); (try clear hb2); (try clear hk); (try clear hi); (try clear ho0); have hcz8_0 := bc0 BK603.out; have hcz8_1 := bc1 BK603.out; have hcz8_2 := bc2 BK603.out; have hcz8_3 := bc3 BK603.out; have hfz8_0 := blk_frozen BK603.out 0; have hfz8_1 := blk_frozen BK603.out 1; have hfz8_2 := blk_frozen BK603.out 2; have hfz8_3 := blk_frozen BK603.out 3))
 go_loopg [3, 15] k (fun kq v3 v15 w' => ∃ (x3_1 : List Int) (x15_1 : Int), v15 = .int .i64 x15_1 ∧ Aside0 (impl_Young_young.l0 kq x3_1 l0_3 (l0_3.length : Int) x15_1 a0_0 l0_1 l0_2 l0_3 = some (r1, r2, r3, r4)) ∧ Aside0 (kq ≤ k) ∧ Aside0 (Kd.R (Kd.int .i64) 3 w' w.heap.size (fun _ => True) v3 x3_1) ∧ Aside0 (w'.heap[gb603]? = some (.cells #[.int .i64 a0_0, (.slice A0_1 l0_1.length c0_1), (.slice A0_2 l0_2.length c0_2), (.slice A0_3 l0_3.length c0_3)] 30 (0, 0))) ∧ Aside0 (w'.heap[gb604]? = some (.cells #[.int .i64 0, (.slice none 0 0), (.slice none 0 0), (.slice none 0 0)] 30 (0, 0))) ∧ Aside0 (Below w.heap.size w w'))
 case atStart => exact ⟨(t605), (0), (by first | rfl | (simp; done) | (simp [*]; done)), H', ⟨Nat.le_refl _⟩, ⟨by (with_reducible repeat (first | apply Kd.R_alloc | apply Kd.R_drewN | apply Kd.R_drew)); exact HO607.out⟩, ⟨pk_ BK603.out⟩, ⟨pk_ BK604.out⟩, ⟨pb_⟩⟩
 case round =>
  clear H'
  try clear p2
  try clear c4
  try clear c5
  try clear hcz6_0
  try clear hcz6_1
  try clear hcz6_2
  try clear hcz6_3
  try clear hcz8_0
  try clear hcz8_1
  try clear hcz8_2
  try clear hcz8_3
  try clear hfz6_0
  try clear hfz6_1
  try clear hfz6_2
  try clear hfz6_3
  try clear hfz8_0
  try clear hfz8_1
  try clear hfz8_2
  try clear hfz8_3
  obtain ⟨x3_1, x15_1, rfl, HA, HK1, HO_3, BK603, BK604, HB⟩ := hrel
  cases gk with
  | zero => exact absurd HA.out (by simp [impl_Young_young.l0])
  | succ k1 =>
   have H := HA.out
   clear HA
   simp only [impl_Young_young.l0] at H
   by_cases c9 : x15_1 < (l0_3.length : Int)
   ·rw [if_pos c9] at H
    have c9b0 : decide (x15_1 < (l0_3.length : Int)) = true := decide_eq_true c9
    clear c9
    by_cases c10 : 0 ≤ x15_1
    ·rw [if_pos c10] at H
     have c10b0 : decide (0 ≤ x15_1) = true := decide_eq_true c10
     clear c10
     by_cases c11 : x15_1 < (l0_3.length : Int)
     ·rw [if_pos c11] at H
      have c11b0 : decide (x15_1 < (l0_3.length : Int)) = true := decide_eq_true c11
      clear c11
      by_cases c12 : 0 ≤ (rd l0_3 x15_1)
      ·rw [if_pos c12] at H
       have c12b0 : decide (0 ≤ (rd l0_3 x15_1)) = true := decide_eq_true c12
       clear c12
       by_cases c13 : (rd l0_3 x15_1) < (l0_1.length : Int)
       ·rw [if_pos c13] at H
        have c13b0 : decide ((rd l0_3 x15_1) < (l0_1.length : Int)) = true := decide_eq_true c13
        clear c13
        obtain ⟨bq14, hbq14⟩ : ∃ b_ : Bool, b_ = ((rd_T46 l0_1 (rd l0_3 x15_1)).f0) := ⟨_, rfl⟩
        replace H : (if bq14 = true then (impl_Young_young.l0 k1 x3_1 l0_3 (l0_3.length : Int) (wrap64 (x15_1 + 1)) a0_0 l0_1 l0_2 l0_3) else ((some (([(rd_T46 l0_1 (rd l0_3 x15_1)).f2, (rd_T46 l0_1 (rd l0_3 x15_1)).f3] : List Int) : List Int)).bind fun y611 => (if x3_1.length + y611.length < 17592186044416 then (impl_Young_young.l0 k1 (x3_1 ++ y611) l0_3 (l0_3.length : Int) (wrap64 (x15_1 + 1)) a0_0 l0_1 l0_2 l0_3) else (none)))) = some (r1, r2, r3, r4) := by rw [← hbq14] at H; exact H
        have Nbq14 := Aside0.mk hbq14
        clear hbq14
        by_cases c15 : bq14 = true
        ·subst c15
         have H1 : (impl_Young_young.l0 k1 x3_1 l0_3 (l0_3.length : Int) (wrap64 (x15_1 + 1)) a0_0 l0_1 l0_2 l0_3) = some (r1, r2, r3, r4) := by rw [if_pos rfl] at H; exact H
         clear H
         have H := H1
         clear H1
         have H' := Aside0.mk H
         clear H
         have p608 : 0 ≤ (x15_1 : Int) := of_decide_eq_true (by first | (with_reducible assumption) | assumption)
         have q608 : x15_1 < (l0_3.length : Int) := of_decide_eq_true (by first | (with_reducible assumption) | assumption)
         obtain ⟨ad608, e608, hx608_0⟩ := Kd.at_int HR0_3.out x15_1 p608 q608
         cases e608
         replace hx608_0 := (HB.out.cell (World.block_lt_of_cell? w _ hx608_0)).trans hx608_0
         replace p608 := eq_true p608
         replace q608 := eq_true q608
         have hnb16 := NB603_604.out
         have hnc16 := NB604_603.out
         have hcz17_0 := bc0 BK603.out
         have hcz17_1 := bc1 BK603.out
         have hcz17_2 := bc2 BK603.out
         have hcz17_3 := bc3 BK603.out
         have hfz17_0 := blk_frozen BK603.out 0
         have hfz17_1 := blk_frozen BK603.out 1
         have hfz17_2 := blk_frozen BK603.out 2
         have hfz17_3 := blk_frozen BK603.out 3
         have p609 : 0 ≤ ((rd l0_3 x15_1) : Int) := of_decide_eq_true (by first | (with_reducible assumption) | assumption)
         have q609 : (rd l0_3 x15_1) < (l0_1.length : Int) := of_decide_eq_true (by first | (with_reducible assumption) | assumption)
         obtain ⟨ad609, e609, hx609_0, hx609_1, hx609_2, hx609_3⟩ := at_T46 HR0_1.out (rd l0_3 x15_1) p609 q609
         (try rw [← Nbq14.out] at hx609_0)
         cases e609
         replace hx609_0 := (HB.out.cell (World.block_lt_of_cell? w _ hx609_0)).trans hx609_0
         replace hx609_1 := (HB.out.cell (World.block_lt_of_cell? w _ hx609_1)).trans hx609_1
         replace hx609_2 := (HB.out.cell (World.block_lt_of_cell? w _ hx609_2)).trans hx609_2
         replace hx609_3 := (HB.out.cell (World.block_lt_of_cell? w _ hx609_3)).trans hx609_3
         replace p609 := eq_true p609
         replace q609 := eq_true q609
         go_wp2_with (first | ((with_reducible refine gate_dst (N := 6) rfl ?_); refine box_event ?hg (N := 6) ?hd (cs := #[.bool false, .int .i64 0, .int .i64 0, .int .i64 0]) (t := 46) ?hr ?_; (case hd => rfl); (case hg => rfl); (case hr => first | (go_simp; done) | (go_simp; rfl)); intro gb610 hg w18 hbox hb; have n0_ := Aside0.mk (Kd.R_below (pr_ HO_3.out) hb); have n1_ := Aside0.mk (blk_below (pk_ BK603.out) hb); have n2_ := Aside0.mk (blk_below (pk_ BK604.out) hb); have n3_ := Aside0.mk (below_step pb_ hb); have n4_ := Aside0.mk (hbox); have n5_ := Aside0.mk ((by rw [hg]; exact (below_size pb_) : w.heap.size ≤ gb610)); have n6_ := Aside0.mk ((by rw [hg]; exact (below_size pb_) : w.heap.size ≤ gb610)); have n7_ := Aside0.mk ((by rw [hg]; exact Nat.ne_of_lt (blk_lt (pk_ BK603.out)) : gb603 ≠ gb610)); have n8_ := Aside0.mk ((by rw [hg]; exact Nat.ne_of_gt (blk_lt (pk_ BK603.out)) : gb610 ≠ gb603)); have n9_ := Aside0.mk ((by rw [hg]; exact Nat.ne_of_lt (blk_lt (pk_ BK604.out)) : gb604 ≠ gb610)); have n10_ := Aside0.mk ((by rw [hg]; exact Nat.ne_of_gt (blk_lt (pk_ BK604.out)) : gb610 ≠ gb604)); clear HO_3; clear BK603; clear BK604; clear HB; have HO_3 := n0_; have BK603 := n1_; have BK604 := n2_; have HB := n3_; have BK610 := n4_; have GW610 := n5_; have GE610 := n6_; have NB603_610 := n7_; have NB610_603 := n8_; have NB604_610 := n9_; have NB610_604 := n10_; clear n0_ n1_ n2_ n3_ n4_ n5_ n6_ n7_ n8_ n9_ n10_; clear hb hbox hg; have hnb19 := NB610_603.out; have hnc19 := NB603_610.out; have hnb20 := NB610_604.out; have hnc20 := NB604_610.out; have hcz21_0 := bc0 BK610.out; have hcz21_1 := bc1 BK610.out; have hcz21_2 := bc2 BK610.out; have hcz21_3 := bc3 BK610.out; have hfz21_0 := blk_frozen BK610.out 0; have hfz21_1 := blk_frozen BK610.out 1; have hfz21_2 := blk_frozen BK610.out 2; have hfz21_3 := blk_frozen BK610.out 3))
         go_roundg k1
         case measure => have := HK1.out; omega
         case rel => exact ⟨(x3_1), (wrap64 (x15_1 + 1)), (by first | rfl | (simp; done) | (simp [*]; done)), H', ⟨by have := HK1.out; omega⟩, ⟨by (with_reducible repeat (first | apply Kd.R_alloc | apply Kd.R_drewN | apply Kd.R_drew)); exact Kd.R_mono (Kd.R_far (p := ⟨gb610, 3, none⟩) (Kd.R_far (p := ⟨gb610, 2, none⟩) (Kd.R_far (p := ⟨gb610, 1, none⟩) (Kd.R_far (p := ⟨gb610, 0, none⟩) (Kd.R_types HO_3.out BK610.out (by decide)) (fun _ hk => hk.2) (.bool true)) (fun _ hk => hk.2) (.int .i64 ((rd_T46 l0_1 (rd l0_3 x15_1)).f1))) (fun _ hk => hk.2) (.int .i64 ((rd_T46 l0_1 (rd l0_3 x15_1)).f2))) (fun _ hk => hk.2) (.int .i64 ((rd_T46 l0_1 (rd l0_3 x15_1)).f3))) (fun _ hk => trivial)⟩, ⟨by (with_reducible repeat (first | refine blk_drewN ?_ _ | refine blk_drew ?_ | refine blk_alloc ?_ _)); refine blk_far ?_ NB603_610.out _; (with_reducible repeat (first | refine blk_drewN ?_ _ | refine blk_drew ?_ | refine blk_alloc ?_ _)); refine blk_far ?_ NB603_610.out _; (with_reducible repeat (first | refine blk_drewN ?_ _ | refine blk_drew ?_ | refine blk_alloc ?_ _)); refine blk_far ?_ NB603_610.out _; (with_reducible repeat (first | refine blk_drewN ?_ _ | refine blk_drew ?_ | refine blk_alloc ?_ _)); refine blk_far ?_ NB603_610.out _; (with_reducible repeat (first | refine blk_drewN ?_ _ | refine blk_drew ?_ | refine blk_alloc ?_ _)); exact BK603.out⟩, ⟨by (with_reducible repeat (first | refine blk_drewN ?_ _ | refine blk_drew ?_ | refine blk_alloc ?_ _)); refine blk_far ?_ NB604_610.out _; (with_reducible repeat (first | refine blk_drewN ?_ _ | refine blk_drew ?_ | refine blk_alloc ?_ _)); refine blk_far ?_ NB604_610.out _; (with_reducible repeat (first | refine blk_drewN ?_ _ | refine blk_drew ?_ | refine blk_alloc ?_ _)); refine blk_far ?_ NB604_610.out _; (with_reducible repeat (first | refine blk_drewN ?_ _ | refine blk_drew ?_ | refine blk_alloc ?_ _)); refine blk_far ?_ NB604_610.out _; (with_reducible repeat (first | refine blk_drewN ?_ _ | refine blk_drew ?_ | refine blk_alloc ?_ _)); exact BK604.out⟩, ⟨pb_⟩⟩
        ·replace c15 := Bool.eq_false_iff.mpr c15
         subst c15
         have H1 : ((some (([(rd_T46 l0_1 (rd l0_3 x15_1)).f2, (rd_T46 l0_1 (rd l0_3 x15_1)).f3] : List Int) : List Int)).bind fun y611 => (if x3_1.length + y611.length < 17592186044416 then (impl_Young_young.l0 k1 (x3_1 ++ y611) l0_3 (l0_3.length : Int) (wrap64 (x15_1 + 1)) a0_0 l0_1 l0_2 l0_3) else (none))) = some (r1, r2, r3, r4) := by rw [if_neg (show ¬ (false = true) by decide)] at H; exact H
         clear H
         have H := H1
         clear H1
         obtain ⟨y611, hy611⟩ : ∃ y_ : List Int, y_ = (([(rd_T46 l0_1 (rd l0_3 x15_1)).f2, (rd_T46 l0_1 (rd l0_3 x15_1)).f3] : List Int)) := ⟨_, rfl⟩
         replace H : (if x3_1.length + y611.length < 17592186044416 then (impl_Young_young.l0 k1 (x3_1 ++ y611) l0_3 (l0_3.length : Int) (wrap64 (x15_1 + 1)) a0_0 l0_1 l0_2 l0_3) else (none)) = some (r1, r2, r3, r4) := by first | (rw [hy611]; with_reducible exact H) | (have H2_ := (Option.bind_some _ _).symm.trans H; rw [hy611]; with_reducible exact H2_) | (have H2_ := (Option.bind_some _ _).symm.trans H; with_reducible exact H2_) | with_reducible exact H | (rw [hy611]; exact H) | exact H
         have Ny611 := Aside0.mk hy611
         clear hy611
         by_cases c22 : x3_1.length + y611.length < 17592186044416
         ·rw [if_pos c22] at H
          have LMc22 := Aside0.mk c22
          clear c22
          obtain ⟨y614, hy614⟩ : ∃ y_ : List Int, y_ = (x3_1 ++ y611) := ⟨_, rfl⟩
          replace H : (impl_Young_young.l0 k1 y614 l0_3 (l0_3.length : Int) (wrap64 (x15_1 + 1)) a0_0 l0_1 l0_2 l0_3) = some (r1, r2, r3, r4) := by first | (rw [hy614]; with_reducible exact H) | (have H2_ := (Option.bind_some _ _).symm.trans H; rw [hy614]; with_reducible exact H2_) | (have H2_ := (Option.bind_some _ _).symm.trans H; with_reducible exact H2_) | with_reducible exact H | (rw [hy614]; exact H) | exact H
          have Ny614 := Aside0.mk hy614
          clear hy614
          have H' := Aside0.mk H
          clear H
          have p608 : 0 ≤ (x15_1 : Int) := of_decide_eq_true (by first | (with_reducible assumption) | assumption)
          have q608 : x15_1 < (l0_3.length : Int) := of_decide_eq_true (by first | (with_reducible assumption) | assumption)
          obtain ⟨ad608, e608, hx608_0⟩ := Kd.at_int HR0_3.out x15_1 p608 q608
          cases e608
          replace hx608_0 := (HB.out.cell (World.block_lt_of_cell? w _ hx608_0)).trans hx608_0
          replace p608 := eq_true p608
          replace q608 := eq_true q608
          have hnb23 := NB603_604.out
          have hnc23 := NB604_603.out
          have hcz24_0 := bc0 BK603.out
          have hcz24_1 := bc1 BK603.out
          have hcz24_2 := bc2 BK603.out
          have hcz24_3 := bc3 BK603.out
          have hfz24_0 := blk_frozen BK603.out 0
          have hfz24_1 := blk_frozen BK603.out 1
          have hfz24_2 := blk_frozen BK603.out 2
          have hfz24_3 := blk_frozen BK603.out 3
          have p609 : 0 ≤ ((rd l0_3 x15_1) : Int) := of_decide_eq_true (by first | (with_reducible assumption) | assumption)
          have q609 : (rd l0_3 x15_1) < (l0_1.length : Int) := of_decide_eq_true (by first | (with_reducible assumption) | assumption)
          obtain ⟨ad609, e609, hx609_0, hx609_1, hx609_2, hx609_3⟩ := at_T46 HR0_1.out (rd l0_3 x15_1) p609 q609
          (try rw [← Nbq14.out] at hx609_0)
          cases e609
          replace hx609_0 := (HB.out.cell (World.block_lt_of_cell? w _ hx609_0)).trans hx609_0
          replace hx609_1 := (HB.out.cell (World.block_lt_of_cell? w _ hx609_1)).trans hx609_1
          replace hx609_2 := (HB.out.cell (World.block_lt_of_cell? w _ hx609_2)).trans hx609_2
          replace hx609_3 := (HB.out.cell (World.block_lt_of_cell? w _ hx609_3)).trans hx609_3
          replace p609 := eq_true p609
          replace q609 := eq_true q609
          go_wp2_with (first | ((with_reducible refine gate_dst (N := 6) rfl ?_); refine box_event ?hg (N := 6) ?hd (cs := #[.bool false, .int .i64 0, .int .i64 0, .int .i64 0]) (t := 46) ?hr ?_; (case hd => rfl); (case hg => rfl); (case hr => first | (go_simp; done) | (go_simp; rfl)); intro gb610 hg w25 hbox hb; have n0_ := Aside0.mk (Kd.R_below (pr_ HO_3.out) hb); have n1_ := Aside0.mk (blk_below (pk_ BK603.out) hb); have n2_ := Aside0.mk (blk_below (pk_ BK604.out) hb); have n3_ := Aside0.mk (below_step pb_ hb); have n4_ := Aside0.mk (hbox); have n5_ := Aside0.mk ((by rw [hg]; exact (below_size pb_) : w.heap.size ≤ gb610)); have n6_ := Aside0.mk ((by rw [hg]; exact (below_size pb_) : w.heap.size ≤ gb610)); have n7_ := Aside0.mk ((by rw [hg]; exact Nat.ne_of_lt (blk_lt (pk_ BK603.out)) : gb603 ≠ gb610)); have n8_ := Aside0.mk ((by rw [hg]; exact Nat.ne_of_gt (blk_lt (pk_ BK603.out)) : gb610 ≠ gb603)); have n9_ := Aside0.mk ((by rw [hg]; exact Nat.ne_of_lt (blk_lt (pk_ BK604.out)) : gb604 ≠ gb610)); have n10_ := Aside0.mk ((by rw [hg]; exact Nat.ne_of_gt (blk_lt (pk_ BK604.out)) : gb610 ≠ gb604)); clear HO_3; clear BK603; clear BK604; clear HB; have HO_3 := n0_; have BK603 := n1_; have BK604 := n2_; have HB := n3_; have BK610 := n4_; have GW610 := n5_; have GE610 := n6_; have NB603_610 := n7_; have NB610_603 := n8_; have NB604_610 := n9_; have NB610_604 := n10_; clear n0_ n1_ n2_ n3_ n4_ n5_ n6_ n7_ n8_ n9_ n10_; clear hb hbox hg; have hnb26 := NB610_603.out; have hnc26 := NB603_610.out; have hnb27 := NB610_604.out; have hnc27 := NB604_610.out; have hcz28_0 := bc0 BK610.out; have hcz28_1 := bc1 BK610.out; have hcz28_2 := bc2 BK610.out; have hcz28_3 := bc3 BK610.out; have hfz28_0 := blk_frozen BK610.out 0; have hfz28_1 := blk_frozen BK610.out 1; have hfz28_2 := blk_frozen BK610.out 2; have hfz28_3 := blk_frozen BK610.out 3) | ((with_reducible refine gate_dst (N := 32) rfl ?_); refine Kd.R_lit (Kd.int .i64) _ 3 ?hg (N := 32) ?hd (xs := ([(rd_T46 l0_1 (rd l0_3 x15_1)).f2, (rd_T46 l0_1 (rd l0_3 x15_1)).f3] : List Int)) (inner := [.int .i64 ((rd_T46 l0_1 (rd l0_3 x15_1)).f2), .int .i64 ((rd_T46 l0_1 (rd l0_3 x15_1)).f3)]) (ok := fun _ => True) (okp := fun _ => True) ?hr ?hp (fun _ hk => hk) trivial (Below.refl _ _) (Nat.le_refl _) (by simp) ?_; (case hd => rfl); (case hg => rfl); (case hr => first | (go_simp; done) | (go_simp; rfl)); (case hp => exact (Reps.one (show Kd.M (Kd.int .i64) _ _ _ ((rd_T46 l0_1 (rd l0_3 x15_1)).f2) [.int .i64 ((rd_T46 l0_1 (rd l0_3 x15_1)).f2)] from rfl) (Reps.one (show Kd.M (Kd.int .i64) _ _ _ ((rd_T46 l0_1 (rd l0_3 x15_1)).f3) [.int .i64 ((rd_T46 l0_1 (rd l0_3 x15_1)).f3)] from rfl) (Reps.none _ _)))); intro v612 w29 ho30 hb hg_ hnew_; clear hg_ hnew_; (first | rw [← Ny611.out] at ho30 | (simp only [Int.reduceToNat] at ho30; rw [← Ny611.out] at ho30)); have n0_ := Aside0.mk (Kd.R_elder' (by (with_reducible repeat (first | apply Kd.R_alloc | apply Kd.R_drewN | apply Kd.R_drew)); exact (Kd.R_mono (Kd.R_far (p := ⟨gb610, 3, none⟩) (Kd.R_far (p := ⟨gb610, 2, none⟩) (Kd.R_far (p := ⟨gb610, 1, none⟩) (Kd.R_far (p := ⟨gb610, 0, none⟩) (Kd.R_types HO_3.out BK610.out (by decide)) (fun _ hk => hk.2) (.bool false)) (fun _ hk => hk.2) (.int .i64 ((rd_T46 l0_1 (rd l0_3 x15_1)).f1))) (fun _ hk => hk.2) (.int .i64 ((rd_T46 l0_1 (rd l0_3 x15_1)).f2))) (fun _ hk => hk.2) (.int .i64 ((rd_T46 l0_1 (rd l0_3 x15_1)).f3))) (fun _ h_ => h_.1))) (Kd.R_base ho30) hb); have n1_ := Aside0.mk (Kd.R_lower (Kd.R_new' ho30 (Kd.R_lt (by (with_reducible repeat (first | apply Kd.R_alloc | apply Kd.R_drewN | apply Kd.R_drew)); exact (Kd.R_mono (Kd.R_far (p := ⟨gb610, 3, none⟩) (Kd.R_far (p := ⟨gb610, 2, none⟩) (Kd.R_far (p := ⟨gb610, 1, none⟩) (Kd.R_far (p := ⟨gb610, 0, none⟩) (Kd.R_types HO_3.out BK610.out (by decide)) (fun _ hk => hk.2) (.bool false)) (fun _ hk => hk.2) (.int .i64 ((rd_T46 l0_1 (rd l0_3 x15_1)).f1))) (fun _ hk => hk.2) (.int .i64 ((rd_T46 l0_1 (rd l0_3 x15_1)).f2))) (fun _ hk => hk.2) (.int .i64 ((rd_T46 l0_1 (rd l0_3 x15_1)).f3))) (fun _ h_ => h_.1))))) (below_size pb_)); have n2_ := Aside0.mk (blk_below (g := gb603) (o := .cells #[.int .i64 a0_0, .slice (some ad609) l0_1.length c0_1, .slice A0_2 l0_2.length c0_2, .slice (some ad608) l0_3.length c0_3] 30 (0, 0)) (by (with_reducible repeat (first | refine blk_drewN ?_ _ | refine blk_drew ?_ | refine blk_alloc ?_ _)); refine blk_far ?_ NB603_610.out _; (with_reducible repeat (first | refine blk_drewN ?_ _ | refine blk_drew ?_ | refine blk_alloc ?_ _)); refine blk_far ?_ NB603_610.out _; (with_reducible repeat (first | refine blk_drewN ?_ _ | refine blk_drew ?_ | refine blk_alloc ?_ _)); refine blk_far ?_ NB603_610.out _; (with_reducible repeat (first | refine blk_drewN ?_ _ | refine blk_drew ?_ | refine blk_alloc ?_ _)); refine blk_far ?_ NB603_610.out _; (with_reducible repeat (first | refine blk_drewN ?_ _ | refine blk_drew ?_ | refine blk_alloc ?_ _)); exact BK603.out) hb); have n3_ := Aside0.mk (blk_below (g := gb604) (o := .cells #[.int .i64 0, .slice none 0 0, .slice none 0 0, .slice none 0 0] 30 (0, 0)) (by (with_reducible repeat (first | refine blk_drewN ?_ _ | refine blk_drew ?_ | refine blk_alloc ?_ _)); refine blk_far ?_ NB604_610.out _; (with_reducible repeat (first | refine blk_drewN ?_ _ | refine blk_drew ?_ | refine blk_alloc ?_ _)); refine blk_far ?_ NB604_610.out _; (with_reducible repeat (first | refine blk_drewN ?_ _ | refine blk_drew ?_ | refine blk_alloc ?_ _)); refine blk_far ?_ NB604_610.out _; (with_reducible repeat (first | refine blk_drewN ?_ _ | refine blk_drew ?_ | refine blk_alloc ?_ _)); refine blk_far ?_ NB604_610.out _; (with_reducible repeat (first | refine blk_drewN ?_ _ | refine blk_drew ?_ | refine blk_alloc ?_ _)); exact BK604.out) hb); have n4_ := Aside0.mk (blk_below (g := gb610) (o := .cells #[.bool false, .int .i64 ((rd_T46 l0_1 (rd l0_3 x15_1)).f1), .int .i64 ((rd_T46 l0_1 (rd l0_3 x15_1)).f2), .int .i64 ((rd_T46 l0_1 (rd l0_3 x15_1)).f3)] 46 (0, 0)) (by (with_reducible repeat (first | refine blk_drewN ?_ _ | refine blk_drew ?_ | refine blk_alloc ?_ _)); refine blk_put (cs := #[.bool false, .int .i64 ((rd_T46 l0_1 (rd l0_3 x15_1)).f1), .int .i64 ((rd_T46 l0_1 (rd l0_3 x15_1)).f2), .int .i64 0]) ?_ 3 _ rfl; (with_reducible repeat (first | refine blk_drewN ?_ _ | refine blk_drew ?_ | refine blk_alloc ?_ _)); refine blk_put (cs := #[.bool false, .int .i64 ((rd_T46 l0_1 (rd l0_3 x15_1)).f1), .int .i64 0, .int .i64 0]) ?_ 2 _ rfl; (with_reducible repeat (first | refine blk_drewN ?_ _ | refine blk_drew ?_ | refine blk_alloc ?_ _)); refine blk_put (cs := #[.bool false, .int .i64 0, .int .i64 0, .int .i64 0]) ?_ 1 _ rfl; (with_reducible repeat (first | refine blk_drewN ?_ _ | refine blk_drew ?_ | refine blk_alloc ?_ _)); refine blk_put (cs := #[.bool false, .int .i64 0, .int .i64 0, .int .i64 0]) ?_ 0 _ rfl; (with_reducible repeat (first | refine blk_drewN ?_ _ | refine blk_drew ?_ | refine blk_alloc ?_ _)); exact BK610.out) hb); have n5_ := Aside0.mk (below_step pb_ hb); clear HO_3; clear BK603; clear BK604; clear BK610; clear HB; have HO_3 := n0_; have HO613 := n1_; have BK603 := n2_; have BK604 := n3_; have BK610 := n4_; have HB := n5_; clear n0_ n1_ n2_ n3_ n4_ n5_; clear hb ho30; obtain ⟨Ao32, co32, eo32⟩ := Kd.R_slice HO613.out; subst eo32) | ((with_reducible refine gate_builtin (b := .append) (xs := #[.tmp 27, .tmp 32]) rfl ?_); at_builtin; refine Kd.R_append_rows (Kd.int .i64) (w0 := w) w.heap.size rfl (.tmp 27) (.tmp 32) 23 3 (.int .i64 0) 8 rfl Try.underlying23 info3 rfl (by decide) (by omega) u3 x3_1 y611 _ _ _ (fun k_ => some k_ ≠ (.slice Ao32 y611.length co32 : Value).ownBlock) (fun _ => False) rfl rfl ?aO ?aR (fun _ _ h => h) (fun _ h => h.elim) ?aF ?aB ?aS ?aL ?_; (case aR => repeat (first | exact (Kd.R_reads' HO613.out).2.2 | (with_reducible refine Kd.C_alloc ?_ _) | (with_reducible refine Kd.C_drewN ?_ _) | (with_reducible refine Kd.C_drew ?_))); (case aB => exact pb_); (case aF => exact (fun k_ hk => Kd.fresh' (Kd.R_lt (pr_ HO613.out)) k_ hk)); (case aO => exact (by (with_reducible repeat (first | apply Kd.R_alloc | apply Kd.R_drewN | apply Kd.R_drew)); exact Kd.R_mono HO_3.out (fun _ hk => hk.2))); (case aS => exact (below_size pb_)); (case aL => have := LMc22.out; omega); intro v615 w31 ho hb hg hat; rw [← Ny614.out] at ho; have n0_ := Aside0.mk (blk_grown (g := gb603) (o := .cells #[.int .i64 a0_0, .slice (some ad609) l0_1.length c0_1, .slice A0_2 l0_2.length c0_2, .slice (some ad608) l0_3.length c0_3] 30 (0, 0)) (pk_ BK603.out) hg (Kd.R_ne HO_3.out BK603.out (by decide))); have n1_ := Aside0.mk (blk_grown (g := gb604) (o := .cells #[.int .i64 0, .slice none 0 0, .slice none 0 0, .slice none 0 0] 30 (0, 0)) (pk_ BK604.out) hg (Kd.R_ne HO_3.out BK604.out (by decide))); have n2_ := Aside0.mk (blk_grown (g := gb610) (o := .cells #[.bool false, .int .i64 ((rd_T46 l0_1 (rd l0_3 x15_1)).f1), .int .i64 ((rd_T46 l0_1 (rd l0_3 x15_1)).f2), .int .i64 ((rd_T46 l0_1 (rd l0_3 x15_1)).f3)] 46 (0, 0)) (pk_ BK610.out) hg (Kd.R_ne HO_3.out BK610.out (by decide))); have n3_ := Aside0.mk (Kd.R_after (ok := (fun _ => True)) (pr_ HO613.out) hg hat); have n4_ := Aside0.mk (hb); have n5_ := Aside0.mk (ho); clear BK603; clear BK604; clear BK610; clear HO613; clear HB; clear HO_3; have BK603 := n0_; have BK604 := n1_; have BK610 := n2_; have HO613 := n3_; have HB := n4_; have HO616 := n5_; clear n0_ n1_ n2_ n3_ n4_ n5_; clear ho hb hg hat))
          go_roundg k1
          case measure => have := HK1.out; omega
          case rel => exact ⟨(y614), (wrap64 (x15_1 + 1)), (by first | rfl | (simp; done) | (simp [*]; done)), H', ⟨by have := HK1.out; omega⟩, ⟨by (with_reducible repeat (first | apply Kd.R_alloc | apply Kd.R_drewN | apply Kd.R_drew)); exact Kd.R_mono HO616.out (fun _ hk => trivial)⟩, ⟨pk_ BK603.out⟩, ⟨pk_ BK604.out⟩, ⟨pb_⟩⟩
         ·rw [if_neg c22] at H
          exact absurd H (by simp)
       ·rw [if_neg c13] at H
        exact absurd H (by simp)
      ·rw [if_neg c12] at H
       exact absurd H (by simp)
     ·rw [if_neg c11] at H
      exact absurd H (by simp)
    ·rw [if_neg c10] at H
     exact absurd H (by simp)
   ·rw [if_neg c9] at H
    have c9b0 : decide (x15_1 < (l0_3.length : Int)) = false := decide_eq_false c9
    clear c9
    replace H := Option.bind_eq_some_iff.mp H
    obtain ⟨t617, A330, H⟩ := H
    replace H : (impl_Young_young.l1 k1 t617 a0_0 0 a0_0 l0_1 l0_2 l0_3) = some (r1, r2, r3, r4) := H
    have A33 := Aside0.mk A330
    clear A330
    have H' := Aside0.mk H
    clear H
    have hnb34 := NB603_604.out
    have hnc34 := NB604_603.out
    have hcz35_0 := bc0 BK603.out
    have hcz35_1 := bc1 BK603.out
    have hcz35_2 := bc2 BK603.out
    have hcz35_3 := bc3 BK603.out
    have hfz35_0 := blk_frozen BK603.out 0
    have hfz35_1 := blk_frozen BK603.out 1
    have hfz35_2 := blk_frozen BK603.out 2
    have hfz35_3 := blk_frozen BK603.out 3
    obtain ⟨Ao36, co36, eo36⟩ := Kd.R_slice HO_3.out
    subst eo36
    go_wp2_with (first | ((with_reducible refine gate_callee (f := 40) rfl ?_); refine goesL_ (some 39) rfl rfl Try.func40 (by kernel_rfl) rfl #[.slice A0_1 l0_1.length c0_1, .slice Ao36 x3_1.length co36, .func (.func 60) #[] #[.pointer (some ⟨gb603, 0, none⟩)]] rfl (by (try simp only [List.map_toArray, List.map_cons, List.map_nil]); first | done | rfl | (simp only [List.length_drop, List.length_take]; rfl)) ?_; (with_reducible refine (impl_reached.calls k1 _ _ l0_1 _ _ x3_1 (fv_young #[.pointer (some ⟨gb603, 0, none⟩)] a0_0 l0_2) t617 _ ?side1 ?side2 ?side3 ?side4 ((reached_lb (v := fv_young #[.pointer (some ⟨gb603, 0, none⟩)] a0_0 l0_2) (v' := fv_young #[] a0_0 l0_2) rfl _ _ _).trans A33.out) ?side5).mono ?_); (case side1 => exact pc_ (Kd.C_below HR0_1.out HB.out)); (case side2 => exact HC0_1.out); (case side3 => repeat (first | exact (Kd.R_reads' HO_3.out).2.2 | (with_reducible refine Kd.C_alloc ?_ _) | (with_reducible refine Kd.C_drewN ?_ _) | (with_reducible refine Kd.C_drew ?_))); (case side5 => exact fv_young_ok (pk_ BK603.out) (by repeat (first | exact (Kd.C_below HR0_2.out HB.out) | (with_reducible refine Kd.C_alloc ?_ _) | (with_reducible refine Kd.C_drewN ?_ _) | (with_reducible refine Kd.C_drew ?_))) HC0_2.out); (case side4 => exact (Kd.R_reads' HO_3.out).2.1); rintro e w37 ⟨v618, rfl, ho0, hb⟩; refine ⟨_, rfl, ?_⟩; have n0_ := Aside0.mk (Kd.R_below (pr_ HO_3.out) hb); have n1_ := Aside0.mk (Kd.R_lower ho0 (below_size pb_)); have n2_ := Aside0.mk (blk_below (pk_ BK603.out) hb); have n3_ := Aside0.mk (blk_below (pk_ BK604.out) hb); have n4_ := Aside0.mk (below_step pb_ hb); clear HO_3; clear BK603; clear BK604; clear HB; have HO_3 := n0_; have HO619 := n1_; have BK603 := n2_; have BK604 := n3_; have HB := n4_; clear n0_ n1_ n2_ n3_ n4_; (try clear hb); (try clear hb2); (try clear hk); (try clear hi); (try clear ho0); have hcz38_0 := bc0 BK603.out; have hcz38_1 := bc1 BK603.out; have hcz38_2 := bc2 BK603.out; have hcz38_3 := bc3 BK603.out; have hfz38_0 := blk_frozen BK603.out 0; have hfz38_1 := blk_frozen BK603.out 1; have hfz38_2 := blk_frozen BK603.out 2; have hfz38_3 := blk_frozen BK603.out 3))
    go_loopg [42] k1 (fun kq v42 w' => ∃ (x7_2 : List Bool) (x42_2 : Int), v42 = .int .i64 x42_2 ∧ Aside0 (impl_Young_young.l1 kq x7_2 a0_0 x42_2 a0_0 l0_1 l0_2 l0_3 = some (r1, r2, r3, r4)) ∧ Aside0 (kq ≤ k1) ∧ Aside0 (Kd.R Kd.bool 4 w' w.heap.size (fun _ => True) v618 x7_2) ∧ Aside0 (w'.heap[gb603]? = some (.cells #[.int .i64 a0_0, (.slice A0_1 l0_1.length c0_1), (.slice A0_2 l0_2.length c0_2), (.slice A0_3 l0_3.length c0_3)] 30 (0, 0))) ∧ Aside0 (w'.heap[gb604]? = some (.cells #[.int .i64 0, (.slice none 0 0), (.slice none 0 0), (.slice none 0 0)] 30 (0, 0))) ∧ Aside0 (Below w.heap.size w w'))
    case atStart => exact ⟨(t617), (0), (by first | rfl | (simp; done) | (simp [*]; done)), H', ⟨Nat.le_refl _⟩, ⟨by (with_reducible repeat (first | apply Kd.R_alloc | apply Kd.R_drewN | apply Kd.R_drew)); exact HO619.out⟩, ⟨pk_ BK603.out⟩, ⟨pk_ BK604.out⟩, ⟨pb_⟩⟩
    case round =>
     clear H'
     try clear c1
     try clear q1
     try clear c2
     try clear p2
     try clear c3
     try clear c4
     try clear c5
     try clear p6
     try clear q6
     try clear hx6
     try clear c9
     try clear c9b0
     try clear c10
     try clear c10b0
     try clear c11
     try clear c11b0
     try clear c12
     try clear c12b0
     try clear c13
     try clear c13b0
     try clear q14
     try clear c15
     try clear c16
     try clear c19
     try clear c20
     try clear c22
     try clear c23
     try clear c26
     try clear c27
     try clear c34
     try clear hcz17_0
     try clear hcz17_1
     try clear hcz17_2
     try clear hcz17_3
     try clear hcz21_0
     try clear hcz21_1
     try clear hcz21_2
     try clear hcz21_3
     try clear hcz24_0
     try clear hcz24_1
     try clear hcz24_2
     try clear hcz24_3
     try clear hcz28_0
     try clear hcz28_1
     try clear hcz28_2
     try clear hcz28_3
     try clear hcz35_0
     try clear hcz35_1
     try clear hcz35_2
     try clear hcz35_3
     try clear hcz38_0
     try clear hcz38_1
     try clear hcz38_2
     try clear hcz38_3
     try clear hcz6_0
     try clear hcz6_1
     try clear hcz6_2
     try clear hcz6_3
     try clear hcz8_0
     try clear hcz8_1
     try clear hcz8_2
     try clear hcz8_3
     try clear hfz17_0
     try clear hfz17_1
     try clear hfz17_2
     try clear hfz17_3
     try clear hfz21_0
     try clear hfz21_1
     try clear hfz21_2
     try clear hfz21_3
     try clear hfz24_0
     try clear hfz24_1
     try clear hfz24_2
     try clear hfz24_3
     try clear hfz28_0
     try clear hfz28_1
     try clear hfz28_2
     try clear hfz28_3
     try clear hfz35_0
     try clear hfz35_1
     try clear hfz35_2
     try clear hfz35_3
     try clear hfz38_0
     try clear hfz38_1
     try clear hfz38_2
     try clear hfz38_3
     try clear hfz6_0
     try clear hfz6_1
     try clear hfz6_2
     try clear hfz6_3
     try clear hfz8_0
     try clear hfz8_1
     try clear hfz8_2
     try clear hfz8_3
     try clear hx608_0
     try clear hx609_0
     try clear hx609_1
     try clear hx609_2
     try clear hx609_3
     try clear p2
     try clear p608
     try clear p609
     try clear q608
     try clear q609
     obtain ⟨x7_2, x42_2, rfl, HA, HK2, HO_7, BK603, BK604, HB⟩ := hrel
     cases gk with
     | zero => exact absurd HA.out (by simp [impl_Young_young.l1])
     | succ k2 =>
      have H := HA.out
      clear HA
      simp only [impl_Young_young.l1] at H
      by_cases c39 : x42_2 < a0_0
      ·rw [if_pos c39] at H
       have c39b0 : decide (x42_2 < a0_0) = true := decide_eq_true c39
       clear c39
       by_cases c40 : 0 ≤ x42_2
       ·rw [if_pos c40] at H
        have c40b0 : decide (0 ≤ x42_2) = true := decide_eq_true c40
        clear c40
        by_cases c41 : x42_2 < (x7_2.length : Int)
        ·rw [if_pos c41] at H
         have c41b0 : decide (x42_2 < (x7_2.length : Int)) = true := decide_eq_true c41
         clear c41
         obtain ⟨y620, hy620⟩ : ∃ y_ : List Bool, y_ = (x7_2.set (x42_2 : Int).toNat true) := ⟨_, rfl⟩
         replace H : (impl_Young_young.l1 k2 y620 a0_0 (wrap64 (x42_2 + 1)) a0_0 l0_1 l0_2 l0_3) = some (r1, r2, r3, r4) := by first | (rw [hy620]; with_reducible exact H) | (have H2_ := (Option.bind_some _ _).symm.trans H; rw [hy620]; with_reducible exact H2_) | (have H2_ := (Option.bind_some _ _).symm.trans H; with_reducible exact H2_) | with_reducible exact H | (rw [hy620]; exact H) | exact H
         have Ny620 := Aside0.mk hy620
         clear hy620
         have H' := Aside0.mk H
         clear H
         have p42 : 0 ≤ (x42_2 : Int) := of_decide_eq_true (by first | (with_reducible assumption) | assumption)
         have q42 : (x42_2 : Int) < ((x7_2.length : Int) : Int) := of_decide_eq_true (by first | (with_reducible assumption) | assumption)
         obtain ⟨go42, co42, eo42, gb42, gl42, cl42, HG42⟩ := Kd.R_form HO_7.out (by omega)
         (first | cases eo42 | (injection eo42 with ea_ en_ ec_; (first | subst ea_ | (injection ea_ with ea_; subst ea_)); subst ec_; clear en_))
         have GB42 := Aside0.mk gb42
         have GG42 := Aside0.mk HG42
         clear gb42 gl42 HG42
         obtain ⟨hx42_0, hf42_0⟩ := Kd.R_celln false HO_7.out (x42_2 : Int) p42 q42
         replace p42 := eq_true p42
         replace q42 := eq_true q42
         have HP43 := Kd.R_putg HO_7.out (x42_2 : Int) true
         go_wp2_with (first | ((with_reducible refine gate_store (t := 4) (p := 47) rfl ?_); refine store_event (t := 4) (p := 47) (v := ?vo_w44) (w1 := (wr.setCell ⟨go42, (x42_2 : Int).toNat, none⟩ (.bool true))) ?hg ?ho ?hn ?hr ?_; (case ho => rfl); (case hg => rfl); (case hn => rfl); (case hr => first | (go_simp; done) | (go_simp; rfl)); intro w44 hw; have hg : wr.grownBy w44 (some go42) := (by rw [hw]; exact HP43.2); have hp_ : Kd.R Kd.bool 4 w44 w.heap.size (fun _ => True) (.slice (some ⟨go42, 0, none⟩) x7_2.length co42) y620 := (by rw [hw, Ny620.out]; exact HP43.1); clear HP43; have n0_ := Aside0.mk (hp_); have n1_ := Aside0.mk (blk_grown (g := gb603) (o := .cells #[.int .i64 a0_0, .slice A0_1 l0_1.length c0_1, .slice A0_2 l0_2.length c0_2, .slice A0_3 l0_3.length c0_3] 30 (0, 0)) (pk_ BK603.out) hg (Kd.R_ne HO_7.out BK603.out (by decide))); have n2_ := Aside0.mk (blk_grown (g := gb604) (o := .cells #[.int .i64 0, .slice none 0 0, .slice none 0 0, .slice none 0 0] 30 (0, 0)) (pk_ BK604.out) hg (Kd.R_ne HO_7.out BK604.out (by decide))); have n3_ := Aside0.mk ((by rw [hw]; exact below_set (HB.out) GB42.out : Below w.heap.size w w44)); clear HO_7; clear BK603; clear BK604; clear HB; have HO_7 := n0_; have BK603 := n1_; have BK604 := n2_; have HB := n3_; clear n0_ n1_ n2_ n3_; clear hg hw hp_))
         go_roundg k2
         case measure => have := HK1.out; have := HK2.out; omega
         case rel => exact ⟨(y620), (wrap64 (x42_2 + 1)), (by first | rfl | (simp; done) | (simp [*]; done)), H', ⟨by have := HK1.out; have := HK2.out; omega⟩, ⟨by (with_reducible repeat (first | apply Kd.R_alloc | apply Kd.R_drewN | apply Kd.R_drew)); exact HO_7.out⟩, ⟨pk_ BK603.out⟩, ⟨pk_ BK604.out⟩, ⟨pb_⟩⟩
        ·rw [if_neg c41] at H
         exact absurd H (by simp)
       ·rw [if_neg c40] at H
        exact absurd H (by simp)
      ·rw [if_neg c39] at H
       have c39b0 : decide (x42_2 < a0_0) = false := decide_eq_false c39
       clear c39
       replace H := Option.bind_eq_some_iff.mp H
       obtain ⟨⟨t621, t622, t625, t628⟩, A450, H⟩ := H
       replace H : (some (t621, t622, t625, t628)) = some (r1, r2, r3, r4) := H
       have A45 := Aside0.mk A450
       clear A450
       simp only [Option.some.injEq, Prod.mk.injEq] at H
       obtain ⟨rfl, rfl, rfl, rfl⟩ := H
       have hnb46 := NB603_604.out
       have hnc46 := NB604_603.out
       have hcz47_0 := bc0 BK603.out
       have hcz47_1 := bc1 BK603.out
       have hcz47_2 := bc2 BK603.out
       have hcz47_3 := bc3 BK603.out
       have hfz47_0 := blk_frozen BK603.out 0
       have hfz47_1 := blk_frozen BK603.out 1
       have hfz47_2 := blk_frozen BK603.out 2
       have hfz47_3 := blk_frozen BK603.out 3
       obtain ⟨Ao48, co48, eo48⟩ := Kd.R_slice HO_7.out
       subst eo48
       go_wp2_with (first | ((with_reducible refine gate_callee (f := 59) rfl ?_); refine goesL_ (some 51) rfl rfl Try.func59 (by kernel_rfl) rfl #[.agg #[.int .i64 a0_0, .slice A0_1 l0_1.length c0_1, .slice A0_2 l0_2.length c0_2, .slice A0_3 l0_3.length c0_3], .slice Ao48 x7_2.length co48] rfl (by (try simp only [List.map_toArray, List.map_cons, List.map_nil]); first | done | rfl | (simp only [List.length_drop, List.length_take]; rfl)) ?_; (with_reducible refine (impl_Young_stay.calls k2 a0_0 _ _ l0_1 _ _ l0_2 _ _ l0_3 _ _ x7_2 t621 t622 t625 t628 _ ?side1 ?side2 ?side3 ?side4 ?side5 ?side6 ?side7 ?side8 A45.out).mono ?_); (case side1 => exact pc_ (Kd.C_below HR0_1.out HB.out)); (case side2 => exact HC0_1.out); (case side3 => exact pc_ (Kd.C_below HR0_2.out HB.out)); (case side4 => exact HC0_2.out); (case side5 => exact pc_ (Kd.C_below HR0_3.out HB.out)); (case side6 => exact HC0_3.out); (case side7 => repeat (first | exact (Kd.R_reads' HO_7.out).2.2 | (with_reducible refine Kd.C_alloc ?_ _) | (with_reducible refine Kd.C_drewN ?_ _) | (with_reducible refine Kd.C_drew ?_))); (case side8 => exact (Kd.R_reads' HO_7.out).2.1); rintro e w49 ⟨v623, v626, v629, rfl, ho0, ho1, ho2, hb⟩; refine ⟨_, rfl, ?_⟩; have n0_ := Aside0.mk (Kd.R_below (pr_ HO_7.out) hb); have n1_ := Aside0.mk (Kd.R_lower ho0 (below_size pb_)); have n2_ := Aside0.mk (Kd.R_lower ho1 (below_size pb_)); have n3_ := Aside0.mk (Kd.R_lower ho2 (below_size pb_)); have n4_ := Aside0.mk (blk_below (pk_ BK603.out) hb); have n5_ := Aside0.mk (blk_below (pk_ BK604.out) hb); have n6_ := Aside0.mk (below_step pb_ hb); clear HO_7; clear BK603; clear BK604; clear HB; have HO_7 := n0_; have HO624 := n1_; have HO627 := n2_; have HO630 := n3_; have BK603 := n4_; have BK604 := n5_; have HB := n6_; clear n0_ n1_ n2_ n3_ n4_ n5_ n6_; (try clear hb); (try clear hb2); (try clear hk); (try clear hi); (try clear ho0); (try clear ho1); (try clear ho2); have hcz50_0 := bc0 BK604.out; have hcz50_1 := bc1 BK604.out; have hcz50_2 := bc2 BK604.out; have hcz50_3 := bc3 BK604.out; have hfz50_0 := blk_frozen BK604.out 0; have hfz50_1 := blk_frozen BK604.out 1; have hfz50_2 := blk_frozen BK604.out 2; have hfz50_3 := blk_frozen BK604.out 3; obtain ⟨Ao51, co51, eo51⟩ := Kd.R_slice HO624.out; subst eo51; obtain ⟨Ao52, co52, eo52⟩ := Kd.R_slice HO627.out; subst eo52; obtain ⟨Ao53, co53, eo53⟩ := Kd.R_slice HO630.out; subst eo53))
       refine bodyPost_ret (results_cell_row rfl _ _ gb604 30 #[.int .i64 t621, .slice Ao51 t622.length co51, .slice Ao52 t625.length co52, .slice Ao53 t628.length co53] (0, 0) _ rfl (by (with_reducible repeat (first | refine blk_drewN ?_ _ | refine blk_drew ?_ | refine blk_alloc ?_ _)); refine blk_put (cs := #[.int .i64 t621, .slice Ao51 t622.length co51, .slice Ao52 t625.length co52, .slice none 0 0]) ?_ 3 _ rfl; (with_reducible repeat (first | refine blk_drewN ?_ _ | refine blk_drew ?_ | refine blk_alloc ?_ _)); refine blk_put (cs := #[.int .i64 t621, .slice Ao51 t622.length co51, .slice none 0 0, .slice none 0 0]) ?_ 2 _ rfl; (with_reducible repeat (first | refine blk_drewN ?_ _ | refine blk_drew ?_ | refine blk_alloc ?_ _)); refine blk_put (cs := #[.int .i64 t621, .slice none 0 0, .slice none 0 0, .slice none 0 0]) ?_ 1 _ rfl; (with_reducible repeat (first | refine blk_drewN ?_ _ | refine blk_drew ?_ | refine blk_alloc ?_ _)); refine blk_put (cs := #[.int .i64 0, .slice none 0 0, .slice none 0 0, .slice none 0 0]) ?_ 0 _ rfl; (with_reducible repeat (first | refine blk_drewN ?_ _ | refine blk_drew ?_ | refine blk_alloc ?_ _)); exact BK604.out) Try.underlying30 rfl (by kernel_rfl)) rfl ?_
       exact ⟨_, _, _, by first | rfl | (simp [errW_none, errW_some] <;> rfl) | (simp [*, errW_none, errW_some] <;> rfl), by (with_reducible repeat (first | apply Kd.R_alloc | apply Kd.R_drewN | apply Kd.R_drew)); exact Kd.R_mono (Kd.R_far (p := ⟨gb604, 3, none⟩) (Kd.R_far (p := ⟨gb604, 2, none⟩) (Kd.R_far (p := ⟨gb604, 1, none⟩) (Kd.R_far (p := ⟨gb604, 0, none⟩) (Kd.R_types HO624.out BK604.out (by decide)) (fun _ hk => hk.2) (.int .i64 t621)) (fun _ hk => hk.2) (.slice Ao51 t622.length co51)) (fun _ hk => hk.2) (.slice Ao52 t625.length co52)) (fun _ hk => hk.2) (.slice Ao53 t628.length co53)) (fun _ hk => trivial), by (with_reducible repeat (first | apply Kd.R_alloc | apply Kd.R_drewN | apply Kd.R_drew)); exact Kd.R_mono (Kd.R_far (p := ⟨gb604, 3, none⟩) (Kd.R_far (p := ⟨gb604, 2, none⟩) (Kd.R_far (p := ⟨gb604, 1, none⟩) (Kd.R_far (p := ⟨gb604, 0, none⟩) (Kd.R_types HO627.out BK604.out (by decide)) (fun _ hk => hk.2) (.int .i64 t621)) (fun _ hk => hk.2) (.slice Ao51 t622.length co51)) (fun _ hk => hk.2) (.slice Ao52 t625.length co52)) (fun _ hk => hk.2) (.slice Ao53 t628.length co53)) (fun _ hk => hk.1), by (with_reducible repeat (first | apply Kd.R_alloc | apply Kd.R_drewN | apply Kd.R_drew)); exact Kd.R_mono (Kd.R_far (p := ⟨gb604, 3, none⟩) (Kd.R_far (p := ⟨gb604, 2, none⟩) (Kd.R_far (p := ⟨gb604, 1, none⟩) (Kd.R_far (p := ⟨gb604, 0, none⟩) (Kd.R_types HO630.out BK604.out (by decide)) (fun _ hk => hk.2) (.int .i64 t621)) (fun _ hk => hk.2) (.slice Ao51 t622.length co51)) (fun _ hk => hk.2) (.slice Ao52 t625.length co52)) (fun _ hk => hk.2) (.slice Ao53 t628.length co53)) (fun _ hk => hk.1), pb_⟩
def impl_YoungCollect.f (k : Nat) (a0_0 : Int) (l0_1 : List (S46)) (l0_2 : List Int) (l0_3 : List Int) : Option (Int × (List (S46)) × List Int × List Int × Bool) := (impl_GoodYoung.f k a0_0 l0_1 l0_2 l0_3).bind fun t633 => (if t633 = true then ((impl_Young_young.f k a0_0 l0_1 l0_2 l0_3).bind fun bt634 => (some (bt634.1, bt634.2.1, bt634.2.2.1, bt634.2.2.2, true))) else (some (0, ([] : List (S46)), ([] : List Int), ([] : List Int), false)))
theorem impl_YoungCollect.mono : ∀ a0 a1 a2 a3 k, LeO (impl_YoungCollect.f k a0 a1 a2 a3) (impl_YoungCollect.f (k + 1) a0 a1 a2 a3) := by
 intro a0 a1 a2 a3 k
 unfold impl_YoungCollect.f
 repeat' first
   | (with_reducible exact impl_GoodYoung.mono _ _ _ _ _)
   | (with_reducible exact impl_Young_young.mono _ _ _ _ _)
   | (with_reducible exact LeO.refl _)
   | (with_reducible exact LeO.none _)
   | (with_reducible refine LeO.ite ?_ ?_)
   | (with_reducible refine LeO.bind ?_ (fun _ => ?_))
   | exact impl_GoodYoung.mono _ _ _ _ _
   | exact impl_Young_young.mono _ _ _ _ _
   | exact LeO.none _
   | refine LeO.ite ?_ ?_
   | refine LeO.bind ?_ (fun _ => ?_)
set_option maxHeartbeats 8000000 in
set_option maxRecDepth 100000 in
theorem impl_YoungCollect.calls (k : Nat) (a0_0 : Int) (A0_1 : Option Addr) (c0_1 : Nat) (l0_1 : List (S46)) (A0_2 : Option Addr) (c0_2 : Nat) (l0_2 : List Int) (A0_3 : Option Addr) (c0_3 : Nat) (l0_3 : List Int) (r1 : Int) (r2 : List (S46)) (r3 : List Int) (r4 : List Int) (r5 : Bool) (w : World) (hr0_1 : Kd.C k46 w A0_1 l0_1.length l0_1) (hc0_1 : l0_1.length ≤ c0_1) (hr0_2 : Kd.C (Kd.int .i64) w A0_2 l0_2.length l0_2) (hc0_2 : l0_2.length ≤ c0_2) (hr0_3 : Kd.C (Kd.int .i64) w A0_3 l0_3.length l0_3) (hc0_3 : l0_3.length ≤ c0_3) (h : impl_YoungCollect.f k a0_0 l0_1 l0_2 l0_3 = some (r1, r2, r3, r4, r5)) :
  Calls Try.prog 23 #[.agg #[.int .i64 a0_0, .slice A0_1 l0_1.length c0_1, .slice A0_2 l0_2.length c0_2, .slice A0_3 l0_3.length c0_3]] w fun e w' => ∃ v1_ v2_ v3_ : Value, e = .returned (.tuple #[.agg #[.int .i64 r1, v1_, v2_, v3_], .bool r5]) ∧ Kd.R k46 46 w' w.heap.size (fun _ => True) v1_ r2 ∧ Kd.R (Kd.int .i64) 3 w' w.heap.size (fun k_ => some k_ ≠ (v3_ : Value).ownBlock) v2_ r3 ∧ Kd.R (Kd.int .i64) 3 w' w.heap.size (fun k_ => some k_ ≠ (v2_ : Value).ownBlock) v3_ r4 ∧ Below w.heap.size w w' := by
 have hu30 := Try.underlying30
 have HR0_1 := Aside0.mk hr0_1
 have HC0_1 := Aside0.mk hc0_1
 clear hr0_1 hc0_1
 have HR0_2 := Aside0.mk hr0_2
 have HC0_2 := Aside0.mk hc0_2
 clear hr0_2 hc0_2
 have HR0_3 := Aside0.mk hr0_3
 have HC0_3 := Aside0.mk hc0_3
 clear hr0_3 hc0_3
 have HB := Aside0.mk (Below.refl w.heap.size w)
 have H : ((impl_GoodYoung.f k a0_0 l0_1 l0_2 l0_3).bind fun t633 => (if t633 = true then ((impl_Young_young.f k a0_0 l0_1 l0_2 l0_3).bind fun bt634 => (some (bt634.1, bt634.2.1, bt634.2.2.1, bt634.2.2.2, true))) else (some (0, ([] : List (S46)), ([] : List Int), ([] : List Int), false)))) = some (r1, r2, r3, r4, r5) := h
 clear h
 replace H := Option.bind_eq_some_iff.mp H
 obtain ⟨t633, A20, H⟩ := H
 replace H : (if t633 = true then ((impl_Young_young.f k a0_0 l0_1 l0_2 l0_3).bind fun bt634 => (some (bt634.1, bt634.2.1, bt634.2.2.1, bt634.2.2.2, true))) else (some (0, ([] : List (S46)), ([] : List Int), ([] : List Int), false))) = some (r1, r2, r3, r4, r5) := H
 have A2 := Aside0.mk A20
 clear A20
 by_cases c3 : t633 = true
 ·subst c3
  have H1 : ((impl_Young_young.f k a0_0 l0_1 l0_2 l0_3).bind fun bt634 => (some (bt634.1, bt634.2.1, bt634.2.2.1, bt634.2.2.2, true))) = some (r1, r2, r3, r4, r5) := by rw [if_pos rfl] at H; exact H
  clear H
  have H := H1
  clear H1
  replace H := Option.bind_eq_some_iff.mp H
  obtain ⟨⟨t634, t635, t638, t641⟩, A40, H⟩ := H
  replace H : (some (t634, t635, t638, t641, true)) = some (r1, r2, r3, r4, r5) := H
  have A4 := Aside0.mk A40
  clear A40
  simp only [Option.some.injEq, Prod.mk.injEq] at H
  obtain ⟨rfl, rfl, rfl, rfl, rfl⟩ := H
  go_enter Try.func23, Try.ntmps23
  go_wp2_with (first | ((with_reducible refine gate_dst (N := 1) rfl ?_); refine box_event ?hg (N := 1) ?hd (cs := #[.int .i64 a0_0, .slice A0_1 l0_1.length c0_1, .slice A0_2 l0_2.length c0_2, .slice A0_3 l0_3.length c0_3]) (t := 30) ?hr ?_; (case hd => rfl); (case hg => rfl); (case hr => first | (go_simp; done) | (go_simp; rfl)); intro gb631 hg w5 hbox hb; have n0_ := Aside0.mk (below_step pb_ hb); have n1_ := Aside0.mk (hbox); have n2_ := Aside0.mk ((by rw [hg]; exact (below_size pb_) : w.heap.size ≤ gb631)); have n3_ := Aside0.mk ((by rw [hg]; exact (below_size pb_) : w.heap.size ≤ gb631)); clear HB; have HB := n0_; have BK631 := n1_; have GW631 := n2_; have GE631 := n3_; clear n0_ n1_ n2_ n3_; clear hb hbox hg) | ((with_reducible refine gate_dst (N := 2) rfl ?_); refine box_event ?hg (N := 2) ?hd (cs := #[.int .i64 0, .slice none 0 0, .slice none 0 0, .slice none 0 0]) (t := 30) ?hr ?_; (case hd => rfl); (case hg => rfl); (case hr => first | (go_simp; done) | (go_simp; rfl)); intro gb632 hg w6 hbox hb; have n0_ := Aside0.mk (blk_below (pk_ BK631.out) hb); have n1_ := Aside0.mk (below_step pb_ hb); have n2_ := Aside0.mk (hbox); have n3_ := Aside0.mk ((by rw [hg]; exact (below_size pb_) : w.heap.size ≤ gb632)); have n4_ := Aside0.mk ((by rw [hg]; exact (below_size pb_) : w.heap.size ≤ gb632)); have n5_ := Aside0.mk ((by rw [hg]; exact Nat.ne_of_lt (blk_lt (pk_ BK631.out)) : gb631 ≠ gb632)); have n6_ := Aside0.mk ((by rw [hg]; exact Nat.ne_of_gt (blk_lt (pk_ BK631.out)) : gb632 ≠ gb631)); clear BK631; clear HB; have BK631 := n0_; have HB := n1_; have BK632 := n2_; have GW632 := n3_; have GE632 := n4_; have NB631_632 := n5_; have NB632_631 := n6_; clear n0_ n1_ n2_ n3_ n4_ n5_ n6_; clear hb hbox hg; have hnb7 := NB631_632.out; have hnc7 := NB632_631.out; have hcz8_0 := bc0 BK631.out; have hcz8_1 := bc1 BK631.out; have hcz8_2 := bc2 BK631.out; have hcz8_3 := bc3 BK631.out; have hfz8_0 := blk_frozen BK631.out 0; have hfz8_1 := blk_frozen BK631.out 1; have hfz8_2 := blk_frozen BK631.out 2; have hfz8_3 := blk_frozen BK631.out 3) | ((with_reducible refine gate_callee (f := 11) rfl ?_); refine goesL_ (some 5) rfl rfl Try.func11 (by kernel_rfl) rfl #[.agg #[.int .i64 a0_0, .slice A0_1 l0_1.length c0_1, .slice A0_2 l0_2.length c0_2, .slice A0_3 l0_3.length c0_3]] rfl (by (try simp only [List.map_toArray, List.map_cons, List.map_nil]); first | done | rfl | (simp only [List.length_drop, List.length_take]; rfl)) ?_; (with_reducible refine (impl_GoodYoung.calls k a0_0 _ _ l0_1 _ _ l0_2 _ _ l0_3 true _ ?side1 ?side2 ?side3 ?side4 ?side5 ?side6 A2.out).mono ?_); (case side1 => exact pc_ (Kd.C_below HR0_1.out HB.out)); (case side2 => exact HC0_1.out); (case side3 => exact pc_ (Kd.C_below HR0_2.out HB.out)); (case side4 => exact HC0_2.out); (case side5 => exact pc_ (Kd.C_below HR0_3.out HB.out)); (case side6 => exact HC0_3.out); rintro e w9 ⟨rfl, hb⟩; refine ⟨_, rfl, ?_⟩; have n0_ := Aside0.mk (blk_below (pk_ BK631.out) hb); have n1_ := Aside0.mk (blk_below (pk_ BK632.out) hb); have n2_ := Aside0.mk (below_step pb_ hb); clear BK631; clear BK632; clear HB; have BK631 := n0_; have BK632 := n1_; have HB := n2_; clear n0_ n1_ n2_; (try clear hb); (try clear hb2); (try clear hk); (try clear hi); have hcz10_0 := bc0 BK631.out; have hcz10_1 := bc1 BK631.out; have hcz10_2 := bc2 BK631.out; have hcz10_3 := bc3 BK631.out; have hfz10_0 := blk_frozen BK631.out 0; have hfz10_1 := blk_frozen BK631.out 1; have hfz10_2 := blk_frozen BK631.out 2; have hfz10_3 := blk_frozen BK631.out 3) | ((with_reducible refine gate_callee (f := 47) rfl ?_); refine goesL_ (some 9) rfl rfl Try.func47 (by kernel_rfl) rfl #[.agg #[.int .i64 a0_0, .slice A0_1 l0_1.length c0_1, .slice A0_2 l0_2.length c0_2, .slice A0_3 l0_3.length c0_3]] rfl (by (try simp only [List.map_toArray, List.map_cons, List.map_nil]); first | done | rfl | (simp only [List.length_drop, List.length_take]; rfl)) ?_; (with_reducible refine (impl_Young_young.calls k a0_0 _ _ l0_1 _ _ l0_2 _ _ l0_3 t634 t635 t638 t641 _ ?side1 ?side2 ?side3 ?side4 ?side5 ?side6 A4.out).mono ?_); (case side1 => exact pc_ (Kd.C_below HR0_1.out HB.out)); (case side2 => exact HC0_1.out); (case side3 => exact pc_ (Kd.C_below HR0_2.out HB.out)); (case side4 => exact HC0_2.out); (case side5 => exact pc_ (Kd.C_below HR0_3.out HB.out)); (case side6 => exact HC0_3.out); rintro e w11 ⟨v636, v639, v642, rfl, ho0, ho1, ho2, hb⟩; refine ⟨_, rfl, ?_⟩; have n0_ := Aside0.mk (Kd.R_lower ho0 (below_size pb_)); have n1_ := Aside0.mk (Kd.R_lower ho1 (below_size pb_)); have n2_ := Aside0.mk (Kd.R_lower ho2 (below_size pb_)); have n3_ := Aside0.mk (blk_below (pk_ BK631.out) hb); have n4_ := Aside0.mk (blk_below (pk_ BK632.out) hb); have n5_ := Aside0.mk (below_step pb_ hb); clear BK631; clear BK632; clear HB; have HO637 := n0_; have HO640 := n1_; have HO643 := n2_; have BK631 := n3_; have BK632 := n4_; have HB := n5_; clear n0_ n1_ n2_ n3_ n4_ n5_; (try clear hb); (try clear hb2); (try clear hk); (try clear hi); (try clear ho0); (try clear ho1); (try clear ho2); have hcz12_0 := bc0 BK632.out; have hcz12_1 := bc1 BK632.out; have hcz12_2 := bc2 BK632.out; have hcz12_3 := bc3 BK632.out; have hfz12_0 := blk_frozen BK632.out 0; have hfz12_1 := blk_frozen BK632.out 1; have hfz12_2 := blk_frozen BK632.out 2; have hfz12_3 := blk_frozen BK632.out 3; obtain ⟨Ao13, co13, eo13⟩ := Kd.R_slice HO637.out; subst eo13; obtain ⟨Ao14, co14, eo14⟩ := Kd.R_slice HO640.out; subst eo14; obtain ⟨Ao15, co15, eo15⟩ := Kd.R_slice HO643.out; subst eo15))
  refine bodyPost_ret (results_ct rfl _ _ gb632 30 #[.int .i64 t634, .slice Ao13 t635.length co13, .slice Ao14 t638.length co14, .slice Ao15 t641.length co15] (0, 0) _ rfl (by (with_reducible repeat (first | refine blk_drewN ?_ _ | refine blk_drew ?_ | refine blk_alloc ?_ _)); refine blk_put (cs := #[.int .i64 t634, .slice Ao13 t635.length co13, .slice Ao14 t638.length co14, .slice none 0 0]) ?_ 3 _ rfl; (with_reducible repeat (first | refine blk_drewN ?_ _ | refine blk_drew ?_ | refine blk_alloc ?_ _)); refine blk_put (cs := #[.int .i64 t634, .slice Ao13 t635.length co13, .slice none 0 0, .slice none 0 0]) ?_ 2 _ rfl; (with_reducible repeat (first | refine blk_drewN ?_ _ | refine blk_drew ?_ | refine blk_alloc ?_ _)); refine blk_put (cs := #[.int .i64 t634, .slice none 0 0, .slice none 0 0, .slice none 0 0]) ?_ 1 _ rfl; (with_reducible repeat (first | refine blk_drewN ?_ _ | refine blk_drew ?_ | refine blk_alloc ?_ _)); refine blk_put (cs := #[.int .i64 0, .slice none 0 0, .slice none 0 0, .slice none 0 0]) ?_ 0 _ rfl; (with_reducible repeat (first | refine blk_drewN ?_ _ | refine blk_drew ?_ | refine blk_alloc ?_ _)); exact BK632.out) Try.underlying30 rfl (by kernel_rfl)) rfl ?_
  exact ⟨_, _, _, by first | rfl | (simp [errW_none, errW_some] <;> rfl) | (simp [*, errW_none, errW_some] <;> rfl), by (with_reducible repeat (first | apply Kd.R_alloc | apply Kd.R_drewN | apply Kd.R_drew)); exact Kd.R_mono (Kd.R_far (p := ⟨gb632, 3, none⟩) (Kd.R_far (p := ⟨gb632, 2, none⟩) (Kd.R_far (p := ⟨gb632, 1, none⟩) (Kd.R_far (p := ⟨gb632, 0, none⟩) (Kd.R_types HO637.out BK632.out (by decide)) (fun _ hk => hk.2) (.int .i64 t634)) (fun _ hk => hk.2) (.slice Ao13 t635.length co13)) (fun _ hk => hk.2) (.slice Ao14 t638.length co14)) (fun _ hk => hk.2) (.slice Ao15 t641.length co15)) (fun _ hk => trivial), by (with_reducible repeat (first | apply Kd.R_alloc | apply Kd.R_drewN | apply Kd.R_drew)); exact Kd.R_mono (Kd.R_far (p := ⟨gb632, 3, none⟩) (Kd.R_far (p := ⟨gb632, 2, none⟩) (Kd.R_far (p := ⟨gb632, 1, none⟩) (Kd.R_far (p := ⟨gb632, 0, none⟩) (Kd.R_types HO640.out BK632.out (by decide)) (fun _ hk => hk.2) (.int .i64 t634)) (fun _ hk => hk.2) (.slice Ao13 t635.length co13)) (fun _ hk => hk.2) (.slice Ao14 t638.length co14)) (fun _ hk => hk.2) (.slice Ao15 t641.length co15)) (fun _ hk => hk.1), by (with_reducible repeat (first | apply Kd.R_alloc | apply Kd.R_drewN | apply Kd.R_drew)); exact Kd.R_mono (Kd.R_far (p := ⟨gb632, 3, none⟩) (Kd.R_far (p := ⟨gb632, 2, none⟩) (Kd.R_far (p := ⟨gb632, 1, none⟩) (Kd.R_far (p := ⟨gb632, 0, none⟩) (Kd.R_types HO643.out BK632.out (by decide)) (fun _ hk => hk.2) (.int .i64 t634)) (fun _ hk => hk.2) (.slice Ao13 t635.length co13)) (fun _ hk => hk.2) (.slice Ao14 t638.length co14)) (fun _ hk => hk.2) (.slice Ao15 t641.length co15)) (fun _ hk => hk.1), pb_⟩
 ·replace c3 := Bool.eq_false_iff.mpr c3
  subst c3
  have H1 : (some (0, ([] : List (S46)), ([] : List Int), ([] : List Int), false)) = some (r1, r2, r3, r4, r5) := by rw [if_neg (show ¬ (false = true) by decide)] at H; exact H
  clear H
  have H := H1
  clear H1
  simp only [Option.some.injEq, Prod.mk.injEq] at H
  obtain ⟨rfl, rfl, rfl, rfl, rfl⟩ := H
  go_enter Try.func23, Try.ntmps23
  go_wp2_with (first | ((with_reducible refine gate_dst (N := 1) rfl ?_); refine box_event ?hg (N := 1) ?hd (cs := #[.int .i64 a0_0, .slice A0_1 l0_1.length c0_1, .slice A0_2 l0_2.length c0_2, .slice A0_3 l0_3.length c0_3]) (t := 30) ?hr ?_; (case hd => rfl); (case hg => rfl); (case hr => first | (go_simp; done) | (go_simp; rfl)); intro gb631 hg w16 hbox hb; have n0_ := Aside0.mk (below_step pb_ hb); have n1_ := Aside0.mk (hbox); have n2_ := Aside0.mk ((by rw [hg]; exact (below_size pb_) : w.heap.size ≤ gb631)); have n3_ := Aside0.mk ((by rw [hg]; exact (below_size pb_) : w.heap.size ≤ gb631)); clear HB; have HB := n0_; have BK631 := n1_; have GW631 := n2_; have GE631 := n3_; clear n0_ n1_ n2_ n3_; clear hb hbox hg) | ((with_reducible refine gate_dst (N := 2) rfl ?_); refine box_event ?hg (N := 2) ?hd (cs := #[.int .i64 0, .slice none 0 0, .slice none 0 0, .slice none 0 0]) (t := 30) ?hr ?_; (case hd => rfl); (case hg => rfl); (case hr => first | (go_simp; done) | (go_simp; rfl)); intro gb632 hg w17 hbox hb; have n0_ := Aside0.mk (blk_below (pk_ BK631.out) hb); have n1_ := Aside0.mk (below_step pb_ hb); have n2_ := Aside0.mk (hbox); have n3_ := Aside0.mk ((by rw [hg]; exact (below_size pb_) : w.heap.size ≤ gb632)); have n4_ := Aside0.mk ((by rw [hg]; exact (below_size pb_) : w.heap.size ≤ gb632)); have n5_ := Aside0.mk ((by rw [hg]; exact Nat.ne_of_lt (blk_lt (pk_ BK631.out)) : gb631 ≠ gb632)); have n6_ := Aside0.mk ((by rw [hg]; exact Nat.ne_of_gt (blk_lt (pk_ BK631.out)) : gb632 ≠ gb631)); clear BK631; clear HB; have BK631 := n0_; have HB := n1_; have BK632 := n2_; have GW632 := n3_; have GE632 := n4_; have NB631_632 := n5_; have NB632_631 := n6_; clear n0_ n1_ n2_ n3_ n4_ n5_ n6_; clear hb hbox hg; have hnb18 := NB631_632.out; have hnc18 := NB632_631.out; have hcz19_0 := bc0 BK631.out; have hcz19_1 := bc1 BK631.out; have hcz19_2 := bc2 BK631.out; have hcz19_3 := bc3 BK631.out; have hfz19_0 := blk_frozen BK631.out 0; have hfz19_1 := blk_frozen BK631.out 1; have hfz19_2 := blk_frozen BK631.out 2; have hfz19_3 := blk_frozen BK631.out 3) | ((with_reducible refine gate_callee (f := 11) rfl ?_); refine goesL_ (some 5) rfl rfl Try.func11 (by kernel_rfl) rfl #[.agg #[.int .i64 a0_0, .slice A0_1 l0_1.length c0_1, .slice A0_2 l0_2.length c0_2, .slice A0_3 l0_3.length c0_3]] rfl (by (try simp only [List.map_toArray, List.map_cons, List.map_nil]); first | done | rfl | (simp only [List.length_drop, List.length_take]; rfl)) ?_; (with_reducible refine (impl_GoodYoung.calls k a0_0 _ _ l0_1 _ _ l0_2 _ _ l0_3 false _ ?side1 ?side2 ?side3 ?side4 ?side5 ?side6 A2.out).mono ?_); (case side1 => exact pc_ (Kd.C_below HR0_1.out HB.out)); (case side2 => exact HC0_1.out); (case side3 => exact pc_ (Kd.C_below HR0_2.out HB.out)); (case side4 => exact HC0_2.out); (case side5 => exact pc_ (Kd.C_below HR0_3.out HB.out)); (case side6 => exact HC0_3.out); rintro e w20 ⟨rfl, hb⟩; refine ⟨_, rfl, ?_⟩; have n0_ := Aside0.mk (blk_below (pk_ BK631.out) hb); have n1_ := Aside0.mk (blk_below (pk_ BK632.out) hb); have n2_ := Aside0.mk (below_step pb_ hb); clear BK631; clear BK632; clear HB; have BK631 := n0_; have BK632 := n1_; have HB := n2_; clear n0_ n1_ n2_; (try clear hb); (try clear hb2); (try clear hk); (try clear hi); have hcz21_0 := bc0 BK632.out; have hcz21_1 := bc1 BK632.out; have hcz21_2 := bc2 BK632.out; have hcz21_3 := bc3 BK632.out; have hfz21_0 := blk_frozen BK632.out 0; have hfz21_1 := blk_frozen BK632.out 1; have hfz21_2 := blk_frozen BK632.out 2; have hfz21_3 := blk_frozen BK632.out 3))
  refine bodyPost_ret (results_ct rfl _ _ gb632 30 #[.int .i64 0, .slice none 0 0, .slice none 0 0, .slice none 0 0] (0, 0) _ rfl (by (with_reducible repeat (first | refine blk_drewN ?_ _ | refine blk_drew ?_ | refine blk_alloc ?_ _)); refine blk_put (cs := #[.int .i64 0, .slice none 0 0, .slice none 0 0, .slice none 0 0]) ?_ 3 _ rfl; (with_reducible repeat (first | refine blk_drewN ?_ _ | refine blk_drew ?_ | refine blk_alloc ?_ _)); refine blk_put (cs := #[.int .i64 0, .slice none 0 0, .slice none 0 0, .slice none 0 0]) ?_ 2 _ rfl; (with_reducible repeat (first | refine blk_drewN ?_ _ | refine blk_drew ?_ | refine blk_alloc ?_ _)); refine blk_put (cs := #[.int .i64 0, .slice none 0 0, .slice none 0 0, .slice none 0 0]) ?_ 1 _ rfl; (with_reducible repeat (first | refine blk_drewN ?_ _ | refine blk_drew ?_ | refine blk_alloc ?_ _)); refine blk_put (cs := #[.int .i64 0, .slice none 0 0, .slice none 0 0, .slice none 0 0]) ?_ 0 _ rfl; (with_reducible repeat (first | refine blk_drewN ?_ _ | refine blk_drew ?_ | refine blk_alloc ?_ _)); exact BK632.out) Try.underlying30 rfl (by kernel_rfl)) rfl ?_
  exact ⟨_, _, _, by first | rfl | (simp [errW_none, errW_some] <;> rfl) | (simp [*, errW_none, errW_some] <;> rfl), by first | exact Kd.R_nil _ _ _ _ _ | exact Kd.N_nil _ _ _ _ _ | exact Kd.V_nil _ _ _ _ _ | exact Kd.Q_nil _ _ _ _ _ | exact Kd.S_nil _ _ _ _ _, by first | exact Kd.R_nil _ _ _ _ _ | exact Kd.N_nil _ _ _ _ _ | exact Kd.V_nil _ _ _ _ _ | exact Kd.Q_nil _ _ _ _ _ | exact Kd.S_nil _ _ _ _ _, by first | exact Kd.R_nil _ _ _ _ _ | exact Kd.N_nil _ _ _ _ _ | exact Kd.V_nil _ _ _ _ _ | exact Kd.Q_nil _ _ _ _ _ | exact Kd.S_nil _ _ _ _ _, pb_⟩
def laws_szCellS.f (l0 : List (S65)) (a1 : Int) : Option (Int) := if (wrap64 (a1 - (l0.length : Int))) < 0 then (some (-1)) else (some (wrap64 (a1 - (l0.length : Int))))
set_option maxHeartbeats 8000000 in
set_option maxRecDepth 100000 in
theorem laws_szCellS.calls (A0 : Option Addr) (c0 : Nat) (l0 : List (S65)) (a1 : Int) (r : Int) (w : World) (hr0 : Kd.C k65 w A0 l0.length l0) (hc0 : l0.length ≤ c0) (h : laws_szCellS.f l0 a1 = some r) :
  Calls Try.prog 26 #[.slice A0 l0.length c0, .int .i64 a1] w fun e w' => e = .returned (.int .i64 r) ∧ Drawn0 w w' := by
 have HR0 := Aside0.mk hr0
 have HC0 := Aside0.mk hc0
 clear hr0 hc0
 have H : (if (wrap64 (a1 - (l0.length : Int))) < 0 then (some (-1)) else (some (wrap64 (a1 - (l0.length : Int))))) = some r := h
 clear h
 by_cases c3 : (wrap64 (a1 - (l0.length : Int))) < 0
 ·rw [if_pos c3] at H
  have c3b0 : decide ((wrap64 (a1 - (l0.length : Int))) < 0) = true := decide_eq_true c3
  clear c3
  obtain rfl := Option.some.inj H
  go_enter Try.func26, Try.ntmps26
  go_wp2
  go_ret
  exact ⟨by first | rfl | (simp; done) | (simp [*]; done), by repeat (first | exact Drawn0.refl _ | apply Drawn0.step)⟩
 ·rw [if_neg c3] at H
  have c3b0 : decide ((wrap64 (a1 - (l0.length : Int))) < 0) = false := decide_eq_false c3
  clear c3
  obtain rfl := Option.some.inj H
  go_enter Try.func26, Try.ntmps26
  go_wp2
  go_ret
  exact ⟨by first | rfl | (simp; done) | (simp [*]; done), by repeat (first | exact Drawn0.refl _ | apply Drawn0.step)⟩
def laws_szIntS.f (l0 : List Int) (a1 : Int) : Option (Int) := if (wrap64 (a1 - (l0.length : Int))) < 0 then (some (-1)) else (some (wrap64 (a1 - (l0.length : Int))))
set_option maxHeartbeats 8000000 in
set_option maxRecDepth 100000 in
theorem laws_szIntS.calls (A0 : Option Addr) (c0 : Nat) (l0 : List Int) (a1 : Int) (r : Int) (w : World) (hr0 : Kd.C (Kd.int .i64) w A0 l0.length l0) (hc0 : l0.length ≤ c0) (h : laws_szIntS.f l0 a1 = some r) :
  Calls Try.prog 27 #[.slice A0 l0.length c0, .int .i64 a1] w fun e w' => e = .returned (.int .i64 r) ∧ Drawn0 w w' := by
 have HR0 := Aside0.mk hr0
 have HC0 := Aside0.mk hc0
 clear hr0 hc0
 have H : (if (wrap64 (a1 - (l0.length : Int))) < 0 then (some (-1)) else (some (wrap64 (a1 - (l0.length : Int))))) = some r := h
 clear h
 by_cases c3 : (wrap64 (a1 - (l0.length : Int))) < 0
 ·rw [if_pos c3] at H
  have c3b0 : decide ((wrap64 (a1 - (l0.length : Int))) < 0) = true := decide_eq_true c3
  clear c3
  obtain rfl := Option.some.inj H
  go_enter Try.func27, Try.ntmps27
  go_wp2
  go_ret
  exact ⟨by first | rfl | (simp; done) | (simp [*]; done), by repeat (first | exact Drawn0.refl _ | apply Drawn0.step)⟩
 ·rw [if_neg c3] at H
  have c3b0 : decide ((wrap64 (a1 - (l0.length : Int))) < 0) = false := decide_eq_false c3
  clear c3
  obtain rfl := Option.some.inj H
  go_enter Try.func27, Try.ntmps27
  go_wp2
  go_ret
  exact ⟨by first | rfl | (simp; done) | (simp [*]; done), by repeat (first | exact Drawn0.refl _ | apply Drawn0.step)⟩
def laws_szYoung.f (a0_0 : Int) (l0_1 : List (S65)) (l0_2 : List Int) (l0_3 : List Int) (a1 : Int) : Option (Int) := (laws_szCellS.f l0_1 a1).bind fun t102 => (if t102 < 0 then (some (-1)) else ((laws_szIntS.f l0_2 t102).bind fun t103 => (if t103 < 0 then (some (-1)) else ((laws_szIntS.f l0_3 t103).bind fun t104 => (if t104 < 0 then (some (-1)) else (some t104))))))
set_option maxHeartbeats 8000000 in
set_option maxRecDepth 100000 in
theorem laws_szYoung.calls (a0_0 : Int) (A0_1 : Option Addr) (c0_1 : Nat) (l0_1 : List (S65)) (A0_2 : Option Addr) (c0_2 : Nat) (l0_2 : List Int) (A0_3 : Option Addr) (c0_3 : Nat) (l0_3 : List Int) (a1 : Int) (r : Int) (w : World) (hr0_1 : Kd.C k65 w A0_1 l0_1.length l0_1) (hc0_1 : l0_1.length ≤ c0_1) (hr0_2 : Kd.C (Kd.int .i64) w A0_2 l0_2.length l0_2) (hc0_2 : l0_2.length ≤ c0_2) (hr0_3 : Kd.C (Kd.int .i64) w A0_3 l0_3.length l0_3) (hc0_3 : l0_3.length ≤ c0_3) (h : laws_szYoung.f a0_0 l0_1 l0_2 l0_3 a1 = some r) :
  Calls Try.prog 8 #[.agg #[.int .i64 a0_0, .slice A0_1 l0_1.length c0_1, .slice A0_2 l0_2.length c0_2, .slice A0_3 l0_3.length c0_3], .int .i64 a1] w fun e w' => e = .returned (.int .i64 r) ∧ Below w.heap.size w w' := by
 have hu25 := Try.underlying25
 have HR0_1 := Aside0.mk hr0_1
 have HC0_1 := Aside0.mk hc0_1
 clear hr0_1 hc0_1
 have HR0_2 := Aside0.mk hr0_2
 have HC0_2 := Aside0.mk hc0_2
 clear hr0_2 hc0_2
 have HR0_3 := Aside0.mk hr0_3
 have HC0_3 := Aside0.mk hc0_3
 clear hr0_3 hc0_3
 have HB := Aside0.mk (Below.refl w.heap.size w)
 have H : ((laws_szCellS.f l0_1 a1).bind fun t102 => (if t102 < 0 then (some (-1)) else ((laws_szIntS.f l0_2 t102).bind fun t103 => (if t103 < 0 then (some (-1)) else ((laws_szIntS.f l0_3 t103).bind fun t104 => (if t104 < 0 then (some (-1)) else (some t104))))))) = some r := h
 clear h
 replace H := Option.bind_eq_some_iff.mp H
 obtain ⟨t102, A30, H⟩ := H
 replace H : (if t102 < 0 then (some (-1)) else ((laws_szIntS.f l0_2 t102).bind fun t103 => (if t103 < 0 then (some (-1)) else ((laws_szIntS.f l0_3 t103).bind fun t104 => (if t104 < 0 then (some (-1)) else (some t104)))))) = some r := H
 have A3 := Aside0.mk A30
 clear A30
 by_cases c4 : t102 < 0
 ·rw [if_pos c4] at H
  have c4b0 : decide (t102 < 0) = true := decide_eq_true c4
  clear c4
  obtain rfl := Option.some.inj H
  go_enter Try.func8, Try.ntmps8
  go_wp2_with (first | ((with_reducible refine gate_dst (N := 2) rfl ?_); refine box_event ?hg (N := 2) ?hd (cs := #[.int .i64 a0_0, .slice A0_1 l0_1.length c0_1, .slice A0_2 l0_2.length c0_2, .slice A0_3 l0_3.length c0_3]) (t := 25) ?hr ?_; (case hd => rfl); (case hg => rfl); (case hr => first | (go_simp; done) | (go_simp; rfl)); intro gb101 hg w5 hbox hb; have n0_ := Aside0.mk (below_step pb_ hb); have n1_ := Aside0.mk (hbox); have n2_ := Aside0.mk ((by rw [hg]; exact (below_size pb_) : w.heap.size ≤ gb101)); have n3_ := Aside0.mk ((by rw [hg]; exact (below_size pb_) : w.heap.size ≤ gb101)); clear HB; have HB := n0_; have BK101 := n1_; have GW101 := n2_; have GE101 := n3_; clear n0_ n1_ n2_ n3_; clear hb hbox hg; have hcz6_0 := bc0 BK101.out; have hcz6_1 := bc1 BK101.out; have hcz6_2 := bc2 BK101.out; have hcz6_3 := bc3 BK101.out; have hfz6_0 := blk_frozen BK101.out 0; have hfz6_1 := blk_frozen BK101.out 1; have hfz6_2 := blk_frozen BK101.out 2; have hfz6_3 := blk_frozen BK101.out 3) | ((with_reducible refine gate_callee (f := 26) rfl ?_); refine goesL_ (some 8) rfl rfl Try.func26 (by kernel_rfl) rfl #[.slice A0_1 l0_1.length c0_1, .int .i64 a1] rfl (by (try simp only [List.map_toArray, List.map_cons, List.map_nil]); first | done | rfl | (simp only [List.length_drop, List.length_take]; rfl)) ?_; (with_reducible refine (laws_szCellS.calls _ _ l0_1 a1 t102 _ ?side1 ?side2 A3.out).mono ?_); (case side1 => exact pc_ (Kd.C_below HR0_1.out HB.out)); (case side2 => exact HC0_1.out); rintro e w' ⟨rfl, ⟨nd, rfl⟩⟩; refine ⟨_, rfl, ?_⟩))
  go_ret
  exact ⟨by first | rfl | (simp [errW_none, errW_some] <;> rfl) | (simp [*, errW_none, errW_some] <;> rfl), pb_⟩
 ·rw [if_neg c4] at H
  have c4b0 : decide (t102 < 0) = false := decide_eq_false c4
  clear c4
  replace H := Option.bind_eq_some_iff.mp H
  obtain ⟨t103, A70, H⟩ := H
  replace H : (if t103 < 0 then (some (-1)) else ((laws_szIntS.f l0_3 t103).bind fun t104 => (if t104 < 0 then (some (-1)) else (some t104)))) = some r := H
  have A7 := Aside0.mk A70
  clear A70
  by_cases c8 : t103 < 0
  ·rw [if_pos c8] at H
   have c8b0 : decide (t103 < 0) = true := decide_eq_true c8
   clear c8
   obtain rfl := Option.some.inj H
   go_enter Try.func8, Try.ntmps8
   go_wp2_with (first | ((with_reducible refine gate_dst (N := 2) rfl ?_); refine box_event ?hg (N := 2) ?hd (cs := #[.int .i64 a0_0, .slice A0_1 l0_1.length c0_1, .slice A0_2 l0_2.length c0_2, .slice A0_3 l0_3.length c0_3]) (t := 25) ?hr ?_; (case hd => rfl); (case hg => rfl); (case hr => first | (go_simp; done) | (go_simp; rfl)); intro gb101 hg w9 hbox hb; have n0_ := Aside0.mk (below_step pb_ hb); have n1_ := Aside0.mk (hbox); have n2_ := Aside0.mk ((by rw [hg]; exact (below_size pb_) : w.heap.size ≤ gb101)); have n3_ := Aside0.mk ((by rw [hg]; exact (below_size pb_) : w.heap.size ≤ gb101)); clear HB; have HB := n0_; have BK101 := n1_; have GW101 := n2_; have GE101 := n3_; clear n0_ n1_ n2_ n3_; clear hb hbox hg; have hcz10_0 := bc0 BK101.out; have hcz10_1 := bc1 BK101.out; have hcz10_2 := bc2 BK101.out; have hcz10_3 := bc3 BK101.out; have hfz10_0 := blk_frozen BK101.out 0; have hfz10_1 := blk_frozen BK101.out 1; have hfz10_2 := blk_frozen BK101.out 2; have hfz10_3 := blk_frozen BK101.out 3) | ((with_reducible refine gate_callee (f := 26) rfl ?_); refine goesL_ (some 8) rfl rfl Try.func26 (by kernel_rfl) rfl #[.slice A0_1 l0_1.length c0_1, .int .i64 a1] rfl (by (try simp only [List.map_toArray, List.map_cons, List.map_nil]); first | done | rfl | (simp only [List.length_drop, List.length_take]; rfl)) ?_; (with_reducible refine (laws_szCellS.calls _ _ l0_1 a1 t102 _ ?side1 ?side2 A3.out).mono ?_); (case side1 => exact pc_ (Kd.C_below HR0_1.out HB.out)); (case side2 => exact HC0_1.out); rintro e w' ⟨rfl, ⟨nd, rfl⟩⟩; refine ⟨_, rfl, ?_⟩) | ((with_reducible refine gate_callee (f := 27) rfl ?_); refine goesL_ (some 14) rfl rfl Try.func27 (by kernel_rfl) rfl #[.slice A0_2 l0_2.length c0_2, .int .i64 t102] rfl (by (try simp only [List.map_toArray, List.map_cons, List.map_nil]); first | done | rfl | (simp only [List.length_drop, List.length_take]; rfl)) ?_; (with_reducible refine (laws_szIntS.calls _ _ l0_2 t102 t103 _ ?side1 ?side2 A7.out).mono ?_); (case side1 => exact pc_ (Kd.C_below HR0_2.out pb_)); (case side2 => exact HC0_2.out); rintro e w' ⟨rfl, ⟨nd, rfl⟩⟩; refine ⟨_, rfl, ?_⟩))
   go_ret
   exact ⟨by first | rfl | (simp [errW_none, errW_some] <;> rfl) | (simp [*, errW_none, errW_some] <;> rfl), pb_⟩
  ·rw [if_neg c8] at H
   have c8b0 : decide (t103 < 0) = false := decide_eq_false c8
   clear c8
   replace H := Option.bind_eq_some_iff.mp H
   obtain ⟨t104, A110, H⟩ := H
   replace H : (if t104 < 0 then (some (-1)) else (some t104)) = some r := H
   have A11 := Aside0.mk A110
   clear A110
   by_cases c12 : t104 < 0
   ·rw [if_pos c12] at H
    have c12b0 : decide (t104 < 0) = true := decide_eq_true c12
    clear c12
    obtain rfl := Option.some.inj H
    go_enter Try.func8, Try.ntmps8
    go_wp2_with (first | ((with_reducible refine gate_dst (N := 2) rfl ?_); refine box_event ?hg (N := 2) ?hd (cs := #[.int .i64 a0_0, .slice A0_1 l0_1.length c0_1, .slice A0_2 l0_2.length c0_2, .slice A0_3 l0_3.length c0_3]) (t := 25) ?hr ?_; (case hd => rfl); (case hg => rfl); (case hr => first | (go_simp; done) | (go_simp; rfl)); intro gb101 hg w13 hbox hb; have n0_ := Aside0.mk (below_step pb_ hb); have n1_ := Aside0.mk (hbox); have n2_ := Aside0.mk ((by rw [hg]; exact (below_size pb_) : w.heap.size ≤ gb101)); have n3_ := Aside0.mk ((by rw [hg]; exact (below_size pb_) : w.heap.size ≤ gb101)); clear HB; have HB := n0_; have BK101 := n1_; have GW101 := n2_; have GE101 := n3_; clear n0_ n1_ n2_ n3_; clear hb hbox hg; have hcz14_0 := bc0 BK101.out; have hcz14_1 := bc1 BK101.out; have hcz14_2 := bc2 BK101.out; have hcz14_3 := bc3 BK101.out; have hfz14_0 := blk_frozen BK101.out 0; have hfz14_1 := blk_frozen BK101.out 1; have hfz14_2 := blk_frozen BK101.out 2; have hfz14_3 := blk_frozen BK101.out 3) | ((with_reducible refine gate_callee (f := 26) rfl ?_); refine goesL_ (some 8) rfl rfl Try.func26 (by kernel_rfl) rfl #[.slice A0_1 l0_1.length c0_1, .int .i64 a1] rfl (by (try simp only [List.map_toArray, List.map_cons, List.map_nil]); first | done | rfl | (simp only [List.length_drop, List.length_take]; rfl)) ?_; (with_reducible refine (laws_szCellS.calls _ _ l0_1 a1 t102 _ ?side1 ?side2 A3.out).mono ?_); (case side1 => exact pc_ (Kd.C_below HR0_1.out HB.out)); (case side2 => exact HC0_1.out); rintro e w' ⟨rfl, ⟨nd, rfl⟩⟩; refine ⟨_, rfl, ?_⟩) | ((with_reducible refine gate_callee (f := 27) rfl ?_); refine goesL_ (some 14) rfl rfl Try.func27 (by kernel_rfl) rfl #[.slice A0_2 l0_2.length c0_2, .int .i64 t102] rfl (by (try simp only [List.map_toArray, List.map_cons, List.map_nil]); first | done | rfl | (simp only [List.length_drop, List.length_take]; rfl)) ?_; (with_reducible refine (laws_szIntS.calls _ _ l0_2 t102 t103 _ ?side1 ?side2 A7.out).mono ?_); (case side1 => exact pc_ (Kd.C_below HR0_2.out pb_)); (case side2 => exact HC0_2.out); rintro e w' ⟨rfl, ⟨nd, rfl⟩⟩; refine ⟨_, rfl, ?_⟩) | ((with_reducible refine gate_callee (f := 27) rfl ?_); refine goesL_ (some 20) rfl rfl Try.func27 (by kernel_rfl) rfl #[.slice A0_3 l0_3.length c0_3, .int .i64 t103] rfl (by (try simp only [List.map_toArray, List.map_cons, List.map_nil]); first | done | rfl | (simp only [List.length_drop, List.length_take]; rfl)) ?_; (with_reducible refine (laws_szIntS.calls _ _ l0_3 t103 t104 _ ?side1 ?side2 A11.out).mono ?_); (case side1 => exact pc_ (Kd.C_below HR0_3.out pb_)); (case side2 => exact HC0_3.out); rintro e w' ⟨rfl, ⟨nd, rfl⟩⟩; refine ⟨_, rfl, ?_⟩))
    go_ret
    exact ⟨by first | rfl | (simp [errW_none, errW_some] <;> rfl) | (simp [*, errW_none, errW_some] <;> rfl), pb_⟩
   ·rw [if_neg c12] at H
    have c12b0 : decide (t104 < 0) = false := decide_eq_false c12
    clear c12
    obtain rfl := Option.some.inj H
    go_enter Try.func8, Try.ntmps8
    go_wp2_with (first | ((with_reducible refine gate_dst (N := 2) rfl ?_); refine box_event ?hg (N := 2) ?hd (cs := #[.int .i64 a0_0, .slice A0_1 l0_1.length c0_1, .slice A0_2 l0_2.length c0_2, .slice A0_3 l0_3.length c0_3]) (t := 25) ?hr ?_; (case hd => rfl); (case hg => rfl); (case hr => first | (go_simp; done) | (go_simp; rfl)); intro gb101 hg w15 hbox hb; have n0_ := Aside0.mk (below_step pb_ hb); have n1_ := Aside0.mk (hbox); have n2_ := Aside0.mk ((by rw [hg]; exact (below_size pb_) : w.heap.size ≤ gb101)); have n3_ := Aside0.mk ((by rw [hg]; exact (below_size pb_) : w.heap.size ≤ gb101)); clear HB; have HB := n0_; have BK101 := n1_; have GW101 := n2_; have GE101 := n3_; clear n0_ n1_ n2_ n3_; clear hb hbox hg; have hcz16_0 := bc0 BK101.out; have hcz16_1 := bc1 BK101.out; have hcz16_2 := bc2 BK101.out; have hcz16_3 := bc3 BK101.out; have hfz16_0 := blk_frozen BK101.out 0; have hfz16_1 := blk_frozen BK101.out 1; have hfz16_2 := blk_frozen BK101.out 2; have hfz16_3 := blk_frozen BK101.out 3) | ((with_reducible refine gate_callee (f := 26) rfl ?_); refine goesL_ (some 8) rfl rfl Try.func26 (by kernel_rfl) rfl #[.slice A0_1 l0_1.length c0_1, .int .i64 a1] rfl (by (try simp only [List.map_toArray, List.map_cons, List.map_nil]); first | done | rfl | (simp only [List.length_drop, List.length_take]; rfl)) ?_; (with_reducible refine (laws_szCellS.calls _ _ l0_1 a1 t102 _ ?side1 ?side2 A3.out).mono ?_); (case side1 => exact pc_ (Kd.C_below HR0_1.out HB.out)); (case side2 => exact HC0_1.out); rintro e w' ⟨rfl, ⟨nd, rfl⟩⟩; refine ⟨_, rfl, ?_⟩) | ((with_reducible refine gate_callee (f := 27) rfl ?_); refine goesL_ (some 14) rfl rfl Try.func27 (by kernel_rfl) rfl #[.slice A0_2 l0_2.length c0_2, .int .i64 t102] rfl (by (try simp only [List.map_toArray, List.map_cons, List.map_nil]); first | done | rfl | (simp only [List.length_drop, List.length_take]; rfl)) ?_; (with_reducible refine (laws_szIntS.calls _ _ l0_2 t102 t103 _ ?side1 ?side2 A7.out).mono ?_); (case side1 => exact pc_ (Kd.C_below HR0_2.out pb_)); (case side2 => exact HC0_2.out); rintro e w' ⟨rfl, ⟨nd, rfl⟩⟩; refine ⟨_, rfl, ?_⟩) | ((with_reducible refine gate_callee (f := 27) rfl ?_); refine goesL_ (some 20) rfl rfl Try.func27 (by kernel_rfl) rfl #[.slice A0_3 l0_3.length c0_3, .int .i64 t103] rfl (by (try simp only [List.map_toArray, List.map_cons, List.map_nil]); first | done | rfl | (simp only [List.length_drop, List.length_take]; rfl)) ?_; (with_reducible refine (laws_szIntS.calls _ _ l0_3 t103 t104 _ ?side1 ?side2 A11.out).mono ?_); (case side1 => exact pc_ (Kd.C_below HR0_3.out pb_)); (case side2 => exact HC0_3.out); rintro e w' ⟨rfl, ⟨nd, rfl⟩⟩; refine ⟨_, rfl, ?_⟩))
    go_ret
    exact ⟨by first | rfl | (simp [errW_none, errW_some] <;> rfl) | (simp [*, errW_none, errW_some] <;> rfl), pb_⟩
end Go.Proofs.Ytpjikgeglhjehaa.PH
