/- Texts of this claim, merged by merge.py (a program of this session's): the kit's printed words, where used; what functions come to; the plain law. -/
import Derived.Test.YtpjikgeglhjehaaGYoung2
import Derived.Test.YtpjikgeglhjehaaGYoung3
namespace Go.Proofs.Ytpjikgeglhjehaa.PH
open Go.RowKit Go.Proofs.YtpjikgeglhjehaaW.PrintWords Go.Proofs.YtpjikgeglhjehaaW.PrintLast Go.Proofs.YtpjikgeglhjehaaW.PrintMore
attribute [local go_sem] max2_int min2_int max_two min_two max_three min_three max_four min_four   -- for this text's walks alone
set_option linter.unusedVariables false
set_option linter.unusedSimpArgs false
mutual
def spec_lhYoung.l0 : Nat → List Bool → List Int → Int → Int → Int → List (S46) → List Int → List Int → Option (Int × (List (S46)) × List Int × List Int)
 | 0, _, _, _, _, _, _, _, _ => none
 | k + 1, x3, x15, x16, x17, x568000, x568001, x568002, x568003 => if x17 < x16 then (if 0 ≤ x17 then (if x17 < (x15.length : Int) then ((spec_lhMark.f k x568000 x568001 x568002 x568003 (rd x15 x17) x3 true).bind fun t573 => (spec_lhYoung.l0 k t573 x15 x16 (wrap64 (x17 + 1)) x568000 x568001 x568002 x568003)) else (none)) else (none)) else (spec_lhYoung.l1 k x3 x568003 (x568003.length : Int) 0 x568000 x568001 x568002 x568003)
def spec_lhYoung.l1 : Nat → List Bool → List Int → Int → Int → Int → List (S46) → List Int → List Int → Option (Int × (List (S46)) × List Int × List Int)
 | 0, _, _, _, _, _, _, _, _ => none
 | k + 1, x3, x27, x28, x29, x568000, x568001, x568002, x568003 => if x29 < x28 then (if 0 ≤ x29 then (if x29 < (x27.length : Int) then (if 0 ≤ (rd x27 x29) then (if (rd x27 x29) < (x568001.length : Int) then (if (rd_T46 x568001 (rd x27 x29)).f0 = true then (spec_lhYoung.l1 k x3 x27 x28 (wrap64 (x29 + 1)) x568000 x568001 x568002 x568003) else ((spec_lhMark.f k x568000 x568001 x568002 x568003 ((rd_T46 x568001 (rd x27 x29)).f2) x3 true).bind fun t577 => ((spec_lhMark.f k x568000 x568001 x568002 x568003 ((rd_T46 x568001 (rd x27 x29)).f3) t577 true).bind fun t578 => (spec_lhYoung.l1 k t578 x27 x28 (wrap64 (x29 + 1)) x568000 x568001 x568002 x568003)))) else (none)) else (none)) else (none)) else (none)) else (spec_lhYoung.l2 k x3 0 x568000 x568001 x568002 x568003)
def spec_lhYoung.l2 : Nat → List Bool → Int → Int → List (S46) → List Int → List Int → Option (Int × (List (S46)) × List Int × List Int)
 | 0, _, _, _, _, _, _ => none
 | k + 1, x3, x9, x568000, x568001, x568002, x568003 => if x9 < x568000 then (if 0 ≤ x9 then (if x9 < (x3.length : Int) then (spec_lhYoung.l2 k (x3.set (x9 : Int).toNat true) (wrap64 (x9 + 1)) x568000 x568001 x568002 x568003) else (none)) else (none)) else ((spec_lhMove.f k x568000 x568001 x568002 x568003 x3).bind fun bt580 => (some (bt580.1, bt580.2.1, bt580.2.2.1, bt580.2.2.2)))
end
def spec_lhYoung.f (k : Nat) (a0_0 : Int) (l0_1 : List (S46)) (l0_2 : List Int) (l0_3 : List Int) : Option (Int × (List (S46)) × List Int × List Int) := if 0 ≤ (l0_1.length : Int) then (if ((l0_1.length : Int) : Int).toNat ≤ 281474976710656 then (spec_lhYoung.l0 k (List.replicate ((l0_1.length : Int) : Int).toNat false) l0_2 (l0_2.length : Int) 0 a0_0 l0_1 l0_2 l0_3) else (none)) else (none)
theorem spec_lhYoung.mono_l : ∀ k, (∀ y0 y1 y2 y3 y4 y5 y6 y7, LeO (spec_lhYoung.l0 k y0 y1 y2 y3 y4 y5 y6 y7) (spec_lhYoung.l0 (k + 1) y0 y1 y2 y3 y4 y5 y6 y7)) ∧ (∀ y0 y1 y2 y3 y4 y5 y6 y7, LeO (spec_lhYoung.l1 k y0 y1 y2 y3 y4 y5 y6 y7) (spec_lhYoung.l1 (k + 1) y0 y1 y2 y3 y4 y5 y6 y7)) ∧ (∀ y0 y1 y2 y3 y4 y5, LeO (spec_lhYoung.l2 k y0 y1 y2 y3 y4 y5) (spec_lhYoung.l2 (k + 1) y0 y1 y2 y3 y4 y5))
 | 0 => ⟨fun _ _ _ _ _ _ _ _ r h => by simp [spec_lhYoung.l0] at h, fun _ _ _ _ _ _ _ _ r h => by simp [spec_lhYoung.l1] at h, fun _ _ _ _ _ _ r h => by simp [spec_lhYoung.l2] at h⟩
 | k + 1 => by
  obtain ⟨ih0, ih1, ih2⟩ := spec_lhYoung.mono_l k
  refine ⟨?_, ?_, ?_⟩
  ·intro y0 y1 y2 y3 y4 y5 y6 y7
   unfold spec_lhYoung.l0
   repeat' first
   | (with_reducible exact ih0 _ _ _ _ _ _ _ _)
   | (with_reducible exact ih1 _ _ _ _ _ _ _ _)
   | (with_reducible exact ih2 _ _ _ _ _ _)
   | (with_reducible exact spec_lhMark.mono _ _ _ _ _ _ _ _)
   | (with_reducible exact spec_lhMove.mono _ _ _ _ _ _)
   | (with_reducible exact LeO.refl _)
   | (with_reducible exact LeO.none _)
   | (with_reducible refine LeO.ite ?_ ?_)
   | (with_reducible refine LeO.bind ?_ (fun _ => ?_))
   | exact ih0 _ _ _ _ _ _ _ _
   | exact ih1 _ _ _ _ _ _ _ _
   | exact ih2 _ _ _ _ _ _
   | exact spec_lhMark.mono _ _ _ _ _ _ _ _
   | exact spec_lhMove.mono _ _ _ _ _ _
   | exact LeO.none _
   | refine LeO.ite ?_ ?_
   | refine LeO.bind ?_ (fun _ => ?_)
  ·intro y0 y1 y2 y3 y4 y5 y6 y7
   unfold spec_lhYoung.l1
   repeat' first
   | (with_reducible exact ih0 _ _ _ _ _ _ _ _)
   | (with_reducible exact ih1 _ _ _ _ _ _ _ _)
   | (with_reducible exact ih2 _ _ _ _ _ _)
   | (with_reducible exact spec_lhMark.mono _ _ _ _ _ _ _ _)
   | (with_reducible exact spec_lhMove.mono _ _ _ _ _ _)
   | (with_reducible exact LeO.refl _)
   | (with_reducible exact LeO.none _)
   | (with_reducible refine LeO.ite ?_ ?_)
   | (with_reducible refine LeO.bind ?_ (fun _ => ?_))
   | exact ih0 _ _ _ _ _ _ _ _
   | exact ih1 _ _ _ _ _ _ _ _
   | exact ih2 _ _ _ _ _ _
   | exact spec_lhMark.mono _ _ _ _ _ _ _ _
   | exact spec_lhMove.mono _ _ _ _ _ _
   | exact LeO.none _
   | refine LeO.ite ?_ ?_
   | refine LeO.bind ?_ (fun _ => ?_)
  ·intro y0 y1 y2 y3 y4 y5
   unfold spec_lhYoung.l2
   repeat' first
   | (with_reducible exact ih0 _ _ _ _ _ _ _ _)
   | (with_reducible exact ih1 _ _ _ _ _ _ _ _)
   | (with_reducible exact ih2 _ _ _ _ _ _)
   | (with_reducible exact spec_lhMark.mono _ _ _ _ _ _ _ _)
   | (with_reducible exact spec_lhMove.mono _ _ _ _ _ _)
   | (with_reducible exact LeO.refl _)
   | (with_reducible exact LeO.none _)
   | (with_reducible refine LeO.ite ?_ ?_)
   | (with_reducible refine LeO.bind ?_ (fun _ => ?_))
   | exact ih0 _ _ _ _ _ _ _ _
   | exact ih1 _ _ _ _ _ _ _ _
   | exact ih2 _ _ _ _ _ _
   | exact spec_lhMark.mono _ _ _ _ _ _ _ _
   | exact spec_lhMove.mono _ _ _ _ _ _
   | exact LeO.none _
   | refine LeO.ite ?_ ?_
   | refine LeO.bind ?_ (fun _ => ?_)
theorem spec_lhYoung.mono : ∀ a0 a1 a2 a3 k, LeO (spec_lhYoung.f k a0 a1 a2 a3) (spec_lhYoung.f (k + 1) a0 a1 a2 a3) := by
 intro a0 a1 a2 a3 k
 obtain ⟨ih0, ih1, ih2⟩ := spec_lhYoung.mono_l k
 unfold spec_lhYoung.f
 repeat' first
   | (with_reducible exact ih0 _ _ _ _ _ _ _ _)
   | (with_reducible exact ih1 _ _ _ _ _ _ _ _)
   | (with_reducible exact ih2 _ _ _ _ _ _)
   | (with_reducible exact spec_lhMark.mono _ _ _ _ _ _ _ _)
   | (with_reducible exact spec_lhMove.mono _ _ _ _ _ _)
   | (with_reducible exact LeO.refl _)
   | (with_reducible exact LeO.none _)
   | (with_reducible refine LeO.ite ?_ ?_)
   | (with_reducible refine LeO.bind ?_ (fun _ => ?_))
   | exact ih0 _ _ _ _ _ _ _ _
   | exact ih1 _ _ _ _ _ _ _ _
   | exact ih2 _ _ _ _ _ _
   | exact spec_lhMark.mono _ _ _ _ _ _ _ _
   | exact spec_lhMove.mono _ _ _ _ _ _
   | exact LeO.none _
   | refine LeO.ite ?_ ?_
   | refine LeO.bind ?_ (fun _ => ?_)
set_option maxHeartbeats 8000000 in
set_option maxRecDepth 100000 in
theorem spec_lhYoung.calls (k : Nat) (a0_0 : Int) (A0_1 : Option Addr) (c0_1 : Nat) (l0_1 : List (S46)) (A0_2 : Option Addr) (c0_2 : Nat) (l0_2 : List Int) (A0_3 : Option Addr) (c0_3 : Nat) (l0_3 : List Int) (r1 : Int) (r2 : List (S46)) (r3 : List Int) (r4 : List Int) (w : World) (hr0_1 : Kd.C k46 w A0_1 l0_1.length l0_1) (hc0_1 : l0_1.length ≤ c0_1) (hr0_2 : Kd.C (Kd.int .i64) w A0_2 l0_2.length l0_2) (hc0_2 : l0_2.length ≤ c0_2) (hr0_3 : Kd.C (Kd.int .i64) w A0_3 l0_3.length l0_3) (hc0_3 : l0_3.length ≤ c0_3) (h : spec_lhYoung.f k a0_0 l0_1 l0_2 l0_3 = some (r1, r2, r3, r4)) :
  Calls Try.prog 46 #[.agg #[.int .i64 a0_0, .slice A0_1 l0_1.length c0_1, .slice A0_2 l0_2.length c0_2, .slice A0_3 l0_3.length c0_3]] w fun e w' => ∃ v1_ v2_ v3_ : Value, e = .returned (.agg #[.int .i64 r1, v1_, v2_, v3_]) ∧ Kd.R k46 46 w' w.heap.size (fun _ => True) v1_ r2 ∧ Kd.R (Kd.int .i64) 3 w' w.heap.size (fun k_ => some k_ ≠ (v3_ : Value).ownBlock) v2_ r3 ∧ Kd.R (Kd.int .i64) 3 w' w.heap.size (fun k_ => some k_ ≠ (v2_ : Value).ownBlock) v3_ r4 ∧ Below w.heap.size w w' := by
 have hu30 := Try.underlying30
 have hu46 := Try.underlying46
 have HR0_1 := Aside0.mk hr0_1
 have HC0_1 := Aside0.mk hc0_1
 clear hr0_1 hc0_1
 have HR0_2 := Aside0.mk hr0_2
 have HC0_2 := Aside0.mk hc0_2
 clear hr0_2 hc0_2
 have HR0_3 := Aside0.mk hr0_3
 have HC0_3 := Aside0.mk hc0_3
 clear hr0_3 hc0_3
 have HB := Aside0.mk (Below.refl w.heap.size w)
 have H : (if 0 ≤ (l0_1.length : Int) then (if ((l0_1.length : Int) : Int).toNat ≤ 281474976710656 then (spec_lhYoung.l0 k (List.replicate ((l0_1.length : Int) : Int).toNat false) l0_2 (l0_2.length : Int) 0 a0_0 l0_1 l0_2 l0_3) else (none)) else (none)) = some (r1, r2, r3, r4) := h
 clear h
 by_cases c2 : 0 ≤ (l0_1.length : Int)
 ·rw [if_pos c2] at H
  have c2b0 := eq_true c2
  have c2b1 : decide (0 ≤ (l0_1.length : Int)) = true := decide_eq_true c2
  clear c2
  by_cases c3 : ((l0_1.length : Int) : Int).toNat ≤ 281474976710656
  ·rw [if_pos c3] at H
   have c3b0 := eq_true c3
   have c3b1 : decide (((l0_1.length : Int) : Int).toNat ≤ 281474976710656) = true := decide_eq_true c3
   clear c3
   obtain ⟨y569, hy569⟩ : ∃ y_ : List Bool, y_ = (List.replicate ((l0_1.length : Int) : Int).toNat false) := ⟨_, rfl⟩
   replace H : (spec_lhYoung.l0 k y569 l0_2 (l0_2.length : Int) 0 a0_0 l0_1 l0_2 l0_3) = some (r1, r2, r3, r4) := by first | (rw [hy569]; with_reducible exact H) | (have H2_ := (Option.bind_some _ _).symm.trans H; rw [hy569]; with_reducible exact H2_) | (have H2_ := (Option.bind_some _ _).symm.trans H; with_reducible exact H2_) | with_reducible exact H | (rw [hy569]; exact H) | exact H
   have Ny569 := Aside0.mk hy569
   clear hy569
   have H' := Aside0.mk H
   clear H
   go_enter Try.func46, Try.ntmps46
   go_wp2_with (first | ((with_reducible refine gate_dst (N := 1) rfl ?_); refine box_event ?hg (N := 1) ?hd (cs := #[.int .i64 a0_0, .slice A0_1 l0_1.length c0_1, .slice A0_2 l0_2.length c0_2, .slice A0_3 l0_3.length c0_3]) (t := 30) ?hr ?_; (case hd => rfl); (case hg => rfl); (case hr => first | (go_simp; done) | (go_simp; rfl)); intro gb567 hg w4 hbox hb; have n0_ := Aside0.mk (below_step pb_ hb); have n1_ := Aside0.mk (hbox); have n2_ := Aside0.mk ((by rw [hg]; exact (below_size pb_) : w.heap.size ≤ gb567)); have n3_ := Aside0.mk ((by rw [hg]; exact (below_size pb_) : w.heap.size ≤ gb567)); clear HB; have HB := n0_; have BK567 := n1_; have GW567 := n2_; have GE567 := n3_; clear n0_ n1_ n2_ n3_; clear hb hbox hg) | ((with_reducible refine gate_dst (N := 2) rfl ?_); refine box_event ?hg (N := 2) ?hd (cs := #[.int .i64 0, .slice none 0 0, .slice none 0 0, .slice none 0 0]) (t := 30) ?hr ?_; (case hd => rfl); (case hg => rfl); (case hr => first | (go_simp; done) | (go_simp; rfl)); intro gb568 hg w5 hbox hb; have n0_ := Aside0.mk (blk_below (pk_ BK567.out) hb); have n1_ := Aside0.mk (below_step pb_ hb); have n2_ := Aside0.mk (hbox); have n3_ := Aside0.mk ((by rw [hg]; exact (below_size pb_) : w.heap.size ≤ gb568)); have n4_ := Aside0.mk ((by rw [hg]; exact (below_size pb_) : w.heap.size ≤ gb568)); have n5_ := Aside0.mk ((by rw [hg]; exact Nat.ne_of_lt (blk_lt (pk_ BK567.out)) : gb567 ≠ gb568)); have n6_ := Aside0.mk ((by rw [hg]; exact Nat.ne_of_gt (blk_lt (pk_ BK567.out)) : gb568 ≠ gb567)); clear BK567; clear HB; have BK567 := n0_; have HB := n1_; have BK568 := n2_; have GW568 := n3_; have GE568 := n4_; have NB567_568 := n5_; have NB568_567 := n6_; clear n0_ n1_ n2_ n3_ n4_ n5_ n6_; clear hb hbox hg; have hnb6 := NB567_568.out; have hnc6 := NB568_567.out; have hcz7_0 := bc0 BK567.out; have hcz7_1 := bc1 BK567.out; have hcz7_2 := bc2 BK567.out; have hcz7_3 := bc3 BK567.out; have hfz7_0 := blk_frozen BK567.out 0; have hfz7_1 := blk_frozen BK567.out 1; have hfz7_2 := blk_frozen BK567.out 2; have hfz7_3 := blk_frozen BK567.out 3) | ((with_reducible refine gate_dst (N := 13) rfl ?_); refine Kd.R_make Kd.bool _ 4 rfl (N := 13) rfl 54 _ _ rfl (l0_1.length : Int) rfl rfl Try.underlying54 (.bool false) 1 info4 rfl (by decide) (by omega) false (ok := fun _ => True) (okp := fun _ => True) rfl (fun _ hk => hk) trivial (of_decide_eq_true (by first | (with_reducible assumption) | assumption)) (Nat.le_trans (Nat.mul_le_mul_right _ (of_decide_eq_true (by first | (with_reducible assumption) | assumption) : (l0_1.length : Int).toNat ≤ 281474976710656)) (by omega)) (Below.refl _ _) (Nat.le_refl _) ?_; intro v570 w8 ho9 hb hg_ hnew_; clear hg_ hnew_; (first | rw [← Ny569.out] at ho9 | (simp only [Int.reduceToNat] at ho9; rw [← Ny569.out] at ho9)); have n0_ := Aside0.mk (Kd.R_lower ho9 (below_size pb_)); have n1_ := Aside0.mk (blk_below (pk_ BK567.out) hb); have n2_ := Aside0.mk (blk_below (pk_ BK568.out) hb); have n3_ := Aside0.mk (below_step pb_ hb); clear BK567; clear BK568; clear HB; have HO571 := n0_; have BK567 := n1_; have BK568 := n2_; have HB := n3_; clear n0_ n1_ n2_ n3_; clear hb ho9; have hcz10_0 := bc0 BK567.out; have hcz10_1 := bc1 BK567.out; have hcz10_2 := bc2 BK567.out; have hcz10_3 := bc3 BK567.out; have hfz10_0 := blk_frozen BK567.out 0; have hfz10_1 := blk_frozen BK567.out 1; have hfz10_2 := blk_frozen BK567.out 2; have hfz10_3 := blk_frozen BK567.out 3))
   go_loopg [17] k (fun kq v17 w' => ∃ (x3_1 : List Bool) (x17_1 : Int), v17 = .int .i64 x17_1 ∧ Aside0 (spec_lhYoung.l0 kq x3_1 l0_2 (l0_2.length : Int) x17_1 a0_0 l0_1 l0_2 l0_3 = some (r1, r2, r3, r4)) ∧ Aside0 (kq ≤ k) ∧ Aside0 (Kd.R Kd.bool 4 w' w.heap.size (fun _ => True) v570 x3_1) ∧ Aside0 (w'.heap[gb567]? = some (.cells #[.int .i64 a0_0, (.slice A0_1 l0_1.length c0_1), (.slice A0_2 l0_2.length c0_2), (.slice A0_3 l0_3.length c0_3)] 30 (0, 0))) ∧ Aside0 (w'.heap[gb568]? = some (.cells #[.int .i64 0, (.slice none 0 0), (.slice none 0 0), (.slice none 0 0)] 30 (0, 0))) ∧ Aside0 (Below w.heap.size w w'))
   case atStart => exact ⟨(y569), (0), (by first | rfl | (simp; done) | (simp [*]; done)), H', ⟨Nat.le_refl _⟩, ⟨by (with_reducible repeat (first | apply Kd.R_alloc | apply Kd.R_drewN | apply Kd.R_drew)); exact HO571.out⟩, ⟨pk_ BK567.out⟩, ⟨pk_ BK568.out⟩, ⟨pb_⟩⟩
   case round =>
    clear H'
    try clear c2
    try clear c2b0
    try clear c2b1
    try clear p2
    try clear c3
    try clear c3b0
    try clear c3b1
    try clear c4
    try clear c6
    try clear hcz10_0
    try clear hcz10_1
    try clear hcz10_2
    try clear hcz10_3
    try clear hcz7_0
    try clear hcz7_1
    try clear hcz7_2
    try clear hcz7_3
    try clear hfz10_0
    try clear hfz10_1
    try clear hfz10_2
    try clear hfz10_3
    try clear hfz7_0
    try clear hfz7_1
    try clear hfz7_2
    try clear hfz7_3
    obtain ⟨x3_1, x17_1, rfl, HA, HK1, HO_3, BK567, BK568, HB⟩ := hrel
    cases gk with
    | zero => exact absurd HA.out (by simp [spec_lhYoung.l0])
    | succ k1 =>
     have H := HA.out
     clear HA
     simp only [spec_lhYoung.l0] at H
     by_cases c11 : x17_1 < (l0_2.length : Int)
     ·rw [if_pos c11] at H
      have c11b0 : decide (x17_1 < (l0_2.length : Int)) = true := decide_eq_true c11
      clear c11
      by_cases c12 : 0 ≤ x17_1
      ·rw [if_pos c12] at H
       have c12b0 : decide (0 ≤ x17_1) = true := decide_eq_true c12
       clear c12
       by_cases c13 : x17_1 < (l0_2.length : Int)
       ·rw [if_pos c13] at H
        have c13b0 : decide (x17_1 < (l0_2.length : Int)) = true := decide_eq_true c13
        clear c13
        replace H := Option.bind_eq_some_iff.mp H
        obtain ⟨t573, A140, H⟩ := H
        replace H : (spec_lhYoung.l0 k1 t573 l0_2 (l0_2.length : Int) (wrap64 (x17_1 + 1)) a0_0 l0_1 l0_2 l0_3) = some (r1, r2, r3, r4) := H
        have A14 := Aside0.mk A140
        clear A140
        have H' := Aside0.mk H
        clear H
        have p572 : 0 ≤ (x17_1 : Int) := of_decide_eq_true (by first | (with_reducible assumption) | assumption)
        have q572 : x17_1 < (l0_2.length : Int) := of_decide_eq_true (by first | (with_reducible assumption) | assumption)
        obtain ⟨ad572, e572, hx572_0⟩ := Kd.at_int HR0_2.out x17_1 p572 q572
        cases e572
        replace hx572_0 := (HB.out.cell (World.block_lt_of_cell? w _ hx572_0)).trans hx572_0
        replace p572 := eq_true p572
        replace q572 := eq_true q572
        have hnb15 := NB567_568.out
        have hnc15 := NB568_567.out
        have hcz16_0 := bc0 BK567.out
        have hcz16_1 := bc1 BK567.out
        have hcz16_2 := bc2 BK567.out
        have hcz16_3 := bc3 BK567.out
        have hfz16_0 := blk_frozen BK567.out 0
        have hfz16_1 := blk_frozen BK567.out 1
        have hfz16_2 := blk_frozen BK567.out 2
        have hfz16_3 := blk_frozen BK567.out 3
        obtain ⟨Ao17, co17, eo17⟩ := Kd.R_slice HO_3.out
        subst eo17
        go_wp2_with (first | ((with_reducible refine gate_callee (f := 56) rfl ?_); refine goesL_ (some 24) rfl rfl Try.func56 (by kernel_rfl) rfl #[.agg #[.int .i64 a0_0, .slice A0_1 l0_1.length c0_1, .slice (some ad572) l0_2.length c0_2, .slice A0_3 l0_3.length c0_3], .int .i64 (rd l0_2 x17_1), .slice Ao17 x3_1.length co17, .bool true] rfl (by (try simp only [List.map_toArray, List.map_cons, List.map_nil]); first | done | rfl | (simp only [List.length_drop, List.length_take]; rfl)) ?_; (with_reducible refine (spec_lhMark.calls k1 a0_0 _ _ l0_1 _ _ l0_2 _ _ l0_3 (rd l0_2 x17_1) (fun k_ => some k_ = (.slice Ao17 x3_1.length co17 : Value).ownBlock) (.slice Ao17 x3_1.length co17) x3_1 true t573 w _ ?side1 ?side2 ?side3 ?side4 ?side5 ?side6 ?side7 ?side8 A14.out).mono ?_); (case side1 => exact pb_); (case side2 => exact Kd.C_kept_came k46_heap HR0_1.out pb_ (fun k_ hs_ => (fun e_ => Kd.R_base HO_3.out k_ e_.symm) hs_)); (case side3 => exact HC0_1.out); (case side4 => exact Kd.C_kept_came (Kd.heap_int .i64) HR0_2.out pb_ (fun k_ hs_ => (fun e_ => Kd.R_base HO_3.out k_ e_.symm) hs_)); (case side5 => exact HC0_2.out); (case side6 => exact Kd.C_kept_came (Kd.heap_int .i64) HR0_3.out pb_ (fun k_ hs_ => (fun e_ => Kd.R_base HO_3.out k_ e_.symm) hs_)); (case side7 => exact HC0_3.out); (case side8 => exact Kd.R_tight rfl HO_3.out); rintro e w18 ⟨rfl, hy0, hb, hkp⟩; refine ⟨_, rfl, ?_⟩; have n0_ := Aside0.mk (Kd.R_reok rfl hy0 (fun k_ e_ => HO_3.out.1 k_ e_)); have n1_ := Aside0.mk (blk_kept (pk_ BK567.out) hkp (fun hs_ => (fun e_ => (Kd.R_ne HO_3.out BK567.out (by decide)) e_) hs_)); have n2_ := Aside0.mk (blk_kept (pk_ BK568.out) hkp (fun hs_ => (fun e_ => (Kd.R_ne HO_3.out BK568.out (by decide)) e_) hs_)); have n3_ := Aside0.mk (hb); clear HO_3; clear BK567; clear BK568; clear HB; have HO_3 := n0_; have BK567 := n1_; have BK568 := n2_; have HB := n3_; clear n0_ n1_ n2_ n3_; (try clear hb); (try clear hkp); (try clear hy0)))
        go_roundg k1
        case measure => have := HK1.out; omega
        case rel => exact ⟨(t573), (wrap64 (x17_1 + 1)), (by first | rfl | (simp; done) | (simp [*]; done)), H', ⟨by have := HK1.out; omega⟩, ⟨by (with_reducible repeat (first | apply Kd.R_alloc | apply Kd.R_drewN | apply Kd.R_drew)); exact HO_3.out⟩, ⟨pk_ BK567.out⟩, ⟨pk_ BK568.out⟩, ⟨pb_⟩⟩
       ·rw [if_neg c13] at H
        exact absurd H (by simp)
      ·rw [if_neg c12] at H
       exact absurd H (by simp)
     ·rw [if_neg c11] at H
      have c11b0 : decide (x17_1 < (l0_2.length : Int)) = false := decide_eq_false c11
      clear c11
      have H' := Aside0.mk H
      clear H
      have hnb19 := NB567_568.out
      have hnc19 := NB568_567.out
      have hcz20_0 := bc0 BK567.out
      have hcz20_1 := bc1 BK567.out
      have hcz20_2 := bc2 BK567.out
      have hcz20_3 := bc3 BK567.out
      have hfz20_0 := blk_frozen BK567.out 0
      have hfz20_1 := blk_frozen BK567.out 1
      have hfz20_2 := blk_frozen BK567.out 2
      have hfz20_3 := blk_frozen BK567.out 3
      go_wp2
      go_loopg [29] k1 (fun kq v29 w' => ∃ (x3_2 : List Bool) (x29_2 : Int), v29 = .int .i64 x29_2 ∧ Aside0 (spec_lhYoung.l1 kq x3_2 l0_3 (l0_3.length : Int) x29_2 a0_0 l0_1 l0_2 l0_3 = some (r1, r2, r3, r4)) ∧ Aside0 (kq ≤ k1) ∧ Aside0 (Kd.R Kd.bool 4 w' w.heap.size (fun _ => True) v570 x3_2) ∧ Aside0 (w'.heap[gb567]? = some (.cells #[.int .i64 a0_0, (.slice A0_1 l0_1.length c0_1), (.slice A0_2 l0_2.length c0_2), (.slice A0_3 l0_3.length c0_3)] 30 (0, 0))) ∧ Aside0 (w'.heap[gb568]? = some (.cells #[.int .i64 0, (.slice none 0 0), (.slice none 0 0), (.slice none 0 0)] 30 (0, 0))) ∧ Aside0 (Below w.heap.size w w'))
      case atStart => exact ⟨(x3_1), (0), (by first | rfl | (simp; done) | (simp [*]; done)), H', ⟨Nat.le_refl _⟩, ⟨by (with_reducible repeat (first | apply Kd.R_alloc | apply Kd.R_drewN | apply Kd.R_drew)); exact HO_3.out⟩, ⟨pk_ BK567.out⟩, ⟨pk_ BK568.out⟩, ⟨pb_⟩⟩
      case round =>
       clear H'
       try clear c1
       try clear c2
       try clear c2b0
       try clear c2b1
       try clear p2
       try clear c3
       try clear c3b0
       try clear c3b1
       try clear c4
       try clear c5
       try clear p5
       try clear q5
       try clear hx5
       try clear c6
       try clear p6
       try clear c11
       try clear c11b0
       try clear c12
       try clear c12b0
       try clear c13
       try clear c13b0
       try clear c15
       try clear c19
       try clear hcz10_0
       try clear hcz10_1
       try clear hcz10_2
       try clear hcz10_3
       try clear hcz16_0
       try clear hcz16_1
       try clear hcz16_2
       try clear hcz16_3
       try clear hcz20_0
       try clear hcz20_1
       try clear hcz20_2
       try clear hcz20_3
       try clear hcz7_0
       try clear hcz7_1
       try clear hcz7_2
       try clear hcz7_3
       try clear hfz10_0
       try clear hfz10_1
       try clear hfz10_2
       try clear hfz10_3
       try clear hfz16_0
       try clear hfz16_1
       try clear hfz16_2
       try clear hfz16_3
       try clear hfz20_0
       try clear hfz20_1
       try clear hfz20_2
       try clear hfz20_3
       try clear hfz7_0
       try clear hfz7_1
       try clear hfz7_2
       try clear hfz7_3
       try clear hx572_0
       try clear p2
       try clear p572
       try clear q572
       obtain ⟨x3_2, x29_2, rfl, HA, HK2, HO_3, BK567, BK568, HB⟩ := hrel
       cases gk with
       | zero => exact absurd HA.out (by simp [spec_lhYoung.l1])
       | succ k2 =>
        have H := HA.out
        clear HA
        simp only [spec_lhYoung.l1] at H
        by_cases c21 : x29_2 < (l0_3.length : Int)
        ·rw [if_pos c21] at H
         have c21b0 : decide (x29_2 < (l0_3.length : Int)) = true := decide_eq_true c21
         clear c21
         by_cases c22 : 0 ≤ x29_2
         ·rw [if_pos c22] at H
          have c22b0 : decide (0 ≤ x29_2) = true := decide_eq_true c22
          clear c22
          by_cases c23 : x29_2 < (l0_3.length : Int)
          ·rw [if_pos c23] at H
           have c23b0 : decide (x29_2 < (l0_3.length : Int)) = true := decide_eq_true c23
           clear c23
           by_cases c24 : 0 ≤ (rd l0_3 x29_2)
           ·rw [if_pos c24] at H
            have c24b0 : decide (0 ≤ (rd l0_3 x29_2)) = true := decide_eq_true c24
            clear c24
            by_cases c25 : (rd l0_3 x29_2) < (l0_1.length : Int)
            ·rw [if_pos c25] at H
             have c25b0 : decide ((rd l0_3 x29_2) < (l0_1.length : Int)) = true := decide_eq_true c25
             clear c25
             obtain ⟨bq26, hbq26⟩ : ∃ b_ : Bool, b_ = ((rd_T46 l0_1 (rd l0_3 x29_2)).f0) := ⟨_, rfl⟩
             replace H : (if bq26 = true then (spec_lhYoung.l1 k2 x3_2 l0_3 (l0_3.length : Int) (wrap64 (x29_2 + 1)) a0_0 l0_1 l0_2 l0_3) else ((spec_lhMark.f k2 a0_0 l0_1 l0_2 l0_3 ((rd_T46 l0_1 (rd l0_3 x29_2)).f2) x3_2 true).bind fun t577 => ((spec_lhMark.f k2 a0_0 l0_1 l0_2 l0_3 ((rd_T46 l0_1 (rd l0_3 x29_2)).f3) t577 true).bind fun t578 => (spec_lhYoung.l1 k2 t578 l0_3 (l0_3.length : Int) (wrap64 (x29_2 + 1)) a0_0 l0_1 l0_2 l0_3)))) = some (r1, r2, r3, r4) := by rw [← hbq26] at H; exact H
             have Nbq26 := Aside0.mk hbq26
             clear hbq26
             by_cases c27 : bq26 = true
             ·subst c27
              have H1 : (spec_lhYoung.l1 k2 x3_2 l0_3 (l0_3.length : Int) (wrap64 (x29_2 + 1)) a0_0 l0_1 l0_2 l0_3) = some (r1, r2, r3, r4) := by rw [if_pos rfl] at H; exact H
              clear H
              have H := H1
              clear H1
              have H' := Aside0.mk H
              clear H
              have p574 : 0 ≤ (x29_2 : Int) := of_decide_eq_true (by first | (with_reducible assumption) | assumption)
              have q574 : x29_2 < (l0_3.length : Int) := of_decide_eq_true (by first | (with_reducible assumption) | assumption)
              obtain ⟨ad574, e574, hx574_0⟩ := Kd.at_int HR0_3.out x29_2 p574 q574
              cases e574
              replace hx574_0 := (HB.out.cell (World.block_lt_of_cell? w _ hx574_0)).trans hx574_0
              replace p574 := eq_true p574
              replace q574 := eq_true q574
              have hnb28 := NB567_568.out
              have hnc28 := NB568_567.out
              have hcz29_0 := bc0 BK567.out
              have hcz29_1 := bc1 BK567.out
              have hcz29_2 := bc2 BK567.out
              have hcz29_3 := bc3 BK567.out
              have hfz29_0 := blk_frozen BK567.out 0
              have hfz29_1 := blk_frozen BK567.out 1
              have hfz29_2 := blk_frozen BK567.out 2
              have hfz29_3 := blk_frozen BK567.out 3
              have p575 : 0 ≤ ((rd l0_3 x29_2) : Int) := of_decide_eq_true (by first | (with_reducible assumption) | assumption)
              have q575 : (rd l0_3 x29_2) < (l0_1.length : Int) := of_decide_eq_true (by first | (with_reducible assumption) | assumption)
              obtain ⟨ad575, e575, hx575_0, hx575_1, hx575_2, hx575_3⟩ := at_T46 HR0_1.out (rd l0_3 x29_2) p575 q575
              (try rw [← Nbq26.out] at hx575_0)
              cases e575
              replace hx575_0 := (HB.out.cell (World.block_lt_of_cell? w _ hx575_0)).trans hx575_0
              replace hx575_1 := (HB.out.cell (World.block_lt_of_cell? w _ hx575_1)).trans hx575_1
              replace hx575_2 := (HB.out.cell (World.block_lt_of_cell? w _ hx575_2)).trans hx575_2
              replace hx575_3 := (HB.out.cell (World.block_lt_of_cell? w _ hx575_3)).trans hx575_3
              replace p575 := eq_true p575
              replace q575 := eq_true q575
              go_wp2_with (first | ((with_reducible refine gate_dst (N := 8) rfl ?_); refine box_event ?hg (N := 8) ?hd (cs := #[.bool false, .int .i64 0, .int .i64 0, .int .i64 0]) (t := 46) ?hr ?_; (case hd => rfl); (case hg => rfl); (case hr => first | (go_simp; done) | (go_simp; rfl)); intro gb576 hg w30 hbox hb; have n0_ := Aside0.mk (Kd.R_below (pr_ HO_3.out) hb); have n1_ := Aside0.mk (blk_below (pk_ BK567.out) hb); have n2_ := Aside0.mk (blk_below (pk_ BK568.out) hb); have n3_ := Aside0.mk (below_step pb_ hb); have n4_ := Aside0.mk (hbox); have n5_ := Aside0.mk ((by rw [hg]; exact (below_size pb_) : w.heap.size ≤ gb576)); have n6_ := Aside0.mk ((by rw [hg]; exact (below_size pb_) : w.heap.size ≤ gb576)); have n7_ := Aside0.mk ((by rw [hg]; exact Nat.ne_of_lt (blk_lt (pk_ BK567.out)) : gb567 ≠ gb576)); have n8_ := Aside0.mk ((by rw [hg]; exact Nat.ne_of_gt (blk_lt (pk_ BK567.out)) : gb576 ≠ gb567)); have n9_ := Aside0.mk ((by rw [hg]; exact Nat.ne_of_lt (blk_lt (pk_ BK568.out)) : gb568 ≠ gb576)); have n10_ := Aside0.mk ((by rw [hg]; exact Nat.ne_of_gt (blk_lt (pk_ BK568.out)) : gb576 ≠ gb568)); clear HO_3; clear BK567; clear BK568; clear HB; have HO_3 := n0_; have BK567 := n1_; have BK568 := n2_; have HB := n3_; have BK576 := n4_; have GW576 := n5_; have GE576 := n6_; have NB567_576 := n7_; have NB576_567 := n8_; have NB568_576 := n9_; have NB576_568 := n10_; clear n0_ n1_ n2_ n3_ n4_ n5_ n6_ n7_ n8_ n9_ n10_; clear hb hbox hg; have hnb31 := NB576_567.out; have hnc31 := NB567_576.out; have hnb32 := NB576_568.out; have hnc32 := NB568_576.out; have hcz33_0 := bc0 BK576.out; have hcz33_1 := bc1 BK576.out; have hcz33_2 := bc2 BK576.out; have hcz33_3 := bc3 BK576.out; have hfz33_0 := blk_frozen BK576.out 0; have hfz33_1 := blk_frozen BK576.out 1; have hfz33_2 := blk_frozen BK576.out 2; have hfz33_3 := blk_frozen BK576.out 3))
              go_roundg k2
              case measure => have := HK1.out; have := HK2.out; omega
              case rel => exact ⟨(x3_2), (wrap64 (x29_2 + 1)), (by first | rfl | (simp; done) | (simp [*]; done)), H', ⟨by have := HK1.out; have := HK2.out; omega⟩, ⟨by (with_reducible repeat (first | apply Kd.R_alloc | apply Kd.R_drewN | apply Kd.R_drew)); exact Kd.R_mono (Kd.R_far (p := ⟨gb576, 3, none⟩) (Kd.R_far (p := ⟨gb576, 2, none⟩) (Kd.R_far (p := ⟨gb576, 1, none⟩) (Kd.R_far (p := ⟨gb576, 0, none⟩) (Kd.R_types HO_3.out BK576.out (by decide)) (fun _ hk => hk.2) (.bool true)) (fun _ hk => hk.2) (.int .i64 ((rd_T46 l0_1 (rd l0_3 x29_2)).f1))) (fun _ hk => hk.2) (.int .i64 ((rd_T46 l0_1 (rd l0_3 x29_2)).f2))) (fun _ hk => hk.2) (.int .i64 ((rd_T46 l0_1 (rd l0_3 x29_2)).f3))) (fun _ hk => trivial)⟩, ⟨by (with_reducible repeat (first | refine blk_drewN ?_ _ | refine blk_drew ?_ | refine blk_alloc ?_ _)); refine blk_far ?_ NB567_576.out _; (with_reducible repeat (first | refine blk_drewN ?_ _ | refine blk_drew ?_ | refine blk_alloc ?_ _)); refine blk_far ?_ NB567_576.out _; (with_reducible repeat (first | refine blk_drewN ?_ _ | refine blk_drew ?_ | refine blk_alloc ?_ _)); refine blk_far ?_ NB567_576.out _; (with_reducible repeat (first | refine blk_drewN ?_ _ | refine blk_drew ?_ | refine blk_alloc ?_ _)); refine blk_far ?_ NB567_576.out _; (with_reducible repeat (first | refine blk_drewN ?_ _ | refine blk_drew ?_ | refine blk_alloc ?_ _)); exact BK567.out⟩, ⟨by (with_reducible repeat (first | refine blk_drewN ?_ _ | refine blk_drew ?_ | refine blk_alloc ?_ _)); refine blk_far ?_ NB568_576.out _; (with_reducible repeat (first | refine blk_drewN ?_ _ | refine blk_drew ?_ | refine blk_alloc ?_ _)); refine blk_far ?_ NB568_576.out _; (with_reducible repeat (first | refine blk_drewN ?_ _ | refine blk_drew ?_ | refine blk_alloc ?_ _)); refine blk_far ?_ NB568_576.out _; (with_reducible repeat (first | refine blk_drewN ?_ _ | refine blk_drew ?_ | refine blk_alloc ?_ _)); refine blk_far ?_ NB568_576.out _; (with_reducible repeat (first | refine blk_drewN ?_ _ | refine blk_drew ?_ | refine blk_alloc ?_ _)); exact BK568.out⟩, ⟨pb_⟩⟩
             ·replace c27 := Bool.eq_false_iff.mpr c27
              subst c27
              have H1 : ((spec_lhMark.f k2 a0_0 l0_1 l0_2 l0_3 ((rd_T46 l0_1 (rd l0_3 x29_2)).f2) x3_2 true).bind fun t577 => ((spec_lhMark.f k2 a0_0 l0_1 l0_2 l0_3 ((rd_T46 l0_1 (rd l0_3 x29_2)).f3) t577 true).bind fun t578 => (spec_lhYoung.l1 k2 t578 l0_3 (l0_3.length : Int) (wrap64 (x29_2 + 1)) a0_0 l0_1 l0_2 l0_3))) = some (r1, r2, r3, r4) := by rw [if_neg (show ¬ (false = true) by decide)] at H; exact H
              clear H
              have H := H1
              clear H1
              replace H := Option.bind_eq_some_iff.mp H
              obtain ⟨t577, A340, H⟩ := H
              replace H : ((spec_lhMark.f k2 a0_0 l0_1 l0_2 l0_3 ((rd_T46 l0_1 (rd l0_3 x29_2)).f3) t577 true).bind fun t578 => (spec_lhYoung.l1 k2 t578 l0_3 (l0_3.length : Int) (wrap64 (x29_2 + 1)) a0_0 l0_1 l0_2 l0_3)) = some (r1, r2, r3, r4) := H
              have A34 := Aside0.mk A340
              clear A340
              replace H := Option.bind_eq_some_iff.mp H
              obtain ⟨t578, A350, H⟩ := H
              replace H : (spec_lhYoung.l1 k2 t578 l0_3 (l0_3.length : Int) (wrap64 (x29_2 + 1)) a0_0 l0_1 l0_2 l0_3) = some (r1, r2, r3, r4) := H
              have A35 := Aside0.mk A350
              clear A350
              have H' := Aside0.mk H
              clear H
              have p574 : 0 ≤ (x29_2 : Int) := of_decide_eq_true (by first | (with_reducible assumption) | assumption)
              have q574 : x29_2 < (l0_3.length : Int) := of_decide_eq_true (by first | (with_reducible assumption) | assumption)
              obtain ⟨ad574, e574, hx574_0⟩ := Kd.at_int HR0_3.out x29_2 p574 q574
              cases e574
              replace hx574_0 := (HB.out.cell (World.block_lt_of_cell? w _ hx574_0)).trans hx574_0
              replace p574 := eq_true p574
              replace q574 := eq_true q574
              have hnb36 := NB567_568.out
              have hnc36 := NB568_567.out
              have hcz37_0 := bc0 BK567.out
              have hcz37_1 := bc1 BK567.out
              have hcz37_2 := bc2 BK567.out
              have hcz37_3 := bc3 BK567.out
              have hfz37_0 := blk_frozen BK567.out 0
              have hfz37_1 := blk_frozen BK567.out 1
              have hfz37_2 := blk_frozen BK567.out 2
              have hfz37_3 := blk_frozen BK567.out 3
              have p575 : 0 ≤ ((rd l0_3 x29_2) : Int) := of_decide_eq_true (by first | (with_reducible assumption) | assumption)
              have q575 : (rd l0_3 x29_2) < (l0_1.length : Int) := of_decide_eq_true (by first | (with_reducible assumption) | assumption)
              obtain ⟨ad575, e575, hx575_0, hx575_1, hx575_2, hx575_3⟩ := at_T46 HR0_1.out (rd l0_3 x29_2) p575 q575
              (try rw [← Nbq26.out] at hx575_0)
              cases e575
              replace hx575_0 := (HB.out.cell (World.block_lt_of_cell? w _ hx575_0)).trans hx575_0
              replace hx575_1 := (HB.out.cell (World.block_lt_of_cell? w _ hx575_1)).trans hx575_1
              replace hx575_2 := (HB.out.cell (World.block_lt_of_cell? w _ hx575_2)).trans hx575_2
              replace hx575_3 := (HB.out.cell (World.block_lt_of_cell? w _ hx575_3)).trans hx575_3
              replace p575 := eq_true p575
              replace q575 := eq_true q575
              go_wp2_with (first | ((with_reducible refine gate_dst (N := 8) rfl ?_); refine box_event ?hg (N := 8) ?hd (cs := #[.bool false, .int .i64 0, .int .i64 0, .int .i64 0]) (t := 46) ?hr ?_; (case hd => rfl); (case hg => rfl); (case hr => first | (go_simp; done) | (go_simp; rfl)); intro gb576 hg w38 hbox hb; have n0_ := Aside0.mk (Kd.R_below (pr_ HO_3.out) hb); have n1_ := Aside0.mk (blk_below (pk_ BK567.out) hb); have n2_ := Aside0.mk (blk_below (pk_ BK568.out) hb); have n3_ := Aside0.mk (below_step pb_ hb); have n4_ := Aside0.mk (hbox); have n5_ := Aside0.mk ((by rw [hg]; exact (below_size pb_) : w.heap.size ≤ gb576)); have n6_ := Aside0.mk ((by rw [hg]; exact (below_size pb_) : w.heap.size ≤ gb576)); have n7_ := Aside0.mk ((by rw [hg]; exact Nat.ne_of_lt (blk_lt (pk_ BK567.out)) : gb567 ≠ gb576)); have n8_ := Aside0.mk ((by rw [hg]; exact Nat.ne_of_gt (blk_lt (pk_ BK567.out)) : gb576 ≠ gb567)); have n9_ := Aside0.mk ((by rw [hg]; exact Nat.ne_of_lt (blk_lt (pk_ BK568.out)) : gb568 ≠ gb576)); have n10_ := Aside0.mk ((by rw [hg]; exact Nat.ne_of_gt (blk_lt (pk_ BK568.out)) : gb576 ≠ gb568)); clear HO_3; clear BK567; clear BK568; clear HB; have HO_3 := n0_; have BK567 := n1_; have BK568 := n2_; have HB := n3_; have BK576 := n4_; have GW576 := n5_; have GE576 := n6_; have NB567_576 := n7_; have NB576_567 := n8_; have NB568_576 := n9_; have NB576_568 := n10_; clear n0_ n1_ n2_ n3_ n4_ n5_ n6_ n7_ n8_ n9_ n10_; clear hb hbox hg; have hnb39 := NB576_567.out; have hnc39 := NB567_576.out; have hnb40 := NB576_568.out; have hnc40 := NB568_576.out; have hcz41_0 := bc0 BK576.out; have hcz41_1 := bc1 BK576.out; have hcz41_2 := bc2 BK576.out; have hcz41_3 := bc3 BK576.out; have hfz41_0 := blk_frozen BK576.out 0; have hfz41_1 := blk_frozen BK576.out 1; have hfz41_2 := blk_frozen BK576.out 2; have hfz41_3 := blk_frozen BK576.out 3) | ((with_reducible refine gate_store (t := 46) (p := 8) rfl ?_); refine store_event (t := 46) (p := 8) (v := ?vo_w42) (w1 := ((((w38.setCell ⟨gb576, 0, none⟩ (.bool false)).setCell ⟨gb576, 1, none⟩ (.int .i64 ((rd_T46 l0_1 (rd l0_3 x29_2)).f1))).setCell ⟨gb576, 2, none⟩ (.int .i64 ((rd_T46 l0_1 (rd l0_3 x29_2)).f2))).setCell ⟨gb576, 3, none⟩ (.int .i64 ((rd_T46 l0_1 (rd l0_3 x29_2)).f3)))) ?hg ?ho ?hn ?hr ?_; (case ho => rfl); (case hg => rfl); (case hn => rfl); (case hr => first | (go_simp; done) | (go_simp; rfl)); intro w42 hw; have n0_ : Aside0 (Kd.R Kd.bool 4 w42 w.heap.size (fun _ => True) v570 x3_2) := ⟨(by rw [hw]; exact (by (with_reducible repeat (first | apply Kd.R_alloc | apply Kd.R_drewN | apply Kd.R_drew)); exact Kd.R_mono (Kd.R_far (p := ⟨gb576, 3, none⟩) (Kd.R_far (p := ⟨gb576, 2, none⟩) (Kd.R_far (p := ⟨gb576, 1, none⟩) (Kd.R_far (p := ⟨gb576, 0, none⟩) (Kd.R_types HO_3.out BK576.out (by decide)) (fun _ hk => hk.2) (.bool false)) (fun _ hk => hk.2) (.int .i64 ((rd_T46 l0_1 (rd l0_3 x29_2)).f1))) (fun _ hk => hk.2) (.int .i64 ((rd_T46 l0_1 (rd l0_3 x29_2)).f2))) (fun _ hk => hk.2) (.int .i64 ((rd_T46 l0_1 (rd l0_3 x29_2)).f3))) (fun _ hk => trivial)))⟩; have n1_ : Aside0 (w42.heap[gb567]? = some (.cells #[.int .i64 a0_0, .slice (some ad575) l0_1.length c0_1, .slice A0_2 l0_2.length c0_2, .slice (some ad574) l0_3.length c0_3] 30 (0, 0))) := ⟨(by rw [hw]; exact (by (with_reducible repeat (first | refine blk_drewN ?_ _ | refine blk_drew ?_ | refine blk_alloc ?_ _)); refine blk_far ?_ NB567_576.out _; (with_reducible repeat (first | refine blk_drewN ?_ _ | refine blk_drew ?_ | refine blk_alloc ?_ _)); refine blk_far ?_ NB567_576.out _; (with_reducible repeat (first | refine blk_drewN ?_ _ | refine blk_drew ?_ | refine blk_alloc ?_ _)); refine blk_far ?_ NB567_576.out _; (with_reducible repeat (first | refine blk_drewN ?_ _ | refine blk_drew ?_ | refine blk_alloc ?_ _)); refine blk_far ?_ NB567_576.out _; (with_reducible repeat (first | refine blk_drewN ?_ _ | refine blk_drew ?_ | refine blk_alloc ?_ _)); exact BK567.out))⟩; have n2_ : Aside0 (w42.heap[gb568]? = some (.cells #[.int .i64 0, .slice none 0 0, .slice none 0 0, .slice none 0 0] 30 (0, 0))) := ⟨(by rw [hw]; exact (by (with_reducible repeat (first | refine blk_drewN ?_ _ | refine blk_drew ?_ | refine blk_alloc ?_ _)); refine blk_far ?_ NB568_576.out _; (with_reducible repeat (first | refine blk_drewN ?_ _ | refine blk_drew ?_ | refine blk_alloc ?_ _)); refine blk_far ?_ NB568_576.out _; (with_reducible repeat (first | refine blk_drewN ?_ _ | refine blk_drew ?_ | refine blk_alloc ?_ _)); refine blk_far ?_ NB568_576.out _; (with_reducible repeat (first | refine blk_drewN ?_ _ | refine blk_drew ?_ | refine blk_alloc ?_ _)); refine blk_far ?_ NB568_576.out _; (with_reducible repeat (first | refine blk_drewN ?_ _ | refine blk_drew ?_ | refine blk_alloc ?_ _)); exact BK568.out))⟩; have n3_ : Aside0 (w42.heap[gb576]? = some (.cells #[.bool false, .int .i64 ((rd_T46 l0_1 (rd l0_3 x29_2)).f1), .int .i64 ((rd_T46 l0_1 (rd l0_3 x29_2)).f2), .int .i64 ((rd_T46 l0_1 (rd l0_3 x29_2)).f3)] 46 (0, 0))) := ⟨(by rw [hw]; exact (by (with_reducible repeat (first | refine blk_drewN ?_ _ | refine blk_drew ?_ | refine blk_alloc ?_ _)); refine blk_put (cs := #[.bool false, .int .i64 ((rd_T46 l0_1 (rd l0_3 x29_2)).f1), .int .i64 ((rd_T46 l0_1 (rd l0_3 x29_2)).f2), .int .i64 0]) ?_ 3 _ rfl; (with_reducible repeat (first | refine blk_drewN ?_ _ | refine blk_drew ?_ | refine blk_alloc ?_ _)); refine blk_put (cs := #[.bool false, .int .i64 ((rd_T46 l0_1 (rd l0_3 x29_2)).f1), .int .i64 0, .int .i64 0]) ?_ 2 _ rfl; (with_reducible repeat (first | refine blk_drewN ?_ _ | refine blk_drew ?_ | refine blk_alloc ?_ _)); refine blk_put (cs := #[.bool false, .int .i64 0, .int .i64 0, .int .i64 0]) ?_ 1 _ rfl; (with_reducible repeat (first | refine blk_drewN ?_ _ | refine blk_drew ?_ | refine blk_alloc ?_ _)); refine blk_put (cs := #[.bool false, .int .i64 0, .int .i64 0, .int .i64 0]) ?_ 0 _ rfl; (with_reducible repeat (first | refine blk_drewN ?_ _ | refine blk_drew ?_ | refine blk_alloc ?_ _)); exact BK576.out))⟩; have n4_ : Aside0 (Below w.heap.size w w42) := ⟨(by rw [hw]; exact pb_)⟩; clear hw; clear HO_3; clear BK567; clear BK568; clear BK576; clear HB; have HO_3 := n0_; have BK567 := n1_; have BK568 := n2_; have BK576 := n3_; have HB := n4_; clear n0_ n1_ n2_ n3_ n4_; have hcz43_0 := bc0 BK576.out; have hcz43_1 := bc1 BK576.out; have hcz43_2 := bc2 BK576.out; have hcz43_3 := bc3 BK576.out; have hfz43_0 := blk_frozen BK576.out 0; have hfz43_1 := blk_frozen BK576.out 1; have hfz43_2 := blk_frozen BK576.out 2; have hfz43_3 := blk_frozen BK576.out 3; have hcz44_0 := bc0 BK567.out; have hcz44_1 := bc1 BK567.out; have hcz44_2 := bc2 BK567.out; have hcz44_3 := bc3 BK567.out; have hfz44_0 := blk_frozen BK567.out 0; have hfz44_1 := blk_frozen BK567.out 1; have hfz44_2 := blk_frozen BK567.out 2; have hfz44_3 := blk_frozen BK567.out 3; obtain ⟨Ao45, co45, eo45⟩ := Kd.R_slice HO_3.out; subst eo45) | ((with_reducible refine gate_callee (f := 56) rfl ?_); refine goesL_ (some 45) rfl rfl Try.func56 (by kernel_rfl) rfl #[.agg #[.int .i64 a0_0, .slice (some ad575) l0_1.length c0_1, .slice A0_2 l0_2.length c0_2, .slice (some ad574) l0_3.length c0_3], .int .i64 ((rd_T46 l0_1 (rd l0_3 x29_2)).f2), .slice Ao45 x3_2.length co45, .bool true] rfl (by (try simp only [List.map_toArray, List.map_cons, List.map_nil]); first | done | rfl | (simp only [List.length_drop, List.length_take]; rfl)) ?_; (with_reducible refine (spec_lhMark.calls k2 a0_0 _ _ l0_1 _ _ l0_2 _ _ l0_3 ((rd_T46 l0_1 (rd l0_3 x29_2)).f2) (fun k_ => some k_ = (.slice Ao45 x3_2.length co45 : Value).ownBlock) (.slice Ao45 x3_2.length co45) x3_2 true t577 w _ ?side1 ?side2 ?side3 ?side4 ?side5 ?side6 ?side7 ?side8 A34.out).mono ?_); (case side1 => exact pb_); (case side2 => exact Kd.C_kept_came k46_heap HR0_1.out pb_ (fun k_ hs_ => (fun e_ => Kd.R_base HO_3.out k_ e_.symm) hs_)); (case side3 => exact HC0_1.out); (case side4 => exact Kd.C_kept_came (Kd.heap_int .i64) HR0_2.out pb_ (fun k_ hs_ => (fun e_ => Kd.R_base HO_3.out k_ e_.symm) hs_)); (case side5 => exact HC0_2.out); (case side6 => exact Kd.C_kept_came (Kd.heap_int .i64) HR0_3.out pb_ (fun k_ hs_ => (fun e_ => Kd.R_base HO_3.out k_ e_.symm) hs_)); (case side7 => exact HC0_3.out); (case side8 => exact Kd.R_tight rfl HO_3.out); rintro e w46 ⟨rfl, hy0, hb, hkp⟩; refine ⟨_, rfl, ?_⟩; have n0_ := Aside0.mk (Kd.R_reok rfl hy0 (fun k_ e_ => HO_3.out.1 k_ e_)); have n1_ := Aside0.mk (blk_kept (pk_ BK567.out) hkp (fun hs_ => (fun e_ => (Kd.R_ne HO_3.out BK567.out (by decide)) e_) hs_)); have n2_ := Aside0.mk (blk_kept (pk_ BK568.out) hkp (fun hs_ => (fun e_ => (Kd.R_ne HO_3.out BK568.out (by decide)) e_) hs_)); have n3_ := Aside0.mk (blk_kept (pk_ BK576.out) hkp (fun hs_ => (fun e_ => (Kd.R_ne HO_3.out BK576.out (by decide)) e_) hs_)); have n4_ := Aside0.mk (hb); clear HO_3; clear BK567; clear BK568; clear BK576; clear HB; have HO_3 := n0_; have BK567 := n1_; have BK568 := n2_; have BK576 := n3_; have HB := n4_; clear n0_ n1_ n2_ n3_ n4_; (try clear hb); (try clear hkp); (try clear hy0); have hcz47_0 := bc0 BK567.out; have hcz47_1 := bc1 BK567.out; have hcz47_2 := bc2 BK567.out; have hcz47_3 := bc3 BK567.out; have hfz47_0 := blk_frozen BK567.out 0; have hfz47_1 := blk_frozen BK567.out 1; have hfz47_2 := blk_frozen BK567.out 2; have hfz47_3 := blk_frozen BK567.out 3; have hcz48_0 := bc0 BK576.out; have hcz48_1 := bc1 BK576.out; have hcz48_2 := bc2 BK576.out; have hcz48_3 := bc3 BK576.out; have hfz48_0 := blk_frozen BK576.out 0; have hfz48_1 := blk_frozen BK576.out 1; have hfz48_2 := blk_frozen BK576.out 2; have hfz48_3 := blk_frozen BK576.out 3) | ((with_reducible refine gate_callee (f := 56) rfl ?_); refine goesL_ (some 50) rfl rfl Try.func56 (by kernel_rfl) rfl #[.agg #[.int .i64 a0_0, .slice (some ad575) l0_1.length c0_1, .slice A0_2 l0_2.length c0_2, .slice (some ad574) l0_3.length c0_3], .int .i64 ((rd_T46 l0_1 (rd l0_3 x29_2)).f3), .slice Ao45 x3_2.length co45, .bool true] rfl (by (try simp only [List.map_toArray, List.map_cons, List.map_nil]); first | done | rfl | (simp only [List.length_drop, List.length_take]; rfl)) ?_; (with_reducible refine (spec_lhMark.calls k2 a0_0 _ _ l0_1 _ _ l0_2 _ _ l0_3 ((rd_T46 l0_1 (rd l0_3 x29_2)).f3) (fun k_ => some k_ = (.slice Ao45 x3_2.length co45 : Value).ownBlock) (.slice Ao45 x3_2.length co45) t577 true t578 w _ ?side1 ?side2 ?side3 ?side4 ?side5 ?side6 ?side7 ?side8 A35.out).mono ?_); (case side1 => exact pb_); (case side2 => exact Kd.C_kept_came k46_heap HR0_1.out pb_ (fun k_ hs_ => (fun e_ => Kd.R_base HO_3.out k_ e_.symm) hs_)); (case side3 => exact HC0_1.out); (case side4 => exact Kd.C_kept_came (Kd.heap_int .i64) HR0_2.out pb_ (fun k_ hs_ => (fun e_ => Kd.R_base HO_3.out k_ e_.symm) hs_)); (case side5 => exact HC0_2.out); (case side6 => exact Kd.C_kept_came (Kd.heap_int .i64) HR0_3.out pb_ (fun k_ hs_ => (fun e_ => Kd.R_base HO_3.out k_ e_.symm) hs_)); (case side7 => exact HC0_3.out); (case side8 => exact Kd.R_tight rfl HO_3.out); rintro e w49 ⟨rfl, hy0, hb, hkp⟩; refine ⟨_, rfl, ?_⟩; have n0_ := Aside0.mk (Kd.R_reok rfl hy0 (fun k_ e_ => HO_3.out.1 k_ e_)); have n1_ := Aside0.mk (blk_kept (pk_ BK567.out) hkp (fun hs_ => (fun e_ => (Kd.R_ne HO_3.out BK567.out (by decide)) e_) hs_)); have n2_ := Aside0.mk (blk_kept (pk_ BK568.out) hkp (fun hs_ => (fun e_ => (Kd.R_ne HO_3.out BK568.out (by decide)) e_) hs_)); have n3_ := Aside0.mk (blk_kept (pk_ BK576.out) hkp (fun hs_ => (fun e_ => (Kd.R_ne HO_3.out BK576.out (by decide)) e_) hs_)); have n4_ := Aside0.mk (hb); clear HO_3; clear BK567; clear BK568; clear BK576; clear HB; have HO_3 := n0_; have BK567 := n1_; have BK568 := n2_; have BK576 := n3_; have HB := n4_; clear n0_ n1_ n2_ n3_ n4_; (try clear hb); (try clear hkp); (try clear hy0)))
              go_roundg k2
              case measure => have := HK1.out; have := HK2.out; omega
              case rel => exact ⟨(t578), (wrap64 (x29_2 + 1)), (by first | rfl | (simp; done) | (simp [*]; done)), H', ⟨by have := HK1.out; have := HK2.out; omega⟩, ⟨by (with_reducible repeat (first | apply Kd.R_alloc | apply Kd.R_drewN | apply Kd.R_drew)); exact HO_3.out⟩, ⟨pk_ BK567.out⟩, ⟨pk_ BK568.out⟩, ⟨pb_⟩⟩
            ·rw [if_neg c25] at H
             exact absurd H (by simp)
           ·rw [if_neg c24] at H
            exact absurd H (by simp)
          ·rw [if_neg c23] at H
           exact absurd H (by simp)
         ·rw [if_neg c22] at H
          exact absurd H (by simp)
        ·rw [if_neg c21] at H
         have c21b0 : decide (x29_2 < (l0_3.length : Int)) = false := decide_eq_false c21
         clear c21
         have H' := Aside0.mk H
         clear H
         go_wp2
         go_loopg [9] k2 (fun kq v9 w' => ∃ (x3_3 : List Bool) (x9_3 : Int), v9 = .int .i64 x9_3 ∧ Aside0 (spec_lhYoung.l2 kq x3_3 x9_3 a0_0 l0_1 l0_2 l0_3 = some (r1, r2, r3, r4)) ∧ Aside0 (kq ≤ k2) ∧ Aside0 (Kd.R Kd.bool 4 w' w.heap.size (fun _ => True) v570 x3_3) ∧ Aside0 (w'.heap[gb567]? = some (.cells #[.int .i64 a0_0, (.slice A0_1 l0_1.length c0_1), (.slice A0_2 l0_2.length c0_2), (.slice A0_3 l0_3.length c0_3)] 30 (0, 0))) ∧ Aside0 (w'.heap[gb568]? = some (.cells #[.int .i64 0, (.slice none 0 0), (.slice none 0 0), (.slice none 0 0)] 30 (0, 0))) ∧ Aside0 (Below w.heap.size w w'))
         case atStart => exact ⟨(x3_2), (0), (by first | rfl | (simp; done) | (simp [*]; done)), H', ⟨Nat.le_refl _⟩, ⟨by (with_reducible repeat (first | apply Kd.R_alloc | apply Kd.R_drewN | apply Kd.R_drew)); exact HO_3.out⟩, ⟨pk_ BK567.out⟩, ⟨pk_ BK568.out⟩, ⟨pb_⟩⟩
         case round =>
          clear H'
          try clear c1
          try clear c2
          try clear c2b0
          try clear c2b1
          try clear p2
          try clear q2
          try clear c3
          try clear c3b0
          try clear c3b1
          try clear c4
          try clear c5
          try clear p5
          try clear q5
          try clear hx5
          try clear c6
          try clear p6
          try clear c11
          try clear c11b0
          try clear c12
          try clear c12b0
          try clear c13
          try clear c13b0
          try clear c15
          try clear c19
          try clear c21
          try clear c21b0
          try clear c22
          try clear c22b0
          try clear c23
          try clear c23b0
          try clear c24
          try clear c24b0
          try clear c25
          try clear c25b0
          try clear q26
          try clear c27
          try clear c28
          try clear c31
          try clear c32
          try clear c36
          try clear c39
          try clear c40
          try clear c46
          try clear hcz10_0
          try clear hcz10_1
          try clear hcz10_2
          try clear hcz10_3
          try clear hcz16_0
          try clear hcz16_1
          try clear hcz16_2
          try clear hcz16_3
          try clear hcz20_0
          try clear hcz20_1
          try clear hcz20_2
          try clear hcz20_3
          try clear hcz29_0
          try clear hcz29_1
          try clear hcz29_2
          try clear hcz29_3
          try clear hcz33_0
          try clear hcz33_1
          try clear hcz33_2
          try clear hcz33_3
          try clear hcz37_0
          try clear hcz37_1
          try clear hcz37_2
          try clear hcz37_3
          try clear hcz41_0
          try clear hcz41_1
          try clear hcz41_2
          try clear hcz41_3
          try clear hcz43_0
          try clear hcz43_1
          try clear hcz43_2
          try clear hcz43_3
          try clear hcz44_0
          try clear hcz44_1
          try clear hcz44_2
          try clear hcz44_3
          try clear hcz47_0
          try clear hcz47_1
          try clear hcz47_2
          try clear hcz47_3
          try clear hcz48_0
          try clear hcz48_1
          try clear hcz48_2
          try clear hcz48_3
          try clear hcz7_0
          try clear hcz7_1
          try clear hcz7_2
          try clear hcz7_3
          try clear hfz10_0
          try clear hfz10_1
          try clear hfz10_2
          try clear hfz10_3
          try clear hfz16_0
          try clear hfz16_1
          try clear hfz16_2
          try clear hfz16_3
          try clear hfz20_0
          try clear hfz20_1
          try clear hfz20_2
          try clear hfz20_3
          try clear hfz29_0
          try clear hfz29_1
          try clear hfz29_2
          try clear hfz29_3
          try clear hfz33_0
          try clear hfz33_1
          try clear hfz33_2
          try clear hfz33_3
          try clear hfz37_0
          try clear hfz37_1
          try clear hfz37_2
          try clear hfz37_3
          try clear hfz41_0
          try clear hfz41_1
          try clear hfz41_2
          try clear hfz41_3
          try clear hfz43_0
          try clear hfz43_1
          try clear hfz43_2
          try clear hfz43_3
          try clear hfz44_0
          try clear hfz44_1
          try clear hfz44_2
          try clear hfz44_3
          try clear hfz47_0
          try clear hfz47_1
          try clear hfz47_2
          try clear hfz47_3
          try clear hfz48_0
          try clear hfz48_1
          try clear hfz48_2
          try clear hfz48_3
          try clear hfz7_0
          try clear hfz7_1
          try clear hfz7_2
          try clear hfz7_3
          try clear hx572_0
          try clear hx574_0
          try clear hx575_0
          try clear hx575_1
          try clear hx575_2
          try clear hx575_3
          try clear p2
          try clear p5
          try clear p572
          try clear p574
          try clear p575
          try clear p6
          try clear q5
          try clear q572
          try clear q574
          try clear q575
          obtain ⟨x3_3, x9_3, rfl, HA, HK3, HO_3, BK567, BK568, HB⟩ := hrel
          cases gk with
          | zero => exact absurd HA.out (by simp [spec_lhYoung.l2])
          | succ k3 =>
           have H := HA.out
           clear HA
           simp only [spec_lhYoung.l2] at H
           by_cases c50 : x9_3 < a0_0
           ·rw [if_pos c50] at H
            have c50b0 : decide (x9_3 < a0_0) = true := decide_eq_true c50
            clear c50
            by_cases c51 : 0 ≤ x9_3
            ·rw [if_pos c51] at H
             have c51b0 : decide (0 ≤ x9_3) = true := decide_eq_true c51
             clear c51
             by_cases c52 : x9_3 < (x3_3.length : Int)
             ·rw [if_pos c52] at H
              have c52b0 : decide (x9_3 < (x3_3.length : Int)) = true := decide_eq_true c52
              clear c52
              obtain ⟨y579, hy579⟩ : ∃ y_ : List Bool, y_ = (x3_3.set (x9_3 : Int).toNat true) := ⟨_, rfl⟩
              replace H : (spec_lhYoung.l2 k3 y579 (wrap64 (x9_3 + 1)) a0_0 l0_1 l0_2 l0_3) = some (r1, r2, r3, r4) := by first | (rw [hy579]; with_reducible exact H) | (have H2_ := (Option.bind_some _ _).symm.trans H; rw [hy579]; with_reducible exact H2_) | (have H2_ := (Option.bind_some _ _).symm.trans H; with_reducible exact H2_) | with_reducible exact H | (rw [hy579]; exact H) | exact H
              have Ny579 := Aside0.mk hy579
              clear hy579
              have H' := Aside0.mk H
              clear H
              have hnb54 := NB567_568.out
              have hnc54 := NB568_567.out
              have hcz55_0 := bc0 BK567.out
              have hcz55_1 := bc1 BK567.out
              have hcz55_2 := bc2 BK567.out
              have hcz55_3 := bc3 BK567.out
              have hfz55_0 := blk_frozen BK567.out 0
              have hfz55_1 := blk_frozen BK567.out 1
              have hfz55_2 := blk_frozen BK567.out 2
              have hfz55_3 := blk_frozen BK567.out 3
              have p53 : 0 ≤ (x9_3 : Int) := of_decide_eq_true (by first | (with_reducible assumption) | assumption)
              have q53 : (x9_3 : Int) < ((x3_3.length : Int) : Int) := of_decide_eq_true (by first | (with_reducible assumption) | assumption)
              obtain ⟨go53, co53, eo53, gb53, gl53, cl53, HG53⟩ := Kd.R_form HO_3.out (by omega)
              (first | cases eo53 | (injection eo53 with ea_ en_ ec_; (first | subst ea_ | (injection ea_ with ea_; subst ea_)); subst ec_; clear en_))
              have GB53 := Aside0.mk gb53
              have GG53 := Aside0.mk HG53
              clear gb53 gl53 HG53
              obtain ⟨hx53_0, hf53_0⟩ := Kd.R_celln false HO_3.out (x9_3 : Int) p53 q53
              replace p53 := eq_true p53
              replace q53 := eq_true q53
              have HP56 := Kd.R_putg HO_3.out (x9_3 : Int) true
              go_wp2_with (first | ((with_reducible refine gate_store (t := 4) (p := 60) rfl ?_); refine store_event (t := 4) (p := 60) (v := ?vo_w57) (w1 := (wr.setCell ⟨go53, (x9_3 : Int).toNat, none⟩ (.bool true))) ?hg ?ho ?hn ?hr ?_; (case ho => rfl); (case hg => rfl); (case hn => rfl); (case hr => first | (go_simp; done) | (go_simp; rfl)); intro w57 hw; have hg : wr.grownBy w57 (some go53) := (by rw [hw]; exact HP56.2); have hp_ : Kd.R Kd.bool 4 w57 w.heap.size (fun _ => True) (.slice (some ⟨go53, 0, none⟩) x3_3.length co53) y579 := (by rw [hw, Ny579.out]; exact HP56.1); clear HP56; have n0_ := Aside0.mk (hp_); have n1_ := Aside0.mk (blk_grown (g := gb567) (o := .cells #[.int .i64 a0_0, .slice A0_1 l0_1.length c0_1, .slice A0_2 l0_2.length c0_2, .slice A0_3 l0_3.length c0_3] 30 (0, 0)) (pk_ BK567.out) hg (Kd.R_ne HO_3.out BK567.out (by decide))); have n2_ := Aside0.mk (blk_grown (g := gb568) (o := .cells #[.int .i64 0, .slice none 0 0, .slice none 0 0, .slice none 0 0] 30 (0, 0)) (pk_ BK568.out) hg (Kd.R_ne HO_3.out BK568.out (by decide))); have n3_ := Aside0.mk ((by rw [hw]; exact below_set (HB.out) GB53.out : Below w.heap.size w w57)); clear HO_3; clear BK567; clear BK568; clear HB; have HO_3 := n0_; have BK567 := n1_; have BK568 := n2_; have HB := n3_; clear n0_ n1_ n2_ n3_; clear hg hw hp_))
              go_roundg k3
              case measure => have := HK1.out; have := HK2.out; have := HK3.out; omega
              case rel => exact ⟨(y579), (wrap64 (x9_3 + 1)), (by first | rfl | (simp; done) | (simp [*]; done)), H', ⟨by have := HK1.out; have := HK2.out; have := HK3.out; omega⟩, ⟨by (with_reducible repeat (first | apply Kd.R_alloc | apply Kd.R_drewN | apply Kd.R_drew)); exact HO_3.out⟩, ⟨pk_ BK567.out⟩, ⟨pk_ BK568.out⟩, ⟨pb_⟩⟩
             ·rw [if_neg c52] at H
              exact absurd H (by simp)
            ·rw [if_neg c51] at H
             exact absurd H (by simp)
           ·rw [if_neg c50] at H
            have c50b0 : decide (x9_3 < a0_0) = false := decide_eq_false c50
            clear c50
            replace H := Option.bind_eq_some_iff.mp H
            obtain ⟨⟨t580, t581, t584, t587⟩, A580, H⟩ := H
            replace H : (some (t580, t581, t584, t587)) = some (r1, r2, r3, r4) := H
            have A58 := Aside0.mk A580
            clear A580
            simp only [Option.some.injEq, Prod.mk.injEq] at H
            obtain ⟨rfl, rfl, rfl, rfl⟩ := H
            have hnb59 := NB567_568.out
            have hnc59 := NB568_567.out
            have hcz60_0 := bc0 BK567.out
            have hcz60_1 := bc1 BK567.out
            have hcz60_2 := bc2 BK567.out
            have hcz60_3 := bc3 BK567.out
            have hfz60_0 := blk_frozen BK567.out 0
            have hfz60_1 := blk_frozen BK567.out 1
            have hfz60_2 := blk_frozen BK567.out 2
            have hfz60_3 := blk_frozen BK567.out 3
            obtain ⟨Ao61, co61, eo61⟩ := Kd.R_slice HO_3.out
            subst eo61
            go_wp2_with (first | ((with_reducible refine gate_callee (f := 58) rfl ?_); refine goesL_ (some 63) rfl rfl Try.func58 (by kernel_rfl) rfl #[.agg #[.int .i64 a0_0, .slice A0_1 l0_1.length c0_1, .slice A0_2 l0_2.length c0_2, .slice A0_3 l0_3.length c0_3], .slice Ao61 x3_3.length co61] rfl (by (try simp only [List.map_toArray, List.map_cons, List.map_nil]); first | done | rfl | (simp only [List.length_drop, List.length_take]; rfl)) ?_; (with_reducible refine (spec_lhMove.calls k3 a0_0 _ _ l0_1 _ _ l0_2 _ _ l0_3 _ _ x3_3 t580 t581 t584 t587 _ ?side1 ?side2 ?side3 ?side4 ?side5 ?side6 ?side7 ?side8 A58.out).mono ?_); (case side1 => exact pc_ (Kd.C_below HR0_1.out HB.out)); (case side2 => exact HC0_1.out); (case side3 => exact pc_ (Kd.C_below HR0_2.out HB.out)); (case side4 => exact HC0_2.out); (case side5 => exact pc_ (Kd.C_below HR0_3.out HB.out)); (case side6 => exact HC0_3.out); (case side7 => repeat (first | exact (Kd.R_reads' HO_3.out).2.2 | (with_reducible refine Kd.C_alloc ?_ _) | (with_reducible refine Kd.C_drewN ?_ _) | (with_reducible refine Kd.C_drew ?_))); (case side8 => exact (Kd.R_reads' HO_3.out).2.1); rintro e w62 ⟨v582, v585, v588, rfl, ho0, ho1, ho2, hb⟩; refine ⟨_, rfl, ?_⟩; have n0_ := Aside0.mk (Kd.R_below (pr_ HO_3.out) hb); have n1_ := Aside0.mk (Kd.R_lower ho0 (below_size pb_)); have n2_ := Aside0.mk (Kd.R_lower ho1 (below_size pb_)); have n3_ := Aside0.mk (Kd.R_lower ho2 (below_size pb_)); have n4_ := Aside0.mk (blk_below (pk_ BK567.out) hb); have n5_ := Aside0.mk (blk_below (pk_ BK568.out) hb); have n6_ := Aside0.mk (below_step pb_ hb); clear HO_3; clear BK567; clear BK568; clear HB; have HO_3 := n0_; have HO583 := n1_; have HO586 := n2_; have HO589 := n3_; have BK567 := n4_; have BK568 := n5_; have HB := n6_; clear n0_ n1_ n2_ n3_ n4_ n5_ n6_; (try clear hb); (try clear hb2); (try clear hk); (try clear hi); (try clear ho0); (try clear ho1); (try clear ho2); have hcz63_0 := bc0 BK568.out; have hcz63_1 := bc1 BK568.out; have hcz63_2 := bc2 BK568.out; have hcz63_3 := bc3 BK568.out; have hfz63_0 := blk_frozen BK568.out 0; have hfz63_1 := blk_frozen BK568.out 1; have hfz63_2 := blk_frozen BK568.out 2; have hfz63_3 := blk_frozen BK568.out 3; obtain ⟨Ao64, co64, eo64⟩ := Kd.R_slice HO583.out; subst eo64; obtain ⟨Ao65, co65, eo65⟩ := Kd.R_slice HO586.out; subst eo65; obtain ⟨Ao66, co66, eo66⟩ := Kd.R_slice HO589.out; subst eo66))
            refine bodyPost_ret (results_cell_row rfl _ _ gb568 30 #[.int .i64 t580, .slice Ao64 t581.length co64, .slice Ao65 t584.length co65, .slice Ao66 t587.length co66] (0, 0) _ rfl (by (with_reducible repeat (first | refine blk_drewN ?_ _ | refine blk_drew ?_ | refine blk_alloc ?_ _)); refine blk_put (cs := #[.int .i64 t580, .slice Ao64 t581.length co64, .slice Ao65 t584.length co65, .slice none 0 0]) ?_ 3 _ rfl; (with_reducible repeat (first | refine blk_drewN ?_ _ | refine blk_drew ?_ | refine blk_alloc ?_ _)); refine blk_put (cs := #[.int .i64 t580, .slice Ao64 t581.length co64, .slice none 0 0, .slice none 0 0]) ?_ 2 _ rfl; (with_reducible repeat (first | refine blk_drewN ?_ _ | refine blk_drew ?_ | refine blk_alloc ?_ _)); refine blk_put (cs := #[.int .i64 t580, .slice none 0 0, .slice none 0 0, .slice none 0 0]) ?_ 1 _ rfl; (with_reducible repeat (first | refine blk_drewN ?_ _ | refine blk_drew ?_ | refine blk_alloc ?_ _)); refine blk_put (cs := #[.int .i64 0, .slice none 0 0, .slice none 0 0, .slice none 0 0]) ?_ 0 _ rfl; (with_reducible repeat (first | refine blk_drewN ?_ _ | refine blk_drew ?_ | refine blk_alloc ?_ _)); exact BK568.out) Try.underlying30 rfl (by kernel_rfl)) rfl ?_
            exact ⟨_, _, _, by first | rfl | (simp [errW_none, errW_some] <;> rfl) | (simp [*, errW_none, errW_some] <;> rfl), by (with_reducible repeat (first | apply Kd.R_alloc | apply Kd.R_drewN | apply Kd.R_drew)); exact Kd.R_mono (Kd.R_far (p := ⟨gb568, 3, none⟩) (Kd.R_far (p := ⟨gb568, 2, none⟩) (Kd.R_far (p := ⟨gb568, 1, none⟩) (Kd.R_far (p := ⟨gb568, 0, none⟩) (Kd.R_types HO583.out BK568.out (by decide)) (fun _ hk => hk.2) (.int .i64 t580)) (fun _ hk => hk.2) (.slice Ao64 t581.length co64)) (fun _ hk => hk.2) (.slice Ao65 t584.length co65)) (fun _ hk => hk.2) (.slice Ao66 t587.length co66)) (fun _ hk => trivial), by (with_reducible repeat (first | apply Kd.R_alloc | apply Kd.R_drewN | apply Kd.R_drew)); exact Kd.R_mono (Kd.R_far (p := ⟨gb568, 3, none⟩) (Kd.R_far (p := ⟨gb568, 2, none⟩) (Kd.R_far (p := ⟨gb568, 1, none⟩) (Kd.R_far (p := ⟨gb568, 0, none⟩) (Kd.R_types HO586.out BK568.out (by decide)) (fun _ hk => hk.2) (.int .i64 t580)) (fun _ hk => hk.2) (.slice Ao64 t581.length co64)) (fun _ hk => hk.2) (.slice Ao65 t584.length co65)) (fun _ hk => hk.2) (.slice Ao66 t587.length co66)) (fun _ hk => hk.1), by (with_reducible repeat (first | apply Kd.R_alloc | apply Kd.R_drewN | apply Kd.R_drew)); exact Kd.R_mono (Kd.R_far (p := ⟨gb568, 3, none⟩) (Kd.R_far (p := ⟨gb568, 2, none⟩) (Kd.R_far (p := ⟨gb568, 1, none⟩) (Kd.R_far (p := ⟨gb568, 0, none⟩) (Kd.R_types HO589.out BK568.out (by decide)) (fun _ hk => hk.2) (.int .i64 t580)) (fun _ hk => hk.2) (.slice Ao64 t581.length co64)) (fun _ hk => hk.2) (.slice Ao65 t584.length co65)) (fun _ hk => hk.2) (.slice Ao66 t587.length co66)) (fun _ hk => hk.1), pb_⟩
  ·rw [if_neg c3] at H
   exact absurd H (by simp)
 ·rw [if_neg c2] at H
  exact absurd H (by simp)
def spec_l1In.f (a0 : Int) (a1 : Int) (a2 : Int) : Option (Bool) := if a0 ≥ a1 then (some (decide (a0 ≤ a2))) else (some false)
set_option maxHeartbeats 8000000 in
set_option maxRecDepth 100000 in
theorem spec_l1In.calls (a0 : Int) (a1 : Int) (a2 : Int) (r : Bool) (w : World) (h : spec_l1In.f a0 a1 a2 = some r) :
  Calls Try.prog 28 #[.int .i64 a0, .int .i64 a1, .int .i64 a2] w fun e w' => e = .returned (.bool r) ∧ Drawn0 w w' := by
 have H : (if a0 ≥ a1 then (some (decide (a0 ≤ a2))) else (some false)) = some r := h
 clear h
 by_cases c4 : a0 ≥ a1
 ·rw [if_pos c4] at H
  have c4b0 : decide (a1 ≤ a0) = true := decide_eq_true c4
  clear c4
  obtain rfl := Option.some.inj H
  go_enter Try.func28, Try.ntmps28
  go_wp2
  go_ret
  exact ⟨by first | rfl | (simp; done) | (simp [*]; done), by repeat (first | exact Drawn0.refl _ | apply Drawn0.step)⟩
 ·rw [if_neg c4] at H
  have c4b0 : decide (a1 ≤ a0) = false := decide_eq_false c4
  clear c4
  obtain rfl := Option.some.inj H
  go_enter Try.func28, Try.ntmps28
  go_wp2
  go_ret
  exact ⟨by first | rfl | (simp; done) | (simp [*]; done), by repeat (first | exact Drawn0.refl _ | apply Drawn0.step)⟩
def spec_lcHas.l0 : Nat → Int → List Int → Int → Int → Option (Bool)
 | 0, _, _, _, _ => none
 | k + 1, x1, x7, x8, x9 => if x9 < x8 then (if 0 ≤ x9 then (if x9 < (x7.length : Int) then (if (rd x7 x9) = x1 then (some true) else (spec_lcHas.l0 k x1 x7 x8 (wrap64 (x9 + 1)))) else (none)) else (none)) else (some false)
def spec_lcHas.f (k : Nat) (l0 : List Int) (a1 : Int) : Option (Bool) := spec_lcHas.l0 k a1 l0 (l0.length : Int) 0
theorem spec_lcHas.mono_l : ∀ k, (∀ y0 y1 y2 y3, LeO (spec_lcHas.l0 k y0 y1 y2 y3) (spec_lcHas.l0 (k + 1) y0 y1 y2 y3))
 | 0 => fun _ _ _ _ r h => by simp [spec_lcHas.l0] at h
 | k + 1 => by
  have ih0 := spec_lcHas.mono_l k
  ·intro y0 y1 y2 y3
   unfold spec_lcHas.l0
   repeat' first
   | (with_reducible exact ih0 _ _ _ _)
   | (with_reducible exact LeO.refl _)
   | (with_reducible exact LeO.none _)
   | (with_reducible refine LeO.ite ?_ ?_)
   | (with_reducible refine LeO.bind ?_ (fun _ => ?_))
   | exact ih0 _ _ _ _
   | exact LeO.none _
   | refine LeO.ite ?_ ?_
   | refine LeO.bind ?_ (fun _ => ?_)
theorem spec_lcHas.mono : ∀ a0 a1 k, LeO (spec_lcHas.f k a0 a1) (spec_lcHas.f (k + 1) a0 a1) := by
 intro a0 a1 k
 have ih0 := spec_lcHas.mono_l k
 unfold spec_lcHas.f
 repeat' first
   | (with_reducible exact ih0 _ _ _ _)
   | (with_reducible exact LeO.refl _)
   | (with_reducible exact LeO.none _)
   | (with_reducible refine LeO.ite ?_ ?_)
   | (with_reducible refine LeO.bind ?_ (fun _ => ?_))
   | exact ih0 _ _ _ _
   | exact LeO.none _
   | refine LeO.ite ?_ ?_
   | refine LeO.bind ?_ (fun _ => ?_)
set_option maxHeartbeats 8000000 in
set_option maxRecDepth 100000 in
theorem spec_lcHas.calls (k : Nat) (A0 : Option Addr) (c0 : Nat) (l0 : List Int) (a1 : Int) (r : Bool) (w : World) (hr0 : Kd.C (Kd.int .i64) w A0 l0.length l0) (hc0 : l0.length ≤ c0) (h : spec_lcHas.f k l0 a1 = some r) :
  Calls Try.prog 29 #[.slice A0 l0.length c0, .int .i64 a1] w fun e w' => e = .returned (.bool r) ∧ Drawn0 w w' := by
 have HR0 := Aside0.mk hr0
 have HC0 := Aside0.mk hc0
 clear hr0 hc0
 have H : (spec_lcHas.l0 k a1 l0 (l0.length : Int) 0) = some r := h
 clear h
 have H' := Aside0.mk H
 clear H
 go_enter Try.func29, Try.ntmps29
 go_wp2
 go_loopg [9] k (fun kq v9 w' => ∃ (x9_1 : Int), v9 = .int .i64 x9_1 ∧ Aside0 (spec_lcHas.l0 kq a1 l0 (l0.length : Int) x9_1 = some r) ∧ Aside0 (kq ≤ k) ∧ Drawn0 w w')
 case atStart => exact ⟨(0), (by first | rfl | (simp; done) | (simp [*]; done)), H', ⟨Nat.le_refl _⟩, by repeat (first | exact Drawn0.refl _ | apply Drawn0.step)⟩
 case round =>
  clear H'
  try clear c2
  try clear p2
  obtain ⟨x9_1, rfl, HA, HK1, ⟨m1, rfl⟩⟩ := hrel
  cases gk with
  | zero => exact absurd HA.out (by simp [spec_lcHas.l0])
  | succ k1 =>
   have H := HA.out
   clear HA
   simp only [spec_lcHas.l0] at H
   by_cases c3 : x9_1 < (l0.length : Int)
   ·rw [if_pos c3] at H
    have c3b0 : decide (x9_1 < (l0.length : Int)) = true := decide_eq_true c3
    clear c3
    by_cases c4 : 0 ≤ x9_1
    ·rw [if_pos c4] at H
     have c4b0 : decide (0 ≤ x9_1) = true := decide_eq_true c4
     clear c4
     by_cases c5 : x9_1 < (l0.length : Int)
     ·rw [if_pos c5] at H
      have c5b0 : decide (x9_1 < (l0.length : Int)) = true := decide_eq_true c5
      clear c5
      by_cases c6 : (rd l0 x9_1) = a1
      ·rw [if_pos c6] at H
       have c6b0 : ((rd l0 x9_1) == a1) = true := beq_iff_eq.mpr c6
       have c6b1 : ((rd l0 x9_1) != a1) = false := bne_eq_false_iff_eq.mpr c6
       clear c6
       obtain rfl := Option.some.inj H
       have p105 : 0 ≤ (x9_1 : Int) := of_decide_eq_true (by first | (with_reducible assumption) | assumption)
       have q105 : x9_1 < (l0.length : Int) := of_decide_eq_true (by first | (with_reducible assumption) | assumption)
       obtain ⟨ad105, e105, hx105_0⟩ := Kd.at_int HR0.out x9_1 p105 q105
       cases e105
       replace p105 := eq_true p105
       replace q105 := eq_true q105
       go_wp2
       go_ret
       exact ⟨by first | rfl | (simp; done) | (simp [*]; done), by repeat (first | exact Drawn0.refl _ | apply Drawn0.step)⟩
      ·rw [if_neg c6] at H
       have c6b0 : ((rd l0 x9_1) == a1) = false := beq_eq_false_iff_ne.mpr c6
       have c6b1 : ((rd l0 x9_1) != a1) = true := bne_iff_ne.mpr c6
       have H' := Aside0.mk H
       clear H
       have p105 : 0 ≤ (x9_1 : Int) := of_decide_eq_true (by first | (with_reducible assumption) | assumption)
       have q105 : x9_1 < (l0.length : Int) := of_decide_eq_true (by first | (with_reducible assumption) | assumption)
       obtain ⟨ad105, e105, hx105_0⟩ := Kd.at_int HR0.out x9_1 p105 q105
       cases e105
       replace p105 := eq_true p105
       replace q105 := eq_true q105
       go_wp2
       go_roundg k1
       case measure => have := HK1.out; omega
       case rel => exact ⟨(wrap64 (x9_1 + 1)), (by first | rfl | (simp; done) | (simp [*]; done)), H', ⟨by have := HK1.out; omega⟩, by repeat (first | exact Drawn0.refl _ | apply Drawn0.step)⟩
     ·rw [if_neg c5] at H
      exact absurd H (by simp)
    ·rw [if_neg c4] at H
     exact absurd H (by simp)
   ·rw [if_neg c3] at H
    have c3b0 : decide (x9_1 < (l0.length : Int)) = false := decide_eq_false c3
    clear c3
    obtain rfl := Option.some.inj H
    go_wp2
    go_ret
    exact ⟨by first | rfl | (simp; done) | (simp [*]; done), by repeat (first | exact Drawn0.refl _ | apply Drawn0.step)⟩
mutual
def spec_GoodYoung.l0 : Nat → List Int → Int → Int → Int → List (S46) → List Int → List Int → Option (Bool)
 | 0, _, _, _, _, _, _, _ => none
 | k + 1, x29, x30, x31, x107000, x107001, x107002, x107003 => if x31 < x30 then (if 0 ≤ x31 then (if x31 < (x29.length : Int) then ((spec_l1In.f (rd x29 x31) 0 (wrap64 (x107000 - 1))).bind fun t109 => (if t109 = true then (if x31 > 0 then (if 0 ≤ (wrap64 (x31 - 1)) then (if (wrap64 (x31 - 1)) < (x107003.length : Int) then (if (rd x107003 (wrap64 (x31 - 1))) ≥ (rd x29 x31) then (some false) else (spec_GoodYoung.l0 k x29 x30 (wrap64 (x31 + 1)) x107000 x107001 x107002 x107003)) else (none)) else (none)) else (spec_GoodYoung.l0 k x29 x30 (wrap64 (x31 + 1)) x107000 x107001 x107002 x107003)) else (some false))) else (none)) else (none)) else (spec_GoodYoung.l1 k x107001 (x107001.length : Int) 0 x107000 x107001 x107002 x107003)
def spec_GoodYoung.l1 : Nat → List (S46) → Int → Int → Int → List (S46) → List Int → List Int → Option (Bool)
 | 0, _, _, _, _, _, _, _ => none
 | k + 1, x58, x59, x60, x107000, x107001, x107002, x107003 => if x60 < x59 then (if 0 ≤ x60 then (if x60 < (x58.length : Int) then (if (rd_T46 x58 x60).f0 = true then (if ((rd_T46 x58 x60).f2) = 0 then (if ((rd_T46 x58 x60).f3) = 0 then (spec_GoodYoung.l1 k x58 x59 (wrap64 (x60 + 1)) x107000 x107001 x107002 x107003) else (some false)) else (some false)) else (if ((rd_T46 x58 x60).f1) = 0 then ((spec_l1In.f ((rd_T46 x58 x60).f2) 0 (wrap64 ((x107001.length : Int) - 1))).bind fun t113 => (if t113 = true then ((spec_l1In.f ((rd_T46 x58 x60).f3) 0 (wrap64 ((x107001.length : Int) - 1))).bind fun t114 => (if t114 = true then (if x60 < x107000 then (if ((rd_T46 x58 x60).f2) ≥ x107000 then ((spec_lcHas.f k x107003 x60).bind fun t115 => (if t115 = true then (spec_GoodYoung.l1 k x58 x59 (wrap64 (x60 + 1)) x107000 x107001 x107002 x107003) else (some false))) else (if ((rd_T46 x58 x60).f3) ≥ x107000 then ((spec_lcHas.f k x107003 x60).bind fun t116 => (if t116 = true then (spec_GoodYoung.l1 k x58 x59 (wrap64 (x60 + 1)) x107000 x107001 x107002 x107003) else (some false))) else (spec_GoodYoung.l1 k x58 x59 (wrap64 (x60 + 1)) x107000 x107001 x107002 x107003))) else (spec_GoodYoung.l1 k x58 x59 (wrap64 (x60 + 1)) x107000 x107001 x107002 x107003)) else (some false))) else (some false))) else (some false))) else (none)) else (none)) else (spec_GoodYoung.l2 k x107002 (x107002.length : Int) 0 x107000 x107001 x107002 x107003)
def spec_GoodYoung.l2 : Nat → List Int → Int → Int → Int → List (S46) → List Int → List Int → Option (Bool)
 | 0, _, _, _, _, _, _, _ => none
 | k + 1, x139, x140, x141, x107000, x107001, x107002, x107003 => if x141 < x140 then (if 0 ≤ x141 then (if x141 < (x139.length : Int) then ((spec_l1In.f (rd x139 x141) 0 (wrap64 ((x107001.length : Int) - 1))).bind fun t118 => (if t118 = true then (spec_GoodYoung.l2 k x139 x140 (wrap64 (x141 + 1)) x107000 x107001 x107002 x107003) else (some false))) else (none)) else (none)) else (some true)
end
def spec_GoodYoung.f (k : Nat) (a0_0 : Int) (l0_1 : List (S46)) (l0_2 : List Int) (l0_3 : List Int) : Option (Bool) := if (l0_1.length : Int) > 200 then (some false) else (if (l0_2.length : Int) > 60 then (some false) else ((spec_l1In.f a0_0 0 (l0_1.length : Int)).bind fun t107 => (if t107 = true then (spec_GoodYoung.l0 k l0_3 (l0_3.length : Int) 0 a0_0 l0_1 l0_2 l0_3) else (some false))))
theorem spec_GoodYoung.mono_l : ∀ k, (∀ y0 y1 y2 y3 y4 y5 y6, LeO (spec_GoodYoung.l0 k y0 y1 y2 y3 y4 y5 y6) (spec_GoodYoung.l0 (k + 1) y0 y1 y2 y3 y4 y5 y6)) ∧ (∀ y0 y1 y2 y3 y4 y5 y6, LeO (spec_GoodYoung.l1 k y0 y1 y2 y3 y4 y5 y6) (spec_GoodYoung.l1 (k + 1) y0 y1 y2 y3 y4 y5 y6)) ∧ (∀ y0 y1 y2 y3 y4 y5 y6, LeO (spec_GoodYoung.l2 k y0 y1 y2 y3 y4 y5 y6) (spec_GoodYoung.l2 (k + 1) y0 y1 y2 y3 y4 y5 y6))
 | 0 => ⟨fun _ _ _ _ _ _ _ r h => by simp [spec_GoodYoung.l0] at h, fun _ _ _ _ _ _ _ r h => by simp [spec_GoodYoung.l1] at h, fun _ _ _ _ _ _ _ r h => by simp [spec_GoodYoung.l2] at h⟩
 | k + 1 => by
  obtain ⟨ih0, ih1, ih2⟩ := spec_GoodYoung.mono_l k
  refine ⟨?_, ?_, ?_⟩
  ·intro y0 y1 y2 y3 y4 y5 y6
   unfold spec_GoodYoung.l0
   repeat' first
   | (with_reducible exact ih0 _ _ _ _ _ _ _)
   | (with_reducible exact ih1 _ _ _ _ _ _ _)
   | (with_reducible exact ih2 _ _ _ _ _ _ _)
   | (with_reducible exact spec_lcHas.mono _ _ _)
   | (with_reducible exact LeO.refl _)
   | (with_reducible exact LeO.none _)
   | (with_reducible refine LeO.ite ?_ ?_)
   | (with_reducible refine LeO.bind ?_ (fun _ => ?_))
   | exact ih0 _ _ _ _ _ _ _
   | exact ih1 _ _ _ _ _ _ _
   | exact ih2 _ _ _ _ _ _ _
   | exact spec_lcHas.mono _ _ _
   | exact LeO.none _
   | refine LeO.ite ?_ ?_
   | refine LeO.bind ?_ (fun _ => ?_)
  ·intro y0 y1 y2 y3 y4 y5 y6
   unfold spec_GoodYoung.l1
   repeat' first
   | (with_reducible exact ih0 _ _ _ _ _ _ _)
   | (with_reducible exact ih1 _ _ _ _ _ _ _)
   | (with_reducible exact ih2 _ _ _ _ _ _ _)
   | (with_reducible exact spec_lcHas.mono _ _ _)
   | (with_reducible exact LeO.refl _)
   | (with_reducible exact LeO.none _)
   | (with_reducible refine LeO.ite ?_ ?_)
   | (with_reducible refine LeO.bind ?_ (fun _ => ?_))
   | exact ih0 _ _ _ _ _ _ _
   | exact ih1 _ _ _ _ _ _ _
   | exact ih2 _ _ _ _ _ _ _
   | exact spec_lcHas.mono _ _ _
   | exact LeO.none _
   | refine LeO.ite ?_ ?_
   | refine LeO.bind ?_ (fun _ => ?_)
  ·intro y0 y1 y2 y3 y4 y5 y6
   unfold spec_GoodYoung.l2
   repeat' first
   | (with_reducible exact ih0 _ _ _ _ _ _ _)
   | (with_reducible exact ih1 _ _ _ _ _ _ _)
   | (with_reducible exact ih2 _ _ _ _ _ _ _)
   | (with_reducible exact spec_lcHas.mono _ _ _)
   | (with_reducible exact LeO.refl _)
   | (with_reducible exact LeO.none _)
   | (with_reducible refine LeO.ite ?_ ?_)
   | (with_reducible refine LeO.bind ?_ (fun _ => ?_))
   | exact ih0 _ _ _ _ _ _ _
   | exact ih1 _ _ _ _ _ _ _
   | exact ih2 _ _ _ _ _ _ _
   | exact spec_lcHas.mono _ _ _
   | exact LeO.none _
   | refine LeO.ite ?_ ?_
   | refine LeO.bind ?_ (fun _ => ?_)
theorem spec_GoodYoung.mono : ∀ a0 a1 a2 a3 k, LeO (spec_GoodYoung.f k a0 a1 a2 a3) (spec_GoodYoung.f (k + 1) a0 a1 a2 a3) := by
 intro a0 a1 a2 a3 k
 obtain ⟨ih0, ih1, ih2⟩ := spec_GoodYoung.mono_l k
 unfold spec_GoodYoung.f
 repeat' first
   | (with_reducible exact ih0 _ _ _ _ _ _ _)
   | (with_reducible exact ih1 _ _ _ _ _ _ _)
   | (with_reducible exact ih2 _ _ _ _ _ _ _)
   | (with_reducible exact spec_lcHas.mono _ _ _)
   | (with_reducible exact LeO.refl _)
   | (with_reducible exact LeO.none _)
   | (with_reducible refine LeO.ite ?_ ?_)
   | (with_reducible refine LeO.bind ?_ (fun _ => ?_))
   | exact ih0 _ _ _ _ _ _ _
   | exact ih1 _ _ _ _ _ _ _
   | exact ih2 _ _ _ _ _ _ _
   | exact spec_lcHas.mono _ _ _
   | exact LeO.none _
   | refine LeO.ite ?_ ?_
   | refine LeO.bind ?_ (fun _ => ?_)
set_option maxHeartbeats 8000000 in
set_option maxRecDepth 100000 in
theorem spec_GoodYoung.calls (k : Nat) (a0_0 : Int) (A0_1 : Option Addr) (c0_1 : Nat) (l0_1 : List (S46)) (A0_2 : Option Addr) (c0_2 : Nat) (l0_2 : List Int) (A0_3 : Option Addr) (c0_3 : Nat) (l0_3 : List Int) (r : Bool) (w : World) (hr0_1 : Kd.C k46 w A0_1 l0_1.length l0_1) (hc0_1 : l0_1.length ≤ c0_1) (hr0_2 : Kd.C (Kd.int .i64) w A0_2 l0_2.length l0_2) (hc0_2 : l0_2.length ≤ c0_2) (hr0_3 : Kd.C (Kd.int .i64) w A0_3 l0_3.length l0_3) (hc0_3 : l0_3.length ≤ c0_3) (h : spec_GoodYoung.f k a0_0 l0_1 l0_2 l0_3 = some r) :
  Calls Try.prog 9 #[.agg #[.int .i64 a0_0, .slice A0_1 l0_1.length c0_1, .slice A0_2 l0_2.length c0_2, .slice A0_3 l0_3.length c0_3]] w fun e w' => e = .returned (.bool r) ∧ Below w.heap.size w w' := by
 have hu30 := Try.underlying30
 have hu46 := Try.underlying46
 have HR0_1 := Aside0.mk hr0_1
 have HC0_1 := Aside0.mk hc0_1
 clear hr0_1 hc0_1
 have HR0_2 := Aside0.mk hr0_2
 have HC0_2 := Aside0.mk hc0_2
 clear hr0_2 hc0_2
 have HR0_3 := Aside0.mk hr0_3
 have HC0_3 := Aside0.mk hc0_3
 clear hr0_3 hc0_3
 have HB := Aside0.mk (Below.refl w.heap.size w)
 have H : (if (l0_1.length : Int) > 200 then (some false) else (if (l0_2.length : Int) > 60 then (some false) else ((spec_l1In.f a0_0 0 (l0_1.length : Int)).bind fun t107 => (if t107 = true then (spec_GoodYoung.l0 k l0_3 (l0_3.length : Int) 0 a0_0 l0_1 l0_2 l0_3) else (some false))))) = some r := h
 clear h
 by_cases c2 : (l0_1.length : Int) > 200
 ·rw [if_pos c2] at H
  have c2b0 : decide (200 < (l0_1.length : Int)) = true := decide_eq_true c2
  have c2b1 : decide (200 < l0_1.length) = true := decide_eq_true (by omega)
  clear c2
  obtain rfl := Option.some.inj H
  go_enter Try.func9, Try.ntmps9
  go_wp2_with (first | ((with_reducible refine gate_dst (N := 1) rfl ?_); (try (refine gate_guard (by rfl) ?_; dsimp only)); refine box_event ?hg (N := 1) ?hd (cs := #[.int .i64 a0_0, .slice A0_1 l0_1.length c0_1, .slice A0_2 l0_2.length c0_2, .slice A0_3 l0_3.length c0_3]) (t := 30) ?hr ?_; (case hd => rfl); (case hg => rfl); (case hr => first | (go_simp; done) | (go_simp; rfl)); intro gb106 hg w3 hbox hb; have n0_ := Aside0.mk (below_step pb_ hb); have n1_ := Aside0.mk (hbox); have n2_ := Aside0.mk ((by rw [hg]; exact (below_size pb_) : w.heap.size ≤ gb106)); have n3_ := Aside0.mk ((by rw [hg]; exact (below_size pb_) : w.heap.size ≤ gb106)); clear HB; have HB := n0_; have BK106 := n1_; have GW106 := n2_; have GE106 := n3_; clear n0_ n1_ n2_ n3_; clear hb hbox hg; have hcz4_0 := bc0 BK106.out; have hcz4_1 := bc1 BK106.out; have hcz4_2 := bc2 BK106.out; have hcz4_3 := bc3 BK106.out; have hfz4_0 := blk_frozen BK106.out 0; have hfz4_1 := blk_frozen BK106.out 1; have hfz4_2 := blk_frozen BK106.out 2; have hfz4_3 := blk_frozen BK106.out 3))
  go_ret
  exact ⟨by first | rfl | (simp [errW_none, errW_some] <;> rfl) | (simp [*, errW_none, errW_some] <;> rfl), pb_⟩
 ·rw [if_neg c2] at H
  have c2b0 : decide (200 < (l0_1.length : Int)) = false := decide_eq_false c2
  have c2b1 : decide (200 < l0_1.length) = false := decide_eq_false (by omega)
  clear c2
  by_cases c5 : (l0_2.length : Int) > 60
  ·rw [if_pos c5] at H
   have c5b0 : decide (60 < (l0_2.length : Int)) = true := decide_eq_true c5
   have c5b1 : decide (60 < l0_2.length) = true := decide_eq_true (by omega)
   clear c5
   obtain rfl := Option.some.inj H
   go_enter Try.func9, Try.ntmps9
   go_wp2_with (first | ((with_reducible refine gate_dst (N := 1) rfl ?_); (try (refine gate_guard (by rfl) ?_; dsimp only)); refine box_event ?hg (N := 1) ?hd (cs := #[.int .i64 a0_0, .slice A0_1 l0_1.length c0_1, .slice A0_2 l0_2.length c0_2, .slice A0_3 l0_3.length c0_3]) (t := 30) ?hr ?_; (case hd => rfl); (case hg => rfl); (case hr => first | (go_simp; done) | (go_simp; rfl)); intro gb106 hg w6 hbox hb; have n0_ := Aside0.mk (below_step pb_ hb); have n1_ := Aside0.mk (hbox); have n2_ := Aside0.mk ((by rw [hg]; exact (below_size pb_) : w.heap.size ≤ gb106)); have n3_ := Aside0.mk ((by rw [hg]; exact (below_size pb_) : w.heap.size ≤ gb106)); clear HB; have HB := n0_; have BK106 := n1_; have GW106 := n2_; have GE106 := n3_; clear n0_ n1_ n2_ n3_; clear hb hbox hg; have hcz7_0 := bc0 BK106.out; have hcz7_1 := bc1 BK106.out; have hcz7_2 := bc2 BK106.out; have hcz7_3 := bc3 BK106.out; have hfz7_0 := blk_frozen BK106.out 0; have hfz7_1 := blk_frozen BK106.out 1; have hfz7_2 := blk_frozen BK106.out 2; have hfz7_3 := blk_frozen BK106.out 3))
   go_ret
   exact ⟨by first | rfl | (simp [errW_none, errW_some] <;> rfl) | (simp [*, errW_none, errW_some] <;> rfl), pb_⟩
  ·rw [if_neg c5] at H
   have c5b0 : decide (60 < (l0_2.length : Int)) = false := decide_eq_false c5
   have c5b1 : decide (60 < l0_2.length) = false := decide_eq_false (by omega)
   clear c5
   replace H := Option.bind_eq_some_iff.mp H
   obtain ⟨t107, A80, H⟩ := H
   replace H : (if t107 = true then (spec_GoodYoung.l0 k l0_3 (l0_3.length : Int) 0 a0_0 l0_1 l0_2 l0_3) else (some false)) = some r := H
   have A8 := Aside0.mk A80
   clear A80
   by_cases c9 : t107 = true
   ·subst c9
    have H1 : (spec_GoodYoung.l0 k l0_3 (l0_3.length : Int) 0 a0_0 l0_1 l0_2 l0_3) = some r := by rw [if_pos rfl] at H; exact H
    clear H
    have H := H1
    clear H1
    have H' := Aside0.mk H
    clear H
    go_enter Try.func9, Try.ntmps9
    go_wp2_with (first | ((with_reducible refine gate_dst (N := 1) rfl ?_); (try (refine gate_guard (by rfl) ?_; dsimp only)); refine box_event ?hg (N := 1) ?hd (cs := #[.int .i64 a0_0, .slice A0_1 l0_1.length c0_1, .slice A0_2 l0_2.length c0_2, .slice A0_3 l0_3.length c0_3]) (t := 30) ?hr ?_; (case hd => rfl); (case hg => rfl); (case hr => first | (go_simp; done) | (go_simp; rfl)); intro gb106 hg w10 hbox hb; have n0_ := Aside0.mk (below_step pb_ hb); have n1_ := Aside0.mk (hbox); have n2_ := Aside0.mk ((by rw [hg]; exact (below_size pb_) : w.heap.size ≤ gb106)); have n3_ := Aside0.mk ((by rw [hg]; exact (below_size pb_) : w.heap.size ≤ gb106)); clear HB; have HB := n0_; have BK106 := n1_; have GW106 := n2_; have GE106 := n3_; clear n0_ n1_ n2_ n3_; clear hb hbox hg; have hcz11_0 := bc0 BK106.out; have hcz11_1 := bc1 BK106.out; have hcz11_2 := bc2 BK106.out; have hcz11_3 := bc3 BK106.out; have hfz11_0 := blk_frozen BK106.out 0; have hfz11_1 := blk_frozen BK106.out 1; have hfz11_2 := blk_frozen BK106.out 2; have hfz11_3 := blk_frozen BK106.out 3) | (go_at_call 28; (with_reducible refine (spec_l1In.calls a0_0 0 (l0_1.length : Int) true _ A8.out).mono ?_); rintro e w' ⟨rfl, ⟨nd, rfl⟩⟩))
    go_loopg [31] k (fun kq v31 w' => ∃ (x31_1 : Int), v31 = .int .i64 x31_1 ∧ Aside0 (spec_GoodYoung.l0 kq l0_3 (l0_3.length : Int) x31_1 a0_0 l0_1 l0_2 l0_3 = some r) ∧ Aside0 (kq ≤ k) ∧ Aside0 (w'.heap[gb106]? = some (.cells #[.int .i64 a0_0, (.slice A0_1 l0_1.length c0_1), (.slice A0_2 l0_2.length c0_2), (.slice A0_3 l0_3.length c0_3)] 30 (0, 0))) ∧ Aside0 (Below w.heap.size w w'))
    case atStart => exact ⟨(0), (by first | rfl | (simp; done) | (simp [*]; done)), H', ⟨Nat.le_refl _⟩, ⟨pk_ BK106.out⟩, ⟨pb_⟩⟩
    case round =>
     clear H'
     try clear c2
     try clear c2b0
     try clear c2b1
     try clear p2
     try clear c5
     try clear c5b0
     try clear c5b1
     try clear c9
     try clear hcz11_0
     try clear hcz11_1
     try clear hcz11_2
     try clear hcz11_3
     try clear hcz4_0
     try clear hcz4_1
     try clear hcz4_2
     try clear hcz4_3
     try clear hcz7_0
     try clear hcz7_1
     try clear hcz7_2
     try clear hcz7_3
     try clear hfz11_0
     try clear hfz11_1
     try clear hfz11_2
     try clear hfz11_3
     try clear hfz4_0
     try clear hfz4_1
     try clear hfz4_2
     try clear hfz4_3
     try clear hfz7_0
     try clear hfz7_1
     try clear hfz7_2
     try clear hfz7_3
     obtain ⟨x31_1, rfl, HA, HK1, BK106, HB⟩ := hrel
     cases gk with
     | zero => exact absurd HA.out (by simp [spec_GoodYoung.l0])
     | succ k1 =>
      have H := HA.out
      clear HA
      simp only [spec_GoodYoung.l0] at H
      by_cases c12 : x31_1 < (l0_3.length : Int)
      ·rw [if_pos c12] at H
       have c12b0 : decide (x31_1 < (l0_3.length : Int)) = true := decide_eq_true c12
       clear c12
       by_cases c13 : 0 ≤ x31_1
       ·rw [if_pos c13] at H
        have c13b0 : decide (0 ≤ x31_1) = true := decide_eq_true c13
        clear c13
        by_cases c14 : x31_1 < (l0_3.length : Int)
        ·rw [if_pos c14] at H
         have c14b0 : decide (x31_1 < (l0_3.length : Int)) = true := decide_eq_true c14
         clear c14
         replace H := Option.bind_eq_some_iff.mp H
         obtain ⟨t109, A150, H⟩ := H
         replace H : (if t109 = true then (if x31_1 > 0 then (if 0 ≤ (wrap64 (x31_1 - 1)) then (if (wrap64 (x31_1 - 1)) < (l0_3.length : Int) then (if (rd l0_3 (wrap64 (x31_1 - 1))) ≥ (rd l0_3 x31_1) then (some false) else (spec_GoodYoung.l0 k1 l0_3 (l0_3.length : Int) (wrap64 (x31_1 + 1)) a0_0 l0_1 l0_2 l0_3)) else (none)) else (none)) else (spec_GoodYoung.l0 k1 l0_3 (l0_3.length : Int) (wrap64 (x31_1 + 1)) a0_0 l0_1 l0_2 l0_3)) else (some false)) = some r := H
         have A15 := Aside0.mk A150
         clear A150
         by_cases c16 : t109 = true
         ·subst c16
          have H1 : (if x31_1 > 0 then (if 0 ≤ (wrap64 (x31_1 - 1)) then (if (wrap64 (x31_1 - 1)) < (l0_3.length : Int) then (if (rd l0_3 (wrap64 (x31_1 - 1))) ≥ (rd l0_3 x31_1) then (some false) else (spec_GoodYoung.l0 k1 l0_3 (l0_3.length : Int) (wrap64 (x31_1 + 1)) a0_0 l0_1 l0_2 l0_3)) else (none)) else (none)) else (spec_GoodYoung.l0 k1 l0_3 (l0_3.length : Int) (wrap64 (x31_1 + 1)) a0_0 l0_1 l0_2 l0_3)) = some r := by rw [if_pos rfl] at H; exact H
          clear H
          have H := H1
          clear H1
          by_cases c17 : x31_1 > 0
          ·rw [if_pos c17] at H
           have c17b0 : decide (0 < x31_1) = true := decide_eq_true c17
           clear c17
           obtain ⟨ji18, hji18⟩ : ∃ j_ : Int, (wrap64 (x31_1 - 1)) = j_ := ⟨_, rfl⟩
           replace H : (if 0 ≤ (ji18) then (if (ji18) < (l0_3.length : Int) then (if (rd l0_3 (ji18)) ≥ (rd l0_3 x31_1) then (some false) else (spec_GoodYoung.l0 k1 l0_3 (l0_3.length : Int) (wrap64 (x31_1 + 1)) a0_0 l0_1 l0_2 l0_3)) else (none)) else (none)) = some r := by first | (rw [hji18] at H; exact H) | (simp only [hji18] at H ⊢; exact H)
           (try rw [hji18] at A15)
           have hji18w : (IntKind.i64.wrap (x31_1 - 1)) = ji18 := (i64_w _).trans hji18
           by_cases c19 : 0 ≤ (ji18)
           ·rw [if_pos c19] at H
            have c19b0 : decide (0 ≤ (ji18)) = true := decide_eq_true c19
            clear c19
            by_cases c20 : (ji18) < (l0_3.length : Int)
            ·rw [if_pos c20] at H
             have c20b0 : decide ((ji18) < (l0_3.length : Int)) = true := decide_eq_true c20
             clear c20
             by_cases c21 : (rd l0_3 (ji18)) ≥ (rd l0_3 x31_1)
             ·rw [if_pos c21] at H
              have c21b0 : decide ((rd l0_3 x31_1) ≤ (rd l0_3 (ji18))) = true := decide_eq_true c21
              clear c21
              obtain rfl := Option.some.inj H
              have p108 : 0 ≤ (x31_1 : Int) := of_decide_eq_true (by first | (with_reducible assumption) | assumption)
              have q108 : x31_1 < (l0_3.length : Int) := of_decide_eq_true (by first | (with_reducible assumption) | assumption)
              obtain ⟨ad108, e108, hx108_0⟩ := Kd.at_int HR0_3.out x31_1 p108 q108
              cases e108
              replace hx108_0 := (HB.out.cell (World.block_lt_of_cell? w _ hx108_0)).trans hx108_0
              replace p108 := eq_true p108
              replace q108 := eq_true q108
              have hcz22_0 := bc0 BK106.out
              have hcz22_1 := bc1 BK106.out
              have hcz22_2 := bc2 BK106.out
              have hcz22_3 := bc3 BK106.out
              have hfz22_0 := blk_frozen BK106.out 0
              have hfz22_1 := blk_frozen BK106.out 1
              have hfz22_2 := blk_frozen BK106.out 2
              have hfz22_3 := blk_frozen BK106.out 3
              go_wp2_with (first | ((with_reducible refine gate_callee (f := 28) rfl ?_); refine goesL_ (some 40) rfl rfl Try.func28 (by kernel_rfl) rfl #[.int .i64 (rd l0_3 x31_1), .int .i64 0, .int .i64 (wrap64 (a0_0 - 1))] rfl (by (try simp only [List.map_toArray, List.map_cons, List.map_nil]); first | done | rfl | (simp only [List.length_drop, List.length_take]; rfl)) ?_; (with_reducible refine (spec_l1In.calls (rd l0_3 x31_1) 0 (wrap64 (a0_0 - 1)) true _ A15.out).mono ?_); rintro e w' ⟨rfl, ⟨nd, rfl⟩⟩; refine ⟨_, rfl, ?_⟩; have p110 : 0 ≤ ((ji18) : Int) := of_decide_eq_true (by first | (with_reducible assumption) | assumption); have q110 : (ji18) < (l0_3.length : Int) := of_decide_eq_true (by first | (with_reducible assumption) | assumption); obtain ⟨ad110, e110, hx110_0⟩ := Kd.at_int HR0_3.out (ji18) p110 q110; obtain rfl : ad108 = ad110 := (by injection e110); replace hx110_0 := (HB.out.cell (World.block_lt_of_cell? w _ hx110_0)).trans hx110_0; replace p110 := eq_true p110; replace q110 := eq_true q110))
              go_ret
              exact ⟨by first | rfl | (simp [errW_none, errW_some] <;> rfl) | (simp only [← hji18]; first | rfl | (simp [errW_none, errW_some] <;> rfl)) | (simp [*, errW_none, errW_some] <;> rfl), pb_⟩
             ·rw [if_neg c21] at H
              have c21b0 : decide ((rd l0_3 x31_1) ≤ (rd l0_3 (ji18))) = false := decide_eq_false c21
              clear c21
              have H' := Aside0.mk H
              clear H
              have p108 : 0 ≤ (x31_1 : Int) := of_decide_eq_true (by first | (with_reducible assumption) | assumption)
              have q108 : x31_1 < (l0_3.length : Int) := of_decide_eq_true (by first | (with_reducible assumption) | assumption)
              obtain ⟨ad108, e108, hx108_0⟩ := Kd.at_int HR0_3.out x31_1 p108 q108
              cases e108
              replace hx108_0 := (HB.out.cell (World.block_lt_of_cell? w _ hx108_0)).trans hx108_0
              replace p108 := eq_true p108
              replace q108 := eq_true q108
              have hcz23_0 := bc0 BK106.out
              have hcz23_1 := bc1 BK106.out
              have hcz23_2 := bc2 BK106.out
              have hcz23_3 := bc3 BK106.out
              have hfz23_0 := blk_frozen BK106.out 0
              have hfz23_1 := blk_frozen BK106.out 1
              have hfz23_2 := blk_frozen BK106.out 2
              have hfz23_3 := blk_frozen BK106.out 3
              go_wp2_with (first | ((with_reducible refine gate_callee (f := 28) rfl ?_); refine goesL_ (some 40) rfl rfl Try.func28 (by kernel_rfl) rfl #[.int .i64 (rd l0_3 x31_1), .int .i64 0, .int .i64 (wrap64 (a0_0 - 1))] rfl (by (try simp only [List.map_toArray, List.map_cons, List.map_nil]); first | done | rfl | (simp only [List.length_drop, List.length_take]; rfl)) ?_; (with_reducible refine (spec_l1In.calls (rd l0_3 x31_1) 0 (wrap64 (a0_0 - 1)) true _ A15.out).mono ?_); rintro e w' ⟨rfl, ⟨nd, rfl⟩⟩; refine ⟨_, rfl, ?_⟩; have p110 : 0 ≤ ((ji18) : Int) := of_decide_eq_true (by first | (with_reducible assumption) | assumption); have q110 : (ji18) < (l0_3.length : Int) := of_decide_eq_true (by first | (with_reducible assumption) | assumption); obtain ⟨ad110, e110, hx110_0⟩ := Kd.at_int HR0_3.out (ji18) p110 q110; obtain rfl : ad108 = ad110 := (by injection e110); replace hx110_0 := (HB.out.cell (World.block_lt_of_cell? w _ hx110_0)).trans hx110_0; replace p110 := eq_true p110; replace q110 := eq_true q110))
              go_roundg k1
              case measure => have := HK1.out; omega
              case rel => exact ⟨(wrap64 (x31_1 + 1)), (by first | rfl | (simp; done) | (simp [*]; done)), H', ⟨by have := HK1.out; omega⟩, ⟨pk_ BK106.out⟩, ⟨pb_⟩⟩
            ·rw [if_neg c20] at H
             exact absurd H (by simp)
           ·rw [if_neg c19] at H
            exact absurd H (by simp)
          ·rw [if_neg c17] at H
           have c17b0 : decide (0 < x31_1) = false := decide_eq_false c17
           clear c17
           have H' := Aside0.mk H
           clear H
           have p108 : 0 ≤ (x31_1 : Int) := of_decide_eq_true (by first | (with_reducible assumption) | assumption)
           have q108 : x31_1 < (l0_3.length : Int) := of_decide_eq_true (by first | (with_reducible assumption) | assumption)
           obtain ⟨ad108, e108, hx108_0⟩ := Kd.at_int HR0_3.out x31_1 p108 q108
           cases e108
           replace hx108_0 := (HB.out.cell (World.block_lt_of_cell? w _ hx108_0)).trans hx108_0
           replace p108 := eq_true p108
           replace q108 := eq_true q108
           have hcz24_0 := bc0 BK106.out
           have hcz24_1 := bc1 BK106.out
           have hcz24_2 := bc2 BK106.out
           have hcz24_3 := bc3 BK106.out
           have hfz24_0 := blk_frozen BK106.out 0
           have hfz24_1 := blk_frozen BK106.out 1
           have hfz24_2 := blk_frozen BK106.out 2
           have hfz24_3 := blk_frozen BK106.out 3
           go_wp2_with (first | ((with_reducible refine gate_callee (f := 28) rfl ?_); refine goesL_ (some 40) rfl rfl Try.func28 (by kernel_rfl) rfl #[.int .i64 (rd l0_3 x31_1), .int .i64 0, .int .i64 (wrap64 (a0_0 - 1))] rfl (by (try simp only [List.map_toArray, List.map_cons, List.map_nil]); first | done | rfl | (simp only [List.length_drop, List.length_take]; rfl)) ?_; (with_reducible refine (spec_l1In.calls (rd l0_3 x31_1) 0 (wrap64 (a0_0 - 1)) true _ A15.out).mono ?_); rintro e w' ⟨rfl, ⟨nd, rfl⟩⟩; refine ⟨_, rfl, ?_⟩))
           go_roundg k1
           case measure => have := HK1.out; omega
           case rel => exact ⟨(wrap64 (x31_1 + 1)), (by first | rfl | (simp; done) | (simp [*]; done)), H', ⟨by have := HK1.out; omega⟩, ⟨pk_ BK106.out⟩, ⟨pb_⟩⟩
         ·replace c16 := Bool.eq_false_iff.mpr c16
          subst c16
          have H1 : (some false) = some r := by rw [if_neg (show ¬ (false = true) by decide)] at H; exact H
          clear H
          have H := H1
          clear H1
          obtain rfl := Option.some.inj H
          have p108 : 0 ≤ (x31_1 : Int) := of_decide_eq_true (by first | (with_reducible assumption) | assumption)
          have q108 : x31_1 < (l0_3.length : Int) := of_decide_eq_true (by first | (with_reducible assumption) | assumption)
          obtain ⟨ad108, e108, hx108_0⟩ := Kd.at_int HR0_3.out x31_1 p108 q108
          cases e108
          replace hx108_0 := (HB.out.cell (World.block_lt_of_cell? w _ hx108_0)).trans hx108_0
          replace p108 := eq_true p108
          replace q108 := eq_true q108
          have hcz25_0 := bc0 BK106.out
          have hcz25_1 := bc1 BK106.out
          have hcz25_2 := bc2 BK106.out
          have hcz25_3 := bc3 BK106.out
          have hfz25_0 := blk_frozen BK106.out 0
          have hfz25_1 := blk_frozen BK106.out 1
          have hfz25_2 := blk_frozen BK106.out 2
          have hfz25_3 := blk_frozen BK106.out 3
          go_wp2_with (first | ((with_reducible refine gate_callee (f := 28) rfl ?_); refine goesL_ (some 40) rfl rfl Try.func28 (by kernel_rfl) rfl #[.int .i64 (rd l0_3 x31_1), .int .i64 0, .int .i64 (wrap64 (a0_0 - 1))] rfl (by (try simp only [List.map_toArray, List.map_cons, List.map_nil]); first | done | rfl | (simp only [List.length_drop, List.length_take]; rfl)) ?_; (with_reducible refine (spec_l1In.calls (rd l0_3 x31_1) 0 (wrap64 (a0_0 - 1)) false _ A15.out).mono ?_); rintro e w' ⟨rfl, ⟨nd, rfl⟩⟩; refine ⟨_, rfl, ?_⟩))
          go_ret
          exact ⟨by first | rfl | (simp [errW_none, errW_some] <;> rfl) | (simp [*, errW_none, errW_some] <;> rfl), pb_⟩
        ·rw [if_neg c14] at H
         exact absurd H (by simp)
       ·rw [if_neg c13] at H
        exact absurd H (by simp)
      ·rw [if_neg c12] at H
       have c12b0 : decide (x31_1 < (l0_3.length : Int)) = false := decide_eq_false c12
       clear c12
       have H' := Aside0.mk H
       clear H
       have hcz26_0 := bc0 BK106.out
       have hcz26_1 := bc1 BK106.out
       have hcz26_2 := bc2 BK106.out
       have hcz26_3 := bc3 BK106.out
       have hfz26_0 := blk_frozen BK106.out 0
       have hfz26_1 := blk_frozen BK106.out 1
       have hfz26_2 := blk_frozen BK106.out 2
       have hfz26_3 := blk_frozen BK106.out 3
       go_wp2
       go_loopg [60] k1 (fun kq v60 w' => ∃ (x60_2 : Int), v60 = .int .i64 x60_2 ∧ Aside0 (spec_GoodYoung.l1 kq l0_1 (l0_1.length : Int) x60_2 a0_0 l0_1 l0_2 l0_3 = some r) ∧ Aside0 (kq ≤ k1) ∧ Aside0 (w'.heap[gb106]? = some (.cells #[.int .i64 a0_0, (.slice A0_1 l0_1.length c0_1), (.slice A0_2 l0_2.length c0_2), (.slice A0_3 l0_3.length c0_3)] 30 (0, 0))) ∧ Aside0 (Below w.heap.size w w'))
       case atStart => exact ⟨(0), (by first | rfl | (simp; done) | (simp [*]; done)), H', ⟨Nat.le_refl _⟩, ⟨pk_ BK106.out⟩, ⟨pb_⟩⟩
       case round =>
        clear H'
        try clear c1
        try clear p1
        try clear q1
        try clear hx1
        try clear c2
        try clear c2b0
        try clear c2b1
        try clear p2
        try clear c5
        try clear c5b0
        try clear c5b1
        try clear p6
        try clear c9
        try clear p10
        try clear q10
        try clear hx10
        try clear p11
        try clear q11
        try clear hx11
        try clear c12
        try clear c12b0
        try clear c13
        try clear c13b0
        try clear c14
        try clear c14b0
        try clear c16
        try clear c17
        try clear c17b0
        try clear c19
        try clear c19b0
        try clear c20
        try clear c20b0
        try clear c21
        try clear c21b0
        try clear hcz11_0
        try clear hcz11_1
        try clear hcz11_2
        try clear hcz11_3
        try clear hcz22_0
        try clear hcz22_1
        try clear hcz22_2
        try clear hcz22_3
        try clear hcz23_0
        try clear hcz23_1
        try clear hcz23_2
        try clear hcz23_3
        try clear hcz24_0
        try clear hcz24_1
        try clear hcz24_2
        try clear hcz24_3
        try clear hcz25_0
        try clear hcz25_1
        try clear hcz25_2
        try clear hcz25_3
        try clear hcz26_0
        try clear hcz26_1
        try clear hcz26_2
        try clear hcz26_3
        try clear hcz4_0
        try clear hcz4_1
        try clear hcz4_2
        try clear hcz4_3
        try clear hcz7_0
        try clear hcz7_1
        try clear hcz7_2
        try clear hcz7_3
        try clear hfz11_0
        try clear hfz11_1
        try clear hfz11_2
        try clear hfz11_3
        try clear hfz22_0
        try clear hfz22_1
        try clear hfz22_2
        try clear hfz22_3
        try clear hfz23_0
        try clear hfz23_1
        try clear hfz23_2
        try clear hfz23_3
        try clear hfz24_0
        try clear hfz24_1
        try clear hfz24_2
        try clear hfz24_3
        try clear hfz25_0
        try clear hfz25_1
        try clear hfz25_2
        try clear hfz25_3
        try clear hfz26_0
        try clear hfz26_1
        try clear hfz26_2
        try clear hfz26_3
        try clear hfz4_0
        try clear hfz4_1
        try clear hfz4_2
        try clear hfz4_3
        try clear hfz7_0
        try clear hfz7_1
        try clear hfz7_2
        try clear hfz7_3
        try clear hx108_0
        try clear hx110_0
        try clear p108
        try clear p110
        try clear p2
        try clear q108
        try clear q110
        obtain ⟨x60_2, rfl, HA, HK2, BK106, HB⟩ := hrel
        cases gk with
        | zero => exact absurd HA.out (by simp [spec_GoodYoung.l1])
        | succ k2 =>
         have H := HA.out
         clear HA
         simp only [spec_GoodYoung.l1] at H
         by_cases c27 : x60_2 < (l0_1.length : Int)
         ·rw [if_pos c27] at H
          have c27b0 : decide (x60_2 < (l0_1.length : Int)) = true := decide_eq_true c27
          clear c27
          by_cases c28 : 0 ≤ x60_2
          ·rw [if_pos c28] at H
           have c28b0 : decide (0 ≤ x60_2) = true := decide_eq_true c28
           clear c28
           by_cases c29 : x60_2 < (l0_1.length : Int)
           ·rw [if_pos c29] at H
            have c29b0 : decide (x60_2 < (l0_1.length : Int)) = true := decide_eq_true c29
            clear c29
            obtain ⟨bq30, hbq30⟩ : ∃ b_ : Bool, b_ = ((rd_T46 l0_1 x60_2).f0) := ⟨_, rfl⟩
            replace H : (if bq30 = true then (if ((rd_T46 l0_1 x60_2).f2) = 0 then (if ((rd_T46 l0_1 x60_2).f3) = 0 then (spec_GoodYoung.l1 k2 l0_1 (l0_1.length : Int) (wrap64 (x60_2 + 1)) a0_0 l0_1 l0_2 l0_3) else (some false)) else (some false)) else (if ((rd_T46 l0_1 x60_2).f1) = 0 then ((spec_l1In.f ((rd_T46 l0_1 x60_2).f2) 0 (wrap64 ((l0_1.length : Int) - 1))).bind fun t113 => (if t113 = true then ((spec_l1In.f ((rd_T46 l0_1 x60_2).f3) 0 (wrap64 ((l0_1.length : Int) - 1))).bind fun t114 => (if t114 = true then (if x60_2 < a0_0 then (if ((rd_T46 l0_1 x60_2).f2) ≥ a0_0 then ((spec_lcHas.f k2 l0_3 x60_2).bind fun t115 => (if t115 = true then (spec_GoodYoung.l1 k2 l0_1 (l0_1.length : Int) (wrap64 (x60_2 + 1)) a0_0 l0_1 l0_2 l0_3) else (some false))) else (if ((rd_T46 l0_1 x60_2).f3) ≥ a0_0 then ((spec_lcHas.f k2 l0_3 x60_2).bind fun t116 => (if t116 = true then (spec_GoodYoung.l1 k2 l0_1 (l0_1.length : Int) (wrap64 (x60_2 + 1)) a0_0 l0_1 l0_2 l0_3) else (some false))) else (spec_GoodYoung.l1 k2 l0_1 (l0_1.length : Int) (wrap64 (x60_2 + 1)) a0_0 l0_1 l0_2 l0_3))) else (spec_GoodYoung.l1 k2 l0_1 (l0_1.length : Int) (wrap64 (x60_2 + 1)) a0_0 l0_1 l0_2 l0_3)) else (some false))) else (some false))) else (some false))) = some r := by rw [← hbq30] at H; exact H
            have Nbq30 := Aside0.mk hbq30
            clear hbq30
            by_cases c31 : bq30 = true
            ·subst c31
             have H1 : (if ((rd_T46 l0_1 x60_2).f2) = 0 then (if ((rd_T46 l0_1 x60_2).f3) = 0 then (spec_GoodYoung.l1 k2 l0_1 (l0_1.length : Int) (wrap64 (x60_2 + 1)) a0_0 l0_1 l0_2 l0_3) else (some false)) else (some false)) = some r := by rw [if_pos rfl] at H; exact H
             clear H
             have H := H1
             clear H1
             by_cases c32 : ((rd_T46 l0_1 x60_2).f2) = 0
             ·rw [if_pos c32] at H
              have c32b0 : (((rd_T46 l0_1 x60_2).f2) == 0) = true := beq_iff_eq.mpr c32
              have c32b1 : (((rd_T46 l0_1 x60_2).f2) != 0) = false := bne_eq_false_iff_eq.mpr c32
              clear c32
              by_cases c33 : ((rd_T46 l0_1 x60_2).f3) = 0
              ·rw [if_pos c33] at H
               have c33b0 : (((rd_T46 l0_1 x60_2).f3) == 0) = true := beq_iff_eq.mpr c33
               have c33b1 : (((rd_T46 l0_1 x60_2).f3) != 0) = false := bne_eq_false_iff_eq.mpr c33
               clear c33
               have H' := Aside0.mk H
               clear H
               have p111 : 0 ≤ (x60_2 : Int) := of_decide_eq_true (by first | (with_reducible assumption) | assumption)
               have q111 : x60_2 < (l0_1.length : Int) := of_decide_eq_true (by first | (with_reducible assumption) | assumption)
               obtain ⟨ad111, e111, hx111_0, hx111_1, hx111_2, hx111_3⟩ := at_T46 HR0_1.out x60_2 p111 q111
               (try rw [← Nbq30.out] at hx111_0)
               cases e111
               replace hx111_0 := (HB.out.cell (World.block_lt_of_cell? w _ hx111_0)).trans hx111_0
               replace hx111_1 := (HB.out.cell (World.block_lt_of_cell? w _ hx111_1)).trans hx111_1
               replace hx111_2 := (HB.out.cell (World.block_lt_of_cell? w _ hx111_2)).trans hx111_2
               replace hx111_3 := (HB.out.cell (World.block_lt_of_cell? w _ hx111_3)).trans hx111_3
               replace p111 := eq_true p111
               replace q111 := eq_true q111
               go_wp2_with (first | ((with_reducible refine gate_dst (N := 6) rfl ?_); (try (refine gate_guard (by rfl) ?_; dsimp only)); refine box_event ?hg (N := 6) ?hd (cs := #[.bool false, .int .i64 0, .int .i64 0, .int .i64 0]) (t := 46) ?hr ?_; (case hd => rfl); (case hg => rfl); (case hr => first | (go_simp; done) | (go_simp; rfl)); intro gb112 hg w34 hbox hb; have n0_ := Aside0.mk (blk_below (pk_ BK106.out) hb); have n1_ := Aside0.mk (below_step pb_ hb); have n2_ := Aside0.mk (hbox); have n3_ := Aside0.mk ((by rw [hg]; exact (below_size pb_) : w.heap.size ≤ gb112)); have n4_ := Aside0.mk ((by rw [hg]; exact (below_size pb_) : w.heap.size ≤ gb112)); have n5_ := Aside0.mk ((by rw [hg]; exact Nat.ne_of_lt (blk_lt (pk_ BK106.out)) : gb106 ≠ gb112)); have n6_ := Aside0.mk ((by rw [hg]; exact Nat.ne_of_gt (blk_lt (pk_ BK106.out)) : gb112 ≠ gb106)); clear BK106; clear HB; have BK106 := n0_; have HB := n1_; have BK112 := n2_; have GW112 := n3_; have GE112 := n4_; have NB106_112 := n5_; have NB112_106 := n6_; clear n0_ n1_ n2_ n3_ n4_ n5_ n6_; clear hb hbox hg; have hnb35 := NB112_106.out; have hnc35 := NB106_112.out; have hcz36_0 := bc0 BK112.out; have hcz36_1 := bc1 BK112.out; have hcz36_2 := bc2 BK112.out; have hcz36_3 := bc3 BK112.out; have hfz36_0 := blk_frozen BK112.out 0; have hfz36_1 := blk_frozen BK112.out 1; have hfz36_2 := blk_frozen BK112.out 2; have hfz36_3 := blk_frozen BK112.out 3))
               go_roundg k2
               case measure => have := HK1.out; have := HK2.out; omega
               case rel => exact ⟨(wrap64 (x60_2 + 1)), (by first | rfl | (simp; done) | (simp [*]; done)), H', ⟨by have := HK1.out; have := HK2.out; omega⟩, ⟨by (with_reducible repeat (first | refine blk_drewN ?_ _ | refine blk_drew ?_ | refine blk_alloc ?_ _)); refine blk_far ?_ NB106_112.out _; (with_reducible repeat (first | refine blk_drewN ?_ _ | refine blk_drew ?_ | refine blk_alloc ?_ _)); refine blk_far ?_ NB106_112.out _; (with_reducible repeat (first | refine blk_drewN ?_ _ | refine blk_drew ?_ | refine blk_alloc ?_ _)); refine blk_far ?_ NB106_112.out _; (with_reducible repeat (first | refine blk_drewN ?_ _ | refine blk_drew ?_ | refine blk_alloc ?_ _)); refine blk_far ?_ NB106_112.out _; (with_reducible repeat (first | refine blk_drewN ?_ _ | refine blk_drew ?_ | refine blk_alloc ?_ _)); exact BK106.out⟩, ⟨pb_⟩⟩
              ·rw [if_neg c33] at H
               have c33b0 : (((rd_T46 l0_1 x60_2).f3) == 0) = false := beq_eq_false_iff_ne.mpr c33
               have c33b1 : (((rd_T46 l0_1 x60_2).f3) != 0) = true := bne_iff_ne.mpr c33
               obtain rfl := Option.some.inj H
               have p111 : 0 ≤ (x60_2 : Int) := of_decide_eq_true (by first | (with_reducible assumption) | assumption)
               have q111 : x60_2 < (l0_1.length : Int) := of_decide_eq_true (by first | (with_reducible assumption) | assumption)
               obtain ⟨ad111, e111, hx111_0, hx111_1, hx111_2, hx111_3⟩ := at_T46 HR0_1.out x60_2 p111 q111
               (try rw [← Nbq30.out] at hx111_0)
               cases e111
               replace hx111_0 := (HB.out.cell (World.block_lt_of_cell? w _ hx111_0)).trans hx111_0
               replace hx111_1 := (HB.out.cell (World.block_lt_of_cell? w _ hx111_1)).trans hx111_1
               replace hx111_2 := (HB.out.cell (World.block_lt_of_cell? w _ hx111_2)).trans hx111_2
               replace hx111_3 := (HB.out.cell (World.block_lt_of_cell? w _ hx111_3)).trans hx111_3
               replace p111 := eq_true p111
               replace q111 := eq_true q111
               go_wp2_with (first | ((with_reducible refine gate_dst (N := 6) rfl ?_); (try (refine gate_guard (by rfl) ?_; dsimp only)); refine box_event ?hg (N := 6) ?hd (cs := #[.bool false, .int .i64 0, .int .i64 0, .int .i64 0]) (t := 46) ?hr ?_; (case hd => rfl); (case hg => rfl); (case hr => first | (go_simp; done) | (go_simp; rfl)); intro gb112 hg w37 hbox hb; have n0_ := Aside0.mk (blk_below (pk_ BK106.out) hb); have n1_ := Aside0.mk (below_step pb_ hb); have n2_ := Aside0.mk (hbox); have n3_ := Aside0.mk ((by rw [hg]; exact (below_size pb_) : w.heap.size ≤ gb112)); have n4_ := Aside0.mk ((by rw [hg]; exact (below_size pb_) : w.heap.size ≤ gb112)); have n5_ := Aside0.mk ((by rw [hg]; exact Nat.ne_of_lt (blk_lt (pk_ BK106.out)) : gb106 ≠ gb112)); have n6_ := Aside0.mk ((by rw [hg]; exact Nat.ne_of_gt (blk_lt (pk_ BK106.out)) : gb112 ≠ gb106)); clear BK106; clear HB; have BK106 := n0_; have HB := n1_; have BK112 := n2_; have GW112 := n3_; have GE112 := n4_; have NB106_112 := n5_; have NB112_106 := n6_; clear n0_ n1_ n2_ n3_ n4_ n5_ n6_; clear hb hbox hg; have hnb38 := NB112_106.out; have hnc38 := NB106_112.out; have hcz39_0 := bc0 BK112.out; have hcz39_1 := bc1 BK112.out; have hcz39_2 := bc2 BK112.out; have hcz39_3 := bc3 BK112.out; have hfz39_0 := blk_frozen BK112.out 0; have hfz39_1 := blk_frozen BK112.out 1; have hfz39_2 := blk_frozen BK112.out 2; have hfz39_3 := blk_frozen BK112.out 3))
               go_ret
               exact ⟨by first | rfl | (simp [errW_none, errW_some] <;> rfl) | (simp [*, errW_none, errW_some] <;> rfl), pb_⟩
             ·rw [if_neg c32] at H
              have c32b0 : (((rd_T46 l0_1 x60_2).f2) == 0) = false := beq_eq_false_iff_ne.mpr c32
              have c32b1 : (((rd_T46 l0_1 x60_2).f2) != 0) = true := bne_iff_ne.mpr c32
              obtain rfl := Option.some.inj H
              have p111 : 0 ≤ (x60_2 : Int) := of_decide_eq_true (by first | (with_reducible assumption) | assumption)
              have q111 : x60_2 < (l0_1.length : Int) := of_decide_eq_true (by first | (with_reducible assumption) | assumption)
              obtain ⟨ad111, e111, hx111_0, hx111_1, hx111_2, hx111_3⟩ := at_T46 HR0_1.out x60_2 p111 q111
              (try rw [← Nbq30.out] at hx111_0)
              cases e111
              replace hx111_0 := (HB.out.cell (World.block_lt_of_cell? w _ hx111_0)).trans hx111_0
              replace hx111_1 := (HB.out.cell (World.block_lt_of_cell? w _ hx111_1)).trans hx111_1
              replace hx111_2 := (HB.out.cell (World.block_lt_of_cell? w _ hx111_2)).trans hx111_2
              replace hx111_3 := (HB.out.cell (World.block_lt_of_cell? w _ hx111_3)).trans hx111_3
              replace p111 := eq_true p111
              replace q111 := eq_true q111
              go_wp2_with (first | ((with_reducible refine gate_dst (N := 6) rfl ?_); (try (refine gate_guard (by rfl) ?_; dsimp only)); refine box_event ?hg (N := 6) ?hd (cs := #[.bool false, .int .i64 0, .int .i64 0, .int .i64 0]) (t := 46) ?hr ?_; (case hd => rfl); (case hg => rfl); (case hr => first | (go_simp; done) | (go_simp; rfl)); intro gb112 hg w40 hbox hb; have n0_ := Aside0.mk (blk_below (pk_ BK106.out) hb); have n1_ := Aside0.mk (below_step pb_ hb); have n2_ := Aside0.mk (hbox); have n3_ := Aside0.mk ((by rw [hg]; exact (below_size pb_) : w.heap.size ≤ gb112)); have n4_ := Aside0.mk ((by rw [hg]; exact (below_size pb_) : w.heap.size ≤ gb112)); have n5_ := Aside0.mk ((by rw [hg]; exact Nat.ne_of_lt (blk_lt (pk_ BK106.out)) : gb106 ≠ gb112)); have n6_ := Aside0.mk ((by rw [hg]; exact Nat.ne_of_gt (blk_lt (pk_ BK106.out)) : gb112 ≠ gb106)); clear BK106; clear HB; have BK106 := n0_; have HB := n1_; have BK112 := n2_; have GW112 := n3_; have GE112 := n4_; have NB106_112 := n5_; have NB112_106 := n6_; clear n0_ n1_ n2_ n3_ n4_ n5_ n6_; clear hb hbox hg; have hnb41 := NB112_106.out; have hnc41 := NB106_112.out; have hcz42_0 := bc0 BK112.out; have hcz42_1 := bc1 BK112.out; have hcz42_2 := bc2 BK112.out; have hcz42_3 := bc3 BK112.out; have hfz42_0 := blk_frozen BK112.out 0; have hfz42_1 := blk_frozen BK112.out 1; have hfz42_2 := blk_frozen BK112.out 2; have hfz42_3 := blk_frozen BK112.out 3))
              go_ret
              exact ⟨by first | rfl | (simp [errW_none, errW_some] <;> rfl) | (simp [*, errW_none, errW_some] <;> rfl), pb_⟩
            ·replace c31 := Bool.eq_false_iff.mpr c31
             subst c31
             have H1 : (if ((rd_T46 l0_1 x60_2).f1) = 0 then ((spec_l1In.f ((rd_T46 l0_1 x60_2).f2) 0 (wrap64 ((l0_1.length : Int) - 1))).bind fun t113 => (if t113 = true then ((spec_l1In.f ((rd_T46 l0_1 x60_2).f3) 0 (wrap64 ((l0_1.length : Int) - 1))).bind fun t114 => (if t114 = true then (if x60_2 < a0_0 then (if ((rd_T46 l0_1 x60_2).f2) ≥ a0_0 then ((spec_lcHas.f k2 l0_3 x60_2).bind fun t115 => (if t115 = true then (spec_GoodYoung.l1 k2 l0_1 (l0_1.length : Int) (wrap64 (x60_2 + 1)) a0_0 l0_1 l0_2 l0_3) else (some false))) else (if ((rd_T46 l0_1 x60_2).f3) ≥ a0_0 then ((spec_lcHas.f k2 l0_3 x60_2).bind fun t116 => (if t116 = true then (spec_GoodYoung.l1 k2 l0_1 (l0_1.length : Int) (wrap64 (x60_2 + 1)) a0_0 l0_1 l0_2 l0_3) else (some false))) else (spec_GoodYoung.l1 k2 l0_1 (l0_1.length : Int) (wrap64 (x60_2 + 1)) a0_0 l0_1 l0_2 l0_3))) else (spec_GoodYoung.l1 k2 l0_1 (l0_1.length : Int) (wrap64 (x60_2 + 1)) a0_0 l0_1 l0_2 l0_3)) else (some false))) else (some false))) else (some false)) = some r := by rw [if_neg (show ¬ (false = true) by decide)] at H; exact H
             clear H
             have H := H1
             clear H1
             by_cases c43 : ((rd_T46 l0_1 x60_2).f1) = 0
             ·rw [if_pos c43] at H
              have c43b0 : (((rd_T46 l0_1 x60_2).f1) == 0) = true := beq_iff_eq.mpr c43
              have c43b1 : (((rd_T46 l0_1 x60_2).f1) != 0) = false := bne_eq_false_iff_eq.mpr c43
              clear c43
              replace H := Option.bind_eq_some_iff.mp H
              obtain ⟨t113, A440, H⟩ := H
              replace H : (if t113 = true then ((spec_l1In.f ((rd_T46 l0_1 x60_2).f3) 0 (wrap64 ((l0_1.length : Int) - 1))).bind fun t114 => (if t114 = true then (if x60_2 < a0_0 then (if ((rd_T46 l0_1 x60_2).f2) ≥ a0_0 then ((spec_lcHas.f k2 l0_3 x60_2).bind fun t115 => (if t115 = true then (spec_GoodYoung.l1 k2 l0_1 (l0_1.length : Int) (wrap64 (x60_2 + 1)) a0_0 l0_1 l0_2 l0_3) else (some false))) else (if ((rd_T46 l0_1 x60_2).f3) ≥ a0_0 then ((spec_lcHas.f k2 l0_3 x60_2).bind fun t116 => (if t116 = true then (spec_GoodYoung.l1 k2 l0_1 (l0_1.length : Int) (wrap64 (x60_2 + 1)) a0_0 l0_1 l0_2 l0_3) else (some false))) else (spec_GoodYoung.l1 k2 l0_1 (l0_1.length : Int) (wrap64 (x60_2 + 1)) a0_0 l0_1 l0_2 l0_3))) else (spec_GoodYoung.l1 k2 l0_1 (l0_1.length : Int) (wrap64 (x60_2 + 1)) a0_0 l0_1 l0_2 l0_3)) else (some false))) else (some false)) = some r := H
              have A44 := Aside0.mk A440
              clear A440
              by_cases c45 : t113 = true
              ·subst c45
               have H1 : ((spec_l1In.f ((rd_T46 l0_1 x60_2).f3) 0 (wrap64 ((l0_1.length : Int) - 1))).bind fun t114 => (if t114 = true then (if x60_2 < a0_0 then (if ((rd_T46 l0_1 x60_2).f2) ≥ a0_0 then ((spec_lcHas.f k2 l0_3 x60_2).bind fun t115 => (if t115 = true then (spec_GoodYoung.l1 k2 l0_1 (l0_1.length : Int) (wrap64 (x60_2 + 1)) a0_0 l0_1 l0_2 l0_3) else (some false))) else (if ((rd_T46 l0_1 x60_2).f3) ≥ a0_0 then ((spec_lcHas.f k2 l0_3 x60_2).bind fun t116 => (if t116 = true then (spec_GoodYoung.l1 k2 l0_1 (l0_1.length : Int) (wrap64 (x60_2 + 1)) a0_0 l0_1 l0_2 l0_3) else (some false))) else (spec_GoodYoung.l1 k2 l0_1 (l0_1.length : Int) (wrap64 (x60_2 + 1)) a0_0 l0_1 l0_2 l0_3))) else (spec_GoodYoung.l1 k2 l0_1 (l0_1.length : Int) (wrap64 (x60_2 + 1)) a0_0 l0_1 l0_2 l0_3)) else (some false))) = some r := by rw [if_pos rfl] at H; exact H
               clear H
               have H := H1
               clear H1
               replace H := Option.bind_eq_some_iff.mp H
               obtain ⟨t114, A460, H⟩ := H
               replace H : (if t114 = true then (if x60_2 < a0_0 then (if ((rd_T46 l0_1 x60_2).f2) ≥ a0_0 then ((spec_lcHas.f k2 l0_3 x60_2).bind fun t115 => (if t115 = true then (spec_GoodYoung.l1 k2 l0_1 (l0_1.length : Int) (wrap64 (x60_2 + 1)) a0_0 l0_1 l0_2 l0_3) else (some false))) else (if ((rd_T46 l0_1 x60_2).f3) ≥ a0_0 then ((spec_lcHas.f k2 l0_3 x60_2).bind fun t116 => (if t116 = true then (spec_GoodYoung.l1 k2 l0_1 (l0_1.length : Int) (wrap64 (x60_2 + 1)) a0_0 l0_1 l0_2 l0_3) else (some false))) else (spec_GoodYoung.l1 k2 l0_1 (l0_1.length : Int) (wrap64 (x60_2 + 1)) a0_0 l0_1 l0_2 l0_3))) else (spec_GoodYoung.l1 k2 l0_1 (l0_1.length : Int) (wrap64 (x60_2 + 1)) a0_0 l0_1 l0_2 l0_3)) else (some false)) = some r := H
               have A46 := Aside0.mk A460
               clear A460
               by_cases c47 : t114 = true
               ·subst c47
                have H1 : (if x60_2 < a0_0 then (if ((rd_T46 l0_1 x60_2).f2) ≥ a0_0 then ((spec_lcHas.f k2 l0_3 x60_2).bind fun t115 => (if t115 = true then (spec_GoodYoung.l1 k2 l0_1 (l0_1.length : Int) (wrap64 (x60_2 + 1)) a0_0 l0_1 l0_2 l0_3) else (some false))) else (if ((rd_T46 l0_1 x60_2).f3) ≥ a0_0 then ((spec_lcHas.f k2 l0_3 x60_2).bind fun t116 => (if t116 = true then (spec_GoodYoung.l1 k2 l0_1 (l0_1.length : Int) (wrap64 (x60_2 + 1)) a0_0 l0_1 l0_2 l0_3) else (some false))) else (spec_GoodYoung.l1 k2 l0_1 (l0_1.length : Int) (wrap64 (x60_2 + 1)) a0_0 l0_1 l0_2 l0_3))) else (spec_GoodYoung.l1 k2 l0_1 (l0_1.length : Int) (wrap64 (x60_2 + 1)) a0_0 l0_1 l0_2 l0_3)) = some r := by rw [if_pos rfl] at H; exact H
                clear H
                have H := H1
                clear H1
                by_cases c48 : x60_2 < a0_0
                ·rw [if_pos c48] at H
                 have c48b0 : decide (x60_2 < a0_0) = true := decide_eq_true c48
                 clear c48
                 by_cases c49 : ((rd_T46 l0_1 x60_2).f2) ≥ a0_0
                 ·rw [if_pos c49] at H
                  have c49b0 : decide (a0_0 ≤ ((rd_T46 l0_1 x60_2).f2)) = true := decide_eq_true c49
                  clear c49
                  replace H := Option.bind_eq_some_iff.mp H
                  obtain ⟨t115, A500, H⟩ := H
                  replace H : (if t115 = true then (spec_GoodYoung.l1 k2 l0_1 (l0_1.length : Int) (wrap64 (x60_2 + 1)) a0_0 l0_1 l0_2 l0_3) else (some false)) = some r := H
                  have A50 := Aside0.mk A500
                  clear A500
                  by_cases c51 : t115 = true
                  ·subst c51
                   have H1 : (spec_GoodYoung.l1 k2 l0_1 (l0_1.length : Int) (wrap64 (x60_2 + 1)) a0_0 l0_1 l0_2 l0_3) = some r := by rw [if_pos rfl] at H; exact H
                   clear H
                   have H := H1
                   clear H1
                   have H' := Aside0.mk H
                   clear H
                   have p111 : 0 ≤ (x60_2 : Int) := of_decide_eq_true (by first | (with_reducible assumption) | assumption)
                   have q111 : x60_2 < (l0_1.length : Int) := of_decide_eq_true (by first | (with_reducible assumption) | assumption)
                   obtain ⟨ad111, e111, hx111_0, hx111_1, hx111_2, hx111_3⟩ := at_T46 HR0_1.out x60_2 p111 q111
                   (try rw [← Nbq30.out] at hx111_0)
                   cases e111
                   replace hx111_0 := (HB.out.cell (World.block_lt_of_cell? w _ hx111_0)).trans hx111_0
                   replace hx111_1 := (HB.out.cell (World.block_lt_of_cell? w _ hx111_1)).trans hx111_1
                   replace hx111_2 := (HB.out.cell (World.block_lt_of_cell? w _ hx111_2)).trans hx111_2
                   replace hx111_3 := (HB.out.cell (World.block_lt_of_cell? w _ hx111_3)).trans hx111_3
                   replace p111 := eq_true p111
                   replace q111 := eq_true q111
                   go_wp2_with (first | ((with_reducible refine gate_dst (N := 6) rfl ?_); (try (refine gate_guard (by rfl) ?_; dsimp only)); refine box_event ?hg (N := 6) ?hd (cs := #[.bool false, .int .i64 0, .int .i64 0, .int .i64 0]) (t := 46) ?hr ?_; (case hd => rfl); (case hg => rfl); (case hr => first | (go_simp; done) | (go_simp; rfl)); intro gb112 hg w52 hbox hb; have n0_ := Aside0.mk (blk_below (pk_ BK106.out) hb); have n1_ := Aside0.mk (below_step pb_ hb); have n2_ := Aside0.mk (hbox); have n3_ := Aside0.mk ((by rw [hg]; exact (below_size pb_) : w.heap.size ≤ gb112)); have n4_ := Aside0.mk ((by rw [hg]; exact (below_size pb_) : w.heap.size ≤ gb112)); have n5_ := Aside0.mk ((by rw [hg]; exact Nat.ne_of_lt (blk_lt (pk_ BK106.out)) : gb106 ≠ gb112)); have n6_ := Aside0.mk ((by rw [hg]; exact Nat.ne_of_gt (blk_lt (pk_ BK106.out)) : gb112 ≠ gb106)); clear BK106; clear HB; have BK106 := n0_; have HB := n1_; have BK112 := n2_; have GW112 := n3_; have GE112 := n4_; have NB106_112 := n5_; have NB112_106 := n6_; clear n0_ n1_ n2_ n3_ n4_ n5_ n6_; clear hb hbox hg; have hnb53 := NB112_106.out; have hnc53 := NB106_112.out; have hcz54_0 := bc0 BK112.out; have hcz54_1 := bc1 BK112.out; have hcz54_2 := bc2 BK112.out; have hcz54_3 := bc3 BK112.out; have hfz54_0 := blk_frozen BK112.out 0; have hfz54_1 := blk_frozen BK112.out 1; have hfz54_2 := blk_frozen BK112.out 2; have hfz54_3 := blk_frozen BK112.out 3; have hcz55_0 := bc0 BK106.out; have hcz55_1 := bc1 BK106.out; have hcz55_2 := bc2 BK106.out; have hcz55_3 := bc3 BK106.out; have hfz55_0 := blk_frozen BK106.out 0; have hfz55_1 := blk_frozen BK106.out 1; have hfz55_2 := blk_frozen BK106.out 2; have hfz55_3 := blk_frozen BK106.out 3) | (go_at_call 28; (with_reducible refine (spec_l1In.calls ((rd_T46 l0_1 x60_2).f2) 0 (wrap64 ((l0_1.length : Int) - 1)) true _ A44.out).mono ?_); rintro e w' ⟨rfl, ⟨nd, rfl⟩⟩) | (go_at_call 28; (with_reducible refine (spec_l1In.calls ((rd_T46 l0_1 x60_2).f3) 0 (wrap64 ((l0_1.length : Int) - 1)) true _ A46.out).mono ?_); rintro e w' ⟨rfl, ⟨nd, rfl⟩⟩) | (go_at_call 29; (with_reducible refine (spec_lcHas.calls k2 _ _ l0_3 x60_2 true _ ?side1 ?side2 A50.out).mono ?_); (case side1 => exact Kd.C_below HR0_3.out pb_); (case side2 => exact HC0_3.out); rintro e w' ⟨rfl, ⟨nd, rfl⟩⟩))
                   go_roundg k2
                   case measure => have := HK1.out; have := HK2.out; omega
                   case rel => exact ⟨(wrap64 (x60_2 + 1)), (by first | rfl | (simp; done) | (simp [*]; done)), H', ⟨by have := HK1.out; have := HK2.out; omega⟩, ⟨by (with_reducible repeat (first | refine blk_drewN ?_ _ | refine blk_drew ?_ | refine blk_alloc ?_ _)); refine blk_far ?_ NB106_112.out _; (with_reducible repeat (first | refine blk_drewN ?_ _ | refine blk_drew ?_ | refine blk_alloc ?_ _)); refine blk_far ?_ NB106_112.out _; (with_reducible repeat (first | refine blk_drewN ?_ _ | refine blk_drew ?_ | refine blk_alloc ?_ _)); refine blk_far ?_ NB106_112.out _; (with_reducible repeat (first | refine blk_drewN ?_ _ | refine blk_drew ?_ | refine blk_alloc ?_ _)); refine blk_far ?_ NB106_112.out _; (with_reducible repeat (first | refine blk_drewN ?_ _ | refine blk_drew ?_ | refine blk_alloc ?_ _)); exact BK106.out⟩, ⟨pb_⟩⟩
                  ·replace c51 := Bool.eq_false_iff.mpr c51
                   subst c51
                   have H1 : (some false) = some r := by rw [if_neg (show ¬ (false = true) by decide)] at H; exact H
                   clear H
                   have H := H1
                   clear H1
                   obtain rfl := Option.some.inj H
                   have p111 : 0 ≤ (x60_2 : Int) := of_decide_eq_true (by first | (with_reducible assumption) | assumption)
                   have q111 : x60_2 < (l0_1.length : Int) := of_decide_eq_true (by first | (with_reducible assumption) | assumption)
                   obtain ⟨ad111, e111, hx111_0, hx111_1, hx111_2, hx111_3⟩ := at_T46 HR0_1.out x60_2 p111 q111
                   (try rw [← Nbq30.out] at hx111_0)
                   cases e111
                   replace hx111_0 := (HB.out.cell (World.block_lt_of_cell? w _ hx111_0)).trans hx111_0
                   replace hx111_1 := (HB.out.cell (World.block_lt_of_cell? w _ hx111_1)).trans hx111_1
                   replace hx111_2 := (HB.out.cell (World.block_lt_of_cell? w _ hx111_2)).trans hx111_2
                   replace hx111_3 := (HB.out.cell (World.block_lt_of_cell? w _ hx111_3)).trans hx111_3
                   replace p111 := eq_true p111
                   replace q111 := eq_true q111
                   go_wp2_with (first | ((with_reducible refine gate_dst (N := 6) rfl ?_); (try (refine gate_guard (by rfl) ?_; dsimp only)); refine box_event ?hg (N := 6) ?hd (cs := #[.bool false, .int .i64 0, .int .i64 0, .int .i64 0]) (t := 46) ?hr ?_; (case hd => rfl); (case hg => rfl); (case hr => first | (go_simp; done) | (go_simp; rfl)); intro gb112 hg w56 hbox hb; have n0_ := Aside0.mk (blk_below (pk_ BK106.out) hb); have n1_ := Aside0.mk (below_step pb_ hb); have n2_ := Aside0.mk (hbox); have n3_ := Aside0.mk ((by rw [hg]; exact (below_size pb_) : w.heap.size ≤ gb112)); have n4_ := Aside0.mk ((by rw [hg]; exact (below_size pb_) : w.heap.size ≤ gb112)); have n5_ := Aside0.mk ((by rw [hg]; exact Nat.ne_of_lt (blk_lt (pk_ BK106.out)) : gb106 ≠ gb112)); have n6_ := Aside0.mk ((by rw [hg]; exact Nat.ne_of_gt (blk_lt (pk_ BK106.out)) : gb112 ≠ gb106)); clear BK106; clear HB; have BK106 := n0_; have HB := n1_; have BK112 := n2_; have GW112 := n3_; have GE112 := n4_; have NB106_112 := n5_; have NB112_106 := n6_; clear n0_ n1_ n2_ n3_ n4_ n5_ n6_; clear hb hbox hg; have hnb57 := NB112_106.out; have hnc57 := NB106_112.out; have hcz58_0 := bc0 BK112.out; have hcz58_1 := bc1 BK112.out; have hcz58_2 := bc2 BK112.out; have hcz58_3 := bc3 BK112.out; have hfz58_0 := blk_frozen BK112.out 0; have hfz58_1 := blk_frozen BK112.out 1; have hfz58_2 := blk_frozen BK112.out 2; have hfz58_3 := blk_frozen BK112.out 3; have hcz59_0 := bc0 BK106.out; have hcz59_1 := bc1 BK106.out; have hcz59_2 := bc2 BK106.out; have hcz59_3 := bc3 BK106.out; have hfz59_0 := blk_frozen BK106.out 0; have hfz59_1 := blk_frozen BK106.out 1; have hfz59_2 := blk_frozen BK106.out 2; have hfz59_3 := blk_frozen BK106.out 3) | (go_at_call 28; (with_reducible refine (spec_l1In.calls ((rd_T46 l0_1 x60_2).f2) 0 (wrap64 ((l0_1.length : Int) - 1)) true _ A44.out).mono ?_); rintro e w' ⟨rfl, ⟨nd, rfl⟩⟩) | (go_at_call 28; (with_reducible refine (spec_l1In.calls ((rd_T46 l0_1 x60_2).f3) 0 (wrap64 ((l0_1.length : Int) - 1)) true _ A46.out).mono ?_); rintro e w' ⟨rfl, ⟨nd, rfl⟩⟩) | (go_at_call 29; (with_reducible refine (spec_lcHas.calls k2 _ _ l0_3 x60_2 false _ ?side1 ?side2 A50.out).mono ?_); (case side1 => exact Kd.C_below HR0_3.out pb_); (case side2 => exact HC0_3.out); rintro e w' ⟨rfl, ⟨nd, rfl⟩⟩))
                   go_ret
                   exact ⟨by first | rfl | (simp [errW_none, errW_some] <;> rfl) | (simp [*, errW_none, errW_some] <;> rfl), pb_⟩
                 ·rw [if_neg c49] at H
                  have c49b0 : decide (a0_0 ≤ ((rd_T46 l0_1 x60_2).f2)) = false := decide_eq_false c49
                  clear c49
                  by_cases c60 : ((rd_T46 l0_1 x60_2).f3) ≥ a0_0
                  ·rw [if_pos c60] at H
                   have c60b0 : decide (a0_0 ≤ ((rd_T46 l0_1 x60_2).f3)) = true := decide_eq_true c60
                   clear c60
                   replace H := Option.bind_eq_some_iff.mp H
                   obtain ⟨t116, A610, H⟩ := H
                   replace H : (if t116 = true then (spec_GoodYoung.l1 k2 l0_1 (l0_1.length : Int) (wrap64 (x60_2 + 1)) a0_0 l0_1 l0_2 l0_3) else (some false)) = some r := H
                   have A61 := Aside0.mk A610
                   clear A610
                   by_cases c62 : t116 = true
                   ·subst c62
                    have H1 : (spec_GoodYoung.l1 k2 l0_1 (l0_1.length : Int) (wrap64 (x60_2 + 1)) a0_0 l0_1 l0_2 l0_3) = some r := by rw [if_pos rfl] at H; exact H
                    clear H
                    have H := H1
                    clear H1
                    have H' := Aside0.mk H
                    clear H
                    have p111 : 0 ≤ (x60_2 : Int) := of_decide_eq_true (by first | (with_reducible assumption) | assumption)
                    have q111 : x60_2 < (l0_1.length : Int) := of_decide_eq_true (by first | (with_reducible assumption) | assumption)
                    obtain ⟨ad111, e111, hx111_0, hx111_1, hx111_2, hx111_3⟩ := at_T46 HR0_1.out x60_2 p111 q111
                    (try rw [← Nbq30.out] at hx111_0)
                    cases e111
                    replace hx111_0 := (HB.out.cell (World.block_lt_of_cell? w _ hx111_0)).trans hx111_0
                    replace hx111_1 := (HB.out.cell (World.block_lt_of_cell? w _ hx111_1)).trans hx111_1
                    replace hx111_2 := (HB.out.cell (World.block_lt_of_cell? w _ hx111_2)).trans hx111_2
                    replace hx111_3 := (HB.out.cell (World.block_lt_of_cell? w _ hx111_3)).trans hx111_3
                    replace p111 := eq_true p111
                    replace q111 := eq_true q111
                    go_wp2_with (first | ((with_reducible refine gate_dst (N := 6) rfl ?_); (try (refine gate_guard (by rfl) ?_; dsimp only)); refine box_event ?hg (N := 6) ?hd (cs := #[.bool false, .int .i64 0, .int .i64 0, .int .i64 0]) (t := 46) ?hr ?_; (case hd => rfl); (case hg => rfl); (case hr => first | (go_simp; done) | (go_simp; rfl)); intro gb112 hg w63 hbox hb; have n0_ := Aside0.mk (blk_below (pk_ BK106.out) hb); have n1_ := Aside0.mk (below_step pb_ hb); have n2_ := Aside0.mk (hbox); have n3_ := Aside0.mk ((by rw [hg]; exact (below_size pb_) : w.heap.size ≤ gb112)); have n4_ := Aside0.mk ((by rw [hg]; exact (below_size pb_) : w.heap.size ≤ gb112)); have n5_ := Aside0.mk ((by rw [hg]; exact Nat.ne_of_lt (blk_lt (pk_ BK106.out)) : gb106 ≠ gb112)); have n6_ := Aside0.mk ((by rw [hg]; exact Nat.ne_of_gt (blk_lt (pk_ BK106.out)) : gb112 ≠ gb106)); clear BK106; clear HB; have BK106 := n0_; have HB := n1_; have BK112 := n2_; have GW112 := n3_; have GE112 := n4_; have NB106_112 := n5_; have NB112_106 := n6_; clear n0_ n1_ n2_ n3_ n4_ n5_ n6_; clear hb hbox hg; have hnb64 := NB112_106.out; have hnc64 := NB106_112.out; have hcz65_0 := bc0 BK112.out; have hcz65_1 := bc1 BK112.out; have hcz65_2 := bc2 BK112.out; have hcz65_3 := bc3 BK112.out; have hfz65_0 := blk_frozen BK112.out 0; have hfz65_1 := blk_frozen BK112.out 1; have hfz65_2 := blk_frozen BK112.out 2; have hfz65_3 := blk_frozen BK112.out 3; have hcz66_0 := bc0 BK106.out; have hcz66_1 := bc1 BK106.out; have hcz66_2 := bc2 BK106.out; have hcz66_3 := bc3 BK106.out; have hfz66_0 := blk_frozen BK106.out 0; have hfz66_1 := blk_frozen BK106.out 1; have hfz66_2 := blk_frozen BK106.out 2; have hfz66_3 := blk_frozen BK106.out 3) | (go_at_call 28; (with_reducible refine (spec_l1In.calls ((rd_T46 l0_1 x60_2).f2) 0 (wrap64 ((l0_1.length : Int) - 1)) true _ A44.out).mono ?_); rintro e w' ⟨rfl, ⟨nd, rfl⟩⟩) | (go_at_call 28; (with_reducible refine (spec_l1In.calls ((rd_T46 l0_1 x60_2).f3) 0 (wrap64 ((l0_1.length : Int) - 1)) true _ A46.out).mono ?_); rintro e w' ⟨rfl, ⟨nd, rfl⟩⟩) | (go_at_call 29; (with_reducible refine (spec_lcHas.calls k2 _ _ l0_3 x60_2 true _ ?side1 ?side2 A61.out).mono ?_); (case side1 => exact Kd.C_below HR0_3.out pb_); (case side2 => exact HC0_3.out); rintro e w' ⟨rfl, ⟨nd, rfl⟩⟩))
                    go_roundg k2
                    case measure => have := HK1.out; have := HK2.out; omega
                    case rel => exact ⟨(wrap64 (x60_2 + 1)), (by first | rfl | (simp; done) | (simp [*]; done)), H', ⟨by have := HK1.out; have := HK2.out; omega⟩, ⟨by (with_reducible repeat (first | refine blk_drewN ?_ _ | refine blk_drew ?_ | refine blk_alloc ?_ _)); refine blk_far ?_ NB106_112.out _; (with_reducible repeat (first | refine blk_drewN ?_ _ | refine blk_drew ?_ | refine blk_alloc ?_ _)); refine blk_far ?_ NB106_112.out _; (with_reducible repeat (first | refine blk_drewN ?_ _ | refine blk_drew ?_ | refine blk_alloc ?_ _)); refine blk_far ?_ NB106_112.out _; (with_reducible repeat (first | refine blk_drewN ?_ _ | refine blk_drew ?_ | refine blk_alloc ?_ _)); refine blk_far ?_ NB106_112.out _; (with_reducible repeat (first | refine blk_drewN ?_ _ | refine blk_drew ?_ | refine blk_alloc ?_ _)); exact BK106.out⟩, ⟨pb_⟩⟩
                   ·replace c62 := Bool.eq_false_iff.mpr c62
                    subst c62
                    have H1 : (some false) = some r := by rw [if_neg (show ¬ (false = true) by decide)] at H; exact H
                    clear H
                    have H := H1
                    clear H1
                    obtain rfl := Option.some.inj H
                    have p111 : 0 ≤ (x60_2 : Int) := of_decide_eq_true (by first | (with_reducible assumption) | assumption)
                    have q111 : x60_2 < (l0_1.length : Int) := of_decide_eq_true (by first | (with_reducible assumption) | assumption)
                    obtain ⟨ad111, e111, hx111_0, hx111_1, hx111_2, hx111_3⟩ := at_T46 HR0_1.out x60_2 p111 q111
                    (try rw [← Nbq30.out] at hx111_0)
                    cases e111
                    replace hx111_0 := (HB.out.cell (World.block_lt_of_cell? w _ hx111_0)).trans hx111_0
                    replace hx111_1 := (HB.out.cell (World.block_lt_of_cell? w _ hx111_1)).trans hx111_1
                    replace hx111_2 := (HB.out.cell (World.block_lt_of_cell? w _ hx111_2)).trans hx111_2
                    replace hx111_3 := (HB.out.cell (World.block_lt_of_cell? w _ hx111_3)).trans hx111_3
                    replace p111 := eq_true p111
                    replace q111 := eq_true q111
                    go_wp2_with (first | ((with_reducible refine gate_dst (N := 6) rfl ?_); (try (refine gate_guard (by rfl) ?_; dsimp only)); refine box_event ?hg (N := 6) ?hd (cs := #[.bool false, .int .i64 0, .int .i64 0, .int .i64 0]) (t := 46) ?hr ?_; (case hd => rfl); (case hg => rfl); (case hr => first | (go_simp; done) | (go_simp; rfl)); intro gb112 hg w67 hbox hb; have n0_ := Aside0.mk (blk_below (pk_ BK106.out) hb); have n1_ := Aside0.mk (below_step pb_ hb); have n2_ := Aside0.mk (hbox); have n3_ := Aside0.mk ((by rw [hg]; exact (below_size pb_) : w.heap.size ≤ gb112)); have n4_ := Aside0.mk ((by rw [hg]; exact (below_size pb_) : w.heap.size ≤ gb112)); have n5_ := Aside0.mk ((by rw [hg]; exact Nat.ne_of_lt (blk_lt (pk_ BK106.out)) : gb106 ≠ gb112)); have n6_ := Aside0.mk ((by rw [hg]; exact Nat.ne_of_gt (blk_lt (pk_ BK106.out)) : gb112 ≠ gb106)); clear BK106; clear HB; have BK106 := n0_; have HB := n1_; have BK112 := n2_; have GW112 := n3_; have GE112 := n4_; have NB106_112 := n5_; have NB112_106 := n6_; clear n0_ n1_ n2_ n3_ n4_ n5_ n6_; clear hb hbox hg; have hnb68 := NB112_106.out; have hnc68 := NB106_112.out; have hcz69_0 := bc0 BK112.out; have hcz69_1 := bc1 BK112.out; have hcz69_2 := bc2 BK112.out; have hcz69_3 := bc3 BK112.out; have hfz69_0 := blk_frozen BK112.out 0; have hfz69_1 := blk_frozen BK112.out 1; have hfz69_2 := blk_frozen BK112.out 2; have hfz69_3 := blk_frozen BK112.out 3; have hcz70_0 := bc0 BK106.out; have hcz70_1 := bc1 BK106.out; have hcz70_2 := bc2 BK106.out; have hcz70_3 := bc3 BK106.out; have hfz70_0 := blk_frozen BK106.out 0; have hfz70_1 := blk_frozen BK106.out 1; have hfz70_2 := blk_frozen BK106.out 2; have hfz70_3 := blk_frozen BK106.out 3) | (go_at_call 28; (with_reducible refine (spec_l1In.calls ((rd_T46 l0_1 x60_2).f2) 0 (wrap64 ((l0_1.length : Int) - 1)) true _ A44.out).mono ?_); rintro e w' ⟨rfl, ⟨nd, rfl⟩⟩) | (go_at_call 28; (with_reducible refine (spec_l1In.calls ((rd_T46 l0_1 x60_2).f3) 0 (wrap64 ((l0_1.length : Int) - 1)) true _ A46.out).mono ?_); rintro e w' ⟨rfl, ⟨nd, rfl⟩⟩) | (go_at_call 29; (with_reducible refine (spec_lcHas.calls k2 _ _ l0_3 x60_2 false _ ?side1 ?side2 A61.out).mono ?_); (case side1 => exact Kd.C_below HR0_3.out pb_); (case side2 => exact HC0_3.out); rintro e w' ⟨rfl, ⟨nd, rfl⟩⟩))
                    go_ret
                    exact ⟨by first | rfl | (simp [errW_none, errW_some] <;> rfl) | (simp [*, errW_none, errW_some] <;> rfl), pb_⟩
                  ·rw [if_neg c60] at H
                   have c60b0 : decide (a0_0 ≤ ((rd_T46 l0_1 x60_2).f3)) = false := decide_eq_false c60
                   clear c60
                   have H' := Aside0.mk H
                   clear H
                   have p111 : 0 ≤ (x60_2 : Int) := of_decide_eq_true (by first | (with_reducible assumption) | assumption)
                   have q111 : x60_2 < (l0_1.length : Int) := of_decide_eq_true (by first | (with_reducible assumption) | assumption)
                   obtain ⟨ad111, e111, hx111_0, hx111_1, hx111_2, hx111_3⟩ := at_T46 HR0_1.out x60_2 p111 q111
                   (try rw [← Nbq30.out] at hx111_0)
                   cases e111
                   replace hx111_0 := (HB.out.cell (World.block_lt_of_cell? w _ hx111_0)).trans hx111_0
                   replace hx111_1 := (HB.out.cell (World.block_lt_of_cell? w _ hx111_1)).trans hx111_1
                   replace hx111_2 := (HB.out.cell (World.block_lt_of_cell? w _ hx111_2)).trans hx111_2
                   replace hx111_3 := (HB.out.cell (World.block_lt_of_cell? w _ hx111_3)).trans hx111_3
                   replace p111 := eq_true p111
                   replace q111 := eq_true q111
                   go_wp2_with (first | ((with_reducible refine gate_dst (N := 6) rfl ?_); (try (refine gate_guard (by rfl) ?_; dsimp only)); refine box_event ?hg (N := 6) ?hd (cs := #[.bool false, .int .i64 0, .int .i64 0, .int .i64 0]) (t := 46) ?hr ?_; (case hd => rfl); (case hg => rfl); (case hr => first | (go_simp; done) | (go_simp; rfl)); intro gb112 hg w71 hbox hb; have n0_ := Aside0.mk (blk_below (pk_ BK106.out) hb); have n1_ := Aside0.mk (below_step pb_ hb); have n2_ := Aside0.mk (hbox); have n3_ := Aside0.mk ((by rw [hg]; exact (below_size pb_) : w.heap.size ≤ gb112)); have n4_ := Aside0.mk ((by rw [hg]; exact (below_size pb_) : w.heap.size ≤ gb112)); have n5_ := Aside0.mk ((by rw [hg]; exact Nat.ne_of_lt (blk_lt (pk_ BK106.out)) : gb106 ≠ gb112)); have n6_ := Aside0.mk ((by rw [hg]; exact Nat.ne_of_gt (blk_lt (pk_ BK106.out)) : gb112 ≠ gb106)); clear BK106; clear HB; have BK106 := n0_; have HB := n1_; have BK112 := n2_; have GW112 := n3_; have GE112 := n4_; have NB106_112 := n5_; have NB112_106 := n6_; clear n0_ n1_ n2_ n3_ n4_ n5_ n6_; clear hb hbox hg; have hnb72 := NB112_106.out; have hnc72 := NB106_112.out; have hcz73_0 := bc0 BK112.out; have hcz73_1 := bc1 BK112.out; have hcz73_2 := bc2 BK112.out; have hcz73_3 := bc3 BK112.out; have hfz73_0 := blk_frozen BK112.out 0; have hfz73_1 := blk_frozen BK112.out 1; have hfz73_2 := blk_frozen BK112.out 2; have hfz73_3 := blk_frozen BK112.out 3; have hcz74_0 := bc0 BK106.out; have hcz74_1 := bc1 BK106.out; have hcz74_2 := bc2 BK106.out; have hcz74_3 := bc3 BK106.out; have hfz74_0 := blk_frozen BK106.out 0; have hfz74_1 := blk_frozen BK106.out 1; have hfz74_2 := blk_frozen BK106.out 2; have hfz74_3 := blk_frozen BK106.out 3) | (go_at_call 28; (with_reducible refine (spec_l1In.calls ((rd_T46 l0_1 x60_2).f2) 0 (wrap64 ((l0_1.length : Int) - 1)) true _ A44.out).mono ?_); rintro e w' ⟨rfl, ⟨nd, rfl⟩⟩) | (go_at_call 28; (with_reducible refine (spec_l1In.calls ((rd_T46 l0_1 x60_2).f3) 0 (wrap64 ((l0_1.length : Int) - 1)) true _ A46.out).mono ?_); rintro e w' ⟨rfl, ⟨nd, rfl⟩⟩))
                   go_roundg k2
                   case measure => have := HK1.out; have := HK2.out; omega
                   case rel => exact ⟨(wrap64 (x60_2 + 1)), (by first | rfl | (simp; done) | (simp [*]; done)), H', ⟨by have := HK1.out; have := HK2.out; omega⟩, ⟨by (with_reducible repeat (first | refine blk_drewN ?_ _ | refine blk_drew ?_ | refine blk_alloc ?_ _)); refine blk_far ?_ NB106_112.out _; (with_reducible repeat (first | refine blk_drewN ?_ _ | refine blk_drew ?_ | refine blk_alloc ?_ _)); refine blk_far ?_ NB106_112.out _; (with_reducible repeat (first | refine blk_drewN ?_ _ | refine blk_drew ?_ | refine blk_alloc ?_ _)); refine blk_far ?_ NB106_112.out _; (with_reducible repeat (first | refine blk_drewN ?_ _ | refine blk_drew ?_ | refine blk_alloc ?_ _)); refine blk_far ?_ NB106_112.out _; (with_reducible repeat (first | refine blk_drewN ?_ _ | refine blk_drew ?_ | refine blk_alloc ?_ _)); exact BK106.out⟩, ⟨pb_⟩⟩
                ·rw [if_neg c48] at H
                 have c48b0 : decide (x60_2 < a0_0) = false := decide_eq_false c48
                 clear c48
                 have H' := Aside0.mk H
                 clear H
                 have p111 : 0 ≤ (x60_2 : Int) := of_decide_eq_true (by first | (with_reducible assumption) | assumption)
                 have q111 : x60_2 < (l0_1.length : Int) := of_decide_eq_true (by first | (with_reducible assumption) | assumption)
                 obtain ⟨ad111, e111, hx111_0, hx111_1, hx111_2, hx111_3⟩ := at_T46 HR0_1.out x60_2 p111 q111
                 (try rw [← Nbq30.out] at hx111_0)
                 cases e111
                 replace hx111_0 := (HB.out.cell (World.block_lt_of_cell? w _ hx111_0)).trans hx111_0
                 replace hx111_1 := (HB.out.cell (World.block_lt_of_cell? w _ hx111_1)).trans hx111_1
                 replace hx111_2 := (HB.out.cell (World.block_lt_of_cell? w _ hx111_2)).trans hx111_2
                 replace hx111_3 := (HB.out.cell (World.block_lt_of_cell? w _ hx111_3)).trans hx111_3
                 replace p111 := eq_true p111
                 replace q111 := eq_true q111
                 go_wp2_with (first | ((with_reducible refine gate_dst (N := 6) rfl ?_); (try (refine gate_guard (by rfl) ?_; dsimp only)); refine box_event ?hg (N := 6) ?hd (cs := #[.bool false, .int .i64 0, .int .i64 0, .int .i64 0]) (t := 46) ?hr ?_; (case hd => rfl); (case hg => rfl); (case hr => first | (go_simp; done) | (go_simp; rfl)); intro gb112 hg w75 hbox hb; have n0_ := Aside0.mk (blk_below (pk_ BK106.out) hb); have n1_ := Aside0.mk (below_step pb_ hb); have n2_ := Aside0.mk (hbox); have n3_ := Aside0.mk ((by rw [hg]; exact (below_size pb_) : w.heap.size ≤ gb112)); have n4_ := Aside0.mk ((by rw [hg]; exact (below_size pb_) : w.heap.size ≤ gb112)); have n5_ := Aside0.mk ((by rw [hg]; exact Nat.ne_of_lt (blk_lt (pk_ BK106.out)) : gb106 ≠ gb112)); have n6_ := Aside0.mk ((by rw [hg]; exact Nat.ne_of_gt (blk_lt (pk_ BK106.out)) : gb112 ≠ gb106)); clear BK106; clear HB; have BK106 := n0_; have HB := n1_; have BK112 := n2_; have GW112 := n3_; have GE112 := n4_; have NB106_112 := n5_; have NB112_106 := n6_; clear n0_ n1_ n2_ n3_ n4_ n5_ n6_; clear hb hbox hg; have hnb76 := NB112_106.out; have hnc76 := NB106_112.out; have hcz77_0 := bc0 BK112.out; have hcz77_1 := bc1 BK112.out; have hcz77_2 := bc2 BK112.out; have hcz77_3 := bc3 BK112.out; have hfz77_0 := blk_frozen BK112.out 0; have hfz77_1 := blk_frozen BK112.out 1; have hfz77_2 := blk_frozen BK112.out 2; have hfz77_3 := blk_frozen BK112.out 3; have hcz78_0 := bc0 BK106.out; have hcz78_1 := bc1 BK106.out; have hcz78_2 := bc2 BK106.out; have hcz78_3 := bc3 BK106.out; have hfz78_0 := blk_frozen BK106.out 0; have hfz78_1 := blk_frozen BK106.out 1; have hfz78_2 := blk_frozen BK106.out 2; have hfz78_3 := blk_frozen BK106.out 3) | (go_at_call 28; (with_reducible refine (spec_l1In.calls ((rd_T46 l0_1 x60_2).f2) 0 (wrap64 ((l0_1.length : Int) - 1)) true _ A44.out).mono ?_); rintro e w' ⟨rfl, ⟨nd, rfl⟩⟩) | (go_at_call 28; (with_reducible refine (spec_l1In.calls ((rd_T46 l0_1 x60_2).f3) 0 (wrap64 ((l0_1.length : Int) - 1)) true _ A46.out).mono ?_); rintro e w' ⟨rfl, ⟨nd, rfl⟩⟩))
                 go_roundg k2
                 case measure => have := HK1.out; have := HK2.out; omega
                 case rel => exact ⟨(wrap64 (x60_2 + 1)), (by first | rfl | (simp; done) | (simp [*]; done)), H', ⟨by have := HK1.out; have := HK2.out; omega⟩, ⟨by (with_reducible repeat (first | refine blk_drewN ?_ _ | refine blk_drew ?_ | refine blk_alloc ?_ _)); refine blk_far ?_ NB106_112.out _; (with_reducible repeat (first | refine blk_drewN ?_ _ | refine blk_drew ?_ | refine blk_alloc ?_ _)); refine blk_far ?_ NB106_112.out _; (with_reducible repeat (first | refine blk_drewN ?_ _ | refine blk_drew ?_ | refine blk_alloc ?_ _)); refine blk_far ?_ NB106_112.out _; (with_reducible repeat (first | refine blk_drewN ?_ _ | refine blk_drew ?_ | refine blk_alloc ?_ _)); refine blk_far ?_ NB106_112.out _; (with_reducible repeat (first | refine blk_drewN ?_ _ | refine blk_drew ?_ | refine blk_alloc ?_ _)); exact BK106.out⟩, ⟨pb_⟩⟩
               ·replace c47 := Bool.eq_false_iff.mpr c47
                subst c47
                have H1 : (some false) = some r := by rw [if_neg (show ¬ (false = true) by decide)] at H; exact H
                clear H
                have H := H1
                clear H1
                obtain rfl := Option.some.inj H
                have p111 : 0 ≤ (x60_2 : Int) := of_decide_eq_true (by first | (with_reducible assumption) | assumption)
                have q111 : x60_2 < (l0_1.length : Int) := of_decide_eq_true (by first | (with_reducible assumption) | assumption)
                obtain ⟨ad111, e111, hx111_0, hx111_1, hx111_2, hx111_3⟩ := at_T46 HR0_1.out x60_2 p111 q111
                (try rw [← Nbq30.out] at hx111_0)
                cases e111
                replace hx111_0 := (HB.out.cell (World.block_lt_of_cell? w _ hx111_0)).trans hx111_0
                replace hx111_1 := (HB.out.cell (World.block_lt_of_cell? w _ hx111_1)).trans hx111_1
                replace hx111_2 := (HB.out.cell (World.block_lt_of_cell? w _ hx111_2)).trans hx111_2
                replace hx111_3 := (HB.out.cell (World.block_lt_of_cell? w _ hx111_3)).trans hx111_3
                replace p111 := eq_true p111
                replace q111 := eq_true q111
                go_wp2_with (first | ((with_reducible refine gate_dst (N := 6) rfl ?_); (try (refine gate_guard (by rfl) ?_; dsimp only)); refine box_event ?hg (N := 6) ?hd (cs := #[.bool false, .int .i64 0, .int .i64 0, .int .i64 0]) (t := 46) ?hr ?_; (case hd => rfl); (case hg => rfl); (case hr => first | (go_simp; done) | (go_simp; rfl)); intro gb112 hg w79 hbox hb; have n0_ := Aside0.mk (blk_below (pk_ BK106.out) hb); have n1_ := Aside0.mk (below_step pb_ hb); have n2_ := Aside0.mk (hbox); have n3_ := Aside0.mk ((by rw [hg]; exact (below_size pb_) : w.heap.size ≤ gb112)); have n4_ := Aside0.mk ((by rw [hg]; exact (below_size pb_) : w.heap.size ≤ gb112)); have n5_ := Aside0.mk ((by rw [hg]; exact Nat.ne_of_lt (blk_lt (pk_ BK106.out)) : gb106 ≠ gb112)); have n6_ := Aside0.mk ((by rw [hg]; exact Nat.ne_of_gt (blk_lt (pk_ BK106.out)) : gb112 ≠ gb106)); clear BK106; clear HB; have BK106 := n0_; have HB := n1_; have BK112 := n2_; have GW112 := n3_; have GE112 := n4_; have NB106_112 := n5_; have NB112_106 := n6_; clear n0_ n1_ n2_ n3_ n4_ n5_ n6_; clear hb hbox hg; have hnb80 := NB112_106.out; have hnc80 := NB106_112.out; have hcz81_0 := bc0 BK112.out; have hcz81_1 := bc1 BK112.out; have hcz81_2 := bc2 BK112.out; have hcz81_3 := bc3 BK112.out; have hfz81_0 := blk_frozen BK112.out 0; have hfz81_1 := blk_frozen BK112.out 1; have hfz81_2 := blk_frozen BK112.out 2; have hfz81_3 := blk_frozen BK112.out 3; have hcz82_0 := bc0 BK106.out; have hcz82_1 := bc1 BK106.out; have hcz82_2 := bc2 BK106.out; have hcz82_3 := bc3 BK106.out; have hfz82_0 := blk_frozen BK106.out 0; have hfz82_1 := blk_frozen BK106.out 1; have hfz82_2 := blk_frozen BK106.out 2; have hfz82_3 := blk_frozen BK106.out 3) | (go_at_call 28; (with_reducible refine (spec_l1In.calls ((rd_T46 l0_1 x60_2).f2) 0 (wrap64 ((l0_1.length : Int) - 1)) true _ A44.out).mono ?_); rintro e w' ⟨rfl, ⟨nd, rfl⟩⟩) | (go_at_call 28; (with_reducible refine (spec_l1In.calls ((rd_T46 l0_1 x60_2).f3) 0 (wrap64 ((l0_1.length : Int) - 1)) false _ A46.out).mono ?_); rintro e w' ⟨rfl, ⟨nd, rfl⟩⟩))
                go_ret
                exact ⟨by first | rfl | (simp [errW_none, errW_some] <;> rfl) | (simp [*, errW_none, errW_some] <;> rfl), pb_⟩
              ·replace c45 := Bool.eq_false_iff.mpr c45
               subst c45
               have H1 : (some false) = some r := by rw [if_neg (show ¬ (false = true) by decide)] at H; exact H
               clear H
               have H := H1
               clear H1
               obtain rfl := Option.some.inj H
               have p111 : 0 ≤ (x60_2 : Int) := of_decide_eq_true (by first | (with_reducible assumption) | assumption)
               have q111 : x60_2 < (l0_1.length : Int) := of_decide_eq_true (by first | (with_reducible assumption) | assumption)
               obtain ⟨ad111, e111, hx111_0, hx111_1, hx111_2, hx111_3⟩ := at_T46 HR0_1.out x60_2 p111 q111
               (try rw [← Nbq30.out] at hx111_0)
               cases e111
               replace hx111_0 := (HB.out.cell (World.block_lt_of_cell? w _ hx111_0)).trans hx111_0
               replace hx111_1 := (HB.out.cell (World.block_lt_of_cell? w _ hx111_1)).trans hx111_1
               replace hx111_2 := (HB.out.cell (World.block_lt_of_cell? w _ hx111_2)).trans hx111_2
               replace hx111_3 := (HB.out.cell (World.block_lt_of_cell? w _ hx111_3)).trans hx111_3
               replace p111 := eq_true p111
               replace q111 := eq_true q111
               go_wp2_with (first | ((with_reducible refine gate_dst (N := 6) rfl ?_); (try (refine gate_guard (by rfl) ?_; dsimp only)); refine box_event ?hg (N := 6) ?hd (cs := #[.bool false, .int .i64 0, .int .i64 0, .int .i64 0]) (t := 46) ?hr ?_; (case hd => rfl); (case hg => rfl); (case hr => first | (go_simp; done) | (go_simp; rfl)); intro gb112 hg w83 hbox hb; have n0_ := Aside0.mk (blk_below (pk_ BK106.out) hb); have n1_ := Aside0.mk (below_step pb_ hb); have n2_ := Aside0.mk (hbox); have n3_ := Aside0.mk ((by rw [hg]; exact (below_size pb_) : w.heap.size ≤ gb112)); have n4_ := Aside0.mk ((by rw [hg]; exact (below_size pb_) : w.heap.size ≤ gb112)); have n5_ := Aside0.mk ((by rw [hg]; exact Nat.ne_of_lt (blk_lt (pk_ BK106.out)) : gb106 ≠ gb112)); have n6_ := Aside0.mk ((by rw [hg]; exact Nat.ne_of_gt (blk_lt (pk_ BK106.out)) : gb112 ≠ gb106)); clear BK106; clear HB; have BK106 := n0_; have HB := n1_; have BK112 := n2_; have GW112 := n3_; have GE112 := n4_; have NB106_112 := n5_; have NB112_106 := n6_; clear n0_ n1_ n2_ n3_ n4_ n5_ n6_; clear hb hbox hg; have hnb84 := NB112_106.out; have hnc84 := NB106_112.out; have hcz85_0 := bc0 BK112.out; have hcz85_1 := bc1 BK112.out; have hcz85_2 := bc2 BK112.out; have hcz85_3 := bc3 BK112.out; have hfz85_0 := blk_frozen BK112.out 0; have hfz85_1 := blk_frozen BK112.out 1; have hfz85_2 := blk_frozen BK112.out 2; have hfz85_3 := blk_frozen BK112.out 3; have hcz86_0 := bc0 BK106.out; have hcz86_1 := bc1 BK106.out; have hcz86_2 := bc2 BK106.out; have hcz86_3 := bc3 BK106.out; have hfz86_0 := blk_frozen BK106.out 0; have hfz86_1 := blk_frozen BK106.out 1; have hfz86_2 := blk_frozen BK106.out 2; have hfz86_3 := blk_frozen BK106.out 3) | (go_at_call 28; (with_reducible refine (spec_l1In.calls ((rd_T46 l0_1 x60_2).f2) 0 (wrap64 ((l0_1.length : Int) - 1)) false _ A44.out).mono ?_); rintro e w' ⟨rfl, ⟨nd, rfl⟩⟩))
               go_ret
               exact ⟨by first | rfl | (simp [errW_none, errW_some] <;> rfl) | (simp [*, errW_none, errW_some] <;> rfl), pb_⟩
             ·rw [if_neg c43] at H
              have c43b0 : (((rd_T46 l0_1 x60_2).f1) == 0) = false := beq_eq_false_iff_ne.mpr c43
              have c43b1 : (((rd_T46 l0_1 x60_2).f1) != 0) = true := bne_iff_ne.mpr c43
              obtain rfl := Option.some.inj H
              have p111 : 0 ≤ (x60_2 : Int) := of_decide_eq_true (by first | (with_reducible assumption) | assumption)
              have q111 : x60_2 < (l0_1.length : Int) := of_decide_eq_true (by first | (with_reducible assumption) | assumption)
              obtain ⟨ad111, e111, hx111_0, hx111_1, hx111_2, hx111_3⟩ := at_T46 HR0_1.out x60_2 p111 q111
              (try rw [← Nbq30.out] at hx111_0)
              cases e111
              replace hx111_0 := (HB.out.cell (World.block_lt_of_cell? w _ hx111_0)).trans hx111_0
              replace hx111_1 := (HB.out.cell (World.block_lt_of_cell? w _ hx111_1)).trans hx111_1
              replace hx111_2 := (HB.out.cell (World.block_lt_of_cell? w _ hx111_2)).trans hx111_2
              replace hx111_3 := (HB.out.cell (World.block_lt_of_cell? w _ hx111_3)).trans hx111_3
              replace p111 := eq_true p111
              replace q111 := eq_true q111
              go_wp2_with (first | ((with_reducible refine gate_dst (N := 6) rfl ?_); (try (refine gate_guard (by rfl) ?_; dsimp only)); refine box_event ?hg (N := 6) ?hd (cs := #[.bool false, .int .i64 0, .int .i64 0, .int .i64 0]) (t := 46) ?hr ?_; (case hd => rfl); (case hg => rfl); (case hr => first | (go_simp; done) | (go_simp; rfl)); intro gb112 hg w87 hbox hb; have n0_ := Aside0.mk (blk_below (pk_ BK106.out) hb); have n1_ := Aside0.mk (below_step pb_ hb); have n2_ := Aside0.mk (hbox); have n3_ := Aside0.mk ((by rw [hg]; exact (below_size pb_) : w.heap.size ≤ gb112)); have n4_ := Aside0.mk ((by rw [hg]; exact (below_size pb_) : w.heap.size ≤ gb112)); have n5_ := Aside0.mk ((by rw [hg]; exact Nat.ne_of_lt (blk_lt (pk_ BK106.out)) : gb106 ≠ gb112)); have n6_ := Aside0.mk ((by rw [hg]; exact Nat.ne_of_gt (blk_lt (pk_ BK106.out)) : gb112 ≠ gb106)); clear BK106; clear HB; have BK106 := n0_; have HB := n1_; have BK112 := n2_; have GW112 := n3_; have GE112 := n4_; have NB106_112 := n5_; have NB112_106 := n6_; clear n0_ n1_ n2_ n3_ n4_ n5_ n6_; clear hb hbox hg; have hnb88 := NB112_106.out; have hnc88 := NB106_112.out; have hcz89_0 := bc0 BK112.out; have hcz89_1 := bc1 BK112.out; have hcz89_2 := bc2 BK112.out; have hcz89_3 := bc3 BK112.out; have hfz89_0 := blk_frozen BK112.out 0; have hfz89_1 := blk_frozen BK112.out 1; have hfz89_2 := blk_frozen BK112.out 2; have hfz89_3 := blk_frozen BK112.out 3))
              go_ret
              exact ⟨by first | rfl | (simp [errW_none, errW_some] <;> rfl) | (simp [*, errW_none, errW_some] <;> rfl), pb_⟩
           ·rw [if_neg c29] at H
            exact absurd H (by simp)
          ·rw [if_neg c28] at H
           exact absurd H (by simp)
         ·rw [if_neg c27] at H
          have c27b0 : decide (x60_2 < (l0_1.length : Int)) = false := decide_eq_false c27
          clear c27
          have H' := Aside0.mk H
          clear H
          have hcz90_0 := bc0 BK106.out
          have hcz90_1 := bc1 BK106.out
          have hcz90_2 := bc2 BK106.out
          have hcz90_3 := bc3 BK106.out
          have hfz90_0 := blk_frozen BK106.out 0
          have hfz90_1 := blk_frozen BK106.out 1
          have hfz90_2 := blk_frozen BK106.out 2
          have hfz90_3 := blk_frozen BK106.out 3
          go_wp2
          go_loopg [141] k2 (fun kq v141 w' => ∃ (x141_3 : Int), v141 = .int .i64 x141_3 ∧ Aside0 (spec_GoodYoung.l2 kq l0_2 (l0_2.length : Int) x141_3 a0_0 l0_1 l0_2 l0_3 = some r) ∧ Aside0 (kq ≤ k2) ∧ Aside0 (w'.heap[gb106]? = some (.cells #[.int .i64 a0_0, (.slice A0_1 l0_1.length c0_1), (.slice A0_2 l0_2.length c0_2), (.slice A0_3 l0_3.length c0_3)] 30 (0, 0))) ∧ Aside0 (Below w.heap.size w w'))
          case atStart => exact ⟨(0), (by first | rfl | (simp; done) | (simp [*]; done)), H', ⟨Nat.le_refl _⟩, ⟨pk_ BK106.out⟩, ⟨pb_⟩⟩
          case round =>
           clear H'
           try clear c1
           try clear p1
           try clear q1
           try clear hx1
           try clear c2
           try clear c2b0
           try clear c2b1
           try clear p2
           try clear c3
           try clear q3
           try clear c4
           try clear c5
           try clear c5b0
           try clear c5b1
           try clear c6
           try clear p6
           try clear c7
           try clear c8
           try clear c9
           try clear p10
           try clear q10
           try clear hx10
           try clear p11
           try clear q11
           try clear hx11
           try clear c12
           try clear c12b0
           try clear c13
           try clear c13b0
           try clear c14
           try clear c14b0
           try clear c16
           try clear c17
           try clear c17b0
           try clear c19
           try clear c19b0
           try clear c20
           try clear c20b0
           try clear c21
           try clear c21b0
           try clear c27
           try clear c27b0
           try clear c28
           try clear c28b0
           try clear c29
           try clear c29b0
           try clear q30
           try clear c31
           try clear c32
           try clear c32b0
           try clear c32b1
           try clear c33
           try clear c33b0
           try clear c33b1
           try clear c35
           try clear c38
           try clear c41
           try clear c43
           try clear c43b0
           try clear c43b1
           try clear c45
           try clear c47
           try clear c48
           try clear c48b0
           try clear c49
           try clear c49b0
           try clear c51
           try clear c53
           try clear c57
           try clear c60
           try clear c60b0
           try clear c62
           try clear c64
           try clear p64
           try clear c68
           try clear c72
           try clear c76
           try clear c80
           try clear c84
           try clear c88
           try clear hcz11_0
           try clear hcz11_1
           try clear hcz11_2
           try clear hcz11_3
           try clear hcz22_0
           try clear hcz22_1
           try clear hcz22_2
           try clear hcz22_3
           try clear hcz23_0
           try clear hcz23_1
           try clear hcz23_2
           try clear hcz23_3
           try clear hcz24_0
           try clear hcz24_1
           try clear hcz24_2
           try clear hcz24_3
           try clear hcz25_0
           try clear hcz25_1
           try clear hcz25_2
           try clear hcz25_3
           try clear hcz26_0
           try clear hcz26_1
           try clear hcz26_2
           try clear hcz26_3
           try clear hcz36_0
           try clear hcz36_1
           try clear hcz36_2
           try clear hcz36_3
           try clear hcz39_0
           try clear hcz39_1
           try clear hcz39_2
           try clear hcz39_3
           try clear hcz42_0
           try clear hcz42_1
           try clear hcz42_2
           try clear hcz42_3
           try clear hcz4_0
           try clear hcz4_1
           try clear hcz4_2
           try clear hcz4_3
           try clear hcz54_0
           try clear hcz54_1
           try clear hcz54_2
           try clear hcz54_3
           try clear hcz55_0
           try clear hcz55_1
           try clear hcz55_2
           try clear hcz55_3
           try clear hcz58_0
           try clear hcz58_1
           try clear hcz58_2
           try clear hcz58_3
           try clear hcz59_0
           try clear hcz59_1
           try clear hcz59_2
           try clear hcz59_3
           try clear hcz65_0
           try clear hcz65_1
           try clear hcz65_2
           try clear hcz65_3
           try clear hcz66_0
           try clear hcz66_1
           try clear hcz66_2
           try clear hcz66_3
           try clear hcz69_0
           try clear hcz69_1
           try clear hcz69_2
           try clear hcz69_3
           try clear hcz70_0
           try clear hcz70_1
           try clear hcz70_2
           try clear hcz70_3
           try clear hcz73_0
           try clear hcz73_1
           try clear hcz73_2
           try clear hcz73_3
           try clear hcz74_0
           try clear hcz74_1
           try clear hcz74_2
           try clear hcz74_3
           try clear hcz77_0
           try clear hcz77_1
           try clear hcz77_2
           try clear hcz77_3
           try clear hcz78_0
           try clear hcz78_1
           try clear hcz78_2
           try clear hcz78_3
           try clear hcz7_0
           try clear hcz7_1
           try clear hcz7_2
           try clear hcz7_3
           try clear hcz81_0
           try clear hcz81_1
           try clear hcz81_2
           try clear hcz81_3
           try clear hcz82_0
           try clear hcz82_1
           try clear hcz82_2
           try clear hcz82_3
           try clear hcz85_0
           try clear hcz85_1
           try clear hcz85_2
           try clear hcz85_3
           try clear hcz86_0
           try clear hcz86_1
           try clear hcz86_2
           try clear hcz86_3
           try clear hcz89_0
           try clear hcz89_1
           try clear hcz89_2
           try clear hcz89_3
           try clear hcz90_0
           try clear hcz90_1
           try clear hcz90_2
           try clear hcz90_3
           try clear hfz11_0
           try clear hfz11_1
           try clear hfz11_2
           try clear hfz11_3
           try clear hfz22_0
           try clear hfz22_1
           try clear hfz22_2
           try clear hfz22_3
           try clear hfz23_0
           try clear hfz23_1
           try clear hfz23_2
           try clear hfz23_3
           try clear hfz24_0
           try clear hfz24_1
           try clear hfz24_2
           try clear hfz24_3
           try clear hfz25_0
           try clear hfz25_1
           try clear hfz25_2
           try clear hfz25_3
           try clear hfz26_0
           try clear hfz26_1
           try clear hfz26_2
           try clear hfz26_3
           try clear hfz36_0
           try clear hfz36_1
           try clear hfz36_2
           try clear hfz36_3
           try clear hfz39_0
           try clear hfz39_1
           try clear hfz39_2
           try clear hfz39_3
           try clear hfz42_0
           try clear hfz42_1
           try clear hfz42_2
           try clear hfz42_3
           try clear hfz4_0
           try clear hfz4_1
           try clear hfz4_2
           try clear hfz4_3
           try clear hfz54_0
           try clear hfz54_1
           try clear hfz54_2
           try clear hfz54_3
           try clear hfz55_0
           try clear hfz55_1
           try clear hfz55_2
           try clear hfz55_3
           try clear hfz58_0
           try clear hfz58_1
           try clear hfz58_2
           try clear hfz58_3
           try clear hfz59_0
           try clear hfz59_1
           try clear hfz59_2
           try clear hfz59_3
           try clear hfz65_0
           try clear hfz65_1
           try clear hfz65_2
           try clear hfz65_3
           try clear hfz66_0
           try clear hfz66_1
           try clear hfz66_2
           try clear hfz66_3
           try clear hfz69_0
           try clear hfz69_1
           try clear hfz69_2
           try clear hfz69_3
           try clear hfz70_0
           try clear hfz70_1
           try clear hfz70_2
           try clear hfz70_3
           try clear hfz73_0
           try clear hfz73_1
           try clear hfz73_2
           try clear hfz73_3
           try clear hfz74_0
           try clear hfz74_1
           try clear hfz74_2
           try clear hfz74_3
           try clear hfz77_0
           try clear hfz77_1
           try clear hfz77_2
           try clear hfz77_3
           try clear hfz78_0
           try clear hfz78_1
           try clear hfz78_2
           try clear hfz78_3
           try clear hfz7_0
           try clear hfz7_1
           try clear hfz7_2
           try clear hfz7_3
           try clear hfz81_0
           try clear hfz81_1
           try clear hfz81_2
           try clear hfz81_3
           try clear hfz82_0
           try clear hfz82_1
           try clear hfz82_2
           try clear hfz82_3
           try clear hfz85_0
           try clear hfz85_1
           try clear hfz85_2
           try clear hfz85_3
           try clear hfz86_0
           try clear hfz86_1
           try clear hfz86_2
           try clear hfz86_3
           try clear hfz89_0
           try clear hfz89_1
           try clear hfz89_2
           try clear hfz89_3
           try clear hfz90_0
           try clear hfz90_1
           try clear hfz90_2
           try clear hfz90_3
           try clear hx108_0
           try clear hx110_0
           try clear hx111_0
           try clear hx111_1
           try clear hx111_2
           try clear hx111_3
           try clear p1
           try clear p10
           try clear p108
           try clear p11
           try clear p110
           try clear p111
           try clear p2
           try clear p6
           try clear q1
           try clear q10
           try clear q108
           try clear q11
           try clear q110
           try clear q111
           obtain ⟨x141_3, rfl, HA, HK3, BK106, HB⟩ := hrel
           cases gk with
           | zero => exact absurd HA.out (by simp [spec_GoodYoung.l2])
           | succ k3 =>
            have H := HA.out
            clear HA
            simp only [spec_GoodYoung.l2] at H
            by_cases c91 : x141_3 < (l0_2.length : Int)
            ·rw [if_pos c91] at H
             have c91b0 : decide (x141_3 < (l0_2.length : Int)) = true := decide_eq_true c91
             clear c91
             by_cases c92 : 0 ≤ x141_3
             ·rw [if_pos c92] at H
              have c92b0 : decide (0 ≤ x141_3) = true := decide_eq_true c92
              clear c92
              by_cases c93 : x141_3 < (l0_2.length : Int)
              ·rw [if_pos c93] at H
               have c93b0 : decide (x141_3 < (l0_2.length : Int)) = true := decide_eq_true c93
               clear c93
               replace H := Option.bind_eq_some_iff.mp H
               obtain ⟨t118, A940, H⟩ := H
               replace H : (if t118 = true then (spec_GoodYoung.l2 k3 l0_2 (l0_2.length : Int) (wrap64 (x141_3 + 1)) a0_0 l0_1 l0_2 l0_3) else (some false)) = some r := H
               have A94 := Aside0.mk A940
               clear A940
               by_cases c95 : t118 = true
               ·subst c95
                have H1 : (spec_GoodYoung.l2 k3 l0_2 (l0_2.length : Int) (wrap64 (x141_3 + 1)) a0_0 l0_1 l0_2 l0_3) = some r := by rw [if_pos rfl] at H; exact H
                clear H
                have H := H1
                clear H1
                have H' := Aside0.mk H
                clear H
                have p117 : 0 ≤ (x141_3 : Int) := of_decide_eq_true (by first | (with_reducible assumption) | assumption)
                have q117 : x141_3 < (l0_2.length : Int) := of_decide_eq_true (by first | (with_reducible assumption) | assumption)
                obtain ⟨ad117, e117, hx117_0⟩ := Kd.at_int HR0_2.out x141_3 p117 q117
                cases e117
                replace hx117_0 := (HB.out.cell (World.block_lt_of_cell? w _ hx117_0)).trans hx117_0
                replace p117 := eq_true p117
                replace q117 := eq_true q117
                have hcz96_0 := bc0 BK106.out
                have hcz96_1 := bc1 BK106.out
                have hcz96_2 := bc2 BK106.out
                have hcz96_3 := bc3 BK106.out
                have hfz96_0 := blk_frozen BK106.out 0
                have hfz96_1 := blk_frozen BK106.out 1
                have hfz96_2 := blk_frozen BK106.out 2
                have hfz96_3 := blk_frozen BK106.out 3
                go_wp2_with (first | ((with_reducible refine gate_callee (f := 28) rfl ?_); refine goesL_ (some 150) rfl rfl Try.func28 (by kernel_rfl) rfl #[.int .i64 (rd l0_2 x141_3), .int .i64 0, .int .i64 (wrap64 ((l0_1.length : Int) - 1))] rfl (by (try simp only [List.map_toArray, List.map_cons, List.map_nil]); first | done | rfl | (simp only [List.length_drop, List.length_take]; rfl)) ?_; (with_reducible refine (spec_l1In.calls (rd l0_2 x141_3) 0 (wrap64 ((l0_1.length : Int) - 1)) true _ A94.out).mono ?_); rintro e w' ⟨rfl, ⟨nd, rfl⟩⟩; refine ⟨_, rfl, ?_⟩))
                go_roundg k3
                case measure => have := HK1.out; have := HK2.out; have := HK3.out; omega
                case rel => exact ⟨(wrap64 (x141_3 + 1)), (by first | rfl | (simp; done) | (simp [*]; done)), H', ⟨by have := HK1.out; have := HK2.out; have := HK3.out; omega⟩, ⟨pk_ BK106.out⟩, ⟨pb_⟩⟩
               ·replace c95 := Bool.eq_false_iff.mpr c95
                subst c95
                have H1 : (some false) = some r := by rw [if_neg (show ¬ (false = true) by decide)] at H; exact H
                clear H
                have H := H1
                clear H1
                obtain rfl := Option.some.inj H
                have p117 : 0 ≤ (x141_3 : Int) := of_decide_eq_true (by first | (with_reducible assumption) | assumption)
                have q117 : x141_3 < (l0_2.length : Int) := of_decide_eq_true (by first | (with_reducible assumption) | assumption)
                obtain ⟨ad117, e117, hx117_0⟩ := Kd.at_int HR0_2.out x141_3 p117 q117
                cases e117
                replace hx117_0 := (HB.out.cell (World.block_lt_of_cell? w _ hx117_0)).trans hx117_0
                replace p117 := eq_true p117
                replace q117 := eq_true q117
                have hcz97_0 := bc0 BK106.out
                have hcz97_1 := bc1 BK106.out
                have hcz97_2 := bc2 BK106.out
                have hcz97_3 := bc3 BK106.out
                have hfz97_0 := blk_frozen BK106.out 0
                have hfz97_1 := blk_frozen BK106.out 1
                have hfz97_2 := blk_frozen BK106.out 2
                have hfz97_3 := blk_frozen BK106.out 3
                go_wp2_with (first | ((with_reducible refine gate_callee (f := 28) rfl ?_); refine goesL_ (some 150) rfl rfl Try.func28 (by kernel_rfl) rfl #[.int .i64 (rd l0_2 x141_3), .int .i64 0, .int .i64 (wrap64 ((l0_1.length : Int) - 1))] rfl (by (try simp only [List.map_toArray, List.map_cons, List.map_nil]); first | done | rfl | (simp only [List.length_drop, List.length_take]; rfl)) ?_; (with_reducible refine (spec_l1In.calls (rd l0_2 x141_3) 0 (wrap64 ((l0_1.length : Int) - 1)) false _ A94.out).mono ?_); rintro e w' ⟨rfl, ⟨nd, rfl⟩⟩; refine ⟨_, rfl, ?_⟩))
                go_ret
                exact ⟨by first | rfl | (simp [errW_none, errW_some] <;> rfl) | (simp [*, errW_none, errW_some] <;> rfl), pb_⟩
              ·rw [if_neg c93] at H
               exact absurd H (by simp)
             ·rw [if_neg c92] at H
              exact absurd H (by simp)
            ·rw [if_neg c91] at H
             have c91b0 : decide (x141_3 < (l0_2.length : Int)) = false := decide_eq_false c91
             clear c91
             obtain rfl := Option.some.inj H
             go_wp2
             go_ret
             exact ⟨by first | rfl | (simp [errW_none, errW_some] <;> rfl) | (simp [*, errW_none, errW_some] <;> rfl), pb_⟩
   ·replace c9 := Bool.eq_false_iff.mpr c9
    subst c9
    have H1 : (some false) = some r := by rw [if_neg (show ¬ (false = true) by decide)] at H; exact H
    clear H
    have H := H1
    clear H1
    obtain rfl := Option.some.inj H
    go_enter Try.func9, Try.ntmps9
    go_wp2_with (first | ((with_reducible refine gate_dst (N := 1) rfl ?_); (try (refine gate_guard (by rfl) ?_; dsimp only)); refine box_event ?hg (N := 1) ?hd (cs := #[.int .i64 a0_0, .slice A0_1 l0_1.length c0_1, .slice A0_2 l0_2.length c0_2, .slice A0_3 l0_3.length c0_3]) (t := 30) ?hr ?_; (case hd => rfl); (case hg => rfl); (case hr => first | (go_simp; done) | (go_simp; rfl)); intro gb106 hg w98 hbox hb; have n0_ := Aside0.mk (below_step pb_ hb); have n1_ := Aside0.mk (hbox); have n2_ := Aside0.mk ((by rw [hg]; exact (below_size pb_) : w.heap.size ≤ gb106)); have n3_ := Aside0.mk ((by rw [hg]; exact (below_size pb_) : w.heap.size ≤ gb106)); clear HB; have HB := n0_; have BK106 := n1_; have GW106 := n2_; have GE106 := n3_; clear n0_ n1_ n2_ n3_; clear hb hbox hg; have hcz99_0 := bc0 BK106.out; have hcz99_1 := bc1 BK106.out; have hcz99_2 := bc2 BK106.out; have hcz99_3 := bc3 BK106.out; have hfz99_0 := blk_frozen BK106.out 0; have hfz99_1 := blk_frozen BK106.out 1; have hfz99_2 := blk_frozen BK106.out 2; have hfz99_3 := blk_frozen BK106.out 3) | (go_at_call 28; (with_reducible refine (spec_l1In.calls a0_0 0 (l0_1.length : Int) false _ A8.out).mono ?_); rintro e w' ⟨rfl, ⟨nd, rfl⟩⟩))
    go_ret
    exact ⟨by first | rfl | (simp [errW_none, errW_some] <;> rfl) | (simp [*, errW_none, errW_some] <;> rfl), pb_⟩
def spec_YoungCollect.f (k : Nat) (a0_0 : Int) (l0_1 : List (S46)) (l0_2 : List Int) (l0_3 : List Int) : Option (Int × (List (S46)) × List Int × List Int × Bool) := (spec_GoodYoung.f k a0_0 l0_1 l0_2 l0_3).bind fun t592 => (if t592 = true then ((spec_lhYoung.f k a0_0 l0_1 l0_2 l0_3).bind fun bt593 => (some (bt593.1, bt593.2.1, bt593.2.2.1, bt593.2.2.2, true))) else (some (0, ([] : List (S46)), ([] : List Int), ([] : List Int), false)))
theorem spec_YoungCollect.mono : ∀ a0 a1 a2 a3 k, LeO (spec_YoungCollect.f k a0 a1 a2 a3) (spec_YoungCollect.f (k + 1) a0 a1 a2 a3) := by
 intro a0 a1 a2 a3 k
 unfold spec_YoungCollect.f
 repeat' first
   | (with_reducible exact spec_GoodYoung.mono _ _ _ _ _)
   | (with_reducible exact spec_lhYoung.mono _ _ _ _ _)
   | (with_reducible exact LeO.refl _)
   | (with_reducible exact LeO.none _)
   | (with_reducible refine LeO.ite ?_ ?_)
   | (with_reducible refine LeO.bind ?_ (fun _ => ?_))
   | exact spec_GoodYoung.mono _ _ _ _ _
   | exact spec_lhYoung.mono _ _ _ _ _
   | exact LeO.none _
   | refine LeO.ite ?_ ?_
   | refine LeO.bind ?_ (fun _ => ?_)
set_option maxHeartbeats 8000000 in
set_option maxRecDepth 100000 in
theorem spec_YoungCollect.calls (k : Nat) (a0_0 : Int) (A0_1 : Option Addr) (c0_1 : Nat) (l0_1 : List (S46)) (A0_2 : Option Addr) (c0_2 : Nat) (l0_2 : List Int) (A0_3 : Option Addr) (c0_3 : Nat) (l0_3 : List Int) (r1 : Int) (r2 : List (S46)) (r3 : List Int) (r4 : List Int) (r5 : Bool) (w : World) (hr0_1 : Kd.C k46 w A0_1 l0_1.length l0_1) (hc0_1 : l0_1.length ≤ c0_1) (hr0_2 : Kd.C (Kd.int .i64) w A0_2 l0_2.length l0_2) (hc0_2 : l0_2.length ≤ c0_2) (hr0_3 : Kd.C (Kd.int .i64) w A0_3 l0_3.length l0_3) (hc0_3 : l0_3.length ≤ c0_3) (h : spec_YoungCollect.f k a0_0 l0_1 l0_2 l0_3 = some (r1, r2, r3, r4, r5)) :
  Calls Try.prog 22 #[.agg #[.int .i64 a0_0, .slice A0_1 l0_1.length c0_1, .slice A0_2 l0_2.length c0_2, .slice A0_3 l0_3.length c0_3]] w fun e w' => ∃ v1_ v2_ v3_ : Value, e = .returned (.tuple #[.agg #[.int .i64 r1, v1_, v2_, v3_], .bool r5]) ∧ Kd.R k46 46 w' w.heap.size (fun _ => True) v1_ r2 ∧ Kd.R (Kd.int .i64) 3 w' w.heap.size (fun k_ => some k_ ≠ (v3_ : Value).ownBlock) v2_ r3 ∧ Kd.R (Kd.int .i64) 3 w' w.heap.size (fun k_ => some k_ ≠ (v2_ : Value).ownBlock) v3_ r4 ∧ Below w.heap.size w w' := by
 have hu30 := Try.underlying30
 have HR0_1 := Aside0.mk hr0_1
 have HC0_1 := Aside0.mk hc0_1
 clear hr0_1 hc0_1
 have HR0_2 := Aside0.mk hr0_2
 have HC0_2 := Aside0.mk hc0_2
 clear hr0_2 hc0_2
 have HR0_3 := Aside0.mk hr0_3
 have HC0_3 := Aside0.mk hc0_3
 clear hr0_3 hc0_3
 have HB := Aside0.mk (Below.refl w.heap.size w)
 have H : ((spec_GoodYoung.f k a0_0 l0_1 l0_2 l0_3).bind fun t592 => (if t592 = true then ((spec_lhYoung.f k a0_0 l0_1 l0_2 l0_3).bind fun bt593 => (some (bt593.1, bt593.2.1, bt593.2.2.1, bt593.2.2.2, true))) else (some (0, ([] : List (S46)), ([] : List Int), ([] : List Int), false)))) = some (r1, r2, r3, r4, r5) := h
 clear h
 replace H := Option.bind_eq_some_iff.mp H
 obtain ⟨t592, A20, H⟩ := H
 replace H : (if t592 = true then ((spec_lhYoung.f k a0_0 l0_1 l0_2 l0_3).bind fun bt593 => (some (bt593.1, bt593.2.1, bt593.2.2.1, bt593.2.2.2, true))) else (some (0, ([] : List (S46)), ([] : List Int), ([] : List Int), false))) = some (r1, r2, r3, r4, r5) := H
 have A2 := Aside0.mk A20
 clear A20
 by_cases c3 : t592 = true
 ·subst c3
  have H1 : ((spec_lhYoung.f k a0_0 l0_1 l0_2 l0_3).bind fun bt593 => (some (bt593.1, bt593.2.1, bt593.2.2.1, bt593.2.2.2, true))) = some (r1, r2, r3, r4, r5) := by rw [if_pos rfl] at H; exact H
  clear H
  have H := H1
  clear H1
  replace H := Option.bind_eq_some_iff.mp H
  obtain ⟨⟨t593, t594, t597, t600⟩, A40, H⟩ := H
  replace H : (some (t593, t594, t597, t600, true)) = some (r1, r2, r3, r4, r5) := H
  have A4 := Aside0.mk A40
  clear A40
  simp only [Option.some.injEq, Prod.mk.injEq] at H
  obtain ⟨rfl, rfl, rfl, rfl, rfl⟩ := H
  go_enter Try.func22, Try.ntmps22
  go_wp2_with (first | ((with_reducible refine gate_dst (N := 1) rfl ?_); refine box_event ?hg (N := 1) ?hd (cs := #[.int .i64 a0_0, .slice A0_1 l0_1.length c0_1, .slice A0_2 l0_2.length c0_2, .slice A0_3 l0_3.length c0_3]) (t := 30) ?hr ?_; (case hd => rfl); (case hg => rfl); (case hr => first | (go_simp; done) | (go_simp; rfl)); intro gb590 hg w5 hbox hb; have n0_ := Aside0.mk (below_step pb_ hb); have n1_ := Aside0.mk (hbox); have n2_ := Aside0.mk ((by rw [hg]; exact (below_size pb_) : w.heap.size ≤ gb590)); have n3_ := Aside0.mk ((by rw [hg]; exact (below_size pb_) : w.heap.size ≤ gb590)); clear HB; have HB := n0_; have BK590 := n1_; have GW590 := n2_; have GE590 := n3_; clear n0_ n1_ n2_ n3_; clear hb hbox hg) | ((with_reducible refine gate_dst (N := 2) rfl ?_); refine box_event ?hg (N := 2) ?hd (cs := #[.int .i64 0, .slice none 0 0, .slice none 0 0, .slice none 0 0]) (t := 30) ?hr ?_; (case hd => rfl); (case hg => rfl); (case hr => first | (go_simp; done) | (go_simp; rfl)); intro gb591 hg w6 hbox hb; have n0_ := Aside0.mk (blk_below (pk_ BK590.out) hb); have n1_ := Aside0.mk (below_step pb_ hb); have n2_ := Aside0.mk (hbox); have n3_ := Aside0.mk ((by rw [hg]; exact (below_size pb_) : w.heap.size ≤ gb591)); have n4_ := Aside0.mk ((by rw [hg]; exact (below_size pb_) : w.heap.size ≤ gb591)); have n5_ := Aside0.mk ((by rw [hg]; exact Nat.ne_of_lt (blk_lt (pk_ BK590.out)) : gb590 ≠ gb591)); have n6_ := Aside0.mk ((by rw [hg]; exact Nat.ne_of_gt (blk_lt (pk_ BK590.out)) : gb591 ≠ gb590)); clear BK590; clear HB; have BK590 := n0_; have HB := n1_; have BK591 := n2_; have GW591 := n3_; have GE591 := n4_; have NB590_591 := n5_; have NB591_590 := n6_; clear n0_ n1_ n2_ n3_ n4_ n5_ n6_; clear hb hbox hg; have hnb7 := NB590_591.out; have hnc7 := NB591_590.out; have hcz8_0 := bc0 BK590.out; have hcz8_1 := bc1 BK590.out; have hcz8_2 := bc2 BK590.out; have hcz8_3 := bc3 BK590.out; have hfz8_0 := blk_frozen BK590.out 0; have hfz8_1 := blk_frozen BK590.out 1; have hfz8_2 := blk_frozen BK590.out 2; have hfz8_3 := blk_frozen BK590.out 3) | ((with_reducible refine gate_callee (f := 9) rfl ?_); refine goesL_ (some 5) rfl rfl Try.func9 (by kernel_rfl) rfl #[.agg #[.int .i64 a0_0, .slice A0_1 l0_1.length c0_1, .slice A0_2 l0_2.length c0_2, .slice A0_3 l0_3.length c0_3]] rfl (by (try simp only [List.map_toArray, List.map_cons, List.map_nil]); first | done | rfl | (simp only [List.length_drop, List.length_take]; rfl)) ?_; (with_reducible refine (spec_GoodYoung.calls k a0_0 _ _ l0_1 _ _ l0_2 _ _ l0_3 true _ ?side1 ?side2 ?side3 ?side4 ?side5 ?side6 A2.out).mono ?_); (case side1 => exact pc_ (Kd.C_below HR0_1.out HB.out)); (case side2 => exact HC0_1.out); (case side3 => exact pc_ (Kd.C_below HR0_2.out HB.out)); (case side4 => exact HC0_2.out); (case side5 => exact pc_ (Kd.C_below HR0_3.out HB.out)); (case side6 => exact HC0_3.out); rintro e w9 ⟨rfl, hb⟩; refine ⟨_, rfl, ?_⟩; have n0_ := Aside0.mk (blk_below (pk_ BK590.out) hb); have n1_ := Aside0.mk (blk_below (pk_ BK591.out) hb); have n2_ := Aside0.mk (below_step pb_ hb); clear BK590; clear BK591; clear HB; have BK590 := n0_; have BK591 := n1_; have HB := n2_; clear n0_ n1_ n2_; (try clear hb); (try clear hb2); (try clear hk); (try clear hi); have hcz10_0 := bc0 BK590.out; have hcz10_1 := bc1 BK590.out; have hcz10_2 := bc2 BK590.out; have hcz10_3 := bc3 BK590.out; have hfz10_0 := blk_frozen BK590.out 0; have hfz10_1 := blk_frozen BK590.out 1; have hfz10_2 := blk_frozen BK590.out 2; have hfz10_3 := blk_frozen BK590.out 3) | ((with_reducible refine gate_callee (f := 46) rfl ?_); refine goesL_ (some 9) rfl rfl Try.func46 (by kernel_rfl) rfl #[.agg #[.int .i64 a0_0, .slice A0_1 l0_1.length c0_1, .slice A0_2 l0_2.length c0_2, .slice A0_3 l0_3.length c0_3]] rfl (by (try simp only [List.map_toArray, List.map_cons, List.map_nil]); first | done | rfl | (simp only [List.length_drop, List.length_take]; rfl)) ?_; (with_reducible refine (spec_lhYoung.calls k a0_0 _ _ l0_1 _ _ l0_2 _ _ l0_3 t593 t594 t597 t600 _ ?side1 ?side2 ?side3 ?side4 ?side5 ?side6 A4.out).mono ?_); (case side1 => exact pc_ (Kd.C_below HR0_1.out HB.out)); (case side2 => exact HC0_1.out); (case side3 => exact pc_ (Kd.C_below HR0_2.out HB.out)); (case side4 => exact HC0_2.out); (case side5 => exact pc_ (Kd.C_below HR0_3.out HB.out)); (case side6 => exact HC0_3.out); rintro e w11 ⟨v595, v598, v601, rfl, ho0, ho1, ho2, hb⟩; refine ⟨_, rfl, ?_⟩; have n0_ := Aside0.mk (Kd.R_lower ho0 (below_size pb_)); have n1_ := Aside0.mk (Kd.R_lower ho1 (below_size pb_)); have n2_ := Aside0.mk (Kd.R_lower ho2 (below_size pb_)); have n3_ := Aside0.mk (blk_below (pk_ BK590.out) hb); have n4_ := Aside0.mk (blk_below (pk_ BK591.out) hb); have n5_ := Aside0.mk (below_step pb_ hb); clear BK590; clear BK591; clear HB; have HO596 := n0_; have HO599 := n1_; have HO602 := n2_; have BK590 := n3_; have BK591 := n4_; have HB := n5_; clear n0_ n1_ n2_ n3_ n4_ n5_; (try clear hb); (try clear hb2); (try clear hk); (try clear hi); (try clear ho0); (try clear ho1); (try clear ho2); have hcz12_0 := bc0 BK591.out; have hcz12_1 := bc1 BK591.out; have hcz12_2 := bc2 BK591.out; have hcz12_3 := bc3 BK591.out; have hfz12_0 := blk_frozen BK591.out 0; have hfz12_1 := blk_frozen BK591.out 1; have hfz12_2 := blk_frozen BK591.out 2; have hfz12_3 := blk_frozen BK591.out 3; obtain ⟨Ao13, co13, eo13⟩ := Kd.R_slice HO596.out; subst eo13; obtain ⟨Ao14, co14, eo14⟩ := Kd.R_slice HO599.out; subst eo14; obtain ⟨Ao15, co15, eo15⟩ := Kd.R_slice HO602.out; subst eo15))
  refine bodyPost_ret (results_ct rfl _ _ gb591 30 #[.int .i64 t593, .slice Ao13 t594.length co13, .slice Ao14 t597.length co14, .slice Ao15 t600.length co15] (0, 0) _ rfl (by (with_reducible repeat (first | refine blk_drewN ?_ _ | refine blk_drew ?_ | refine blk_alloc ?_ _)); refine blk_put (cs := #[.int .i64 t593, .slice Ao13 t594.length co13, .slice Ao14 t597.length co14, .slice none 0 0]) ?_ 3 _ rfl; (with_reducible repeat (first | refine blk_drewN ?_ _ | refine blk_drew ?_ | refine blk_alloc ?_ _)); refine blk_put (cs := #[.int .i64 t593, .slice Ao13 t594.length co13, .slice none 0 0, .slice none 0 0]) ?_ 2 _ rfl; (with_reducible repeat (first | refine blk_drewN ?_ _ | refine blk_drew ?_ | refine blk_alloc ?_ _)); refine blk_put (cs := #[.int .i64 t593, .slice none 0 0, .slice none 0 0, .slice none 0 0]) ?_ 1 _ rfl; (with_reducible repeat (first | refine blk_drewN ?_ _ | refine blk_drew ?_ | refine blk_alloc ?_ _)); refine blk_put (cs := #[.int .i64 0, .slice none 0 0, .slice none 0 0, .slice none 0 0]) ?_ 0 _ rfl; (with_reducible repeat (first | refine blk_drewN ?_ _ | refine blk_drew ?_ | refine blk_alloc ?_ _)); exact BK591.out) Try.underlying30 rfl (by kernel_rfl)) rfl ?_
  exact ⟨_, _, _, by first | rfl | (simp [errW_none, errW_some] <;> rfl) | (simp [*, errW_none, errW_some] <;> rfl), by (with_reducible repeat (first | apply Kd.R_alloc | apply Kd.R_drewN | apply Kd.R_drew)); exact Kd.R_mono (Kd.R_far (p := ⟨gb591, 3, none⟩) (Kd.R_far (p := ⟨gb591, 2, none⟩) (Kd.R_far (p := ⟨gb591, 1, none⟩) (Kd.R_far (p := ⟨gb591, 0, none⟩) (Kd.R_types HO596.out BK591.out (by decide)) (fun _ hk => hk.2) (.int .i64 t593)) (fun _ hk => hk.2) (.slice Ao13 t594.length co13)) (fun _ hk => hk.2) (.slice Ao14 t597.length co14)) (fun _ hk => hk.2) (.slice Ao15 t600.length co15)) (fun _ hk => trivial), by (with_reducible repeat (first | apply Kd.R_alloc | apply Kd.R_drewN | apply Kd.R_drew)); exact Kd.R_mono (Kd.R_far (p := ⟨gb591, 3, none⟩) (Kd.R_far (p := ⟨gb591, 2, none⟩) (Kd.R_far (p := ⟨gb591, 1, none⟩) (Kd.R_far (p := ⟨gb591, 0, none⟩) (Kd.R_types HO599.out BK591.out (by decide)) (fun _ hk => hk.2) (.int .i64 t593)) (fun _ hk => hk.2) (.slice Ao13 t594.length co13)) (fun _ hk => hk.2) (.slice Ao14 t597.length co14)) (fun _ hk => hk.2) (.slice Ao15 t600.length co15)) (fun _ hk => hk.1), by (with_reducible repeat (first | apply Kd.R_alloc | apply Kd.R_drewN | apply Kd.R_drew)); exact Kd.R_mono (Kd.R_far (p := ⟨gb591, 3, none⟩) (Kd.R_far (p := ⟨gb591, 2, none⟩) (Kd.R_far (p := ⟨gb591, 1, none⟩) (Kd.R_far (p := ⟨gb591, 0, none⟩) (Kd.R_types HO602.out BK591.out (by decide)) (fun _ hk => hk.2) (.int .i64 t593)) (fun _ hk => hk.2) (.slice Ao13 t594.length co13)) (fun _ hk => hk.2) (.slice Ao14 t597.length co14)) (fun _ hk => hk.2) (.slice Ao15 t600.length co15)) (fun _ hk => hk.1), pb_⟩
 ·replace c3 := Bool.eq_false_iff.mpr c3
  subst c3
  have H1 : (some (0, ([] : List (S46)), ([] : List Int), ([] : List Int), false)) = some (r1, r2, r3, r4, r5) := by rw [if_neg (show ¬ (false = true) by decide)] at H; exact H
  clear H
  have H := H1
  clear H1
  simp only [Option.some.injEq, Prod.mk.injEq] at H
  obtain ⟨rfl, rfl, rfl, rfl, rfl⟩ := H
  go_enter Try.func22, Try.ntmps22
  go_wp2_with (first | ((with_reducible refine gate_dst (N := 1) rfl ?_); refine box_event ?hg (N := 1) ?hd (cs := #[.int .i64 a0_0, .slice A0_1 l0_1.length c0_1, .slice A0_2 l0_2.length c0_2, .slice A0_3 l0_3.length c0_3]) (t := 30) ?hr ?_; (case hd => rfl); (case hg => rfl); (case hr => first | (go_simp; done) | (go_simp; rfl)); intro gb590 hg w16 hbox hb; have n0_ := Aside0.mk (below_step pb_ hb); have n1_ := Aside0.mk (hbox); have n2_ := Aside0.mk ((by rw [hg]; exact (below_size pb_) : w.heap.size ≤ gb590)); have n3_ := Aside0.mk ((by rw [hg]; exact (below_size pb_) : w.heap.size ≤ gb590)); clear HB; have HB := n0_; have BK590 := n1_; have GW590 := n2_; have GE590 := n3_; clear n0_ n1_ n2_ n3_; clear hb hbox hg) | ((with_reducible refine gate_dst (N := 2) rfl ?_); refine box_event ?hg (N := 2) ?hd (cs := #[.int .i64 0, .slice none 0 0, .slice none 0 0, .slice none 0 0]) (t := 30) ?hr ?_; (case hd => rfl); (case hg => rfl); (case hr => first | (go_simp; done) | (go_simp; rfl)); intro gb591 hg w17 hbox hb; have n0_ := Aside0.mk (blk_below (pk_ BK590.out) hb); have n1_ := Aside0.mk (below_step pb_ hb); have n2_ := Aside0.mk (hbox); have n3_ := Aside0.mk ((by rw [hg]; exact (below_size pb_) : w.heap.size ≤ gb591)); have n4_ := Aside0.mk ((by rw [hg]; exact (below_size pb_) : w.heap.size ≤ gb591)); have n5_ := Aside0.mk ((by rw [hg]; exact Nat.ne_of_lt (blk_lt (pk_ BK590.out)) : gb590 ≠ gb591)); have n6_ := Aside0.mk ((by rw [hg]; exact Nat.ne_of_gt (blk_lt (pk_ BK590.out)) : gb591 ≠ gb590)); clear BK590; clear HB; have BK590 := n0_; have HB := n1_; have BK591 := n2_; have GW591 := n3_; have GE591 := n4_; have NB590_591 := n5_; have NB591_590 := n6_; clear n0_ n1_ n2_ n3_ n4_ n5_ n6_; clear hb hbox hg; have hnb18 := NB590_591.out; have hnc18 := NB591_590.out; have hcz19_0 := bc0 BK590.out; have hcz19_1 := bc1 BK590.out; have hcz19_2 := bc2 BK590.out; have hcz19_3 := bc3 BK590.out; have hfz19_0 := blk_frozen BK590.out 0; have hfz19_1 := blk_frozen BK590.out 1; have hfz19_2 := blk_frozen BK590.out 2; have hfz19_3 := blk_frozen BK590.out 3) | ((with_reducible refine gate_callee (f := 9) rfl ?_); refine goesL_ (some 5) rfl rfl Try.func9 (by kernel_rfl) rfl #[.agg #[.int .i64 a0_0, .slice A0_1 l0_1.length c0_1, .slice A0_2 l0_2.length c0_2, .slice A0_3 l0_3.length c0_3]] rfl (by (try simp only [List.map_toArray, List.map_cons, List.map_nil]); first | done | rfl | (simp only [List.length_drop, List.length_take]; rfl)) ?_; (with_reducible refine (spec_GoodYoung.calls k a0_0 _ _ l0_1 _ _ l0_2 _ _ l0_3 false _ ?side1 ?side2 ?side3 ?side4 ?side5 ?side6 A2.out).mono ?_); (case side1 => exact pc_ (Kd.C_below HR0_1.out HB.out)); (case side2 => exact HC0_1.out); (case side3 => exact pc_ (Kd.C_below HR0_2.out HB.out)); (case side4 => exact HC0_2.out); (case side5 => exact pc_ (Kd.C_below HR0_3.out HB.out)); (case side6 => exact HC0_3.out); rintro e w20 ⟨rfl, hb⟩; refine ⟨_, rfl, ?_⟩; have n0_ := Aside0.mk (blk_below (pk_ BK590.out) hb); have n1_ := Aside0.mk (blk_below (pk_ BK591.out) hb); have n2_ := Aside0.mk (below_step pb_ hb); clear BK590; clear BK591; clear HB; have BK590 := n0_; have BK591 := n1_; have HB := n2_; clear n0_ n1_ n2_; (try clear hb); (try clear hb2); (try clear hk); (try clear hi); have hcz21_0 := bc0 BK591.out; have hcz21_1 := bc1 BK591.out; have hcz21_2 := bc2 BK591.out; have hcz21_3 := bc3 BK591.out; have hfz21_0 := blk_frozen BK591.out 0; have hfz21_1 := blk_frozen BK591.out 1; have hfz21_2 := blk_frozen BK591.out 2; have hfz21_3 := blk_frozen BK591.out 3))
  refine bodyPost_ret (results_ct rfl _ _ gb591 30 #[.int .i64 0, .slice none 0 0, .slice none 0 0, .slice none 0 0] (0, 0) _ rfl (by (with_reducible repeat (first | refine blk_drewN ?_ _ | refine blk_drew ?_ | refine blk_alloc ?_ _)); refine blk_put (cs := #[.int .i64 0, .slice none 0 0, .slice none 0 0, .slice none 0 0]) ?_ 3 _ rfl; (with_reducible repeat (first | refine blk_drewN ?_ _ | refine blk_drew ?_ | refine blk_alloc ?_ _)); refine blk_put (cs := #[.int .i64 0, .slice none 0 0, .slice none 0 0, .slice none 0 0]) ?_ 2 _ rfl; (with_reducible repeat (first | refine blk_drewN ?_ _ | refine blk_drew ?_ | refine blk_alloc ?_ _)); refine blk_put (cs := #[.int .i64 0, .slice none 0 0, .slice none 0 0, .slice none 0 0]) ?_ 1 _ rfl; (with_reducible repeat (first | refine blk_drewN ?_ _ | refine blk_drew ?_ | refine blk_alloc ?_ _)); refine blk_put (cs := #[.int .i64 0, .slice none 0 0, .slice none 0 0, .slice none 0 0]) ?_ 0 _ rfl; (with_reducible repeat (first | refine blk_drewN ?_ _ | refine blk_drew ?_ | refine blk_alloc ?_ _)); exact BK591.out) Try.underlying30 rfl (by kernel_rfl)) rfl ?_
  exact ⟨_, _, _, by first | rfl | (simp [errW_none, errW_some] <;> rfl) | (simp [*, errW_none, errW_some] <;> rfl), by first | exact Kd.R_nil _ _ _ _ _ | exact Kd.N_nil _ _ _ _ _ | exact Kd.V_nil _ _ _ _ _ | exact Kd.Q_nil _ _ _ _ _ | exact Kd.S_nil _ _ _ _ _, by first | exact Kd.R_nil _ _ _ _ _ | exact Kd.N_nil _ _ _ _ _ | exact Kd.V_nil _ _ _ _ _ | exact Kd.Q_nil _ _ _ _ _ | exact Kd.S_nil _ _ _ _ _, by first | exact Kd.R_nil _ _ _ _ _ | exact Kd.N_nil _ _ _ _ _ | exact Kd.V_nil _ _ _ _ _ | exact Kd.Q_nil _ _ _ _ _ | exact Kd.S_nil _ _ _ _ _, pb_⟩
def impl_isBelow.f (a0 : Int) (a1 : Int) : Option (Bool) := if a0 ≥ 0 then (some (decide (a0 < a1))) else (some false)
set_option maxHeartbeats 8000000 in
set_option maxRecDepth 100000 in
theorem impl_isBelow.calls (a0 : Int) (a1 : Int) (r : Bool) (w : World) (h : impl_isBelow.f a0 a1 = some r) :
  Calls Try.prog 33 #[.int .i64 a0, .int .i64 a1] w fun e w' => e = .returned (.bool r) ∧ Drawn0 w w' := by
 have H : (if a0 ≥ 0 then (some (decide (a0 < a1))) else (some false)) = some r := h
 clear h
 by_cases c3 : a0 ≥ 0
 ·rw [if_pos c3] at H
  have c3b0 : decide (0 ≤ a0) = true := decide_eq_true c3
  clear c3
  obtain rfl := Option.some.inj H
  go_enter Try.func33, Try.ntmps33
  go_wp2
  go_ret
  exact ⟨by first | rfl | (simp; done) | (simp [*]; done), by repeat (first | exact Drawn0.refl _ | apply Drawn0.step)⟩
 ·rw [if_neg c3] at H
  have c3b0 : decide (0 ≤ a0) = false := decide_eq_false c3
  clear c3
  obtain rfl := Option.some.inj H
  go_enter Try.func33, Try.ntmps33
  go_wp2
  go_ret
  exact ⟨by first | rfl | (simp; done) | (simp [*]; done), by repeat (first | exact Drawn0.refl _ | apply Drawn0.step)⟩
/-- What a function value answers at numbers, in whatever later world. -/
def FnInt (g : Nat) (lb : Array Value) (p : Int → Bool) (w : World) : Prop :=
 ∀ (W : World) (x : Int), Below w.heap.size w W → Calls Try.prog g (#[.int .i64 x] ++ lb) W fun e w' => e = .returned (.bool (p x)) ∧ Drawn0 W w'
def idxI (p : Int → Bool) : List Int → Int → Int
 | [], _ => -1
 | x :: l, i => if p x then i else idxI p l (i + 1)
theorem idxI_nonneg (p : Int → Bool) : ∀ (l : List Int) (i : Int), 0 ≤ i → decide (0 ≤ idxI p l i) = l.any p
 | [], i, _ => by simp [idxI]
 | x :: l, i, h => by
  unfold idxI
  by_cases hx : p x
  ·simp [hx, h]
  ·rw [if_neg hx, idxI_nonneg p l (i + 1) (by omega)]
   simp [hx]
set_option maxHeartbeats 8000000 in
set_option maxRecDepth 100000 in
theorem indexFunc_int (g : Nat) (lb : Array Value) (p : Int → Bool) (eg : ∀ args w, (callFunc g args).run Try.prog w = .ok (.enter g args) w)
  (A0 : Option Addr) (c0 : Nat) (l0 : List Int) (w : World) (hr0 : Kd.C (Kd.int .i64) w A0 l0.length l0) (hc0 : l0.length ≤ c0) (hp : FnInt g lb p w) :
  Calls Try.prog 64 #[.slice A0 l0.length c0, .func (.func g) #[] lb] w fun e w' => e = .returned (.int .i64 (idxI p l0 0)) ∧ Drawn0 w w' := by
 have HR0 := Aside0.mk hr0
 have HC0 := Aside0.mk hc0
 have HP := Aside0.mk hp
 have hlen : l0.length ≤ 9223372036854775807 := hr0.2.1
 clear hr0 hc0 hp
 go_enter Try.func64, Try.ntmps64
 go_wp2
 go_loopg [5, 8] l0.length (fun kq v5 v8 w' => ∃ (x : Nat), v8 = .int .i64 x ∧ Aside0 (x ≤ l0.length) ∧ Aside0 (idxI p l0 0 = idxI p (l0.drop x) x) ∧ Aside0 (l0.length - x ≤ kq) ∧ Drawn0 w w')
 case atStart => exact ⟨0, rfl, ⟨by omega⟩, ⟨by simp⟩, ⟨by omega⟩, Drawn0.refl _⟩
 case round =>
  obtain ⟨x, rfl, HX, HI, HK, ⟨m1, rfl⟩⟩ := hrel
  by_cases hlt : x < l0.length
  ·have hltz : (x : Int) < (l0.length : Int) := by omega
   obtain ⟨ad, e, hx⟩ := Kd.at_int HR0.out (x : Int) (by omega) (by omega)
   cases e
   rw [Int.toNat_natCast] at hx
   have hd : l0.drop x = rd l0 x :: l0.drop (x + 1) := by
    rw [List.drop_eq_getElem_cons hlt]
    simp [rd, List.getD_eq_getElem?_getD, List.getElem?_eq_getElem hlt]
   have hcall := fun m => HP.out (w.drewN m) (rd l0 x) (pw_below_drewN (Below.refl _ w) m)
   have HI2 : Aside0 (idxI p l0 0 = if p (rd l0 x) = true then (x : Int) else idxI p (l0.drop (x + 1)) ((x : Int) + 1)) := ⟨by rw [HI.out, hd]; rfl⟩
   clear hd
   cases hq : p (rd l0 x) with
   | true =>
    have HI3 : Aside0 (idxI p l0 0 = (x : Int)) := ⟨by rw [HI2.out, if_pos hq]⟩
    rw [hq] at hcall
    have HCALL := Aside0.mk hcall
    clear hcall hq
    go_wp2_with fail
    refine (HCALL.out _).mono ?_
    rintro e w' ⟨rfl, q', rfl⟩
    go_wp2_with fail
    go_ret
    refine ⟨?_, by repeat (first | exact Drawn0.refl _ | apply Drawn0.step)⟩
    rw [HI3.out]; rfl
   | false =>
    have HI3 : Aside0 (idxI p l0 0 = idxI p (l0.drop (x + 1)) ((x : Int) + 1)) := ⟨by rw [HI2.out, if_neg (by rw [hq]; simp)]⟩
    rw [hq] at hcall
    have HCALL := Aside0.mk hcall
    clear hcall hq
    go_wp2_with fail
    refine (HCALL.out _).mono ?_
    rintro e w' ⟨rfl, q', rfl⟩
    go_wp2_with fail
    go_roundg (l0.length - (x + 1))
    case measure => have := HK.out; omega
    case rel =>
     exact ⟨x + 1, by go_num, ⟨by omega⟩, ⟨by rw [HI3.out]; rfl⟩, ⟨by omega⟩, by repeat (first | exact Drawn0.refl _ | apply Drawn0.step)⟩
  ·have hltz : ¬ (x : Int) < (l0.length : Int) := by omega
   have HI3 : Aside0 (idxI p l0 0 = -1) := ⟨by rw [HI.out, List.drop_eq_nil_of_le (by omega)]; rfl⟩
   go_wp2
   go_ret
   exact ⟨by rw [HI3.out]; rfl, by repeat (first | exact Drawn0.refl _ | apply Drawn0.step)⟩
end Go.Proofs.Ytpjikgeglhjehaa.PH
namespace Go.Proofs.Ytpjikgeglhjehaa.PH
open Go.RowKit Go.Proofs.YtpjikgeglhjehaaW.PrintWords Go.Proofs.YtpjikgeglhjehaaW.PrintLast Go.Proofs.YtpjikgeglhjehaaW.PrintMore
attribute [local go_sem] max2_int min2_int max_two min_two max_three min_three max_four min_four   -- for this text's walks alone
set_option linter.unusedVariables false
set_option linter.unusedSimpArgs false
set_option maxHeartbeats 8000000 in
set_option maxRecDepth 100000 in
theorem containsFunc_int (g : Nat) (lb : Array Value) (p : Int → Bool) (eg : ∀ args w, (callFunc g args).run Try.prog w = .ok (.enter g args) w)
  (A0 : Option Addr) (c0 : Nat) (l0 : List Int) (w : World) (hr0 : Kd.C (Kd.int .i64) w A0 l0.length l0) (hc0 : l0.length ≤ c0) (hp : FnInt g lb p w) :
  Calls Try.prog 52 #[.slice A0 l0.length c0, .func (.func g) #[] lb] w fun e w' => e = .returned (.bool (l0.any p)) ∧ Drawn0 w w' := by
 have HC := Aside0.mk (indexFunc_int g lb p eg A0 c0 l0 w hr0 hc0 hp)
 have HE := Aside0.mk (idxI_nonneg p l0 0 (by omega))
 clear hr0 hc0 hp
 go_enter Try.func52, Try.ntmps52
 go_wp2_with fail
 refine HC.out.mono ?_
 rintro e w' ⟨rfl, q', rfl⟩
 go_wp2_with fail
 go_ret
 exact ⟨by rw [← HE.out]; rfl, by repeat (first | exact Drawn0.refl _ | apply Drawn0.step)⟩
end Go.Proofs.Ytpjikgeglhjehaa.PH
