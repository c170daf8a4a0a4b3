/- Texts of this claim, merged by merge.py (a program of this session's): the kit's printed words, where used; what functions come to; the plain law. -/
import Derived.Test.YtpjikgeglhjehaaGLiveIn3
import Derived.Test.YtpjikgeglhjehaaGLiveIn5
/- What functions of the program come to, each told as a plain function (told by wp.py, a program of this session's, over the kit's print.py). No condition beyond what each theorem states. -/
namespace Go.Proofs.Ytpjikgeglhjehaa.PH
open Go.RowKit Go.Proofs.YtpjikgeglhjehaaW.PrintWords Go.Proofs.YtpjikgeglhjehaaW.PrintLast Go.Proofs.YtpjikgeglhjehaaW.PrintMore
attribute [local go_sem] max2_int min2_int max_two min_two max_three min_three max_four min_four   -- for this text's walks alone
set_option linter.unusedVariables false
set_option linter.unusedSimpArgs false
mutual
def spec_GoodYoung.l0 : Nat → List Int → Int → Int → Int → List (S46) → List Int → List Int → Option (Bool)
 | 0, _, _, _, _, _, _, _ => none
 | k + 1, x29, x30, x31, x107000, x107001, x107002, x107003 => if x31 < x30 then (if 0 ≤ x31 then (if x31 < (x29.length : Int) then ((spec_l1In.f (rd x29 x31) 0 (wrap64 (x107000 - 1))).bind fun t109 => (if t109 = true then (if x31 > 0 then (if 0 ≤ (wrap64 (x31 - 1)) then (if (wrap64 (x31 - 1)) < (x107003.length : Int) then (if (rd x107003 (wrap64 (x31 - 1))) ≥ (rd x29 x31) then (some false) else (spec_GoodYoung.l0 k x29 x30 (wrap64 (x31 + 1)) x107000 x107001 x107002 x107003)) else (none)) else (none)) else (spec_GoodYoung.l0 k x29 x30 (wrap64 (x31 + 1)) x107000 x107001 x107002 x107003)) else (some false))) else (none)) else (none)) else (spec_GoodYoung.l1 k x107001 (x107001.length : Int) 0 x107000 x107001 x107002 x107003)
def spec_GoodYoung.l1 : Nat → List (S46) → Int → Int → Int → List (S46) → List Int → List Int → Option (Bool)
 | 0, _, _, _, _, _, _, _ => none
 | k + 1, x58, x59, x60, x107000, x107001, x107002, x107003 => if x60 < x59 then (if 0 ≤ x60 then (if x60 < (x58.length : Int) then (if (rd_T46 x58 x60).f0 = true then (if ((rd_T46 x58 x60).f2) = 0 then (if ((rd_T46 x58 x60).f3) = 0 then (spec_GoodYoung.l1 k x58 x59 (wrap64 (x60 + 1)) x107000 x107001 x107002 x107003) else (some false)) else (some false)) else (if ((rd_T46 x58 x60).f1) = 0 then ((spec_l1In.f ((rd_T46 x58 x60).f2) 0 (wrap64 ((x107001.length : Int) - 1))).bind fun t113 => (if t113 = true then ((spec_l1In.f ((rd_T46 x58 x60).f3) 0 (wrap64 ((x107001.length : Int) - 1))).bind fun t114 => (if t114 = true then (if x60 < x107000 then (if ((rd_T46 x58 x60).f2) ≥ x107000 then ((spec_lcHas.f k x107003 x60).bind fun t115 => (if t115 = true then (spec_GoodYoung.l1 k x58 x59 (wrap64 (x60 + 1)) x107000 x107001 x107002 x107003) else (some false))) else (if ((rd_T46 x58 x60).f3) ≥ x107000 then ((spec_lcHas.f k x107003 x60).bind fun t116 => (if t116 = true then (spec_GoodYoung.l1 k x58 x59 (wrap64 (x60 + 1)) x107000 x107001 x107002 x107003) else (some false))) else (spec_GoodYoung.l1 k x58 x59 (wrap64 (x60 + 1)) x107000 x107001 x107002 x107003))) else (spec_GoodYoung.l1 k x58 x59 (wrap64 (x60 + 1)) x107000 x107001 x107002 x107003)) else (some false))) else (some false))) else (some false))) else (none)) else (none)) else (spec_GoodYoung.l2 k x107002 (x107002.length : Int) 0 x107000 x107001 x107002 x107003)
def spec_GoodYoung.l2 : Nat → List Int → Int → Int → Int → List (S46) → List Int → List Int → Option (Bool)
 | 0, _, _, _, _, _, _, _ => none
 | k + 1, x139, x140, x141, x107000, x107001, x107002, x107003 => if x141 < x140 then (if 0 ≤ x141 then (if x141 < (x139.length : Int) then ((spec_l1In.f (rd x139 x141) 0 (wrap64 ((x107001.length : Int) - 1))).bind fun t118 => (if t118 = true then (spec_GoodYoung.l2 k x139 x140 (wrap64 (x141 + 1)) x107000 x107001 x107002 x107003) else (some false))) else (none)) else (none)) else (some true)
end
def spec_GoodYoung.f (k : Nat) (a0_0 : Int) (l0_1 : List (S46)) (l0_2 : List Int) (l0_3 : List Int) : Option (Bool) := if (l0_1.length : Int) > 200 then (some false) else (if (l0_2.length : Int) > 60 then (some false) else ((spec_l1In.f a0_0 0 (l0_1.length : Int)).bind fun t107 => (if t107 = true then (spec_GoodYoung.l0 k l0_3 (l0_3.length : Int) 0 a0_0 l0_1 l0_2 l0_3) else (some false))))
theorem spec_GoodYoung.mono_l : ∀ k, (∀ y0 y1 y2 y3 y4 y5 y6, LeO (spec_GoodYoung.l0 k y0 y1 y2 y3 y4 y5 y6) (spec_GoodYoung.l0 (k + 1) y0 y1 y2 y3 y4 y5 y6)) ∧ (∀ y0 y1 y2 y3 y4 y5 y6, LeO (spec_GoodYoung.l1 k y0 y1 y2 y3 y4 y5 y6) (spec_GoodYoung.l1 (k + 1) y0 y1 y2 y3 y4 y5 y6)) ∧ (∀ y0 y1 y2 y3 y4 y5 y6, LeO (spec_GoodYoung.l2 k y0 y1 y2 y3 y4 y5 y6) (spec_GoodYoung.l2 (k + 1) y0 y1 y2 y3 y4 y5 y6))
 | 0 => ⟨fun _ _ _ _ _ _ _ r h => by simp [spec_GoodYoung.l0] at h, fun _ _ _ _ _ _ _ r h => by simp [spec_GoodYoung.l1] at h, fun _ _ _ _ _ _ _ r h => by simp [spec_GoodYoung.l2] at h⟩
 | k + 1 => by
  obtain ⟨ih0, ih1, ih2⟩ := spec_GoodYoung.mono_l k
  refine ⟨?_, ?_, ?_⟩
  ·intro y0 y1 y2 y3 y4 y5 y6
   unfold spec_GoodYoung.l0
   repeat' first
   | (with_reducible exact ih0 _ _ _ _ _ _ _)
   | (with_reducible exact ih1 _ _ _ _ _ _ _)
   | (with_reducible exact ih2 _ _ _ _ _ _ _)
   | (with_reducible exact spec_lcHas.mono _ _ _)
   | (with_reducible exact LeO.refl _)
   | (with_reducible exact LeO.none _)
   | (with_reducible refine LeO.ite ?_ ?_)
   | (with_reducible refine LeO.bind ?_ (fun _ => ?_))
   | exact ih0 _ _ _ _ _ _ _
   | exact ih1 _ _ _ _ _ _ _
   | exact ih2 _ _ _ _ _ _ _
   | exact spec_lcHas.mono _ _ _
   | exact LeO.none _
   | refine LeO.ite ?_ ?_
   | refine LeO.bind ?_ (fun _ => ?_)
  ·intro y0 y1 y2 y3 y4 y5 y6
   unfold spec_GoodYoung.l1
   repeat' first
   | (with_reducible exact ih0 _ _ _ _ _ _ _)
   | (with_reducible exact ih1 _ _ _ _ _ _ _)
   | (with_reducible exact ih2 _ _ _ _ _ _ _)
   | (with_reducible exact spec_lcHas.mono _ _ _)
   | (with_reducible exact LeO.refl _)
   | (with_reducible exact LeO.none _)
   | (with_reducible refine LeO.ite ?_ ?_)
   | (with_reducible refine LeO.bind ?_ (fun _ => ?_))
   | exact ih0 _ _ _ _ _ _ _
   | exact ih1 _ _ _ _ _ _ _
   | exact ih2 _ _ _ _ _ _ _
   | exact spec_lcHas.mono _ _ _
   | exact LeO.none _
   | refine LeO.ite ?_ ?_
   | refine LeO.bind ?_ (fun _ => ?_)
  ·intro y0 y1 y2 y3 y4 y5 y6
   unfold spec_GoodYoung.l2
   repeat' first
   | (with_reducible exact ih0 _ _ _ _ _ _ _)
   | (with_reducible exact ih1 _ _ _ _ _ _ _)
   | (with_reducible exact ih2 _ _ _ _ _ _ _)
   | (with_reducible exact spec_lcHas.mono _ _ _)
   | (with_reducible exact LeO.refl _)
   | (with_reducible exact LeO.none _)
   | (with_reducible refine LeO.ite ?_ ?_)
   | (with_reducible refine LeO.bind ?_ (fun _ => ?_))
   | exact ih0 _ _ _ _ _ _ _
   | exact ih1 _ _ _ _ _ _ _
   | exact ih2 _ _ _ _ _ _ _
   | exact spec_lcHas.mono _ _ _
   | exact LeO.none _
   | refine LeO.ite ?_ ?_
   | refine LeO.bind ?_ (fun _ => ?_)
theorem spec_GoodYoung.mono : ∀ a0 a1 a2 a3 k, LeO (spec_GoodYoung.f k a0 a1 a2 a3) (spec_GoodYoung.f (k + 1) a0 a1 a2 a3) := by
 intro a0 a1 a2 a3 k
 obtain ⟨ih0, ih1, ih2⟩ := spec_GoodYoung.mono_l k
 unfold spec_GoodYoung.f
 repeat' first
   | (with_reducible exact ih0 _ _ _ _ _ _ _)
   | (with_reducible exact ih1 _ _ _ _ _ _ _)
   | (with_reducible exact ih2 _ _ _ _ _ _ _)
   | (with_reducible exact spec_lcHas.mono _ _ _)
   | (with_reducible exact LeO.refl _)
   | (with_reducible exact LeO.none _)
   | (with_reducible refine LeO.ite ?_ ?_)
   | (with_reducible refine LeO.bind ?_ (fun _ => ?_))
   | exact ih0 _ _ _ _ _ _ _
   | exact ih1 _ _ _ _ _ _ _
   | exact ih2 _ _ _ _ _ _ _
   | exact spec_lcHas.mono _ _ _
   | exact LeO.none _
   | refine LeO.ite ?_ ?_
   | refine LeO.bind ?_ (fun _ => ?_)
set_option maxHeartbeats 8000000 in
set_option maxRecDepth 100000 in
theorem spec_GoodYoung.calls (k : Nat) (a0_0 : Int) (A0_1 : Option Addr) (c0_1 : Nat) (l0_1 : List (S46)) (A0_2 : Option Addr) (c0_2 : Nat) (l0_2 : List Int) (A0_3 : Option Addr) (c0_3 : Nat) (l0_3 : List Int) (r : Bool) (w : World) (hr0_1 : Kd.C k46 w A0_1 l0_1.length l0_1) (hc0_1 : l0_1.length ≤ c0_1) (hr0_2 : Kd.C (Kd.int .i64) w A0_2 l0_2.length l0_2) (hc0_2 : l0_2.length ≤ c0_2) (hr0_3 : Kd.C (Kd.int .i64) w A0_3 l0_3.length l0_3) (hc0_3 : l0_3.length ≤ c0_3) (h : spec_GoodYoung.f k a0_0 l0_1 l0_2 l0_3 = some r) :
  Calls Try.prog 9 #[.agg #[.int .i64 a0_0, .slice A0_1 l0_1.length c0_1, .slice A0_2 l0_2.length c0_2, .slice A0_3 l0_3.length c0_3]] w fun e w' => e = .returned (.bool r) ∧ Below w.heap.size w w' := by
 have hu30 := Try.underlying30
 have hu46 := Try.underlying46
 have HR0_1 := Aside0.mk hr0_1
 have HC0_1 := Aside0.mk hc0_1
 clear hr0_1 hc0_1
 have HR0_2 := Aside0.mk hr0_2
 have HC0_2 := Aside0.mk hc0_2
 clear hr0_2 hc0_2
 have HR0_3 := Aside0.mk hr0_3
 have HC0_3 := Aside0.mk hc0_3
 clear hr0_3 hc0_3
 have HB := Aside0.mk (Below.refl w.heap.size w)
 have H : (if (l0_1.length : Int) > 200 then (some false) else (if (l0_2.length : Int) > 60 then (some false) else ((spec_l1In.f a0_0 0 (l0_1.length : Int)).bind fun t107 => (if t107 = true then (spec_GoodYoung.l0 k l0_3 (l0_3.length : Int) 0 a0_0 l0_1 l0_2 l0_3) else (some false))))) = some r := h
 clear h
 by_cases c2 : (l0_1.length : Int) > 200
 ·rw [if_pos c2] at H
  have c2b0 : decide (200 < (l0_1.length : Int)) = true := decide_eq_true c2
  have c2b1 : decide (200 < l0_1.length) = true := decide_eq_true (by omega)
  clear c2
  obtain rfl := Option.some.inj H
  go_enter Try.func9, Try.ntmps9
  go_wp2_with (first | ((with_reducible refine gate_dst (N := 1) rfl ?_); (try (refine gate_guard (by rfl) ?_; dsimp only)); refine box_event ?hg (N := 1) ?hd (cs := #[.int .i64 a0_0, .slice A0_1 l0_1.length c0_1, .slice A0_2 l0_2.length c0_2, .slice A0_3 l0_3.length c0_3]) (t := 30) ?hr ?_; (case hd => rfl); (case hg => rfl); (case hr => first | (go_simp; done) | (go_simp; rfl)); intro gb106 hg w3 hbox hb; have n0_ := Aside0.mk (below_step (by repeat (first | (with_reducible first | exact HB.out | apply below_alloc | apply pw_below_drewN | apply below_drew1) | exact HB.out)) hb); have n1_ := Aside0.mk (hbox); have n2_ := Aside0.mk ((by rw [hg]; exact (below_size (by repeat (first | (with_reducible first | exact HB.out | apply below_alloc | apply pw_below_drewN | apply below_drew1) | exact HB.out))) : w.heap.size ≤ gb106)); have n3_ := Aside0.mk ((by rw [hg]; exact (below_size (by repeat (first | (with_reducible first | exact HB.out | apply below_alloc | apply pw_below_drewN | apply below_drew1) | exact HB.out))) : w.heap.size ≤ gb106)); clear HB; have HB := n0_; have BK106 := n1_; have GW106 := n2_; have GE106 := n3_; clear n0_ n1_ n2_ n3_; clear hb hbox hg; have hcz4_0 : w3.cell? ⟨gb106, 0, none⟩ = some (.int .i64 a0_0) := (blk_cell BK106.out 0).trans rfl; have hcz4_1 : w3.cell? ⟨gb106, 1, none⟩ = some (.slice A0_1 l0_1.length c0_1) := (blk_cell BK106.out 1).trans rfl; have hcz4_2 : w3.cell? ⟨gb106, 2, none⟩ = some (.slice A0_2 l0_2.length c0_2) := (blk_cell BK106.out 2).trans rfl; have hcz4_3 : w3.cell? ⟨gb106, 3, none⟩ = some (.slice A0_3 l0_3.length c0_3) := (blk_cell BK106.out 3).trans rfl; have hfz4_0 := blk_frozen BK106.out 0; have hfz4_1 := blk_frozen BK106.out 1; have hfz4_2 := blk_frozen BK106.out 2; have hfz4_3 := blk_frozen BK106.out 3))
  go_ret
  exact ⟨by first | rfl | (simp [errW_none, errW_some] <;> rfl) | (simp [*, errW_none, errW_some] <;> rfl), by repeat (first | (with_reducible first | exact HB.out | apply below_alloc | apply pw_below_drewN | apply below_drew1 | refine below_set ?_ GE106.out) | exact HB.out)⟩
 ·rw [if_neg c2] at H
  have c2b0 : decide (200 < (l0_1.length : Int)) = false := decide_eq_false c2
  have c2b1 : decide (200 < l0_1.length) = false := decide_eq_false (by omega)
  clear c2
  by_cases c5 : (l0_2.length : Int) > 60
  ·rw [if_pos c5] at H
   have c5b0 : decide (60 < (l0_2.length : Int)) = true := decide_eq_true c5
   have c5b1 : decide (60 < l0_2.length) = true := decide_eq_true (by omega)
   clear c5
   obtain rfl := Option.some.inj H
   go_enter Try.func9, Try.ntmps9
   go_wp2_with (first | ((with_reducible refine gate_dst (N := 1) rfl ?_); (try (refine gate_guard (by rfl) ?_; dsimp only)); refine box_event ?hg (N := 1) ?hd (cs := #[.int .i64 a0_0, .slice A0_1 l0_1.length c0_1, .slice A0_2 l0_2.length c0_2, .slice A0_3 l0_3.length c0_3]) (t := 30) ?hr ?_; (case hd => rfl); (case hg => rfl); (case hr => first | (go_simp; done) | (go_simp; rfl)); intro gb106 hg w6 hbox hb; have n0_ := Aside0.mk (below_step (by repeat (first | (with_reducible first | exact HB.out | apply below_alloc | apply pw_below_drewN | apply below_drew1) | exact HB.out)) hb); have n1_ := Aside0.mk (hbox); have n2_ := Aside0.mk ((by rw [hg]; exact (below_size (by repeat (first | (with_reducible first | exact HB.out | apply below_alloc | apply pw_below_drewN | apply below_drew1) | exact HB.out))) : w.heap.size ≤ gb106)); have n3_ := Aside0.mk ((by rw [hg]; exact (below_size (by repeat (first | (with_reducible first | exact HB.out | apply below_alloc | apply pw_below_drewN | apply below_drew1) | exact HB.out))) : w.heap.size ≤ gb106)); clear HB; have HB := n0_; have BK106 := n1_; have GW106 := n2_; have GE106 := n3_; clear n0_ n1_ n2_ n3_; clear hb hbox hg; have hcz7_0 : w6.cell? ⟨gb106, 0, none⟩ = some (.int .i64 a0_0) := (blk_cell BK106.out 0).trans rfl; have hcz7_1 : w6.cell? ⟨gb106, 1, none⟩ = some (.slice A0_1 l0_1.length c0_1) := (blk_cell BK106.out 1).trans rfl; have hcz7_2 : w6.cell? ⟨gb106, 2, none⟩ = some (.slice A0_2 l0_2.length c0_2) := (blk_cell BK106.out 2).trans rfl; have hcz7_3 : w6.cell? ⟨gb106, 3, none⟩ = some (.slice A0_3 l0_3.length c0_3) := (blk_cell BK106.out 3).trans rfl; have hfz7_0 := blk_frozen BK106.out 0; have hfz7_1 := blk_frozen BK106.out 1; have hfz7_2 := blk_frozen BK106.out 2; have hfz7_3 := blk_frozen BK106.out 3))
   go_ret
   exact ⟨by first | rfl | (simp [errW_none, errW_some] <;> rfl) | (simp [*, errW_none, errW_some] <;> rfl), by repeat (first | (with_reducible first | exact HB.out | apply below_alloc | apply pw_below_drewN | apply below_drew1 | refine below_set ?_ GE106.out) | exact HB.out)⟩
  ·rw [if_neg c5] at H
   have c5b0 : decide (60 < (l0_2.length : Int)) = false := decide_eq_false c5
   have c5b1 : decide (60 < l0_2.length) = false := decide_eq_false (by omega)
   clear c5
   replace H := Option.bind_eq_some_iff.mp H
   obtain ⟨t107, A80, H⟩ := H
   replace H : (if t107 = true then (spec_GoodYoung.l0 k l0_3 (l0_3.length : Int) 0 a0_0 l0_1 l0_2 l0_3) else (some false)) = some r := H
   have A8 := Aside0.mk A80
   clear A80
   by_cases c9 : t107 = true
   ·subst c9
    have H1 : (spec_GoodYoung.l0 k l0_3 (l0_3.length : Int) 0 a0_0 l0_1 l0_2 l0_3) = some r := by rw [if_pos rfl] at H; exact H
    clear H
    have H := H1
    clear H1
    have H' := Aside0.mk H
    clear H
    go_enter Try.func9, Try.ntmps9
    go_wp2_with (first | ((with_reducible refine gate_dst (N := 1) rfl ?_); (try (refine gate_guard (by rfl) ?_; dsimp only)); refine box_event ?hg (N := 1) ?hd (cs := #[.int .i64 a0_0, .slice A0_1 l0_1.length c0_1, .slice A0_2 l0_2.length c0_2, .slice A0_3 l0_3.length c0_3]) (t := 30) ?hr ?_; (case hd => rfl); (case hg => rfl); (case hr => first | (go_simp; done) | (go_simp; rfl)); intro gb106 hg w10 hbox hb; have n0_ := Aside0.mk (below_step (by repeat (first | (with_reducible first | exact HB.out | apply below_alloc | apply pw_below_drewN | apply below_drew1) | exact HB.out)) hb); have n1_ := Aside0.mk (hbox); have n2_ := Aside0.mk ((by rw [hg]; exact (below_size (by repeat (first | (with_reducible first | exact HB.out | apply below_alloc | apply pw_below_drewN | apply below_drew1) | exact HB.out))) : w.heap.size ≤ gb106)); have n3_ := Aside0.mk ((by rw [hg]; exact (below_size (by repeat (first | (with_reducible first | exact HB.out | apply below_alloc | apply pw_below_drewN | apply below_drew1) | exact HB.out))) : w.heap.size ≤ gb106)); clear HB; have HB := n0_; have BK106 := n1_; have GW106 := n2_; have GE106 := n3_; clear n0_ n1_ n2_ n3_; clear hb hbox hg; have hcz11_0 : w10.cell? ⟨gb106, 0, none⟩ = some (.int .i64 a0_0) := (blk_cell BK106.out 0).trans rfl; have hcz11_1 : w10.cell? ⟨gb106, 1, none⟩ = some (.slice A0_1 l0_1.length c0_1) := (blk_cell BK106.out 1).trans rfl; have hcz11_2 : w10.cell? ⟨gb106, 2, none⟩ = some (.slice A0_2 l0_2.length c0_2) := (blk_cell BK106.out 2).trans rfl; have hcz11_3 : w10.cell? ⟨gb106, 3, none⟩ = some (.slice A0_3 l0_3.length c0_3) := (blk_cell BK106.out 3).trans rfl; have hfz11_0 := blk_frozen BK106.out 0; have hfz11_1 := blk_frozen BK106.out 1; have hfz11_2 := blk_frozen BK106.out 2; have hfz11_3 := blk_frozen BK106.out 3) | (go_at_call 28; (with_reducible refine (spec_l1In.calls a0_0 0 (l0_1.length : Int) true _ A8.out).mono ?_); rintro e w' ⟨rfl, ⟨nd, rfl⟩⟩))
    go_loopg [31] k (fun kq v31 w' => ∃ (x31_1 : Int), v31 = .int .i64 x31_1 ∧ Aside0 (spec_GoodYoung.l0 kq l0_3 (l0_3.length : Int) x31_1 a0_0 l0_1 l0_2 l0_3 = some r) ∧ Aside0 (kq ≤ k) ∧ Aside0 (w'.heap[gb106]? = some (.cells #[.int .i64 a0_0, (.slice A0_1 l0_1.length c0_1), (.slice A0_2 l0_2.length c0_2), (.slice A0_3 l0_3.length c0_3)] 30 (0, 0))) ∧ Aside0 (Below w.heap.size w w'))
    case atStart => exact ⟨(0), (by first | rfl | (simp; done) | (simp [*]; done)), H', ⟨Nat.le_refl _⟩, ⟨by (with_reducible repeat (first | refine blk_drewN ?_ _ | refine blk_drew ?_ | refine blk_alloc ?_ _)); exact BK106.out⟩, ⟨by repeat (first | (with_reducible first | exact HB.out | apply below_alloc | apply pw_below_drewN | apply below_drew1 | refine below_set ?_ GE106.out) | exact HB.out)⟩⟩
    case round =>
     clear H'
     try clear c2
     try clear c2b0
     try clear c2b1
     try clear p2
     try clear c5
     try clear c5b0
     try clear c5b1
     try clear c9
     try clear hcz11_0
     try clear hcz11_1
     try clear hcz11_2
     try clear hcz11_3
     try clear hcz4_0
     try clear hcz4_1
     try clear hcz4_2
     try clear hcz4_3
     try clear hcz7_0
     try clear hcz7_1
     try clear hcz7_2
     try clear hcz7_3
     try clear hfz11_0
     try clear hfz11_1
     try clear hfz11_2
     try clear hfz11_3
     try clear hfz4_0
     try clear hfz4_1
     try clear hfz4_2
     try clear hfz4_3
     try clear hfz7_0
     try clear hfz7_1
     try clear hfz7_2
     try clear hfz7_3
     obtain ⟨x31_1, rfl, HA, HK1, BK106, HB⟩ := hrel
     cases gk with
     | zero => exact absurd HA.out (by simp [spec_GoodYoung.l0])
     | succ k1 =>
      have H := HA.out
      clear HA
      simp only [spec_GoodYoung.l0] at H
      by_cases c12 : x31_1 < (l0_3.length : Int)
      ·rw [if_pos c12] at H
       have c12b0 : decide (x31_1 < (l0_3.length : Int)) = true := decide_eq_true c12
       clear c12
       by_cases c13 : 0 ≤ x31_1
       ·rw [if_pos c13] at H
        have c13b0 : decide (0 ≤ x31_1) = true := decide_eq_true c13
        clear c13
        by_cases c14 : x31_1 < (l0_3.length : Int)
        ·rw [if_pos c14] at H
         have c14b0 : decide (x31_1 < (l0_3.length : Int)) = true := decide_eq_true c14
         clear c14
         replace H := Option.bind_eq_some_iff.mp H
         obtain ⟨t109, A150, H⟩ := H
         replace H : (if t109 = true then (if x31_1 > 0 then (if 0 ≤ (wrap64 (x31_1 - 1)) then (if (wrap64 (x31_1 - 1)) < (l0_3.length : Int) then (if (rd l0_3 (wrap64 (x31_1 - 1))) ≥ (rd l0_3 x31_1) then (some false) else (spec_GoodYoung.l0 k1 l0_3 (l0_3.length : Int) (wrap64 (x31_1 + 1)) a0_0 l0_1 l0_2 l0_3)) else (none)) else (none)) else (spec_GoodYoung.l0 k1 l0_3 (l0_3.length : Int) (wrap64 (x31_1 + 1)) a0_0 l0_1 l0_2 l0_3)) else (some false)) = some r := H
         have A15 := Aside0.mk A150
         clear A150
         by_cases c16 : t109 = true
         ·subst c16
          have H1 : (if x31_1 > 0 then (if 0 ≤ (wrap64 (x31_1 - 1)) then (if (wrap64 (x31_1 - 1)) < (l0_3.length : Int) then (if (rd l0_3 (wrap64 (x31_1 - 1))) ≥ (rd l0_3 x31_1) then (some false) else (spec_GoodYoung.l0 k1 l0_3 (l0_3.length : Int) (wrap64 (x31_1 + 1)) a0_0 l0_1 l0_2 l0_3)) else (none)) else (none)) else (spec_GoodYoung.l0 k1 l0_3 (l0_3.length : Int) (wrap64 (x31_1 + 1)) a0_0 l0_1 l0_2 l0_3)) = some r := by rw [if_pos rfl] at H; exact H
          clear H
          have H := H1
          clear H1
          by_cases c17 : x31_1 > 0
          ·rw [if_pos c17] at H
           have c17b0 : decide (0 < x31_1) = true := decide_eq_true c17
           clear c17
           obtain ⟨ji18, hji18⟩ : ∃ j_ : Int, (wrap64 (x31_1 - 1)) = j_ := ⟨_, rfl⟩
           replace H : (if 0 ≤ (ji18) then (if (ji18) < (l0_3.length : Int) then (if (rd l0_3 (ji18)) ≥ (rd l0_3 x31_1) then (some false) else (spec_GoodYoung.l0 k1 l0_3 (l0_3.length : Int) (wrap64 (x31_1 + 1)) a0_0 l0_1 l0_2 l0_3)) else (none)) else (none)) = some r := by first | (rw [hji18] at H; exact H) | (simp only [hji18] at H ⊢; exact H)
           (try rw [hji18] at A15)
           have hji18w : (IntKind.i64.wrap (x31_1 - 1)) = ji18 := (i64_w _).trans hji18
           by_cases c19 : 0 ≤ (ji18)
           ·rw [if_pos c19] at H
            have c19b0 : decide (0 ≤ (ji18)) = true := decide_eq_true c19
            clear c19
            by_cases c20 : (ji18) < (l0_3.length : Int)
            ·rw [if_pos c20] at H
             have c20b0 : decide ((ji18) < (l0_3.length : Int)) = true := decide_eq_true c20
             clear c20
             by_cases c21 : (rd l0_3 (ji18)) ≥ (rd l0_3 x31_1)
             ·rw [if_pos c21] at H
              have c21b0 : decide ((rd l0_3 x31_1) ≤ (rd l0_3 (ji18))) = true := decide_eq_true c21
              clear c21
              obtain rfl := Option.some.inj H
              have p108 : 0 ≤ (x31_1 : Int) := of_decide_eq_true (by first | (with_reducible assumption) | assumption)
              have q108 : x31_1 < (l0_3.length : Int) := of_decide_eq_true (by first | (with_reducible assumption) | assumption)
              obtain ⟨ad108, e108, hx108_0⟩ := Kd.at_int HR0_3.out x31_1 p108 q108
              cases e108
              replace hx108_0 := (HB.out.cell (World.block_lt_of_cell? w _ hx108_0)).trans hx108_0
              replace p108 := eq_true p108
              replace q108 := eq_true q108
              have hcz22_0 : wr.cell? ⟨gb106, 0, none⟩ = some (.int .i64 a0_0) := (blk_cell BK106.out 0).trans rfl
              have hcz22_1 : wr.cell? ⟨gb106, 1, none⟩ = some (.slice A0_1 l0_1.length c0_1) := (blk_cell BK106.out 1).trans rfl
              have hcz22_2 : wr.cell? ⟨gb106, 2, none⟩ = some (.slice A0_2 l0_2.length c0_2) := (blk_cell BK106.out 2).trans rfl
              have hcz22_3 : wr.cell? ⟨gb106, 3, none⟩ = some (.slice (some ad108) l0_3.length c0_3) := (blk_cell BK106.out 3).trans rfl
              have hfz22_0 := blk_frozen BK106.out 0
              have hfz22_1 := blk_frozen BK106.out 1
              have hfz22_2 := blk_frozen BK106.out 2
              have hfz22_3 := blk_frozen BK106.out 3
              go_wp2_with (first | ((with_reducible refine gate_callee (f := 28) rfl ?_); refine goesL_ (some 40) rfl rfl Try.func28 (by kernel_rfl) rfl #[.int .i64 (rd l0_3 x31_1), .int .i64 0, .int .i64 (wrap64 (a0_0 - 1))] rfl (by (try simp only [List.map_toArray, List.map_cons, List.map_nil]); first | done | rfl | (simp only [List.length_drop, List.length_take]; rfl)) ?_; (with_reducible refine (spec_l1In.calls (rd l0_3 x31_1) 0 (wrap64 (a0_0 - 1)) true _ A15.out).mono ?_); rintro e w' ⟨rfl, ⟨nd, rfl⟩⟩; refine ⟨_, rfl, ?_⟩; have p110 : 0 ≤ ((ji18) : Int) := of_decide_eq_true (by first | (with_reducible assumption) | assumption); have q110 : (ji18) < (l0_3.length : Int) := of_decide_eq_true (by first | (with_reducible assumption) | assumption); obtain ⟨ad110, e110, hx110_0⟩ := Kd.at_int HR0_3.out (ji18) p110 q110; obtain rfl : ad108 = ad110 := (by injection e110); replace hx110_0 := (HB.out.cell (World.block_lt_of_cell? w _ hx110_0)).trans hx110_0; replace p110 := eq_true p110; replace q110 := eq_true q110))
              go_ret
              exact ⟨by first | rfl | (simp [errW_none, errW_some] <;> rfl) | (simp only [← hji18]; first | rfl | (simp [errW_none, errW_some] <;> rfl)) | (simp [*, errW_none, errW_some] <;> rfl), by repeat (first | (with_reducible first | exact HB.out | apply below_alloc | apply pw_below_drewN | apply below_drew1 | refine below_set ?_ GE106.out) | exact HB.out)⟩
             ·rw [if_neg c21] at H
              have c21b0 : decide ((rd l0_3 x31_1) ≤ (rd l0_3 (ji18))) = false := decide_eq_false c21
              clear c21
              have H' := Aside0.mk H
              clear H
              have p108 : 0 ≤ (x31_1 : Int) := of_decide_eq_true (by first | (with_reducible assumption) | assumption)
              have q108 : x31_1 < (l0_3.length : Int) := of_decide_eq_true (by first | (with_reducible assumption) | assumption)
              obtain ⟨ad108, e108, hx108_0⟩ := Kd.at_int HR0_3.out x31_1 p108 q108
              cases e108
              replace hx108_0 := (HB.out.cell (World.block_lt_of_cell? w _ hx108_0)).trans hx108_0
              replace p108 := eq_true p108
              replace q108 := eq_true q108
              have hcz23_0 : wr.cell? ⟨gb106, 0, none⟩ = some (.int .i64 a0_0) := (blk_cell BK106.out 0).trans rfl
              have hcz23_1 : wr.cell? ⟨gb106, 1, none⟩ = some (.slice A0_1 l0_1.length c0_1) := (blk_cell BK106.out 1).trans rfl
              have hcz23_2 : wr.cell? ⟨gb106, 2, none⟩ = some (.slice A0_2 l0_2.length c0_2) := (blk_cell BK106.out 2).trans rfl
              have hcz23_3 : wr.cell? ⟨gb106, 3, none⟩ = some (.slice (some ad108) l0_3.length c0_3) := (blk_cell BK106.out 3).trans rfl
              have hfz23_0 := blk_frozen BK106.out 0
              have hfz23_1 := blk_frozen BK106.out 1
              have hfz23_2 := blk_frozen BK106.out 2
              have hfz23_3 := blk_frozen BK106.out 3
              go_wp2_with (first | ((with_reducible refine gate_callee (f := 28) rfl ?_); refine goesL_ (some 40) rfl rfl Try.func28 (by kernel_rfl) rfl #[.int .i64 (rd l0_3 x31_1), .int .i64 0, .int .i64 (wrap64 (a0_0 - 1))] rfl (by (try simp only [List.map_toArray, List.map_cons, List.map_nil]); first | done | rfl | (simp only [List.length_drop, List.length_take]; rfl)) ?_; (with_reducible refine (spec_l1In.calls (rd l0_3 x31_1) 0 (wrap64 (a0_0 - 1)) true _ A15.out).mono ?_); rintro e w' ⟨rfl, ⟨nd, rfl⟩⟩; refine ⟨_, rfl, ?_⟩; have p110 : 0 ≤ ((ji18) : Int) := of_decide_eq_true (by first | (with_reducible assumption) | assumption); have q110 : (ji18) < (l0_3.length : Int) := of_decide_eq_true (by first | (with_reducible assumption) | assumption); obtain ⟨ad110, e110, hx110_0⟩ := Kd.at_int HR0_3.out (ji18) p110 q110; obtain rfl : ad108 = ad110 := (by injection e110); replace hx110_0 := (HB.out.cell (World.block_lt_of_cell? w _ hx110_0)).trans hx110_0; replace p110 := eq_true p110; replace q110 := eq_true q110))
              go_roundg k1
              case measure => have := HK1.out; omega
              case rel => exact ⟨(wrap64 (x31_1 + 1)), (by first | rfl | (simp; done) | (simp [*]; done)), H', ⟨by have := HK1.out; omega⟩, ⟨by (with_reducible repeat (first | refine blk_drewN ?_ _ | refine blk_drew ?_ | refine blk_alloc ?_ _)); exact BK106.out⟩, ⟨by repeat (first | (with_reducible first | exact HB.out | apply below_alloc | apply pw_below_drewN | apply below_drew1 | refine below_set ?_ GE106.out) | exact HB.out)⟩⟩
            ·rw [if_neg c20] at H
             exact absurd H (by simp)
           ·rw [if_neg c19] at H
            exact absurd H (by simp)
          ·rw [if_neg c17] at H
           have c17b0 : decide (0 < x31_1) = false := decide_eq_false c17
           clear c17
           have H' := Aside0.mk H
           clear H
           have p108 : 0 ≤ (x31_1 : Int) := of_decide_eq_true (by first | (with_reducible assumption) | assumption)
           have q108 : x31_1 < (l0_3.length : Int) := of_decide_eq_true (by first | (with_reducible assumption) | assumption)
           obtain ⟨ad108, e108, hx108_0⟩ := Kd.at_int HR0_3.out x31_1 p108 q108
           cases e108
           replace hx108_0 := (HB.out.cell (World.block_lt_of_cell? w _ hx108_0)).trans hx108_0
           replace p108 := eq_true p108
           replace q108 := eq_true q108
           have hcz24_0 : wr.cell? ⟨gb106, 0, none⟩ = some (.int .i64 a0_0) := (blk_cell BK106.out 0).trans rfl
           have hcz24_1 : wr.cell? ⟨gb106, 1, none⟩ = some (.slice A0_1 l0_1.length c0_1) := (blk_cell BK106.out 1).trans rfl
           have hcz24_2 : wr.cell? ⟨gb106, 2, none⟩ = some (.slice A0_2 l0_2.length c0_2) := (blk_cell BK106.out 2).trans rfl
           have hcz24_3 : wr.cell? ⟨gb106, 3, none⟩ = some (.slice (some ad108) l0_3.length c0_3) := (blk_cell BK106.out 3).trans rfl
           have hfz24_0 := blk_frozen BK106.out 0
           have hfz24_1 := blk_frozen BK106.out 1
           have hfz24_2 := blk_frozen BK106.out 2
           have hfz24_3 := blk_frozen BK106.out 3
           go_wp2_with (first | ((with_reducible refine gate_callee (f := 28) rfl ?_); refine goesL_ (some 40) rfl rfl Try.func28 (by kernel_rfl) rfl #[.int .i64 (rd l0_3 x31_1), .int .i64 0, .int .i64 (wrap64 (a0_0 - 1))] rfl (by (try simp only [List.map_toArray, List.map_cons, List.map_nil]); first | done | rfl | (simp only [List.length_drop, List.length_take]; rfl)) ?_; (with_reducible refine (spec_l1In.calls (rd l0_3 x31_1) 0 (wrap64 (a0_0 - 1)) true _ A15.out).mono ?_); rintro e w' ⟨rfl, ⟨nd, rfl⟩⟩; refine ⟨_, rfl, ?_⟩))
           go_roundg k1
           case measure => have := HK1.out; omega
           case rel => exact ⟨(wrap64 (x31_1 + 1)), (by first | rfl | (simp; done) | (simp [*]; done)), H', ⟨by have := HK1.out; omega⟩, ⟨by (with_reducible repeat (first | refine blk_drewN ?_ _ | refine blk_drew ?_ | refine blk_alloc ?_ _)); exact BK106.out⟩, ⟨by repeat (first | (with_reducible first | exact HB.out | apply below_alloc | apply pw_below_drewN | apply below_drew1 | refine below_set ?_ GE106.out) | exact HB.out)⟩⟩
         ·replace c16 := Bool.eq_false_iff.mpr c16
          subst c16
          have H1 : (some false) = some r := by rw [if_neg (show ¬ (false = true) by decide)] at H; exact H
          clear H
          have H := H1
          clear H1
          obtain rfl := Option.some.inj H
          have p108 : 0 ≤ (x31_1 : Int) := of_decide_eq_true (by first | (with_reducible assumption) | assumption)
          have q108 : x31_1 < (l0_3.length : Int) := of_decide_eq_true (by first | (with_reducible assumption) | assumption)
          obtain ⟨ad108, e108, hx108_0⟩ := Kd.at_int HR0_3.out x31_1 p108 q108
          cases e108
          replace hx108_0 := (HB.out.cell (World.block_lt_of_cell? w _ hx108_0)).trans hx108_0
          replace p108 := eq_true p108
          replace q108 := eq_true q108
          have hcz25_0 : wr.cell? ⟨gb106, 0, none⟩ = some (.int .i64 a0_0) := (blk_cell BK106.out 0).trans rfl
          have hcz25_1 : wr.cell? ⟨gb106, 1, none⟩ = some (.slice A0_1 l0_1.length c0_1) := (blk_cell BK106.out 1).trans rfl
          have hcz25_2 : wr.cell? ⟨gb106, 2, none⟩ = some (.slice A0_2 l0_2.length c0_2) := (blk_cell BK106.out 2).trans rfl
          have hcz25_3 : wr.cell? ⟨gb106, 3, none⟩ = some (.slice (some ad108) l0_3.length c0_3) := (blk_cell BK106.out 3).trans rfl
          have hfz25_0 := blk_frozen BK106.out 0
          have hfz25_1 := blk_frozen BK106.out 1
          have hfz25_2 := blk_frozen BK106.out 2
          have hfz25_3 := blk_frozen BK106.out 3
          go_wp2_with (first | ((with_reducible refine gate_callee (f := 28) rfl ?_); refine goesL_ (some 40) rfl rfl Try.func28 (by kernel_rfl) rfl #[.int .i64 (rd l0_3 x31_1), .int .i64 0, .int .i64 (wrap64 (a0_0 - 1))] rfl (by (try simp only [List.map_toArray, List.map_cons, List.map_nil]); first | done | rfl | (simp only [List.length_drop, List.length_take]; rfl)) ?_; (with_reducible refine (spec_l1In.calls (rd l0_3 x31_1) 0 (wrap64 (a0_0 - 1)) false _ A15.out).mono ?_); rintro e w' ⟨rfl, ⟨nd, rfl⟩⟩; refine ⟨_, rfl, ?_⟩))
          go_ret
          exact ⟨by first | rfl | (simp [errW_none, errW_some] <;> rfl) | (simp [*, errW_none, errW_some] <;> rfl), by repeat (first | (with_reducible first | exact HB.out | apply below_alloc | apply pw_below_drewN | apply below_drew1 | refine below_set ?_ GE106.out) | exact HB.out)⟩
        ·rw [if_neg c14] at H
         exact absurd H (by simp)
       ·rw [if_neg c13] at H
        exact absurd H (by simp)
      ·rw [if_neg c12] at H
       have c12b0 : decide (x31_1 < (l0_3.length : Int)) = false := decide_eq_false c12
       clear c12
       have H' := Aside0.mk H
       clear H
       have hcz26_0 : wr.cell? ⟨gb106, 0, none⟩ = some (.int .i64 a0_0) := (blk_cell BK106.out 0).trans rfl
       have hcz26_1 : wr.cell? ⟨gb106, 1, none⟩ = some (.slice A0_1 l0_1.length c0_1) := (blk_cell BK106.out 1).trans rfl
       have hcz26_2 : wr.cell? ⟨gb106, 2, none⟩ = some (.slice A0_2 l0_2.length c0_2) := (blk_cell BK106.out 2).trans rfl
       have hcz26_3 : wr.cell? ⟨gb106, 3, none⟩ = some (.slice A0_3 l0_3.length c0_3) := (blk_cell BK106.out 3).trans rfl
       have hfz26_0 := blk_frozen BK106.out 0
       have hfz26_1 := blk_frozen BK106.out 1
       have hfz26_2 := blk_frozen BK106.out 2
       have hfz26_3 := blk_frozen BK106.out 3
       go_wp2
       go_loopg [60] k1 (fun kq v60 w' => ∃ (x60_2 : Int), v60 = .int .i64 x60_2 ∧ Aside0 (spec_GoodYoung.l1 kq l0_1 (l0_1.length : Int) x60_2 a0_0 l0_1 l0_2 l0_3 = some r) ∧ Aside0 (kq ≤ k1) ∧ Aside0 (w'.heap[gb106]? = some (.cells #[.int .i64 a0_0, (.slice A0_1 l0_1.length c0_1), (.slice A0_2 l0_2.length c0_2), (.slice A0_3 l0_3.length c0_3)] 30 (0, 0))) ∧ Aside0 (Below w.heap.size w w'))
       case atStart => exact ⟨(0), (by first | rfl | (simp; done) | (simp [*]; done)), H', ⟨Nat.le_refl _⟩, ⟨by (with_reducible repeat (first | refine blk_drewN ?_ _ | refine blk_drew ?_ | refine blk_alloc ?_ _)); exact BK106.out⟩, ⟨by repeat (first | (with_reducible first | exact HB.out | apply below_alloc | apply pw_below_drewN | apply below_drew1 | refine below_set ?_ GE106.out) | exact HB.out)⟩⟩
       case round =>
        clear H'
        try clear c1
        try clear p1
        try clear q1
        try clear hx1
        try clear c2
        try clear c2b0
        try clear c2b1
        try clear p2
        try clear c5
        try clear c5b0
        try clear c5b1
        try clear p6
        try clear c9
        try clear p10
        try clear q10
        try clear hx10
        try clear p11
        try clear q11
        try clear hx11
        try clear c12
        try clear c12b0
        try clear c13
        try clear c13b0
        try clear c14
        try clear c14b0
        try clear c16
        try clear c17
        try clear c17b0
        try clear c19
        try clear c19b0
        try clear c20
        try clear c20b0
        try clear c21
        try clear c21b0
        try clear hcz11_0
        try clear hcz11_1
        try clear hcz11_2
        try clear hcz11_3
        try clear hcz22_0
        try clear hcz22_1
        try clear hcz22_2
        try clear hcz22_3
        try clear hcz23_0
        try clear hcz23_1
        try clear hcz23_2
        try clear hcz23_3
        try clear hcz24_0
        try clear hcz24_1
        try clear hcz24_2
        try clear hcz24_3
        try clear hcz25_0
        try clear hcz25_1
        try clear hcz25_2
        try clear hcz25_3
        try clear hcz26_0
        try clear hcz26_1
        try clear hcz26_2
        try clear hcz26_3
        try clear hcz4_0
        try clear hcz4_1
        try clear hcz4_2
        try clear hcz4_3
        try clear hcz7_0
        try clear hcz7_1
        try clear hcz7_2
        try clear hcz7_3
        try clear hfz11_0
        try clear hfz11_1
        try clear hfz11_2
        try clear hfz11_3
        try clear hfz22_0
        try clear hfz22_1
        try clear hfz22_2
        try clear hfz22_3
        try clear hfz23_0
        try clear hfz23_1
        try clear hfz23_2
        try clear hfz23_3
        try clear hfz24_0
        try clear hfz24_1
        try clear hfz24_2
        try clear hfz24_3
        try clear hfz25_0
        try clear hfz25_1
        try clear hfz25_2
        try clear hfz25_3
        try clear hfz26_0
        try clear hfz26_1
        try clear hfz26_2
        try clear hfz26_3
        try clear hfz4_0
        try clear hfz4_1
        try clear hfz4_2
        try clear hfz4_3
        try clear hfz7_0
        try clear hfz7_1
        try clear hfz7_2
        try clear hfz7_3
        try clear hx108_0
        try clear hx110_0
        try clear p108
        try clear p110
        try clear p2
        try clear q108
        try clear q110
        obtain ⟨x60_2, rfl, HA, HK2, BK106, HB⟩ := hrel
        cases gk with
        | zero => exact absurd HA.out (by simp [spec_GoodYoung.l1])
        | succ k2 =>
         have H := HA.out
         clear HA
         simp only [spec_GoodYoung.l1] at H
         by_cases c27 : x60_2 < (l0_1.length : Int)
         ·rw [if_pos c27] at H
          have c27b0 : decide (x60_2 < (l0_1.length : Int)) = true := decide_eq_true c27
          clear c27
          by_cases c28 : 0 ≤ x60_2
          ·rw [if_pos c28] at H
           have c28b0 : decide (0 ≤ x60_2) = true := decide_eq_true c28
           clear c28
           by_cases c29 : x60_2 < (l0_1.length : Int)
           ·rw [if_pos c29] at H
            have c29b0 : decide (x60_2 < (l0_1.length : Int)) = true := decide_eq_true c29
            clear c29
            obtain ⟨bq30, hbq30⟩ : ∃ b_ : Bool, b_ = ((rd_T46 l0_1 x60_2).f0) := ⟨_, rfl⟩
            replace H : (if bq30 = true then (if ((rd_T46 l0_1 x60_2).f2) = 0 then (if ((rd_T46 l0_1 x60_2).f3) = 0 then (spec_GoodYoung.l1 k2 l0_1 (l0_1.length : Int) (wrap64 (x60_2 + 1)) a0_0 l0_1 l0_2 l0_3) else (some false)) else (some false)) else (if ((rd_T46 l0_1 x60_2).f1) = 0 then ((spec_l1In.f ((rd_T46 l0_1 x60_2).f2) 0 (wrap64 ((l0_1.length : Int) - 1))).bind fun t113 => (if t113 = true then ((spec_l1In.f ((rd_T46 l0_1 x60_2).f3) 0 (wrap64 ((l0_1.length : Int) - 1))).bind fun t114 => (if t114 = true then (if x60_2 < a0_0 then (if ((rd_T46 l0_1 x60_2).f2) ≥ a0_0 then ((spec_lcHas.f k2 l0_3 x60_2).bind fun t115 => (if t115 = true then (spec_GoodYoung.l1 k2 l0_1 (l0_1.length : Int) (wrap64 (x60_2 + 1)) a0_0 l0_1 l0_2 l0_3) else (some false))) else (if ((rd_T46 l0_1 x60_2).f3) ≥ a0_0 then ((spec_lcHas.f k2 l0_3 x60_2).bind fun t116 => (if t116 = true then (spec_GoodYoung.l1 k2 l0_1 (l0_1.length : Int) (wrap64 (x60_2 + 1)) a0_0 l0_1 l0_2 l0_3) else (some false))) else (spec_GoodYoung.l1 k2 l0_1 (l0_1.length : Int) (wrap64 (x60_2 + 1)) a0_0 l0_1 l0_2 l0_3))) else (spec_GoodYoung.l1 k2 l0_1 (l0_1.length : Int) (wrap64 (x60_2 + 1)) a0_0 l0_1 l0_2 l0_3)) else (some false))) else (some false))) else (some false))) = some r := by rw [← hbq30] at H; exact H
            have Nbq30 := Aside0.mk hbq30
            clear hbq30
            by_cases c31 : bq30 = true
            ·subst c31
             have H1 : (if ((rd_T46 l0_1 x60_2).f2) = 0 then (if ((rd_T46 l0_1 x60_2).f3) = 0 then (spec_GoodYoung.l1 k2 l0_1 (l0_1.length : Int) (wrap64 (x60_2 + 1)) a0_0 l0_1 l0_2 l0_3) else (some false)) else (some false)) = some r := by rw [if_pos rfl] at H; exact H
             clear H
             have H := H1
             clear H1
             by_cases c32 : ((rd_T46 l0_1 x60_2).f2) = 0
             ·rw [if_pos c32] at H
              have c32b0 : (((rd_T46 l0_1 x60_2).f2) == 0) = true := beq_iff_eq.mpr c32
              have c32b1 : (((rd_T46 l0_1 x60_2).f2) != 0) = false := bne_eq_false_iff_eq.mpr c32
              clear c32
              by_cases c33 : ((rd_T46 l0_1 x60_2).f3) = 0
              ·rw [if_pos c33] at H
               have c33b0 : (((rd_T46 l0_1 x60_2).f3) == 0) = true := beq_iff_eq.mpr c33
               have c33b1 : (((rd_T46 l0_1 x60_2).f3) != 0) = false := bne_eq_false_iff_eq.mpr c33
               clear c33
               have H' := Aside0.mk H
               clear H
               have p111 : 0 ≤ (x60_2 : Int) := of_decide_eq_true (by first | (with_reducible assumption) | assumption)
               have q111 : x60_2 < (l0_1.length : Int) := of_decide_eq_true (by first | (with_reducible assumption) | assumption)
               obtain ⟨ad111, e111, hx111_0, hx111_1, hx111_2, hx111_3⟩ := at_T46 HR0_1.out x60_2 p111 q111
               (try rw [← Nbq30.out] at hx111_0)
               cases e111
               replace hx111_0 := (HB.out.cell (World.block_lt_of_cell? w _ hx111_0)).trans hx111_0
               replace hx111_1 := (HB.out.cell (World.block_lt_of_cell? w _ hx111_1)).trans hx111_1
               replace hx111_2 := (HB.out.cell (World.block_lt_of_cell? w _ hx111_2)).trans hx111_2
               replace hx111_3 := (HB.out.cell (World.block_lt_of_cell? w _ hx111_3)).trans hx111_3
               replace p111 := eq_true p111
               replace q111 := eq_true q111
               go_wp2_with (first | ((with_reducible refine gate_dst (N := 6) rfl ?_); (try (refine gate_guard (by rfl) ?_; dsimp only)); refine box_event ?hg (N := 6) ?hd (cs := #[.bool false, .int .i64 0, .int .i64 0, .int .i64 0]) (t := 46) ?hr ?_; (case hd => rfl); (case hg => rfl); (case hr => first | (go_simp; done) | (go_simp; rfl)); intro gb112 hg w34 hbox hb; have n0_ := Aside0.mk (blk_below (g := gb106) (o := .cells #[.int .i64 a0_0, .slice (some ad111) l0_1.length c0_1, .slice A0_2 l0_2.length c0_2, .slice A0_3 l0_3.length c0_3] 30 (0, 0)) (by (with_reducible repeat (first | refine blk_drewN ?_ _ | refine blk_drew ?_ | refine blk_alloc ?_ _)); exact BK106.out) hb); have n1_ := Aside0.mk (below_step (by repeat (first | (with_reducible first | exact HB.out | apply below_alloc | apply pw_below_drewN | apply below_drew1 | refine below_set ?_ GE106.out) | exact HB.out)) hb); have n2_ := Aside0.mk (hbox); have n3_ := Aside0.mk ((by rw [hg]; exact (below_size (by repeat (first | (with_reducible first | exact HB.out | apply below_alloc | apply pw_below_drewN | apply below_drew1 | refine below_set ?_ GE106.out) | exact HB.out))) : w.heap.size ≤ gb112)); have n4_ := Aside0.mk ((by rw [hg]; exact (below_size (by repeat (first | (with_reducible first | exact HB.out | apply below_alloc | apply pw_below_drewN | apply below_drew1 | refine below_set ?_ GE106.out) | exact HB.out))) : w.heap.size ≤ gb112)); have n5_ := Aside0.mk ((by rw [hg]; exact Nat.ne_of_lt (blk_lt (g := gb106) (o := .cells #[.int .i64 a0_0, .slice (some ad111) l0_1.length c0_1, .slice A0_2 l0_2.length c0_2, .slice A0_3 l0_3.length c0_3] 30 (0, 0)) (by (with_reducible repeat (first | refine blk_drewN ?_ _ | refine blk_drew ?_ | refine blk_alloc ?_ _)); exact BK106.out)) : gb106 ≠ gb112)); have n6_ := Aside0.mk ((by rw [hg]; exact Nat.ne_of_gt (blk_lt (g := gb106) (o := .cells #[.int .i64 a0_0, .slice (some ad111) l0_1.length c0_1, .slice A0_2 l0_2.length c0_2, .slice A0_3 l0_3.length c0_3] 30 (0, 0)) (by (with_reducible repeat (first | refine blk_drewN ?_ _ | refine blk_drew ?_ | refine blk_alloc ?_ _)); exact BK106.out)) : gb112 ≠ gb106)); clear BK106; clear HB; have BK106 := n0_; have HB := n1_; have BK112 := n2_; have GW112 := n3_; have GE112 := n4_; have NB106_112 := n5_; have NB112_106 := n6_; clear n0_ n1_ n2_ n3_ n4_ n5_ n6_; clear hb hbox hg; have hnb35 := NB112_106.out; have hnc35 := NB106_112.out; have hcz36_0 : w34.cell? ⟨gb112, 0, none⟩ = some (.bool false) := (blk_cell BK112.out 0).trans rfl; have hcz36_1 : w34.cell? ⟨gb112, 1, none⟩ = some (.int .i64 0) := (blk_cell BK112.out 1).trans rfl; have hcz36_2 : w34.cell? ⟨gb112, 2, none⟩ = some (.int .i64 0) := (blk_cell BK112.out 2).trans rfl; have hcz36_3 : w34.cell? ⟨gb112, 3, none⟩ = some (.int .i64 0) := (blk_cell BK112.out 3).trans rfl; have hfz36_0 := blk_frozen BK112.out 0; have hfz36_1 := blk_frozen BK112.out 1; have hfz36_2 := blk_frozen BK112.out 2; have hfz36_3 := blk_frozen BK112.out 3))
               go_roundg k2
               case measure => have := HK1.out; have := HK2.out; omega
               case rel => exact ⟨(wrap64 (x60_2 + 1)), (by first | rfl | (simp; done) | (simp [*]; done)), H', ⟨by have := HK1.out; have := HK2.out; omega⟩, ⟨by (with_reducible repeat (first | refine blk_drewN ?_ _ | refine blk_drew ?_ | refine blk_alloc ?_ _)); refine blk_far ?_ NB106_112.out _; (with_reducible repeat (first | refine blk_drewN ?_ _ | refine blk_drew ?_ | refine blk_alloc ?_ _)); refine blk_far ?_ NB106_112.out _; (with_reducible repeat (first | refine blk_drewN ?_ _ | refine blk_drew ?_ | refine blk_alloc ?_ _)); refine blk_far ?_ NB106_112.out _; (with_reducible repeat (first | refine blk_drewN ?_ _ | refine blk_drew ?_ | refine blk_alloc ?_ _)); refine blk_far ?_ NB106_112.out _; (with_reducible repeat (first | refine blk_drewN ?_ _ | refine blk_drew ?_ | refine blk_alloc ?_ _)); exact BK106.out⟩, ⟨by repeat (first | (with_reducible first | exact HB.out | apply below_alloc | apply pw_below_drewN | apply below_drew1 | refine below_set ?_ GE106.out | refine below_set ?_ GE112.out) | exact HB.out)⟩⟩
              ·rw [if_neg c33] at H
               have c33b0 : (((rd_T46 l0_1 x60_2).f3) == 0) = false := beq_eq_false_iff_ne.mpr c33
               have c33b1 : (((rd_T46 l0_1 x60_2).f3) != 0) = true := bne_iff_ne.mpr c33
               obtain rfl := Option.some.inj H
               have p111 : 0 ≤ (x60_2 : Int) := of_decide_eq_true (by first | (with_reducible assumption) | assumption)
               have q111 : x60_2 < (l0_1.length : Int) := of_decide_eq_true (by first | (with_reducible assumption) | assumption)
               obtain ⟨ad111, e111, hx111_0, hx111_1, hx111_2, hx111_3⟩ := at_T46 HR0_1.out x60_2 p111 q111
               (try rw [← Nbq30.out] at hx111_0)
               cases e111
               replace hx111_0 := (HB.out.cell (World.block_lt_of_cell? w _ hx111_0)).trans hx111_0
               replace hx111_1 := (HB.out.cell (World.block_lt_of_cell? w _ hx111_1)).trans hx111_1
               replace hx111_2 := (HB.out.cell (World.block_lt_of_cell? w _ hx111_2)).trans hx111_2
               replace hx111_3 := (HB.out.cell (World.block_lt_of_cell? w _ hx111_3)).trans hx111_3
               replace p111 := eq_true p111
               replace q111 := eq_true q111
               go_wp2_with (first | ((with_reducible refine gate_dst (N := 6) rfl ?_); (try (refine gate_guard (by rfl) ?_; dsimp only)); refine box_event ?hg (N := 6) ?hd (cs := #[.bool false, .int .i64 0, .int .i64 0, .int .i64 0]) (t := 46) ?hr ?_; (case hd => rfl); (case hg => rfl); (case hr => first | (go_simp; done) | (go_simp; rfl)); intro gb112 hg w37 hbox hb; have n0_ := Aside0.mk (blk_below (g := gb106) (o := .cells #[.int .i64 a0_0, .slice (some ad111) l0_1.length c0_1, .slice A0_2 l0_2.length c0_2, .slice A0_3 l0_3.length c0_3] 30 (0, 0)) (by (with_reducible repeat (first | refine blk_drewN ?_ _ | refine blk_drew ?_ | refine blk_alloc ?_ _)); exact BK106.out) hb); have n1_ := Aside0.mk (below_step (by repeat (first | (with_reducible first | exact HB.out | apply below_alloc | apply pw_below_drewN | apply below_drew1 | refine below_set ?_ GE106.out) | exact HB.out)) hb); have n2_ := Aside0.mk (hbox); have n3_ := Aside0.mk ((by rw [hg]; exact (below_size (by repeat (first | (with_reducible first | exact HB.out | apply below_alloc | apply pw_below_drewN | apply below_drew1 | refine below_set ?_ GE106.out) | exact HB.out))) : w.heap.size ≤ gb112)); have n4_ := Aside0.mk ((by rw [hg]; exact (below_size (by repeat (first | (with_reducible first | exact HB.out | apply below_alloc | apply pw_below_drewN | apply below_drew1 | refine below_set ?_ GE106.out) | exact HB.out))) : w.heap.size ≤ gb112)); have n5_ := Aside0.mk ((by rw [hg]; exact Nat.ne_of_lt (blk_lt (g := gb106) (o := .cells #[.int .i64 a0_0, .slice (some ad111) l0_1.length c0_1, .slice A0_2 l0_2.length c0_2, .slice A0_3 l0_3.length c0_3] 30 (0, 0)) (by (with_reducible repeat (first | refine blk_drewN ?_ _ | refine blk_drew ?_ | refine blk_alloc ?_ _)); exact BK106.out)) : gb106 ≠ gb112)); have n6_ := Aside0.mk ((by rw [hg]; exact Nat.ne_of_gt (blk_lt (g := gb106) (o := .cells #[.int .i64 a0_0, .slice (some ad111) l0_1.length c0_1, .slice A0_2 l0_2.length c0_2, .slice A0_3 l0_3.length c0_3] 30 (0, 0)) (by (with_reducible repeat (first | refine blk_drewN ?_ _ | refine blk_drew ?_ | refine blk_alloc ?_ _)); exact BK106.out)) : gb112 ≠ gb106)); clear BK106; clear HB; have BK106 := n0_; have HB := n1_; have BK112 := n2_; have GW112 := n3_; have GE112 := n4_; have NB106_112 := n5_; have NB112_106 := n6_; clear n0_ n1_ n2_ n3_ n4_ n5_ n6_; clear hb hbox hg; have hnb38 := NB112_106.out; have hnc38 := NB106_112.out; have hcz39_0 : w37.cell? ⟨gb112, 0, none⟩ = some (.bool false) := (blk_cell BK112.out 0).trans rfl; have hcz39_1 : w37.cell? ⟨gb112, 1, none⟩ = some (.int .i64 0) := (blk_cell BK112.out 1).trans rfl; have hcz39_2 : w37.cell? ⟨gb112, 2, none⟩ = some (.int .i64 0) := (blk_cell BK112.out 2).trans rfl; have hcz39_3 : w37.cell? ⟨gb112, 3, none⟩ = some (.int .i64 0) := (blk_cell BK112.out 3).trans rfl; have hfz39_0 := blk_frozen BK112.out 0; have hfz39_1 := blk_frozen BK112.out 1; have hfz39_2 := blk_frozen BK112.out 2; have hfz39_3 := blk_frozen BK112.out 3))
               go_ret
               exact ⟨by first | rfl | (simp [errW_none, errW_some] <;> rfl) | (simp [*, errW_none, errW_some] <;> rfl), by repeat (first | (with_reducible first | exact HB.out | apply below_alloc | apply pw_below_drewN | apply below_drew1 | refine below_set ?_ GE106.out | refine below_set ?_ GE112.out) | exact HB.out)⟩
             ·rw [if_neg c32] at H
              have c32b0 : (((rd_T46 l0_1 x60_2).f2) == 0) = false := beq_eq_false_iff_ne.mpr c32
              have c32b1 : (((rd_T46 l0_1 x60_2).f2) != 0) = true := bne_iff_ne.mpr c32
              obtain rfl := Option.some.inj H
              have p111 : 0 ≤ (x60_2 : Int) := of_decide_eq_true (by first | (with_reducible assumption) | assumption)
              have q111 : x60_2 < (l0_1.length : Int) := of_decide_eq_true (by first | (with_reducible assumption) | assumption)
              obtain ⟨ad111, e111, hx111_0, hx111_1, hx111_2, hx111_3⟩ := at_T46 HR0_1.out x60_2 p111 q111
              (try rw [← Nbq30.out] at hx111_0)
              cases e111
              replace hx111_0 := (HB.out.cell (World.block_lt_of_cell? w _ hx111_0)).trans hx111_0
              replace hx111_1 := (HB.out.cell (World.block_lt_of_cell? w _ hx111_1)).trans hx111_1
              replace hx111_2 := (HB.out.cell (World.block_lt_of_cell? w _ hx111_2)).trans hx111_2
              replace hx111_3 := (HB.out.cell (World.block_lt_of_cell? w _ hx111_3)).trans hx111_3
              replace p111 := eq_true p111
              replace q111 := eq_true q111
              go_wp2_with (first | ((with_reducible refine gate_dst (N := 6) rfl ?_); (try (refine gate_guard (by rfl) ?_; dsimp only)); refine box_event ?hg (N := 6) ?hd (cs := #[.bool false, .int .i64 0, .int .i64 0, .int .i64 0]) (t := 46) ?hr ?_; (case hd => rfl); (case hg => rfl); (case hr => first | (go_simp; done) | (go_simp; rfl)); intro gb112 hg w40 hbox hb; have n0_ := Aside0.mk (blk_below (g := gb106) (o := .cells #[.int .i64 a0_0, .slice (some ad111) l0_1.length c0_1, .slice A0_2 l0_2.length c0_2, .slice A0_3 l0_3.length c0_3] 30 (0, 0)) (by (with_reducible repeat (first | refine blk_drewN ?_ _ | refine blk_drew ?_ | refine blk_alloc ?_ _)); exact BK106.out) hb); have n1_ := Aside0.mk (below_step (by repeat (first | (with_reducible first | exact HB.out | apply below_alloc | apply pw_below_drewN | apply below_drew1 | refine below_set ?_ GE106.out) | exact HB.out)) hb); have n2_ := Aside0.mk (hbox); have n3_ := Aside0.mk ((by rw [hg]; exact (below_size (by repeat (first | (with_reducible first | exact HB.out | apply below_alloc | apply pw_below_drewN | apply below_drew1 | refine below_set ?_ GE106.out) | exact HB.out))) : w.heap.size ≤ gb112)); have n4_ := Aside0.mk ((by rw [hg]; exact (below_size (by repeat (first | (with_reducible first | exact HB.out | apply below_alloc | apply pw_below_drewN | apply below_drew1 | refine below_set ?_ GE106.out) | exact HB.out))) : w.heap.size ≤ gb112)); have n5_ := Aside0.mk ((by rw [hg]; exact Nat.ne_of_lt (blk_lt (g := gb106) (o := .cells #[.int .i64 a0_0, .slice (some ad111) l0_1.length c0_1, .slice A0_2 l0_2.length c0_2, .slice A0_3 l0_3.length c0_3] 30 (0, 0)) (by (with_reducible repeat (first | refine blk_drewN ?_ _ | refine blk_drew ?_ | refine blk_alloc ?_ _)); exact BK106.out)) : gb106 ≠ gb112)); have n6_ := Aside0.mk ((by rw [hg]; exact Nat.ne_of_gt (blk_lt (g := gb106) (o := .cells #[.int .i64 a0_0, .slice (some ad111) l0_1.length c0_1, .slice A0_2 l0_2.length c0_2, .slice A0_3 l0_3.length c0_3] 30 (0, 0)) (by (with_reducible repeat (first | refine blk_drewN ?_ _ | refine blk_drew ?_ | refine blk_alloc ?_ _)); exact BK106.out)) : gb112 ≠ gb106)); clear BK106; clear HB; have BK106 := n0_; have HB := n1_; have BK112 := n2_; have GW112 := n3_; have GE112 := n4_; have NB106_112 := n5_; have NB112_106 := n6_; clear n0_ n1_ n2_ n3_ n4_ n5_ n6_; clear hb hbox hg; have hnb41 := NB112_106.out; have hnc41 := NB106_112.out; have hcz42_0 : w40.cell? ⟨gb112, 0, none⟩ = some (.bool false) := (blk_cell BK112.out 0).trans rfl; have hcz42_1 : w40.cell? ⟨gb112, 1, none⟩ = some (.int .i64 0) := (blk_cell BK112.out 1).trans rfl; have hcz42_2 : w40.cell? ⟨gb112, 2, none⟩ = some (.int .i64 0) := (blk_cell BK112.out 2).trans rfl; have hcz42_3 : w40.cell? ⟨gb112, 3, none⟩ = some (.int .i64 0) := (blk_cell BK112.out 3).trans rfl; have hfz42_0 := blk_frozen BK112.out 0; have hfz42_1 := blk_frozen BK112.out 1; have hfz42_2 := blk_frozen BK112.out 2; have hfz42_3 := blk_frozen BK112.out 3))
              go_ret
              exact ⟨by first | rfl | (simp [errW_none, errW_some] <;> rfl) | (simp [*, errW_none, errW_some] <;> rfl), by repeat (first | (with_reducible first | exact HB.out | apply below_alloc | apply pw_below_drewN | apply below_drew1 | refine below_set ?_ GE106.out | refine below_set ?_ GE112.out) | exact HB.out)⟩
            ·replace c31 := Bool.eq_false_iff.mpr c31
             subst c31
             have H1 : (if ((rd_T46 l0_1 x60_2).f1) = 0 then ((spec_l1In.f ((rd_T46 l0_1 x60_2).f2) 0 (wrap64 ((l0_1.length : Int) - 1))).bind fun t113 => (if t113 = true then ((spec_l1In.f ((rd_T46 l0_1 x60_2).f3) 0 (wrap64 ((l0_1.length : Int) - 1))).bind fun t114 => (if t114 = true then (if x60_2 < a0_0 then (if ((rd_T46 l0_1 x60_2).f2) ≥ a0_0 then ((spec_lcHas.f k2 l0_3 x60_2).bind fun t115 => (if t115 = true then (spec_GoodYoung.l1 k2 l0_1 (l0_1.length : Int) (wrap64 (x60_2 + 1)) a0_0 l0_1 l0_2 l0_3) else (some false))) else (if ((rd_T46 l0_1 x60_2).f3) ≥ a0_0 then ((spec_lcHas.f k2 l0_3 x60_2).bind fun t116 => (if t116 = true then (spec_GoodYoung.l1 k2 l0_1 (l0_1.length : Int) (wrap64 (x60_2 + 1)) a0_0 l0_1 l0_2 l0_3) else (some false))) else (spec_GoodYoung.l1 k2 l0_1 (l0_1.length : Int) (wrap64 (x60_2 + 1)) a0_0 l0_1 l0_2 l0_3))) else (spec_GoodYoung.l1 k2 l0_1 (l0_1.length : Int) (wrap64 (x60_2 + 1)) a0_0 l0_1 l0_2 l0_3)) else (some false))) else (some false))) else (some false)) = some r := by rw [if_neg (show ¬ (false = true) by decide)] at H; exact H
             clear H
             have H := H1
             clear H1
             by_cases c43 : ((rd_T46 l0_1 x60_2).f1) = 0
             ·rw [if_pos c43] at H
              have c43b0 : (((rd_T46 l0_1 x60_2).f1) == 0) = true := beq_iff_eq.mpr c43
              have c43b1 : (((rd_T46 l0_1 x60_2).f1) != 0) = false := bne_eq_false_iff_eq.mpr c43
              clear c43
              replace H := Option.bind_eq_some_iff.mp H
              obtain ⟨t113, A440, H⟩ := H
              replace H : (if t113 = true then ((spec_l1In.f ((rd_T46 l0_1 x60_2).f3) 0 (wrap64 ((l0_1.length : Int) - 1))).bind fun t114 => (if t114 = true then (if x60_2 < a0_0 then (if ((rd_T46 l0_1 x60_2).f2) ≥ a0_0 then ((spec_lcHas.f k2 l0_3 x60_2).bind fun t115 => (if t115 = true then (spec_GoodYoung.l1 k2 l0_1 (l0_1.length : Int) (wrap64 (x60_2 + 1)) a0_0 l0_1 l0_2 l0_3) else (some false))) else (if ((rd_T46 l0_1 x60_2).f3) ≥ a0_0 then ((spec_lcHas.f k2 l0_3 x60_2).bind fun t116 => (if t116 = true then (spec_GoodYoung.l1 k2 l0_1 (l0_1.length : Int) (wrap64 (x60_2 + 1)) a0_0 l0_1 l0_2 l0_3) else (some false))) else (spec_GoodYoung.l1 k2 l0_1 (l0_1.length : Int) (wrap64 (x60_2 + 1)) a0_0 l0_1 l0_2 l0_3))) else (spec_GoodYoung.l1 k2 l0_1 (l0_1.length : Int) (wrap64 (x60_2 + 1)) a0_0 l0_1 l0_2 l0_3)) else (some false))) else (some false)) = some r := H
              have A44 := Aside0.mk A440
              clear A440
              by_cases c45 : t113 = true
              ·subst c45
               have H1 : ((spec_l1In.f ((rd_T46 l0_1 x60_2).f3) 0 (wrap64 ((l0_1.length : Int) - 1))).bind fun t114 => (if t114 = true then (if x60_2 < a0_0 then (if ((rd_T46 l0_1 x60_2).f2) ≥ a0_0 then ((spec_lcHas.f k2 l0_3 x60_2).bind fun t115 => (if t115 = true then (spec_GoodYoung.l1 k2 l0_1 (l0_1.length : Int) (wrap64 (x60_2 + 1)) a0_0 l0_1 l0_2 l0_3) else (some false))) else (if ((rd_T46 l0_1 x60_2).f3) ≥ a0_0 then ((spec_lcHas.f k2 l0_3 x60_2).bind fun t116 => (if t116 = true then (spec_GoodYoung.l1 k2 l0_1 (l0_1.length : Int) (wrap64 (x60_2 + 1)) a0_0 l0_1 l0_2 l0_3) else (some false))) else (spec_GoodYoung.l1 k2 l0_1 (l0_1.length : Int) (wrap64 (x60_2 + 1)) a0_0 l0_1 l0_2 l0_3))) else (spec_GoodYoung.l1 k2 l0_1 (l0_1.length : Int) (wrap64 (x60_2 + 1)) a0_0 l0_1 l0_2 l0_3)) else (some false))) = some r := by rw [if_pos rfl] at H; exact H
               clear H
               have H := H1
               clear H1
               replace H := Option.bind_eq_some_iff.mp H
               obtain ⟨t114, A460, H⟩ := H
               replace H : (if t114 = true then (if x60_2 < a0_0 then (if ((rd_T46 l0_1 x60_2).f2) ≥ a0_0 then ((spec_lcHas.f k2 l0_3 x60_2).bind fun t115 => (if t115 = true then (spec_GoodYoung.l1 k2 l0_1 (l0_1.length : Int) (wrap64 (x60_2 + 1)) a0_0 l0_1 l0_2 l0_3) else (some false))) else (if ((rd_T46 l0_1 x60_2).f3) ≥ a0_0 then ((spec_lcHas.f k2 l0_3 x60_2).bind fun t116 => (if t116 = true then (spec_GoodYoung.l1 k2 l0_1 (l0_1.length : Int) (wrap64 (x60_2 + 1)) a0_0 l0_1 l0_2 l0_3) else (some false))) else (spec_GoodYoung.l1 k2 l0_1 (l0_1.length : Int) (wrap64 (x60_2 + 1)) a0_0 l0_1 l0_2 l0_3))) else (spec_GoodYoung.l1 k2 l0_1 (l0_1.length : Int) (wrap64 (x60_2 + 1)) a0_0 l0_1 l0_2 l0_3)) else (some false)) = some r := H
               have A46 := Aside0.mk A460
               clear A460
               by_cases c47 : t114 = true
               ·subst c47
                have H1 : (if x60_2 < a0_0 then (if ((rd_T46 l0_1 x60_2).f2) ≥ a0_0 then ((spec_lcHas.f k2 l0_3 x60_2).bind fun t115 => (if t115 = true then (spec_GoodYoung.l1 k2 l0_1 (l0_1.length : Int) (wrap64 (x60_2 + 1)) a0_0 l0_1 l0_2 l0_3) else (some false))) else (if ((rd_T46 l0_1 x60_2).f3) ≥ a0_0 then ((spec_lcHas.f k2 l0_3 x60_2).bind fun t116 => (if t116 = true then (spec_GoodYoung.l1 k2 l0_1 (l0_1.length : Int) (wrap64 (x60_2 + 1)) a0_0 l0_1 l0_2 l0_3) else (some false))) else (spec_GoodYoung.l1 k2 l0_1 (l0_1.length : Int) (wrap64 (x60_2 + 1)) a0_0 l0_1 l0_2 l0_3))) else (spec_GoodYoung.l1 k2 l0_1 (l0_1.length : Int) (wrap64 (x60_2 + 1)) a0_0 l0_1 l0_2 l0_3)) = some r := by rw [if_pos rfl] at H; exact H
                clear H
                have H := H1
                clear H1
                by_cases c48 : x60_2 < a0_0
                ·rw [if_pos c48] at H
                 have c48b0 : decide (x60_2 < a0_0) = true := decide_eq_true c48
                 clear c48
                 by_cases c49 : ((rd_T46 l0_1 x60_2).f2) ≥ a0_0
                 ·rw [if_pos c49] at H
                  have c49b0 : decide (a0_0 ≤ ((rd_T46 l0_1 x60_2).f2)) = true := decide_eq_true c49
                  clear c49
                  replace H := Option.bind_eq_some_iff.mp H
                  obtain ⟨t115, A500, H⟩ := H
                  replace H : (if t115 = true then (spec_GoodYoung.l1 k2 l0_1 (l0_1.length : Int) (wrap64 (x60_2 + 1)) a0_0 l0_1 l0_2 l0_3) else (some false)) = some r := H
                  have A50 := Aside0.mk A500
                  clear A500
                  by_cases c51 : t115 = true
                  ·subst c51
                   have H1 : (spec_GoodYoung.l1 k2 l0_1 (l0_1.length : Int) (wrap64 (x60_2 + 1)) a0_0 l0_1 l0_2 l0_3) = some r := by rw [if_pos rfl] at H; exact H
                   clear H
                   have H := H1
                   clear H1
                   have H' := Aside0.mk H
                   clear H
                   have p111 : 0 ≤ (x60_2 : Int) := of_decide_eq_true (by first | (with_reducible assumption) | assumption)
                   have q111 : x60_2 < (l0_1.length : Int) := of_decide_eq_true (by first | (with_reducible assumption) | assumption)
                   obtain ⟨ad111, e111, hx111_0, hx111_1, hx111_2, hx111_3⟩ := at_T46 HR0_1.out x60_2 p111 q111
                   (try rw [← Nbq30.out] at hx111_0)
                   cases e111
                   replace hx111_0 := (HB.out.cell (World.block_lt_of_cell? w _ hx111_0)).trans hx111_0
                   replace hx111_1 := (HB.out.cell (World.block_lt_of_cell? w _ hx111_1)).trans hx111_1
                   replace hx111_2 := (HB.out.cell (World.block_lt_of_cell? w _ hx111_2)).trans hx111_2
                   replace hx111_3 := (HB.out.cell (World.block_lt_of_cell? w _ hx111_3)).trans hx111_3
                   replace p111 := eq_true p111
                   replace q111 := eq_true q111
                   go_wp2_with (first | ((with_reducible refine gate_dst (N := 6) rfl ?_); (try (refine gate_guard (by rfl) ?_; dsimp only)); refine box_event ?hg (N := 6) ?hd (cs := #[.bool false, .int .i64 0, .int .i64 0, .int .i64 0]) (t := 46) ?hr ?_; (case hd => rfl); (case hg => rfl); (case hr => first | (go_simp; done) | (go_simp; rfl)); intro gb112 hg w52 hbox hb; have n0_ := Aside0.mk (blk_below (g := gb106) (o := .cells #[.int .i64 a0_0, .slice (some ad111) l0_1.length c0_1, .slice A0_2 l0_2.length c0_2, .slice A0_3 l0_3.length c0_3] 30 (0, 0)) (by (with_reducible repeat (first | refine blk_drewN ?_ _ | refine blk_drew ?_ | refine blk_alloc ?_ _)); exact BK106.out) hb); have n1_ := Aside0.mk (below_step (by repeat (first | (with_reducible first | exact HB.out | apply below_alloc | apply pw_below_drewN | apply below_drew1 | refine below_set ?_ GE106.out) | exact HB.out)) hb); have n2_ := Aside0.mk (hbox); have n3_ := Aside0.mk ((by rw [hg]; exact (below_size (by repeat (first | (with_reducible first | exact HB.out | apply below_alloc | apply pw_below_drewN | apply below_drew1 | refine below_set ?_ GE106.out) | exact HB.out))) : w.heap.size ≤ gb112)); have n4_ := Aside0.mk ((by rw [hg]; exact (below_size (by repeat (first | (with_reducible first | exact HB.out | apply below_alloc | apply pw_below_drewN | apply below_drew1 | refine below_set ?_ GE106.out) | exact HB.out))) : w.heap.size ≤ gb112)); have n5_ := Aside0.mk ((by rw [hg]; exact Nat.ne_of_lt (blk_lt (g := gb106) (o := .cells #[.int .i64 a0_0, .slice (some ad111) l0_1.length c0_1, .slice A0_2 l0_2.length c0_2, .slice A0_3 l0_3.length c0_3] 30 (0, 0)) (by (with_reducible repeat (first | refine blk_drewN ?_ _ | refine blk_drew ?_ | refine blk_alloc ?_ _)); exact BK106.out)) : gb106 ≠ gb112)); have n6_ := Aside0.mk ((by rw [hg]; exact Nat.ne_of_gt (blk_lt (g := gb106) (o := .cells #[.int .i64 a0_0, .slice (some ad111) l0_1.length c0_1, .slice A0_2 l0_2.length c0_2, .slice A0_3 l0_3.length c0_3] 30 (0, 0)) (by (with_reducible repeat (first | refine blk_drewN ?_ _ | refine blk_drew ?_ | refine blk_alloc ?_ _)); exact BK106.out)) : gb112 ≠ gb106)); clear BK106; clear HB; have BK106 := n0_; have HB := n1_; have BK112 := n2_; have GW112 := n3_; have GE112 := n4_; have NB106_112 := n5_; have NB112_106 := n6_; clear n0_ n1_ n2_ n3_ n4_ n5_ n6_; clear hb hbox hg; have hnb53 := NB112_106.out; have hnc53 := NB106_112.out; have hcz54_0 : w52.cell? ⟨gb112, 0, none⟩ = some (.bool false) := (blk_cell BK112.out 0).trans rfl; have hcz54_1 : w52.cell? ⟨gb112, 1, none⟩ = some (.int .i64 0) := (blk_cell BK112.out 1).trans rfl; have hcz54_2 : w52.cell? ⟨gb112, 2, none⟩ = some (.int .i64 0) := (blk_cell BK112.out 2).trans rfl; have hcz54_3 : w52.cell? ⟨gb112, 3, none⟩ = some (.int .i64 0) := (blk_cell BK112.out 3).trans rfl; have hfz54_0 := blk_frozen BK112.out 0; have hfz54_1 := blk_frozen BK112.out 1; have hfz54_2 := blk_frozen BK112.out 2; have hfz54_3 := blk_frozen BK112.out 3; have hcz55_0 : w52.cell? ⟨gb106, 0, none⟩ = some (.int .i64 a0_0) := (blk_cell BK106.out 0).trans rfl; have hcz55_1 : w52.cell? ⟨gb106, 1, none⟩ = some (.slice (some ad111) l0_1.length c0_1) := (blk_cell BK106.out 1).trans rfl; have hcz55_2 : w52.cell? ⟨gb106, 2, none⟩ = some (.slice A0_2 l0_2.length c0_2) := (blk_cell BK106.out 2).trans rfl; have hcz55_3 : w52.cell? ⟨gb106, 3, none⟩ = some (.slice A0_3 l0_3.length c0_3) := (blk_cell BK106.out 3).trans rfl; have hfz55_0 := blk_frozen BK106.out 0; have hfz55_1 := blk_frozen BK106.out 1; have hfz55_2 := blk_frozen BK106.out 2; have hfz55_3 := blk_frozen BK106.out 3) | (go_at_call 28; (with_reducible refine (spec_l1In.calls ((rd_T46 l0_1 x60_2).f2) 0 (wrap64 ((l0_1.length : Int) - 1)) true _ A44.out).mono ?_); rintro e w' ⟨rfl, ⟨nd, rfl⟩⟩) | (go_at_call 28; (with_reducible refine (spec_l1In.calls ((rd_T46 l0_1 x60_2).f3) 0 (wrap64 ((l0_1.length : Int) - 1)) true _ A46.out).mono ?_); rintro e w' ⟨rfl, ⟨nd, rfl⟩⟩) | (go_at_call 29; (with_reducible refine (spec_lcHas.calls k2 _ _ l0_3 x60_2 true _ ?side1 ?side2 A50.out).mono ?_); (case side1 => exact Kd.C_below HR0_3.out (by repeat (first | (with_reducible first | exact HB.out | apply below_alloc | apply pw_below_drewN | apply below_drew1 | refine below_set ?_ GE106.out | refine below_set ?_ GE112.out) | exact HB.out))); (case side2 => exact HC0_3.out); rintro e w' ⟨rfl, ⟨nd, rfl⟩⟩))
                   go_roundg k2
                   case measure => have := HK1.out; have := HK2.out; omega
                   case rel => exact ⟨(wrap64 (x60_2 + 1)), (by first | rfl | (simp; done) | (simp [*]; done)), H', ⟨by have := HK1.out; have := HK2.out; omega⟩, ⟨by (with_reducible repeat (first | refine blk_drewN ?_ _ | refine blk_drew ?_ | refine blk_alloc ?_ _)); refine blk_far ?_ NB106_112.out _; (with_reducible repeat (first | refine blk_drewN ?_ _ | refine blk_drew ?_ | refine blk_alloc ?_ _)); refine blk_far ?_ NB106_112.out _; (with_reducible repeat (first | refine blk_drewN ?_ _ | refine blk_drew ?_ | refine blk_alloc ?_ _)); refine blk_far ?_ NB106_112.out _; (with_reducible repeat (first | refine blk_drewN ?_ _ | refine blk_drew ?_ | refine blk_alloc ?_ _)); refine blk_far ?_ NB106_112.out _; (with_reducible repeat (first | refine blk_drewN ?_ _ | refine blk_drew ?_ | refine blk_alloc ?_ _)); exact BK106.out⟩, ⟨by repeat (first | (with_reducible first | exact HB.out | apply below_alloc | apply pw_below_drewN | apply below_drew1 | refine below_set ?_ GE106.out | refine below_set ?_ GE112.out) | exact HB.out)⟩⟩
                  ·replace c51 := Bool.eq_false_iff.mpr c51
                   subst c51
                   have H1 : (some false) = some r := by rw [if_neg (show ¬ (false = true) by decide)] at H; exact H
                   clear H
                   have H := H1
                   clear H1
                   obtain rfl := Option.some.inj H
                   have p111 : 0 ≤ (x60_2 : Int) := of_decide_eq_true (by first | (with_reducible assumption) | assumption)
                   have q111 : x60_2 < (l0_1.length : Int) := of_decide_eq_true (by first | (with_reducible assumption) | assumption)
                   obtain ⟨ad111, e111, hx111_0, hx111_1, hx111_2, hx111_3⟩ := at_T46 HR0_1.out x60_2 p111 q111
                   (try rw [← Nbq30.out] at hx111_0)
                   cases e111
                   replace hx111_0 := (HB.out.cell (World.block_lt_of_cell? w _ hx111_0)).trans hx111_0
                   replace hx111_1 := (HB.out.cell (World.block_lt_of_cell? w _ hx111_1)).trans hx111_1
                   replace hx111_2 := (HB.out.cell (World.block_lt_of_cell? w _ hx111_2)).trans hx111_2
                   replace hx111_3 := (HB.out.cell (World.block_lt_of_cell? w _ hx111_3)).trans hx111_3
                   replace p111 := eq_true p111
                   replace q111 := eq_true q111
                   go_wp2_with (first | ((with_reducible refine gate_dst (N := 6) rfl ?_); (try (refine gate_guard (by rfl) ?_; dsimp only)); refine box_event ?hg (N := 6) ?hd (cs := #[.bool false, .int .i64 0, .int .i64 0, .int .i64 0]) (t := 46) ?hr ?_; (case hd => rfl); (case hg => rfl); (case hr => first | (go_simp; done) | (go_simp; rfl)); intro gb112 hg w56 hbox hb; have n0_ := Aside0.mk (blk_below (g := gb106) (o := .cells #[.int .i64 a0_0, .slice (some ad111) l0_1.length c0_1, .slice A0_2 l0_2.length c0_2, .slice A0_3 l0_3.length c0_3] 30 (0, 0)) (by (with_reducible repeat (first | refine blk_drewN ?_ _ | refine blk_drew ?_ | refine blk_alloc ?_ _)); exact BK106.out) hb); have n1_ := Aside0.mk (below_step (by repeat (first | (with_reducible first | exact HB.out | apply below_alloc | apply pw_below_drewN | apply below_drew1 | refine below_set ?_ GE106.out) | exact HB.out)) hb); have n2_ := Aside0.mk (hbox); have n3_ := Aside0.mk ((by rw [hg]; exact (below_size (by repeat (first | (with_reducible first | exact HB.out | apply below_alloc | apply pw_below_drewN | apply below_drew1 | refine below_set ?_ GE106.out) | exact HB.out))) : w.heap.size ≤ gb112)); have n4_ := Aside0.mk ((by rw [hg]; exact (below_size (by repeat (first | (with_reducible first | exact HB.out | apply below_alloc | apply pw_below_drewN | apply below_drew1 | refine below_set ?_ GE106.out) | exact HB.out))) : w.heap.size ≤ gb112)); have n5_ := Aside0.mk ((by rw [hg]; exact Nat.ne_of_lt (blk_lt (g := gb106) (o := .cells #[.int .i64 a0_0, .slice (some ad111) l0_1.length c0_1, .slice A0_2 l0_2.length c0_2, .slice A0_3 l0_3.length c0_3] 30 (0, 0)) (by (with_reducible repeat (first | refine blk_drewN ?_ _ | refine blk_drew ?_ | refine blk_alloc ?_ _)); exact BK106.out)) : gb106 ≠ gb112)); have n6_ := Aside0.mk ((by rw [hg]; exact Nat.ne_of_gt (blk_lt (g := gb106) (o := .cells #[.int .i64 a0_0, .slice (some ad111) l0_1.length c0_1, .slice A0_2 l0_2.length c0_2, .slice A0_3 l0_3.length c0_3] 30 (0, 0)) (by (with_reducible repeat (first | refine blk_drewN ?_ _ | refine blk_drew ?_ | refine blk_alloc ?_ _)); exact BK106.out)) : gb112 ≠ gb106)); clear BK106; clear HB; have BK106 := n0_; have HB := n1_; have BK112 := n2_; have GW112 := n3_; have GE112 := n4_; have NB106_112 := n5_; have NB112_106 := n6_; clear n0_ n1_ n2_ n3_ n4_ n5_ n6_; clear hb hbox hg; have hnb57 := NB112_106.out; have hnc57 := NB106_112.out; have hcz58_0 : w56.cell? ⟨gb112, 0, none⟩ = some (.bool false) := (blk_cell BK112.out 0).trans rfl; have hcz58_1 : w56.cell? ⟨gb112, 1, none⟩ = some (.int .i64 0) := (blk_cell BK112.out 1).trans rfl; have hcz58_2 : w56.cell? ⟨gb112, 2, none⟩ = some (.int .i64 0) := (blk_cell BK112.out 2).trans rfl; have hcz58_3 : w56.cell? ⟨gb112, 3, none⟩ = some (.int .i64 0) := (blk_cell BK112.out 3).trans rfl; have hfz58_0 := blk_frozen BK112.out 0; have hfz58_1 := blk_frozen BK112.out 1; have hfz58_2 := blk_frozen BK112.out 2; have hfz58_3 := blk_frozen BK112.out 3; have hcz59_0 : w56.cell? ⟨gb106, 0, none⟩ = some (.int .i64 a0_0) := (blk_cell BK106.out 0).trans rfl; have hcz59_1 : w56.cell? ⟨gb106, 1, none⟩ = some (.slice (some ad111) l0_1.length c0_1) := (blk_cell BK106.out 1).trans rfl; have hcz59_2 : w56.cell? ⟨gb106, 2, none⟩ = some (.slice A0_2 l0_2.length c0_2) := (blk_cell BK106.out 2).trans rfl; have hcz59_3 : w56.cell? ⟨gb106, 3, none⟩ = some (.slice A0_3 l0_3.length c0_3) := (blk_cell BK106.out 3).trans rfl; have hfz59_0 := blk_frozen BK106.out 0; have hfz59_1 := blk_frozen BK106.out 1; have hfz59_2 := blk_frozen BK106.out 2; have hfz59_3 := blk_frozen BK106.out 3) | (go_at_call 28; (with_reducible refine (spec_l1In.calls ((rd_T46 l0_1 x60_2).f2) 0 (wrap64 ((l0_1.length : Int) - 1)) true _ A44.out).mono ?_); rintro e w' ⟨rfl, ⟨nd, rfl⟩⟩) | (go_at_call 28; (with_reducible refine (spec_l1In.calls ((rd_T46 l0_1 x60_2).f3) 0 (wrap64 ((l0_1.length : Int) - 1)) true _ A46.out).mono ?_); rintro e w' ⟨rfl, ⟨nd, rfl⟩⟩) | (go_at_call 29; (with_reducible refine (spec_lcHas.calls k2 _ _ l0_3 x60_2 false _ ?side1 ?side2 A50.out).mono ?_); (case side1 => exact Kd.C_below HR0_3.out (by repeat (first | (with_reducible first | exact HB.out | apply below_alloc | apply pw_below_drewN | apply below_drew1 | refine below_set ?_ GE106.out | refine below_set ?_ GE112.out) | exact HB.out))); (case side2 => exact HC0_3.out); rintro e w' ⟨rfl, ⟨nd, rfl⟩⟩))
                   go_ret
                   exact ⟨by first | rfl | (simp [errW_none, errW_some] <;> rfl) | (simp [*, errW_none, errW_some] <;> rfl), by repeat (first | (with_reducible first | exact HB.out | apply below_alloc | apply pw_below_drewN | apply below_drew1 | refine below_set ?_ GE106.out | refine below_set ?_ GE112.out) | exact HB.out)⟩
                 ·rw [if_neg c49] at H
                  have c49b0 : decide (a0_0 ≤ ((rd_T46 l0_1 x60_2).f2)) = false := decide_eq_false c49
                  clear c49
                  by_cases c60 : ((rd_T46 l0_1 x60_2).f3) ≥ a0_0
                  ·rw [if_pos c60] at H
                   have c60b0 : decide (a0_0 ≤ ((rd_T46 l0_1 x60_2).f3)) = true := decide_eq_true c60
                   clear c60
                   replace H := Option.bind_eq_some_iff.mp H
                   obtain ⟨t116, A610, H⟩ := H
                   replace H : (if t116 = true then (spec_GoodYoung.l1 k2 l0_1 (l0_1.length : Int) (wrap64 (x60_2 + 1)) a0_0 l0_1 l0_2 l0_3) else (some false)) = some r := H
                   have A61 := Aside0.mk A610
                   clear A610
                   by_cases c62 : t116 = true
                   ·subst c62
                    have H1 : (spec_GoodYoung.l1 k2 l0_1 (l0_1.length : Int) (wrap64 (x60_2 + 1)) a0_0 l0_1 l0_2 l0_3) = some r := by rw [if_pos rfl] at H; exact H
                    clear H
                    have H := H1
                    clear H1
                    have H' := Aside0.mk H
                    clear H
                    have p111 : 0 ≤ (x60_2 : Int) := of_decide_eq_true (by first | (with_reducible assumption) | assumption)
                    have q111 : x60_2 < (l0_1.length : Int) := of_decide_eq_true (by first | (with_reducible assumption) | assumption)
                    obtain ⟨ad111, e111, hx111_0, hx111_1, hx111_2, hx111_3⟩ := at_T46 HR0_1.out x60_2 p111 q111
                    (try rw [← Nbq30.out] at hx111_0)
                    cases e111
                    replace hx111_0 := (HB.out.cell (World.block_lt_of_cell? w _ hx111_0)).trans hx111_0
                    replace hx111_1 := (HB.out.cell (World.block_lt_of_cell? w _ hx111_1)).trans hx111_1
                    replace hx111_2 := (HB.out.cell (World.block_lt_of_cell? w _ hx111_2)).trans hx111_2
                    replace hx111_3 := (HB.out.cell (World.block_lt_of_cell? w _ hx111_3)).trans hx111_3
                    replace p111 := eq_true p111
                    replace q111 := eq_true q111
                    go_wp2_with (first | ((with_reducible refine gate_dst (N := 6) rfl ?_); (try (refine gate_guard (by rfl) ?_; dsimp only)); refine box_event ?hg (N := 6) ?hd (cs := #[.bool false, .int .i64 0, .int .i64 0, .int .i64 0]) (t := 46) ?hr ?_; (case hd => rfl); (case hg => rfl); (case hr => first | (go_simp; done) | (go_simp; rfl)); intro gb112 hg w63 hbox hb; have n0_ := Aside0.mk (blk_below (g := gb106) (o := .cells #[.int .i64 a0_0, .slice (some ad111) l0_1.length c0_1, .slice A0_2 l0_2.length c0_2, .slice A0_3 l0_3.length c0_3] 30 (0, 0)) (by (with_reducible repeat (first | refine blk_drewN ?_ _ | refine blk_drew ?_ | refine blk_alloc ?_ _)); exact BK106.out) hb); have n1_ := Aside0.mk (below_step (by repeat (first | (with_reducible first | exact HB.out | apply below_alloc | apply pw_below_drewN | apply below_drew1 | refine below_set ?_ GE106.out) | exact HB.out)) hb); have n2_ := Aside0.mk (hbox); have n3_ := Aside0.mk ((by rw [hg]; exact (below_size (by repeat (first | (with_reducible first | exact HB.out | apply below_alloc | apply pw_below_drewN | apply below_drew1 | refine below_set ?_ GE106.out) | exact HB.out))) : w.heap.size ≤ gb112)); have n4_ := Aside0.mk ((by rw [hg]; exact (below_size (by repeat (first | (with_reducible first | exact HB.out | apply below_alloc | apply pw_below_drewN | apply below_drew1 | refine below_set ?_ GE106.out) | exact HB.out))) : w.heap.size ≤ gb112)); have n5_ := Aside0.mk ((by rw [hg]; exact Nat.ne_of_lt (blk_lt (g := gb106) (o := .cells #[.int .i64 a0_0, .slice (some ad111) l0_1.length c0_1, .slice A0_2 l0_2.length c0_2, .slice A0_3 l0_3.length c0_3] 30 (0, 0)) (by (with_reducible repeat (first | refine blk_drewN ?_ _ | refine blk_drew ?_ | refine blk_alloc ?_ _)); exact BK106.out)) : gb106 ≠ gb112)); have n6_ := Aside0.mk ((by rw [hg]; exact Nat.ne_of_gt (blk_lt (g := gb106) (o := .cells #[.int .i64 a0_0, .slice (some ad111) l0_1.length c0_1, .slice A0_2 l0_2.length c0_2, .slice A0_3 l0_3.length c0_3] 30 (0, 0)) (by (with_reducible repeat (first | refine blk_drewN ?_ _ | refine blk_drew ?_ | refine blk_alloc ?_ _)); exact BK106.out)) : gb112 ≠ gb106)); clear BK106; clear HB; have BK106 := n0_; have HB := n1_; have BK112 := n2_; have GW112 := n3_; have GE112 := n4_; have NB106_112 := n5_; have NB112_106 := n6_; clear n0_ n1_ n2_ n3_ n4_ n5_ n6_; clear hb hbox hg; have hnb64 := NB112_106.out; have hnc64 := NB106_112.out; have hcz65_0 : w63.cell? ⟨gb112, 0, none⟩ = some (.bool false) := (blk_cell BK112.out 0).trans rfl; have hcz65_1 : w63.cell? ⟨gb112, 1, none⟩ = some (.int .i64 0) := (blk_cell BK112.out 1).trans rfl; have hcz65_2 : w63.cell? ⟨gb112, 2, none⟩ = some (.int .i64 0) := (blk_cell BK112.out 2).trans rfl; have hcz65_3 : w63.cell? ⟨gb112, 3, none⟩ = some (.int .i64 0) := (blk_cell BK112.out 3).trans rfl; have hfz65_0 := blk_frozen BK112.out 0; have hfz65_1 := blk_frozen BK112.out 1; have hfz65_2 := blk_frozen BK112.out 2; have hfz65_3 := blk_frozen BK112.out 3; have hcz66_0 : w63.cell? ⟨gb106, 0, none⟩ = some (.int .i64 a0_0) := (blk_cell BK106.out 0).trans rfl; have hcz66_1 : w63.cell? ⟨gb106, 1, none⟩ = some (.slice (some ad111) l0_1.length c0_1) := (blk_cell BK106.out 1).trans rfl; have hcz66_2 : w63.cell? ⟨gb106, 2, none⟩ = some (.slice A0_2 l0_2.length c0_2) := (blk_cell BK106.out 2).trans rfl; have hcz66_3 : w63.cell? ⟨gb106, 3, none⟩ = some (.slice A0_3 l0_3.length c0_3) := (blk_cell BK106.out 3).trans rfl; have hfz66_0 := blk_frozen BK106.out 0; have hfz66_1 := blk_frozen BK106.out 1; have hfz66_2 := blk_frozen BK106.out 2; have hfz66_3 := blk_frozen BK106.out 3) | (go_at_call 28; (with_reducible refine (spec_l1In.calls ((rd_T46 l0_1 x60_2).f2) 0 (wrap64 ((l0_1.length : Int) - 1)) true _ A44.out).mono ?_); rintro e w' ⟨rfl, ⟨nd, rfl⟩⟩) | (go_at_call 28; (with_reducible refine (spec_l1In.calls ((rd_T46 l0_1 x60_2).f3) 0 (wrap64 ((l0_1.length : Int) - 1)) true _ A46.out).mono ?_); rintro e w' ⟨rfl, ⟨nd, rfl⟩⟩) | (go_at_call 29; (with_reducible refine (spec_lcHas.calls k2 _ _ l0_3 x60_2 true _ ?side1 ?side2 A61.out).mono ?_); (case side1 => exact Kd.C_below HR0_3.out (by repeat (first | (with_reducible first | exact HB.out | apply below_alloc | apply pw_below_drewN | apply below_drew1 | refine below_set ?_ GE106.out | refine below_set ?_ GE112.out) | exact HB.out))); (case side2 => exact HC0_3.out); rintro e w' ⟨rfl, ⟨nd, rfl⟩⟩))
                    go_roundg k2
                    case measure => have := HK1.out; have := HK2.out; omega
                    case rel => exact ⟨(wrap64 (x60_2 + 1)), (by first | rfl | (simp; done) | (simp [*]; done)), H', ⟨by have := HK1.out; have := HK2.out; omega⟩, ⟨by (with_reducible repeat (first | refine blk_drewN ?_ _ | refine blk_drew ?_ | refine blk_alloc ?_ _)); refine blk_far ?_ NB106_112.out _; (with_reducible repeat (first | refine blk_drewN ?_ _ | refine blk_drew ?_ | refine blk_alloc ?_ _)); refine blk_far ?_ NB106_112.out _; (with_reducible repeat (first | refine blk_drewN ?_ _ | refine blk_drew ?_ | refine blk_alloc ?_ _)); refine blk_far ?_ NB106_112.out _; (with_reducible repeat (first | refine blk_drewN ?_ _ | refine blk_drew ?_ | refine blk_alloc ?_ _)); refine blk_far ?_ NB106_112.out _; (with_reducible repeat (first | refine blk_drewN ?_ _ | refine blk_drew ?_ | refine blk_alloc ?_ _)); exact BK106.out⟩, ⟨by repeat (first | (with_reducible first | exact HB.out | apply below_alloc | apply pw_below_drewN | apply below_drew1 | refine below_set ?_ GE106.out | refine below_set ?_ GE112.out) | exact HB.out)⟩⟩
                   ·replace c62 := Bool.eq_false_iff.mpr c62
                    subst c62
                    have H1 : (some false) = some r := by rw [if_neg (show ¬ (false = true) by decide)] at H; exact H
                    clear H
                    have H := H1
                    clear H1
                    obtain rfl := Option.some.inj H
                    have p111 : 0 ≤ (x60_2 : Int) := of_decide_eq_true (by first | (with_reducible assumption) | assumption)
                    have q111 : x60_2 < (l0_1.length : Int) := of_decide_eq_true (by first | (with_reducible assumption) | assumption)
                    obtain ⟨ad111, e111, hx111_0, hx111_1, hx111_2, hx111_3⟩ := at_T46 HR0_1.out x60_2 p111 q111
                    (try rw [← Nbq30.out] at hx111_0)
                    cases e111
                    replace hx111_0 := (HB.out.cell (World.block_lt_of_cell? w _ hx111_0)).trans hx111_0
                    replace hx111_1 := (HB.out.cell (World.block_lt_of_cell? w _ hx111_1)).trans hx111_1
                    replace hx111_2 := (HB.out.cell (World.block_lt_of_cell? w _ hx111_2)).trans hx111_2
                    replace hx111_3 := (HB.out.cell (World.block_lt_of_cell? w _ hx111_3)).trans hx111_3
                    replace p111 := eq_true p111
                    replace q111 := eq_true q111
                    go_wp2_with (first | ((with_reducible refine gate_dst (N := 6) rfl ?_); (try (refine gate_guard (by rfl) ?_; dsimp only)); refine box_event ?hg (N := 6) ?hd (cs := #[.bool false, .int .i64 0, .int .i64 0, .int .i64 0]) (t := 46) ?hr ?_; (case hd => rfl); (case hg => rfl); (case hr => first | (go_simp; done) | (go_simp; rfl)); intro gb112 hg w67 hbox hb; have n0_ := Aside0.mk (blk_below (g := gb106) (o := .cells #[.int .i64 a0_0, .slice (some ad111) l0_1.length c0_1, .slice A0_2 l0_2.length c0_2, .slice A0_3 l0_3.length c0_3] 30 (0, 0)) (by (with_reducible repeat (first | refine blk_drewN ?_ _ | refine blk_drew ?_ | refine blk_alloc ?_ _)); exact BK106.out) hb); have n1_ := Aside0.mk (below_step (by repeat (first | (with_reducible first | exact HB.out | apply below_alloc | apply pw_below_drewN | apply below_drew1 | refine below_set ?_ GE106.out) | exact HB.out)) hb); have n2_ := Aside0.mk (hbox); have n3_ := Aside0.mk ((by rw [hg]; exact (below_size (by repeat (first | (with_reducible first | exact HB.out | apply below_alloc | apply pw_below_drewN | apply below_drew1 | refine below_set ?_ GE106.out) | exact HB.out))) : w.heap.size ≤ gb112)); have n4_ := Aside0.mk ((by rw [hg]; exact (below_size (by repeat (first | (with_reducible first | exact HB.out | apply below_alloc | apply pw_below_drewN | apply below_drew1 | refine below_set ?_ GE106.out) | exact HB.out))) : w.heap.size ≤ gb112)); have n5_ := Aside0.mk ((by rw [hg]; exact Nat.ne_of_lt (blk_lt (g := gb106) (o := .cells #[.int .i64 a0_0, .slice (some ad111) l0_1.length c0_1, .slice A0_2 l0_2.length c0_2, .slice A0_3 l0_3.length c0_3] 30 (0, 0)) (by (with_reducible repeat (first | refine blk_drewN ?_ _ | refine blk_drew ?_ | refine blk_alloc ?_ _)); exact BK106.out)) : gb106 ≠ gb112)); have n6_ := Aside0.mk ((by rw [hg]; exact Nat.ne_of_gt (blk_lt (g := gb106) (o := .cells #[.int .i64 a0_0, .slice (some ad111) l0_1.length c0_1, .slice A0_2 l0_2.length c0_2, .slice A0_3 l0_3.length c0_3] 30 (0, 0)) (by (with_reducible repeat (first | refine blk_drewN ?_ _ | refine blk_drew ?_ | refine blk_alloc ?_ _)); exact BK106.out)) : gb112 ≠ gb106)); clear BK106; clear HB; have BK106 := n0_; have HB := n1_; have BK112 := n2_; have GW112 := n3_; have GE112 := n4_; have NB106_112 := n5_; have NB112_106 := n6_; clear n0_ n1_ n2_ n3_ n4_ n5_ n6_; clear hb hbox hg; have hnb68 := NB112_106.out; have hnc68 := NB106_112.out; have hcz69_0 : w67.cell? ⟨gb112, 0, none⟩ = some (.bool false) := (blk_cell BK112.out 0).trans rfl; have hcz69_1 : w67.cell? ⟨gb112, 1, none⟩ = some (.int .i64 0) := (blk_cell BK112.out 1).trans rfl; have hcz69_2 : w67.cell? ⟨gb112, 2, none⟩ = some (.int .i64 0) := (blk_cell BK112.out 2).trans rfl; have hcz69_3 : w67.cell? ⟨gb112, 3, none⟩ = some (.int .i64 0) := (blk_cell BK112.out 3).trans rfl; have hfz69_0 := blk_frozen BK112.out 0; have hfz69_1 := blk_frozen BK112.out 1; have hfz69_2 := blk_frozen BK112.out 2; have hfz69_3 := blk_frozen BK112.out 3; have hcz70_0 : w67.cell? ⟨gb106, 0, none⟩ = some (.int .i64 a0_0) := (blk_cell BK106.out 0).trans rfl; have hcz70_1 : w67.cell? ⟨gb106, 1, none⟩ = some (.slice (some ad111) l0_1.length c0_1) := (blk_cell BK106.out 1).trans rfl; have hcz70_2 : w67.cell? ⟨gb106, 2, none⟩ = some (.slice A0_2 l0_2.length c0_2) := (blk_cell BK106.out 2).trans rfl; have hcz70_3 : w67.cell? ⟨gb106, 3, none⟩ = some (.slice A0_3 l0_3.length c0_3) := (blk_cell BK106.out 3).trans rfl; have hfz70_0 := blk_frozen BK106.out 0; have hfz70_1 := blk_frozen BK106.out 1; have hfz70_2 := blk_frozen BK106.out 2; have hfz70_3 := blk_frozen BK106.out 3) | (go_at_call 28; (with_reducible refine (spec_l1In.calls ((rd_T46 l0_1 x60_2).f2) 0 (wrap64 ((l0_1.length : Int) - 1)) true _ A44.out).mono ?_); rintro e w' ⟨rfl, ⟨nd, rfl⟩⟩) | (go_at_call 28; (with_reducible refine (spec_l1In.calls ((rd_T46 l0_1 x60_2).f3) 0 (wrap64 ((l0_1.length : Int) - 1)) true _ A46.out).mono ?_); rintro e w' ⟨rfl, ⟨nd, rfl⟩⟩) | (go_at_call 29; (with_reducible refine (spec_lcHas.calls k2 _ _ l0_3 x60_2 false _ ?side1 ?side2 A61.out).mono ?_); (case side1 => exact Kd.C_below HR0_3.out (by repeat (first | (with_reducible first | exact HB.out | apply below_alloc | apply pw_below_drewN | apply below_drew1 | refine below_set ?_ GE106.out | refine below_set ?_ GE112.out) | exact HB.out))); (case side2 => exact HC0_3.out); rintro e w' ⟨rfl, ⟨nd, rfl⟩⟩))
                    go_ret
                    exact ⟨by first | rfl | (simp [errW_none, errW_some] <;> rfl) | (simp [*, errW_none, errW_some] <;> rfl), by repeat (first | (with_reducible first | exact HB.out | apply below_alloc | apply pw_below_drewN | apply below_drew1 | refine below_set ?_ GE106.out | refine below_set ?_ GE112.out) | exact HB.out)⟩
                  ·rw [if_neg c60] at H
                   have c60b0 : decide (a0_0 ≤ ((rd_T46 l0_1 x60_2).f3)) = false := decide_eq_false c60
                   clear c60
                   have H' := Aside0.mk H
                   clear H
                   have p111 : 0 ≤ (x60_2 : Int) := of_decide_eq_true (by first | (with_reducible assumption) | assumption)
                   have q111 : x60_2 < (l0_1.length : Int) := of_decide_eq_true (by first | (with_reducible assumption) | assumption)
                   obtain ⟨ad111, e111, hx111_0, hx111_1, hx111_2, hx111_3⟩ := at_T46 HR0_1.out x60_2 p111 q111
                   (try rw [← Nbq30.out] at hx111_0)
                   cases e111
                   replace hx111_0 := (HB.out.cell (World.block_lt_of_cell? w _ hx111_0)).trans hx111_0
                   replace hx111_1 := (HB.out.cell (World.block_lt_of_cell? w _ hx111_1)).trans hx111_1
                   replace hx111_2 := (HB.out.cell (World.block_lt_of_cell? w _ hx111_2)).trans hx111_2
                   replace hx111_3 := (HB.out.cell (World.block_lt_of_cell? w _ hx111_3)).trans hx111_3
                   replace p111 := eq_true p111
                   replace q111 := eq_true q111
                   go_wp2_with (first | ((with_reducible refine gate_dst (N := 6) rfl ?_); (try (refine gate_guard (by rfl) ?_; dsimp only)); refine box_event ?hg (N := 6) ?hd (cs := #[.bool false, .int .i64 0, .int .i64 0, .int .i64 0]) (t := 46) ?hr ?_; (case hd => rfl); (case hg => rfl); (case hr => first | (go_simp; done) | (go_simp; rfl)); intro gb112 hg w71 hbox hb; have n0_ := Aside0.mk (blk_below (g := gb106) (o := .cells #[.int .i64 a0_0, .slice (some ad111) l0_1.length c0_1, .slice A0_2 l0_2.length c0_2, .slice A0_3 l0_3.length c0_3] 30 (0, 0)) (by (with_reducible repeat (first | refine blk_drewN ?_ _ | refine blk_drew ?_ | refine blk_alloc ?_ _)); exact BK106.out) hb); have n1_ := Aside0.mk (below_step (by repeat (first | (with_reducible first | exact HB.out | apply below_alloc | apply pw_below_drewN | apply below_drew1 | refine below_set ?_ GE106.out) | exact HB.out)) hb); have n2_ := Aside0.mk (hbox); have n3_ := Aside0.mk ((by rw [hg]; exact (below_size (by repeat (first | (with_reducible first | exact HB.out | apply below_alloc | apply pw_below_drewN | apply below_drew1 | refine below_set ?_ GE106.out) | exact HB.out))) : w.heap.size ≤ gb112)); have n4_ := Aside0.mk ((by rw [hg]; exact (below_size (by repeat (first | (with_reducible first | exact HB.out | apply below_alloc | apply pw_below_drewN | apply below_drew1 | refine below_set ?_ GE106.out) | exact HB.out))) : w.heap.size ≤ gb112)); have n5_ := Aside0.mk ((by rw [hg]; exact Nat.ne_of_lt (blk_lt (g := gb106) (o := .cells #[.int .i64 a0_0, .slice (some ad111) l0_1.length c0_1, .slice A0_2 l0_2.length c0_2, .slice A0_3 l0_3.length c0_3] 30 (0, 0)) (by (with_reducible repeat (first | refine blk_drewN ?_ _ | refine blk_drew ?_ | refine blk_alloc ?_ _)); exact BK106.out)) : gb106 ≠ gb112)); have n6_ := Aside0.mk ((by rw [hg]; exact Nat.ne_of_gt (blk_lt (g := gb106) (o := .cells #[.int .i64 a0_0, .slice (some ad111) l0_1.length c0_1, .slice A0_2 l0_2.length c0_2, .slice A0_3 l0_3.length c0_3] 30 (0, 0)) (by (with_reducible repeat (first | refine blk_drewN ?_ _ | refine blk_drew ?_ | refine blk_alloc ?_ _)); exact BK106.out)) : gb112 ≠ gb106)); clear BK106; clear HB; have BK106 := n0_; have HB := n1_; have BK112 := n2_; have GW112 := n3_; have GE112 := n4_; have NB106_112 := n5_; have NB112_106 := n6_; clear n0_ n1_ n2_ n3_ n4_ n5_ n6_; clear hb hbox hg; have hnb72 := NB112_106.out; have hnc72 := NB106_112.out; have hcz73_0 : w71.cell? ⟨gb112, 0, none⟩ = some (.bool false) := (blk_cell BK112.out 0).trans rfl; have hcz73_1 : w71.cell? ⟨gb112, 1, none⟩ = some (.int .i64 0) := (blk_cell BK112.out 1).trans rfl; have hcz73_2 : w71.cell? ⟨gb112, 2, none⟩ = some (.int .i64 0) := (blk_cell BK112.out 2).trans rfl; have hcz73_3 : w71.cell? ⟨gb112, 3, none⟩ = some (.int .i64 0) := (blk_cell BK112.out 3).trans rfl; have hfz73_0 := blk_frozen BK112.out 0; have hfz73_1 := blk_frozen BK112.out 1; have hfz73_2 := blk_frozen BK112.out 2; have hfz73_3 := blk_frozen BK112.out 3; have hcz74_0 : w71.cell? ⟨gb106, 0, none⟩ = some (.int .i64 a0_0) := (blk_cell BK106.out 0).trans rfl; have hcz74_1 : w71.cell? ⟨gb106, 1, none⟩ = some (.slice (some ad111) l0_1.length c0_1) := (blk_cell BK106.out 1).trans rfl; have hcz74_2 : w71.cell? ⟨gb106, 2, none⟩ = some (.slice A0_2 l0_2.length c0_2) := (blk_cell BK106.out 2).trans rfl; have hcz74_3 : w71.cell? ⟨gb106, 3, none⟩ = some (.slice A0_3 l0_3.length c0_3) := (blk_cell BK106.out 3).trans rfl; have hfz74_0 := blk_frozen BK106.out 0; have hfz74_1 := blk_frozen BK106.out 1; have hfz74_2 := blk_frozen BK106.out 2; have hfz74_3 := blk_frozen BK106.out 3) | (go_at_call 28; (with_reducible refine (spec_l1In.calls ((rd_T46 l0_1 x60_2).f2) 0 (wrap64 ((l0_1.length : Int) - 1)) true _ A44.out).mono ?_); rintro e w' ⟨rfl, ⟨nd, rfl⟩⟩) | (go_at_call 28; (with_reducible refine (spec_l1In.calls ((rd_T46 l0_1 x60_2).f3) 0 (wrap64 ((l0_1.length : Int) - 1)) true _ A46.out).mono ?_); rintro e w' ⟨rfl, ⟨nd, rfl⟩⟩))
                   go_roundg k2
                   case measure => have := HK1.out; have := HK2.out; omega
                   case rel => exact ⟨(wrap64 (x60_2 + 1)), (by first | rfl | (simp; done) | (simp [*]; done)), H', ⟨by have := HK1.out; have := HK2.out; omega⟩, ⟨by (with_reducible repeat (first | refine blk_drewN ?_ _ | refine blk_drew ?_ | refine blk_alloc ?_ _)); refine blk_far ?_ NB106_112.out _; (with_reducible repeat (first | refine blk_drewN ?_ _ | refine blk_drew ?_ | refine blk_alloc ?_ _)); refine blk_far ?_ NB106_112.out _; (with_reducible repeat (first | refine blk_drewN ?_ _ | refine blk_drew ?_ | refine blk_alloc ?_ _)); refine blk_far ?_ NB106_112.out _; (with_reducible repeat (first | refine blk_drewN ?_ _ | refine blk_drew ?_ | refine blk_alloc ?_ _)); refine blk_far ?_ NB106_112.out _; (with_reducible repeat (first | refine blk_drewN ?_ _ | refine blk_drew ?_ | refine blk_alloc ?_ _)); exact BK106.out⟩, ⟨by repeat (first | (with_reducible first | exact HB.out | apply below_alloc | apply pw_below_drewN | apply below_drew1 | refine below_set ?_ GE106.out | refine below_set ?_ GE112.out) | exact HB.out)⟩⟩
                ·rw [if_neg c48] at H
                 have c48b0 : decide (x60_2 < a0_0) = false := decide_eq_false c48
                 clear c48
                 have H' := Aside0.mk H
                 clear H
                 have p111 : 0 ≤ (x60_2 : Int) := of_decide_eq_true (by first | (with_reducible assumption) | assumption)
                 have q111 : x60_2 < (l0_1.length : Int) := of_decide_eq_true (by first | (with_reducible assumption) | assumption)
                 obtain ⟨ad111, e111, hx111_0, hx111_1, hx111_2, hx111_3⟩ := at_T46 HR0_1.out x60_2 p111 q111
                 (try rw [← Nbq30.out] at hx111_0)
                 cases e111
                 replace hx111_0 := (HB.out.cell (World.block_lt_of_cell? w _ hx111_0)).trans hx111_0
                 replace hx111_1 := (HB.out.cell (World.block_lt_of_cell? w _ hx111_1)).trans hx111_1
                 replace hx111_2 := (HB.out.cell (World.block_lt_of_cell? w _ hx111_2)).trans hx111_2
                 replace hx111_3 := (HB.out.cell (World.block_lt_of_cell? w _ hx111_3)).trans hx111_3
                 replace p111 := eq_true p111
                 replace q111 := eq_true q111
                 go_wp2_with (first | ((with_reducible refine gate_dst (N := 6) rfl ?_); (try (refine gate_guard (by rfl) ?_; dsimp only)); refine box_event ?hg (N := 6) ?hd (cs := #[.bool false, .int .i64 0, .int .i64 0, .int .i64 0]) (t := 46) ?hr ?_; (case hd => rfl); (case hg => rfl); (case hr => first | (go_simp; done) | (go_simp; rfl)); intro gb112 hg w75 hbox hb; have n0_ := Aside0.mk (blk_below (g := gb106) (o := .cells #[.int .i64 a0_0, .slice (some ad111) l0_1.length c0_1, .slice A0_2 l0_2.length c0_2, .slice A0_3 l0_3.length c0_3] 30 (0, 0)) (by (with_reducible repeat (first | refine blk_drewN ?_ _ | refine blk_drew ?_ | refine blk_alloc ?_ _)); exact BK106.out) hb); have n1_ := Aside0.mk (below_step (by repeat (first | (with_reducible first | exact HB.out | apply below_alloc | apply pw_below_drewN | apply below_drew1 | refine below_set ?_ GE106.out) | exact HB.out)) hb); have n2_ := Aside0.mk (hbox); have n3_ := Aside0.mk ((by rw [hg]; exact (below_size (by repeat (first | (with_reducible first | exact HB.out | apply below_alloc | apply pw_below_drewN | apply below_drew1 | refine below_set ?_ GE106.out) | exact HB.out))) : w.heap.size ≤ gb112)); have n4_ := Aside0.mk ((by rw [hg]; exact (below_size (by repeat (first | (with_reducible first | exact HB.out | apply below_alloc | apply pw_below_drewN | apply below_drew1 | refine below_set ?_ GE106.out) | exact HB.out))) : w.heap.size ≤ gb112)); have n5_ := Aside0.mk ((by rw [hg]; exact Nat.ne_of_lt (blk_lt (g := gb106) (o := .cells #[.int .i64 a0_0, .slice (some ad111) l0_1.length c0_1, .slice A0_2 l0_2.length c0_2, .slice A0_3 l0_3.length c0_3] 30 (0, 0)) (by (with_reducible repeat (first | refine blk_drewN ?_ _ | refine blk_drew ?_ | refine blk_alloc ?_ _)); exact BK106.out)) : gb106 ≠ gb112)); have n6_ := Aside0.mk ((by rw [hg]; exact Nat.ne_of_gt (blk_lt (g := gb106) (o := .cells #[.int .i64 a0_0, .slice (some ad111) l0_1.length c0_1, .slice A0_2 l0_2.length c0_2, .slice A0_3 l0_3.length c0_3] 30 (0, 0)) (by (with_reducible repeat (first | refine blk_drewN ?_ _ | refine blk_drew ?_ | refine blk_alloc ?_ _)); exact BK106.out)) : gb112 ≠ gb106)); clear BK106; clear HB; have BK106 := n0_; have HB := n1_; have BK112 := n2_; have GW112 := n3_; have GE112 := n4_; have NB106_112 := n5_; have NB112_106 := n6_; clear n0_ n1_ n2_ n3_ n4_ n5_ n6_; clear hb hbox hg; have hnb76 := NB112_106.out; have hnc76 := NB106_112.out; have hcz77_0 : w75.cell? ⟨gb112, 0, none⟩ = some (.bool false) := (blk_cell BK112.out 0).trans rfl; have hcz77_1 : w75.cell? ⟨gb112, 1, none⟩ = some (.int .i64 0) := (blk_cell BK112.out 1).trans rfl; have hcz77_2 : w75.cell? ⟨gb112, 2, none⟩ = some (.int .i64 0) := (blk_cell BK112.out 2).trans rfl; have hcz77_3 : w75.cell? ⟨gb112, 3, none⟩ = some (.int .i64 0) := (blk_cell BK112.out 3).trans rfl; have hfz77_0 := blk_frozen BK112.out 0; have hfz77_1 := blk_frozen BK112.out 1; have hfz77_2 := blk_frozen BK112.out 2; have hfz77_3 := blk_frozen BK112.out 3; have hcz78_0 : w75.cell? ⟨gb106, 0, none⟩ = some (.int .i64 a0_0) := (blk_cell BK106.out 0).trans rfl; have hcz78_1 : w75.cell? ⟨gb106, 1, none⟩ = some (.slice (some ad111) l0_1.length c0_1) := (blk_cell BK106.out 1).trans rfl; have hcz78_2 : w75.cell? ⟨gb106, 2, none⟩ = some (.slice A0_2 l0_2.length c0_2) := (blk_cell BK106.out 2).trans rfl; have hcz78_3 : w75.cell? ⟨gb106, 3, none⟩ = some (.slice A0_3 l0_3.length c0_3) := (blk_cell BK106.out 3).trans rfl; have hfz78_0 := blk_frozen BK106.out 0; have hfz78_1 := blk_frozen BK106.out 1; have hfz78_2 := blk_frozen BK106.out 2; have hfz78_3 := blk_frozen BK106.out 3) | (go_at_call 28; (with_reducible refine (spec_l1In.calls ((rd_T46 l0_1 x60_2).f2) 0 (wrap64 ((l0_1.length : Int) - 1)) true _ A44.out).mono ?_); rintro e w' ⟨rfl, ⟨nd, rfl⟩⟩) | (go_at_call 28; (with_reducible refine (spec_l1In.calls ((rd_T46 l0_1 x60_2).f3) 0 (wrap64 ((l0_1.length : Int) - 1)) true _ A46.out).mono ?_); rintro e w' ⟨rfl, ⟨nd, rfl⟩⟩))
                 go_roundg k2
                 case measure => have := HK1.out; have := HK2.out; omega
                 case rel => exact ⟨(wrap64 (x60_2 + 1)), (by first | rfl | (simp; done) | (simp [*]; done)), H', ⟨by have := HK1.out; have := HK2.out; omega⟩, ⟨by (with_reducible repeat (first | refine blk_drewN ?_ _ | refine blk_drew ?_ | refine blk_alloc ?_ _)); refine blk_far ?_ NB106_112.out _; (with_reducible repeat (first | refine blk_drewN ?_ _ | refine blk_drew ?_ | refine blk_alloc ?_ _)); refine blk_far ?_ NB106_112.out _; (with_reducible repeat (first | refine blk_drewN ?_ _ | refine blk_drew ?_ | refine blk_alloc ?_ _)); refine blk_far ?_ NB106_112.out _; (with_reducible repeat (first | refine blk_drewN ?_ _ | refine blk_drew ?_ | refine blk_alloc ?_ _)); refine blk_far ?_ NB106_112.out _; (with_reducible repeat (first | refine blk_drewN ?_ _ | refine blk_drew ?_ | refine blk_alloc ?_ _)); exact BK106.out⟩, ⟨by repeat (first | (with_reducible first | exact HB.out | apply below_alloc | apply pw_below_drewN | apply below_drew1 | refine below_set ?_ GE106.out | refine below_set ?_ GE112.out) | exact HB.out)⟩⟩
               ·replace c47 := Bool.eq_false_iff.mpr c47
                subst c47
                have H1 : (some false) = some r := by rw [if_neg (show ¬ (false = true) by decide)] at H; exact H
                clear H
                have H := H1
                clear H1
                obtain rfl := Option.some.inj H
                have p111 : 0 ≤ (x60_2 : Int) := of_decide_eq_true (by first | (with_reducible assumption) | assumption)
                have q111 : x60_2 < (l0_1.length : Int) := of_decide_eq_true (by first | (with_reducible assumption) | assumption)
                obtain ⟨ad111, e111, hx111_0, hx111_1, hx111_2, hx111_3⟩ := at_T46 HR0_1.out x60_2 p111 q111
                (try rw [← Nbq30.out] at hx111_0)
                cases e111
                replace hx111_0 := (HB.out.cell (World.block_lt_of_cell? w _ hx111_0)).trans hx111_0
                replace hx111_1 := (HB.out.cell (World.block_lt_of_cell? w _ hx111_1)).trans hx111_1
                replace hx111_2 := (HB.out.cell (World.block_lt_of_cell? w _ hx111_2)).trans hx111_2
                replace hx111_3 := (HB.out.cell (World.block_lt_of_cell? w _ hx111_3)).trans hx111_3
                replace p111 := eq_true p111
                replace q111 := eq_true q111
                go_wp2_with (first | ((with_reducible refine gate_dst (N := 6) rfl ?_); (try (refine gate_guard (by rfl) ?_; dsimp only)); refine box_event ?hg (N := 6) ?hd (cs := #[.bool false, .int .i64 0, .int .i64 0, .int .i64 0]) (t := 46) ?hr ?_; (case hd => rfl); (case hg => rfl); (case hr => first | (go_simp; done) | (go_simp; rfl)); intro gb112 hg w79 hbox hb; have n0_ := Aside0.mk (blk_below (g := gb106) (o := .cells #[.int .i64 a0_0, .slice (some ad111) l0_1.length c0_1, .slice A0_2 l0_2.length c0_2, .slice A0_3 l0_3.length c0_3] 30 (0, 0)) (by (with_reducible repeat (first | refine blk_drewN ?_ _ | refine blk_drew ?_ | refine blk_alloc ?_ _)); exact BK106.out) hb); have n1_ := Aside0.mk (below_step (by repeat (first | (with_reducible first | exact HB.out | apply below_alloc | apply pw_below_drewN | apply below_drew1 | refine below_set ?_ GE106.out) | exact HB.out)) hb); have n2_ := Aside0.mk (hbox); have n3_ := Aside0.mk ((by rw [hg]; exact (below_size (by repeat (first | (with_reducible first | exact HB.out | apply below_alloc | apply pw_below_drewN | apply below_drew1 | refine below_set ?_ GE106.out) | exact HB.out))) : w.heap.size ≤ gb112)); have n4_ := Aside0.mk ((by rw [hg]; exact (below_size (by repeat (first | (with_reducible first | exact HB.out | apply below_alloc | apply pw_below_drewN | apply below_drew1 | refine below_set ?_ GE106.out) | exact HB.out))) : w.heap.size ≤ gb112)); have n5_ := Aside0.mk ((by rw [hg]; exact Nat.ne_of_lt (blk_lt (g := gb106) (o := .cells #[.int .i64 a0_0, .slice (some ad111) l0_1.length c0_1, .slice A0_2 l0_2.length c0_2, .slice A0_3 l0_3.length c0_3] 30 (0, 0)) (by (with_reducible repeat (first | refine blk_drewN ?_ _ | refine blk_drew ?_ | refine blk_alloc ?_ _)); exact BK106.out)) : gb106 ≠ gb112)); have n6_ := Aside0.mk ((by rw [hg]; exact Nat.ne_of_gt (blk_lt (g := gb106) (o := .cells #[.int .i64 a0_0, .slice (some ad111) l0_1.length c0_1, .slice A0_2 l0_2.length c0_2, .slice A0_3 l0_3.length c0_3] 30 (0, 0)) (by (with_reducible repeat (first | refine blk_drewN ?_ _ | refine blk_drew ?_ | refine blk_alloc ?_ _)); exact BK106.out)) : gb112 ≠ gb106)); clear BK106; clear HB; have BK106 := n0_; have HB := n1_; have BK112 := n2_; have GW112 := n3_; have GE112 := n4_; have NB106_112 := n5_; have NB112_106 := n6_; clear n0_ n1_ n2_ n3_ n4_ n5_ n6_; clear hb hbox hg; have hnb80 := NB112_106.out; have hnc80 := NB106_112.out; have hcz81_0 : w79.cell? ⟨gb112, 0, none⟩ = some (.bool false) := (blk_cell BK112.out 0).trans rfl; have hcz81_1 : w79.cell? ⟨gb112, 1, none⟩ = some (.int .i64 0) := (blk_cell BK112.out 1).trans rfl; have hcz81_2 : w79.cell? ⟨gb112, 2, none⟩ = some (.int .i64 0) := (blk_cell BK112.out 2).trans rfl; have hcz81_3 : w79.cell? ⟨gb112, 3, none⟩ = some (.int .i64 0) := (blk_cell BK112.out 3).trans rfl; have hfz81_0 := blk_frozen BK112.out 0; have hfz81_1 := blk_frozen BK112.out 1; have hfz81_2 := blk_frozen BK112.out 2; have hfz81_3 := blk_frozen BK112.out 3; have hcz82_0 : w79.cell? ⟨gb106, 0, none⟩ = some (.int .i64 a0_0) := (blk_cell BK106.out 0).trans rfl; have hcz82_1 : w79.cell? ⟨gb106, 1, none⟩ = some (.slice (some ad111) l0_1.length c0_1) := (blk_cell BK106.out 1).trans rfl; have hcz82_2 : w79.cell? ⟨gb106, 2, none⟩ = some (.slice A0_2 l0_2.length c0_2) := (blk_cell BK106.out 2).trans rfl; have hcz82_3 : w79.cell? ⟨gb106, 3, none⟩ = some (.slice A0_3 l0_3.length c0_3) := (blk_cell BK106.out 3).trans rfl; have hfz82_0 := blk_frozen BK106.out 0; have hfz82_1 := blk_frozen BK106.out 1; have hfz82_2 := blk_frozen BK106.out 2; have hfz82_3 := blk_frozen BK106.out 3) | (go_at_call 28; (with_reducible refine (spec_l1In.calls ((rd_T46 l0_1 x60_2).f2) 0 (wrap64 ((l0_1.length : Int) - 1)) true _ A44.out).mono ?_); rintro e w' ⟨rfl, ⟨nd, rfl⟩⟩) | (go_at_call 28; (with_reducible refine (spec_l1In.calls ((rd_T46 l0_1 x60_2).f3) 0 (wrap64 ((l0_1.length : Int) - 1)) false _ A46.out).mono ?_); rintro e w' ⟨rfl, ⟨nd, rfl⟩⟩))
                go_ret
                exact ⟨by first | rfl | (simp [errW_none, errW_some] <;> rfl) | (simp [*, errW_none, errW_some] <;> rfl), by repeat (first | (with_reducible first | exact HB.out | apply below_alloc | apply pw_below_drewN | apply below_drew1 | refine below_set ?_ GE106.out | refine below_set ?_ GE112.out) | exact HB.out)⟩
              ·replace c45 := Bool.eq_false_iff.mpr c45
               subst c45
               have H1 : (some false) = some r := by rw [if_neg (show ¬ (false = true) by decide)] at H; exact H
               clear H
               have H := H1
               clear H1
               obtain rfl := Option.some.inj H
               have p111 : 0 ≤ (x60_2 : Int) := of_decide_eq_true (by first | (with_reducible assumption) | assumption)
               have q111 : x60_2 < (l0_1.length : Int) := of_decide_eq_true (by first | (with_reducible assumption) | assumption)
               obtain ⟨ad111, e111, hx111_0, hx111_1, hx111_2, hx111_3⟩ := at_T46 HR0_1.out x60_2 p111 q111
               (try rw [← Nbq30.out] at hx111_0)
               cases e111
               replace hx111_0 := (HB.out.cell (World.block_lt_of_cell? w _ hx111_0)).trans hx111_0
               replace hx111_1 := (HB.out.cell (World.block_lt_of_cell? w _ hx111_1)).trans hx111_1
               replace hx111_2 := (HB.out.cell (World.block_lt_of_cell? w _ hx111_2)).trans hx111_2
               replace hx111_3 := (HB.out.cell (World.block_lt_of_cell? w _ hx111_3)).trans hx111_3
               replace p111 := eq_true p111
               replace q111 := eq_true q111
               go_wp2_with (first | ((with_reducible refine gate_dst (N := 6) rfl ?_); (try (refine gate_guard (by rfl) ?_; dsimp only)); refine box_event ?hg (N := 6) ?hd (cs := #[.bool false, .int .i64 0, .int .i64 0, .int .i64 0]) (t := 46) ?hr ?_; (case hd => rfl); (case hg => rfl); (case hr => first | (go_simp; done) | (go_simp; rfl)); intro gb112 hg w83 hbox hb; have n0_ := Aside0.mk (blk_below (g := gb106) (o := .cells #[.int .i64 a0_0, .slice (some ad111) l0_1.length c0_1, .slice A0_2 l0_2.length c0_2, .slice A0_3 l0_3.length c0_3] 30 (0, 0)) (by (with_reducible repeat (first | refine blk_drewN ?_ _ | refine blk_drew ?_ | refine blk_alloc ?_ _)); exact BK106.out) hb); have n1_ := Aside0.mk (below_step (by repeat (first | (with_reducible first | exact HB.out | apply below_alloc | apply pw_below_drewN | apply below_drew1 | refine below_set ?_ GE106.out) | exact HB.out)) hb); have n2_ := Aside0.mk (hbox); have n3_ := Aside0.mk ((by rw [hg]; exact (below_size (by repeat (first | (with_reducible first | exact HB.out | apply below_alloc | apply pw_below_drewN | apply below_drew1 | refine below_set ?_ GE106.out) | exact HB.out))) : w.heap.size ≤ gb112)); have n4_ := Aside0.mk ((by rw [hg]; exact (below_size (by repeat (first | (with_reducible first | exact HB.out | apply below_alloc | apply pw_below_drewN | apply below_drew1 | refine below_set ?_ GE106.out) | exact HB.out))) : w.heap.size ≤ gb112)); have n5_ := Aside0.mk ((by rw [hg]; exact Nat.ne_of_lt (blk_lt (g := gb106) (o := .cells #[.int .i64 a0_0, .slice (some ad111) l0_1.length c0_1, .slice A0_2 l0_2.length c0_2, .slice A0_3 l0_3.length c0_3] 30 (0, 0)) (by (with_reducible repeat (first | refine blk_drewN ?_ _ | refine blk_drew ?_ | refine blk_alloc ?_ _)); exact BK106.out)) : gb106 ≠ gb112)); have n6_ := Aside0.mk ((by rw [hg]; exact Nat.ne_of_gt (blk_lt (g := gb106) (o := .cells #[.int .i64 a0_0, .slice (some ad111) l0_1.length c0_1, .slice A0_2 l0_2.length c0_2, .slice A0_3 l0_3.length c0_3] 30 (0, 0)) (by (with_reducible repeat (first | refine blk_drewN ?_ _ | refine blk_drew ?_ | refine blk_alloc ?_ _)); exact BK106.out)) : gb112 ≠ gb106)); clear BK106; clear HB; have BK106 := n0_; have HB := n1_; have BK112 := n2_; have GW112 := n3_; have GE112 := n4_; have NB106_112 := n5_; have NB112_106 := n6_; clear n0_ n1_ n2_ n3_ n4_ n5_ n6_; clear hb hbox hg; have hnb84 := NB112_106.out; have hnc84 := NB106_112.out; have hcz85_0 : w83.cell? ⟨gb112, 0, none⟩ = some (.bool false) := (blk_cell BK112.out 0).trans rfl; have hcz85_1 : w83.cell? ⟨gb112, 1, none⟩ = some (.int .i64 0) := (blk_cell BK112.out 1).trans rfl; have hcz85_2 : w83.cell? ⟨gb112, 2, none⟩ = some (.int .i64 0) := (blk_cell BK112.out 2).trans rfl; have hcz85_3 : w83.cell? ⟨gb112, 3, none⟩ = some (.int .i64 0) := (blk_cell BK112.out 3).trans rfl; have hfz85_0 := blk_frozen BK112.out 0; have hfz85_1 := blk_frozen BK112.out 1; have hfz85_2 := blk_frozen BK112.out 2; have hfz85_3 := blk_frozen BK112.out 3; have hcz86_0 : w83.cell? ⟨gb106, 0, none⟩ = some (.int .i64 a0_0) := (blk_cell BK106.out 0).trans rfl; have hcz86_1 : w83.cell? ⟨gb106, 1, none⟩ = some (.slice (some ad111) l0_1.length c0_1) := (blk_cell BK106.out 1).trans rfl; have hcz86_2 : w83.cell? ⟨gb106, 2, none⟩ = some (.slice A0_2 l0_2.length c0_2) := (blk_cell BK106.out 2).trans rfl; have hcz86_3 : w83.cell? ⟨gb106, 3, none⟩ = some (.slice A0_3 l0_3.length c0_3) := (blk_cell BK106.out 3).trans rfl; have hfz86_0 := blk_frozen BK106.out 0; have hfz86_1 := blk_frozen BK106.out 1; have hfz86_2 := blk_frozen BK106.out 2; have hfz86_3 := blk_frozen BK106.out 3) | (go_at_call 28; (with_reducible refine (spec_l1In.calls ((rd_T46 l0_1 x60_2).f2) 0 (wrap64 ((l0_1.length : Int) - 1)) false _ A44.out).mono ?_); rintro e w' ⟨rfl, ⟨nd, rfl⟩⟩))
               go_ret
               exact ⟨by first | rfl | (simp [errW_none, errW_some] <;> rfl) | (simp [*, errW_none, errW_some] <;> rfl), by repeat (first | (with_reducible first | exact HB.out | apply below_alloc | apply pw_below_drewN | apply below_drew1 | refine below_set ?_ GE106.out | refine below_set ?_ GE112.out) | exact HB.out)⟩
             ·rw [if_neg c43] at H
              have c43b0 : (((rd_T46 l0_1 x60_2).f1) == 0) = false := beq_eq_false_iff_ne.mpr c43
              have c43b1 : (((rd_T46 l0_1 x60_2).f1) != 0) = true := bne_iff_ne.mpr c43
              obtain rfl := Option.some.inj H
              have p111 : 0 ≤ (x60_2 : Int) := of_decide_eq_true (by first | (with_reducible assumption) | assumption)
              have q111 : x60_2 < (l0_1.length : Int) := of_decide_eq_true (by first | (with_reducible assumption) | assumption)
              obtain ⟨ad111, e111, hx111_0, hx111_1, hx111_2, hx111_3⟩ := at_T46 HR0_1.out x60_2 p111 q111
              (try rw [← Nbq30.out] at hx111_0)
              cases e111
              replace hx111_0 := (HB.out.cell (World.block_lt_of_cell? w _ hx111_0)).trans hx111_0
              replace hx111_1 := (HB.out.cell (World.block_lt_of_cell? w _ hx111_1)).trans hx111_1
              replace hx111_2 := (HB.out.cell (World.block_lt_of_cell? w _ hx111_2)).trans hx111_2
              replace hx111_3 := (HB.out.cell (World.block_lt_of_cell? w _ hx111_3)).trans hx111_3
              replace p111 := eq_true p111
              replace q111 := eq_true q111
              go_wp2_with (first | ((with_reducible refine gate_dst (N := 6) rfl ?_); (try (refine gate_guard (by rfl) ?_; dsimp only)); refine box_event ?hg (N := 6) ?hd (cs := #[.bool false, .int .i64 0, .int .i64 0, .int .i64 0]) (t := 46) ?hr ?_; (case hd => rfl); (case hg => rfl); (case hr => first | (go_simp; done) | (go_simp; rfl)); intro gb112 hg w87 hbox hb; have n0_ := Aside0.mk (blk_below (g := gb106) (o := .cells #[.int .i64 a0_0, .slice (some ad111) l0_1.length c0_1, .slice A0_2 l0_2.length c0_2, .slice A0_3 l0_3.length c0_3] 30 (0, 0)) (by (with_reducible repeat (first | refine blk_drewN ?_ _ | refine blk_drew ?_ | refine blk_alloc ?_ _)); exact BK106.out) hb); have n1_ := Aside0.mk (below_step (by repeat (first | (with_reducible first | exact HB.out | apply below_alloc | apply pw_below_drewN | apply below_drew1 | refine below_set ?_ GE106.out) | exact HB.out)) hb); have n2_ := Aside0.mk (hbox); have n3_ := Aside0.mk ((by rw [hg]; exact (below_size (by repeat (first | (with_reducible first | exact HB.out | apply below_alloc | apply pw_below_drewN | apply below_drew1 | refine below_set ?_ GE106.out) | exact HB.out))) : w.heap.size ≤ gb112)); have n4_ := Aside0.mk ((by rw [hg]; exact (below_size (by repeat (first | (with_reducible first | exact HB.out | apply below_alloc | apply pw_below_drewN | apply below_drew1 | refine below_set ?_ GE106.out) | exact HB.out))) : w.heap.size ≤ gb112)); have n5_ := Aside0.mk ((by rw [hg]; exact Nat.ne_of_lt (blk_lt (g := gb106) (o := .cells #[.int .i64 a0_0, .slice (some ad111) l0_1.length c0_1, .slice A0_2 l0_2.length c0_2, .slice A0_3 l0_3.length c0_3] 30 (0, 0)) (by (with_reducible repeat (first | refine blk_drewN ?_ _ | refine blk_drew ?_ | refine blk_alloc ?_ _)); exact BK106.out)) : gb106 ≠ gb112)); have n6_ := Aside0.mk ((by rw [hg]; exact Nat.ne_of_gt (blk_lt (g := gb106) (o := .cells #[.int .i64 a0_0, .slice (some ad111) l0_1.length c0_1, .slice A0_2 l0_2.length c0_2, .slice A0_3 l0_3.length c0_3] 30 (0, 0)) (by (with_reducible repeat (first | refine blk_drewN ?_ _ | refine blk_drew ?_ | refine blk_alloc ?_ _)); exact BK106.out)) : gb112 ≠ gb106)); clear BK106; clear HB; have BK106 := n0_; have HB := n1_; have BK112 := n2_; have GW112 := n3_; have GE112 := n4_; have NB106_112 := n5_; have NB112_106 := n6_; clear n0_ n1_ n2_ n3_ n4_ n5_ n6_; clear hb hbox hg; have hnb88 := NB112_106.out; have hnc88 := NB106_112.out; have hcz89_0 : w87.cell? ⟨gb112, 0, none⟩ = some (.bool false) := (blk_cell BK112.out 0).trans rfl; have hcz89_1 : w87.cell? ⟨gb112, 1, none⟩ = some (.int .i64 0) := (blk_cell BK112.out 1).trans rfl; have hcz89_2 : w87.cell? ⟨gb112, 2, none⟩ = some (.int .i64 0) := (blk_cell BK112.out 2).trans rfl; have hcz89_3 : w87.cell? ⟨gb112, 3, none⟩ = some (.int .i64 0) := (blk_cell BK112.out 3).trans rfl; have hfz89_0 := blk_frozen BK112.out 0; have hfz89_1 := blk_frozen BK112.out 1; have hfz89_2 := blk_frozen BK112.out 2; have hfz89_3 := blk_frozen BK112.out 3))
              go_ret
              exact ⟨by first | rfl | (simp [errW_none, errW_some] <;> rfl) | (simp [*, errW_none, errW_some] <;> rfl), by repeat (first | (with_reducible first | exact HB.out | apply below_alloc | apply pw_below_drewN | apply below_drew1 | refine below_set ?_ GE106.out | refine below_set ?_ GE112.out) | exact HB.out)⟩
           ·rw [if_neg c29] at H
            exact absurd H (by simp)
          ·rw [if_neg c28] at H
           exact absurd H (by simp)
         ·rw [if_neg c27] at H
          have c27b0 : decide (x60_2 < (l0_1.length : Int)) = false := decide_eq_false c27
          clear c27
          have H' := Aside0.mk H
          clear H
          have hcz90_0 : wr.cell? ⟨gb106, 0, none⟩ = some (.int .i64 a0_0) := (blk_cell BK106.out 0).trans rfl
          have hcz90_1 : wr.cell? ⟨gb106, 1, none⟩ = some (.slice A0_1 l0_1.length c0_1) := (blk_cell BK106.out 1).trans rfl
          have hcz90_2 : wr.cell? ⟨gb106, 2, none⟩ = some (.slice A0_2 l0_2.length c0_2) := (blk_cell BK106.out 2).trans rfl
          have hcz90_3 : wr.cell? ⟨gb106, 3, none⟩ = some (.slice A0_3 l0_3.length c0_3) := (blk_cell BK106.out 3).trans rfl
          have hfz90_0 := blk_frozen BK106.out 0
          have hfz90_1 := blk_frozen BK106.out 1
          have hfz90_2 := blk_frozen BK106.out 2
          have hfz90_3 := blk_frozen BK106.out 3
          go_wp2
          go_loopg [141] k2 (fun kq v141 w' => ∃ (x141_3 : Int), v141 = .int .i64 x141_3 ∧ Aside0 (spec_GoodYoung.l2 kq l0_2 (l0_2.length : Int) x141_3 a0_0 l0_1 l0_2 l0_3 = some r) ∧ Aside0 (kq ≤ k2) ∧ Aside0 (w'.heap[gb106]? = some (.cells #[.int .i64 a0_0, (.slice A0_1 l0_1.length c0_1), (.slice A0_2 l0_2.length c0_2), (.slice A0_3 l0_3.length c0_3)] 30 (0, 0))) ∧ Aside0 (Below w.heap.size w w'))
          case atStart => exact ⟨(0), (by first | rfl | (simp; done) | (simp [*]; done)), H', ⟨Nat.le_refl _⟩, ⟨by (with_reducible repeat (first | refine blk_drewN ?_ _ | refine blk_drew ?_ | refine blk_alloc ?_ _)); exact BK106.out⟩, ⟨by repeat (first | (with_reducible first | exact HB.out | apply below_alloc | apply pw_below_drewN | apply below_drew1 | refine below_set ?_ GE106.out) | exact HB.out)⟩⟩
          case round =>
           clear H'
           try clear c1
           try clear p1
           try clear q1
           try clear hx1
           try clear c2
           try clear c2b0
           try clear c2b1
           try clear p2
           try clear c3
           try clear q3
           try clear c4
           try clear c5
           try clear c5b0
           try clear c5b1
           try clear c6
           try clear p6
           try clear c7
           try clear c8
           try clear c9
           try clear p10
           try clear q10
           try clear hx10
           try clear p11
           try clear q11
           try clear hx11
           try clear c12
           try clear c12b0
           try clear c13
           try clear c13b0
           try clear c14
           try clear c14b0
           try clear c16
           try clear c17
           try clear c17b0
           try clear c19
           try clear c19b0
           try clear c20
           try clear c20b0
           try clear c21
           try clear c21b0
           try clear c27
           try clear c27b0
           try clear c28
           try clear c28b0
           try clear c29
           try clear c29b0
           try clear q30
           try clear c31
           try clear c32
           try clear c32b0
           try clear c32b1
           try clear c33
           try clear c33b0
           try clear c33b1
           try clear c35
           try clear c38
           try clear c41
           try clear c43
           try clear c43b0
           try clear c43b1
           try clear c45
           try clear c47
           try clear c48
           try clear c48b0
           try clear c49
           try clear c49b0
           try clear c51
           try clear c53
           try clear c57
           try clear c60
           try clear c60b0
           try clear c62
           try clear c64
           try clear p64
           try clear c68
           try clear c72
           try clear c76
           try clear c80
           try clear c84
           try clear c88
           try clear hcz11_0
           try clear hcz11_1
           try clear hcz11_2
           try clear hcz11_3
           try clear hcz22_0
           try clear hcz22_1
           try clear hcz22_2
           try clear hcz22_3
           try clear hcz23_0
           try clear hcz23_1
           try clear hcz23_2
           try clear hcz23_3
           try clear hcz24_0
           try clear hcz24_1
           try clear hcz24_2
           try clear hcz24_3
           try clear hcz25_0
           try clear hcz25_1
           try clear hcz25_2
           try clear hcz25_3
           try clear hcz26_0
           try clear hcz26_1
           try clear hcz26_2
           try clear hcz26_3
           try clear hcz36_0
           try clear hcz36_1
           try clear hcz36_2
           try clear hcz36_3
           try clear hcz39_0
           try clear hcz39_1
           try clear hcz39_2
           try clear hcz39_3
           try clear hcz42_0
           try clear hcz42_1
           try clear hcz42_2
           try clear hcz42_3
           try clear hcz4_0
           try clear hcz4_1
           try clear hcz4_2
           try clear hcz4_3
           try clear hcz54_0
           try clear hcz54_1
           try clear hcz54_2
           try clear hcz54_3
           try clear hcz55_0
           try clear hcz55_1
           try clear hcz55_2
           try clear hcz55_3
           try clear hcz58_0
           try clear hcz58_1
           try clear hcz58_2
           try clear hcz58_3
           try clear hcz59_0
           try clear hcz59_1
           try clear hcz59_2
           try clear hcz59_3
           try clear hcz65_0
           try clear hcz65_1
           try clear hcz65_2
           try clear hcz65_3
           try clear hcz66_0
           try clear hcz66_1
           try clear hcz66_2
           try clear hcz66_3
           try clear hcz69_0
           try clear hcz69_1
           try clear hcz69_2
           try clear hcz69_3
           try clear hcz70_0
           try clear hcz70_1
           try clear hcz70_2
           try clear hcz70_3
           try clear hcz73_0
           try clear hcz73_1
           try clear hcz73_2
           try clear hcz73_3
           try clear hcz74_0
           try clear hcz74_1
           try clear hcz74_2
           try clear hcz74_3
           try clear hcz77_0
           try clear hcz77_1
           try clear hcz77_2
           try clear hcz77_3
           try clear hcz78_0
           try clear hcz78_1
           try clear hcz78_2
           try clear hcz78_3
           try clear hcz7_0
           try clear hcz7_1
           try clear hcz7_2
           try clear hcz7_3
           try clear hcz81_0
           try clear hcz81_1
           try clear hcz81_2
           try clear hcz81_3
           try clear hcz82_0
           try clear hcz82_1
           try clear hcz82_2
           try clear hcz82_3
           try clear hcz85_0
           try clear hcz85_1
           try clear hcz85_2
           try clear hcz85_3
           try clear hcz86_0
           try clear hcz86_1
           try clear hcz86_2
           try clear hcz86_3
           try clear hcz89_0
           try clear hcz89_1
           try clear hcz89_2
           try clear hcz89_3
           try clear hcz90_0
           try clear hcz90_1
           try clear hcz90_2
           try clear hcz90_3
           try clear hfz11_0
           try clear hfz11_1
           try clear hfz11_2
           try clear hfz11_3
           try clear hfz22_0
           try clear hfz22_1
           try clear hfz22_2
           try clear hfz22_3
           try clear hfz23_0
           try clear hfz23_1
           try clear hfz23_2
           try clear hfz23_3
           try clear hfz24_0
           try clear hfz24_1
           try clear hfz24_2
           try clear hfz24_3
           try clear hfz25_0
           try clear hfz25_1
           try clear hfz25_2
           try clear hfz25_3
           try clear hfz26_0
           try clear hfz26_1
           try clear hfz26_2
           try clear hfz26_3
           try clear hfz36_0
           try clear hfz36_1
           try clear hfz36_2
           try clear hfz36_3
           try clear hfz39_0
           try clear hfz39_1
           try clear hfz39_2
           try clear hfz39_3
           try clear hfz42_0
           try clear hfz42_1
           try clear hfz42_2
           try clear hfz42_3
           try clear hfz4_0
           try clear hfz4_1
           try clear hfz4_2
           try clear hfz4_3
           try clear hfz54_0
           try clear hfz54_1
           try clear hfz54_2
           try clear hfz54_3
           try clear hfz55_0
           try clear hfz55_1
           try clear hfz55_2
           try clear hfz55_3
           try clear hfz58_0
           try clear hfz58_1
           try clear hfz58_2
           try clear hfz58_3
           try clear hfz59_0
           try clear hfz59_1
           try clear hfz59_2
           try clear hfz59_3
           try clear hfz65_0
           try clear hfz65_1
           try clear hfz65_2
           try clear hfz65_3
           try clear hfz66_0
           try clear hfz66_1
           try clear hfz66_2
           try clear hfz66_3
           try clear hfz69_0
           try clear hfz69_1
           try clear hfz69_2
           try clear hfz69_3
           try clear hfz70_0
           try clear hfz70_1
           try clear hfz70_2
           try clear hfz70_3
           try clear hfz73_0
           try clear hfz73_1
           try clear hfz73_2
           try clear hfz73_3
           try clear hfz74_0
           try clear hfz74_1
           try clear hfz74_2
           try clear hfz74_3
           try clear hfz77_0
           try clear hfz77_1
           try clear hfz77_2
           try clear hfz77_3
           try clear hfz78_0
           try clear hfz78_1
           try clear hfz78_2
           try clear hfz78_3
           try clear hfz7_0
           try clear hfz7_1
           try clear hfz7_2
           try clear hfz7_3
           try clear hfz81_0
           try clear hfz81_1
           try clear hfz81_2
           try clear hfz81_3
           try clear hfz82_0
           try clear hfz82_1
           try clear hfz82_2
           try clear hfz82_3
           try clear hfz85_0
           try clear hfz85_1
           try clear hfz85_2
           try clear hfz85_3
           try clear hfz86_0
           try clear hfz86_1
           try clear hfz86_2
           try clear hfz86_3
           try clear hfz89_0
           try clear hfz89_1
           try clear hfz89_2
           try clear hfz89_3
           try clear hfz90_0
           try clear hfz90_1
           try clear hfz90_2
           try clear hfz90_3
           try clear hx108_0
           try clear hx110_0
           try clear hx111_0
           try clear hx111_1
           try clear hx111_2
           try clear hx111_3
           try clear p1
           try clear p10
           try clear p108
           try clear p11
           try clear p110
           try clear p111
           try clear p2
           try clear p6
           try clear q1
           try clear q10
           try clear q108
           try clear q11
           try clear q110
           try clear q111
           obtain ⟨x141_3, rfl, HA, HK3, BK106, HB⟩ := hrel
           cases gk with
           | zero => exact absurd HA.out (by simp [spec_GoodYoung.l2])
           | succ k3 =>
            have H := HA.out
            clear HA
            simp only [spec_GoodYoung.l2] at H
            by_cases c91 : x141_3 < (l0_2.length : Int)
            ·rw [if_pos c91] at H
             have c91b0 : decide (x141_3 < (l0_2.length : Int)) = true := decide_eq_true c91
             clear c91
             by_cases c92 : 0 ≤ x141_3
             ·rw [if_pos c92] at H
              have c92b0 : decide (0 ≤ x141_3) = true := decide_eq_true c92
              clear c92
              by_cases c93 : x141_3 < (l0_2.length : Int)
              ·rw [if_pos c93] at H
               have c93b0 : decide (x141_3 < (l0_2.length : Int)) = true := decide_eq_true c93
               clear c93
               replace H := Option.bind_eq_some_iff.mp H
               obtain ⟨t118, A940, H⟩ := H
               replace H : (if t118 = true then (spec_GoodYoung.l2 k3 l0_2 (l0_2.length : Int) (wrap64 (x141_3 + 1)) a0_0 l0_1 l0_2 l0_3) else (some false)) = some r := H
               have A94 := Aside0.mk A940
               clear A940
               by_cases c95 : t118 = true
               ·subst c95
                have H1 : (spec_GoodYoung.l2 k3 l0_2 (l0_2.length : Int) (wrap64 (x141_3 + 1)) a0_0 l0_1 l0_2 l0_3) = some r := by rw [if_pos rfl] at H; exact H
                clear H
                have H := H1
                clear H1
                have H' := Aside0.mk H
                clear H
                have p117 : 0 ≤ (x141_3 : Int) := of_decide_eq_true (by first | (with_reducible assumption) | assumption)
                have q117 : x141_3 < (l0_2.length : Int) := of_decide_eq_true (by first | (with_reducible assumption) | assumption)
                obtain ⟨ad117, e117, hx117_0⟩ := Kd.at_int HR0_2.out x141_3 p117 q117
                cases e117
                replace hx117_0 := (HB.out.cell (World.block_lt_of_cell? w _ hx117_0)).trans hx117_0
                replace p117 := eq_true p117
                replace q117 := eq_true q117
                have hcz96_0 : wr.cell? ⟨gb106, 0, none⟩ = some (.int .i64 a0_0) := (blk_cell BK106.out 0).trans rfl
                have hcz96_1 : wr.cell? ⟨gb106, 1, none⟩ = some (.slice A0_1 l0_1.length c0_1) := (blk_cell BK106.out 1).trans rfl
                have hcz96_2 : wr.cell? ⟨gb106, 2, none⟩ = some (.slice (some ad117) l0_2.length c0_2) := (blk_cell BK106.out 2).trans rfl
                have hcz96_3 : wr.cell? ⟨gb106, 3, none⟩ = some (.slice A0_3 l0_3.length c0_3) := (blk_cell BK106.out 3).trans rfl
                have hfz96_0 := blk_frozen BK106.out 0
                have hfz96_1 := blk_frozen BK106.out 1
                have hfz96_2 := blk_frozen BK106.out 2
                have hfz96_3 := blk_frozen BK106.out 3
                go_wp2_with (first | ((with_reducible refine gate_callee (f := 28) rfl ?_); refine goesL_ (some 150) rfl rfl Try.func28 (by kernel_rfl) rfl #[.int .i64 (rd l0_2 x141_3), .int .i64 0, .int .i64 (wrap64 ((l0_1.length : Int) - 1))] rfl (by (try simp only [List.map_toArray, List.map_cons, List.map_nil]); first | done | rfl | (simp only [List.length_drop, List.length_take]; rfl)) ?_; (with_reducible refine (spec_l1In.calls (rd l0_2 x141_3) 0 (wrap64 ((l0_1.length : Int) - 1)) true _ A94.out).mono ?_); rintro e w' ⟨rfl, ⟨nd, rfl⟩⟩; refine ⟨_, rfl, ?_⟩))
                go_roundg k3
                case measure => have := HK1.out; have := HK2.out; have := HK3.out; omega
                case rel => exact ⟨(wrap64 (x141_3 + 1)), (by first | rfl | (simp; done) | (simp [*]; done)), H', ⟨by have := HK1.out; have := HK2.out; have := HK3.out; omega⟩, ⟨by (with_reducible repeat (first | refine blk_drewN ?_ _ | refine blk_drew ?_ | refine blk_alloc ?_ _)); exact BK106.out⟩, ⟨by repeat (first | (with_reducible first | exact HB.out | apply below_alloc | apply pw_below_drewN | apply below_drew1 | refine below_set ?_ GE106.out) | exact HB.out)⟩⟩
               ·replace c95 := Bool.eq_false_iff.mpr c95
                subst c95
                have H1 : (some false) = some r := by rw [if_neg (show ¬ (false = true) by decide)] at H; exact H
                clear H
                have H := H1
                clear H1
                obtain rfl := Option.some.inj H
                have p117 : 0 ≤ (x141_3 : Int) := of_decide_eq_true (by first | (with_reducible assumption) | assumption)
                have q117 : x141_3 < (l0_2.length : Int) := of_decide_eq_true (by first | (with_reducible assumption) | assumption)
                obtain ⟨ad117, e117, hx117_0⟩ := Kd.at_int HR0_2.out x141_3 p117 q117
                cases e117
                replace hx117_0 := (HB.out.cell (World.block_lt_of_cell? w _ hx117_0)).trans hx117_0
                replace p117 := eq_true p117
                replace q117 := eq_true q117
                have hcz97_0 : wr.cell? ⟨gb106, 0, none⟩ = some (.int .i64 a0_0) := (blk_cell BK106.out 0).trans rfl
                have hcz97_1 : wr.cell? ⟨gb106, 1, none⟩ = some (.slice A0_1 l0_1.length c0_1) := (blk_cell BK106.out 1).trans rfl
                have hcz97_2 : wr.cell? ⟨gb106, 2, none⟩ = some (.slice (some ad117) l0_2.length c0_2) := (blk_cell BK106.out 2).trans rfl
                have hcz97_3 : wr.cell? ⟨gb106, 3, none⟩ = some (.slice A0_3 l0_3.length c0_3) := (blk_cell BK106.out 3).trans rfl
                have hfz97_0 := blk_frozen BK106.out 0
                have hfz97_1 := blk_frozen BK106.out 1
                have hfz97_2 := blk_frozen BK106.out 2
                have hfz97_3 := blk_frozen BK106.out 3
                go_wp2_with (first | ((with_reducible refine gate_callee (f := 28) rfl ?_); refine goesL_ (some 150) rfl rfl Try.func28 (by kernel_rfl) rfl #[.int .i64 (rd l0_2 x141_3), .int .i64 0, .int .i64 (wrap64 ((l0_1.length : Int) - 1))] rfl (by (try simp only [List.map_toArray, List.map_cons, List.map_nil]); first | done | rfl | (simp only [List.length_drop, List.length_take]; rfl)) ?_; (with_reducible refine (spec_l1In.calls (rd l0_2 x141_3) 0 (wrap64 ((l0_1.length : Int) - 1)) false _ A94.out).mono ?_); rintro e w' ⟨rfl, ⟨nd, rfl⟩⟩; refine ⟨_, rfl, ?_⟩))
                go_ret
                exact ⟨by first | rfl | (simp [errW_none, errW_some] <;> rfl) | (simp [*, errW_none, errW_some] <;> rfl), by repeat (first | (with_reducible first | exact HB.out | apply below_alloc | apply pw_below_drewN | apply below_drew1 | refine below_set ?_ GE106.out) | exact HB.out)⟩
              ·rw [if_neg c93] at H
               exact absurd H (by simp)
             ·rw [if_neg c92] at H
              exact absurd H (by simp)
            ·rw [if_neg c91] at H
             have c91b0 : decide (x141_3 < (l0_2.length : Int)) = false := decide_eq_false c91
             clear c91
             obtain rfl := Option.some.inj H
             go_wp2
             go_ret
             exact ⟨by first | rfl | (simp [errW_none, errW_some] <;> rfl) | (simp [*, errW_none, errW_some] <;> rfl), by repeat (first | (with_reducible first | exact HB.out | apply below_alloc | apply pw_below_drewN | apply below_drew1 | refine below_set ?_ GE106.out) | exact HB.out)⟩
   ·replace c9 := Bool.eq_false_iff.mpr c9
    subst c9
    have H1 : (some false) = some r := by rw [if_neg (show ¬ (false = true) by decide)] at H; exact H
    clear H
    have H := H1
    clear H1
    obtain rfl := Option.some.inj H
    go_enter Try.func9, Try.ntmps9
    go_wp2_with (first | ((with_reducible refine gate_dst (N := 1) rfl ?_); (try (refine gate_guard (by rfl) ?_; dsimp only)); refine box_event ?hg (N := 1) ?hd (cs := #[.int .i64 a0_0, .slice A0_1 l0_1.length c0_1, .slice A0_2 l0_2.length c0_2, .slice A0_3 l0_3.length c0_3]) (t := 30) ?hr ?_; (case hd => rfl); (case hg => rfl); (case hr => first | (go_simp; done) | (go_simp; rfl)); intro gb106 hg w98 hbox hb; have n0_ := Aside0.mk (below_step (by repeat (first | (with_reducible first | exact HB.out | apply below_alloc | apply pw_below_drewN | apply below_drew1) | exact HB.out)) hb); have n1_ := Aside0.mk (hbox); have n2_ := Aside0.mk ((by rw [hg]; exact (below_size (by repeat (first | (with_reducible first | exact HB.out | apply below_alloc | apply pw_below_drewN | apply below_drew1) | exact HB.out))) : w.heap.size ≤ gb106)); have n3_ := Aside0.mk ((by rw [hg]; exact (below_size (by repeat (first | (with_reducible first | exact HB.out | apply below_alloc | apply pw_below_drewN | apply below_drew1) | exact HB.out))) : w.heap.size ≤ gb106)); clear HB; have HB := n0_; have BK106 := n1_; have GW106 := n2_; have GE106 := n3_; clear n0_ n1_ n2_ n3_; clear hb hbox hg; have hcz99_0 : w98.cell? ⟨gb106, 0, none⟩ = some (.int .i64 a0_0) := (blk_cell BK106.out 0).trans rfl; have hcz99_1 : w98.cell? ⟨gb106, 1, none⟩ = some (.slice A0_1 l0_1.length c0_1) := (blk_cell BK106.out 1).trans rfl; have hcz99_2 : w98.cell? ⟨gb106, 2, none⟩ = some (.slice A0_2 l0_2.length c0_2) := (blk_cell BK106.out 2).trans rfl; have hcz99_3 : w98.cell? ⟨gb106, 3, none⟩ = some (.slice A0_3 l0_3.length c0_3) := (blk_cell BK106.out 3).trans rfl; have hfz99_0 := blk_frozen BK106.out 0; have hfz99_1 := blk_frozen BK106.out 1; have hfz99_2 := blk_frozen BK106.out 2; have hfz99_3 := blk_frozen BK106.out 3) | (go_at_call 28; (with_reducible refine (spec_l1In.calls a0_0 0 (l0_1.length : Int) false _ A8.out).mono ?_); rintro e w' ⟨rfl, ⟨nd, rfl⟩⟩))
    go_ret
    exact ⟨by first | rfl | (simp [errW_none, errW_some] <;> rfl) | (simp [*, errW_none, errW_some] <;> rfl), by repeat (first | (with_reducible first | exact HB.out | apply below_alloc | apply pw_below_drewN | apply below_drew1 | refine below_set ?_ GE106.out) | exact HB.out)⟩
end Go.Proofs.Ytpjikgeglhjehaa.PH
