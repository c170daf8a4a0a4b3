/- Texts of this claim, merged by merge.py (a program of this session's): the kit's printed words, where used; what functions come to; the plain law. -/
import Derived.Test.YtpjikgeglhjehaaGLiveIn3
import Derived.Test.YtpjikgeglhjehaaGLiveIn4
/- What functions of the program come to, each told as a plain function (told by wp.py, a program of this session's, over the kit's print.py). No condition beyond what each theorem states. -/
namespace Go.Proofs.Ytpjikgeglhjehaa.PH
open Go.RowKit Go.Proofs.YtpjikgeglhjehaaW.PrintWords Go.Proofs.YtpjikgeglhjehaaW.PrintLast Go.Proofs.YtpjikgeglhjehaaW.PrintMore
attribute [local go_sem] max2_int min2_int max_two min_two max_three min_three max_four min_four   -- for this text's walks alone
set_option linter.unusedVariables false
set_option linter.unusedSimpArgs false
mutual
def spec_lhMark.j0 : Nat → List Bool → Bool → Bool → Int → List (S46) → List Int → List Int → Bool → Int → Int → Int → Option (List Bool)
 | 0, _, _, _, _, _, _, _, _, _, _, _ => none
 | k + 1, x2, x3, x31, x214000, x214001, x214002, x214003, x218000, x218001, x218002, x218003 => if x31 = true then (some x2) else ((spec_lhMark.f k x214000 x214001 x214002 x214003 x218002 x2 x3).bind fun t218 => ((spec_lhMark.f k x214000 x214001 x214002 x214003 x218003 t218 x3).bind fun t219 => (some t219)))
def spec_lhMark.f : Nat → Int → List (S46) → List Int → List Int → Int → List Bool → Bool → Option (List Bool)
 | 0, _, _, _, _, _, _, _ => none
 | k + 1, a0_0, l0_1, l0_2, l0_3, a1, l2, a3 => if 0 ≤ a1 then (if a1 < (l2.length : Int) then (if rdOf false l2 a1 = true then (some l2) else ((some (l2.set (a1 : Int).toNat true : List Bool)).bind fun y215 => (if a1 < (l0_1.length : Int) then (if (rd_T46 l0_1 a1).f0 = true then (spec_lhMark.j0 k y215 a3 true a0_0 l0_1 l0_2 l0_3 ((rd_T46 l0_1 a1).f0) ((rd_T46 l0_1 a1).f1) ((rd_T46 l0_1 a1).f2) ((rd_T46 l0_1 a1).f3)) else (if a3 = true then (spec_lhMark.j0 k y215 a3 (decide (a1 < a0_0)) a0_0 l0_1 l0_2 l0_3 ((rd_T46 l0_1 a1).f0) ((rd_T46 l0_1 a1).f1) ((rd_T46 l0_1 a1).f2) ((rd_T46 l0_1 a1).f3)) else (spec_lhMark.j0 k y215 a3 false a0_0 l0_1 l0_2 l0_3 ((rd_T46 l0_1 a1).f0) ((rd_T46 l0_1 a1).f1) ((rd_T46 l0_1 a1).f2) ((rd_T46 l0_1 a1).f3)))) else (none)))) else (none)) else (none)
end
theorem spec_lhMark.mono_l : ∀ k, (∀ y0 y1 y2 y3 y4 y5 y6, LeO (spec_lhMark.f k y0 y1 y2 y3 y4 y5 y6) (spec_lhMark.f (k + 1) y0 y1 y2 y3 y4 y5 y6)) ∧ (∀ y0 y1 y2 y3 y4 y5 y6 y7 y8 y9 y10, LeO (spec_lhMark.j0 k y0 y1 y2 y3 y4 y5 y6 y7 y8 y9 y10) (spec_lhMark.j0 (k + 1) y0 y1 y2 y3 y4 y5 y6 y7 y8 y9 y10))
 | 0 => ⟨fun _ _ _ _ _ _ _ r h => by simp [spec_lhMark.f] at h, fun _ _ _ _ _ _ _ _ _ _ _ r h => by simp [spec_lhMark.j0] at h⟩
 | k + 1 => by
  obtain ⟨ih0, ih1⟩ := spec_lhMark.mono_l k
  refine ⟨?_, ?_⟩
  ·intro y0 y1 y2 y3 y4 y5 y6
   unfold spec_lhMark.f
   repeat' first
   | (with_reducible exact ih0 _ _ _ _ _ _ _)
   | (with_reducible exact ih1 _ _ _ _ _ _ _ _ _ _ _)
   | (with_reducible exact LeO.refl _)
   | (with_reducible exact LeO.none _)
   | (with_reducible refine LeO.ite ?_ ?_)
   | (with_reducible refine LeO.bind ?_ (fun _ => ?_))
   | exact ih0 _ _ _ _ _ _ _
   | exact ih1 _ _ _ _ _ _ _ _ _ _ _
   | exact LeO.none _
   | refine LeO.ite ?_ ?_
   | refine LeO.bind ?_ (fun _ => ?_)
  ·intro y0 y1 y2 y3 y4 y5 y6 y7 y8 y9 y10
   unfold spec_lhMark.j0
   repeat' first
   | (with_reducible exact ih0 _ _ _ _ _ _ _)
   | (with_reducible exact ih1 _ _ _ _ _ _ _ _ _ _ _)
   | (with_reducible exact LeO.refl _)
   | (with_reducible exact LeO.none _)
   | (with_reducible refine LeO.ite ?_ ?_)
   | (with_reducible refine LeO.bind ?_ (fun _ => ?_))
   | exact ih0 _ _ _ _ _ _ _
   | exact ih1 _ _ _ _ _ _ _ _ _ _ _
   | exact LeO.none _
   | refine LeO.ite ?_ ?_
   | refine LeO.bind ?_ (fun _ => ?_)
theorem spec_lhMark.mono : ∀ a0 a1 a2 a3 a4 a5 a6 k, LeO (spec_lhMark.f k a0 a1 a2 a3 a4 a5 a6) (spec_lhMark.f (k + 1) a0 a1 a2 a3 a4 a5 a6) := by
 intro a0 a1 a2 a3 a4 a5 a6 k
 obtain ⟨ih0, ih1⟩ := spec_lhMark.mono_l k
 exact ih0 a0 a1 a2 a3 a4 a5 a6
set_option maxHeartbeats 8000000 in
set_option maxRecDepth 100000 in
theorem spec_lhMark.calls (k : Nat) : ∀ (a0_0 : Int) (A0_1 : Option Addr) (c0_1 : Nat) (l0_1 : List (S46)) (A0_2 : Option Addr) (c0_2 : Nat) (l0_2 : List Int) (A0_3 : Option Addr) (c0_3 : Nat) (l0_3 : List Int) (a1 : Int) (P2_ : Nat → Prop) (u9000_ : Value) (l2 : List Bool) (a3 : Bool) (r : List Bool) (w0 w : World) (hB : Below w0.heap.size w0 w) (hr0_1 : ∀ W_, Kept w W_ (fun k_ => P2_ k_) → Kd.C k46 W_ A0_1 l0_1.length l0_1) (hc0_1 : l0_1.length ≤ c0_1) (hr0_2 : ∀ W_, Kept w W_ (fun k_ => P2_ k_) → Kd.C (Kd.int .i64) W_ A0_2 l0_2.length l0_2) (hc0_2 : l0_2.length ≤ c0_2) (hr0_3 : ∀ W_, Kept w W_ (fun k_ => P2_ k_) → Kd.C (Kd.int .i64) W_ A0_3 l0_3.length l0_3) (hc0_3 : l0_3.length ≤ c0_3) (ho2 : Kd.R Kd.bool 4 w w0.heap.size P2_ u9000_ l2) (h : spec_lhMark.f k a0_0 l0_1 l0_2 l0_3 a1 l2 a3 = some r),
  Calls Try.prog 56 #[.agg #[.int .i64 a0_0, .slice A0_1 l0_1.length c0_1, .slice A0_2 l0_2.length c0_2, .slice A0_3 l0_3.length c0_3], .int .i64 a1, u9000_, .bool a3] w fun e w' => e = .returned (.tuple #[]) ∧ Kd.R Kd.bool 4 w' w0.heap.size (fun k_ => (P2_ k_ ∨ w.heap.size ≤ k_)) u9000_ r ∧ Below w0.heap.size w0 w' ∧ Kept w w' (fun k_ => P2_ k_) := by
 induction k using Nat.strongRecOn with
 | _ k ih =>
 intro a0_0 A0_1 c0_1 l0_1 A0_2 c0_2 l0_2 A0_3 c0_3 l0_3 a1 P2_ u9000_ l2 a3 r w0 w hB hr0_1 hc0_1 hr0_2 hc0_2 hr0_3 hc0_3 ho2 h
 cases k with
 | zero => exact absurd h (by simp [spec_lhMark.f])
 | succ k =>
 simp only [spec_lhMark.f] at h
 have hu30 := Try.underlying30
 have hu46 := Try.underlying46
 have HR0_1 := Aside0.mk hr0_1
 have HC0_1 := Aside0.mk hc0_1
 clear hr0_1 hc0_1
 have HR0_2 := Aside0.mk hr0_2
 have HC0_2 := Aside0.mk hc0_2
 clear hr0_2 hc0_2
 have HR0_3 := Aside0.mk hr0_3
 have HC0_3 := Aside0.mk hc0_3
 clear hr0_3 hc0_3
 have HO2 := Aside0.mk (show Kd.R Kd.bool 4 w w0.heap.size (fun k_ => (P2_ k_ ∨ w.heap.size ≤ k_)) u9000_ l2 from Kd.R_mono ho2 (fun k_ hk => (.inl hk)))
 have HK := Aside0.mk (Kept.refl w (fun k_ => P2_ k_))
 have HW0 := Aside0.mk hB.size
 have HB := Aside0.mk hB
 clear hB
 have H : (if 0 ≤ a1 then (if a1 < (l2.length : Int) then (if rdOf false l2 a1 = true then (some l2) else ((some (l2.set (a1 : Int).toNat true : List Bool)).bind fun y215 => (if a1 < (l0_1.length : Int) then (if (rd_T46 l0_1 a1).f0 = true then (spec_lhMark.j0 k y215 a3 true a0_0 l0_1 l0_2 l0_3 ((rd_T46 l0_1 a1).f0) ((rd_T46 l0_1 a1).f1) ((rd_T46 l0_1 a1).f2) ((rd_T46 l0_1 a1).f3)) else (if a3 = true then (spec_lhMark.j0 k y215 a3 (decide (a1 < a0_0)) a0_0 l0_1 l0_2 l0_3 ((rd_T46 l0_1 a1).f0) ((rd_T46 l0_1 a1).f1) ((rd_T46 l0_1 a1).f2) ((rd_T46 l0_1 a1).f3)) else (spec_lhMark.j0 k y215 a3 false a0_0 l0_1 l0_2 l0_3 ((rd_T46 l0_1 a1).f0) ((rd_T46 l0_1 a1).f1) ((rd_T46 l0_1 a1).f2) ((rd_T46 l0_1 a1).f3)))) else (none)))) else (none)) else (none)) = some r := h
 clear h
 by_cases c5 : 0 ≤ a1
 ·rw [if_pos c5] at H
  have c5b0 : decide (0 ≤ a1) = true := decide_eq_true c5
  clear c5
  by_cases c6 : a1 < (l2.length : Int)
  ·rw [if_pos c6] at H
   have c6b0 : decide (a1 < (l2.length : Int)) = true := decide_eq_true c6
   clear c6
   obtain ⟨bq7, hbq7⟩ : ∃ b_ : Bool, b_ = (rdOf false l2 a1) := ⟨_, rfl⟩
   replace H : (if bq7 = true then (some l2) else ((some (l2.set (a1 : Int).toNat true : List Bool)).bind fun y215 => (if a1 < (l0_1.length : Int) then (if (rd_T46 l0_1 a1).f0 = true then (spec_lhMark.j0 k y215 a3 true a0_0 l0_1 l0_2 l0_3 ((rd_T46 l0_1 a1).f0) ((rd_T46 l0_1 a1).f1) ((rd_T46 l0_1 a1).f2) ((rd_T46 l0_1 a1).f3)) else (if a3 = true then (spec_lhMark.j0 k y215 a3 (decide (a1 < a0_0)) a0_0 l0_1 l0_2 l0_3 ((rd_T46 l0_1 a1).f0) ((rd_T46 l0_1 a1).f1) ((rd_T46 l0_1 a1).f2) ((rd_T46 l0_1 a1).f3)) else (spec_lhMark.j0 k y215 a3 false a0_0 l0_1 l0_2 l0_3 ((rd_T46 l0_1 a1).f0) ((rd_T46 l0_1 a1).f1) ((rd_T46 l0_1 a1).f2) ((rd_T46 l0_1 a1).f3)))) else (none)))) = some r := by rw [← hbq7] at H; exact H
   have Nbq7 := Aside0.mk hbq7
   clear hbq7
   by_cases c8 : bq7 = true
   ·subst c8
    have H1 : (some l2) = some r := by rw [if_pos rfl] at H; exact H
    clear H
    have H := H1
    clear H1
    obtain rfl := Option.some.inj H
    go_enter Try.func56, Try.ntmps56
    go_wp2_with (first | ((with_reducible refine gate_dst (N := 4) rfl ?_); refine box_event ?hg (N := 4) ?hd (cs := #[.int .i64 a0_0, .slice A0_1 l0_1.length c0_1, .slice A0_2 l0_2.length c0_2, .slice A0_3 l0_3.length c0_3]) (t := 30) ?hr ?_; (case hd => rfl); (case hg => rfl); (case hr => first | (go_simp; done) | (go_simp; rfl)); intro gb213 hg w9 hbox hb; have n0_ := Aside0.mk (Kd.R_below (by (with_reducible repeat (first | apply Kd.R_alloc | apply Kd.R_drewN | apply Kd.R_drew)); exact HO2.out) hb); have n1_ := Aside0.mk (Kept.below (S := (fun k_ => P2_ k_)) (by repeat (first | (with_reducible first | exact HK.out | apply Kept.alloc | apply Kept.drewN | apply Kept.drew) | exact HK.out)) hb); have n2_ := Aside0.mk (below_step (by repeat (first | (with_reducible first | exact HB.out | apply below_alloc | apply pw_below_drewN | apply below_drew1) | exact HB.out)) hb); have n3_ := Aside0.mk (hbox); have n4_ := Aside0.mk ((by rw [hg]; exact (by first | exact HK.out.1 | exact (show Kept w _ (fun k_ => P2_ k_) from by repeat (first | (with_reducible first | exact HK.out | apply Kept.alloc | apply Kept.drewN | apply Kept.drew) | exact HK.out)).1) : w.heap.size ≤ gb213)); have n5_ := Aside0.mk ((by rw [hg]; exact (below_size (by repeat (first | (with_reducible first | exact HB.out | apply below_alloc | apply pw_below_drewN | apply below_drew1) | exact HB.out))) : w0.heap.size ≤ gb213)); clear HO2; clear HK; clear HB; have HO2 := n0_; have HK := n1_; have HB := n2_; have BK213 := n3_; have GW213 := n4_; have GE213 := n5_; clear n0_ n1_ n2_ n3_ n4_ n5_; clear hb hbox hg; obtain ⟨Ao10, co10, eo10⟩ := Kd.R_slice HO2.out; subst eo10; have p214 : 0 ≤ (a1 : Int) := of_decide_eq_true (by first | (with_reducible assumption) | assumption); have q214 : a1 < (l2.length : Int) := of_decide_eq_true (by first | (with_reducible assumption) | assumption); obtain ⟨ad214, e214, hx214_0⟩ := Kd.at_bool (Kd.R_reads' HO2.out).2.2 a1 p214 q214; (try rw [← Nbq7.out] at hx214_0); cases e214; replace p214 := eq_true p214; replace q214 := eq_true q214))
    first | go_end0 | ((try simp only [Exit.inBlock, Exit.then]); refine bodyPost_ret (results_none rfl _ _ _) rfl ?_)
    exact ⟨by first | rfl | (simp [errW_none, errW_some] <;> rfl) | (simp [*, errW_none, errW_some] <;> rfl), by (with_reducible repeat (first | apply Kd.R_alloc | apply Kd.R_drewN | apply Kd.R_drew)); exact HO2.out, by repeat (first | (with_reducible first | exact HB.out | apply below_alloc | apply pw_below_drewN | apply below_drew1 | refine below_set ?_ GE213.out) | exact HB.out), by repeat (first | (with_reducible first | exact HK.out | apply Kept.alloc | apply Kept.drewN | apply Kept.drew | refine Kept.setCell ?_ (.inr GW213.out) _) | exact HK.out)⟩
   ·replace c8 := Bool.eq_false_iff.mpr c8
    subst c8
    have H1 : ((some (l2.set (a1 : Int).toNat true : List Bool)).bind fun y215 => (if a1 < (l0_1.length : Int) then (if (rd_T46 l0_1 a1).f0 = true then (spec_lhMark.j0 k y215 a3 true a0_0 l0_1 l0_2 l0_3 ((rd_T46 l0_1 a1).f0) ((rd_T46 l0_1 a1).f1) ((rd_T46 l0_1 a1).f2) ((rd_T46 l0_1 a1).f3)) else (if a3 = true then (spec_lhMark.j0 k y215 a3 (decide (a1 < a0_0)) a0_0 l0_1 l0_2 l0_3 ((rd_T46 l0_1 a1).f0) ((rd_T46 l0_1 a1).f1) ((rd_T46 l0_1 a1).f2) ((rd_T46 l0_1 a1).f3)) else (spec_lhMark.j0 k y215 a3 false a0_0 l0_1 l0_2 l0_3 ((rd_T46 l0_1 a1).f0) ((rd_T46 l0_1 a1).f1) ((rd_T46 l0_1 a1).f2) ((rd_T46 l0_1 a1).f3)))) else (none))) = some r := by rw [if_neg (show ¬ (false = true) by decide)] at H; exact H
    clear H
    have H := H1
    clear H1
    obtain ⟨y215, hy215⟩ : ∃ y_ : List Bool, y_ = (l2.set (a1 : Int).toNat true) := ⟨_, rfl⟩
    replace H : (if a1 < (l0_1.length : Int) then (if (rd_T46 l0_1 a1).f0 = true then (spec_lhMark.j0 k y215 a3 true a0_0 l0_1 l0_2 l0_3 ((rd_T46 l0_1 a1).f0) ((rd_T46 l0_1 a1).f1) ((rd_T46 l0_1 a1).f2) ((rd_T46 l0_1 a1).f3)) else (if a3 = true then (spec_lhMark.j0 k y215 a3 (decide (a1 < a0_0)) a0_0 l0_1 l0_2 l0_3 ((rd_T46 l0_1 a1).f0) ((rd_T46 l0_1 a1).f1) ((rd_T46 l0_1 a1).f2) ((rd_T46 l0_1 a1).f3)) else (spec_lhMark.j0 k y215 a3 false a0_0 l0_1 l0_2 l0_3 ((rd_T46 l0_1 a1).f0) ((rd_T46 l0_1 a1).f1) ((rd_T46 l0_1 a1).f2) ((rd_T46 l0_1 a1).f3)))) else (none)) = some r := by first | (rw [hy215]; with_reducible exact H) | (have H2_ := (Option.bind_some _ _).symm.trans H; rw [hy215]; with_reducible exact H2_) | (have H2_ := (Option.bind_some _ _).symm.trans H; with_reducible exact H2_) | with_reducible exact H | (rw [hy215]; exact H) | exact H
    have Ny215 := Aside0.mk hy215
    clear hy215
    by_cases c12 : a1 < (l0_1.length : Int)
    ·rw [if_pos c12] at H
     have c12b0 : decide (a1 < (l0_1.length : Int)) = true := decide_eq_true c12
     clear c12
     have HC13 := Aside0.mk H
     clear H
     go_enter Try.func56, Try.ntmps56
     go_upto_region 4 with (first | ((with_reducible refine gate_dst (N := 4) rfl ?_); refine box_event ?hg (N := 4) ?hd (cs := #[.int .i64 a0_0, .slice A0_1 l0_1.length c0_1, .slice A0_2 l0_2.length c0_2, .slice A0_3 l0_3.length c0_3]) (t := 30) ?hr ?_; (case hd => rfl); (case hg => rfl); (case hr => first | (go_simp; done) | (go_simp; rfl)); intro gb213 hg w14 hbox hb; have n0_ := Aside0.mk (Kd.R_below (by (with_reducible repeat (first | apply Kd.R_alloc | apply Kd.R_drewN | apply Kd.R_drew)); exact HO2.out) hb); have n1_ := Aside0.mk (Kept.below (S := (fun k_ => P2_ k_)) (by repeat (first | (with_reducible first | exact HK.out | apply Kept.alloc | apply Kept.drewN | apply Kept.drew) | exact HK.out)) hb); have n2_ := Aside0.mk (below_step (by repeat (first | (with_reducible first | exact HB.out | apply below_alloc | apply pw_below_drewN | apply below_drew1) | exact HB.out)) hb); have n3_ := Aside0.mk (hbox); have n4_ := Aside0.mk ((by rw [hg]; exact (by first | exact HK.out.1 | exact (show Kept w _ (fun k_ => P2_ k_) from by repeat (first | (with_reducible first | exact HK.out | apply Kept.alloc | apply Kept.drewN | apply Kept.drew) | exact HK.out)).1) : w.heap.size ≤ gb213)); have n5_ := Aside0.mk ((by rw [hg]; exact (below_size (by repeat (first | (with_reducible first | exact HB.out | apply below_alloc | apply pw_below_drewN | apply below_drew1) | exact HB.out))) : w0.heap.size ≤ gb213)); clear HO2; clear HK; clear HB; have HO2 := n0_; have HK := n1_; have HB := n2_; have BK213 := n3_; have GW213 := n4_; have GE213 := n5_; clear n0_ n1_ n2_ n3_ n4_ n5_; clear hb hbox hg; obtain ⟨Ao15, co15, eo15⟩ := Kd.R_slice HO2.out; subst eo15; have p214 : 0 ≤ (a1 : Int) := of_decide_eq_true (by first | (with_reducible assumption) | assumption); have q214 : a1 < (l2.length : Int) := of_decide_eq_true (by first | (with_reducible assumption) | assumption); obtain ⟨ad214, e214, hx214_0⟩ := Kd.at_bool (Kd.R_reads' HO2.out).2.2 a1 p214 q214; (try rw [← Nbq7.out] at hx214_0); cases e214; replace p214 := eq_true p214; replace q214 := eq_true q214; have p11 : 0 ≤ (a1 : Int) := of_decide_eq_true (by first | (with_reducible assumption) | assumption); have q11 : (a1 : Int) < ((l2.length : Int) : Int) := of_decide_eq_true (by first | (with_reducible assumption) | assumption); obtain ⟨go11, co11, eo11, gb11, gl11, cl11, HG11⟩ := Kd.R_form HO2.out (by omega); (first | cases eo11 | (injection eo11 with ea_ en_ ec_; (first | subst ea_ | (injection ea_ with ea_; subst ea_)); subst ec_; clear en_)); have GB11 := Aside0.mk gb11; have GG11 := Aside0.mk HG11; clear gb11 gl11 HG11; have HMgo11 := Aside0.mk (show (P2_ go11 ∨ w.heap.size ≤ go11) from (HO2.out.1 _ rfl)); (first | simp only [add_plain] at hx214_0 | skip); obtain ⟨hx11_0, hf11_0⟩ := Kd.R_celln false HO2.out (a1 : Int) p11 q11; replace p11 := eq_true p11; replace q11 := eq_true q11; obtain ⟨hy16_, hz16_⟩ := Kd.R_celln false HO2.out (a1 : Int) (of_decide_eq_true (by first | (with_reducible assumption) | assumption)) (of_decide_eq_true (by first | (with_reducible assumption) | assumption)); have HP16 := Kd.R_putg HO2.out (a1 : Int) true) | ((with_reducible refine gate_store (t := 4) (p := 15) rfl ?_); refine store_event (t := 4) (p := 15) (v := ?vo_w17) (w1 := (w14.setCell ⟨go11, (a1 : Int).toNat, none⟩ (.bool true))) ?hg ?ho ?hn ?hr ?_; (case ho => rfl); (case hg => rfl); (case hn => rfl); (case hr => first | (go_simp; done) | (go_simp; rfl)); intro w17 hw; have hg : w14.grownBy w17 (some go11) := (by rw [hw]; exact HP16.2); have hp_ : Kd.R Kd.bool 4 w17 w0.heap.size (fun k_ => (P2_ k_ ∨ w.heap.size ≤ k_)) (.slice (some ⟨go11, 0, none⟩) l2.length co15) y215 := (by rw [hw, Ny215.out]; exact HP16.1); clear HP16; have n0_ := Aside0.mk (hp_); have n1_ := Aside0.mk (blk_grown (g := gb213) (o := .cells #[.int .i64 a0_0, .slice A0_1 l0_1.length c0_1, .slice A0_2 l0_2.length c0_2, .slice A0_3 l0_3.length c0_3] 30 (0, 0)) (by (with_reducible repeat (first | refine blk_drewN ?_ _ | refine blk_drew ?_ | refine blk_alloc ?_ _)); exact BK213.out) hg (Kd.R_ne HO2.out BK213.out (by decide))); have n2_ := Aside0.mk ((by rw [hw]; exact below_set (HB.out) GB11.out : Below w0.heap.size w0 w17)); have n3_ := Aside0.mk (Kept.of_grown (S := (fun k_ => P2_ k_)) hg (by repeat (first | (with_reducible first | exact HK.out | apply Kept.alloc | apply Kept.drewN | apply Kept.drew | refine Kept.setCell ?_ (.inr GW213.out) _) | exact HK.out)) (fun k_ e_ => (HO2.out.1 k_ e_))); clear HO2; clear BK213; clear HB; clear HK; have HO2 := n0_; have BK213 := n1_; have HB := n2_; have HK := n3_; clear n0_ n1_ n2_ n3_; clear hg hw hp_; have hcz18_0 : w17.cell? ⟨gb213, 0, none⟩ = some (.int .i64 a0_0) := (blk_cell BK213.out 0).trans rfl; have hcz18_1 : w17.cell? ⟨gb213, 1, none⟩ = some (.slice A0_1 l0_1.length c0_1) := (blk_cell BK213.out 1).trans rfl; have hcz18_2 : w17.cell? ⟨gb213, 2, none⟩ = some (.slice A0_2 l0_2.length c0_2) := (blk_cell BK213.out 2).trans rfl; have hcz18_3 : w17.cell? ⟨gb213, 3, none⟩ = some (.slice A0_3 l0_3.length c0_3) := (blk_cell BK213.out 3).trans rfl; have hfz18_0 := blk_frozen BK213.out 0; have hfz18_1 := blk_frozen BK213.out 1; have hfz18_2 := blk_frozen BK213.out 2; have hfz18_3 := blk_frozen BK213.out 3; have p216 : 0 ≤ (a1 : Int) := of_decide_eq_true (by first | (with_reducible assumption) | assumption); have q216 : a1 < (l0_1.length : Int) := of_decide_eq_true (by first | (with_reducible assumption) | assumption); obtain ⟨ad216, e216, hx216_0, hx216_1, hx216_2, hx216_3⟩ := at_T46 (Kd.C_kept_now HR0_1.out HK.out) a1 p216 q216; (try rw [← Nbq7.out] at hx216_0); cases e216; replace p216 := eq_true p216; replace q216 := eq_true q216) | ((with_reducible refine gate_dst (N := 8) rfl ?_); refine box_event ?hg (N := 8) ?hd (cs := #[.bool false, .int .i64 0, .int .i64 0, .int .i64 0]) (t := 46) ?hr ?_; (case hd => rfl); (case hg => rfl); (case hr => first | (go_simp; done) | (go_simp; rfl)); intro gb217 hg w19 hbox hb; have n0_ := Aside0.mk (Kd.R_below (by (with_reducible repeat (first | apply Kd.R_alloc | apply Kd.R_drewN | apply Kd.R_drew)); exact HO2.out) hb); have n1_ := Aside0.mk (blk_below (g := gb213) (o := .cells #[.int .i64 a0_0, .slice (some ad216) l0_1.length c0_1, .slice A0_2 l0_2.length c0_2, .slice A0_3 l0_3.length c0_3] 30 (0, 0)) (by (with_reducible repeat (first | refine blk_drewN ?_ _ | refine blk_drew ?_ | refine blk_alloc ?_ _)); exact BK213.out) hb); have n2_ := Aside0.mk (Kept.below (S := (fun k_ => P2_ k_)) (by repeat (first | (with_reducible first | exact HK.out | apply Kept.alloc | apply Kept.drewN | apply Kept.drew | refine Kept.setCell ?_ (.inr GW213.out) _) | exact HK.out)) hb); have n3_ := Aside0.mk (below_step (by repeat (first | (with_reducible first | exact HB.out | apply below_alloc | apply pw_below_drewN | apply below_drew1 | refine below_set ?_ GE213.out) | exact HB.out)) hb); have n4_ := Aside0.mk (hbox); have n5_ := Aside0.mk ((by rw [hg]; exact (by first | exact HK.out.1 | exact (show Kept w _ (fun k_ => P2_ k_) from by repeat (first | (with_reducible first | exact HK.out | apply Kept.alloc | apply Kept.drewN | apply Kept.drew | refine Kept.setCell ?_ (.inr GW213.out) _) | exact HK.out)).1) : w.heap.size ≤ gb217)); have n6_ := Aside0.mk ((by rw [hg]; exact (below_size (by repeat (first | (with_reducible first | exact HB.out | apply below_alloc | apply pw_below_drewN | apply below_drew1 | refine below_set ?_ GE213.out) | exact HB.out))) : w0.heap.size ≤ gb217)); have n7_ := Aside0.mk ((by rw [hg]; exact Nat.ne_of_lt (blk_lt (g := gb213) (o := .cells #[.int .i64 a0_0, .slice (some ad216) l0_1.length c0_1, .slice A0_2 l0_2.length c0_2, .slice A0_3 l0_3.length c0_3] 30 (0, 0)) (by (with_reducible repeat (first | refine blk_drewN ?_ _ | refine blk_drew ?_ | refine blk_alloc ?_ _)); exact BK213.out)) : gb213 ≠ gb217)); have n8_ := Aside0.mk ((by rw [hg]; exact Nat.ne_of_gt (blk_lt (g := gb213) (o := .cells #[.int .i64 a0_0, .slice (some ad216) l0_1.length c0_1, .slice A0_2 l0_2.length c0_2, .slice A0_3 l0_3.length c0_3] 30 (0, 0)) (by (with_reducible repeat (first | refine blk_drewN ?_ _ | refine blk_drew ?_ | refine blk_alloc ?_ _)); exact BK213.out)) : gb217 ≠ gb213)); clear HO2; clear BK213; clear HK; clear HB; have HO2 := n0_; have BK213 := n1_; have HK := n2_; have HB := n3_; have BK217 := n4_; have GW217 := n5_; have GE217 := n6_; have NB213_217 := n7_; have NB217_213 := n8_; clear n0_ n1_ n2_ n3_ n4_ n5_ n6_ n7_ n8_; clear hb hbox hg; have hnb20 := NB217_213.out; have hnc20 := NB213_217.out; have hcz21_0 : w19.cell? ⟨gb217, 0, none⟩ = some (.bool false) := (blk_cell BK217.out 0).trans rfl; have hcz21_1 : w19.cell? ⟨gb217, 1, none⟩ = some (.int .i64 0) := (blk_cell BK217.out 1).trans rfl; have hcz21_2 : w19.cell? ⟨gb217, 2, none⟩ = some (.int .i64 0) := (blk_cell BK217.out 2).trans rfl; have hcz21_3 : w19.cell? ⟨gb217, 3, none⟩ = some (.int .i64 0) := (blk_cell BK217.out 3).trans rfl; have hfz21_0 := blk_frozen BK217.out 0; have hfz21_1 := blk_frozen BK217.out 1; have hfz21_2 := blk_frozen BK217.out 2; have hfz21_3 := blk_frozen BK217.out 3))
     (try simp only [Act.put, List.setIfInBounds_toArray, List.set_cons_zero, List.set_cons_succ])
     go_cut [31] (fun v31 wc => ∃ (kq : Nat) (x31_12 : Bool), v31 = .bool x31_12 ∧ Aside0 (spec_lhMark.j0 kq y215 a3 x31_12 a0_0 l0_1 l0_2 l0_3 ((rd_T46 l0_1 a1).f0) ((rd_T46 l0_1 a1).f1) ((rd_T46 l0_1 a1).f2) ((rd_T46 l0_1 a1).f3) = some r) ∧ Aside0 (kq ≤ k) ∧ Aside0 (Kd.R Kd.bool 4 wc w0.heap.size (fun k_ => (P2_ k_ ∨ w.heap.size ≤ k_)) (.slice (some ⟨go11, 0, none⟩) l2.length co15) y215) ∧ Aside0 (wc.heap[gb213]? = some (.cells #[.int .i64 a0_0, (.slice (some ad216) l0_1.length c0_1), (.slice A0_2 l0_2.length c0_2), (.slice A0_3 l0_3.length c0_3)] 30 (0, 0))) ∧ Aside0 (wc.heap[gb217]? = some (.cells #[.bool ((rd_T46 l0_1 a1).f0), .int .i64 ((rd_T46 l0_1 a1).f1), .int .i64 ((rd_T46 l0_1 a1).f2), .int .i64 ((rd_T46 l0_1 a1).f3)] 46 (0, 0))) ∧ Aside0 (Kept w wc (fun k_ => P2_ k_)) ∧ Aside0 (Below w0.heap.size w0 wc))
     case first =>
      have H := HC13.out
      clear HC13
      obtain ⟨bq22, hbq22⟩ : ∃ b_ : Bool, b_ = ((rd_T46 l0_1 a1).f0) := ⟨_, rfl⟩
      replace H : (if bq22 = true then (spec_lhMark.j0 k y215 a3 true a0_0 l0_1 l0_2 l0_3 bq22 ((rd_T46 l0_1 a1).f1) ((rd_T46 l0_1 a1).f2) ((rd_T46 l0_1 a1).f3)) else (if a3 = true then (spec_lhMark.j0 k y215 a3 (decide (a1 < a0_0)) a0_0 l0_1 l0_2 l0_3 bq22 ((rd_T46 l0_1 a1).f1) ((rd_T46 l0_1 a1).f2) ((rd_T46 l0_1 a1).f3)) else (spec_lhMark.j0 k y215 a3 false a0_0 l0_1 l0_2 l0_3 bq22 ((rd_T46 l0_1 a1).f1) ((rd_T46 l0_1 a1).f2) ((rd_T46 l0_1 a1).f3)))) = some r := by rw [← hbq22] at H; exact H
      have Nbq22 := Aside0.mk hbq22
      clear hbq22
      (try rw [← Nbq22.out])
      by_cases c23 : bq22 = true
      ·subst c23
       have H1 : (spec_lhMark.j0 k y215 a3 true a0_0 l0_1 l0_2 l0_3 true ((rd_T46 l0_1 a1).f1) ((rd_T46 l0_1 a1).f2) ((rd_T46 l0_1 a1).f3)) = some r := by rw [if_pos rfl] at H; exact H
       clear H
       have H := H1
       clear H1
       have H' := Aside0.mk H
       clear H
       have hnb24 := NB217_213.out
       have hnc24 := NB213_217.out
       have hcz25_0 : w19.cell? ⟨gb217, 0, none⟩ = some (.bool false) := (blk_cell BK217.out 0).trans rfl
       have hcz25_1 : w19.cell? ⟨gb217, 1, none⟩ = some (.int .i64 0) := (blk_cell BK217.out 1).trans rfl
       have hcz25_2 : w19.cell? ⟨gb217, 2, none⟩ = some (.int .i64 0) := (blk_cell BK217.out 2).trans rfl
       have hcz25_3 : w19.cell? ⟨gb217, 3, none⟩ = some (.int .i64 0) := (blk_cell BK217.out 3).trans rfl
       have hfz25_0 := blk_frozen BK217.out 0
       have hfz25_1 := blk_frozen BK217.out 1
       have hfz25_2 := blk_frozen BK217.out 2
       have hfz25_3 := blk_frozen BK217.out 3
       go_wp2
       go_meet
       case rel => (try simp only [← Nbq7.out, ← Nbq22.out]); exact ⟨_, (true), (by first | rfl | (simp; done) | (simp [*]; done)), H', ⟨by first | omega | exact Nat.le_refl _⟩, ⟨by (with_reducible repeat (first | apply Kd.R_alloc | apply Kd.R_drewN | apply Kd.R_drew)); exact Kd.R_mono (Kd.R_far (p := ⟨gb217, 3, none⟩) (Kd.R_far (p := ⟨gb217, 2, none⟩) (Kd.R_far (p := ⟨gb217, 1, none⟩) (Kd.R_far (p := ⟨gb217, 0, none⟩) (Kd.R_types HO2.out BK217.out (by decide)) (fun _ hk => hk.2) (.bool (true))) (fun _ hk => hk.2) (.int .i64 ((rd_T46 l0_1 a1).f1))) (fun _ hk => hk.2) (.int .i64 ((rd_T46 l0_1 a1).f2))) (fun _ hk => hk.2) (.int .i64 ((rd_T46 l0_1 a1).f3))) (fun _ hk => hk.1)⟩, ⟨by (with_reducible repeat (first | refine blk_drewN ?_ _ | refine blk_drew ?_ | refine blk_alloc ?_ _)); refine blk_far ?_ NB213_217.out _; (with_reducible repeat (first | refine blk_drewN ?_ _ | refine blk_drew ?_ | refine blk_alloc ?_ _)); refine blk_far ?_ NB213_217.out _; (with_reducible repeat (first | refine blk_drewN ?_ _ | refine blk_drew ?_ | refine blk_alloc ?_ _)); refine blk_far ?_ NB213_217.out _; (with_reducible repeat (first | refine blk_drewN ?_ _ | refine blk_drew ?_ | refine blk_alloc ?_ _)); refine blk_far ?_ NB213_217.out _; (with_reducible repeat (first | refine blk_drewN ?_ _ | refine blk_drew ?_ | refine blk_alloc ?_ _)); exact BK213.out⟩, ⟨by (with_reducible repeat (first | refine blk_drewN ?_ _ | refine blk_drew ?_ | refine blk_alloc ?_ _)); refine blk_put (cs := #[.bool (true), .int .i64 ((rd_T46 l0_1 a1).f1), .int .i64 ((rd_T46 l0_1 a1).f2), .int .i64 0]) ?_ 3 _ rfl; (with_reducible repeat (first | refine blk_drewN ?_ _ | refine blk_drew ?_ | refine blk_alloc ?_ _)); refine blk_put (cs := #[.bool (true), .int .i64 ((rd_T46 l0_1 a1).f1), .int .i64 0, .int .i64 0]) ?_ 2 _ rfl; (with_reducible repeat (first | refine blk_drewN ?_ _ | refine blk_drew ?_ | refine blk_alloc ?_ _)); refine blk_put (cs := #[.bool (true), .int .i64 0, .int .i64 0, .int .i64 0]) ?_ 1 _ rfl; (with_reducible repeat (first | refine blk_drewN ?_ _ | refine blk_drew ?_ | refine blk_alloc ?_ _)); refine blk_put (cs := #[.bool false, .int .i64 0, .int .i64 0, .int .i64 0]) ?_ 0 _ rfl; (with_reducible repeat (first | refine blk_drewN ?_ _ | refine blk_drew ?_ | refine blk_alloc ?_ _)); exact BK217.out⟩, ⟨by repeat (first | (with_reducible first | exact HK.out | apply Kept.alloc | apply Kept.drewN | apply Kept.drew | refine Kept.setCell ?_ (.inr GW213.out) _ | refine Kept.setCell ?_ (.inr GW217.out) _) | exact HK.out)⟩, ⟨by repeat (first | (with_reducible first | exact HB.out | apply below_alloc | apply pw_below_drewN | apply below_drew1 | refine below_set ?_ GE213.out | refine below_set ?_ GE217.out) | exact HB.out)⟩⟩
      ·replace c23 := Bool.eq_false_iff.mpr c23
       subst c23
       have H1 : (if a3 = true then (spec_lhMark.j0 k y215 a3 (decide (a1 < a0_0)) a0_0 l0_1 l0_2 l0_3 false ((rd_T46 l0_1 a1).f1) ((rd_T46 l0_1 a1).f2) ((rd_T46 l0_1 a1).f3)) else (spec_lhMark.j0 k y215 a3 false a0_0 l0_1 l0_2 l0_3 false ((rd_T46 l0_1 a1).f1) ((rd_T46 l0_1 a1).f2) ((rd_T46 l0_1 a1).f3))) = some r := by rw [if_neg (show ¬ (false = true) by decide)] at H; exact H
       clear H
       have H := H1
       clear H1
       by_cases c26 : a3 = true
       ·subst c26
        have H1 : (spec_lhMark.j0 k y215 true (decide (a1 < a0_0)) a0_0 l0_1 l0_2 l0_3 false ((rd_T46 l0_1 a1).f1) ((rd_T46 l0_1 a1).f2) ((rd_T46 l0_1 a1).f3)) = some r := by rw [if_pos rfl] at H; exact H
        clear H
        have H := H1
        clear H1
        have H' := Aside0.mk H
        clear H
        have hnb27 := NB217_213.out
        have hnc27 := NB213_217.out
        have hcz28_0 : w19.cell? ⟨gb217, 0, none⟩ = some (.bool false) := (blk_cell BK217.out 0).trans rfl
        have hcz28_1 : w19.cell? ⟨gb217, 1, none⟩ = some (.int .i64 0) := (blk_cell BK217.out 1).trans rfl
        have hcz28_2 : w19.cell? ⟨gb217, 2, none⟩ = some (.int .i64 0) := (blk_cell BK217.out 2).trans rfl
        have hcz28_3 : w19.cell? ⟨gb217, 3, none⟩ = some (.int .i64 0) := (blk_cell BK217.out 3).trans rfl
        have hfz28_0 := blk_frozen BK217.out 0
        have hfz28_1 := blk_frozen BK217.out 1
        have hfz28_2 := blk_frozen BK217.out 2
        have hfz28_3 := blk_frozen BK217.out 3
        have hcz29_0 : w19.cell? ⟨gb213, 0, none⟩ = some (.int .i64 a0_0) := (blk_cell BK213.out 0).trans rfl
        have hcz29_1 : w19.cell? ⟨gb213, 1, none⟩ = some (.slice (some ad216) l0_1.length c0_1) := (blk_cell BK213.out 1).trans rfl
        have hcz29_2 : w19.cell? ⟨gb213, 2, none⟩ = some (.slice A0_2 l0_2.length c0_2) := (blk_cell BK213.out 2).trans rfl
        have hcz29_3 : w19.cell? ⟨gb213, 3, none⟩ = some (.slice A0_3 l0_3.length c0_3) := (blk_cell BK213.out 3).trans rfl
        have hfz29_0 := blk_frozen BK213.out 0
        have hfz29_1 := blk_frozen BK213.out 1
        have hfz29_2 := blk_frozen BK213.out 2
        have hfz29_3 := blk_frozen BK213.out 3
        go_wp2
        go_meet
        case rel => (try simp only [← Nbq7.out, ← Nbq22.out]); exact ⟨_, (decide (a1 < a0_0)), (by first | rfl | (simp; done) | (simp [*]; done)), H', ⟨by first | omega | exact Nat.le_refl _⟩, ⟨by (with_reducible repeat (first | apply Kd.R_alloc | apply Kd.R_drewN | apply Kd.R_drew)); exact Kd.R_mono (Kd.R_far (p := ⟨gb217, 3, none⟩) (Kd.R_far (p := ⟨gb217, 2, none⟩) (Kd.R_far (p := ⟨gb217, 1, none⟩) (Kd.R_far (p := ⟨gb217, 0, none⟩) (Kd.R_types HO2.out BK217.out (by decide)) (fun _ hk => hk.2) (.bool (false))) (fun _ hk => hk.2) (.int .i64 ((rd_T46 l0_1 a1).f1))) (fun _ hk => hk.2) (.int .i64 ((rd_T46 l0_1 a1).f2))) (fun _ hk => hk.2) (.int .i64 ((rd_T46 l0_1 a1).f3))) (fun _ hk => hk.1)⟩, ⟨by (with_reducible repeat (first | refine blk_drewN ?_ _ | refine blk_drew ?_ | refine blk_alloc ?_ _)); refine blk_far ?_ NB213_217.out _; (with_reducible repeat (first | refine blk_drewN ?_ _ | refine blk_drew ?_ | refine blk_alloc ?_ _)); refine blk_far ?_ NB213_217.out _; (with_reducible repeat (first | refine blk_drewN ?_ _ | refine blk_drew ?_ | refine blk_alloc ?_ _)); refine blk_far ?_ NB213_217.out _; (with_reducible repeat (first | refine blk_drewN ?_ _ | refine blk_drew ?_ | refine blk_alloc ?_ _)); refine blk_far ?_ NB213_217.out _; (with_reducible repeat (first | refine blk_drewN ?_ _ | refine blk_drew ?_ | refine blk_alloc ?_ _)); exact BK213.out⟩, ⟨by (with_reducible repeat (first | refine blk_drewN ?_ _ | refine blk_drew ?_ | refine blk_alloc ?_ _)); refine blk_put (cs := #[.bool (false), .int .i64 ((rd_T46 l0_1 a1).f1), .int .i64 ((rd_T46 l0_1 a1).f2), .int .i64 0]) ?_ 3 _ rfl; (with_reducible repeat (first | refine blk_drewN ?_ _ | refine blk_drew ?_ | refine blk_alloc ?_ _)); refine blk_put (cs := #[.bool (false), .int .i64 ((rd_T46 l0_1 a1).f1), .int .i64 0, .int .i64 0]) ?_ 2 _ rfl; (with_reducible repeat (first | refine blk_drewN ?_ _ | refine blk_drew ?_ | refine blk_alloc ?_ _)); refine blk_put (cs := #[.bool (false), .int .i64 0, .int .i64 0, .int .i64 0]) ?_ 1 _ rfl; (with_reducible repeat (first | refine blk_drewN ?_ _ | refine blk_drew ?_ | refine blk_alloc ?_ _)); refine blk_put (cs := #[.bool false, .int .i64 0, .int .i64 0, .int .i64 0]) ?_ 0 _ rfl; (with_reducible repeat (first | refine blk_drewN ?_ _ | refine blk_drew ?_ | refine blk_alloc ?_ _)); exact BK217.out⟩, ⟨by repeat (first | (with_reducible first | exact HK.out | apply Kept.alloc | apply Kept.drewN | apply Kept.drew | refine Kept.setCell ?_ (.inr GW213.out) _ | refine Kept.setCell ?_ (.inr GW217.out) _) | exact HK.out)⟩, ⟨by repeat (first | (with_reducible first | exact HB.out | apply below_alloc | apply pw_below_drewN | apply below_drew1 | refine below_set ?_ GE213.out | refine below_set ?_ GE217.out) | exact HB.out)⟩⟩
       ·replace c26 := Bool.eq_false_iff.mpr c26
        subst c26
        have H1 : (spec_lhMark.j0 k y215 false false a0_0 l0_1 l0_2 l0_3 false ((rd_T46 l0_1 a1).f1) ((rd_T46 l0_1 a1).f2) ((rd_T46 l0_1 a1).f3)) = some r := by rw [if_neg (show ¬ (false = true) by decide)] at H; exact H
        clear H
        have H := H1
        clear H1
        have H' := Aside0.mk H
        clear H
        have hnb30 := NB217_213.out
        have hnc30 := NB213_217.out
        have hcz31_0 : w19.cell? ⟨gb217, 0, none⟩ = some (.bool false) := (blk_cell BK217.out 0).trans rfl
        have hcz31_1 : w19.cell? ⟨gb217, 1, none⟩ = some (.int .i64 0) := (blk_cell BK217.out 1).trans rfl
        have hcz31_2 : w19.cell? ⟨gb217, 2, none⟩ = some (.int .i64 0) := (blk_cell BK217.out 2).trans rfl
        have hcz31_3 : w19.cell? ⟨gb217, 3, none⟩ = some (.int .i64 0) := (blk_cell BK217.out 3).trans rfl
        have hfz31_0 := blk_frozen BK217.out 0
        have hfz31_1 := blk_frozen BK217.out 1
        have hfz31_2 := blk_frozen BK217.out 2
        have hfz31_3 := blk_frozen BK217.out 3
        go_wp2
        go_meet
        case rel => (try simp only [← Nbq7.out, ← Nbq22.out]); exact ⟨_, (false), (by first | rfl | (simp; done) | (simp [*]; done)), H', ⟨by first | omega | exact Nat.le_refl _⟩, ⟨by (with_reducible repeat (first | apply Kd.R_alloc | apply Kd.R_drewN | apply Kd.R_drew)); exact Kd.R_mono (Kd.R_far (p := ⟨gb217, 3, none⟩) (Kd.R_far (p := ⟨gb217, 2, none⟩) (Kd.R_far (p := ⟨gb217, 1, none⟩) (Kd.R_far (p := ⟨gb217, 0, none⟩) (Kd.R_types HO2.out BK217.out (by decide)) (fun _ hk => hk.2) (.bool (false))) (fun _ hk => hk.2) (.int .i64 ((rd_T46 l0_1 a1).f1))) (fun _ hk => hk.2) (.int .i64 ((rd_T46 l0_1 a1).f2))) (fun _ hk => hk.2) (.int .i64 ((rd_T46 l0_1 a1).f3))) (fun _ hk => hk.1)⟩, ⟨by (with_reducible repeat (first | refine blk_drewN ?_ _ | refine blk_drew ?_ | refine blk_alloc ?_ _)); refine blk_far ?_ NB213_217.out _; (with_reducible repeat (first | refine blk_drewN ?_ _ | refine blk_drew ?_ | refine blk_alloc ?_ _)); refine blk_far ?_ NB213_217.out _; (with_reducible repeat (first | refine blk_drewN ?_ _ | refine blk_drew ?_ | refine blk_alloc ?_ _)); refine blk_far ?_ NB213_217.out _; (with_reducible repeat (first | refine blk_drewN ?_ _ | refine blk_drew ?_ | refine blk_alloc ?_ _)); refine blk_far ?_ NB213_217.out _; (with_reducible repeat (first | refine blk_drewN ?_ _ | refine blk_drew ?_ | refine blk_alloc ?_ _)); exact BK213.out⟩, ⟨by (with_reducible repeat (first | refine blk_drewN ?_ _ | refine blk_drew ?_ | refine blk_alloc ?_ _)); refine blk_put (cs := #[.bool (false), .int .i64 ((rd_T46 l0_1 a1).f1), .int .i64 ((rd_T46 l0_1 a1).f2), .int .i64 0]) ?_ 3 _ rfl; (with_reducible repeat (first | refine blk_drewN ?_ _ | refine blk_drew ?_ | refine blk_alloc ?_ _)); refine blk_put (cs := #[.bool (false), .int .i64 ((rd_T46 l0_1 a1).f1), .int .i64 0, .int .i64 0]) ?_ 2 _ rfl; (with_reducible repeat (first | refine blk_drewN ?_ _ | refine blk_drew ?_ | refine blk_alloc ?_ _)); refine blk_put (cs := #[.bool (false), .int .i64 0, .int .i64 0, .int .i64 0]) ?_ 1 _ rfl; (with_reducible repeat (first | refine blk_drewN ?_ _ | refine blk_drew ?_ | refine blk_alloc ?_ _)); refine blk_put (cs := #[.bool false, .int .i64 0, .int .i64 0, .int .i64 0]) ?_ 0 _ rfl; (with_reducible repeat (first | refine blk_drewN ?_ _ | refine blk_drew ?_ | refine blk_alloc ?_ _)); exact BK217.out⟩, ⟨by repeat (first | (with_reducible first | exact HK.out | apply Kept.alloc | apply Kept.drewN | apply Kept.drew | refine Kept.setCell ?_ (.inr GW213.out) _ | refine Kept.setCell ?_ (.inr GW217.out) _) | exact HK.out)⟩, ⟨by repeat (first | (with_reducible first | exact HB.out | apply below_alloc | apply pw_below_drewN | apply below_drew1 | refine below_set ?_ GE213.out | refine below_set ?_ GE217.out) | exact HB.out)⟩⟩
     case rest =>
      clear HC13
      try clear c1
      try clear p1
      try clear q1
      try clear hx1
      try clear c2
      try clear p2
      try clear q2
      try clear hx2
      try clear c3
      try clear c5
      try clear c5b0
      try clear c6
      try clear c6b0
      try clear q7
      try clear c8
      try clear p11
      try clear q11
      try clear hx11
      try clear hf11
      try clear c12
      try clear c12b0
      try clear c20
      try clear p21
      try clear q21
      try clear hx21
      try clear q22
      try clear c23
      try clear c24
      try clear c26
      try clear c27
      try clear c30
      try clear hcz18_0
      try clear hcz18_1
      try clear hcz18_2
      try clear hcz18_3
      try clear hcz21_0
      try clear hcz21_1
      try clear hcz21_2
      try clear hcz21_3
      try clear hcz25_0
      try clear hcz25_1
      try clear hcz25_2
      try clear hcz25_3
      try clear hcz28_0
      try clear hcz28_1
      try clear hcz28_2
      try clear hcz28_3
      try clear hcz29_0
      try clear hcz29_1
      try clear hcz29_2
      try clear hcz29_3
      try clear hcz31_0
      try clear hcz31_1
      try clear hcz31_2
      try clear hcz31_3
      try clear hfz18_0
      try clear hfz18_1
      try clear hfz18_2
      try clear hfz18_3
      try clear hfz21_0
      try clear hfz21_1
      try clear hfz21_2
      try clear hfz21_3
      try clear hfz25_0
      try clear hfz25_1
      try clear hfz25_2
      try clear hfz25_3
      try clear hfz28_0
      try clear hfz28_1
      try clear hfz28_2
      try clear hfz28_3
      try clear hfz29_0
      try clear hfz29_1
      try clear hfz29_2
      try clear hfz29_3
      try clear hfz31_0
      try clear hfz31_1
      try clear hfz31_2
      try clear hfz31_3
      try clear hx11_0
      try clear hx214_0
      try clear hx216_0
      try clear hx216_1
      try clear hx216_2
      try clear hx216_3
      try clear p11
      try clear p214
      try clear p216
      try clear q11
      try clear q214
      try clear q216
      obtain ⟨kq, x31_12, rfl, HA, HJ12, HO_2, BK213, BK217, HK, HB⟩ := hcut
      have hl2_12 := (Kd.R_reads' HO_2.out).1
      rw [hl2_12] at HO_2
      (try simp only [hl2_12])
      (try simp only [hl2_12] at BK213)
      (try simp only [hl2_12] at BK217)
      cases kq with
      | zero => exact absurd HA.out (by simp [spec_lhMark.j0])
      | succ kj12 =>
       have H := HA.out
       clear HA
       simp only [spec_lhMark.j0] at H
       by_cases c32 : x31_12 = true
       ·subst c32
        have H1 : (some y215) = some r := by rw [if_pos rfl] at H; exact H
        clear H
        have H := H1
        clear H1
        obtain rfl := Option.some.inj H
        go_wp2
        first | go_end0 | ((try simp only [Exit.inBlock, Exit.then]); refine bodyPost_ret (results_none rfl _ _ _) rfl ?_)
        exact ⟨by first | rfl | (simp [errW_none, errW_some] <;> rfl) | (simp [*, errW_none, errW_some] <;> rfl), (by first | exact (by (with_reducible repeat (first | apply Kd.R_alloc | apply Kd.R_drewN | apply Kd.R_drew)); exact HO_2.out) | (simp only [hl2_12]; exact (by (with_reducible repeat (first | apply Kd.R_alloc | apply Kd.R_drewN | apply Kd.R_drew)); exact HO_2.out))), by repeat (first | (with_reducible first | exact HB.out | apply below_alloc | apply pw_below_drewN | apply below_drew1 | refine below_set ?_ GE213.out | refine below_set ?_ GE217.out) | exact HB.out), by repeat (first | (with_reducible first | exact HK.out | apply Kept.alloc | apply Kept.drewN | apply Kept.drew | refine Kept.setCell ?_ (.inr GW213.out) _ | refine Kept.setCell ?_ (.inr GW217.out) _) | exact HK.out)⟩
       ·replace c32 := Bool.eq_false_iff.mpr c32
        subst c32
        have H1 : ((spec_lhMark.f kj12 a0_0 l0_1 l0_2 l0_3 ((rd_T46 l0_1 a1).f2) y215 a3).bind fun t218 => ((spec_lhMark.f kj12 a0_0 l0_1 l0_2 l0_3 ((rd_T46 l0_1 a1).f3) t218 a3).bind fun t219 => (some t219))) = some r := by rw [if_neg (show ¬ (false = true) by decide)] at H; exact H
        clear H
        have H := H1
        clear H1
        replace H := Option.bind_eq_some_iff.mp H
        obtain ⟨t218, A330, H⟩ := H
        replace H : ((spec_lhMark.f kj12 a0_0 l0_1 l0_2 l0_3 ((rd_T46 l0_1 a1).f3) t218 a3).bind fun t219 => (some t219)) = some r := H
        have A33 := Aside0.mk A330
        clear A330
        replace H := Option.bind_eq_some_iff.mp H
        obtain ⟨t219, A340, H⟩ := H
        replace H : (some t219) = some r := H
        have A34 := Aside0.mk A340
        clear A340
        obtain rfl := Option.some.inj H
        have hnb35 := NB213_217.out
        have hnc35 := NB217_213.out
        have hcz36_0 : wc.cell? ⟨gb213, 0, none⟩ = some (.int .i64 a0_0) := (blk_cell BK213.out 0).trans rfl
        have hcz36_1 : wc.cell? ⟨gb213, 1, none⟩ = some (.slice (some ad216) l0_1.length c0_1) := (blk_cell BK213.out 1).trans rfl
        have hcz36_2 : wc.cell? ⟨gb213, 2, none⟩ = some (.slice A0_2 l0_2.length c0_2) := (blk_cell BK213.out 2).trans rfl
        have hcz36_3 : wc.cell? ⟨gb213, 3, none⟩ = some (.slice A0_3 l0_3.length c0_3) := (blk_cell BK213.out 3).trans rfl
        have hfz36_0 := blk_frozen BK213.out 0
        have hfz36_1 := blk_frozen BK213.out 1
        have hfz36_2 := blk_frozen BK213.out 2
        have hfz36_3 := blk_frozen BK213.out 3
        have hcz37_0 : wc.cell? ⟨gb217, 0, none⟩ = some (.bool ((rd_T46 l0_1 a1).f0)) := (blk_cell BK217.out 0).trans rfl
        have hcz37_1 : wc.cell? ⟨gb217, 1, none⟩ = some (.int .i64 ((rd_T46 l0_1 a1).f1)) := (blk_cell BK217.out 1).trans rfl
        have hcz37_2 : wc.cell? ⟨gb217, 2, none⟩ = some (.int .i64 ((rd_T46 l0_1 a1).f2)) := (blk_cell BK217.out 2).trans rfl
        have hcz37_3 : wc.cell? ⟨gb217, 3, none⟩ = some (.int .i64 ((rd_T46 l0_1 a1).f3)) := (blk_cell BK217.out 3).trans rfl
        have hfz37_0 := blk_frozen BK217.out 0
        have hfz37_1 := blk_frozen BK217.out 1
        have hfz37_2 := blk_frozen BK217.out 2
        have hfz37_3 := blk_frozen BK217.out 3
        go_wp2_with (first | ((with_reducible refine gate_callee (f := 56) rfl ?_); refine goesL_ (some 37) rfl rfl Try.func56 (by kernel_rfl) rfl #[.agg #[.int .i64 a0_0, .slice (some ad216) l0_1.length c0_1, .slice A0_2 l0_2.length c0_2, .slice A0_3 l0_3.length c0_3], .int .i64 ((rd_T46 l0_1 a1).f2), .slice (some ⟨go11, 0, none⟩) y215.length co15, .bool a3] rfl (by (try simp only [List.map_toArray, List.map_cons, List.map_nil]); first | done | rfl | (simp only [List.length_drop, List.length_take]; rfl)) ?_; (with_reducible refine (ih kj12 (by have := HJ12.out; omega) a0_0 _ _ l0_1 _ _ l0_2 _ _ l0_3 ((rd_T46 l0_1 a1).f2) (fun k_ => some k_ = (.slice (some ⟨go11, 0, none⟩) y215.length co15 : Value).ownBlock) (.slice (some ⟨go11, 0, none⟩) y215.length co15) y215 a3 t218 w0 _ ?side1 ?side2 ?side3 ?side4 ?side5 ?side6 ?side7 ?side8 A33.out).mono ?_); (case side1 => repeat (first | (with_reducible first | exact HB.out | apply below_alloc | apply pw_below_drewN | apply below_drew1 | refine below_set ?_ GE213.out | refine below_set ?_ GE217.out) | exact HB.out)); (case side2 => exact Kd.C_kept_call HR0_1.out (by repeat (first | (with_reducible first | exact HK.out | apply Kept.alloc | apply Kept.drewN | apply Kept.drew | refine Kept.setCell ?_ (.inr GW213.out) _ | refine Kept.setCell ?_ (.inr GW217.out) _) | exact HK.out)) (fun k_ hs_ => (fun e_ => (HO_2.out.1 k_ e_.symm)) hs_)); (case side3 => exact HC0_1.out); (case side4 => exact Kd.C_kept_call HR0_2.out (by repeat (first | (with_reducible first | exact HK.out | apply Kept.alloc | apply Kept.drewN | apply Kept.drew | refine Kept.setCell ?_ (.inr GW213.out) _ | refine Kept.setCell ?_ (.inr GW217.out) _) | exact HK.out)) (fun k_ hs_ => (fun e_ => (HO_2.out.1 k_ e_.symm)) hs_)); (case side5 => exact HC0_2.out); (case side6 => exact Kd.C_kept_call HR0_3.out (by repeat (first | (with_reducible first | exact HK.out | apply Kept.alloc | apply Kept.drewN | apply Kept.drew | refine Kept.setCell ?_ (.inr GW213.out) _ | refine Kept.setCell ?_ (.inr GW217.out) _) | exact HK.out)) (fun k_ hs_ => (fun e_ => (HO_2.out.1 k_ e_.symm)) hs_)); (case side7 => exact HC0_3.out); (case side8 => exact Kd.R_tight rfl HO_2.out); rintro e w38 ⟨rfl, hy0, hb, hkp⟩; refine ⟨_, rfl, ?_⟩; have n0_ := Aside0.mk (Kd.R_reok rfl hy0 (fun k_ e_ => HO_2.out.1 k_ e_)); have n1_ := Aside0.mk (blk_kept (by (with_reducible repeat (first | refine blk_drewN ?_ _ | refine blk_drew ?_ | refine blk_alloc ?_ _)); exact BK213.out) hkp (fun hs_ => (fun e_ => (Kd.R_ne HO_2.out BK213.out (by decide)) e_) hs_)); have n2_ := Aside0.mk (blk_kept (by (with_reducible repeat (first | refine blk_drewN ?_ _ | refine blk_drew ?_ | refine blk_alloc ?_ _)); exact BK217.out) hkp (fun hs_ => (fun e_ => (Kd.R_ne HO_2.out BK217.out (by decide)) e_) hs_)); have n3_ := Aside0.mk (Kept.then_ (S := (fun k_ => P2_ k_)) (by repeat (first | (with_reducible first | exact HK.out | apply Kept.alloc | apply Kept.drewN | apply Kept.drew | refine Kept.setCell ?_ (.inr GW213.out) _ | refine Kept.setCell ?_ (.inr GW217.out) _) | exact HK.out)) hkp (fun k_ hs_ => (fun e_ => (HO_2.out.1 k_ e_.symm)) hs_)); have n4_ := Aside0.mk (hb); clear HO_2; clear BK213; clear BK217; clear HK; clear HB; have HO_2 := n0_; have BK213 := n1_; have BK217 := n2_; have HK := n3_; have HB := n4_; clear n0_ n1_ n2_ n3_ n4_; (try clear hb); (try clear hkp); (try clear hy0); have hcz39_0 : w38.cell? ⟨gb213, 0, none⟩ = some (.int .i64 a0_0) := (blk_cell BK213.out 0).trans rfl; have hcz39_1 : w38.cell? ⟨gb213, 1, none⟩ = some (.slice (some ad216) l0_1.length c0_1) := (blk_cell BK213.out 1).trans rfl; have hcz39_2 : w38.cell? ⟨gb213, 2, none⟩ = some (.slice A0_2 l0_2.length c0_2) := (blk_cell BK213.out 2).trans rfl; have hcz39_3 : w38.cell? ⟨gb213, 3, none⟩ = some (.slice A0_3 l0_3.length c0_3) := (blk_cell BK213.out 3).trans rfl; have hfz39_0 := blk_frozen BK213.out 0; have hfz39_1 := blk_frozen BK213.out 1; have hfz39_2 := blk_frozen BK213.out 2; have hfz39_3 := blk_frozen BK213.out 3; have hcz40_0 : w38.cell? ⟨gb217, 0, none⟩ = some (.bool ((rd_T46 l0_1 a1).f0)) := (blk_cell BK217.out 0).trans rfl; have hcz40_1 : w38.cell? ⟨gb217, 1, none⟩ = some (.int .i64 ((rd_T46 l0_1 a1).f1)) := (blk_cell BK217.out 1).trans rfl; have hcz40_2 : w38.cell? ⟨gb217, 2, none⟩ = some (.int .i64 ((rd_T46 l0_1 a1).f2)) := (blk_cell BK217.out 2).trans rfl; have hcz40_3 : w38.cell? ⟨gb217, 3, none⟩ = some (.int .i64 ((rd_T46 l0_1 a1).f3)) := (blk_cell BK217.out 3).trans rfl; have hfz40_0 := blk_frozen BK217.out 0; have hfz40_1 := blk_frozen BK217.out 1; have hfz40_2 := blk_frozen BK217.out 2; have hfz40_3 := blk_frozen BK217.out 3) | ((with_reducible refine gate_callee (f := 56) rfl ?_); refine goesL_ (some 43) rfl rfl Try.func56 (by kernel_rfl) rfl #[.agg #[.int .i64 a0_0, .slice (some ad216) l0_1.length c0_1, .slice A0_2 l0_2.length c0_2, .slice A0_3 l0_3.length c0_3], .int .i64 ((rd_T46 l0_1 a1).f3), .slice (some ⟨go11, 0, none⟩) y215.length co15, .bool a3] rfl (by (try simp only [List.map_toArray, List.map_cons, List.map_nil]); first | done | rfl | (simp only [List.length_drop, List.length_take]; rfl)) ?_; (with_reducible refine (ih kj12 (by have := HJ12.out; omega) a0_0 _ _ l0_1 _ _ l0_2 _ _ l0_3 ((rd_T46 l0_1 a1).f3) (fun k_ => some k_ = (.slice (some ⟨go11, 0, none⟩) y215.length co15 : Value).ownBlock) (.slice (some ⟨go11, 0, none⟩) y215.length co15) t218 a3 t219 w0 _ ?side1 ?side2 ?side3 ?side4 ?side5 ?side6 ?side7 ?side8 A34.out).mono ?_); (case side1 => repeat (first | (with_reducible first | exact HB.out | apply below_alloc | apply pw_below_drewN | apply below_drew1 | refine below_set ?_ GE213.out | refine below_set ?_ GE217.out) | exact HB.out)); (case side2 => exact Kd.C_kept_call HR0_1.out (by repeat (first | (with_reducible first | exact HK.out | apply Kept.alloc | apply Kept.drewN | apply Kept.drew | refine Kept.setCell ?_ (.inr GW213.out) _ | refine Kept.setCell ?_ (.inr GW217.out) _) | exact HK.out)) (fun k_ hs_ => (fun e_ => (HO_2.out.1 k_ e_.symm)) hs_)); (case side3 => exact HC0_1.out); (case side4 => exact Kd.C_kept_call HR0_2.out (by repeat (first | (with_reducible first | exact HK.out | apply Kept.alloc | apply Kept.drewN | apply Kept.drew | refine Kept.setCell ?_ (.inr GW213.out) _ | refine Kept.setCell ?_ (.inr GW217.out) _) | exact HK.out)) (fun k_ hs_ => (fun e_ => (HO_2.out.1 k_ e_.symm)) hs_)); (case side5 => exact HC0_2.out); (case side6 => exact Kd.C_kept_call HR0_3.out (by repeat (first | (with_reducible first | exact HK.out | apply Kept.alloc | apply Kept.drewN | apply Kept.drew | refine Kept.setCell ?_ (.inr GW213.out) _ | refine Kept.setCell ?_ (.inr GW217.out) _) | exact HK.out)) (fun k_ hs_ => (fun e_ => (HO_2.out.1 k_ e_.symm)) hs_)); (case side7 => exact HC0_3.out); (case side8 => exact Kd.R_tight rfl HO_2.out); rintro e w41 ⟨rfl, hy0, hb, hkp⟩; refine ⟨_, rfl, ?_⟩; have n0_ := Aside0.mk (Kd.R_reok rfl hy0 (fun k_ e_ => HO_2.out.1 k_ e_)); have n1_ := Aside0.mk (blk_kept (by (with_reducible repeat (first | refine blk_drewN ?_ _ | refine blk_drew ?_ | refine blk_alloc ?_ _)); exact BK213.out) hkp (fun hs_ => (fun e_ => (Kd.R_ne HO_2.out BK213.out (by decide)) e_) hs_)); have n2_ := Aside0.mk (blk_kept (by (with_reducible repeat (first | refine blk_drewN ?_ _ | refine blk_drew ?_ | refine blk_alloc ?_ _)); exact BK217.out) hkp (fun hs_ => (fun e_ => (Kd.R_ne HO_2.out BK217.out (by decide)) e_) hs_)); have n3_ := Aside0.mk (Kept.then_ (S := (fun k_ => P2_ k_)) (by repeat (first | (with_reducible first | exact HK.out | apply Kept.alloc | apply Kept.drewN | apply Kept.drew | refine Kept.setCell ?_ (.inr GW213.out) _ | refine Kept.setCell ?_ (.inr GW217.out) _) | exact HK.out)) hkp (fun k_ hs_ => (fun e_ => (HO_2.out.1 k_ e_.symm)) hs_)); have n4_ := Aside0.mk (hb); clear HO_2; clear BK213; clear BK217; clear HK; clear HB; have HO_2 := n0_; have BK213 := n1_; have BK217 := n2_; have HK := n3_; have HB := n4_; clear n0_ n1_ n2_ n3_ n4_; (try clear hb); (try clear hkp); (try clear hy0)))
        first | go_end0 | ((try simp only [Exit.inBlock, Exit.then]); refine bodyPost_ret (results_none rfl _ _ _) rfl ?_)
        exact ⟨by first | rfl | (simp [errW_none, errW_some] <;> rfl) | (simp [*, errW_none, errW_some] <;> rfl), (by first | exact (by (with_reducible repeat (first | apply Kd.R_alloc | apply Kd.R_drewN | apply Kd.R_drew)); exact HO_2.out) | (simp only [hl2_12]; exact (by (with_reducible repeat (first | apply Kd.R_alloc | apply Kd.R_drewN | apply Kd.R_drew)); exact HO_2.out))), by repeat (first | (with_reducible first | exact HB.out | apply below_alloc | apply pw_below_drewN | apply below_drew1 | refine below_set ?_ GE213.out | refine below_set ?_ GE217.out) | exact HB.out), by repeat (first | (with_reducible first | exact HK.out | apply Kept.alloc | apply Kept.drewN | apply Kept.drew | refine Kept.setCell ?_ (.inr GW213.out) _ | refine Kept.setCell ?_ (.inr GW217.out) _) | exact HK.out)⟩
    ·rw [if_neg c12] at H
     exact absurd H (by simp)
  ·rw [if_neg c6] at H
   exact absurd H (by simp)
 ·rw [if_neg c5] at H
  exact absurd H (by simp)
end Go.Proofs.Ytpjikgeglhjehaa.PH
/- What functions of the program come to, each told as a plain function (told by wp.py, a program of this session's, over the kit's print.py). No condition beyond what each theorem states. -/
namespace Go.Proofs.Ytpjikgeglhjehaa.PH
open Go.RowKit Go.Proofs.YtpjikgeglhjehaaW.PrintWords Go.Proofs.YtpjikgeglhjehaaW.PrintLast Go.Proofs.YtpjikgeglhjehaaW.PrintMore
attribute [local go_sem] max2_int min2_int max_two min_two max_three min_three max_four min_four   -- for this text's walks alone
set_option linter.unusedVariables false
set_option linter.unusedSimpArgs false
def spec_lhLive.l0 : Nat → List Bool → List Int → Int → Int → Int → List (S46) → List Int → List Int → Option (List Bool)
 | 0, _, _, _, _, _, _, _, _ => none
 | k + 1, x3, x11, x12, x13, x221000, x221001, x221002, x221003 => if x13 < x12 then (if 0 ≤ x13 then (if x13 < (x11.length : Int) then ((spec_lhMark.f k x221000 x221001 x221002 x221003 (rd x11 x13) x3 false).bind fun t225 => (spec_lhLive.l0 k t225 x11 x12 (wrap64 (x13 + 1)) x221000 x221001 x221002 x221003)) else (none)) else (none)) else (some x3)
def spec_lhLive.f (k : Nat) (a0_0 : Int) (l0_1 : List (S46)) (l0_2 : List Int) (l0_3 : List Int) : Option (List Bool) := if 0 ≤ (l0_1.length : Int) then (if ((l0_1.length : Int) : Int).toNat ≤ 281474976710656 then (spec_lhLive.l0 k (List.replicate ((l0_1.length : Int) : Int).toNat false) l0_2 (l0_2.length : Int) 0 a0_0 l0_1 l0_2 l0_3) else (none)) else (none)
theorem spec_lhLive.mono_l : ∀ k, (∀ y0 y1 y2 y3 y4 y5 y6 y7, LeO (spec_lhLive.l0 k y0 y1 y2 y3 y4 y5 y6 y7) (spec_lhLive.l0 (k + 1) y0 y1 y2 y3 y4 y5 y6 y7))
 | 0 => fun _ _ _ _ _ _ _ _ r h => by simp [spec_lhLive.l0] at h
 | k + 1 => by
  have ih0 := spec_lhLive.mono_l k
  ·intro y0 y1 y2 y3 y4 y5 y6 y7
   unfold spec_lhLive.l0
   repeat' first
   | (with_reducible exact ih0 _ _ _ _ _ _ _ _)
   | (with_reducible exact spec_lhMark.mono _ _ _ _ _ _ _ _)
   | (with_reducible exact LeO.refl _)
   | (with_reducible exact LeO.none _)
   | (with_reducible refine LeO.ite ?_ ?_)
   | (with_reducible refine LeO.bind ?_ (fun _ => ?_))
   | exact ih0 _ _ _ _ _ _ _ _
   | exact spec_lhMark.mono _ _ _ _ _ _ _ _
   | exact LeO.none _
   | refine LeO.ite ?_ ?_
   | refine LeO.bind ?_ (fun _ => ?_)
theorem spec_lhLive.mono : ∀ a0 a1 a2 a3 k, LeO (spec_lhLive.f k a0 a1 a2 a3) (spec_lhLive.f (k + 1) a0 a1 a2 a3) := by
 intro a0 a1 a2 a3 k
 have ih0 := spec_lhLive.mono_l k
 unfold spec_lhLive.f
 repeat' first
   | (with_reducible exact ih0 _ _ _ _ _ _ _ _)
   | (with_reducible exact spec_lhMark.mono _ _ _ _ _ _ _ _)
   | (with_reducible exact LeO.refl _)
   | (with_reducible exact LeO.none _)
   | (with_reducible refine LeO.ite ?_ ?_)
   | (with_reducible refine LeO.bind ?_ (fun _ => ?_))
   | exact ih0 _ _ _ _ _ _ _ _
   | exact spec_lhMark.mono _ _ _ _ _ _ _ _
   | exact LeO.none _
   | refine LeO.ite ?_ ?_
   | refine LeO.bind ?_ (fun _ => ?_)
set_option maxHeartbeats 8000000 in
set_option maxRecDepth 100000 in
theorem spec_lhLive.calls (k : Nat) (a0_0 : Int) (A0_1 : Option Addr) (c0_1 : Nat) (l0_1 : List (S46)) (A0_2 : Option Addr) (c0_2 : Nat) (l0_2 : List Int) (A0_3 : Option Addr) (c0_3 : Nat) (l0_3 : List Int) (r : List Bool) (w : World) (hr0_1 : Kd.C k46 w A0_1 l0_1.length l0_1) (hc0_1 : l0_1.length ≤ c0_1) (hr0_2 : Kd.C (Kd.int .i64) w A0_2 l0_2.length l0_2) (hc0_2 : l0_2.length ≤ c0_2) (hr0_3 : Kd.C (Kd.int .i64) w A0_3 l0_3.length l0_3) (hc0_3 : l0_3.length ≤ c0_3) (h : spec_lhLive.f k a0_0 l0_1 l0_2 l0_3 = some r) :
  Calls Try.prog 38 #[.agg #[.int .i64 a0_0, .slice A0_1 l0_1.length c0_1, .slice A0_2 l0_2.length c0_2, .slice A0_3 l0_3.length c0_3]] w fun e w' => ∃ v0_ : Value, e = .returned (v0_) ∧ Kd.R Kd.bool 4 w' w.heap.size (fun _ => True) v0_ r ∧ Below w.heap.size w w' := by
 have hu30 := Try.underlying30
 have HR0_1 := Aside0.mk hr0_1
 have HC0_1 := Aside0.mk hc0_1
 clear hr0_1 hc0_1
 have HR0_2 := Aside0.mk hr0_2
 have HC0_2 := Aside0.mk hc0_2
 clear hr0_2 hc0_2
 have HR0_3 := Aside0.mk hr0_3
 have HC0_3 := Aside0.mk hc0_3
 clear hr0_3 hc0_3
 have HB := Aside0.mk (Below.refl w.heap.size w)
 have H : (if 0 ≤ (l0_1.length : Int) then (if ((l0_1.length : Int) : Int).toNat ≤ 281474976710656 then (spec_lhLive.l0 k (List.replicate ((l0_1.length : Int) : Int).toNat false) l0_2 (l0_2.length : Int) 0 a0_0 l0_1 l0_2 l0_3) else (none)) else (none)) = some r := h
 clear h
 by_cases c2 : 0 ≤ (l0_1.length : Int)
 ·rw [if_pos c2] at H
  have c2b0 := eq_true c2
  have c2b1 : decide (0 ≤ (l0_1.length : Int)) = true := decide_eq_true c2
  clear c2
  by_cases c3 : ((l0_1.length : Int) : Int).toNat ≤ 281474976710656
  ·rw [if_pos c3] at H
   have c3b0 := eq_true c3
   have c3b1 : decide (((l0_1.length : Int) : Int).toNat ≤ 281474976710656) = true := decide_eq_true c3
   clear c3
   obtain ⟨y221, hy221⟩ : ∃ y_ : List Bool, y_ = (List.replicate ((l0_1.length : Int) : Int).toNat false) := ⟨_, rfl⟩
   replace H : (spec_lhLive.l0 k y221 l0_2 (l0_2.length : Int) 0 a0_0 l0_1 l0_2 l0_3) = some r := by first | (rw [hy221]; with_reducible exact H) | (have H2_ := (Option.bind_some _ _).symm.trans H; rw [hy221]; with_reducible exact H2_) | (have H2_ := (Option.bind_some _ _).symm.trans H; with_reducible exact H2_) | with_reducible exact H | (rw [hy221]; exact H) | exact H
   have Ny221 := Aside0.mk hy221
   clear hy221
   have H' := Aside0.mk H
   clear H
   go_enter Try.func38, Try.ntmps38
   go_wp2_with (first | ((with_reducible refine gate_dst (N := 1) rfl ?_); refine box_event ?hg (N := 1) ?hd (cs := #[.int .i64 a0_0, .slice A0_1 l0_1.length c0_1, .slice A0_2 l0_2.length c0_2, .slice A0_3 l0_3.length c0_3]) (t := 30) ?hr ?_; (case hd => rfl); (case hg => rfl); (case hr => first | (go_simp; done) | (go_simp; rfl)); intro gb220 hg w4 hbox hb; have n0_ := Aside0.mk (below_step (by repeat (first | (with_reducible first | exact HB.out | apply below_alloc | apply pw_below_drewN | apply below_drew1) | exact HB.out)) hb); have n1_ := Aside0.mk (hbox); have n2_ := Aside0.mk ((by rw [hg]; exact (below_size (by repeat (first | (with_reducible first | exact HB.out | apply below_alloc | apply pw_below_drewN | apply below_drew1) | exact HB.out))) : w.heap.size ≤ gb220)); have n3_ := Aside0.mk ((by rw [hg]; exact (below_size (by repeat (first | (with_reducible first | exact HB.out | apply below_alloc | apply pw_below_drewN | apply below_drew1) | exact HB.out))) : w.heap.size ≤ gb220)); clear HB; have HB := n0_; have BK220 := n1_; have GW220 := n2_; have GE220 := n3_; clear n0_ n1_ n2_ n3_; clear hb hbox hg; have hcz5_0 : w4.cell? ⟨gb220, 0, none⟩ = some (.int .i64 a0_0) := (blk_cell BK220.out 0).trans rfl; have hcz5_1 : w4.cell? ⟨gb220, 1, none⟩ = some (.slice A0_1 l0_1.length c0_1) := (blk_cell BK220.out 1).trans rfl; have hcz5_2 : w4.cell? ⟨gb220, 2, none⟩ = some (.slice A0_2 l0_2.length c0_2) := (blk_cell BK220.out 2).trans rfl; have hcz5_3 : w4.cell? ⟨gb220, 3, none⟩ = some (.slice A0_3 l0_3.length c0_3) := (blk_cell BK220.out 3).trans rfl; have hfz5_0 := blk_frozen BK220.out 0; have hfz5_1 := blk_frozen BK220.out 1; have hfz5_2 := blk_frozen BK220.out 2; have hfz5_3 := blk_frozen BK220.out 3) | ((with_reducible refine gate_dst (N := 9) rfl ?_); refine Kd.R_make Kd.bool _ 4 rfl (N := 9) rfl 54 _ _ rfl (l0_1.length : Int) rfl rfl Try.underlying54 (.bool false) 1 info4 rfl (by decide) (by omega) false (ok := fun _ => True) (okp := fun _ => True) rfl (fun _ hk => hk) trivial (of_decide_eq_true (by first | (with_reducible assumption) | assumption)) (Nat.le_trans (Nat.mul_le_mul_right _ (of_decide_eq_true (by first | (with_reducible assumption) | assumption) : (l0_1.length : Int).toNat ≤ 281474976710656)) (by omega)) (Below.refl _ _) (Nat.le_refl _) ?_; intro v222 w6 ho7 hb hg_ hnew_; clear hg_ hnew_; (first | rw [← Ny221.out] at ho7 | (simp only [Int.reduceToNat] at ho7; rw [← Ny221.out] at ho7)); have n0_ := Aside0.mk (Kd.R_lower ho7 (below_size (by repeat (first | (with_reducible first | exact HB.out | apply below_alloc | apply pw_below_drewN | apply below_drew1 | refine below_set ?_ GE220.out) | exact HB.out)))); have n1_ := Aside0.mk (blk_below (g := gb220) (o := .cells #[.int .i64 a0_0, .slice A0_1 l0_1.length c0_1, .slice A0_2 l0_2.length c0_2, .slice A0_3 l0_3.length c0_3] 30 (0, 0)) (by (with_reducible repeat (first | refine blk_drewN ?_ _ | refine blk_drew ?_ | refine blk_alloc ?_ _)); exact BK220.out) hb); have n2_ := Aside0.mk (below_step (by repeat (first | (with_reducible first | exact HB.out | apply below_alloc | apply pw_below_drewN | apply below_drew1 | refine below_set ?_ GE220.out) | exact HB.out)) hb); clear BK220; clear HB; have HO223 := n0_; have BK220 := n1_; have HB := n2_; clear n0_ n1_ n2_; clear hb ho7; have hcz8_0 : w6.cell? ⟨gb220, 0, none⟩ = some (.int .i64 a0_0) := (blk_cell BK220.out 0).trans rfl; have hcz8_1 : w6.cell? ⟨gb220, 1, none⟩ = some (.slice A0_1 l0_1.length c0_1) := (blk_cell BK220.out 1).trans rfl; have hcz8_2 : w6.cell? ⟨gb220, 2, none⟩ = some (.slice A0_2 l0_2.length c0_2) := (blk_cell BK220.out 2).trans rfl; have hcz8_3 : w6.cell? ⟨gb220, 3, none⟩ = some (.slice A0_3 l0_3.length c0_3) := (blk_cell BK220.out 3).trans rfl; have hfz8_0 := blk_frozen BK220.out 0; have hfz8_1 := blk_frozen BK220.out 1; have hfz8_2 := blk_frozen BK220.out 2; have hfz8_3 := blk_frozen BK220.out 3))
   go_loopg [13] k (fun kq v13 w' => ∃ (x3_1 : List Bool) (x13_1 : Int), v13 = .int .i64 x13_1 ∧ Aside0 (spec_lhLive.l0 kq x3_1 l0_2 (l0_2.length : Int) x13_1 a0_0 l0_1 l0_2 l0_3 = some r) ∧ Aside0 (kq ≤ k) ∧ Aside0 (Kd.R Kd.bool 4 w' w.heap.size (fun _ => True) v222 x3_1) ∧ Aside0 (w'.heap[gb220]? = some (.cells #[.int .i64 a0_0, (.slice A0_1 l0_1.length c0_1), (.slice A0_2 l0_2.length c0_2), (.slice A0_3 l0_3.length c0_3)] 30 (0, 0))) ∧ Aside0 (Below w.heap.size w w'))
   case atStart => exact ⟨(y221), (0), (by first | rfl | (simp; done) | (simp [*]; done)), H', ⟨Nat.le_refl _⟩, ⟨by (with_reducible repeat (first | apply Kd.R_alloc | apply Kd.R_drewN | apply Kd.R_drew)); exact HO223.out⟩, ⟨by (with_reducible repeat (first | refine blk_drewN ?_ _ | refine blk_drew ?_ | refine blk_alloc ?_ _)); exact BK220.out⟩, ⟨by repeat (first | (with_reducible first | exact HB.out | apply below_alloc | apply pw_below_drewN | apply below_drew1 | refine below_set ?_ GE220.out) | exact HB.out)⟩⟩
   case round =>
    clear H'
    try clear c2
    try clear c2b0
    try clear c2b1
    try clear p2
    try clear c3
    try clear c3b0
    try clear c3b1
    try clear hcz5_0
    try clear hcz5_1
    try clear hcz5_2
    try clear hcz5_3
    try clear hcz8_0
    try clear hcz8_1
    try clear hcz8_2
    try clear hcz8_3
    try clear hfz5_0
    try clear hfz5_1
    try clear hfz5_2
    try clear hfz5_3
    try clear hfz8_0
    try clear hfz8_1
    try clear hfz8_2
    try clear hfz8_3
    obtain ⟨x3_1, x13_1, rfl, HA, HK1, HO_3, BK220, HB⟩ := hrel
    cases gk with
    | zero => exact absurd HA.out (by simp [spec_lhLive.l0])
    | succ k1 =>
     have H := HA.out
     clear HA
     simp only [spec_lhLive.l0] at H
     by_cases c9 : x13_1 < (l0_2.length : Int)
     ·rw [if_pos c9] at H
      have c9b0 : decide (x13_1 < (l0_2.length : Int)) = true := decide_eq_true c9
      clear c9
      by_cases c10 : 0 ≤ x13_1
      ·rw [if_pos c10] at H
       have c10b0 : decide (0 ≤ x13_1) = true := decide_eq_true c10
       clear c10
       by_cases c11 : x13_1 < (l0_2.length : Int)
       ·rw [if_pos c11] at H
        have c11b0 : decide (x13_1 < (l0_2.length : Int)) = true := decide_eq_true c11
        clear c11
        replace H := Option.bind_eq_some_iff.mp H
        obtain ⟨t225, A120, H⟩ := H
        replace H : (spec_lhLive.l0 k1 t225 l0_2 (l0_2.length : Int) (wrap64 (x13_1 + 1)) a0_0 l0_1 l0_2 l0_3) = some r := H
        have A12 := Aside0.mk A120
        clear A120
        have H' := Aside0.mk H
        clear H
        have p224 : 0 ≤ (x13_1 : Int) := of_decide_eq_true (by first | (with_reducible assumption) | assumption)
        have q224 : x13_1 < (l0_2.length : Int) := of_decide_eq_true (by first | (with_reducible assumption) | assumption)
        obtain ⟨ad224, e224, hx224_0⟩ := Kd.at_int HR0_2.out x13_1 p224 q224
        cases e224
        replace hx224_0 := (HB.out.cell (World.block_lt_of_cell? w _ hx224_0)).trans hx224_0
        replace p224 := eq_true p224
        replace q224 := eq_true q224
        have hcz13_0 : wr.cell? ⟨gb220, 0, none⟩ = some (.int .i64 a0_0) := (blk_cell BK220.out 0).trans rfl
        have hcz13_1 : wr.cell? ⟨gb220, 1, none⟩ = some (.slice A0_1 l0_1.length c0_1) := (blk_cell BK220.out 1).trans rfl
        have hcz13_2 : wr.cell? ⟨gb220, 2, none⟩ = some (.slice (some ad224) l0_2.length c0_2) := (blk_cell BK220.out 2).trans rfl
        have hcz13_3 : wr.cell? ⟨gb220, 3, none⟩ = some (.slice A0_3 l0_3.length c0_3) := (blk_cell BK220.out 3).trans rfl
        have hfz13_0 := blk_frozen BK220.out 0
        have hfz13_1 := blk_frozen BK220.out 1
        have hfz13_2 := blk_frozen BK220.out 2
        have hfz13_3 := blk_frozen BK220.out 3
        obtain ⟨Ao14, co14, eo14⟩ := Kd.R_slice HO_3.out
        subst eo14
        go_wp2_with (first | ((with_reducible refine gate_callee (f := 56) rfl ?_); refine goesL_ (some 20) rfl rfl Try.func56 (by kernel_rfl) rfl #[.agg #[.int .i64 a0_0, .slice A0_1 l0_1.length c0_1, .slice (some ad224) l0_2.length c0_2, .slice A0_3 l0_3.length c0_3], .int .i64 (rd l0_2 x13_1), .slice Ao14 x3_1.length co14, .bool false] rfl (by (try simp only [List.map_toArray, List.map_cons, List.map_nil]); first | done | rfl | (simp only [List.length_drop, List.length_take]; rfl)) ?_; (with_reducible refine (spec_lhMark.calls k1 a0_0 _ _ l0_1 _ _ l0_2 _ _ l0_3 (rd l0_2 x13_1) (fun k_ => some k_ = (.slice Ao14 x3_1.length co14 : Value).ownBlock) (.slice Ao14 x3_1.length co14) x3_1 false t225 w _ ?side1 ?side2 ?side3 ?side4 ?side5 ?side6 ?side7 ?side8 A12.out).mono ?_); (case side1 => repeat (first | (with_reducible first | exact HB.out | apply below_alloc | apply pw_below_drewN | apply below_drew1 | refine below_set ?_ GE220.out) | exact HB.out)); (case side2 => exact Kd.C_kept_came k46_heap HR0_1.out (by repeat (first | (with_reducible first | exact HB.out | apply below_alloc | apply pw_below_drewN | apply below_drew1 | refine below_set ?_ GE220.out) | exact HB.out)) (fun k_ hs_ => (fun e_ => Kd.R_base HO_3.out k_ e_.symm) hs_)); (case side3 => exact HC0_1.out); (case side4 => exact Kd.C_kept_came (Kd.heap_int .i64) HR0_2.out (by repeat (first | (with_reducible first | exact HB.out | apply below_alloc | apply pw_below_drewN | apply below_drew1 | refine below_set ?_ GE220.out) | exact HB.out)) (fun k_ hs_ => (fun e_ => Kd.R_base HO_3.out k_ e_.symm) hs_)); (case side5 => exact HC0_2.out); (case side6 => exact Kd.C_kept_came (Kd.heap_int .i64) HR0_3.out (by repeat (first | (with_reducible first | exact HB.out | apply below_alloc | apply pw_below_drewN | apply below_drew1 | refine below_set ?_ GE220.out) | exact HB.out)) (fun k_ hs_ => (fun e_ => Kd.R_base HO_3.out k_ e_.symm) hs_)); (case side7 => exact HC0_3.out); (case side8 => exact Kd.R_tight rfl HO_3.out); rintro e w15 ⟨rfl, hy0, hb, hkp⟩; refine ⟨_, rfl, ?_⟩; have n0_ := Aside0.mk (Kd.R_reok rfl hy0 (fun k_ e_ => HO_3.out.1 k_ e_)); have n1_ := Aside0.mk (blk_kept (by (with_reducible repeat (first | refine blk_drewN ?_ _ | refine blk_drew ?_ | refine blk_alloc ?_ _)); exact BK220.out) hkp (fun hs_ => (fun e_ => (Kd.R_ne HO_3.out BK220.out (by decide)) e_) hs_)); have n2_ := Aside0.mk (hb); clear HO_3; clear BK220; clear HB; have HO_3 := n0_; have BK220 := n1_; have HB := n2_; clear n0_ n1_ n2_; (try clear hb); (try clear hkp); (try clear hy0)))
        go_roundg k1
        case measure => have := HK1.out; omega
        case rel => exact ⟨(t225), (wrap64 (x13_1 + 1)), (by first | rfl | (simp; done) | (simp [*]; done)), H', ⟨by have := HK1.out; omega⟩, ⟨by (with_reducible repeat (first | apply Kd.R_alloc | apply Kd.R_drewN | apply Kd.R_drew)); exact HO_3.out⟩, ⟨by (with_reducible repeat (first | refine blk_drewN ?_ _ | refine blk_drew ?_ | refine blk_alloc ?_ _)); exact BK220.out⟩, ⟨by repeat (first | (with_reducible first | exact HB.out | apply below_alloc | apply pw_below_drewN | apply below_drew1 | refine below_set ?_ GE220.out) | exact HB.out)⟩⟩
       ·rw [if_neg c11] at H
        exact absurd H (by simp)
      ·rw [if_neg c10] at H
       exact absurd H (by simp)
     ·rw [if_neg c9] at H
      have c9b0 : decide (x13_1 < (l0_2.length : Int)) = false := decide_eq_false c9
      clear c9
      obtain rfl := Option.some.inj H
      go_wp2
      go_ret
      exact ⟨_, by first | rfl | (simp [errW_none, errW_some] <;> rfl) | (simp [*, errW_none, errW_some] <;> rfl), by (with_reducible repeat (first | apply Kd.R_alloc | apply Kd.R_drewN | apply Kd.R_drew)); exact HO_3.out, by repeat (first | (with_reducible first | exact HB.out | apply below_alloc | apply pw_below_drewN | apply below_drew1 | refine below_set ?_ GE220.out) | exact HB.out)⟩
  ·rw [if_neg c3] at H
   exact absurd H (by simp)
 ·rw [if_neg c2] at H
  exact absurd H (by simp)
end Go.Proofs.Ytpjikgeglhjehaa.PH
/- What functions of the program come to, each told as a plain function (told by wp.py, a program of this session's, over the kit's print.py). No condition beyond what each theorem states. -/
namespace Go.Proofs.Ytpjikgeglhjehaa.PH
open Go.RowKit Go.Proofs.YtpjikgeglhjehaaW.PrintWords Go.Proofs.YtpjikgeglhjehaaW.PrintLast Go.Proofs.YtpjikgeglhjehaaW.PrintMore
attribute [local go_sem] max2_int min2_int max_two min_two max_three min_three max_four min_four   -- for this text's walks alone
set_option linter.unusedVariables false
set_option linter.unusedSimpArgs false
def spec_l1In.f (a0 : Int) (a1 : Int) (a2 : Int) : Option (Bool) := if a0 ≥ a1 then (some (decide (a0 ≤ a2))) else (some false)
set_option maxHeartbeats 8000000 in
set_option maxRecDepth 100000 in
theorem spec_l1In.calls (a0 : Int) (a1 : Int) (a2 : Int) (r : Bool) (w : World) (h : spec_l1In.f a0 a1 a2 = some r) :
  Calls Try.prog 28 #[.int .i64 a0, .int .i64 a1, .int .i64 a2] w fun e w' => e = .returned (.bool r) ∧ Drawn0 w w' := by
 have H : (if a0 ≥ a1 then (some (decide (a0 ≤ a2))) else (some false)) = some r := h
 clear h
 by_cases c4 : a0 ≥ a1
 ·rw [if_pos c4] at H
  have c4b0 : decide (a1 ≤ a0) = true := decide_eq_true c4
  clear c4
  obtain rfl := Option.some.inj H
  go_enter Try.func28, Try.ntmps28
  go_wp2
  go_ret
  exact ⟨by first | rfl | (simp; done) | (simp [*]; done), by repeat (first | exact Drawn0.refl _ | apply Drawn0.step)⟩
 ·rw [if_neg c4] at H
  have c4b0 : decide (a1 ≤ a0) = false := decide_eq_false c4
  clear c4
  obtain rfl := Option.some.inj H
  go_enter Try.func28, Try.ntmps28
  go_wp2
  go_ret
  exact ⟨by first | rfl | (simp; done) | (simp [*]; done), by repeat (first | exact Drawn0.refl _ | apply Drawn0.step)⟩
end Go.Proofs.Ytpjikgeglhjehaa.PH
/- What functions of the program come to, each told as a plain function (told by wp.py, a program of this session's, over the kit's print.py). No condition beyond what each theorem states. -/
namespace Go.Proofs.Ytpjikgeglhjehaa.PH
open Go.RowKit Go.Proofs.YtpjikgeglhjehaaW.PrintWords Go.Proofs.YtpjikgeglhjehaaW.PrintLast Go.Proofs.YtpjikgeglhjehaaW.PrintMore
attribute [local go_sem] max2_int min2_int max_two min_two max_three min_three max_four min_four   -- for this text's walks alone
set_option linter.unusedVariables false
set_option linter.unusedSimpArgs false
def spec_lcHas.l0 : Nat → Int → List Int → Int → Int → Option (Bool)
 | 0, _, _, _, _ => none
 | k + 1, x1, x7, x8, x9 => if x9 < x8 then (if 0 ≤ x9 then (if x9 < (x7.length : Int) then (if (rd x7 x9) = x1 then (some true) else (spec_lcHas.l0 k x1 x7 x8 (wrap64 (x9 + 1)))) else (none)) else (none)) else (some false)
def spec_lcHas.f (k : Nat) (l0 : List Int) (a1 : Int) : Option (Bool) := spec_lcHas.l0 k a1 l0 (l0.length : Int) 0
theorem spec_lcHas.mono_l : ∀ k, (∀ y0 y1 y2 y3, LeO (spec_lcHas.l0 k y0 y1 y2 y3) (spec_lcHas.l0 (k + 1) y0 y1 y2 y3))
 | 0 => fun _ _ _ _ r h => by simp [spec_lcHas.l0] at h
 | k + 1 => by
  have ih0 := spec_lcHas.mono_l k
  ·intro y0 y1 y2 y3
   unfold spec_lcHas.l0
   repeat' first
   | (with_reducible exact ih0 _ _ _ _)
   | (with_reducible exact LeO.refl _)
   | (with_reducible exact LeO.none _)
   | (with_reducible refine LeO.ite ?_ ?_)
   | (with_reducible refine LeO.bind ?_ (fun _ => ?_))
   | exact ih0 _ _ _ _
   | exact LeO.none _
   | refine LeO.ite ?_ ?_
   | refine LeO.bind ?_ (fun _ => ?_)
theorem spec_lcHas.mono : ∀ a0 a1 k, LeO (spec_lcHas.f k a0 a1) (spec_lcHas.f (k + 1) a0 a1) := by
 intro a0 a1 k
 have ih0 := spec_lcHas.mono_l k
 unfold spec_lcHas.f
 repeat' first
   | (with_reducible exact ih0 _ _ _ _)
   | (with_reducible exact LeO.refl _)
   | (with_reducible exact LeO.none _)
   | (with_reducible refine LeO.ite ?_ ?_)
   | (with_reducible refine LeO.bind ?_ (fun _ => ?_))
   | exact ih0 _ _ _ _
   | exact LeO.none _
   | refine LeO.ite ?_ ?_
   | refine LeO.bind ?_ (fun _ => ?_)
set_option maxHeartbeats 8000000 in
set_option maxRecDepth 100000 in
theorem spec_lcHas.calls (k : Nat) (A0 : Option Addr) (c0 : Nat) (l0 : List Int) (a1 : Int) (r : Bool) (w : World) (hr0 : Kd.C (Kd.int .i64) w A0 l0.length l0) (hc0 : l0.length ≤ c0) (h : spec_lcHas.f k l0 a1 = some r) :
  Calls Try.prog 29 #[.slice A0 l0.length c0, .int .i64 a1] w fun e w' => e = .returned (.bool r) ∧ Drawn0 w w' := by
 have HR0 := Aside0.mk hr0
 have HC0 := Aside0.mk hc0
 clear hr0 hc0
 have H : (spec_lcHas.l0 k a1 l0 (l0.length : Int) 0) = some r := h
 clear h
 have H' := Aside0.mk H
 clear H
 go_enter Try.func29, Try.ntmps29
 go_wp2
 go_loopg [9] k (fun kq v9 w' => ∃ (x9_1 : Int), v9 = .int .i64 x9_1 ∧ Aside0 (spec_lcHas.l0 kq a1 l0 (l0.length : Int) x9_1 = some r) ∧ Aside0 (kq ≤ k) ∧ Drawn0 w w')
 case atStart => exact ⟨(0), (by first | rfl | (simp; done) | (simp [*]; done)), H', ⟨Nat.le_refl _⟩, by repeat (first | exact Drawn0.refl _ | apply Drawn0.step)⟩
 case round =>
  clear H'
  try clear c2
  try clear p2
  obtain ⟨x9_1, rfl, HA, HK1, ⟨m1, rfl⟩⟩ := hrel
  cases gk with
  | zero => exact absurd HA.out (by simp [spec_lcHas.l0])
  | succ k1 =>
   have H := HA.out
   clear HA
   simp only [spec_lcHas.l0] at H
   by_cases c3 : x9_1 < (l0.length : Int)
   ·rw [if_pos c3] at H
    have c3b0 : decide (x9_1 < (l0.length : Int)) = true := decide_eq_true c3
    clear c3
    by_cases c4 : 0 ≤ x9_1
    ·rw [if_pos c4] at H
     have c4b0 : decide (0 ≤ x9_1) = true := decide_eq_true c4
     clear c4
     by_cases c5 : x9_1 < (l0.length : Int)
     ·rw [if_pos c5] at H
      have c5b0 : decide (x9_1 < (l0.length : Int)) = true := decide_eq_true c5
      clear c5
      by_cases c6 : (rd l0 x9_1) = a1
      ·rw [if_pos c6] at H
       have c6b0 : ((rd l0 x9_1) == a1) = true := beq_iff_eq.mpr c6
       have c6b1 : ((rd l0 x9_1) != a1) = false := bne_eq_false_iff_eq.mpr c6
       clear c6
       obtain rfl := Option.some.inj H
       have p105 : 0 ≤ (x9_1 : Int) := of_decide_eq_true (by first | (with_reducible assumption) | assumption)
       have q105 : x9_1 < (l0.length : Int) := of_decide_eq_true (by first | (with_reducible assumption) | assumption)
       obtain ⟨ad105, e105, hx105_0⟩ := Kd.at_int HR0.out x9_1 p105 q105
       cases e105
       replace p105 := eq_true p105
       replace q105 := eq_true q105
       go_wp2
       go_ret
       exact ⟨by first | rfl | (simp; done) | (simp [*]; done), by repeat (first | exact Drawn0.refl _ | apply Drawn0.step)⟩
      ·rw [if_neg c6] at H
       have c6b0 : ((rd l0 x9_1) == a1) = false := beq_eq_false_iff_ne.mpr c6
       have c6b1 : ((rd l0 x9_1) != a1) = true := bne_iff_ne.mpr c6
       have H' := Aside0.mk H
       clear H
       have p105 : 0 ≤ (x9_1 : Int) := of_decide_eq_true (by first | (with_reducible assumption) | assumption)
       have q105 : x9_1 < (l0.length : Int) := of_decide_eq_true (by first | (with_reducible assumption) | assumption)
       obtain ⟨ad105, e105, hx105_0⟩ := Kd.at_int HR0.out x9_1 p105 q105
       cases e105
       replace p105 := eq_true p105
       replace q105 := eq_true q105
       go_wp2
       go_roundg k1
       case measure => have := HK1.out; omega
       case rel => exact ⟨(wrap64 (x9_1 + 1)), (by first | rfl | (simp; done) | (simp [*]; done)), H', ⟨by have := HK1.out; omega⟩, by repeat (first | exact Drawn0.refl _ | apply Drawn0.step)⟩
     ·rw [if_neg c5] at H
      exact absurd H (by simp)
    ·rw [if_neg c4] at H
     exact absurd H (by simp)
   ·rw [if_neg c3] at H
    have c3b0 : decide (x9_1 < (l0.length : Int)) = false := decide_eq_false c3
    clear c3
    obtain rfl := Option.some.inj H
    go_wp2
    go_ret
    exact ⟨by first | rfl | (simp; done) | (simp [*]; done), by repeat (first | exact Drawn0.refl _ | apply Drawn0.step)⟩
end Go.Proofs.Ytpjikgeglhjehaa.PH
