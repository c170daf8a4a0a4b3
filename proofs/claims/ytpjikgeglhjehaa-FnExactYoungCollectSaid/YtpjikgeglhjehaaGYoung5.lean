/- Texts of this claim, merged by merge.py (a program of this session's): the kit's printed words, where used; what functions come to; the plain law. -/
import Derived.Test.YtpjikgeglhjehaaGYoung2
import Derived.Test.YtpjikgeglhjehaaGYoung4
namespace Go.Proofs.Ytpjikgeglhjehaa.PH
open Go.RowKit Go.Proofs.YtpjikgeglhjehaaW.PrintWords Go.Proofs.YtpjikgeglhjehaaW.PrintLast Go.Proofs.YtpjikgeglhjehaaW.PrintMore
attribute [local go_sem] max2_int min2_int max_two min_two max_three min_three max_four min_four   -- for this text's walks alone
set_option linter.unusedVariables false
set_option linter.unusedSimpArgs false
theorem areRoots1 (b : Nat) (n : Int) (w : World) (hb : b < w.heap.size) (hc : w.cell? ⟨b, 0, none⟩ = some (.int .i64 n)) :
  FnInt 53 #[.pointer (some ⟨b, 0, none⟩)] (fun x => !(decide (x ≥ 0) && decide (x < n))) w := fun W x hB => by
 have hc' : W.cell? ⟨b, 0, none⟩ = some (.int .i64 n) := (hB.cell (p := ⟨b, 0, none⟩) hb).trans hc
 have HI := Aside0.mk (impl_isBelow.calls x n (decide (x ≥ 0) && decide (x < n)) W (by unfold impl_isBelow.f; by_cases h : x ≥ 0 <;> simp [h]))
 clear hB hc
 go_enter Try.func53, Try.ntmps53
 go_wp2_with fail
 refine HI.out.mono ?_
 rintro e w' ⟨rfl, q', rfl⟩
 go_wp2_with fail
 go_ret
 exact ⟨by simp, by repeat (first | exact Drawn0.refl _ | apply Drawn0.step)⟩
def impl_areRoots.f (l0 : List Int) (a1 : Int) : Option Bool := some (decide (l0.length ≤ 60) && !l0.any (fun x => !(decide (x ≥ 0) && decide (x < a1))))
set_option maxHeartbeats 8000000 in
set_option maxRecDepth 100000 in
theorem impl_areRoots.calls (A0 : Option Addr) (c0 : Nat) (l0 : List Int) (a1 : Int) (r : Bool) (w : World) (hr0 : Kd.C (Kd.int .i64) w A0 l0.length l0) (hc0 : l0.length ≤ c0) (h : impl_areRoots.f l0 a1 = some r) :
  Calls Try.prog 32 #[.slice A0 l0.length c0, .int .i64 a1] w fun e w' => e = .returned (.bool r) ∧ Below w.heap.size w w' := by
 obtain rfl := Option.some.inj h
 clear h
 have HB : Below w.heap.size w (w.alloc (.cells #[.int .i64 a1] 3)) := (Below.refl _ w).alloc (Nat.le_refl _) _
 have hc : (w.alloc (.cells #[.int .i64 a1] 3)).cell? ⟨w.heap.size, 0, none⟩ = some (.int .i64 a1) := by simp
 have HC := Aside0.mk (containsFunc_int 53 #[.pointer (some ⟨w.heap.size, 0, none⟩)] _ (enters_ Try.func53 (by kernel_rfl) rfl) A0 c0 l0 _ (Kd.C_below hr0 HB) hc0 (areRoots1 w.heap.size a1 _ (by simp) hc))
 have HB' := Aside0.mk HB
 clear hr0 hc0 HB hc
 by_cases hl : l0.length ≤ 60
 ·have hlz : (l0.length : Int) ≤ 60 := by omega
  go_enter Try.func32, Try.ntmps32
  go_wp2_with fail
  refine HC.out.mono ?_
  rintro e w' ⟨rfl, q', rfl⟩
  go_wp2_with fail
  go_ret
  exact ⟨by simp [hl], by repeat (first | exact HB'.out | apply pw_below_drewN)⟩
 ·have hlz : ¬ (l0.length : Int) ≤ 60 := by omega
  go_enter Try.func32, Try.ntmps32
  go_wp2_with fail
  go_ret
  exact ⟨by simp [hl], by repeat (first | exact HB'.out | apply pw_below_drewN)⟩
def impl_isCell.f (a0_0 : Bool) (a0_1 : Int) (a0_2 : Int) (a0_3 : Int) (a1 : Int) : Option (Bool) := if a0_0 = true then (if a0_2 = 0 then (some (a0_3 == 0)) else (some false)) else (if a0_1 = 0 then ((impl_isBelow.f a0_2 a1).bind fun t149 => (if t149 = true then ((impl_isBelow.f a0_3 a1).bind fun t150 => (some t150)) else (some false))) else (some false))
set_option maxHeartbeats 8000000 in
set_option maxRecDepth 100000 in
theorem impl_isCell.calls (a0_0 : Bool) (a0_1 : Int) (a0_2 : Int) (a0_3 : Int) (a1 : Int) (r : Bool) (w : World) (h : impl_isCell.f a0_0 a0_1 a0_2 a0_3 a1 = some r) :
  Calls Try.prog 34 #[.agg #[.bool a0_0, .int .i64 a0_1, .int .i64 a0_2, .int .i64 a0_3], .int .i64 a1] w fun e w' => e = .returned (.bool r) ∧ Below w.heap.size w w' := by
 have hu46 := Try.underlying46
 have HB := Aside0.mk (Below.refl w.heap.size w)
 have H : (if a0_0 = true then (if a0_2 = 0 then (some (a0_3 == 0)) else (some false)) else (if a0_1 = 0 then ((impl_isBelow.f a0_2 a1).bind fun t149 => (if t149 = true then ((impl_isBelow.f a0_3 a1).bind fun t150 => (some t150)) else (some false))) else (some false))) = some r := h
 clear h
 by_cases c3 : a0_0 = true
 ·subst c3
  have H1 : (if a0_2 = 0 then (some (a0_3 == 0)) else (some false)) = some r := by rw [if_pos rfl] at H; exact H
  clear H
  have H := H1
  clear H1
  by_cases c4 : a0_2 = 0
  ·rw [if_pos c4] at H
   have c4b0 : (a0_2 == 0) = true := beq_iff_eq.mpr c4
   have c4b1 : (a0_2 != 0) = false := bne_eq_false_iff_eq.mpr c4
   clear c4
   obtain rfl := Option.some.inj H
   go_enter Try.func34, Try.ntmps34
   go_wp2_with (first | ((with_reducible refine gate_dst (N := 2) rfl ?_); refine box_event ?hg (N := 2) ?hd (cs := #[.bool true, .int .i64 a0_1, .int .i64 a0_2, .int .i64 a0_3]) (t := 46) ?hr ?_; (case hd => rfl); (case hg => rfl); (case hr => first | (go_simp; done) | (go_simp; rfl)); intro gb148 hg w5 hbox hb; have n0_ := Aside0.mk (below_step pb_ hb); have n1_ := Aside0.mk (hbox); have n2_ := Aside0.mk ((by rw [hg]; exact (below_size pb_) : w.heap.size ≤ gb148)); have n3_ := Aside0.mk ((by rw [hg]; exact (below_size pb_) : w.heap.size ≤ gb148)); clear HB; have HB := n0_; have BK148 := n1_; have GW148 := n2_; have GE148 := n3_; clear n0_ n1_ n2_ n3_; clear hb hbox hg; have hcz6_0 := bc0 BK148.out; have hcz6_1 := bc1 BK148.out; have hcz6_2 := bc2 BK148.out; have hcz6_3 := bc3 BK148.out; have hfz6_0 := blk_frozen BK148.out 0; have hfz6_1 := blk_frozen BK148.out 1; have hfz6_2 := blk_frozen BK148.out 2; have hfz6_3 := blk_frozen BK148.out 3))
   go_ret
   exact ⟨by first | rfl | (simp [errW_none, errW_some] <;> rfl) | (simp [*, errW_none, errW_some] <;> rfl), pb_⟩
  ·rw [if_neg c4] at H
   have c4b0 : (a0_2 == 0) = false := beq_eq_false_iff_ne.mpr c4
   have c4b1 : (a0_2 != 0) = true := bne_iff_ne.mpr c4
   obtain rfl := Option.some.inj H
   go_enter Try.func34, Try.ntmps34
   go_wp2_with (first | ((with_reducible refine gate_dst (N := 2) rfl ?_); refine box_event ?hg (N := 2) ?hd (cs := #[.bool true, .int .i64 a0_1, .int .i64 a0_2, .int .i64 a0_3]) (t := 46) ?hr ?_; (case hd => rfl); (case hg => rfl); (case hr => first | (go_simp; done) | (go_simp; rfl)); intro gb148 hg w7 hbox hb; have n0_ := Aside0.mk (below_step pb_ hb); have n1_ := Aside0.mk (hbox); have n2_ := Aside0.mk ((by rw [hg]; exact (below_size pb_) : w.heap.size ≤ gb148)); have n3_ := Aside0.mk ((by rw [hg]; exact (below_size pb_) : w.heap.size ≤ gb148)); clear HB; have HB := n0_; have BK148 := n1_; have GW148 := n2_; have GE148 := n3_; clear n0_ n1_ n2_ n3_; clear hb hbox hg; have hcz8_0 := bc0 BK148.out; have hcz8_1 := bc1 BK148.out; have hcz8_2 := bc2 BK148.out; have hcz8_3 := bc3 BK148.out; have hfz8_0 := blk_frozen BK148.out 0; have hfz8_1 := blk_frozen BK148.out 1; have hfz8_2 := blk_frozen BK148.out 2; have hfz8_3 := blk_frozen BK148.out 3))
   go_ret
   exact ⟨by first | rfl | (simp [errW_none, errW_some] <;> rfl) | (simp [*, errW_none, errW_some] <;> rfl), pb_⟩
 ·replace c3 := Bool.eq_false_iff.mpr c3
  subst c3
  have H1 : (if a0_1 = 0 then ((impl_isBelow.f a0_2 a1).bind fun t149 => (if t149 = true then ((impl_isBelow.f a0_3 a1).bind fun t150 => (some t150)) else (some false))) else (some false)) = some r := by rw [if_neg (show ¬ (false = true) by decide)] at H; exact H
  clear H
  have H := H1
  clear H1
  by_cases c9 : a0_1 = 0
  ·rw [if_pos c9] at H
   have c9b0 : (a0_1 == 0) = true := beq_iff_eq.mpr c9
   have c9b1 : (a0_1 != 0) = false := bne_eq_false_iff_eq.mpr c9
   clear c9
   replace H := Option.bind_eq_some_iff.mp H
   obtain ⟨t149, A100, H⟩ := H
   replace H : (if t149 = true then ((impl_isBelow.f a0_3 a1).bind fun t150 => (some t150)) else (some false)) = some r := H
   have A10 := Aside0.mk A100
   clear A100
   by_cases c11 : t149 = true
   ·subst c11
    have H1 : ((impl_isBelow.f a0_3 a1).bind fun t150 => (some t150)) = some r := by rw [if_pos rfl] at H; exact H
    clear H
    have H := H1
    clear H1
    replace H := Option.bind_eq_some_iff.mp H
    obtain ⟨t150, A120, H⟩ := H
    replace H : (some t150) = some r := H
    have A12 := Aside0.mk A120
    clear A120
    obtain rfl := Option.some.inj H
    go_enter Try.func34, Try.ntmps34
    go_wp2_with (first | ((with_reducible refine gate_dst (N := 2) rfl ?_); refine box_event ?hg (N := 2) ?hd (cs := #[.bool false, .int .i64 a0_1, .int .i64 a0_2, .int .i64 a0_3]) (t := 46) ?hr ?_; (case hd => rfl); (case hg => rfl); (case hr => first | (go_simp; done) | (go_simp; rfl)); intro gb148 hg w13 hbox hb; have n0_ := Aside0.mk (below_step pb_ hb); have n1_ := Aside0.mk (hbox); have n2_ := Aside0.mk ((by rw [hg]; exact (below_size pb_) : w.heap.size ≤ gb148)); have n3_ := Aside0.mk ((by rw [hg]; exact (below_size pb_) : w.heap.size ≤ gb148)); clear HB; have HB := n0_; have BK148 := n1_; have GW148 := n2_; have GE148 := n3_; clear n0_ n1_ n2_ n3_; clear hb hbox hg; have hcz14_0 := bc0 BK148.out; have hcz14_1 := bc1 BK148.out; have hcz14_2 := bc2 BK148.out; have hcz14_3 := bc3 BK148.out; have hfz14_0 := blk_frozen BK148.out 0; have hfz14_1 := blk_frozen BK148.out 1; have hfz14_2 := blk_frozen BK148.out 2; have hfz14_3 := blk_frozen BK148.out 3) | (go_at_call 33; (with_reducible refine (impl_isBelow.calls a0_2 a1 true _ A10.out).mono ?_); rintro e w' ⟨rfl, ⟨nd, rfl⟩⟩) | (go_at_call 33; (with_reducible refine (impl_isBelow.calls a0_3 a1 t150 _ A12.out).mono ?_); rintro e w' ⟨rfl, ⟨nd, rfl⟩⟩))
    go_ret
    exact ⟨by first | rfl | (simp [errW_none, errW_some] <;> rfl) | (simp [*, errW_none, errW_some] <;> rfl), pb_⟩
   ·replace c11 := Bool.eq_false_iff.mpr c11
    subst c11
    have H1 : (some false) = some r := by rw [if_neg (show ¬ (false = true) by decide)] at H; exact H
    clear H
    have H := H1
    clear H1
    obtain rfl := Option.some.inj H
    go_enter Try.func34, Try.ntmps34
    go_wp2_with (first | ((with_reducible refine gate_dst (N := 2) rfl ?_); refine box_event ?hg (N := 2) ?hd (cs := #[.bool false, .int .i64 a0_1, .int .i64 a0_2, .int .i64 a0_3]) (t := 46) ?hr ?_; (case hd => rfl); (case hg => rfl); (case hr => first | (go_simp; done) | (go_simp; rfl)); intro gb148 hg w15 hbox hb; have n0_ := Aside0.mk (below_step pb_ hb); have n1_ := Aside0.mk (hbox); have n2_ := Aside0.mk ((by rw [hg]; exact (below_size pb_) : w.heap.size ≤ gb148)); have n3_ := Aside0.mk ((by rw [hg]; exact (below_size pb_) : w.heap.size ≤ gb148)); clear HB; have HB := n0_; have BK148 := n1_; have GW148 := n2_; have GE148 := n3_; clear n0_ n1_ n2_ n3_; clear hb hbox hg; have hcz16_0 := bc0 BK148.out; have hcz16_1 := bc1 BK148.out; have hcz16_2 := bc2 BK148.out; have hcz16_3 := bc3 BK148.out; have hfz16_0 := blk_frozen BK148.out 0; have hfz16_1 := blk_frozen BK148.out 1; have hfz16_2 := blk_frozen BK148.out 2; have hfz16_3 := blk_frozen BK148.out 3) | (go_at_call 33; (with_reducible refine (impl_isBelow.calls a0_2 a1 false _ A10.out).mono ?_); rintro e w' ⟨rfl, ⟨nd, rfl⟩⟩))
    go_ret
    exact ⟨by first | rfl | (simp [errW_none, errW_some] <;> rfl) | (simp [*, errW_none, errW_some] <;> rfl), pb_⟩
  ·rw [if_neg c9] at H
   have c9b0 : (a0_1 == 0) = false := beq_eq_false_iff_ne.mpr c9
   have c9b1 : (a0_1 != 0) = true := bne_iff_ne.mpr c9
   obtain rfl := Option.some.inj H
   go_enter Try.func34, Try.ntmps34
   go_wp2_with (first | ((with_reducible refine gate_dst (N := 2) rfl ?_); refine box_event ?hg (N := 2) ?hd (cs := #[.bool false, .int .i64 a0_1, .int .i64 a0_2, .int .i64 a0_3]) (t := 46) ?hr ?_; (case hd => rfl); (case hg => rfl); (case hr => first | (go_simp; done) | (go_simp; rfl)); intro gb148 hg w17 hbox hb; have n0_ := Aside0.mk (below_step pb_ hb); have n1_ := Aside0.mk (hbox); have n2_ := Aside0.mk ((by rw [hg]; exact (below_size pb_) : w.heap.size ≤ gb148)); have n3_ := Aside0.mk ((by rw [hg]; exact (below_size pb_) : w.heap.size ≤ gb148)); clear HB; have HB := n0_; have BK148 := n1_; have GW148 := n2_; have GE148 := n3_; clear n0_ n1_ n2_ n3_; clear hb hbox hg; have hcz18_0 := bc0 BK148.out; have hcz18_1 := bc1 BK148.out; have hcz18_2 := bc2 BK148.out; have hcz18_3 := bc3 BK148.out; have hfz18_0 := blk_frozen BK148.out 0; have hfz18_1 := blk_frozen BK148.out 1; have hfz18_2 := blk_frozen BK148.out 2; have hfz18_3 := blk_frozen BK148.out 3))
   go_ret
   exact ⟨by first | rfl | (simp [errW_none, errW_some] <;> rfl) | (simp [*, errW_none, errW_some] <;> rfl), pb_⟩
def impl_Young_namesYoung.f (a0_0 : Int) (l0_1 : List (S46)) (l0_2 : List Int) (l0_3 : List Int) (a1_0 : Bool) (a1_1 : Int) (a1_2 : Int) (a1_3 : Int) : Option (Bool) := if a1_0 = true then (some false) else (if a1_2 ≥ a0_0 then (some true) else (some (decide (a1_3 ≥ a0_0))))
set_option maxHeartbeats 8000000 in
set_option maxRecDepth 100000 in
theorem impl_Young_namesYoung.calls (a0_0 : Int) (A0_1 : Option Addr) (c0_1 : Nat) (l0_1 : List (S46)) (A0_2 : Option Addr) (c0_2 : Nat) (l0_2 : List Int) (A0_3 : Option Addr) (c0_3 : Nat) (l0_3 : List Int) (a1_0 : Bool) (a1_1 : Int) (a1_2 : Int) (a1_3 : Int) (r : Bool) (w : World) (hr0_1 : Kd.C k46 w A0_1 l0_1.length l0_1) (hc0_1 : l0_1.length ≤ c0_1) (hr0_2 : Kd.C (Kd.int .i64) w A0_2 l0_2.length l0_2) (hc0_2 : l0_2.length ≤ c0_2) (hr0_3 : Kd.C (Kd.int .i64) w A0_3 l0_3.length l0_3) (hc0_3 : l0_3.length ≤ c0_3) (h : impl_Young_namesYoung.f a0_0 l0_1 l0_2 l0_3 a1_0 a1_1 a1_2 a1_3 = some r) :
  Calls Try.prog 35 #[.agg #[.int .i64 a0_0, .slice A0_1 l0_1.length c0_1, .slice A0_2 l0_2.length c0_2, .slice A0_3 l0_3.length c0_3], .agg #[.bool a1_0, .int .i64 a1_1, .int .i64 a1_2, .int .i64 a1_3]] w fun e w' => e = .returned (.bool r) ∧ Below w.heap.size w w' := by
 have hu30 := Try.underlying30
 have hu46 := Try.underlying46
 have HR0_1 := Aside0.mk hr0_1
 have HC0_1 := Aside0.mk hc0_1
 clear hr0_1 hc0_1
 have HR0_2 := Aside0.mk hr0_2
 have HC0_2 := Aside0.mk hc0_2
 clear hr0_2 hc0_2
 have HR0_3 := Aside0.mk hr0_3
 have HC0_3 := Aside0.mk hc0_3
 clear hr0_3 hc0_3
 have HB := Aside0.mk (Below.refl w.heap.size w)
 have H : (if a1_0 = true then (some false) else (if a1_2 ≥ a0_0 then (some true) else (some (decide (a1_3 ≥ a0_0))))) = some r := h
 clear h
 by_cases c3 : a1_0 = true
 ·subst c3
  have H1 : (some false) = some r := by rw [if_pos rfl] at H; exact H
  clear H
  have H := H1
  clear H1
  obtain rfl := Option.some.inj H
  go_enter Try.func35, Try.ntmps35
  go_wp2_with (first | ((with_reducible refine gate_dst (N := 2) rfl ?_); refine box_event ?hg (N := 2) ?hd (cs := #[.int .i64 a0_0, .slice A0_1 l0_1.length c0_1, .slice A0_2 l0_2.length c0_2, .slice A0_3 l0_3.length c0_3]) (t := 30) ?hr ?_; (case hd => rfl); (case hg => rfl); (case hr => first | (go_simp; done) | (go_simp; rfl)); intro gb151 hg w4 hbox hb; have n0_ := Aside0.mk (below_step pb_ hb); have n1_ := Aside0.mk (hbox); have n2_ := Aside0.mk ((by rw [hg]; exact (below_size pb_) : w.heap.size ≤ gb151)); have n3_ := Aside0.mk ((by rw [hg]; exact (below_size pb_) : w.heap.size ≤ gb151)); clear HB; have HB := n0_; have BK151 := n1_; have GW151 := n2_; have GE151 := n3_; clear n0_ n1_ n2_ n3_; clear hb hbox hg) | ((with_reducible refine gate_dst (N := 3) rfl ?_); refine box_event ?hg (N := 3) ?hd (cs := #[.bool true, .int .i64 a1_1, .int .i64 a1_2, .int .i64 a1_3]) (t := 46) ?hr ?_; (case hd => rfl); (case hg => rfl); (case hr => first | (go_simp; done) | (go_simp; rfl)); intro gb152 hg w5 hbox hb; have n0_ := Aside0.mk (blk_below (pk_ BK151.out) hb); have n1_ := Aside0.mk (below_step pb_ hb); have n2_ := Aside0.mk (hbox); have n3_ := Aside0.mk ((by rw [hg]; exact (below_size pb_) : w.heap.size ≤ gb152)); have n4_ := Aside0.mk ((by rw [hg]; exact (below_size pb_) : w.heap.size ≤ gb152)); have n5_ := Aside0.mk ((by rw [hg]; exact Nat.ne_of_lt (blk_lt (pk_ BK151.out)) : gb151 ≠ gb152)); have n6_ := Aside0.mk ((by rw [hg]; exact Nat.ne_of_gt (blk_lt (pk_ BK151.out)) : gb152 ≠ gb151)); clear BK151; clear HB; have BK151 := n0_; have HB := n1_; have BK152 := n2_; have GW152 := n3_; have GE152 := n4_; have NB151_152 := n5_; have NB152_151 := n6_; clear n0_ n1_ n2_ n3_ n4_ n5_ n6_; clear hb hbox hg; have hnb6 := NB152_151.out; have hnc6 := NB151_152.out; have hcz7_0 := bc0 BK152.out; have hcz7_1 := bc1 BK152.out; have hcz7_2 := bc2 BK152.out; have hcz7_3 := bc3 BK152.out; have hfz7_0 := blk_frozen BK152.out 0; have hfz7_1 := blk_frozen BK152.out 1; have hfz7_2 := blk_frozen BK152.out 2; have hfz7_3 := blk_frozen BK152.out 3))
  go_ret
  exact ⟨by first | rfl | (simp [errW_none, errW_some] <;> rfl) | (simp [*, errW_none, errW_some] <;> rfl), pb_⟩
 ·replace c3 := Bool.eq_false_iff.mpr c3
  subst c3
  have H1 : (if a1_2 ≥ a0_0 then (some true) else (some (decide (a1_3 ≥ a0_0)))) = some r := by rw [if_neg (show ¬ (false = true) by decide)] at H; exact H
  clear H
  have H := H1
  clear H1
  by_cases c8 : a1_2 ≥ a0_0
  ·rw [if_pos c8] at H
   have c8b0 : decide (a0_0 ≤ a1_2) = true := decide_eq_true c8
   clear c8
   obtain rfl := Option.some.inj H
   go_enter Try.func35, Try.ntmps35
   go_wp2_with (first | ((with_reducible refine gate_dst (N := 2) rfl ?_); refine box_event ?hg (N := 2) ?hd (cs := #[.int .i64 a0_0, .slice A0_1 l0_1.length c0_1, .slice A0_2 l0_2.length c0_2, .slice A0_3 l0_3.length c0_3]) (t := 30) ?hr ?_; (case hd => rfl); (case hg => rfl); (case hr => first | (go_simp; done) | (go_simp; rfl)); intro gb151 hg w9 hbox hb; have n0_ := Aside0.mk (below_step pb_ hb); have n1_ := Aside0.mk (hbox); have n2_ := Aside0.mk ((by rw [hg]; exact (below_size pb_) : w.heap.size ≤ gb151)); have n3_ := Aside0.mk ((by rw [hg]; exact (below_size pb_) : w.heap.size ≤ gb151)); clear HB; have HB := n0_; have BK151 := n1_; have GW151 := n2_; have GE151 := n3_; clear n0_ n1_ n2_ n3_; clear hb hbox hg) | ((with_reducible refine gate_dst (N := 3) rfl ?_); refine box_event ?hg (N := 3) ?hd (cs := #[.bool false, .int .i64 a1_1, .int .i64 a1_2, .int .i64 a1_3]) (t := 46) ?hr ?_; (case hd => rfl); (case hg => rfl); (case hr => first | (go_simp; done) | (go_simp; rfl)); intro gb152 hg w10 hbox hb; have n0_ := Aside0.mk (blk_below (pk_ BK151.out) hb); have n1_ := Aside0.mk (below_step pb_ hb); have n2_ := Aside0.mk (hbox); have n3_ := Aside0.mk ((by rw [hg]; exact (below_size pb_) : w.heap.size ≤ gb152)); have n4_ := Aside0.mk ((by rw [hg]; exact (below_size pb_) : w.heap.size ≤ gb152)); have n5_ := Aside0.mk ((by rw [hg]; exact Nat.ne_of_lt (blk_lt (pk_ BK151.out)) : gb151 ≠ gb152)); have n6_ := Aside0.mk ((by rw [hg]; exact Nat.ne_of_gt (blk_lt (pk_ BK151.out)) : gb152 ≠ gb151)); clear BK151; clear HB; have BK151 := n0_; have HB := n1_; have BK152 := n2_; have GW152 := n3_; have GE152 := n4_; have NB151_152 := n5_; have NB152_151 := n6_; clear n0_ n1_ n2_ n3_ n4_ n5_ n6_; clear hb hbox hg; have hnb11 := NB152_151.out; have hnc11 := NB151_152.out; have hcz12_0 := bc0 BK152.out; have hcz12_1 := bc1 BK152.out; have hcz12_2 := bc2 BK152.out; have hcz12_3 := bc3 BK152.out; have hfz12_0 := blk_frozen BK152.out 0; have hfz12_1 := blk_frozen BK152.out 1; have hfz12_2 := blk_frozen BK152.out 2; have hfz12_3 := blk_frozen BK152.out 3; have hcz13_0 := bc0 BK151.out; have hcz13_1 := bc1 BK151.out; have hcz13_2 := bc2 BK151.out; have hcz13_3 := bc3 BK151.out; have hfz13_0 := blk_frozen BK151.out 0; have hfz13_1 := blk_frozen BK151.out 1; have hfz13_2 := blk_frozen BK151.out 2; have hfz13_3 := blk_frozen BK151.out 3))
   go_ret
   exact ⟨by first | rfl | (simp [errW_none, errW_some] <;> rfl) | (simp [*, errW_none, errW_some] <;> rfl), pb_⟩
  ·rw [if_neg c8] at H
   have c8b0 : decide (a0_0 ≤ a1_2) = false := decide_eq_false c8
   clear c8
   obtain rfl := Option.some.inj H
   go_enter Try.func35, Try.ntmps35
   go_wp2_with (first | ((with_reducible refine gate_dst (N := 2) rfl ?_); refine box_event ?hg (N := 2) ?hd (cs := #[.int .i64 a0_0, .slice A0_1 l0_1.length c0_1, .slice A0_2 l0_2.length c0_2, .slice A0_3 l0_3.length c0_3]) (t := 30) ?hr ?_; (case hd => rfl); (case hg => rfl); (case hr => first | (go_simp; done) | (go_simp; rfl)); intro gb151 hg w14 hbox hb; have n0_ := Aside0.mk (below_step pb_ hb); have n1_ := Aside0.mk (hbox); have n2_ := Aside0.mk ((by rw [hg]; exact (below_size pb_) : w.heap.size ≤ gb151)); have n3_ := Aside0.mk ((by rw [hg]; exact (below_size pb_) : w.heap.size ≤ gb151)); clear HB; have HB := n0_; have BK151 := n1_; have GW151 := n2_; have GE151 := n3_; clear n0_ n1_ n2_ n3_; clear hb hbox hg) | ((with_reducible refine gate_dst (N := 3) rfl ?_); refine box_event ?hg (N := 3) ?hd (cs := #[.bool false, .int .i64 a1_1, .int .i64 a1_2, .int .i64 a1_3]) (t := 46) ?hr ?_; (case hd => rfl); (case hg => rfl); (case hr => first | (go_simp; done) | (go_simp; rfl)); intro gb152 hg w15 hbox hb; have n0_ := Aside0.mk (blk_below (pk_ BK151.out) hb); have n1_ := Aside0.mk (below_step pb_ hb); have n2_ := Aside0.mk (hbox); have n3_ := Aside0.mk ((by rw [hg]; exact (below_size pb_) : w.heap.size ≤ gb152)); have n4_ := Aside0.mk ((by rw [hg]; exact (below_size pb_) : w.heap.size ≤ gb152)); have n5_ := Aside0.mk ((by rw [hg]; exact Nat.ne_of_lt (blk_lt (pk_ BK151.out)) : gb151 ≠ gb152)); have n6_ := Aside0.mk ((by rw [hg]; exact Nat.ne_of_gt (blk_lt (pk_ BK151.out)) : gb152 ≠ gb151)); clear BK151; clear HB; have BK151 := n0_; have HB := n1_; have BK152 := n2_; have GW152 := n3_; have GE152 := n4_; have NB151_152 := n5_; have NB152_151 := n6_; clear n0_ n1_ n2_ n3_ n4_ n5_ n6_; clear hb hbox hg; have hnb16 := NB152_151.out; have hnc16 := NB151_152.out; have hcz17_0 := bc0 BK152.out; have hcz17_1 := bc1 BK152.out; have hcz17_2 := bc2 BK152.out; have hcz17_3 := bc3 BK152.out; have hfz17_0 := blk_frozen BK152.out 0; have hfz17_1 := blk_frozen BK152.out 1; have hfz17_2 := blk_frozen BK152.out 2; have hfz17_3 := blk_frozen BK152.out 3; have hcz18_0 := bc0 BK151.out; have hcz18_1 := bc1 BK151.out; have hcz18_2 := bc2 BK151.out; have hcz18_3 := bc3 BK151.out; have hfz18_0 := blk_frozen BK151.out 0; have hfz18_1 := blk_frozen BK151.out 1; have hfz18_2 := blk_frozen BK151.out 2; have hfz18_3 := blk_frozen BK151.out 3))
   go_ret
   exact ⟨by first | rfl | (simp [errW_none, errW_some] <;> rfl) | (simp [*, errW_none, errW_some] <;> rfl), pb_⟩
def slices_Index_int_int.l0 : Nat → List Int → Int → Int → Int → Option (Int)
 | 0, _, _, _, _ => none
 | k + 1, x0, x1, x7, x8 => if x8 < x7 then (if 0 ≤ x8 then (if x8 < (x0.length : Int) then (if x1 = (rd x0 x8) then (some x8) else (slices_Index_int_int.l0 k x0 x1 x7 (wrap64 (x8 + 1)))) else (none)) else (none)) else (some (-1))
def slices_Index_int_int.f (k : Nat) (l0 : List Int) (a1 : Int) : Option (Int) := slices_Index_int_int.l0 k l0 a1 (l0.length : Int) 0
theorem slices_Index_int_int.mono_l : ∀ k, (∀ y0 y1 y2 y3, LeO (slices_Index_int_int.l0 k y0 y1 y2 y3) (slices_Index_int_int.l0 (k + 1) y0 y1 y2 y3))
 | 0 => fun _ _ _ _ r h => by simp [slices_Index_int_int.l0] at h
 | k + 1 => by
  have ih0 := slices_Index_int_int.mono_l k
  ·intro y0 y1 y2 y3
   unfold slices_Index_int_int.l0
   repeat' first
   | (with_reducible exact ih0 _ _ _ _)
   | (with_reducible exact LeO.refl _)
   | (with_reducible exact LeO.none _)
   | (with_reducible refine LeO.ite ?_ ?_)
   | (with_reducible refine LeO.bind ?_ (fun _ => ?_))
   | exact ih0 _ _ _ _
   | exact LeO.none _
   | refine LeO.ite ?_ ?_
   | refine LeO.bind ?_ (fun _ => ?_)
theorem slices_Index_int_int.mono : ∀ a0 a1 k, LeO (slices_Index_int_int.f k a0 a1) (slices_Index_int_int.f (k + 1) a0 a1) := by
 intro a0 a1 k
 have ih0 := slices_Index_int_int.mono_l k
 unfold slices_Index_int_int.f
 repeat' first
   | (with_reducible exact ih0 _ _ _ _)
   | (with_reducible exact LeO.refl _)
   | (with_reducible exact LeO.none _)
   | (with_reducible refine LeO.ite ?_ ?_)
   | (with_reducible refine LeO.bind ?_ (fun _ => ?_))
   | exact ih0 _ _ _ _
   | exact LeO.none _
   | refine LeO.ite ?_ ?_
   | refine LeO.bind ?_ (fun _ => ?_)
set_option maxHeartbeats 8000000 in
set_option maxRecDepth 100000 in
theorem slices_Index_int_int.calls (k : Nat) (A0 : Option Addr) (c0 : Nat) (l0 : List Int) (a1 : Int) (r : Int) (w : World) (hr0 : Kd.C (Kd.int .i64) w A0 l0.length l0) (hc0 : l0.length ≤ c0) (h : slices_Index_int_int.f k l0 a1 = some r) :
  Calls Try.prog 54 #[.slice A0 l0.length c0, .int .i64 a1] w fun e w' => e = .returned (.int .i64 r) ∧ Drawn0 w w' := by
 have HR0 := Aside0.mk hr0
 have HC0 := Aside0.mk hc0
 clear hr0 hc0
 have H : (slices_Index_int_int.l0 k l0 a1 (l0.length : Int) 0) = some r := h
 clear h
 have H' := Aside0.mk H
 clear H
 go_enter Try.func54, Try.ntmps54
 go_wp2
 go_loopg [8] k (fun kq v8 w' => ∃ (x8_1 : Int), v8 = .int .i64 x8_1 ∧ Aside0 (slices_Index_int_int.l0 kq l0 a1 (l0.length : Int) x8_1 = some r) ∧ Aside0 (kq ≤ k) ∧ Drawn0 w w')
 case atStart => exact ⟨(0), (by first | rfl | (simp; done) | (simp [*]; done)), H', ⟨Nat.le_refl _⟩, by repeat (first | exact Drawn0.refl _ | apply Drawn0.step)⟩
 case round =>
  clear H'
  try clear p2
  obtain ⟨x8_1, rfl, HA, HK1, ⟨m1, rfl⟩⟩ := hrel
  cases gk with
  | zero => exact absurd HA.out (by simp [slices_Index_int_int.l0])
  | succ k1 =>
   have H := HA.out
   clear HA
   simp only [slices_Index_int_int.l0] at H
   by_cases c3 : x8_1 < (l0.length : Int)
   ·rw [if_pos c3] at H
    have c3b0 : decide (x8_1 < (l0.length : Int)) = true := decide_eq_true c3
    clear c3
    by_cases c4 : 0 ≤ x8_1
    ·rw [if_pos c4] at H
     have c4b0 : decide (0 ≤ x8_1) = true := decide_eq_true c4
     clear c4
     by_cases c5 : x8_1 < (l0.length : Int)
     ·rw [if_pos c5] at H
      have c5b0 : decide (x8_1 < (l0.length : Int)) = true := decide_eq_true c5
      clear c5
      by_cases c6 : a1 = (rd l0 x8_1)
      ·rw [if_pos c6] at H
       have c6b0 : (a1 == (rd l0 x8_1)) = true := beq_iff_eq.mpr c6
       have c6b1 : (a1 != (rd l0 x8_1)) = false := bne_eq_false_iff_eq.mpr c6
       clear c6
       obtain rfl := Option.some.inj H
       have p153 : 0 ≤ (x8_1 : Int) := of_decide_eq_true (by first | (with_reducible assumption) | assumption)
       have q153 : x8_1 < (l0.length : Int) := of_decide_eq_true (by first | (with_reducible assumption) | assumption)
       obtain ⟨ad153, e153, hx153_0⟩ := Kd.at_int HR0.out x8_1 p153 q153
       cases e153
       replace p153 := eq_true p153
       replace q153 := eq_true q153
       go_wp2
       go_ret
       exact ⟨by first | rfl | (simp; done) | (simp [*]; done), by repeat (first | exact Drawn0.refl _ | apply Drawn0.step)⟩
      ·rw [if_neg c6] at H
       have c6b0 : (a1 == (rd l0 x8_1)) = false := beq_eq_false_iff_ne.mpr c6
       have c6b1 : (a1 != (rd l0 x8_1)) = true := bne_iff_ne.mpr c6
       have H' := Aside0.mk H
       clear H
       have p153 : 0 ≤ (x8_1 : Int) := of_decide_eq_true (by first | (with_reducible assumption) | assumption)
       have q153 : x8_1 < (l0.length : Int) := of_decide_eq_true (by first | (with_reducible assumption) | assumption)
       obtain ⟨ad153, e153, hx153_0⟩ := Kd.at_int HR0.out x8_1 p153 q153
       cases e153
       replace p153 := eq_true p153
       replace q153 := eq_true q153
       go_wp2
       go_roundg k1
       case measure => have := HK1.out; omega
       case rel => exact ⟨(wrap64 (x8_1 + 1)), (by first | rfl | (simp; done) | (simp [*]; done)), H', ⟨by have := HK1.out; omega⟩, by repeat (first | exact Drawn0.refl _ | apply Drawn0.step)⟩
     ·rw [if_neg c5] at H
      exact absurd H (by simp)
    ·rw [if_neg c4] at H
     exact absurd H (by simp)
   ·rw [if_neg c3] at H
    have c3b0 : decide (x8_1 < (l0.length : Int)) = false := decide_eq_false c3
    clear c3
    obtain rfl := Option.some.inj H
    go_wp2
    go_ret
    exact ⟨by first | rfl | (simp; done) | (simp [*]; done), by repeat (first | exact Drawn0.refl _ | apply Drawn0.step)⟩
def slices_Contains_int_int.f (k : Nat) (l0 : List Int) (a1 : Int) : Option (Bool) := (slices_Index_int_int.f k l0 a1).bind fun t154 => (some (decide (t154 ≥ 0)))
theorem slices_Contains_int_int.mono : ∀ a0 a1 k, LeO (slices_Contains_int_int.f k a0 a1) (slices_Contains_int_int.f (k + 1) a0 a1) := by
 intro a0 a1 k
 unfold slices_Contains_int_int.f
 repeat' first
   | (with_reducible exact slices_Index_int_int.mono _ _ _)
   | (with_reducible exact LeO.refl _)
   | (with_reducible exact LeO.none _)
   | (with_reducible refine LeO.ite ?_ ?_)
   | (with_reducible refine LeO.bind ?_ (fun _ => ?_))
   | exact slices_Index_int_int.mono _ _ _
   | exact LeO.none _
   | refine LeO.ite ?_ ?_
   | refine LeO.bind ?_ (fun _ => ?_)
set_option maxHeartbeats 8000000 in
set_option maxRecDepth 100000 in
theorem slices_Contains_int_int.calls (k : Nat) (A0 : Option Addr) (c0 : Nat) (l0 : List Int) (a1 : Int) (r : Bool) (w : World) (hr0 : Kd.C (Kd.int .i64) w A0 l0.length l0) (hc0 : l0.length ≤ c0) (h : slices_Contains_int_int.f k l0 a1 = some r) :
  Calls Try.prog 36 #[.slice A0 l0.length c0, .int .i64 a1] w fun e w' => e = .returned (.bool r) ∧ Drawn0 w w' := by
 have HR0 := Aside0.mk hr0
 have HC0 := Aside0.mk hc0
 clear hr0 hc0
 have H : ((slices_Index_int_int.f k l0 a1).bind fun t154 => (some (decide (t154 ≥ 0)))) = some r := h
 clear h
 replace H := Option.bind_eq_some_iff.mp H
 obtain ⟨t154, A30, H⟩ := H
 replace H : (some (decide (t154 ≥ 0))) = some r := H
 have A3 := Aside0.mk A30
 clear A30
 obtain rfl := Option.some.inj H
 go_enter Try.func36, Try.ntmps36
 go_wp2_with (first | ((with_reducible refine gate_callee (f := 54) rfl ?_); refine goesL_ (some 7) rfl rfl Try.func54 (by kernel_rfl) rfl #[.slice A0 l0.length c0, .int .i64 a1] rfl (by (try simp only [List.map_toArray, List.map_cons, List.map_nil]); first | done | rfl | (simp only [List.length_drop, List.length_take]; rfl)) ?_; (with_reducible refine (slices_Index_int_int.calls k _ _ l0 a1 t154 _ ?side1 ?side2 A3.out).mono ?_); (case side1 => exact pc_ HR0.out); (case side2 => exact HC0.out); rintro e w' ⟨rfl, ⟨nd, rfl⟩⟩; refine ⟨_, rfl, ?_⟩))
 go_ret
 exact ⟨by first | rfl | (simp; done) | (simp [*]; done), by repeat (first | exact Drawn0.refl _ | apply Drawn0.step)⟩
mutual
def impl_GoodYoung.j0 : Nat → Int → Bool → Int → List (S46) → List Int → List Int → Option (Bool)
 | 0, _, _, _, _, _, _ => none
 | k + 1, x3, x30, x156000, x156001, x156002, x156003 => if x30 = true then (some false) else (impl_GoodYoung.l0 k x3 x156003 (x156003.length : Int) 0 x156000 x156001 x156002 x156003)
def impl_GoodYoung.l0 : Nat → Int → List Int → Int → Int → Int → List (S46) → List Int → List Int → Option (Bool)
 | 0, _, _, _, _, _, _, _, _ => none
 | k + 1, x3, x32, x33, x34, x156000, x156001, x156002, x156003 => if x34 < x33 then (if 0 ≤ x34 then (if x34 < (x32.length : Int) then ((impl_isBelow.f (rd x32 x34) x156000).bind fun t158 => (if t158 = true then (if x34 > 0 then (if 0 ≤ (wrap64 (x34 - 1)) then (if (wrap64 (x34 - 1)) < (x156003.length : Int) then (if (rd x156003 (wrap64 (x34 - 1))) ≥ (rd x32 x34) then (some false) else (impl_GoodYoung.l0 k x3 x32 x33 (wrap64 (x34 + 1)) x156000 x156001 x156002 x156003)) else (none)) else (none)) else (impl_GoodYoung.l0 k x3 x32 x33 (wrap64 (x34 + 1)) x156000 x156001 x156002 x156003)) else (some false))) else (none)) else (none)) else (impl_GoodYoung.l1 k x3 x156001 (x156001.length : Int) 0 x156000 x156001 x156002 x156003)
def impl_GoodYoung.l1 : Nat → Int → List (S46) → Int → Int → Int → List (S46) → List Int → List Int → Option (Bool)
 | 0, _, _, _, _, _, _, _, _ => none
 | k + 1, x3, x60, x61, x62, x156000, x156001, x156002, x156003 => if x62 < x61 then (if 0 ≤ x62 then (if x62 < (x60.length : Int) then ((impl_isCell.f ((rd_T46 x60 x62).f0) ((rd_T46 x60 x62).f1) ((rd_T46 x60 x62).f2) ((rd_T46 x60 x62).f3) x3).bind fun t162 => (if t162 = true then (if x62 < x156000 then ((impl_Young_namesYoung.f x156000 x156001 x156002 x156003 ((rd_T46 x60 x62).f0) ((rd_T46 x60 x62).f1) ((rd_T46 x60 x62).f2) ((rd_T46 x60 x62).f3)).bind fun t163 => (if t163 = true then ((slices_Contains_int_int.f k x156003 x62).bind fun t164 => (if t164 = true then (impl_GoodYoung.l1 k x3 x60 x61 (wrap64 (x62 + 1)) x156000 x156001 x156002 x156003) else (some false))) else (impl_GoodYoung.l1 k x3 x60 x61 (wrap64 (x62 + 1)) x156000 x156001 x156002 x156003))) else (impl_GoodYoung.l1 k x3 x60 x61 (wrap64 (x62 + 1)) x156000 x156001 x156002 x156003)) else (some false))) else (none)) else (none)) else (some true)
end
def impl_GoodYoung.f (k : Nat) (a0_0 : Int) (l0_1 : List (S46)) (l0_2 : List Int) (l0_3 : List Int) : Option (Bool) := if (l0_1.length : Int) > 200 then (impl_GoodYoung.j0 k (l0_1.length : Int) true a0_0 l0_1 l0_2 l0_3) else (if a0_0 < 0 then (impl_GoodYoung.j0 k (l0_1.length : Int) true a0_0 l0_1 l0_2 l0_3) else (if a0_0 > (l0_1.length : Int) then (impl_GoodYoung.j0 k (l0_1.length : Int) true a0_0 l0_1 l0_2 l0_3) else ((impl_areRoots.f l0_2 (l0_1.length : Int)).bind fun t156 => (impl_GoodYoung.j0 k (l0_1.length : Int) (!t156) a0_0 l0_1 l0_2 l0_3))))
theorem impl_GoodYoung.mono_l : ∀ k, (∀ y0 y1 y2 y3 y4 y5, LeO (impl_GoodYoung.j0 k y0 y1 y2 y3 y4 y5) (impl_GoodYoung.j0 (k + 1) y0 y1 y2 y3 y4 y5)) ∧ (∀ y0 y1 y2 y3 y4 y5 y6 y7, LeO (impl_GoodYoung.l0 k y0 y1 y2 y3 y4 y5 y6 y7) (impl_GoodYoung.l0 (k + 1) y0 y1 y2 y3 y4 y5 y6 y7)) ∧ (∀ y0 y1 y2 y3 y4 y5 y6 y7, LeO (impl_GoodYoung.l1 k y0 y1 y2 y3 y4 y5 y6 y7) (impl_GoodYoung.l1 (k + 1) y0 y1 y2 y3 y4 y5 y6 y7))
 | 0 => ⟨fun _ _ _ _ _ _ r h => by simp [impl_GoodYoung.j0] at h, fun _ _ _ _ _ _ _ _ r h => by simp [impl_GoodYoung.l0] at h, fun _ _ _ _ _ _ _ _ r h => by simp [impl_GoodYoung.l1] at h⟩
 | k + 1 => by
  obtain ⟨ih0, ih1, ih2⟩ := impl_GoodYoung.mono_l k
  refine ⟨?_, ?_, ?_⟩
  ·intro y0 y1 y2 y3 y4 y5
   unfold impl_GoodYoung.j0
   repeat' first
   | (with_reducible exact ih0 _ _ _ _ _ _)
   | (with_reducible exact ih1 _ _ _ _ _ _ _ _)
   | (with_reducible exact ih2 _ _ _ _ _ _ _ _)
   | (with_reducible exact slices_Contains_int_int.mono _ _ _)
   | (with_reducible exact LeO.refl _)
   | (with_reducible exact LeO.none _)
   | (with_reducible refine LeO.ite ?_ ?_)
   | (with_reducible refine LeO.bind ?_ (fun _ => ?_))
   | exact ih0 _ _ _ _ _ _
   | exact ih1 _ _ _ _ _ _ _ _
   | exact ih2 _ _ _ _ _ _ _ _
   | exact slices_Contains_int_int.mono _ _ _
   | exact LeO.none _
   | refine LeO.ite ?_ ?_
   | refine LeO.bind ?_ (fun _ => ?_)
  ·intro y0 y1 y2 y3 y4 y5 y6 y7
   unfold impl_GoodYoung.l0
   repeat' first
   | (with_reducible exact ih0 _ _ _ _ _ _)
   | (with_reducible exact ih1 _ _ _ _ _ _ _ _)
   | (with_reducible exact ih2 _ _ _ _ _ _ _ _)
   | (with_reducible exact slices_Contains_int_int.mono _ _ _)
   | (with_reducible exact LeO.refl _)
   | (with_reducible exact LeO.none _)
   | (with_reducible refine LeO.ite ?_ ?_)
   | (with_reducible refine LeO.bind ?_ (fun _ => ?_))
   | exact ih0 _ _ _ _ _ _
   | exact ih1 _ _ _ _ _ _ _ _
   | exact ih2 _ _ _ _ _ _ _ _
   | exact slices_Contains_int_int.mono _ _ _
   | exact LeO.none _
   | refine LeO.ite ?_ ?_
   | refine LeO.bind ?_ (fun _ => ?_)
  ·intro y0 y1 y2 y3 y4 y5 y6 y7
   unfold impl_GoodYoung.l1
   repeat' first
   | (with_reducible exact ih0 _ _ _ _ _ _)
   | (with_reducible exact ih1 _ _ _ _ _ _ _ _)
   | (with_reducible exact ih2 _ _ _ _ _ _ _ _)
   | (with_reducible exact slices_Contains_int_int.mono _ _ _)
   | (with_reducible exact LeO.refl _)
   | (with_reducible exact LeO.none _)
   | (with_reducible refine LeO.ite ?_ ?_)
   | (with_reducible refine LeO.bind ?_ (fun _ => ?_))
   | exact ih0 _ _ _ _ _ _
   | exact ih1 _ _ _ _ _ _ _ _
   | exact ih2 _ _ _ _ _ _ _ _
   | exact slices_Contains_int_int.mono _ _ _
   | exact LeO.none _
   | refine LeO.ite ?_ ?_
   | refine LeO.bind ?_ (fun _ => ?_)
theorem impl_GoodYoung.mono : ∀ a0 a1 a2 a3 k, LeO (impl_GoodYoung.f k a0 a1 a2 a3) (impl_GoodYoung.f (k + 1) a0 a1 a2 a3) := by
 intro a0 a1 a2 a3 k
 obtain ⟨ih0, ih1, ih2⟩ := impl_GoodYoung.mono_l k
 unfold impl_GoodYoung.f
 repeat' first
   | (with_reducible exact ih0 _ _ _ _ _ _)
   | (with_reducible exact ih1 _ _ _ _ _ _ _ _)
   | (with_reducible exact ih2 _ _ _ _ _ _ _ _)
   | (with_reducible exact slices_Contains_int_int.mono _ _ _)
   | (with_reducible exact LeO.refl _)
   | (with_reducible exact LeO.none _)
   | (with_reducible refine LeO.ite ?_ ?_)
   | (with_reducible refine LeO.bind ?_ (fun _ => ?_))
   | exact ih0 _ _ _ _ _ _
   | exact ih1 _ _ _ _ _ _ _ _
   | exact ih2 _ _ _ _ _ _ _ _
   | exact slices_Contains_int_int.mono _ _ _
   | exact LeO.none _
   | refine LeO.ite ?_ ?_
   | refine LeO.bind ?_ (fun _ => ?_)
set_option maxHeartbeats 8000000 in
set_option maxRecDepth 100000 in
theorem impl_GoodYoung.calls (k : Nat) (a0_0 : Int) (A0_1 : Option Addr) (c0_1 : Nat) (l0_1 : List (S46)) (A0_2 : Option Addr) (c0_2 : Nat) (l0_2 : List Int) (A0_3 : Option Addr) (c0_3 : Nat) (l0_3 : List Int) (r : Bool) (w : World) (hr0_1 : Kd.C k46 w A0_1 l0_1.length l0_1) (hc0_1 : l0_1.length ≤ c0_1) (hr0_2 : Kd.C (Kd.int .i64) w A0_2 l0_2.length l0_2) (hc0_2 : l0_2.length ≤ c0_2) (hr0_3 : Kd.C (Kd.int .i64) w A0_3 l0_3.length l0_3) (hc0_3 : l0_3.length ≤ c0_3) (h : impl_GoodYoung.f k a0_0 l0_1 l0_2 l0_3 = some r) :
  Calls Try.prog 11 #[.agg #[.int .i64 a0_0, .slice A0_1 l0_1.length c0_1, .slice A0_2 l0_2.length c0_2, .slice A0_3 l0_3.length c0_3]] w fun e w' => e = .returned (.bool r) ∧ Below w.heap.size w w' := by
 have hu30 := Try.underlying30
 have hu46 := Try.underlying46
 have HR0_1 := Aside0.mk hr0_1
 have HC0_1 := Aside0.mk hc0_1
 clear hr0_1 hc0_1
 have HR0_2 := Aside0.mk hr0_2
 have HC0_2 := Aside0.mk hc0_2
 clear hr0_2 hc0_2
 have HR0_3 := Aside0.mk hr0_3
 have HC0_3 := Aside0.mk hc0_3
 clear hr0_3 hc0_3
 have HB := Aside0.mk (Below.refl w.heap.size w)
 have H : (if (l0_1.length : Int) > 200 then (impl_GoodYoung.j0 k (l0_1.length : Int) true a0_0 l0_1 l0_2 l0_3) else (if a0_0 < 0 then (impl_GoodYoung.j0 k (l0_1.length : Int) true a0_0 l0_1 l0_2 l0_3) else (if a0_0 > (l0_1.length : Int) then (impl_GoodYoung.j0 k (l0_1.length : Int) true a0_0 l0_1 l0_2 l0_3) else ((impl_areRoots.f l0_2 (l0_1.length : Int)).bind fun t156 => (impl_GoodYoung.j0 k (l0_1.length : Int) (!t156) a0_0 l0_1 l0_2 l0_3))))) = some r := h
 clear h
 have HC2 := Aside0.mk H
 clear H
 go_enter Try.func11, Try.ntmps11
 go_upto_region 2 with (first | ((with_reducible refine gate_dst (N := 1) rfl ?_); refine box_event ?hg (N := 1) ?hd (cs := #[.int .i64 a0_0, .slice A0_1 l0_1.length c0_1, .slice A0_2 l0_2.length c0_2, .slice A0_3 l0_3.length c0_3]) (t := 30) ?hr ?_; (case hd => rfl); (case hg => rfl); (case hr => first | (go_simp; done) | (go_simp; rfl)); intro gb155 hg w3 hbox hb; have n0_ := Aside0.mk (below_step pb_ hb); have n1_ := Aside0.mk (hbox); have n2_ := Aside0.mk ((by rw [hg]; exact (below_size pb_) : w.heap.size ≤ gb155)); have n3_ := Aside0.mk ((by rw [hg]; exact (below_size pb_) : w.heap.size ≤ gb155)); clear HB; have HB := n0_; have BK155 := n1_; have GW155 := n2_; have GE155 := n3_; clear n0_ n1_ n2_ n3_; clear hb hbox hg; have hcz4_0 := bc0 BK155.out; have hcz4_1 := bc1 BK155.out; have hcz4_2 := bc2 BK155.out; have hcz4_3 := bc3 BK155.out; have hfz4_0 := blk_frozen BK155.out 0; have hfz4_1 := blk_frozen BK155.out 1; have hfz4_2 := blk_frozen BK155.out 2; have hfz4_3 := blk_frozen BK155.out 3))
 (try simp only [Act.put, List.setIfInBounds_toArray, List.set_cons_zero, List.set_cons_succ])
 go_cut [30] (fun v30 wc => ∃ (kq : Nat) (x30_1 : Bool), v30 = .bool x30_1 ∧ Aside0 (impl_GoodYoung.j0 kq (l0_1.length : Int) x30_1 a0_0 l0_1 l0_2 l0_3 = some r) ∧ Aside0 (kq ≤ k) ∧ Aside0 (wc.heap[gb155]? = some (.cells #[.int .i64 a0_0, (.slice A0_1 l0_1.length c0_1), (.slice A0_2 l0_2.length c0_2), (.slice A0_3 l0_3.length c0_3)] 30 (0, 0))) ∧ Aside0 (Below w.heap.size w wc))
 case first =>
  have H := HC2.out
  clear HC2
  by_cases c5 : (l0_1.length : Int) > 200
  ·rw [if_pos c5] at H
   have c5b0 : decide (200 < (l0_1.length : Int)) = true := decide_eq_true c5
   have c5b1 : decide (200 < l0_1.length) = true := decide_eq_true (by omega)
   clear c5
   (first | rw [c5b0] | (simp only [i64_w, i32_w]; rw [c5b0]) | skip)
   have H' := Aside0.mk H
   clear H
   go_wp2
   go_meet
   case rel => exact ⟨_, (true), (by first | rfl | (simp; done) | (simp [*]; done)), H', ⟨by first | omega | exact Nat.le_refl _⟩, ⟨pk_ BK155.out⟩, ⟨pb_⟩⟩
  ·rw [if_neg c5] at H
   have c5b0 : decide (200 < (l0_1.length : Int)) = false := decide_eq_false c5
   have c5b1 : decide (200 < l0_1.length) = false := decide_eq_false (by omega)
   clear c5
   (first | rw [c5b0] | (simp only [i64_w, i32_w]; rw [c5b0]) | skip)
   by_cases c6 : a0_0 < 0
   ·rw [if_pos c6] at H
    have c6b0 : decide (a0_0 < 0) = true := decide_eq_true c6
    clear c6
    have H' := Aside0.mk H
    clear H
    have hcz7_0 := bc0 BK155.out
    have hcz7_1 := bc1 BK155.out
    have hcz7_2 := bc2 BK155.out
    have hcz7_3 := bc3 BK155.out
    have hfz7_0 := blk_frozen BK155.out 0
    have hfz7_1 := blk_frozen BK155.out 1
    have hfz7_2 := blk_frozen BK155.out 2
    have hfz7_3 := blk_frozen BK155.out 3
    go_wp2
    go_meet
    case rel => exact ⟨_, (true), (by first | rfl | (simp; done) | (simp [*]; done)), H', ⟨by first | omega | exact Nat.le_refl _⟩, ⟨pk_ BK155.out⟩, ⟨pb_⟩⟩
   ·rw [if_neg c6] at H
    have c6b0 : decide (a0_0 < 0) = false := decide_eq_false c6
    clear c6
    by_cases c8 : a0_0 > (l0_1.length : Int)
    ·rw [if_pos c8] at H
     have c8b0 : decide ((l0_1.length : Int) < a0_0) = true := decide_eq_true c8
     clear c8
     have H' := Aside0.mk H
     clear H
     have hcz9_0 := bc0 BK155.out
     have hcz9_1 := bc1 BK155.out
     have hcz9_2 := bc2 BK155.out
     have hcz9_3 := bc3 BK155.out
     have hfz9_0 := blk_frozen BK155.out 0
     have hfz9_1 := blk_frozen BK155.out 1
     have hfz9_2 := blk_frozen BK155.out 2
     have hfz9_3 := blk_frozen BK155.out 3
     go_wp2
     go_meet
     case rel => exact ⟨_, (true), (by first | rfl | (simp; done) | (simp [*]; done)), H', ⟨by first | omega | exact Nat.le_refl _⟩, ⟨pk_ BK155.out⟩, ⟨pb_⟩⟩
    ·rw [if_neg c8] at H
     have c8b0 : decide ((l0_1.length : Int) < a0_0) = false := decide_eq_false c8
     clear c8
     replace H := Option.bind_eq_some_iff.mp H
     obtain ⟨t156, A100, H⟩ := H
     replace H : (impl_GoodYoung.j0 k (l0_1.length : Int) (!t156) a0_0 l0_1 l0_2 l0_3) = some r := H
     have A10 := Aside0.mk A100
     clear A100
     have H' := Aside0.mk H
     clear H
     have hcz11_0 := bc0 BK155.out
     have hcz11_1 := bc1 BK155.out
     have hcz11_2 := bc2 BK155.out
     have hcz11_3 := bc3 BK155.out
     have hfz11_0 := blk_frozen BK155.out 0
     have hfz11_1 := blk_frozen BK155.out 1
     have hfz11_2 := blk_frozen BK155.out 2
     have hfz11_3 := blk_frozen BK155.out 3
     go_wp2_with (first | (go_at_call 32; (with_reducible refine (impl_areRoots.calls _ _ l0_2 (l0_1.length : Int) t156 _ ?side1 ?side2 A10.out).mono ?_); (case side1 => exact pc_ (Kd.C_below HR0_2.out HB.out)); (case side2 => exact HC0_2.out); rintro e w12 ⟨rfl, hb⟩; have n0_ := Aside0.mk (blk_below (pk_ BK155.out) hb); have n1_ := Aside0.mk (below_step pb_ hb); clear BK155; clear HB; have BK155 := n0_; have HB := n1_; clear n0_ n1_; (try clear hb); (try clear hb2); (try clear hk); (try clear hi)))
     go_meet
     case rel => exact ⟨_, (!t156), (by first | rfl | (simp; done) | (simp [*]; done)), H', ⟨by first | omega | exact Nat.le_refl _⟩, ⟨pk_ BK155.out⟩, ⟨pb_⟩⟩
 case rest =>
  clear HC2
  try clear c1
  try clear p2
  try clear c5
  try clear c5b0
  try clear c5b1
  try clear c6
  try clear c6b0
  try clear c8
  try clear c8b0
  try clear c11
  try clear hcz11_0
  try clear hcz11_1
  try clear hcz11_2
  try clear hcz11_3
  try clear hcz4_0
  try clear hcz4_1
  try clear hcz4_2
  try clear hcz4_3
  try clear hcz7_0
  try clear hcz7_1
  try clear hcz7_2
  try clear hcz7_3
  try clear hcz9_0
  try clear hcz9_1
  try clear hcz9_2
  try clear hcz9_3
  try clear hfz11_0
  try clear hfz11_1
  try clear hfz11_2
  try clear hfz11_3
  try clear hfz4_0
  try clear hfz4_1
  try clear hfz4_2
  try clear hfz4_3
  try clear hfz7_0
  try clear hfz7_1
  try clear hfz7_2
  try clear hfz7_3
  try clear hfz9_0
  try clear hfz9_1
  try clear hfz9_2
  try clear hfz9_3
  obtain ⟨kq, x30_1, rfl, HA, HJ1, BK155, HB⟩ := hcut
  cases kq with
  | zero => exact absurd HA.out (by simp [impl_GoodYoung.j0])
  | succ kj1 =>
   have H := HA.out
   clear HA
   simp only [impl_GoodYoung.j0] at H
   by_cases c13 : x30_1 = true
   ·subst c13
    have H1 : (some false) = some r := by rw [if_pos rfl] at H; exact H
    clear H
    have H := H1
    clear H1
    obtain rfl := Option.some.inj H
    go_wp2
    go_ret
    exact ⟨by first | rfl | (simp [errW_none, errW_some] <;> rfl) | (simp [*, errW_none, errW_some] <;> rfl), pb_⟩
   ·replace c13 := Bool.eq_false_iff.mpr c13
    subst c13
    have H1 : (impl_GoodYoung.l0 kj1 (l0_1.length : Int) l0_3 (l0_3.length : Int) 0 a0_0 l0_1 l0_2 l0_3) = some r := by rw [if_neg (show ¬ (false = true) by decide)] at H; exact H
    clear H
    have H := H1
    clear H1
    have H' := Aside0.mk H
    clear H
    have hcz14_0 := bc0 BK155.out
    have hcz14_1 := bc1 BK155.out
    have hcz14_2 := bc2 BK155.out
    have hcz14_3 := bc3 BK155.out
    have hfz14_0 := blk_frozen BK155.out 0
    have hfz14_1 := blk_frozen BK155.out 1
    have hfz14_2 := blk_frozen BK155.out 2
    have hfz14_3 := blk_frozen BK155.out 3
    go_wp2
    go_loopg [34] kj1 (fun kq v34 w' => ∃ (x34_2 : Int), v34 = .int .i64 x34_2 ∧ Aside0 (impl_GoodYoung.l0 kq (l0_1.length : Int) l0_3 (l0_3.length : Int) x34_2 a0_0 l0_1 l0_2 l0_3 = some r) ∧ Aside0 (kq ≤ kj1) ∧ Aside0 (w'.heap[gb155]? = some (.cells #[.int .i64 a0_0, (.slice A0_1 l0_1.length c0_1), (.slice A0_2 l0_2.length c0_2), (.slice A0_3 l0_3.length c0_3)] 30 (0, 0))) ∧ Aside0 (Below w.heap.size w w'))
    case atStart => exact ⟨(0), (by first | rfl | (simp; done) | (simp [*]; done)), H', ⟨Nat.le_refl _⟩, ⟨pk_ BK155.out⟩, ⟨pb_⟩⟩
    case round =>
     clear H'
     try clear c1
     try clear p2
     try clear c5
     try clear c5b0
     try clear c5b1
     try clear c6
     try clear c6b0
     try clear c8
     try clear c8b0
     try clear c11
     try clear c13
     try clear hcz11_0
     try clear hcz11_1
     try clear hcz11_2
     try clear hcz11_3
     try clear hcz14_0
     try clear hcz14_1
     try clear hcz14_2
     try clear hcz14_3
     try clear hcz4_0
     try clear hcz4_1
     try clear hcz4_2
     try clear hcz4_3
     try clear hcz7_0
     try clear hcz7_1
     try clear hcz7_2
     try clear hcz7_3
     try clear hcz9_0
     try clear hcz9_1
     try clear hcz9_2
     try clear hcz9_3
     try clear hfz11_0
     try clear hfz11_1
     try clear hfz11_2
     try clear hfz11_3
     try clear hfz14_0
     try clear hfz14_1
     try clear hfz14_2
     try clear hfz14_3
     try clear hfz4_0
     try clear hfz4_1
     try clear hfz4_2
     try clear hfz4_3
     try clear hfz7_0
     try clear hfz7_1
     try clear hfz7_2
     try clear hfz7_3
     try clear hfz9_0
     try clear hfz9_1
     try clear hfz9_2
     try clear hfz9_3
     try clear p2
     obtain ⟨x34_2, rfl, HA, HK2, BK155, HB⟩ := hrel
     cases gk with
     | zero => exact absurd HA.out (by simp [impl_GoodYoung.l0])
     | succ k2 =>
      have H := HA.out
      clear HA
      simp only [impl_GoodYoung.l0] at H
      by_cases c15 : x34_2 < (l0_3.length : Int)
      ·rw [if_pos c15] at H
       have c15b0 : decide (x34_2 < (l0_3.length : Int)) = true := decide_eq_true c15
       clear c15
       by_cases c16 : 0 ≤ x34_2
       ·rw [if_pos c16] at H
        have c16b0 : decide (0 ≤ x34_2) = true := decide_eq_true c16
        clear c16
        by_cases c17 : x34_2 < (l0_3.length : Int)
        ·rw [if_pos c17] at H
         have c17b0 : decide (x34_2 < (l0_3.length : Int)) = true := decide_eq_true c17
         clear c17
         replace H := Option.bind_eq_some_iff.mp H
         obtain ⟨t158, A180, H⟩ := H
         replace H : (if t158 = true then (if x34_2 > 0 then (if 0 ≤ (wrap64 (x34_2 - 1)) then (if (wrap64 (x34_2 - 1)) < (l0_3.length : Int) then (if (rd l0_3 (wrap64 (x34_2 - 1))) ≥ (rd l0_3 x34_2) then (some false) else (impl_GoodYoung.l0 k2 (l0_1.length : Int) l0_3 (l0_3.length : Int) (wrap64 (x34_2 + 1)) a0_0 l0_1 l0_2 l0_3)) else (none)) else (none)) else (impl_GoodYoung.l0 k2 (l0_1.length : Int) l0_3 (l0_3.length : Int) (wrap64 (x34_2 + 1)) a0_0 l0_1 l0_2 l0_3)) else (some false)) = some r := H
         have A18 := Aside0.mk A180
         clear A180
         by_cases c19 : t158 = true
         ·subst c19
          have H1 : (if x34_2 > 0 then (if 0 ≤ (wrap64 (x34_2 - 1)) then (if (wrap64 (x34_2 - 1)) < (l0_3.length : Int) then (if (rd l0_3 (wrap64 (x34_2 - 1))) ≥ (rd l0_3 x34_2) then (some false) else (impl_GoodYoung.l0 k2 (l0_1.length : Int) l0_3 (l0_3.length : Int) (wrap64 (x34_2 + 1)) a0_0 l0_1 l0_2 l0_3)) else (none)) else (none)) else (impl_GoodYoung.l0 k2 (l0_1.length : Int) l0_3 (l0_3.length : Int) (wrap64 (x34_2 + 1)) a0_0 l0_1 l0_2 l0_3)) = some r := by rw [if_pos rfl] at H; exact H
          clear H
          have H := H1
          clear H1
          by_cases c20 : x34_2 > 0
          ·rw [if_pos c20] at H
           have c20b0 : decide (0 < x34_2) = true := decide_eq_true c20
           clear c20
           obtain ⟨ji21, hji21⟩ : ∃ j_ : Int, (wrap64 (x34_2 - 1)) = j_ := ⟨_, rfl⟩
           replace H : (if 0 ≤ (ji21) then (if (ji21) < (l0_3.length : Int) then (if (rd l0_3 (ji21)) ≥ (rd l0_3 x34_2) then (some false) else (impl_GoodYoung.l0 k2 (l0_1.length : Int) l0_3 (l0_3.length : Int) (wrap64 (x34_2 + 1)) a0_0 l0_1 l0_2 l0_3)) else (none)) else (none)) = some r := by first | (rw [hji21] at H; exact H) | (simp only [hji21] at H ⊢; exact H)
           (try rw [hji21] at A18)
           have hji21w : (IntKind.i64.wrap (x34_2 - 1)) = ji21 := (i64_w _).trans hji21
           by_cases c22 : 0 ≤ (ji21)
           ·rw [if_pos c22] at H
            have c22b0 : decide (0 ≤ (ji21)) = true := decide_eq_true c22
            clear c22
            by_cases c23 : (ji21) < (l0_3.length : Int)
            ·rw [if_pos c23] at H
             have c23b0 : decide ((ji21) < (l0_3.length : Int)) = true := decide_eq_true c23
             clear c23
             by_cases c24 : (rd l0_3 (ji21)) ≥ (rd l0_3 x34_2)
             ·rw [if_pos c24] at H
              have c24b0 : decide ((rd l0_3 x34_2) ≤ (rd l0_3 (ji21))) = true := decide_eq_true c24
              clear c24
              obtain rfl := Option.some.inj H
              have p157 : 0 ≤ (x34_2 : Int) := of_decide_eq_true (by first | (with_reducible assumption) | assumption)
              have q157 : x34_2 < (l0_3.length : Int) := of_decide_eq_true (by first | (with_reducible assumption) | assumption)
              obtain ⟨ad157, e157, hx157_0⟩ := Kd.at_int HR0_3.out x34_2 p157 q157
              cases e157
              replace hx157_0 := (HB.out.cell (World.block_lt_of_cell? w _ hx157_0)).trans hx157_0
              replace p157 := eq_true p157
              replace q157 := eq_true q157
              have hcz25_0 := bc0 BK155.out
              have hcz25_1 := bc1 BK155.out
              have hcz25_2 := bc2 BK155.out
              have hcz25_3 := bc3 BK155.out
              have hfz25_0 := blk_frozen BK155.out 0
              have hfz25_1 := blk_frozen BK155.out 1
              have hfz25_2 := blk_frozen BK155.out 2
              have hfz25_3 := blk_frozen BK155.out 3
              go_wp2_with (first | ((with_reducible refine gate_callee (f := 33) rfl ?_); refine goesL_ (some 42) rfl rfl Try.func33 (by kernel_rfl) rfl #[.int .i64 (rd l0_3 x34_2), .int .i64 a0_0] rfl (by (try simp only [List.map_toArray, List.map_cons, List.map_nil]); first | done | rfl | (simp only [List.length_drop, List.length_take]; rfl)) ?_; (with_reducible refine (impl_isBelow.calls (rd l0_3 x34_2) a0_0 true _ A18.out).mono ?_); rintro e w' ⟨rfl, ⟨nd, rfl⟩⟩; refine ⟨_, rfl, ?_⟩; have p159 : 0 ≤ ((ji21) : Int) := of_decide_eq_true (by first | (with_reducible assumption) | assumption); have q159 : (ji21) < (l0_3.length : Int) := of_decide_eq_true (by first | (with_reducible assumption) | assumption); obtain ⟨ad159, e159, hx159_0⟩ := Kd.at_int HR0_3.out (ji21) p159 q159; obtain rfl : ad157 = ad159 := (by injection e159); replace hx159_0 := (HB.out.cell (World.block_lt_of_cell? w _ hx159_0)).trans hx159_0; replace p159 := eq_true p159; replace q159 := eq_true q159))
              go_ret
              exact ⟨by first | rfl | (simp [errW_none, errW_some] <;> rfl) | (simp only [← hji21]; first | rfl | (simp [errW_none, errW_some] <;> rfl)) | (simp [*, errW_none, errW_some] <;> rfl), pb_⟩
             ·rw [if_neg c24] at H
              have c24b0 : decide ((rd l0_3 x34_2) ≤ (rd l0_3 (ji21))) = false := decide_eq_false c24
              clear c24
              have H' := Aside0.mk H
              clear H
              have p157 : 0 ≤ (x34_2 : Int) := of_decide_eq_true (by first | (with_reducible assumption) | assumption)
              have q157 : x34_2 < (l0_3.length : Int) := of_decide_eq_true (by first | (with_reducible assumption) | assumption)
              obtain ⟨ad157, e157, hx157_0⟩ := Kd.at_int HR0_3.out x34_2 p157 q157
              cases e157
              replace hx157_0 := (HB.out.cell (World.block_lt_of_cell? w _ hx157_0)).trans hx157_0
              replace p157 := eq_true p157
              replace q157 := eq_true q157
              have hcz26_0 := bc0 BK155.out
              have hcz26_1 := bc1 BK155.out
              have hcz26_2 := bc2 BK155.out
              have hcz26_3 := bc3 BK155.out
              have hfz26_0 := blk_frozen BK155.out 0
              have hfz26_1 := blk_frozen BK155.out 1
              have hfz26_2 := blk_frozen BK155.out 2
              have hfz26_3 := blk_frozen BK155.out 3
              go_wp2_with (first | ((with_reducible refine gate_callee (f := 33) rfl ?_); refine goesL_ (some 42) rfl rfl Try.func33 (by kernel_rfl) rfl #[.int .i64 (rd l0_3 x34_2), .int .i64 a0_0] rfl (by (try simp only [List.map_toArray, List.map_cons, List.map_nil]); first | done | rfl | (simp only [List.length_drop, List.length_take]; rfl)) ?_; (with_reducible refine (impl_isBelow.calls (rd l0_3 x34_2) a0_0 true _ A18.out).mono ?_); rintro e w' ⟨rfl, ⟨nd, rfl⟩⟩; refine ⟨_, rfl, ?_⟩; have p159 : 0 ≤ ((ji21) : Int) := of_decide_eq_true (by first | (with_reducible assumption) | assumption); have q159 : (ji21) < (l0_3.length : Int) := of_decide_eq_true (by first | (with_reducible assumption) | assumption); obtain ⟨ad159, e159, hx159_0⟩ := Kd.at_int HR0_3.out (ji21) p159 q159; obtain rfl : ad157 = ad159 := (by injection e159); replace hx159_0 := (HB.out.cell (World.block_lt_of_cell? w _ hx159_0)).trans hx159_0; replace p159 := eq_true p159; replace q159 := eq_true q159))
              go_roundg k2
              case measure => have := HJ1.out; have := HK2.out; omega
              case rel => exact ⟨(wrap64 (x34_2 + 1)), (by first | rfl | (simp; done) | (simp [*]; done)), H', ⟨by have := HJ1.out; have := HK2.out; omega⟩, ⟨pk_ BK155.out⟩, ⟨pb_⟩⟩
            ·rw [if_neg c23] at H
             exact absurd H (by simp)
           ·rw [if_neg c22] at H
            exact absurd H (by simp)
          ·rw [if_neg c20] at H
           have c20b0 : decide (0 < x34_2) = false := decide_eq_false c20
           clear c20
           have H' := Aside0.mk H
           clear H
           have p157 : 0 ≤ (x34_2 : Int) := of_decide_eq_true (by first | (with_reducible assumption) | assumption)
           have q157 : x34_2 < (l0_3.length : Int) := of_decide_eq_true (by first | (with_reducible assumption) | assumption)
           obtain ⟨ad157, e157, hx157_0⟩ := Kd.at_int HR0_3.out x34_2 p157 q157
           cases e157
           replace hx157_0 := (HB.out.cell (World.block_lt_of_cell? w _ hx157_0)).trans hx157_0
           replace p157 := eq_true p157
           replace q157 := eq_true q157
           have hcz27_0 := bc0 BK155.out
           have hcz27_1 := bc1 BK155.out
           have hcz27_2 := bc2 BK155.out
           have hcz27_3 := bc3 BK155.out
           have hfz27_0 := blk_frozen BK155.out 0
           have hfz27_1 := blk_frozen BK155.out 1
           have hfz27_2 := blk_frozen BK155.out 2
           have hfz27_3 := blk_frozen BK155.out 3
           go_wp2_with (first | ((with_reducible refine gate_callee (f := 33) rfl ?_); refine goesL_ (some 42) rfl rfl Try.func33 (by kernel_rfl) rfl #[.int .i64 (rd l0_3 x34_2), .int .i64 a0_0] rfl (by (try simp only [List.map_toArray, List.map_cons, List.map_nil]); first | done | rfl | (simp only [List.length_drop, List.length_take]; rfl)) ?_; (with_reducible refine (impl_isBelow.calls (rd l0_3 x34_2) a0_0 true _ A18.out).mono ?_); rintro e w' ⟨rfl, ⟨nd, rfl⟩⟩; refine ⟨_, rfl, ?_⟩))
           go_roundg k2
           case measure => have := HJ1.out; have := HK2.out; omega
           case rel => exact ⟨(wrap64 (x34_2 + 1)), (by first | rfl | (simp; done) | (simp [*]; done)), H', ⟨by have := HJ1.out; have := HK2.out; omega⟩, ⟨pk_ BK155.out⟩, ⟨pb_⟩⟩
         ·replace c19 := Bool.eq_false_iff.mpr c19
          subst c19
          have H1 : (some false) = some r := by rw [if_neg (show ¬ (false = true) by decide)] at H; exact H
          clear H
          have H := H1
          clear H1
          obtain rfl := Option.some.inj H
          have p157 : 0 ≤ (x34_2 : Int) := of_decide_eq_true (by first | (with_reducible assumption) | assumption)
          have q157 : x34_2 < (l0_3.length : Int) := of_decide_eq_true (by first | (with_reducible assumption) | assumption)
          obtain ⟨ad157, e157, hx157_0⟩ := Kd.at_int HR0_3.out x34_2 p157 q157
          cases e157
          replace hx157_0 := (HB.out.cell (World.block_lt_of_cell? w _ hx157_0)).trans hx157_0
          replace p157 := eq_true p157
          replace q157 := eq_true q157
          have hcz28_0 := bc0 BK155.out
          have hcz28_1 := bc1 BK155.out
          have hcz28_2 := bc2 BK155.out
          have hcz28_3 := bc3 BK155.out
          have hfz28_0 := blk_frozen BK155.out 0
          have hfz28_1 := blk_frozen BK155.out 1
          have hfz28_2 := blk_frozen BK155.out 2
          have hfz28_3 := blk_frozen BK155.out 3
          go_wp2_with (first | ((with_reducible refine gate_callee (f := 33) rfl ?_); refine goesL_ (some 42) rfl rfl Try.func33 (by kernel_rfl) rfl #[.int .i64 (rd l0_3 x34_2), .int .i64 a0_0] rfl (by (try simp only [List.map_toArray, List.map_cons, List.map_nil]); first | done | rfl | (simp only [List.length_drop, List.length_take]; rfl)) ?_; (with_reducible refine (impl_isBelow.calls (rd l0_3 x34_2) a0_0 false _ A18.out).mono ?_); rintro e w' ⟨rfl, ⟨nd, rfl⟩⟩; refine ⟨_, rfl, ?_⟩))
          go_ret
          exact ⟨by first | rfl | (simp [errW_none, errW_some] <;> rfl) | (simp [*, errW_none, errW_some] <;> rfl), pb_⟩
        ·rw [if_neg c17] at H
         exact absurd H (by simp)
       ·rw [if_neg c16] at H
        exact absurd H (by simp)
      ·rw [if_neg c15] at H
       have c15b0 : decide (x34_2 < (l0_3.length : Int)) = false := decide_eq_false c15
       clear c15
       have H' := Aside0.mk H
       clear H
       have hcz29_0 := bc0 BK155.out
       have hcz29_1 := bc1 BK155.out
       have hcz29_2 := bc2 BK155.out
       have hcz29_3 := bc3 BK155.out
       have hfz29_0 := blk_frozen BK155.out 0
       have hfz29_1 := blk_frozen BK155.out 1
       have hfz29_2 := blk_frozen BK155.out 2
       have hfz29_3 := blk_frozen BK155.out 3
       go_wp2
       go_loopg [62] k2 (fun kq v62 w' => ∃ (x62_3 : Int), v62 = .int .i64 x62_3 ∧ Aside0 (impl_GoodYoung.l1 kq (l0_1.length : Int) l0_1 (l0_1.length : Int) x62_3 a0_0 l0_1 l0_2 l0_3 = some r) ∧ Aside0 (kq ≤ k2) ∧ Aside0 (w'.heap[gb155]? = some (.cells #[.int .i64 a0_0, (.slice A0_1 l0_1.length c0_1), (.slice A0_2 l0_2.length c0_2), (.slice A0_3 l0_3.length c0_3)] 30 (0, 0))) ∧ Aside0 (Below w.heap.size w w'))
       case atStart => exact ⟨(0), (by first | rfl | (simp; done) | (simp [*]; done)), H', ⟨Nat.le_refl _⟩, ⟨pk_ BK155.out⟩, ⟨pb_⟩⟩
       case round =>
        clear H'
        try clear c1
        try clear p1
        try clear q1
        try clear hx1
        try clear c2
        try clear p2
        try clear c3
        try clear c5
        try clear c5b0
        try clear c5b1
        try clear c6
        try clear c6b0
        try clear p6
        try clear c8
        try clear c8b0
        try clear c11
        try clear c13
        try clear c15
        try clear c15b0
        try clear p15
        try clear q15
        try clear hx15
        try clear c16
        try clear c16b0
        try clear c17
        try clear c17b0
        try clear c19
        try clear c20
        try clear c20b0
        try clear c22
        try clear c22b0
        try clear c23
        try clear c23b0
        try clear c24
        try clear c24b0
        try clear hcz11_0
        try clear hcz11_1
        try clear hcz11_2
        try clear hcz11_3
        try clear hcz14_0
        try clear hcz14_1
        try clear hcz14_2
        try clear hcz14_3
        try clear hcz25_0
        try clear hcz25_1
        try clear hcz25_2
        try clear hcz25_3
        try clear hcz26_0
        try clear hcz26_1
        try clear hcz26_2
        try clear hcz26_3
        try clear hcz27_0
        try clear hcz27_1
        try clear hcz27_2
        try clear hcz27_3
        try clear hcz28_0
        try clear hcz28_1
        try clear hcz28_2
        try clear hcz28_3
        try clear hcz29_0
        try clear hcz29_1
        try clear hcz29_2
        try clear hcz29_3
        try clear hcz4_0
        try clear hcz4_1
        try clear hcz4_2
        try clear hcz4_3
        try clear hcz7_0
        try clear hcz7_1
        try clear hcz7_2
        try clear hcz7_3
        try clear hcz9_0
        try clear hcz9_1
        try clear hcz9_2
        try clear hcz9_3
        try clear hfz11_0
        try clear hfz11_1
        try clear hfz11_2
        try clear hfz11_3
        try clear hfz14_0
        try clear hfz14_1
        try clear hfz14_2
        try clear hfz14_3
        try clear hfz25_0
        try clear hfz25_1
        try clear hfz25_2
        try clear hfz25_3
        try clear hfz26_0
        try clear hfz26_1
        try clear hfz26_2
        try clear hfz26_3
        try clear hfz27_0
        try clear hfz27_1
        try clear hfz27_2
        try clear hfz27_3
        try clear hfz28_0
        try clear hfz28_1
        try clear hfz28_2
        try clear hfz28_3
        try clear hfz29_0
        try clear hfz29_1
        try clear hfz29_2
        try clear hfz29_3
        try clear hfz4_0
        try clear hfz4_1
        try clear hfz4_2
        try clear hfz4_3
        try clear hfz7_0
        try clear hfz7_1
        try clear hfz7_2
        try clear hfz7_3
        try clear hfz9_0
        try clear hfz9_1
        try clear hfz9_2
        try clear hfz9_3
        try clear hx157_0
        try clear hx159_0
        try clear p157
        try clear p159
        try clear p2
        try clear q157
        try clear q159
        obtain ⟨x62_3, rfl, HA, HK3, BK155, HB⟩ := hrel
        cases gk with
        | zero => exact absurd HA.out (by simp [impl_GoodYoung.l1])
        | succ k3 =>
         have H := HA.out
         clear HA
         simp only [impl_GoodYoung.l1] at H
         by_cases c30 : x62_3 < (l0_1.length : Int)
         ·rw [if_pos c30] at H
          have c30b0 : decide (x62_3 < (l0_1.length : Int)) = true := decide_eq_true c30
          clear c30
          by_cases c31 : 0 ≤ x62_3
          ·rw [if_pos c31] at H
           have c31b0 : decide (0 ≤ x62_3) = true := decide_eq_true c31
           clear c31
           by_cases c32 : x62_3 < (l0_1.length : Int)
           ·rw [if_pos c32] at H
            have c32b0 : decide (x62_3 < (l0_1.length : Int)) = true := decide_eq_true c32
            clear c32
            replace H := Option.bind_eq_some_iff.mp H
            obtain ⟨t162, A330, H⟩ := H
            replace H : (if t162 = true then (if x62_3 < a0_0 then ((impl_Young_namesYoung.f a0_0 l0_1 l0_2 l0_3 ((rd_T46 l0_1 x62_3).f0) ((rd_T46 l0_1 x62_3).f1) ((rd_T46 l0_1 x62_3).f2) ((rd_T46 l0_1 x62_3).f3)).bind fun t163 => (if t163 = true then ((slices_Contains_int_int.f k3 l0_3 x62_3).bind fun t164 => (if t164 = true then (impl_GoodYoung.l1 k3 (l0_1.length : Int) l0_1 (l0_1.length : Int) (wrap64 (x62_3 + 1)) a0_0 l0_1 l0_2 l0_3) else (some false))) else (impl_GoodYoung.l1 k3 (l0_1.length : Int) l0_1 (l0_1.length : Int) (wrap64 (x62_3 + 1)) a0_0 l0_1 l0_2 l0_3))) else (impl_GoodYoung.l1 k3 (l0_1.length : Int) l0_1 (l0_1.length : Int) (wrap64 (x62_3 + 1)) a0_0 l0_1 l0_2 l0_3)) else (some false)) = some r := H
            have A33 := Aside0.mk A330
            clear A330
            by_cases c34 : t162 = true
            ·subst c34
             have H1 : (if x62_3 < a0_0 then ((impl_Young_namesYoung.f a0_0 l0_1 l0_2 l0_3 ((rd_T46 l0_1 x62_3).f0) ((rd_T46 l0_1 x62_3).f1) ((rd_T46 l0_1 x62_3).f2) ((rd_T46 l0_1 x62_3).f3)).bind fun t163 => (if t163 = true then ((slices_Contains_int_int.f k3 l0_3 x62_3).bind fun t164 => (if t164 = true then (impl_GoodYoung.l1 k3 (l0_1.length : Int) l0_1 (l0_1.length : Int) (wrap64 (x62_3 + 1)) a0_0 l0_1 l0_2 l0_3) else (some false))) else (impl_GoodYoung.l1 k3 (l0_1.length : Int) l0_1 (l0_1.length : Int) (wrap64 (x62_3 + 1)) a0_0 l0_1 l0_2 l0_3))) else (impl_GoodYoung.l1 k3 (l0_1.length : Int) l0_1 (l0_1.length : Int) (wrap64 (x62_3 + 1)) a0_0 l0_1 l0_2 l0_3)) = some r := by rw [if_pos rfl] at H; exact H
             clear H
             have H := H1
             clear H1
             by_cases c35 : x62_3 < a0_0
             ·rw [if_pos c35] at H
              have c35b0 : decide (x62_3 < a0_0) = true := decide_eq_true c35
              clear c35
              replace H := Option.bind_eq_some_iff.mp H
              obtain ⟨t163, A360, H⟩ := H
              replace H : (if t163 = true then ((slices_Contains_int_int.f k3 l0_3 x62_3).bind fun t164 => (if t164 = true then (impl_GoodYoung.l1 k3 (l0_1.length : Int) l0_1 (l0_1.length : Int) (wrap64 (x62_3 + 1)) a0_0 l0_1 l0_2 l0_3) else (some false))) else (impl_GoodYoung.l1 k3 (l0_1.length : Int) l0_1 (l0_1.length : Int) (wrap64 (x62_3 + 1)) a0_0 l0_1 l0_2 l0_3)) = some r := H
              have A36 := Aside0.mk A360
              clear A360
              by_cases c37 : t163 = true
              ·subst c37
               have H1 : ((slices_Contains_int_int.f k3 l0_3 x62_3).bind fun t164 => (if t164 = true then (impl_GoodYoung.l1 k3 (l0_1.length : Int) l0_1 (l0_1.length : Int) (wrap64 (x62_3 + 1)) a0_0 l0_1 l0_2 l0_3) else (some false))) = some r := by rw [if_pos rfl] at H; exact H
               clear H
               have H := H1
               clear H1
               replace H := Option.bind_eq_some_iff.mp H
               obtain ⟨t164, A380, H⟩ := H
               replace H : (if t164 = true then (impl_GoodYoung.l1 k3 (l0_1.length : Int) l0_1 (l0_1.length : Int) (wrap64 (x62_3 + 1)) a0_0 l0_1 l0_2 l0_3) else (some false)) = some r := H
               have A38 := Aside0.mk A380
               clear A380
               by_cases c39 : t164 = true
               ·subst c39
                have H1 : (impl_GoodYoung.l1 k3 (l0_1.length : Int) l0_1 (l0_1.length : Int) (wrap64 (x62_3 + 1)) a0_0 l0_1 l0_2 l0_3) = some r := by rw [if_pos rfl] at H; exact H
                clear H
                have H := H1
                clear H1
                have H' := Aside0.mk H
                clear H
                have p160 : 0 ≤ (x62_3 : Int) := of_decide_eq_true (by first | (with_reducible assumption) | assumption)
                have q160 : x62_3 < (l0_1.length : Int) := of_decide_eq_true (by first | (with_reducible assumption) | assumption)
                obtain ⟨ad160, e160, hx160_0, hx160_1, hx160_2, hx160_3⟩ := at_T46 HR0_1.out x62_3 p160 q160
                cases e160
                replace hx160_0 := (HB.out.cell (World.block_lt_of_cell? w _ hx160_0)).trans hx160_0
                replace hx160_1 := (HB.out.cell (World.block_lt_of_cell? w _ hx160_1)).trans hx160_1
                replace hx160_2 := (HB.out.cell (World.block_lt_of_cell? w _ hx160_2)).trans hx160_2
                replace hx160_3 := (HB.out.cell (World.block_lt_of_cell? w _ hx160_3)).trans hx160_3
                replace p160 := eq_true p160
                replace q160 := eq_true q160
                go_wp2_with (first | ((with_reducible refine gate_dst (N := 7) rfl ?_); refine box_event ?hg (N := 7) ?hd (cs := #[.bool false, .int .i64 0, .int .i64 0, .int .i64 0]) (t := 46) ?hr ?_; (case hd => rfl); (case hg => rfl); (case hr => first | (go_simp; done) | (go_simp; rfl)); intro gb161 hg w40 hbox hb; have n0_ := Aside0.mk (blk_below (pk_ BK155.out) hb); have n1_ := Aside0.mk (below_step pb_ hb); have n2_ := Aside0.mk (hbox); have n3_ := Aside0.mk ((by rw [hg]; exact (below_size pb_) : w.heap.size ≤ gb161)); have n4_ := Aside0.mk ((by rw [hg]; exact (below_size pb_) : w.heap.size ≤ gb161)); have n5_ := Aside0.mk ((by rw [hg]; exact Nat.ne_of_lt (blk_lt (pk_ BK155.out)) : gb155 ≠ gb161)); have n6_ := Aside0.mk ((by rw [hg]; exact Nat.ne_of_gt (blk_lt (pk_ BK155.out)) : gb161 ≠ gb155)); clear BK155; clear HB; have BK155 := n0_; have HB := n1_; have BK161 := n2_; have GW161 := n3_; have GE161 := n4_; have NB155_161 := n5_; have NB161_155 := n6_; clear n0_ n1_ n2_ n3_ n4_ n5_ n6_; clear hb hbox hg; have hnb41 := NB161_155.out; have hnc41 := NB155_161.out; have hcz42_0 := bc0 BK161.out; have hcz42_1 := bc1 BK161.out; have hcz42_2 := bc2 BK161.out; have hcz42_3 := bc3 BK161.out; have hfz42_0 := blk_frozen BK161.out 0; have hfz42_1 := blk_frozen BK161.out 1; have hfz42_2 := blk_frozen BK161.out 2; have hfz42_3 := blk_frozen BK161.out 3) | ((with_reducible refine gate_callee (f := 34) rfl ?_); refine goesL_ (some 69) rfl rfl Try.func34 (by kernel_rfl) rfl #[.agg #[.bool ((rd_T46 l0_1 x62_3).f0), .int .i64 ((rd_T46 l0_1 x62_3).f1), .int .i64 ((rd_T46 l0_1 x62_3).f2), .int .i64 ((rd_T46 l0_1 x62_3).f3)], .int .i64 (l0_1.length : Int)] rfl (by (try simp only [List.map_toArray, List.map_cons, List.map_nil]); first | done | rfl | (simp only [List.length_drop, List.length_take]; rfl)) ?_; (with_reducible refine (impl_isCell.calls ((rd_T46 l0_1 x62_3).f0) ((rd_T46 l0_1 x62_3).f1) ((rd_T46 l0_1 x62_3).f2) ((rd_T46 l0_1 x62_3).f3) (l0_1.length : Int) true _ A33.out).mono ?_); rintro e w43 ⟨rfl, hb⟩; refine ⟨_, rfl, ?_⟩; have n0_ := Aside0.mk (blk_below (g := gb155) (o := .cells #[.int .i64 a0_0, .slice (some ad160) l0_1.length c0_1, .slice A0_2 l0_2.length c0_2, .slice A0_3 l0_3.length c0_3] 30 (0, 0)) (by (with_reducible repeat (first | refine blk_drewN ?_ _ | refine blk_drew ?_ | refine blk_alloc ?_ _)); refine blk_far ?_ NB155_161.out _; (with_reducible repeat (first | refine blk_drewN ?_ _ | refine blk_drew ?_ | refine blk_alloc ?_ _)); refine blk_far ?_ NB155_161.out _; (with_reducible repeat (first | refine blk_drewN ?_ _ | refine blk_drew ?_ | refine blk_alloc ?_ _)); refine blk_far ?_ NB155_161.out _; (with_reducible repeat (first | refine blk_drewN ?_ _ | refine blk_drew ?_ | refine blk_alloc ?_ _)); refine blk_far ?_ NB155_161.out _; (with_reducible repeat (first | refine blk_drewN ?_ _ | refine blk_drew ?_ | refine blk_alloc ?_ _)); exact BK155.out) hb); have n1_ := Aside0.mk (blk_below (g := gb161) (o := .cells #[.bool ((rd_T46 l0_1 x62_3).f0), .int .i64 ((rd_T46 l0_1 x62_3).f1), .int .i64 ((rd_T46 l0_1 x62_3).f2), .int .i64 ((rd_T46 l0_1 x62_3).f3)] 46 (0, 0)) (by (with_reducible repeat (first | refine blk_drewN ?_ _ | refine blk_drew ?_ | refine blk_alloc ?_ _)); refine blk_put (cs := #[.bool ((rd_T46 l0_1 x62_3).f0), .int .i64 ((rd_T46 l0_1 x62_3).f1), .int .i64 ((rd_T46 l0_1 x62_3).f2), .int .i64 0]) ?_ 3 _ rfl; (with_reducible repeat (first | refine blk_drewN ?_ _ | refine blk_drew ?_ | refine blk_alloc ?_ _)); refine blk_put (cs := #[.bool ((rd_T46 l0_1 x62_3).f0), .int .i64 ((rd_T46 l0_1 x62_3).f1), .int .i64 0, .int .i64 0]) ?_ 2 _ rfl; (with_reducible repeat (first | refine blk_drewN ?_ _ | refine blk_drew ?_ | refine blk_alloc ?_ _)); refine blk_put (cs := #[.bool ((rd_T46 l0_1 x62_3).f0), .int .i64 0, .int .i64 0, .int .i64 0]) ?_ 1 _ rfl; (with_reducible repeat (first | refine blk_drewN ?_ _ | refine blk_drew ?_ | refine blk_alloc ?_ _)); refine blk_put (cs := #[.bool false, .int .i64 0, .int .i64 0, .int .i64 0]) ?_ 0 _ rfl; (with_reducible repeat (first | refine blk_drewN ?_ _ | refine blk_drew ?_ | refine blk_alloc ?_ _)); exact BK161.out) hb); have n2_ := Aside0.mk (below_step pb_ hb); clear BK155; clear BK161; clear HB; have BK155 := n0_; have BK161 := n1_; have HB := n2_; clear n0_ n1_ n2_; (try clear hb); (try clear hb2); (try clear hk); (try clear hi); have hcz44_0 := bc0 BK155.out; have hcz44_1 := bc1 BK155.out; have hcz44_2 := bc2 BK155.out; have hcz44_3 := bc3 BK155.out; have hfz44_0 := blk_frozen BK155.out 0; have hfz44_1 := blk_frozen BK155.out 1; have hfz44_2 := blk_frozen BK155.out 2; have hfz44_3 := blk_frozen BK155.out 3; have hcz45_0 := bc0 BK161.out; have hcz45_1 := bc1 BK161.out; have hcz45_2 := bc2 BK161.out; have hcz45_3 := bc3 BK161.out; have hfz45_0 := blk_frozen BK161.out 0; have hfz45_1 := blk_frozen BK161.out 1; have hfz45_2 := blk_frozen BK161.out 2; have hfz45_3 := blk_frozen BK161.out 3) | (go_at_call 35; (with_reducible refine (impl_Young_namesYoung.calls a0_0 _ _ l0_1 _ _ l0_2 _ _ l0_3 ((rd_T46 l0_1 x62_3).f0) ((rd_T46 l0_1 x62_3).f1) ((rd_T46 l0_1 x62_3).f2) ((rd_T46 l0_1 x62_3).f3) true _ ?side1 ?side2 ?side3 ?side4 ?side5 ?side6 A36.out).mono ?_); (case side1 => exact pc_ (Kd.C_below HR0_1.out HB.out)); (case side2 => exact HC0_1.out); (case side3 => exact pc_ (Kd.C_below HR0_2.out HB.out)); (case side4 => exact HC0_2.out); (case side5 => exact pc_ (Kd.C_below HR0_3.out HB.out)); (case side6 => exact HC0_3.out); rintro e w46 ⟨rfl, hb⟩; have n0_ := Aside0.mk (blk_below (pk_ BK155.out) hb); have n1_ := Aside0.mk (blk_below (pk_ BK161.out) hb); have n2_ := Aside0.mk (below_step pb_ hb); clear BK155; clear BK161; clear HB; have BK155 := n0_; have BK161 := n1_; have HB := n2_; clear n0_ n1_ n2_; (try clear hb); (try clear hb2); (try clear hk); (try clear hi); have hcz47_0 := bc0 BK155.out; have hcz47_1 := bc1 BK155.out; have hcz47_2 := bc2 BK155.out; have hcz47_3 := bc3 BK155.out; have hfz47_0 := blk_frozen BK155.out 0; have hfz47_1 := blk_frozen BK155.out 1; have hfz47_2 := blk_frozen BK155.out 2; have hfz47_3 := blk_frozen BK155.out 3) | (go_at_call 36; (with_reducible refine (slices_Contains_int_int.calls k3 _ _ l0_3 x62_3 true _ ?side1 ?side2 A38.out).mono ?_); (case side1 => exact pc_ (Kd.C_below HR0_3.out HB.out)); (case side2 => exact HC0_3.out); rintro e w' ⟨rfl, ⟨nd, rfl⟩⟩))
                go_roundg k3
                case measure => have := HJ1.out; have := HK2.out; have := HK3.out; omega
                case rel => exact ⟨(wrap64 (x62_3 + 1)), (by first | rfl | (simp; done) | (simp [*]; done)), H', ⟨by have := HJ1.out; have := HK2.out; have := HK3.out; omega⟩, ⟨pk_ BK155.out⟩, ⟨pb_⟩⟩
               ·replace c39 := Bool.eq_false_iff.mpr c39
                subst c39
                have H1 : (some false) = some r := by rw [if_neg (show ¬ (false = true) by decide)] at H; exact H
                clear H
                have H := H1
                clear H1
                obtain rfl := Option.some.inj H
                have p160 : 0 ≤ (x62_3 : Int) := of_decide_eq_true (by first | (with_reducible assumption) | assumption)
                have q160 : x62_3 < (l0_1.length : Int) := of_decide_eq_true (by first | (with_reducible assumption) | assumption)
                obtain ⟨ad160, e160, hx160_0, hx160_1, hx160_2, hx160_3⟩ := at_T46 HR0_1.out x62_3 p160 q160
                cases e160
                replace hx160_0 := (HB.out.cell (World.block_lt_of_cell? w _ hx160_0)).trans hx160_0
                replace hx160_1 := (HB.out.cell (World.block_lt_of_cell? w _ hx160_1)).trans hx160_1
                replace hx160_2 := (HB.out.cell (World.block_lt_of_cell? w _ hx160_2)).trans hx160_2
                replace hx160_3 := (HB.out.cell (World.block_lt_of_cell? w _ hx160_3)).trans hx160_3
                replace p160 := eq_true p160
                replace q160 := eq_true q160
                go_wp2_with (first | ((with_reducible refine gate_dst (N := 7) rfl ?_); refine box_event ?hg (N := 7) ?hd (cs := #[.bool false, .int .i64 0, .int .i64 0, .int .i64 0]) (t := 46) ?hr ?_; (case hd => rfl); (case hg => rfl); (case hr => first | (go_simp; done) | (go_simp; rfl)); intro gb161 hg w48 hbox hb; have n0_ := Aside0.mk (blk_below (pk_ BK155.out) hb); have n1_ := Aside0.mk (below_step pb_ hb); have n2_ := Aside0.mk (hbox); have n3_ := Aside0.mk ((by rw [hg]; exact (below_size pb_) : w.heap.size ≤ gb161)); have n4_ := Aside0.mk ((by rw [hg]; exact (below_size pb_) : w.heap.size ≤ gb161)); have n5_ := Aside0.mk ((by rw [hg]; exact Nat.ne_of_lt (blk_lt (pk_ BK155.out)) : gb155 ≠ gb161)); have n6_ := Aside0.mk ((by rw [hg]; exact Nat.ne_of_gt (blk_lt (pk_ BK155.out)) : gb161 ≠ gb155)); clear BK155; clear HB; have BK155 := n0_; have HB := n1_; have BK161 := n2_; have GW161 := n3_; have GE161 := n4_; have NB155_161 := n5_; have NB161_155 := n6_; clear n0_ n1_ n2_ n3_ n4_ n5_ n6_; clear hb hbox hg; have hnb49 := NB161_155.out; have hnc49 := NB155_161.out; have hcz50_0 := bc0 BK161.out; have hcz50_1 := bc1 BK161.out; have hcz50_2 := bc2 BK161.out; have hcz50_3 := bc3 BK161.out; have hfz50_0 := blk_frozen BK161.out 0; have hfz50_1 := blk_frozen BK161.out 1; have hfz50_2 := blk_frozen BK161.out 2; have hfz50_3 := blk_frozen BK161.out 3) | ((with_reducible refine gate_callee (f := 34) rfl ?_); refine goesL_ (some 69) rfl rfl Try.func34 (by kernel_rfl) rfl #[.agg #[.bool ((rd_T46 l0_1 x62_3).f0), .int .i64 ((rd_T46 l0_1 x62_3).f1), .int .i64 ((rd_T46 l0_1 x62_3).f2), .int .i64 ((rd_T46 l0_1 x62_3).f3)], .int .i64 (l0_1.length : Int)] rfl (by (try simp only [List.map_toArray, List.map_cons, List.map_nil]); first | done | rfl | (simp only [List.length_drop, List.length_take]; rfl)) ?_; (with_reducible refine (impl_isCell.calls ((rd_T46 l0_1 x62_3).f0) ((rd_T46 l0_1 x62_3).f1) ((rd_T46 l0_1 x62_3).f2) ((rd_T46 l0_1 x62_3).f3) (l0_1.length : Int) true _ A33.out).mono ?_); rintro e w51 ⟨rfl, hb⟩; refine ⟨_, rfl, ?_⟩; have n0_ := Aside0.mk (blk_below (g := gb155) (o := .cells #[.int .i64 a0_0, .slice (some ad160) l0_1.length c0_1, .slice A0_2 l0_2.length c0_2, .slice A0_3 l0_3.length c0_3] 30 (0, 0)) (by (with_reducible repeat (first | refine blk_drewN ?_ _ | refine blk_drew ?_ | refine blk_alloc ?_ _)); refine blk_far ?_ NB155_161.out _; (with_reducible repeat (first | refine blk_drewN ?_ _ | refine blk_drew ?_ | refine blk_alloc ?_ _)); refine blk_far ?_ NB155_161.out _; (with_reducible repeat (first | refine blk_drewN ?_ _ | refine blk_drew ?_ | refine blk_alloc ?_ _)); refine blk_far ?_ NB155_161.out _; (with_reducible repeat (first | refine blk_drewN ?_ _ | refine blk_drew ?_ | refine blk_alloc ?_ _)); refine blk_far ?_ NB155_161.out _; (with_reducible repeat (first | refine blk_drewN ?_ _ | refine blk_drew ?_ | refine blk_alloc ?_ _)); exact BK155.out) hb); have n1_ := Aside0.mk (blk_below (g := gb161) (o := .cells #[.bool ((rd_T46 l0_1 x62_3).f0), .int .i64 ((rd_T46 l0_1 x62_3).f1), .int .i64 ((rd_T46 l0_1 x62_3).f2), .int .i64 ((rd_T46 l0_1 x62_3).f3)] 46 (0, 0)) (by (with_reducible repeat (first | refine blk_drewN ?_ _ | refine blk_drew ?_ | refine blk_alloc ?_ _)); refine blk_put (cs := #[.bool ((rd_T46 l0_1 x62_3).f0), .int .i64 ((rd_T46 l0_1 x62_3).f1), .int .i64 ((rd_T46 l0_1 x62_3).f2), .int .i64 0]) ?_ 3 _ rfl; (with_reducible repeat (first | refine blk_drewN ?_ _ | refine blk_drew ?_ | refine blk_alloc ?_ _)); refine blk_put (cs := #[.bool ((rd_T46 l0_1 x62_3).f0), .int .i64 ((rd_T46 l0_1 x62_3).f1), .int .i64 0, .int .i64 0]) ?_ 2 _ rfl; (with_reducible repeat (first | refine blk_drewN ?_ _ | refine blk_drew ?_ | refine blk_alloc ?_ _)); refine blk_put (cs := #[.bool ((rd_T46 l0_1 x62_3).f0), .int .i64 0, .int .i64 0, .int .i64 0]) ?_ 1 _ rfl; (with_reducible repeat (first | refine blk_drewN ?_ _ | refine blk_drew ?_ | refine blk_alloc ?_ _)); refine blk_put (cs := #[.bool false, .int .i64 0, .int .i64 0, .int .i64 0]) ?_ 0 _ rfl; (with_reducible repeat (first | refine blk_drewN ?_ _ | refine blk_drew ?_ | refine blk_alloc ?_ _)); exact BK161.out) hb); have n2_ := Aside0.mk (below_step pb_ hb); clear BK155; clear BK161; clear HB; have BK155 := n0_; have BK161 := n1_; have HB := n2_; clear n0_ n1_ n2_; (try clear hb); (try clear hb2); (try clear hk); (try clear hi); have hcz52_0 := bc0 BK155.out; have hcz52_1 := bc1 BK155.out; have hcz52_2 := bc2 BK155.out; have hcz52_3 := bc3 BK155.out; have hfz52_0 := blk_frozen BK155.out 0; have hfz52_1 := blk_frozen BK155.out 1; have hfz52_2 := blk_frozen BK155.out 2; have hfz52_3 := blk_frozen BK155.out 3; have hcz53_0 := bc0 BK161.out; have hcz53_1 := bc1 BK161.out; have hcz53_2 := bc2 BK161.out; have hcz53_3 := bc3 BK161.out; have hfz53_0 := blk_frozen BK161.out 0; have hfz53_1 := blk_frozen BK161.out 1; have hfz53_2 := blk_frozen BK161.out 2; have hfz53_3 := blk_frozen BK161.out 3) | (go_at_call 35; (with_reducible refine (impl_Young_namesYoung.calls a0_0 _ _ l0_1 _ _ l0_2 _ _ l0_3 ((rd_T46 l0_1 x62_3).f0) ((rd_T46 l0_1 x62_3).f1) ((rd_T46 l0_1 x62_3).f2) ((rd_T46 l0_1 x62_3).f3) true _ ?side1 ?side2 ?side3 ?side4 ?side5 ?side6 A36.out).mono ?_); (case side1 => exact pc_ (Kd.C_below HR0_1.out HB.out)); (case side2 => exact HC0_1.out); (case side3 => exact pc_ (Kd.C_below HR0_2.out HB.out)); (case side4 => exact HC0_2.out); (case side5 => exact pc_ (Kd.C_below HR0_3.out HB.out)); (case side6 => exact HC0_3.out); rintro e w54 ⟨rfl, hb⟩; have n0_ := Aside0.mk (blk_below (pk_ BK155.out) hb); have n1_ := Aside0.mk (blk_below (pk_ BK161.out) hb); have n2_ := Aside0.mk (below_step pb_ hb); clear BK155; clear BK161; clear HB; have BK155 := n0_; have BK161 := n1_; have HB := n2_; clear n0_ n1_ n2_; (try clear hb); (try clear hb2); (try clear hk); (try clear hi); have hcz55_0 := bc0 BK155.out; have hcz55_1 := bc1 BK155.out; have hcz55_2 := bc2 BK155.out; have hcz55_3 := bc3 BK155.out; have hfz55_0 := blk_frozen BK155.out 0; have hfz55_1 := blk_frozen BK155.out 1; have hfz55_2 := blk_frozen BK155.out 2; have hfz55_3 := blk_frozen BK155.out 3) | (go_at_call 36; (with_reducible refine (slices_Contains_int_int.calls k3 _ _ l0_3 x62_3 false _ ?side1 ?side2 A38.out).mono ?_); (case side1 => exact pc_ (Kd.C_below HR0_3.out HB.out)); (case side2 => exact HC0_3.out); rintro e w' ⟨rfl, ⟨nd, rfl⟩⟩))
                go_ret
                exact ⟨by first | rfl | (simp [errW_none, errW_some] <;> rfl) | (simp [*, errW_none, errW_some] <;> rfl), pb_⟩
              ·replace c37 := Bool.eq_false_iff.mpr c37
               subst c37
               have H1 : (impl_GoodYoung.l1 k3 (l0_1.length : Int) l0_1 (l0_1.length : Int) (wrap64 (x62_3 + 1)) a0_0 l0_1 l0_2 l0_3) = some r := by rw [if_neg (show ¬ (false = true) by decide)] at H; exact H
               clear H
               have H := H1
               clear H1
               have H' := Aside0.mk H
               clear H
               have p160 : 0 ≤ (x62_3 : Int) := of_decide_eq_true (by first | (with_reducible assumption) | assumption)
               have q160 : x62_3 < (l0_1.length : Int) := of_decide_eq_true (by first | (with_reducible assumption) | assumption)
               obtain ⟨ad160, e160, hx160_0, hx160_1, hx160_2, hx160_3⟩ := at_T46 HR0_1.out x62_3 p160 q160
               cases e160
               replace hx160_0 := (HB.out.cell (World.block_lt_of_cell? w _ hx160_0)).trans hx160_0
               replace hx160_1 := (HB.out.cell (World.block_lt_of_cell? w _ hx160_1)).trans hx160_1
               replace hx160_2 := (HB.out.cell (World.block_lt_of_cell? w _ hx160_2)).trans hx160_2
               replace hx160_3 := (HB.out.cell (World.block_lt_of_cell? w _ hx160_3)).trans hx160_3
               replace p160 := eq_true p160
               replace q160 := eq_true q160
               go_wp2_with (first | ((with_reducible refine gate_dst (N := 7) rfl ?_); refine box_event ?hg (N := 7) ?hd (cs := #[.bool false, .int .i64 0, .int .i64 0, .int .i64 0]) (t := 46) ?hr ?_; (case hd => rfl); (case hg => rfl); (case hr => first | (go_simp; done) | (go_simp; rfl)); intro gb161 hg w56 hbox hb; have n0_ := Aside0.mk (blk_below (pk_ BK155.out) hb); have n1_ := Aside0.mk (below_step pb_ hb); have n2_ := Aside0.mk (hbox); have n3_ := Aside0.mk ((by rw [hg]; exact (below_size pb_) : w.heap.size ≤ gb161)); have n4_ := Aside0.mk ((by rw [hg]; exact (below_size pb_) : w.heap.size ≤ gb161)); have n5_ := Aside0.mk ((by rw [hg]; exact Nat.ne_of_lt (blk_lt (pk_ BK155.out)) : gb155 ≠ gb161)); have n6_ := Aside0.mk ((by rw [hg]; exact Nat.ne_of_gt (blk_lt (pk_ BK155.out)) : gb161 ≠ gb155)); clear BK155; clear HB; have BK155 := n0_; have HB := n1_; have BK161 := n2_; have GW161 := n3_; have GE161 := n4_; have NB155_161 := n5_; have NB161_155 := n6_; clear n0_ n1_ n2_ n3_ n4_ n5_ n6_; clear hb hbox hg; have hnb57 := NB161_155.out; have hnc57 := NB155_161.out; have hcz58_0 := bc0 BK161.out; have hcz58_1 := bc1 BK161.out; have hcz58_2 := bc2 BK161.out; have hcz58_3 := bc3 BK161.out; have hfz58_0 := blk_frozen BK161.out 0; have hfz58_1 := blk_frozen BK161.out 1; have hfz58_2 := blk_frozen BK161.out 2; have hfz58_3 := blk_frozen BK161.out 3) | ((with_reducible refine gate_callee (f := 34) rfl ?_); refine goesL_ (some 69) rfl rfl Try.func34 (by kernel_rfl) rfl #[.agg #[.bool ((rd_T46 l0_1 x62_3).f0), .int .i64 ((rd_T46 l0_1 x62_3).f1), .int .i64 ((rd_T46 l0_1 x62_3).f2), .int .i64 ((rd_T46 l0_1 x62_3).f3)], .int .i64 (l0_1.length : Int)] rfl (by (try simp only [List.map_toArray, List.map_cons, List.map_nil]); first | done | rfl | (simp only [List.length_drop, List.length_take]; rfl)) ?_; (with_reducible refine (impl_isCell.calls ((rd_T46 l0_1 x62_3).f0) ((rd_T46 l0_1 x62_3).f1) ((rd_T46 l0_1 x62_3).f2) ((rd_T46 l0_1 x62_3).f3) (l0_1.length : Int) true _ A33.out).mono ?_); rintro e w59 ⟨rfl, hb⟩; refine ⟨_, rfl, ?_⟩; have n0_ := Aside0.mk (blk_below (g := gb155) (o := .cells #[.int .i64 a0_0, .slice (some ad160) l0_1.length c0_1, .slice A0_2 l0_2.length c0_2, .slice A0_3 l0_3.length c0_3] 30 (0, 0)) (by (with_reducible repeat (first | refine blk_drewN ?_ _ | refine blk_drew ?_ | refine blk_alloc ?_ _)); refine blk_far ?_ NB155_161.out _; (with_reducible repeat (first | refine blk_drewN ?_ _ | refine blk_drew ?_ | refine blk_alloc ?_ _)); refine blk_far ?_ NB155_161.out _; (with_reducible repeat (first | refine blk_drewN ?_ _ | refine blk_drew ?_ | refine blk_alloc ?_ _)); refine blk_far ?_ NB155_161.out _; (with_reducible repeat (first | refine blk_drewN ?_ _ | refine blk_drew ?_ | refine blk_alloc ?_ _)); refine blk_far ?_ NB155_161.out _; (with_reducible repeat (first | refine blk_drewN ?_ _ | refine blk_drew ?_ | refine blk_alloc ?_ _)); exact BK155.out) hb); have n1_ := Aside0.mk (blk_below (g := gb161) (o := .cells #[.bool ((rd_T46 l0_1 x62_3).f0), .int .i64 ((rd_T46 l0_1 x62_3).f1), .int .i64 ((rd_T46 l0_1 x62_3).f2), .int .i64 ((rd_T46 l0_1 x62_3).f3)] 46 (0, 0)) (by (with_reducible repeat (first | refine blk_drewN ?_ _ | refine blk_drew ?_ | refine blk_alloc ?_ _)); refine blk_put (cs := #[.bool ((rd_T46 l0_1 x62_3).f0), .int .i64 ((rd_T46 l0_1 x62_3).f1), .int .i64 ((rd_T46 l0_1 x62_3).f2), .int .i64 0]) ?_ 3 _ rfl; (with_reducible repeat (first | refine blk_drewN ?_ _ | refine blk_drew ?_ | refine blk_alloc ?_ _)); refine blk_put (cs := #[.bool ((rd_T46 l0_1 x62_3).f0), .int .i64 ((rd_T46 l0_1 x62_3).f1), .int .i64 0, .int .i64 0]) ?_ 2 _ rfl; (with_reducible repeat (first | refine blk_drewN ?_ _ | refine blk_drew ?_ | refine blk_alloc ?_ _)); refine blk_put (cs := #[.bool ((rd_T46 l0_1 x62_3).f0), .int .i64 0, .int .i64 0, .int .i64 0]) ?_ 1 _ rfl; (with_reducible repeat (first | refine blk_drewN ?_ _ | refine blk_drew ?_ | refine blk_alloc ?_ _)); refine blk_put (cs := #[.bool false, .int .i64 0, .int .i64 0, .int .i64 0]) ?_ 0 _ rfl; (with_reducible repeat (first | refine blk_drewN ?_ _ | refine blk_drew ?_ | refine blk_alloc ?_ _)); exact BK161.out) hb); have n2_ := Aside0.mk (below_step pb_ hb); clear BK155; clear BK161; clear HB; have BK155 := n0_; have BK161 := n1_; have HB := n2_; clear n0_ n1_ n2_; (try clear hb); (try clear hb2); (try clear hk); (try clear hi); have hcz60_0 := bc0 BK155.out; have hcz60_1 := bc1 BK155.out; have hcz60_2 := bc2 BK155.out; have hcz60_3 := bc3 BK155.out; have hfz60_0 := blk_frozen BK155.out 0; have hfz60_1 := blk_frozen BK155.out 1; have hfz60_2 := blk_frozen BK155.out 2; have hfz60_3 := blk_frozen BK155.out 3; have hcz61_0 := bc0 BK161.out; have hcz61_1 := bc1 BK161.out; have hcz61_2 := bc2 BK161.out; have hcz61_3 := bc3 BK161.out; have hfz61_0 := blk_frozen BK161.out 0; have hfz61_1 := blk_frozen BK161.out 1; have hfz61_2 := blk_frozen BK161.out 2; have hfz61_3 := blk_frozen BK161.out 3) | (go_at_call 35; (with_reducible refine (impl_Young_namesYoung.calls a0_0 _ _ l0_1 _ _ l0_2 _ _ l0_3 ((rd_T46 l0_1 x62_3).f0) ((rd_T46 l0_1 x62_3).f1) ((rd_T46 l0_1 x62_3).f2) ((rd_T46 l0_1 x62_3).f3) false _ ?side1 ?side2 ?side3 ?side4 ?side5 ?side6 A36.out).mono ?_); (case side1 => exact pc_ (Kd.C_below HR0_1.out HB.out)); (case side2 => exact HC0_1.out); (case side3 => exact pc_ (Kd.C_below HR0_2.out HB.out)); (case side4 => exact HC0_2.out); (case side5 => exact pc_ (Kd.C_below HR0_3.out HB.out)); (case side6 => exact HC0_3.out); rintro e w62 ⟨rfl, hb⟩; have n0_ := Aside0.mk (blk_below (pk_ BK155.out) hb); have n1_ := Aside0.mk (blk_below (pk_ BK161.out) hb); have n2_ := Aside0.mk (below_step pb_ hb); clear BK155; clear BK161; clear HB; have BK155 := n0_; have BK161 := n1_; have HB := n2_; clear n0_ n1_ n2_; (try clear hb); (try clear hb2); (try clear hk); (try clear hi)))
               go_roundg k3
               case measure => have := HJ1.out; have := HK2.out; have := HK3.out; omega
               case rel => exact ⟨(wrap64 (x62_3 + 1)), (by first | rfl | (simp; done) | (simp [*]; done)), H', ⟨by have := HJ1.out; have := HK2.out; have := HK3.out; omega⟩, ⟨pk_ BK155.out⟩, ⟨pb_⟩⟩
             ·rw [if_neg c35] at H
              have c35b0 : decide (x62_3 < a0_0) = false := decide_eq_false c35
              clear c35
              have H' := Aside0.mk H
              clear H
              have p160 : 0 ≤ (x62_3 : Int) := of_decide_eq_true (by first | (with_reducible assumption) | assumption)
              have q160 : x62_3 < (l0_1.length : Int) := of_decide_eq_true (by first | (with_reducible assumption) | assumption)
              obtain ⟨ad160, e160, hx160_0, hx160_1, hx160_2, hx160_3⟩ := at_T46 HR0_1.out x62_3 p160 q160
              cases e160
              replace hx160_0 := (HB.out.cell (World.block_lt_of_cell? w _ hx160_0)).trans hx160_0
              replace hx160_1 := (HB.out.cell (World.block_lt_of_cell? w _ hx160_1)).trans hx160_1
              replace hx160_2 := (HB.out.cell (World.block_lt_of_cell? w _ hx160_2)).trans hx160_2
              replace hx160_3 := (HB.out.cell (World.block_lt_of_cell? w _ hx160_3)).trans hx160_3
              replace p160 := eq_true p160
              replace q160 := eq_true q160
              go_wp2_with (first | ((with_reducible refine gate_dst (N := 7) rfl ?_); refine box_event ?hg (N := 7) ?hd (cs := #[.bool false, .int .i64 0, .int .i64 0, .int .i64 0]) (t := 46) ?hr ?_; (case hd => rfl); (case hg => rfl); (case hr => first | (go_simp; done) | (go_simp; rfl)); intro gb161 hg w63 hbox hb; have n0_ := Aside0.mk (blk_below (pk_ BK155.out) hb); have n1_ := Aside0.mk (below_step pb_ hb); have n2_ := Aside0.mk (hbox); have n3_ := Aside0.mk ((by rw [hg]; exact (below_size pb_) : w.heap.size ≤ gb161)); have n4_ := Aside0.mk ((by rw [hg]; exact (below_size pb_) : w.heap.size ≤ gb161)); have n5_ := Aside0.mk ((by rw [hg]; exact Nat.ne_of_lt (blk_lt (pk_ BK155.out)) : gb155 ≠ gb161)); have n6_ := Aside0.mk ((by rw [hg]; exact Nat.ne_of_gt (blk_lt (pk_ BK155.out)) : gb161 ≠ gb155)); clear BK155; clear HB; have BK155 := n0_; have HB := n1_; have BK161 := n2_; have GW161 := n3_; have GE161 := n4_; have NB155_161 := n5_; have NB161_155 := n6_; clear n0_ n1_ n2_ n3_ n4_ n5_ n6_; clear hb hbox hg; have hnb64 := NB161_155.out; have hnc64 := NB155_161.out; have hcz65_0 := bc0 BK161.out; have hcz65_1 := bc1 BK161.out; have hcz65_2 := bc2 BK161.out; have hcz65_3 := bc3 BK161.out; have hfz65_0 := blk_frozen BK161.out 0; have hfz65_1 := blk_frozen BK161.out 1; have hfz65_2 := blk_frozen BK161.out 2; have hfz65_3 := blk_frozen BK161.out 3) | ((with_reducible refine gate_callee (f := 34) rfl ?_); refine goesL_ (some 69) rfl rfl Try.func34 (by kernel_rfl) rfl #[.agg #[.bool ((rd_T46 l0_1 x62_3).f0), .int .i64 ((rd_T46 l0_1 x62_3).f1), .int .i64 ((rd_T46 l0_1 x62_3).f2), .int .i64 ((rd_T46 l0_1 x62_3).f3)], .int .i64 (l0_1.length : Int)] rfl (by (try simp only [List.map_toArray, List.map_cons, List.map_nil]); first | done | rfl | (simp only [List.length_drop, List.length_take]; rfl)) ?_; (with_reducible refine (impl_isCell.calls ((rd_T46 l0_1 x62_3).f0) ((rd_T46 l0_1 x62_3).f1) ((rd_T46 l0_1 x62_3).f2) ((rd_T46 l0_1 x62_3).f3) (l0_1.length : Int) true _ A33.out).mono ?_); rintro e w66 ⟨rfl, hb⟩; refine ⟨_, rfl, ?_⟩; have n0_ := Aside0.mk (blk_below (g := gb155) (o := .cells #[.int .i64 a0_0, .slice (some ad160) l0_1.length c0_1, .slice A0_2 l0_2.length c0_2, .slice A0_3 l0_3.length c0_3] 30 (0, 0)) (by (with_reducible repeat (first | refine blk_drewN ?_ _ | refine blk_drew ?_ | refine blk_alloc ?_ _)); refine blk_far ?_ NB155_161.out _; (with_reducible repeat (first | refine blk_drewN ?_ _ | refine blk_drew ?_ | refine blk_alloc ?_ _)); refine blk_far ?_ NB155_161.out _; (with_reducible repeat (first | refine blk_drewN ?_ _ | refine blk_drew ?_ | refine blk_alloc ?_ _)); refine blk_far ?_ NB155_161.out _; (with_reducible repeat (first | refine blk_drewN ?_ _ | refine blk_drew ?_ | refine blk_alloc ?_ _)); refine blk_far ?_ NB155_161.out _; (with_reducible repeat (first | refine blk_drewN ?_ _ | refine blk_drew ?_ | refine blk_alloc ?_ _)); exact BK155.out) hb); have n1_ := Aside0.mk (blk_below (g := gb161) (o := .cells #[.bool ((rd_T46 l0_1 x62_3).f0), .int .i64 ((rd_T46 l0_1 x62_3).f1), .int .i64 ((rd_T46 l0_1 x62_3).f2), .int .i64 ((rd_T46 l0_1 x62_3).f3)] 46 (0, 0)) (by (with_reducible repeat (first | refine blk_drewN ?_ _ | refine blk_drew ?_ | refine blk_alloc ?_ _)); refine blk_put (cs := #[.bool ((rd_T46 l0_1 x62_3).f0), .int .i64 ((rd_T46 l0_1 x62_3).f1), .int .i64 ((rd_T46 l0_1 x62_3).f2), .int .i64 0]) ?_ 3 _ rfl; (with_reducible repeat (first | refine blk_drewN ?_ _ | refine blk_drew ?_ | refine blk_alloc ?_ _)); refine blk_put (cs := #[.bool ((rd_T46 l0_1 x62_3).f0), .int .i64 ((rd_T46 l0_1 x62_3).f1), .int .i64 0, .int .i64 0]) ?_ 2 _ rfl; (with_reducible repeat (first | refine blk_drewN ?_ _ | refine blk_drew ?_ | refine blk_alloc ?_ _)); refine blk_put (cs := #[.bool ((rd_T46 l0_1 x62_3).f0), .int .i64 0, .int .i64 0, .int .i64 0]) ?_ 1 _ rfl; (with_reducible repeat (first | refine blk_drewN ?_ _ | refine blk_drew ?_ | refine blk_alloc ?_ _)); refine blk_put (cs := #[.bool false, .int .i64 0, .int .i64 0, .int .i64 0]) ?_ 0 _ rfl; (with_reducible repeat (first | refine blk_drewN ?_ _ | refine blk_drew ?_ | refine blk_alloc ?_ _)); exact BK161.out) hb); have n2_ := Aside0.mk (below_step pb_ hb); clear BK155; clear BK161; clear HB; have BK155 := n0_; have BK161 := n1_; have HB := n2_; clear n0_ n1_ n2_; (try clear hb); (try clear hb2); (try clear hk); (try clear hi); have hcz67_0 := bc0 BK155.out; have hcz67_1 := bc1 BK155.out; have hcz67_2 := bc2 BK155.out; have hcz67_3 := bc3 BK155.out; have hfz67_0 := blk_frozen BK155.out 0; have hfz67_1 := blk_frozen BK155.out 1; have hfz67_2 := blk_frozen BK155.out 2; have hfz67_3 := blk_frozen BK155.out 3))
              go_roundg k3
              case measure => have := HJ1.out; have := HK2.out; have := HK3.out; omega
              case rel => exact ⟨(wrap64 (x62_3 + 1)), (by first | rfl | (simp; done) | (simp [*]; done)), H', ⟨by have := HJ1.out; have := HK2.out; have := HK3.out; omega⟩, ⟨pk_ BK155.out⟩, ⟨pb_⟩⟩
            ·replace c34 := Bool.eq_false_iff.mpr c34
             subst c34
             have H1 : (some false) = some r := by rw [if_neg (show ¬ (false = true) by decide)] at H; exact H
             clear H
             have H := H1
             clear H1
             obtain rfl := Option.some.inj H
             have p160 : 0 ≤ (x62_3 : Int) := of_decide_eq_true (by first | (with_reducible assumption) | assumption)
             have q160 : x62_3 < (l0_1.length : Int) := of_decide_eq_true (by first | (with_reducible assumption) | assumption)
             obtain ⟨ad160, e160, hx160_0, hx160_1, hx160_2, hx160_3⟩ := at_T46 HR0_1.out x62_3 p160 q160
             cases e160
             replace hx160_0 := (HB.out.cell (World.block_lt_of_cell? w _ hx160_0)).trans hx160_0
             replace hx160_1 := (HB.out.cell (World.block_lt_of_cell? w _ hx160_1)).trans hx160_1
             replace hx160_2 := (HB.out.cell (World.block_lt_of_cell? w _ hx160_2)).trans hx160_2
             replace hx160_3 := (HB.out.cell (World.block_lt_of_cell? w _ hx160_3)).trans hx160_3
             replace p160 := eq_true p160
             replace q160 := eq_true q160
             go_wp2_with (first | ((with_reducible refine gate_dst (N := 7) rfl ?_); refine box_event ?hg (N := 7) ?hd (cs := #[.bool false, .int .i64 0, .int .i64 0, .int .i64 0]) (t := 46) ?hr ?_; (case hd => rfl); (case hg => rfl); (case hr => first | (go_simp; done) | (go_simp; rfl)); intro gb161 hg w68 hbox hb; have n0_ := Aside0.mk (blk_below (pk_ BK155.out) hb); have n1_ := Aside0.mk (below_step pb_ hb); have n2_ := Aside0.mk (hbox); have n3_ := Aside0.mk ((by rw [hg]; exact (below_size pb_) : w.heap.size ≤ gb161)); have n4_ := Aside0.mk ((by rw [hg]; exact (below_size pb_) : w.heap.size ≤ gb161)); have n5_ := Aside0.mk ((by rw [hg]; exact Nat.ne_of_lt (blk_lt (pk_ BK155.out)) : gb155 ≠ gb161)); have n6_ := Aside0.mk ((by rw [hg]; exact Nat.ne_of_gt (blk_lt (pk_ BK155.out)) : gb161 ≠ gb155)); clear BK155; clear HB; have BK155 := n0_; have HB := n1_; have BK161 := n2_; have GW161 := n3_; have GE161 := n4_; have NB155_161 := n5_; have NB161_155 := n6_; clear n0_ n1_ n2_ n3_ n4_ n5_ n6_; clear hb hbox hg; have hnb69 := NB161_155.out; have hnc69 := NB155_161.out; have hcz70_0 := bc0 BK161.out; have hcz70_1 := bc1 BK161.out; have hcz70_2 := bc2 BK161.out; have hcz70_3 := bc3 BK161.out; have hfz70_0 := blk_frozen BK161.out 0; have hfz70_1 := blk_frozen BK161.out 1; have hfz70_2 := blk_frozen BK161.out 2; have hfz70_3 := blk_frozen BK161.out 3) | ((with_reducible refine gate_callee (f := 34) rfl ?_); refine goesL_ (some 69) rfl rfl Try.func34 (by kernel_rfl) rfl #[.agg #[.bool ((rd_T46 l0_1 x62_3).f0), .int .i64 ((rd_T46 l0_1 x62_3).f1), .int .i64 ((rd_T46 l0_1 x62_3).f2), .int .i64 ((rd_T46 l0_1 x62_3).f3)], .int .i64 (l0_1.length : Int)] rfl (by (try simp only [List.map_toArray, List.map_cons, List.map_nil]); first | done | rfl | (simp only [List.length_drop, List.length_take]; rfl)) ?_; (with_reducible refine (impl_isCell.calls ((rd_T46 l0_1 x62_3).f0) ((rd_T46 l0_1 x62_3).f1) ((rd_T46 l0_1 x62_3).f2) ((rd_T46 l0_1 x62_3).f3) (l0_1.length : Int) false _ A33.out).mono ?_); rintro e w71 ⟨rfl, hb⟩; refine ⟨_, rfl, ?_⟩; have n0_ := Aside0.mk (blk_below (g := gb155) (o := .cells #[.int .i64 a0_0, .slice (some ad160) l0_1.length c0_1, .slice A0_2 l0_2.length c0_2, .slice A0_3 l0_3.length c0_3] 30 (0, 0)) (by (with_reducible repeat (first | refine blk_drewN ?_ _ | refine blk_drew ?_ | refine blk_alloc ?_ _)); refine blk_far ?_ NB155_161.out _; (with_reducible repeat (first | refine blk_drewN ?_ _ | refine blk_drew ?_ | refine blk_alloc ?_ _)); refine blk_far ?_ NB155_161.out _; (with_reducible repeat (first | refine blk_drewN ?_ _ | refine blk_drew ?_ | refine blk_alloc ?_ _)); refine blk_far ?_ NB155_161.out _; (with_reducible repeat (first | refine blk_drewN ?_ _ | refine blk_drew ?_ | refine blk_alloc ?_ _)); refine blk_far ?_ NB155_161.out _; (with_reducible repeat (first | refine blk_drewN ?_ _ | refine blk_drew ?_ | refine blk_alloc ?_ _)); exact BK155.out) hb); have n1_ := Aside0.mk (blk_below (g := gb161) (o := .cells #[.bool ((rd_T46 l0_1 x62_3).f0), .int .i64 ((rd_T46 l0_1 x62_3).f1), .int .i64 ((rd_T46 l0_1 x62_3).f2), .int .i64 ((rd_T46 l0_1 x62_3).f3)] 46 (0, 0)) (by (with_reducible repeat (first | refine blk_drewN ?_ _ | refine blk_drew ?_ | refine blk_alloc ?_ _)); refine blk_put (cs := #[.bool ((rd_T46 l0_1 x62_3).f0), .int .i64 ((rd_T46 l0_1 x62_3).f1), .int .i64 ((rd_T46 l0_1 x62_3).f2), .int .i64 0]) ?_ 3 _ rfl; (with_reducible repeat (first | refine blk_drewN ?_ _ | refine blk_drew ?_ | refine blk_alloc ?_ _)); refine blk_put (cs := #[.bool ((rd_T46 l0_1 x62_3).f0), .int .i64 ((rd_T46 l0_1 x62_3).f1), .int .i64 0, .int .i64 0]) ?_ 2 _ rfl; (with_reducible repeat (first | refine blk_drewN ?_ _ | refine blk_drew ?_ | refine blk_alloc ?_ _)); refine blk_put (cs := #[.bool ((rd_T46 l0_1 x62_3).f0), .int .i64 0, .int .i64 0, .int .i64 0]) ?_ 1 _ rfl; (with_reducible repeat (first | refine blk_drewN ?_ _ | refine blk_drew ?_ | refine blk_alloc ?_ _)); refine blk_put (cs := #[.bool false, .int .i64 0, .int .i64 0, .int .i64 0]) ?_ 0 _ rfl; (with_reducible repeat (first | refine blk_drewN ?_ _ | refine blk_drew ?_ | refine blk_alloc ?_ _)); exact BK161.out) hb); have n2_ := Aside0.mk (below_step pb_ hb); clear BK155; clear BK161; clear HB; have BK155 := n0_; have BK161 := n1_; have HB := n2_; clear n0_ n1_ n2_; (try clear hb); (try clear hb2); (try clear hk); (try clear hi)))
             go_ret
             exact ⟨by first | rfl | (simp [errW_none, errW_some] <;> rfl) | (simp [*, errW_none, errW_some] <;> rfl), pb_⟩
           ·rw [if_neg c32] at H
            exact absurd H (by simp)
          ·rw [if_neg c31] at H
           exact absurd H (by simp)
         ·rw [if_neg c30] at H
          have c30b0 : decide (x62_3 < (l0_1.length : Int)) = false := decide_eq_false c30
          clear c30
          obtain rfl := Option.some.inj H
          go_wp2
          go_ret
          exact ⟨by first | rfl | (simp [errW_none, errW_some] <;> rfl) | (simp [*, errW_none, errW_some] <;> rfl), pb_⟩
def impl_always.f (a0 : Int) : Option (Bool) := some true
set_option maxHeartbeats 8000000 in
set_option maxRecDepth 100000 in
theorem impl_always.calls (a0 : Int) (r : Bool) (w : World) (h : impl_always.f a0 = some r) :
  Calls Try.prog 41 #[.int .i64 a0] w fun e w' => e = .returned (.bool r) ∧ Drawn0 w w' := by
 have H : (some true) = some r := h
 clear h
 obtain rfl := Option.some.inj H
 go_enter Try.func41, Try.ntmps41
 go_wp2
 go_ret
 exact ⟨by first | rfl | (simp; done) | (simp [*]; done), by repeat (first | exact Drawn0.refl _ | apply Drawn0.step)⟩
def slices_Clone_int_int.f (l0 : List Int) : Option (List Int) := if l0.length < 17592186044416 then some l0 else none
set_option maxHeartbeats 8000000 in
set_option maxRecDepth 100000 in
theorem slices_Clone_int_int.calls (A0 : Option Addr) (c0 : Nat) (l0 : List Int) (r : List Int) (w : World) (hr0 : Kd.C (Kd.int .i64) w A0 l0.length l0) (hc0 : l0.length ≤ c0) (h : slices_Clone_int_int.f l0 = some r) :
  Calls Try.prog 57 #[.slice A0 l0.length c0] w fun e w' => ∃ v0_ : Value, e = .returned (v0_) ∧ Kd.R (Kd.int .i64) 3 w' w.heap.size (fun _ => True) v0_ r ∧ Below w.heap.size w w' := by
 have hl : l0.length < 17592186044416 := by
  unfold slices_Clone_int_int.f at h
  by_cases c : l0.length < 17592186044416
  ·exact c
  ·rw [if_neg c] at h; exact absurd h (by simp)
 obtain rfl : l0 = r := by unfold slices_Clone_int_int.f at h; rw [if_pos hl] at h; exact Option.some.inj h
 clear h
 have HN := fun n => Lib.run_eql_slice_nil (P := Try.prog) w 23 3 A0 n c0 0 0 Try.underlying23
 cases A0 with
 | none =>
  obtain rfl : l0 = [] := by
   cases l0 with
   | nil => rfl
   | cons x l =>
    obtain ⟨ad, e, _⟩ := hr0.2.2 (by simp)
    cases e
  clear hr0 hc0 hl
  go_enter Try.func57, Try.ntmps57
  go_wp2
  go_ret
  exact ⟨_, by first | rfl | (simp [*]; done), Kd.R_nil _ _ _ _ _, Below.refl _ _⟩
 | some ad =>
  have HR0 := Aside0.mk hr0
  have HC0 := Aside0.mk hc0
  have LMc2 := Aside0.mk hl
  clear hr0 hc0 hl
  have HB := Aside0.mk (Below.refl w.heap.size w)
  go_enter Try.func57, Try.ntmps57
  go_wp2_with (first | ((with_reducible refine gate_dst (N := 5) rfl ?_); refine Kd.R_lit (Kd.int .i64) _ 3 ?hg (N := 5) ?hd (xs := ([] : List Int)) (inner := []) (ok := fun _ => True) (okp := fun _ => True) ?hr ?hp (fun _ hk => hk) trivial (Below.refl _ _) (Nat.le_refl _) (by simp) ?_; (case hd => rfl); (case hg => rfl); (case hr => first | (go_simp; done) | (go_simp; rfl)); (case hp => exact (Reps.none _ _)); intro v257 w3 ho4 hb hg_ hnew_; clear hg_ hnew_; have n0_ := Aside0.mk (Kd.R_lower ho4 (below_size HB.out)); have n1_ := Aside0.mk (below_step HB.out hb); clear HB; have HO258 := n0_; have HB := n1_; clear n0_ n1_; clear hb ho4) | ((with_reducible refine gate_builtin (b := .append) (xs := #[.tmp 5, .tmp 6]) rfl ?_); at_builtin; refine Kd.R_append_rows (Kd.int .i64) (w0 := w) w.heap.size rfl (.tmp 5) (.tmp 6) 23 3 (.int .i64 0) 8 rfl Try.underlying23 info3 rfl (by decide) (by omega) v257 [] l0 _ _ _ (fun _ => True) (fun _ => False) rfl rfl ?aO ?aR (fun _ _ h => h) (fun _ h => h.elim) ?aF ?aB ?aS ?aL ?_; (case aR => exact (Kd.C_below HR0.out HB.out)); (case aB => exact HB.out); (case aF => exact (fun _ _ => trivial)); (case aO => exact HO258.out); (case aS => exact (below_size HB.out)); (case aL => have := LMc2.out; simp; omega); intro v260 w5 ho hb hg hat; rw [List.nil_append] at ho; have n0_ := Aside0.mk (hb); have n1_ := Aside0.mk (ho); clear HB; clear HO258; have HB := n0_; have HO261 := n1_; clear n0_ n1_; clear ho hb hg hat))
  go_ret
  exact ⟨_, by first | rfl | (simp [*]; done), HO261.out, HB.out⟩
/-- A function value that is asked of numbers. -/
structure FV where
 g : Nat
 lb : Array Value
 p : Int → Bool
 enter : ∀ (args : Array Value) (w : World), (callFunc g args).run Try.prog w = .ok (.enter g args) w
/-- It answers by p, and turns and makes nothing, in whatever later world. -/
def FV.ok (v : FV) (w : World) : Prop := ∀ (W : World) (x : Int), Below w.heap.size w W → Calls Try.prog v.g (#[.int .i64 x] ++ v.lb) W fun e w' => e = .returned (.bool (v.p x)) ∧ Drawn0 W w'
def FV.f (v : FV) (x : Int) : Option Bool := some (v.p x)
theorem FV.calls (v : FV) (w : World) (hv : FV.ok v w) (x : Int) (r : Bool) (W : World) (hb : Below w.heap.size w W) (h : FV.f v x = some r) : Calls Try.prog v.g (#[.int .i64 x] ++ v.lb) W fun e w' => e = .returned (.bool r) ∧ Drawn0 W w' := by
 obtain rfl := Option.some.inj h
 exact hv W x hb
@[reducible] def fv_always : FV := ⟨41, #[], fun _ => true, enters_ Try.func41 (by kernel_rfl) rfl⟩
theorem fv_always_ok (w : World) : FV.ok fv_always w := fun W x _ => impl_always.calls x true W rfl
def impl_reached.l0 (a2 : FV) : Nat → List (S46) → List Bool → List Int → Option (List Bool)
 | 0, _, _, _ => none
 | k + 1, x0, x7, x8 => if (x8.length : Int) > 0 then (if 0 ≤ (wrap64 ((x8.length : Int) - 1)) then (if (wrap64 ((x8.length : Int) - 1)) < (x8.length : Int) then (if (wrap64 ((x8.length : Int) - 1)) ≤ (x8.length : Int) then ((some (x8.take ((wrap64 ((x8.length : Int) - 1)) : Int).toNat : List Int)).bind fun y249 => (if 0 ≤ (rd x8 (wrap64 ((x8.length : Int) - 1))) then (if (rd x8 (wrap64 ((x8.length : Int) - 1))) < (x7.length : Int) then (if rdOf false x7 (rd x8 (wrap64 ((x8.length : Int) - 1))) = true then (impl_reached.l0 a2 k x0 x7 y249) else ((some (x7.set ((rd x8 (wrap64 ((x8.length : Int) - 1))) : Int).toNat true : List Bool)).bind fun y253 => (if (rd x8 (wrap64 ((x8.length : Int) - 1))) < (x0.length : Int) then (if (rd_T46 x0 (rd x8 (wrap64 ((x8.length : Int) - 1)))).f0 = true then (impl_reached.l0 a2 k x0 y253 y249) else ((FV.f a2 (rd x8 (wrap64 ((x8.length : Int) - 1)))).bind fun t256 => (if t256 = true then ((some (([(rd_T46 x0 (rd x8 (wrap64 ((x8.length : Int) - 1)))).f2, (rd_T46 x0 (rd x8 (wrap64 ((x8.length : Int) - 1)))).f3] : List Int) : List Int)).bind fun y257 => (if y249.length + y257.length < 17592186044416 then (impl_reached.l0 a2 k x0 y253 (y249 ++ y257)) else (none))) else (impl_reached.l0 a2 k x0 y253 y249)))) else (none)))) else (none)) else (none))) else (none)) else (none)) else (none)) else (some x7)
def impl_reached.f (k : Nat) (l0 : List (S46)) (l1 : List Int) (a2 : FV) : Option (List Bool) := if 0 ≤ (l0.length : Int) then (if ((l0.length : Int) : Int).toNat ≤ 281474976710656 then ((slices_Clone_int_int.f l1).bind fun t245 => (impl_reached.l0 a2 k l0 (List.replicate ((l0.length : Int) : Int).toNat false) t245)) else (none)) else (none)
theorem impl_reached.mono_l (a2 : FV) : ∀ k, (∀ y0 y1 y2, LeO (impl_reached.l0 a2 k y0 y1 y2) (impl_reached.l0 a2 (k + 1) y0 y1 y2))
 | 0 => fun _ _ _ r h => by simp [impl_reached.l0] at h
 | k + 1 => by
  have ih0 := impl_reached.mono_l a2 k
  ·intro y0 y1 y2
   unfold impl_reached.l0
   repeat' first
   | (with_reducible exact ih0 _ _ _)
   | (with_reducible exact LeO.refl _)
   | (with_reducible exact LeO.none _)
   | (with_reducible refine LeO.ite ?_ ?_)
   | (with_reducible refine LeO.bind ?_ (fun _ => ?_))
   | exact ih0 _ _ _
   | exact LeO.none _
   | refine LeO.ite ?_ ?_
   | refine LeO.bind ?_ (fun _ => ?_)
theorem impl_reached.mono : ∀ a0 a1 a2 k, LeO (impl_reached.f k a0 a1 a2) (impl_reached.f (k + 1) a0 a1 a2) := by
 intro a0 a1 a2 k
 have ih0 := impl_reached.mono_l a2 k
 unfold impl_reached.f
 repeat' first
   | (with_reducible exact ih0 _ _ _)
   | (with_reducible exact LeO.refl _)
   | (with_reducible exact LeO.none _)
   | (with_reducible refine LeO.ite ?_ ?_)
   | (with_reducible refine LeO.bind ?_ (fun _ => ?_))
   | exact ih0 _ _ _
   | exact LeO.none _
   | refine LeO.ite ?_ ?_
   | refine LeO.bind ?_ (fun _ => ?_)
set_option maxHeartbeats 8000000 in
set_option maxRecDepth 100000 in
theorem impl_reached.calls (k : Nat) (A0 : Option Addr) (c0 : Nat) (l0 : List (S46)) (A1 : Option Addr) (c1 : Nat) (l1 : List Int) (a2 : FV) (r : List Bool) (w : World) (hr0 : Kd.C k46 w A0 l0.length l0) (hc0 : l0.length ≤ c0) (hr1 : Kd.C (Kd.int .i64) w A1 l1.length l1) (hc1 : l1.length ≤ c1) (h : impl_reached.f k l0 l1 a2 = some r) (hfv : FV.ok a2 w := by first | exact fv_always_ok _ | assumption) :
  Calls Try.prog 40 #[.slice A0 l0.length c0, .slice A1 l1.length c1, .func (.func a2.g) #[] a2.lb] w fun e w' => ∃ v0_ : Value, e = .returned (v0_) ∧ Kd.R Kd.bool 4 w' w.heap.size (fun _ => True) v0_ r ∧ Below w.heap.size w w' := by
 have hu46 := Try.underlying46
 have HFV := Aside0.mk hfv
 clear hfv
 have EG_ := a2.enter
 have HR0 := Aside0.mk hr0
 have HC0 := Aside0.mk hc0
 clear hr0 hc0
 have HR1 := Aside0.mk hr1
 have HC1 := Aside0.mk hc1
 clear hr1 hc1
 have HB := Aside0.mk (Below.refl w.heap.size w)
 have H : (if 0 ≤ (l0.length : Int) then (if ((l0.length : Int) : Int).toNat ≤ 281474976710656 then ((slices_Clone_int_int.f l1).bind fun t245 => (impl_reached.l0 a2 k l0 (List.replicate ((l0.length : Int) : Int).toNat false) t245)) else (none)) else (none)) = some r := h
 clear h
 by_cases c4 : 0 ≤ (l0.length : Int)
 ·rw [if_pos c4] at H
  have c4b0 := eq_true c4
  have c4b1 : decide (0 ≤ (l0.length : Int)) = true := decide_eq_true c4
  clear c4
  by_cases c5 : ((l0.length : Int) : Int).toNat ≤ 281474976710656
  ·rw [if_pos c5] at H
   have c5b0 := eq_true c5
   have c5b1 : decide (((l0.length : Int) : Int).toNat ≤ 281474976710656) = true := decide_eq_true c5
   clear c5
   obtain ⟨y242, hy242⟩ : ∃ y_ : List Bool, y_ = (List.replicate ((l0.length : Int) : Int).toNat false) := ⟨_, rfl⟩
   replace H : ((slices_Clone_int_int.f l1).bind fun t245 => (impl_reached.l0 a2 k l0 y242 t245)) = some r := by first | (rw [hy242]; with_reducible exact H) | (have H2_ := (Option.bind_some _ _).symm.trans H; rw [hy242]; with_reducible exact H2_) | (have H2_ := (Option.bind_some _ _).symm.trans H; with_reducible exact H2_) | with_reducible exact H | (rw [hy242]; exact H) | exact H
   have Ny242 := Aside0.mk hy242
   clear hy242
   replace H := Option.bind_eq_some_iff.mp H
   obtain ⟨t245, A60, H⟩ := H
   replace H : (impl_reached.l0 a2 k l0 y242 t245) = some r := H
   have A6 := Aside0.mk A60
   clear A60
   have H' := Aside0.mk H
   clear H
   go_enter Try.func40, Try.ntmps40
   try go_wp2
   have n0_ := Aside0.mk (below_drew1 HB.out)
   clear HB
   have HB := n0_
   clear n0_
   refine start_ (n := 7) (S := fun w' => True) (ds := []) #[false, false, false, false, false, false, false] (by kernel_rfl) rfl rfl trivial (fun hHeld => ?_)
   generalize w.drew = w7 at HB hHeld ⊢
   refine pure_ (i := 0) (N := some 11) (v := ?_) (a' := ?_) #[true, false, false, false, false, false, false] rfl rfl (by kernel_rfl) (fun _ _ _ h => h) (Or.inl ⟨by rfl, ?_⟩) ?_ ?_
   rotate_left
   ·intro w'
    go_simp
    with_reducible rfl
   rotate_left
   ·simp only [Act.put, List.setIfInBounds_toArray, List.set_cons_zero, List.set_cons_succ, i64_w, i32_w]
    rfl
   refine pure_ (i := 1) (N := some 12) (v := ?_) (a' := ?_) #[true, true, false, false, false, false, false] rfl rfl (by kernel_rfl) (fun _ _ _ h => h) (Or.inl ⟨by rfl, ?_⟩) ?_ ?_
   rotate_left
   ·intro w'
    go_simp
    with_reducible rfl
   rotate_left
   ·simp only [Act.put, List.setIfInBounds_toArray, List.set_cons_zero, List.set_cons_succ, i64_w, i32_w]
    rfl
   refine pure_ (i := 3) (N := some 14) (v := ?_) (a' := ?_) #[true, true, false, true, false, false, false] rfl rfl (by kernel_rfl) (fun _ _ _ h => h) (Or.inl ⟨by rfl, ?_⟩) ?_ ?_
   rotate_left
   ·intro w'
    go_simp
    with_reducible rfl
   rotate_left
   ·simp only [Act.put, List.setIfInBounds_toArray, List.set_cons_zero, List.set_cons_succ, i64_w, i32_w]
    rfl
   refine join_ (σ := Value × Value) 2 #[true, true, true, true, true, false, false] (fun s_ => [(13, s_.1), (15, s_.2)]) (fun s_ w' => (Kd.R Kd.bool 4 w' w.heap.size (fun _ => True) s_.1 y242) ∧ (Kd.R (Kd.int .i64) 3 w' w.heap.size (fun _ => True) s_.2 t245) ∧ (Below w.heap.size w w')) ?_ ?_
   rotate_left
   ·intro hCont
    refine two_ (i := 2) (j := 4) (Ni := some 13) (Nj := some 15) #[true, true, true, true, false, false, false] #[true, true, false, true, true, false, false] rfl rfl rfl rfl (by kernel_rfl) (by decide) (by decide) (fun K hK => ?_) (fun K hK => ?_)
    ·skip
     refine Kd.R_make_step Kd.bool _ 4 (by rfl) (N := 13) rfl 54 _ _ rfl (l0.length : Int) rfl rfl Try.underlying54 (.bool false) 1 info4 rfl (by decide) (by omega) false (ok := fun _ => True) (okp := fun _ => True) rfl (fun _ hk => hk) trivial (of_decide_eq_true (by first | (with_reducible assumption) | assumption)) (Nat.le_trans (Nat.mul_le_mul_right _ (of_decide_eq_true (by first | (with_reducible assumption) | assumption) : (l0.length : Int).toNat ≤ 281474976710656)) (by omega)) (Below.refl _ _) (Nat.le_refl _) ?_
     intro v243 w8 ho9 hb hg_ hnew_
     clear hg_ hnew_
     (first | rw [← Ny242.out] at ho9 | (simp only [Int.reduceToNat] at ho9; rw [← Ny242.out] at ho9))
     have n0_ := Aside0.mk (Kd.R_lower ho9 (below_size pb_))
     have n1_ := Aside0.mk (below_step pb_ hb)
     clear HB
     have HO244 := n0_
     have HB := n1_
     clear n0_ n1_
     clear hb ho9
     refine hK.out _ _ trivial (fun hHeld => ?_)
     clear hK K
     refine norm_ (a' := ?_) ?_ ?_
     rotate_left
     ·show Act.put _ (some 13) _ = _
      simp only [Act.put, List.setIfInBounds_toArray, List.set_cons_zero, List.set_cons_succ, i64_w, i32_w]
      rfl
     refine one_ (i := 4) (N := some 15) #[true, true, true, true, true, false, false] rfl rfl (by kernel_rfl) (by decide) (fun K hK => ?_)
     refine goes_ Try.func57 (by kernel_rfl) rfl #[.slice A1 l1.length c1] (by rfl) rfl rfl (by (try simp only [List.map_toArray, List.map_cons, List.map_nil]); first | done | rfl | (simp only [List.length_drop, List.length_take]; rfl)) ?_
     with_reducible refine (slices_Clone_int_int.calls _ _ l1 t245 _ ?side1 ?side2 A6.out).mono ?_
     (case side1 => exact pc_ (Kd.C_below HR1.out HB.out))
     (case side2 => exact HC1.out)
     rintro e w10 ⟨v246, rfl, ho0, hb⟩
     refine ⟨_, rfl, ?_⟩
     have n0_ := Aside0.mk (Kd.R_below (pr_ HO244.out) hb)
     have n1_ := Aside0.mk (Kd.R_lower ho0 (below_size pb_))
     have n2_ := Aside0.mk (below_step pb_ hb)
     clear HO244
     clear HB
     have HO244 := n0_
     have HO247 := n1_
     have HB := n2_
     clear n0_ n1_ n2_
     (try clear hb)
     (try clear hb2)
     (try clear hk)
     (try clear hi)
     (try clear ho0)
     refine hK.out _ _ trivial (fun hHeld => ?_)
     clear hK K
     refine norm_ (a' := ?_) ?_ ?_
     rotate_left
     ·show Act.put _ (some 15) _ = _
      simp only [Act.put, List.setIfInBounds_toArray, List.set_cons_zero, List.set_cons_succ, i64_w, i32_w]
      rfl
     exact norm_ (by simp only [putAll, Act.put, List.setIfInBounds_toArray, List.set_cons_zero, List.set_cons_succ]) (hCont (v243, v246) _ ⟨(pr_ HO244.out), (pr_ HO247.out), pb_⟩)
    ·skip
     refine goes_ Try.func57 (by kernel_rfl) rfl #[.slice A1 l1.length c1] (by rfl) rfl rfl (by (try simp only [List.map_toArray, List.map_cons, List.map_nil]); first | done | rfl | (simp only [List.length_drop, List.length_take]; rfl)) ?_
     with_reducible refine (slices_Clone_int_int.calls _ _ l1 t245 _ ?side1 ?side2 A6.out).mono ?_
     (case side1 => exact pc_ (Kd.C_below HR1.out HB.out))
     (case side2 => exact HC1.out)
     rintro e w8 ⟨v246, rfl, ho0, hb⟩
     refine ⟨_, rfl, ?_⟩
     have n0_ := Aside0.mk (Kd.R_lower ho0 (below_size pb_))
     have n1_ := Aside0.mk (below_step pb_ hb)
     clear HB
     have HO247 := n0_
     have HB := n1_
     clear n0_ n1_
     (try clear hb)
     (try clear hb2)
     (try clear hk)
     (try clear hi)
     (try clear ho0)
     refine hK.out _ _ trivial (fun hHeld => ?_)
     clear hK K
     refine norm_ (a' := ?_) ?_ ?_
     rotate_left
     ·show Act.put _ (some 15) _ = _
      simp only [Act.put, List.setIfInBounds_toArray, List.set_cons_zero, List.set_cons_succ, i64_w, i32_w]
      rfl
     refine one_ (i := 2) (N := some 13) #[true, true, true, true, true, false, false] rfl rfl (by kernel_rfl) (by decide) (fun K hK => ?_)
     refine Kd.R_make_step Kd.bool _ 4 (by rfl) (N := 13) rfl 54 _ _ rfl (l0.length : Int) rfl rfl Try.underlying54 (.bool false) 1 info4 rfl (by decide) (by omega) false (ok := fun _ => True) (okp := fun _ => True) rfl (fun _ hk => hk) trivial (of_decide_eq_true (by first | (with_reducible assumption) | assumption)) (Nat.le_trans (Nat.mul_le_mul_right _ (of_decide_eq_true (by first | (with_reducible assumption) | assumption) : (l0.length : Int).toNat ≤ 281474976710656)) (by omega)) (Below.refl _ _) (Nat.le_refl _) ?_
     intro v243 w9 ho10 hb hg_ hnew_
     clear hg_ hnew_
     (first | rw [← Ny242.out] at ho10 | (simp only [Int.reduceToNat] at ho10; rw [← Ny242.out] at ho10))
     have n0_ := Aside0.mk (Kd.R_below (pr_ HO247.out) hb)
     have n1_ := Aside0.mk (Kd.R_lower ho10 (below_size pb_))
     have n2_ := Aside0.mk (below_step pb_ hb)
     clear HO247
     clear HB
     have HO247 := n0_
     have HO244 := n1_
     have HB := n2_
     clear n0_ n1_ n2_
     clear hb ho10
     refine hK.out _ _ trivial (fun hHeld => ?_)
     clear hK K
     refine norm_ (a' := ?_) ?_ ?_
     rotate_left
     ·show Act.put _ (some 13) _ = _
      simp only [Act.put, List.setIfInBounds_toArray, List.set_cons_zero, List.set_cons_succ, i64_w, i32_w]
      rfl
     exact norm_ (by simp only [putAll, Act.put, List.setIfInBounds_toArray, List.set_cons_zero, List.set_cons_succ]) (hCont (v243, v246) _ ⟨(pr_ HO244.out), (pr_ HO247.out), pb_⟩)
   rintro ⟨v243, v246⟩ w11 ⟨h0_, h1_, h2_⟩
   have n0_ : Aside0 (Kd.R Kd.bool 4 w11 w.heap.size (fun _ => True) v243 y242) := ⟨h0_⟩
   have n1_ : Aside0 (Kd.R (Kd.int .i64) 3 w11 w.heap.size (fun _ => True) v246 t245) := ⟨h1_⟩
   have n2_ : Aside0 (Below w.heap.size w w11) := ⟨h2_⟩
   clear HB
   clear h0_ h1_ h2_
   have HO244 := n0_
   have HO247 := n1_
   have HB := n2_
   clear n0_ n1_ n2_
   have hHeld := trivial
   refine norm_ (a' := ?_) ?_ ?_
   rotate_left
   ·simp only [putAll, Act.put, List.setIfInBounds_toArray, List.set_cons_zero, List.set_cons_succ]
    rfl
   refine pure_ (i := 5) (N := some 7) (v := ?_) (a' := ?_) #[true, true, true, true, true, true, false] rfl rfl (by kernel_rfl) (fun _ _ _ h => h) (Or.inl ⟨by rfl, ?_⟩) ?_ ?_
   rotate_left
   ·intro w'
    go_simp
    with_reducible rfl
   rotate_left
   ·simp only [Act.put, List.setIfInBounds_toArray, List.set_cons_zero, List.set_cons_succ, i64_w, i32_w]
    rfl
   refine pure_ (i := 6) (N := some 8) (v := ?_) (a' := ?_) #[true, true, true, true, true, true, true] rfl rfl (by kernel_rfl) (fun _ _ _ h => h) (Or.inl ⟨by rfl, ?_⟩) ?_ ?_
   rotate_left
   ·intro w'
    go_simp
    with_reducible rfl
   rotate_left
   ·simp only [Act.put, List.setIfInBounds_toArray, List.set_cons_zero, List.set_cons_succ, i64_w, i32_w]
    rfl
   refine done_ (by kernel_rfl) ?_
   try go_wp2
   go_loopg [8] k (fun kq v8 w' => ∃ (x7_1 : List Bool) (x8_1 : List Int), Aside0 (impl_reached.l0 a2 kq l0 x7_1 x8_1 = some r) ∧ Aside0 (kq ≤ k) ∧ Aside0 (Kd.R Kd.bool 4 w' w.heap.size (fun _ => True) v243 x7_1) ∧ Aside0 (Kd.R (Kd.int .i64) 3 w' w.heap.size (fun _ => True) v8 x8_1) ∧ Aside0 (Below w.heap.size w w'))
   case atStart => exact ⟨(y242), (t245), H', ⟨Nat.le_refl _⟩, ⟨by (with_reducible repeat (first | apply Kd.R_alloc | apply Kd.R_drewN | apply Kd.R_drew)); exact HO244.out⟩, ⟨by (with_reducible repeat (first | apply Kd.R_alloc | apply Kd.R_drewN | apply Kd.R_drew)); exact HO247.out⟩, ⟨pb_⟩⟩
   case round =>
    clear H'
    try clear c1
    try clear p2
    try clear c4
    try clear c4b0
    try clear c4b1
    try clear c5
    try clear c5b0
    try clear c5b1
    obtain ⟨x7_1, x8_1, HA, HK1, HO_7, HO_8, HB⟩ := hrel
    cases gk with
    | zero => exact absurd HA.out (by simp [impl_reached.l0])
    | succ k1 =>
     have H := HA.out
     clear HA
     simp only [impl_reached.l0] at H
     by_cases c12 : (x8_1.length : Int) > 0
     ·rw [if_pos c12] at H
      have c12b0 : decide (0 < (x8_1.length : Int)) = true := decide_eq_true c12
      have c12b1 : decide (0 < x8_1.length) = true := decide_eq_true (by omega)
      clear c12
      obtain ⟨ji13, hji13⟩ : ∃ j_ : Int, (wrap64 ((x8_1.length : Int) - 1)) = j_ := ⟨_, rfl⟩
      replace H : (if 0 ≤ (ji13) then (if (ji13) < (x8_1.length : Int) then (if (ji13) ≤ (x8_1.length : Int) then ((some (x8_1.take ((ji13) : Int).toNat : List Int)).bind fun y249 => (if 0 ≤ (rd x8_1 (ji13)) then (if (rd x8_1 (ji13)) < (x7_1.length : Int) then (if rdOf false x7_1 (rd x8_1 (ji13)) = true then (impl_reached.l0 a2 k1 l0 x7_1 y249) else ((some (x7_1.set ((rd x8_1 (ji13)) : Int).toNat true : List Bool)).bind fun y253 => (if (rd x8_1 (ji13)) < (l0.length : Int) then (if (rd_T46 l0 (rd x8_1 (ji13))).f0 = true then (impl_reached.l0 a2 k1 l0 y253 y249) else ((FV.f a2 (rd x8_1 (ji13))).bind fun t256 => (if t256 = true then ((some (([(rd_T46 l0 (rd x8_1 (ji13))).f2, (rd_T46 l0 (rd x8_1 (ji13))).f3] : List Int) : List Int)).bind fun y257 => (if y249.length + y257.length < 17592186044416 then (impl_reached.l0 a2 k1 l0 y253 (y249 ++ y257)) else (none))) else (impl_reached.l0 a2 k1 l0 y253 y249)))) else (none)))) else (none)) else (none))) else (none)) else (none)) else (none)) = some r := by first | (rw [hji13] at H; exact H) | (simp only [hji13] at H ⊢; exact H)
      have hji13w : (IntKind.i64.wrap ((x8_1.length : Int) - 1)) = ji13 := (i64_w _).trans hji13
      by_cases c14 : 0 ≤ (ji13)
      ·rw [if_pos c14] at H
       have c14b0 : decide (0 ≤ (ji13)) = true := decide_eq_true c14
       clear c14
       by_cases c15 : (ji13) < (x8_1.length : Int)
       ·rw [if_pos c15] at H
        have c15b0 : decide ((ji13) < (x8_1.length : Int)) = true := decide_eq_true c15
        clear c15
        by_cases c16 : (ji13) ≤ (x8_1.length : Int)
        ·rw [if_pos c16] at H
         have c16b0 := eq_true c16
         have c16b1 : decide ((ji13) ≤ (x8_1.length : Int)) = true := decide_eq_true c16
         clear c16
         obtain ⟨y249, hy249⟩ : ∃ y_ : List Int, y_ = (x8_1.take ((ji13) : Int).toNat) := ⟨_, rfl⟩
         replace H : (if 0 ≤ (rd x8_1 (ji13)) then (if (rd x8_1 (ji13)) < (x7_1.length : Int) then (if rdOf false x7_1 (rd x8_1 (ji13)) = true then (impl_reached.l0 a2 k1 l0 x7_1 y249) else ((some (x7_1.set ((rd x8_1 (ji13)) : Int).toNat true : List Bool)).bind fun y253 => (if (rd x8_1 (ji13)) < (l0.length : Int) then (if (rd_T46 l0 (rd x8_1 (ji13))).f0 = true then (impl_reached.l0 a2 k1 l0 y253 y249) else ((FV.f a2 (rd x8_1 (ji13))).bind fun t256 => (if t256 = true then ((some (([(rd_T46 l0 (rd x8_1 (ji13))).f2, (rd_T46 l0 (rd x8_1 (ji13))).f3] : List Int) : List Int)).bind fun y257 => (if y249.length + y257.length < 17592186044416 then (impl_reached.l0 a2 k1 l0 y253 (y249 ++ y257)) else (none))) else (impl_reached.l0 a2 k1 l0 y253 y249)))) else (none)))) else (none)) else (none)) = some r := by first | (rw [hy249]; with_reducible exact H) | (have H2_ := (Option.bind_some _ _).symm.trans H; rw [hy249]; with_reducible exact H2_) | (have H2_ := (Option.bind_some _ _).symm.trans H; with_reducible exact H2_) | with_reducible exact H | (rw [hy249]; exact H) | exact H
         have Ny249 := Aside0.mk hy249
         clear hy249
         by_cases c17 : 0 ≤ (rd x8_1 (ji13))
         ·rw [if_pos c17] at H
          have c17b0 : decide (0 ≤ (rd x8_1 (ji13))) = true := decide_eq_true c17
          clear c17
          by_cases c18 : (rd x8_1 (ji13)) < (x7_1.length : Int)
          ·rw [if_pos c18] at H
           have c18b0 : decide ((rd x8_1 (ji13)) < (x7_1.length : Int)) = true := decide_eq_true c18
           clear c18
           obtain ⟨bq19, hbq19⟩ : ∃ b_ : Bool, b_ = (rdOf false x7_1 (rd x8_1 (ji13))) := ⟨_, rfl⟩
           replace H : (if bq19 = true then (impl_reached.l0 a2 k1 l0 x7_1 y249) else ((some (x7_1.set ((rd x8_1 (ji13)) : Int).toNat true : List Bool)).bind fun y253 => (if (rd x8_1 (ji13)) < (l0.length : Int) then (if (rd_T46 l0 (rd x8_1 (ji13))).f0 = true then (impl_reached.l0 a2 k1 l0 y253 y249) else ((FV.f a2 (rd x8_1 (ji13))).bind fun t256 => (if t256 = true then ((some (([(rd_T46 l0 (rd x8_1 (ji13))).f2, (rd_T46 l0 (rd x8_1 (ji13))).f3] : List Int) : List Int)).bind fun y257 => (if y249.length + y257.length < 17592186044416 then (impl_reached.l0 a2 k1 l0 y253 (y249 ++ y257)) else (none))) else (impl_reached.l0 a2 k1 l0 y253 y249)))) else (none)))) = some r := by rw [← hbq19] at H; exact H
           have Nbq19 := Aside0.mk hbq19
           clear hbq19
           by_cases c20 : bq19 = true
           ·subst c20
            have H1 : (impl_reached.l0 a2 k1 l0 x7_1 y249) = some r := by rw [if_pos rfl] at H; exact H
            clear H
            have H := H1
            clear H1
            have H' := Aside0.mk H
            clear H
            obtain ⟨Ao21, co21, eo21⟩ := Kd.R_slice HO_8.out
            subst eo21
            have p248 : 0 ≤ ((ji13) : Int) := of_decide_eq_true (by first | (with_reducible assumption) | assumption)
            have q248 : (ji13) < (x8_1.length : Int) := of_decide_eq_true (by first | (with_reducible assumption) | assumption)
            obtain ⟨ad248, e248, hx248_0⟩ := Kd.at_int (Kd.R_reads' HO_8.out).2.2 (ji13) p248 q248
            cases e248
            replace p248 := eq_true p248
            replace q248 := eq_true q248
            have q22 : ((ji13) : Int) ≤ ((x8_1.length : Int) : Int) := of_decide_eq_true (by first | (with_reducible assumption) | assumption)
            obtain ⟨i022, hi022, _, hsz22, _⟩ := info_parts info3
            have hcut22 := cut_to (P := Try.prog) 23 3 .i64 Try.underlying23 hi022 (some ad248) x8_1.length co21 (ji13) (of_decide_eq_true (by first | (with_reducible assumption) | assumption)) q22 (Kd.R_reads' HO_8.out).2.1
            have hr22 := Kd.R_take (m := ((ji13) : Int).toNat) HO_8.out (by omega)
            have hy22 : y249.length = ((ji13) : Int).toNat := (by rw [Ny249.out, List.length_take]; omega)
            rw [← Ny249.out] at hr22
            rw [← hy22] at hr22 hcut22
            clear hy22 hi022 hsz22 HO_8
            have HO251 := Aside0.mk hr22
            clear hr22
            replace q22 := eq_true q22
            obtain ⟨Ao23, co23, eo23⟩ := Kd.R_slice HO_7.out
            subst eo23
            have p252 : 0 ≤ ((rd x8_1 (ji13)) : Int) := of_decide_eq_true (by first | (with_reducible assumption) | assumption)
            have q252 : (rd x8_1 (ji13)) < (x7_1.length : Int) := of_decide_eq_true (by first | (with_reducible assumption) | assumption)
            obtain ⟨ad252, e252, hx252_0⟩ := Kd.at_bool (Kd.R_reads' HO_7.out).2.2 (rd x8_1 (ji13)) p252 q252
            (try rw [← Nbq19.out] at hx252_0)
            cases e252
            replace p252 := eq_true p252
            replace q252 := eq_true q252
            go_wp2
            go_roundg k1
            case measure => have := HK1.out; omega
            case rel => exact ⟨(x7_1), (y249), H', ⟨by have := HK1.out; omega⟩, ⟨by (with_reducible repeat (first | apply Kd.R_alloc | apply Kd.R_drewN | apply Kd.R_drew)); exact HO_7.out⟩, ⟨by (with_reducible repeat (first | apply Kd.R_alloc | apply Kd.R_drewN | apply Kd.R_drew)); exact HO251.out⟩, ⟨pb_⟩⟩
           ·replace c20 := Bool.eq_false_iff.mpr c20
            subst c20
            have H1 : ((some (x7_1.set ((rd x8_1 (ji13)) : Int).toNat true : List Bool)).bind fun y253 => (if (rd x8_1 (ji13)) < (l0.length : Int) then (if (rd_T46 l0 (rd x8_1 (ji13))).f0 = true then (impl_reached.l0 a2 k1 l0 y253 y249) else ((FV.f a2 (rd x8_1 (ji13))).bind fun t256 => (if t256 = true then ((some (([(rd_T46 l0 (rd x8_1 (ji13))).f2, (rd_T46 l0 (rd x8_1 (ji13))).f3] : List Int) : List Int)).bind fun y257 => (if y249.length + y257.length < 17592186044416 then (impl_reached.l0 a2 k1 l0 y253 (y249 ++ y257)) else (none))) else (impl_reached.l0 a2 k1 l0 y253 y249)))) else (none))) = some r := by rw [if_neg (show ¬ (false = true) by decide)] at H; exact H
            clear H
            have H := H1
            clear H1
            obtain ⟨y253, hy253⟩ : ∃ y_ : List Bool, y_ = (x7_1.set ((rd x8_1 (ji13)) : Int).toNat true) := ⟨_, rfl⟩
            replace H : (if (rd x8_1 (ji13)) < (l0.length : Int) then (if (rd_T46 l0 (rd x8_1 (ji13))).f0 = true then (impl_reached.l0 a2 k1 l0 y253 y249) else ((FV.f a2 (rd x8_1 (ji13))).bind fun t256 => (if t256 = true then ((some (([(rd_T46 l0 (rd x8_1 (ji13))).f2, (rd_T46 l0 (rd x8_1 (ji13))).f3] : List Int) : List Int)).bind fun y257 => (if y249.length + y257.length < 17592186044416 then (impl_reached.l0 a2 k1 l0 y253 (y249 ++ y257)) else (none))) else (impl_reached.l0 a2 k1 l0 y253 y249)))) else (none)) = some r := by first | (rw [hy253]; with_reducible exact H) | (have H2_ := (Option.bind_some _ _).symm.trans H; rw [hy253]; with_reducible exact H2_) | (have H2_ := (Option.bind_some _ _).symm.trans H; with_reducible exact H2_) | with_reducible exact H | (rw [hy253]; exact H) | exact H
            have Ny253 := Aside0.mk hy253
            clear hy253
            by_cases c25 : (rd x8_1 (ji13)) < (l0.length : Int)
            ·rw [if_pos c25] at H
             have c25b0 : decide ((rd x8_1 (ji13)) < (l0.length : Int)) = true := decide_eq_true c25
             clear c25
             obtain ⟨bq26, hbq26⟩ : ∃ b_ : Bool, b_ = ((rd_T46 l0 (rd x8_1 (ji13))).f0) := ⟨_, rfl⟩
             replace H : (if bq26 = true then (impl_reached.l0 a2 k1 l0 y253 y249) else ((FV.f a2 (rd x8_1 (ji13))).bind fun t256 => (if t256 = true then ((some (([(rd_T46 l0 (rd x8_1 (ji13))).f2, (rd_T46 l0 (rd x8_1 (ji13))).f3] : List Int) : List Int)).bind fun y257 => (if y249.length + y257.length < 17592186044416 then (impl_reached.l0 a2 k1 l0 y253 (y249 ++ y257)) else (none))) else (impl_reached.l0 a2 k1 l0 y253 y249)))) = some r := by rw [← hbq26] at H; exact H
             have Nbq26 := Aside0.mk hbq26
             clear hbq26
             by_cases c27 : bq26 = true
             ·subst c27
              have H1 : (impl_reached.l0 a2 k1 l0 y253 y249) = some r := by rw [if_pos rfl] at H; exact H
              clear H
              have H := H1
              clear H1
              have H' := Aside0.mk H
              clear H
              obtain ⟨Ao28, co28, eo28⟩ := Kd.R_slice HO_8.out
              subst eo28
              have p248 : 0 ≤ ((ji13) : Int) := of_decide_eq_true (by first | (with_reducible assumption) | assumption)
              have q248 : (ji13) < (x8_1.length : Int) := of_decide_eq_true (by first | (with_reducible assumption) | assumption)
              obtain ⟨ad248, e248, hx248_0⟩ := Kd.at_int (Kd.R_reads' HO_8.out).2.2 (ji13) p248 q248
              cases e248
              replace p248 := eq_true p248
              replace q248 := eq_true q248
              have q29 : ((ji13) : Int) ≤ ((x8_1.length : Int) : Int) := of_decide_eq_true (by first | (with_reducible assumption) | assumption)
              obtain ⟨i029, hi029, _, hsz29, _⟩ := info_parts info3
              have hcut29 := cut_to (P := Try.prog) 23 3 .i64 Try.underlying23 hi029 (some ad248) x8_1.length co28 (ji13) (of_decide_eq_true (by first | (with_reducible assumption) | assumption)) q29 (Kd.R_reads' HO_8.out).2.1
              have hr29 := Kd.R_take (m := ((ji13) : Int).toNat) HO_8.out (by omega)
              have hy29 : y249.length = ((ji13) : Int).toNat := (by rw [Ny249.out, List.length_take]; omega)
              rw [← Ny249.out] at hr29
              rw [← hy29] at hr29 hcut29
              clear hy29 hi029 hsz29 HO_8
              have HO251 := Aside0.mk hr29
              clear hr29
              replace q29 := eq_true q29
              obtain ⟨Ao30, co30, eo30⟩ := Kd.R_slice HO_7.out
              subst eo30
              have p252 : 0 ≤ ((rd x8_1 (ji13)) : Int) := of_decide_eq_true (by first | (with_reducible assumption) | assumption)
              have q252 : (rd x8_1 (ji13)) < (x7_1.length : Int) := of_decide_eq_true (by first | (with_reducible assumption) | assumption)
              obtain ⟨ad252, e252, hx252_0⟩ := Kd.at_bool (Kd.R_reads' HO_7.out).2.2 (rd x8_1 (ji13)) p252 q252
              (try rw [← Nbq19.out] at hx252_0)
              (try rw [← Nbq26.out] at hx252_0)
              cases e252
              replace p252 := eq_true p252
              replace q252 := eq_true q252
              have p24 : 0 ≤ ((rd x8_1 (ji13)) : Int) := of_decide_eq_true (by first | (with_reducible assumption) | assumption)
              have q24 : ((rd x8_1 (ji13)) : Int) < ((x7_1.length : Int) : Int) := of_decide_eq_true (by first | (with_reducible assumption) | assumption)
              obtain ⟨go24, co24, eo24, gb24, gl24, cl24, HG24⟩ := Kd.R_form HO_7.out (by omega)
              (first | cases eo24 | (injection eo24 with ea_ en_ ec_; (first | subst ea_ | (injection ea_ with ea_; subst ea_)); subst ec_; clear en_))
              have GB24 := Aside0.mk gb24
              have GG24 := Aside0.mk HG24
              clear gb24 gl24 HG24
              (first | simp only [add_plain] at hx252_0 | skip)
              obtain ⟨hx24_0, hf24_0⟩ := Kd.R_celln false HO_7.out ((rd x8_1 (ji13)) : Int) p24 q24
              replace p24 := eq_true p24
              replace q24 := eq_true q24
              have HP31 := Kd.R_putg HO_7.out ((rd x8_1 (ji13)) : Int) true
              go_wp2_with (first | ((with_reducible refine gate_store (t := 4) (p := 36) rfl ?_); refine store_event (t := 4) (p := 36) (v := ?vo_w32) (w1 := (wr.setCell ⟨go24, ((rd x8_1 (ji13)) : Int).toNat, none⟩ (.bool true))) ?hg ?ho ?hn ?hr ?_; (case ho => rfl); (case hg => rfl); (case hn => rfl); (case hr => first | (go_simp; done) | (go_simp; rfl)); intro w32 hw; have hg : wr.grownBy w32 (some go24) := (by rw [hw]; exact HP31.2); have hp_ : Kd.R Kd.bool 4 w32 w.heap.size (fun _ => True) (.slice (some ⟨go24, 0, none⟩) x7_1.length co30) y253 := (by rw [hw, Ny253.out]; exact HP31.1); clear HP31; have n0_ := Aside0.mk (hp_); have n1_ := Aside0.mk (Kd.R_over' (v := (.slice (some ⟨go24, 0, none⟩) x7_1.length co30)) (pr_ HO251.out) (Kd.R_typed HO_7.out) (by decide) hg); have n2_ := Aside0.mk ((by rw [hw]; exact below_set (HB.out) GB24.out : Below w.heap.size w w32)); clear HO_7; clear HO251; clear HB; have HO_7 := n0_; have HO251 := n1_; have HB := n2_; clear n0_ n1_ n2_; clear hg hw hp_; have p254 : 0 ≤ ((rd x8_1 (ji13)) : Int) := of_decide_eq_true (by first | (with_reducible assumption) | assumption); have q254 : (rd x8_1 (ji13)) < (l0.length : Int) := of_decide_eq_true (by first | (with_reducible assumption) | assumption); obtain ⟨ad254, e254, hx254_0, hx254_1, hx254_2, hx254_3⟩ := at_T46 HR0.out (rd x8_1 (ji13)) p254 q254; (try rw [← Nbq19.out] at hx254_0); (try rw [← Nbq26.out] at hx254_0); cases e254; replace hx254_0 := (HB.out.cell (World.block_lt_of_cell? w _ hx254_0)).trans hx254_0; replace hx254_1 := (HB.out.cell (World.block_lt_of_cell? w _ hx254_1)).trans hx254_1; replace hx254_2 := (HB.out.cell (World.block_lt_of_cell? w _ hx254_2)).trans hx254_2; replace hx254_3 := (HB.out.cell (World.block_lt_of_cell? w _ hx254_3)).trans hx254_3; replace p254 := eq_true p254; replace q254 := eq_true q254) | ((with_reducible refine gate_dst (N := 10) rfl ?_); refine box_event ?hg (N := 10) ?hd (cs := #[.bool false, .int .i64 0, .int .i64 0, .int .i64 0]) (t := 46) ?hr ?_; (case hd => rfl); (case hg => rfl); (case hr => first | (go_simp; done) | (go_simp; rfl)); intro gb255 hg w33 hbox hb; have n0_ := Aside0.mk (Kd.R_below (pr_ HO_7.out) hb); have n1_ := Aside0.mk (Kd.R_below (pr_ HO251.out) hb); have n2_ := Aside0.mk (below_step pb_ hb); have n3_ := Aside0.mk (hbox); have n4_ := Aside0.mk ((by rw [hg]; exact (below_size pb_) : w.heap.size ≤ gb255)); have n5_ := Aside0.mk ((by rw [hg]; exact (below_size pb_) : w.heap.size ≤ gb255)); clear HO_7; clear HO251; clear HB; have HO_7 := n0_; have HO251 := n1_; have HB := n2_; have BK255 := n3_; have GW255 := n4_; have GE255 := n5_; clear n0_ n1_ n2_ n3_ n4_ n5_; clear hb hbox hg; have hcz34_0 := bc0 BK255.out; have hcz34_1 := bc1 BK255.out; have hcz34_2 := bc2 BK255.out; have hcz34_3 := bc3 BK255.out; have hfz34_0 := blk_frozen BK255.out 0; have hfz34_1 := blk_frozen BK255.out 1; have hfz34_2 := blk_frozen BK255.out 2; have hfz34_3 := blk_frozen BK255.out 3))
              go_roundg k1
              case measure => have := HK1.out; omega
              case rel => exact ⟨(y253), (y249), H', ⟨by have := HK1.out; omega⟩, ⟨by (with_reducible repeat (first | apply Kd.R_alloc | apply Kd.R_drewN | apply Kd.R_drew)); exact Kd.R_mono (Kd.R_far (p := ⟨gb255, 3, none⟩) (Kd.R_far (p := ⟨gb255, 2, none⟩) (Kd.R_far (p := ⟨gb255, 1, none⟩) (Kd.R_far (p := ⟨gb255, 0, none⟩) (Kd.R_types HO_7.out BK255.out (by decide)) (fun _ hk => hk.2) (.bool true)) (fun _ hk => hk.2) (.int .i64 ((rd_T46 l0 (rd x8_1 (ji13))).f1))) (fun _ hk => hk.2) (.int .i64 ((rd_T46 l0 (rd x8_1 (ji13))).f2))) (fun _ hk => hk.2) (.int .i64 ((rd_T46 l0 (rd x8_1 (ji13))).f3))) (fun _ hk => trivial)⟩, ⟨by (with_reducible repeat (first | apply Kd.R_alloc | apply Kd.R_drewN | apply Kd.R_drew)); exact Kd.R_mono (Kd.R_far (p := ⟨gb255, 3, none⟩) (Kd.R_far (p := ⟨gb255, 2, none⟩) (Kd.R_far (p := ⟨gb255, 1, none⟩) (Kd.R_far (p := ⟨gb255, 0, none⟩) (Kd.R_types HO251.out BK255.out (by decide)) (fun _ hk => hk.2) (.bool true)) (fun _ hk => hk.2) (.int .i64 ((rd_T46 l0 (rd x8_1 (ji13))).f1))) (fun _ hk => hk.2) (.int .i64 ((rd_T46 l0 (rd x8_1 (ji13))).f2))) (fun _ hk => hk.2) (.int .i64 ((rd_T46 l0 (rd x8_1 (ji13))).f3))) (fun _ hk => trivial)⟩, ⟨pb_⟩⟩
             ·replace c27 := Bool.eq_false_iff.mpr c27
              subst c27
              have H1 : ((FV.f a2 (rd x8_1 (ji13))).bind fun t256 => (if t256 = true then ((some (([(rd_T46 l0 (rd x8_1 (ji13))).f2, (rd_T46 l0 (rd x8_1 (ji13))).f3] : List Int) : List Int)).bind fun y257 => (if y249.length + y257.length < 17592186044416 then (impl_reached.l0 a2 k1 l0 y253 (y249 ++ y257)) else (none))) else (impl_reached.l0 a2 k1 l0 y253 y249))) = some r := by rw [if_neg (show ¬ (false = true) by decide)] at H; exact H
              clear H
              have H := H1
              clear H1
              replace H := Option.bind_eq_some_iff.mp H
              obtain ⟨t256, A350, H⟩ := H
              replace H : (if t256 = true then ((some (([(rd_T46 l0 (rd x8_1 (ji13))).f2, (rd_T46 l0 (rd x8_1 (ji13))).f3] : List Int) : List Int)).bind fun y257 => (if y249.length + y257.length < 17592186044416 then (impl_reached.l0 a2 k1 l0 y253 (y249 ++ y257)) else (none))) else (impl_reached.l0 a2 k1 l0 y253 y249)) = some r := H
              have A35 := Aside0.mk A350
              clear A350
              by_cases c36 : t256 = true
              ·subst c36
               have H1 : ((some (([(rd_T46 l0 (rd x8_1 (ji13))).f2, (rd_T46 l0 (rd x8_1 (ji13))).f3] : List Int) : List Int)).bind fun y257 => (if y249.length + y257.length < 17592186044416 then (impl_reached.l0 a2 k1 l0 y253 (y249 ++ y257)) else (none))) = some r := by rw [if_pos rfl] at H; exact H
               clear H
               have H := H1
               clear H1
               obtain ⟨y257, hy257⟩ : ∃ y_ : List Int, y_ = (([(rd_T46 l0 (rd x8_1 (ji13))).f2, (rd_T46 l0 (rd x8_1 (ji13))).f3] : List Int)) := ⟨_, rfl⟩
               replace H : (if y249.length + y257.length < 17592186044416 then (impl_reached.l0 a2 k1 l0 y253 (y249 ++ y257)) else (none)) = some r := by first | (rw [hy257]; with_reducible exact H) | (have H2_ := (Option.bind_some _ _).symm.trans H; rw [hy257]; with_reducible exact H2_) | (have H2_ := (Option.bind_some _ _).symm.trans H; with_reducible exact H2_) | with_reducible exact H | (rw [hy257]; exact H) | exact H
               have Ny257 := Aside0.mk hy257
               clear hy257
               by_cases c37 : y249.length + y257.length < 17592186044416
               ·rw [if_pos c37] at H
                have LMc37 := Aside0.mk c37
                clear c37
                obtain ⟨y260, hy260⟩ : ∃ y_ : List Int, y_ = (y249 ++ y257) := ⟨_, rfl⟩
                replace H : (impl_reached.l0 a2 k1 l0 y253 y260) = some r := by first | (rw [hy260]; with_reducible exact H) | (have H2_ := (Option.bind_some _ _).symm.trans H; rw [hy260]; with_reducible exact H2_) | (have H2_ := (Option.bind_some _ _).symm.trans H; with_reducible exact H2_) | with_reducible exact H | (rw [hy260]; exact H) | exact H
                have Ny260 := Aside0.mk hy260
                clear hy260
                have H' := Aside0.mk H
                clear H
                obtain ⟨Ao38, co38, eo38⟩ := Kd.R_slice HO_8.out
                subst eo38
                have p248 : 0 ≤ ((ji13) : Int) := of_decide_eq_true (by first | (with_reducible assumption) | assumption)
                have q248 : (ji13) < (x8_1.length : Int) := of_decide_eq_true (by first | (with_reducible assumption) | assumption)
                obtain ⟨ad248, e248, hx248_0⟩ := Kd.at_int (Kd.R_reads' HO_8.out).2.2 (ji13) p248 q248
                cases e248
                replace p248 := eq_true p248
                replace q248 := eq_true q248
                have q39 : ((ji13) : Int) ≤ ((x8_1.length : Int) : Int) := of_decide_eq_true (by first | (with_reducible assumption) | assumption)
                obtain ⟨i039, hi039, _, hsz39, _⟩ := info_parts info3
                have hcut39 := cut_to (P := Try.prog) 23 3 .i64 Try.underlying23 hi039 (some ad248) x8_1.length co38 (ji13) (of_decide_eq_true (by first | (with_reducible assumption) | assumption)) q39 (Kd.R_reads' HO_8.out).2.1
                have hr39 := Kd.R_take (m := ((ji13) : Int).toNat) HO_8.out (by omega)
                have hy39 : y249.length = ((ji13) : Int).toNat := (by rw [Ny249.out, List.length_take]; omega)
                rw [← Ny249.out] at hr39
                rw [← hy39] at hr39 hcut39
                clear hy39 hi039 hsz39 HO_8
                have HO251 := Aside0.mk hr39
                clear hr39
                replace q39 := eq_true q39
                obtain ⟨Ao40, co40, eo40⟩ := Kd.R_slice HO_7.out
                subst eo40
                have p252 : 0 ≤ ((rd x8_1 (ji13)) : Int) := of_decide_eq_true (by first | (with_reducible assumption) | assumption)
                have q252 : (rd x8_1 (ji13)) < (x7_1.length : Int) := of_decide_eq_true (by first | (with_reducible assumption) | assumption)
                obtain ⟨ad252, e252, hx252_0⟩ := Kd.at_bool (Kd.R_reads' HO_7.out).2.2 (rd x8_1 (ji13)) p252 q252
                (try rw [← Nbq19.out] at hx252_0)
                (try rw [← Nbq26.out] at hx252_0)
                cases e252
                replace p252 := eq_true p252
                replace q252 := eq_true q252
                have p24 : 0 ≤ ((rd x8_1 (ji13)) : Int) := of_decide_eq_true (by first | (with_reducible assumption) | assumption)
                have q24 : ((rd x8_1 (ji13)) : Int) < ((x7_1.length : Int) : Int) := of_decide_eq_true (by first | (with_reducible assumption) | assumption)
                obtain ⟨go24, co24, eo24, gb24, gl24, cl24, HG24⟩ := Kd.R_form HO_7.out (by omega)
                (first | cases eo24 | (injection eo24 with ea_ en_ ec_; (first | subst ea_ | (injection ea_ with ea_; subst ea_)); subst ec_; clear en_))
                have GB24 := Aside0.mk gb24
                have GG24 := Aside0.mk HG24
                clear gb24 gl24 HG24
                (first | simp only [add_plain] at hx252_0 | skip)
                obtain ⟨hx24_0, hf24_0⟩ := Kd.R_celln false HO_7.out ((rd x8_1 (ji13)) : Int) p24 q24
                replace p24 := eq_true p24
                replace q24 := eq_true q24
                have HP41 := Kd.R_putg HO_7.out ((rd x8_1 (ji13)) : Int) true
                go_wp2_with (first | ((with_reducible refine gate_store (t := 4) (p := 36) rfl ?_); refine store_event (t := 4) (p := 36) (v := ?vo_w42) (w1 := (wr.setCell ⟨go24, ((rd x8_1 (ji13)) : Int).toNat, none⟩ (.bool true))) ?hg ?ho ?hn ?hr ?_; (case ho => rfl); (case hg => rfl); (case hn => rfl); (case hr => first | (go_simp; done) | (go_simp; rfl)); intro w42 hw; have hg : wr.grownBy w42 (some go24) := (by rw [hw]; exact HP41.2); have hp_ : Kd.R Kd.bool 4 w42 w.heap.size (fun _ => True) (.slice (some ⟨go24, 0, none⟩) x7_1.length co40) y253 := (by rw [hw, Ny253.out]; exact HP41.1); clear HP41; have n0_ := Aside0.mk (hp_); have n1_ := Aside0.mk (Kd.R_over' (v := (.slice (some ⟨go24, 0, none⟩) x7_1.length co40)) (pr_ HO251.out) (Kd.R_typed HO_7.out) (by decide) hg); have n2_ := Aside0.mk ((by rw [hw]; exact below_set (HB.out) GB24.out : Below w.heap.size w w42)); clear HO_7; clear HO251; clear HB; have HO_7 := n0_; have HO251 := n1_; have HB := n2_; clear n0_ n1_ n2_; clear hg hw hp_; have p254 : 0 ≤ ((rd x8_1 (ji13)) : Int) := of_decide_eq_true (by first | (with_reducible assumption) | assumption); have q254 : (rd x8_1 (ji13)) < (l0.length : Int) := of_decide_eq_true (by first | (with_reducible assumption) | assumption); obtain ⟨ad254, e254, hx254_0, hx254_1, hx254_2, hx254_3⟩ := at_T46 HR0.out (rd x8_1 (ji13)) p254 q254; (try rw [← Nbq19.out] at hx254_0); (try rw [← Nbq26.out] at hx254_0); cases e254; replace hx254_0 := (HB.out.cell (World.block_lt_of_cell? w _ hx254_0)).trans hx254_0; replace hx254_1 := (HB.out.cell (World.block_lt_of_cell? w _ hx254_1)).trans hx254_1; replace hx254_2 := (HB.out.cell (World.block_lt_of_cell? w _ hx254_2)).trans hx254_2; replace hx254_3 := (HB.out.cell (World.block_lt_of_cell? w _ hx254_3)).trans hx254_3; replace p254 := eq_true p254; replace q254 := eq_true q254) | ((with_reducible refine gate_dst (N := 10) rfl ?_); refine box_event ?hg (N := 10) ?hd (cs := #[.bool false, .int .i64 0, .int .i64 0, .int .i64 0]) (t := 46) ?hr ?_; (case hd => rfl); (case hg => rfl); (case hr => first | (go_simp; done) | (go_simp; rfl)); intro gb255 hg w43 hbox hb; have n0_ := Aside0.mk (Kd.R_below (pr_ HO_7.out) hb); have n1_ := Aside0.mk (Kd.R_below (pr_ HO251.out) hb); have n2_ := Aside0.mk (below_step pb_ hb); have n3_ := Aside0.mk (hbox); have n4_ := Aside0.mk ((by rw [hg]; exact (below_size pb_) : w.heap.size ≤ gb255)); have n5_ := Aside0.mk ((by rw [hg]; exact (below_size pb_) : w.heap.size ≤ gb255)); clear HO_7; clear HO251; clear HB; have HO_7 := n0_; have HO251 := n1_; have HB := n2_; have BK255 := n3_; have GW255 := n4_; have GE255 := n5_; clear n0_ n1_ n2_ n3_ n4_ n5_; clear hb hbox hg; have hcz44_0 := bc0 BK255.out; have hcz44_1 := bc1 BK255.out; have hcz44_2 := bc2 BK255.out; have hcz44_3 := bc3 BK255.out; have hfz44_0 := blk_frozen BK255.out 0; have hfz44_1 := blk_frozen BK255.out 1; have hfz44_2 := blk_frozen BK255.out 2; have hfz44_3 := blk_frozen BK255.out 3) | ((with_reducible refine (FV.calls a2 w HFV.out (rd x8_1 (ji13)) true _ ?hb_ A35.out).mono ?_); (case hb_ => exact pb_); rintro e w' ⟨rfl, ⟨nd, rfl⟩⟩) | ((with_reducible refine gate_dst (N := 54) rfl ?_); refine Kd.R_lit (Kd.int .i64) _ 3 ?hg (N := 54) ?hd (xs := ([(rd_T46 l0 (rd x8_1 (ji13))).f2, (rd_T46 l0 (rd x8_1 (ji13))).f3] : List Int)) (inner := [.int .i64 ((rd_T46 l0 (rd x8_1 (ji13))).f2), .int .i64 ((rd_T46 l0 (rd x8_1 (ji13))).f3)]) (ok := fun _ => True) (okp := fun _ => True) ?hr ?hp (fun _ hk => hk) trivial (Below.refl _ _) (Nat.le_refl _) (by simp) ?_; (case hd => rfl); (case hg => rfl); (case hr => first | (go_simp; done) | (go_simp; rfl)); (case hp => exact (Reps.one (show Kd.M (Kd.int .i64) _ _ _ ((rd_T46 l0 (rd x8_1 (ji13))).f2) [.int .i64 ((rd_T46 l0 (rd x8_1 (ji13))).f2)] from rfl) (Reps.one (show Kd.M (Kd.int .i64) _ _ _ ((rd_T46 l0 (rd x8_1 (ji13))).f3) [.int .i64 ((rd_T46 l0 (rd x8_1 (ji13))).f3)] from rfl) (Reps.none _ _)))); intro v258 w45 ho46 hb hg_ hnew_; clear hg_ hnew_; (first | rw [← Ny257.out] at ho46 | (simp only [Int.reduceToNat] at ho46; rw [← Ny257.out] at ho46)); have n0_ := Aside0.mk (Kd.R_below (by (with_reducible repeat (first | apply Kd.R_alloc | apply Kd.R_drewN | apply Kd.R_drew)); exact (Kd.R_mono (Kd.R_far (p := ⟨gb255, 3, none⟩) (Kd.R_far (p := ⟨gb255, 2, none⟩) (Kd.R_far (p := ⟨gb255, 1, none⟩) (Kd.R_far (p := ⟨gb255, 0, none⟩) (Kd.R_types HO_7.out BK255.out (by decide)) (fun _ hk => hk.2) (.bool false)) (fun _ hk => hk.2) (.int .i64 ((rd_T46 l0 (rd x8_1 (ji13))).f1))) (fun _ hk => hk.2) (.int .i64 ((rd_T46 l0 (rd x8_1 (ji13))).f2))) (fun _ hk => hk.2) (.int .i64 ((rd_T46 l0 (rd x8_1 (ji13))).f3))) (fun _ h_ => h_.1))) hb); have n1_ := Aside0.mk (Kd.R_elder' (by (with_reducible repeat (first | apply Kd.R_alloc | apply Kd.R_drewN | apply Kd.R_drew)); exact (Kd.R_mono (Kd.R_far (p := ⟨gb255, 3, none⟩) (Kd.R_far (p := ⟨gb255, 2, none⟩) (Kd.R_far (p := ⟨gb255, 1, none⟩) (Kd.R_far (p := ⟨gb255, 0, none⟩) (Kd.R_types HO251.out BK255.out (by decide)) (fun _ hk => hk.2) (.bool false)) (fun _ hk => hk.2) (.int .i64 ((rd_T46 l0 (rd x8_1 (ji13))).f1))) (fun _ hk => hk.2) (.int .i64 ((rd_T46 l0 (rd x8_1 (ji13))).f2))) (fun _ hk => hk.2) (.int .i64 ((rd_T46 l0 (rd x8_1 (ji13))).f3))) (fun _ h_ => h_.1))) (Kd.R_base ho46) hb); have n2_ := Aside0.mk (Kd.R_lower (Kd.R_new' ho46 (Kd.R_lt (by (with_reducible repeat (first | apply Kd.R_alloc | apply Kd.R_drewN | apply Kd.R_drew)); exact (Kd.R_mono (Kd.R_far (p := ⟨gb255, 3, none⟩) (Kd.R_far (p := ⟨gb255, 2, none⟩) (Kd.R_far (p := ⟨gb255, 1, none⟩) (Kd.R_far (p := ⟨gb255, 0, none⟩) (Kd.R_types HO251.out BK255.out (by decide)) (fun _ hk => hk.2) (.bool false)) (fun _ hk => hk.2) (.int .i64 ((rd_T46 l0 (rd x8_1 (ji13))).f1))) (fun _ hk => hk.2) (.int .i64 ((rd_T46 l0 (rd x8_1 (ji13))).f2))) (fun _ hk => hk.2) (.int .i64 ((rd_T46 l0 (rd x8_1 (ji13))).f3))) (fun _ h_ => h_.1))))) (below_size pb_)); have n3_ := Aside0.mk (blk_below (g := gb255) (o := .cells #[.bool false, .int .i64 ((rd_T46 l0 (rd x8_1 (ji13))).f1), .int .i64 ((rd_T46 l0 (rd x8_1 (ji13))).f2), .int .i64 ((rd_T46 l0 (rd x8_1 (ji13))).f3)] 46 (0, 0)) (by (with_reducible repeat (first | refine blk_drewN ?_ _ | refine blk_drew ?_ | refine blk_alloc ?_ _)); refine blk_put (cs := #[.bool false, .int .i64 ((rd_T46 l0 (rd x8_1 (ji13))).f1), .int .i64 ((rd_T46 l0 (rd x8_1 (ji13))).f2), .int .i64 0]) ?_ 3 _ rfl; (with_reducible repeat (first | refine blk_drewN ?_ _ | refine blk_drew ?_ | refine blk_alloc ?_ _)); refine blk_put (cs := #[.bool false, .int .i64 ((rd_T46 l0 (rd x8_1 (ji13))).f1), .int .i64 0, .int .i64 0]) ?_ 2 _ rfl; (with_reducible repeat (first | refine blk_drewN ?_ _ | refine blk_drew ?_ | refine blk_alloc ?_ _)); refine blk_put (cs := #[.bool false, .int .i64 0, .int .i64 0, .int .i64 0]) ?_ 1 _ rfl; (with_reducible repeat (first | refine blk_drewN ?_ _ | refine blk_drew ?_ | refine blk_alloc ?_ _)); refine blk_put (cs := #[.bool false, .int .i64 0, .int .i64 0, .int .i64 0]) ?_ 0 _ rfl; (with_reducible repeat (first | refine blk_drewN ?_ _ | refine blk_drew ?_ | refine blk_alloc ?_ _)); exact BK255.out) hb); have n4_ := Aside0.mk (below_step pb_ hb); clear HO_7; clear HO251; clear BK255; clear HB; have HO_7 := n0_; have HO251 := n1_; have HO259 := n2_; have BK255 := n3_; have HB := n4_; clear n0_ n1_ n2_ n3_ n4_; clear hb ho46; obtain ⟨Ao48, co48, eo48⟩ := Kd.R_slice HO259.out; subst eo48) | ((with_reducible refine gate_builtin (b := .append) (xs := #[.tmp 49, .tmp 54]) rfl ?_); at_builtin; refine Kd.R_append_rows (Kd.int .i64) (w0 := w) w.heap.size rfl (.tmp 49) (.tmp 54) 23 3 (.int .i64 0) 8 rfl Try.underlying23 info3 rfl (by decide) (by omega) (.slice (some ad248) y249.length co38) y249 y257 _ _ _ (fun k_ => some k_ ≠ (.slice Ao48 y257.length co48 : Value).ownBlock) (fun _ => False) rfl rfl ?aO ?aR (fun _ _ h => h) (fun _ h => h.elim) ?aF ?aB ?aS ?aL ?_; (case aR => repeat (first | exact (Kd.R_reads' HO259.out).2.2 | (with_reducible refine Kd.C_alloc ?_ _) | (with_reducible refine Kd.C_drewN ?_ _) | (with_reducible refine Kd.C_drew ?_))); (case aB => exact pb_); (case aF => exact (fun k_ hk => Kd.fresh' (Kd.R_lt (pr_ HO259.out)) k_ hk)); (case aO => exact (by (with_reducible repeat (first | apply Kd.R_alloc | apply Kd.R_drewN | apply Kd.R_drew)); exact Kd.R_mono HO251.out (fun _ hk => hk.2))); (case aS => exact (below_size pb_)); (case aL => have := LMc37.out; omega); intro v261 w47 ho hb hg hat; rw [← Ny260.out] at ho; have n0_ := Aside0.mk (Kd.R_over' (pr_ HO_7.out) (Kd.R_typed (pr_ HO251.out)) (by decide) hg); have n1_ := Aside0.mk (blk_grown (g := gb255) (o := .cells #[.bool false, .int .i64 ((rd_T46 l0 (rd x8_1 (ji13))).f1), .int .i64 ((rd_T46 l0 (rd x8_1 (ji13))).f2), .int .i64 ((rd_T46 l0 (rd x8_1 (ji13))).f3)] 46 (0, 0)) (pk_ BK255.out) hg (Kd.R_ne HO251.out BK255.out (by decide))); have n2_ := Aside0.mk (Kd.R_after (ok := (fun _ => True)) (pr_ HO259.out) hg hat); have n3_ := Aside0.mk (hb); have n4_ := Aside0.mk (ho); clear HO_7; clear BK255; clear HO259; clear HB; clear HO251; have HO_7 := n0_; have BK255 := n1_; have HO259 := n2_; have HB := n3_; have HO262 := n4_; clear n0_ n1_ n2_ n3_ n4_; clear ho hb hg hat))
                go_roundg k1
                case measure => have := HK1.out; omega
                case rel => exact ⟨(y253), (y260), H', ⟨by have := HK1.out; omega⟩, ⟨by (with_reducible repeat (first | apply Kd.R_alloc | apply Kd.R_drewN | apply Kd.R_drew)); exact HO_7.out⟩, ⟨by (with_reducible repeat (first | apply Kd.R_alloc | apply Kd.R_drewN | apply Kd.R_drew)); exact Kd.R_mono HO262.out (fun _ hk => trivial)⟩, ⟨pb_⟩⟩
               ·rw [if_neg c37] at H
                exact absurd H (by simp)
              ·replace c36 := Bool.eq_false_iff.mpr c36
               subst c36
               have H1 : (impl_reached.l0 a2 k1 l0 y253 y249) = some r := by rw [if_neg (show ¬ (false = true) by decide)] at H; exact H
               clear H
               have H := H1
               clear H1
               have H' := Aside0.mk H
               clear H
               obtain ⟨Ao49, co49, eo49⟩ := Kd.R_slice HO_8.out
               subst eo49
               have p248 : 0 ≤ ((ji13) : Int) := of_decide_eq_true (by first | (with_reducible assumption) | assumption)
               have q248 : (ji13) < (x8_1.length : Int) := of_decide_eq_true (by first | (with_reducible assumption) | assumption)
               obtain ⟨ad248, e248, hx248_0⟩ := Kd.at_int (Kd.R_reads' HO_8.out).2.2 (ji13) p248 q248
               cases e248
               replace p248 := eq_true p248
               replace q248 := eq_true q248
               have q50 : ((ji13) : Int) ≤ ((x8_1.length : Int) : Int) := of_decide_eq_true (by first | (with_reducible assumption) | assumption)
               obtain ⟨i050, hi050, _, hsz50, _⟩ := info_parts info3
               have hcut50 := cut_to (P := Try.prog) 23 3 .i64 Try.underlying23 hi050 (some ad248) x8_1.length co49 (ji13) (of_decide_eq_true (by first | (with_reducible assumption) | assumption)) q50 (Kd.R_reads' HO_8.out).2.1
               have hr50 := Kd.R_take (m := ((ji13) : Int).toNat) HO_8.out (by omega)
               have hy50 : y249.length = ((ji13) : Int).toNat := (by rw [Ny249.out, List.length_take]; omega)
               rw [← Ny249.out] at hr50
               rw [← hy50] at hr50 hcut50
               clear hy50 hi050 hsz50 HO_8
               have HO251 := Aside0.mk hr50
               clear hr50
               replace q50 := eq_true q50
               obtain ⟨Ao51, co51, eo51⟩ := Kd.R_slice HO_7.out
               subst eo51
               have p252 : 0 ≤ ((rd x8_1 (ji13)) : Int) := of_decide_eq_true (by first | (with_reducible assumption) | assumption)
               have q252 : (rd x8_1 (ji13)) < (x7_1.length : Int) := of_decide_eq_true (by first | (with_reducible assumption) | assumption)
               obtain ⟨ad252, e252, hx252_0⟩ := Kd.at_bool (Kd.R_reads' HO_7.out).2.2 (rd x8_1 (ji13)) p252 q252
               (try rw [← Nbq19.out] at hx252_0)
               (try rw [← Nbq26.out] at hx252_0)
               cases e252
               replace p252 := eq_true p252
               replace q252 := eq_true q252
               have p24 : 0 ≤ ((rd x8_1 (ji13)) : Int) := of_decide_eq_true (by first | (with_reducible assumption) | assumption)
               have q24 : ((rd x8_1 (ji13)) : Int) < ((x7_1.length : Int) : Int) := of_decide_eq_true (by first | (with_reducible assumption) | assumption)
               obtain ⟨go24, co24, eo24, gb24, gl24, cl24, HG24⟩ := Kd.R_form HO_7.out (by omega)
               (first | cases eo24 | (injection eo24 with ea_ en_ ec_; (first | subst ea_ | (injection ea_ with ea_; subst ea_)); subst ec_; clear en_))
               have GB24 := Aside0.mk gb24
               have GG24 := Aside0.mk HG24
               clear gb24 gl24 HG24
               (first | simp only [add_plain] at hx252_0 | skip)
               obtain ⟨hx24_0, hf24_0⟩ := Kd.R_celln false HO_7.out ((rd x8_1 (ji13)) : Int) p24 q24
               replace p24 := eq_true p24
               replace q24 := eq_true q24
               have HP52 := Kd.R_putg HO_7.out ((rd x8_1 (ji13)) : Int) true
               go_wp2_with (first | ((with_reducible refine gate_store (t := 4) (p := 36) rfl ?_); refine store_event (t := 4) (p := 36) (v := ?vo_w53) (w1 := (wr.setCell ⟨go24, ((rd x8_1 (ji13)) : Int).toNat, none⟩ (.bool true))) ?hg ?ho ?hn ?hr ?_; (case ho => rfl); (case hg => rfl); (case hn => rfl); (case hr => first | (go_simp; done) | (go_simp; rfl)); intro w53 hw; have hg : wr.grownBy w53 (some go24) := (by rw [hw]; exact HP52.2); have hp_ : Kd.R Kd.bool 4 w53 w.heap.size (fun _ => True) (.slice (some ⟨go24, 0, none⟩) x7_1.length co51) y253 := (by rw [hw, Ny253.out]; exact HP52.1); clear HP52; have n0_ := Aside0.mk (hp_); have n1_ := Aside0.mk (Kd.R_over' (v := (.slice (some ⟨go24, 0, none⟩) x7_1.length co51)) (pr_ HO251.out) (Kd.R_typed HO_7.out) (by decide) hg); have n2_ := Aside0.mk ((by rw [hw]; exact below_set (HB.out) GB24.out : Below w.heap.size w w53)); clear HO_7; clear HO251; clear HB; have HO_7 := n0_; have HO251 := n1_; have HB := n2_; clear n0_ n1_ n2_; clear hg hw hp_; have p254 : 0 ≤ ((rd x8_1 (ji13)) : Int) := of_decide_eq_true (by first | (with_reducible assumption) | assumption); have q254 : (rd x8_1 (ji13)) < (l0.length : Int) := of_decide_eq_true (by first | (with_reducible assumption) | assumption); obtain ⟨ad254, e254, hx254_0, hx254_1, hx254_2, hx254_3⟩ := at_T46 HR0.out (rd x8_1 (ji13)) p254 q254; (try rw [← Nbq19.out] at hx254_0); (try rw [← Nbq26.out] at hx254_0); cases e254; replace hx254_0 := (HB.out.cell (World.block_lt_of_cell? w _ hx254_0)).trans hx254_0; replace hx254_1 := (HB.out.cell (World.block_lt_of_cell? w _ hx254_1)).trans hx254_1; replace hx254_2 := (HB.out.cell (World.block_lt_of_cell? w _ hx254_2)).trans hx254_2; replace hx254_3 := (HB.out.cell (World.block_lt_of_cell? w _ hx254_3)).trans hx254_3; replace p254 := eq_true p254; replace q254 := eq_true q254) | ((with_reducible refine gate_dst (N := 10) rfl ?_); refine box_event ?hg (N := 10) ?hd (cs := #[.bool false, .int .i64 0, .int .i64 0, .int .i64 0]) (t := 46) ?hr ?_; (case hd => rfl); (case hg => rfl); (case hr => first | (go_simp; done) | (go_simp; rfl)); intro gb255 hg w54 hbox hb; have n0_ := Aside0.mk (Kd.R_below (pr_ HO_7.out) hb); have n1_ := Aside0.mk (Kd.R_below (pr_ HO251.out) hb); have n2_ := Aside0.mk (below_step pb_ hb); have n3_ := Aside0.mk (hbox); have n4_ := Aside0.mk ((by rw [hg]; exact (below_size pb_) : w.heap.size ≤ gb255)); have n5_ := Aside0.mk ((by rw [hg]; exact (below_size pb_) : w.heap.size ≤ gb255)); clear HO_7; clear HO251; clear HB; have HO_7 := n0_; have HO251 := n1_; have HB := n2_; have BK255 := n3_; have GW255 := n4_; have GE255 := n5_; clear n0_ n1_ n2_ n3_ n4_ n5_; clear hb hbox hg; have hcz55_0 := bc0 BK255.out; have hcz55_1 := bc1 BK255.out; have hcz55_2 := bc2 BK255.out; have hcz55_3 := bc3 BK255.out; have hfz55_0 := blk_frozen BK255.out 0; have hfz55_1 := blk_frozen BK255.out 1; have hfz55_2 := blk_frozen BK255.out 2; have hfz55_3 := blk_frozen BK255.out 3) | ((with_reducible refine (FV.calls a2 w HFV.out (rd x8_1 (ji13)) false _ ?hb_ A35.out).mono ?_); (case hb_ => exact pb_); rintro e w' ⟨rfl, ⟨nd, rfl⟩⟩))
               go_roundg k1
               case measure => have := HK1.out; omega
               case rel => exact ⟨(y253), (y249), H', ⟨by have := HK1.out; omega⟩, ⟨by (with_reducible repeat (first | apply Kd.R_alloc | apply Kd.R_drewN | apply Kd.R_drew)); exact Kd.R_mono (Kd.R_far (p := ⟨gb255, 3, none⟩) (Kd.R_far (p := ⟨gb255, 2, none⟩) (Kd.R_far (p := ⟨gb255, 1, none⟩) (Kd.R_far (p := ⟨gb255, 0, none⟩) (Kd.R_types HO_7.out BK255.out (by decide)) (fun _ hk => hk.2) (.bool false)) (fun _ hk => hk.2) (.int .i64 ((rd_T46 l0 (rd x8_1 (ji13))).f1))) (fun _ hk => hk.2) (.int .i64 ((rd_T46 l0 (rd x8_1 (ji13))).f2))) (fun _ hk => hk.2) (.int .i64 ((rd_T46 l0 (rd x8_1 (ji13))).f3))) (fun _ hk => trivial)⟩, ⟨by (with_reducible repeat (first | apply Kd.R_alloc | apply Kd.R_drewN | apply Kd.R_drew)); exact Kd.R_mono (Kd.R_far (p := ⟨gb255, 3, none⟩) (Kd.R_far (p := ⟨gb255, 2, none⟩) (Kd.R_far (p := ⟨gb255, 1, none⟩) (Kd.R_far (p := ⟨gb255, 0, none⟩) (Kd.R_types HO251.out BK255.out (by decide)) (fun _ hk => hk.2) (.bool false)) (fun _ hk => hk.2) (.int .i64 ((rd_T46 l0 (rd x8_1 (ji13))).f1))) (fun _ hk => hk.2) (.int .i64 ((rd_T46 l0 (rd x8_1 (ji13))).f2))) (fun _ hk => hk.2) (.int .i64 ((rd_T46 l0 (rd x8_1 (ji13))).f3))) (fun _ hk => trivial)⟩, ⟨pb_⟩⟩
            ·rw [if_neg c25] at H
             exact absurd H (by simp)
          ·rw [if_neg c18] at H
           exact absurd H (by simp)
         ·rw [if_neg c17] at H
          exact absurd H (by simp)
        ·rw [if_neg c16] at H
         exact absurd H (by simp)
       ·rw [if_neg c15] at H
        exact absurd H (by simp)
      ·rw [if_neg c14] at H
       exact absurd H (by simp)
     ·rw [if_neg c12] at H
      have c12b0 : decide (0 < (x8_1.length : Int)) = false := decide_eq_false c12
      have c12b1 : decide (0 < x8_1.length) = false := decide_eq_false (by omega)
      clear c12
      obtain rfl := Option.some.inj H
      obtain ⟨Ao56, co56, eo56⟩ := Kd.R_slice HO_8.out
      subst eo56
      go_wp2
      go_ret
      exact ⟨_, by first | rfl | (simp [errW_none, errW_some] <;> rfl) | (simp [*, errW_none, errW_some] <;> rfl), by (with_reducible repeat (first | apply Kd.R_alloc | apply Kd.R_drewN | apply Kd.R_drew)); exact HO_7.out, pb_⟩
  ·rw [if_neg c5] at H
   exact absurd H (by simp)
 ·rw [if_neg c4] at H
  exact absurd H (by simp)
end Go.Proofs.Ytpjikgeglhjehaa.PH
