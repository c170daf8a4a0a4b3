/- Merged out of: T2 V4 V7 V8 T3 T4 VB VA LFnPlotkin (prune.py, a program of this work's). -/
import Derived.Test.YtjmljfpnofjkeaaGreatZg7
import Derived.Test.YtjmljfpnofjkeaaGreatZg6
import Derived.Test.YtjmljfpnofjkeaaGreatZg4
import Derived.KernelRfl
import Derived.Test.YtjmljfpnofjkeaaGreatZg5
import Derived.Test.YtjmljfpnofjkeaaGreatRows
import Derived.WalkKit
import Derived.ProofKit
import Derived.OpenShut
import Derived.ShutString
import Derived.ChangeOld
import Derived.Below
set_option linter.unusedVariables false
set_option linter.unusedSimpArgs false
set_option linter.unnecessarySimpa false
namespace Go.Den
open Tm
set_option linter.unusedVariables false
def Pt.tm : Pt → Tm
  | .var n => .var n.toNat
  | .lam _ t => .lam t.tm
  | .app _ a b => .app a.tm b.tm
/-- No index is below 0. -/
def Pt.nn : Pt → Prop
  | .var n => 0 ≤ n
  | .lam _ t => t.nn
  | .app _ a b => a.nn ∧ b.nn
theorem nums_nn' : ∀ (t : Pt), t.nums = true → t.nn
  | .var n, h => by
    have h' : 0 ≤ n ∧ n ≤ 99 := by simpa [Pt.nums] using h
    exact h'.1
  | .lam n t, h => by
    have h' : n = 0 ∧ t.nums = true := by simpa [Pt.nums] using h
    exact nums_nn' t h'.2
  | .app n x y, h => by
    have h' : n = 0 ∧ x.nums = true ∧ y.nums = true := by simpa [Pt.nums] using h
    exact ⟨nums_nn' x h'.2.1, nums_nn' y h'.2.2⟩
theorem nums_nn {t : Pt} (h : t.nums = true) : t.nn := nums_nn' t h
theorem tm_inj : ∀ {t s : Pt}, t.nums = true → s.nums = true → t.tm = s.tm → t = s
  | .var n, .var m, h1, h2, h => by
    have a : 0 ≤ n ∧ n ≤ 99 := by simpa [Pt.nums] using h1
    have b : 0 ≤ m ∧ m ≤ 99 := by simpa [Pt.nums] using h2
    simp only [Pt.tm, Tm.var.injEq] at h
    have : n = m := by omega
    rw [this]
  | .lam n t, .lam m s, h1, h2, h => by
    have a : n = 0 ∧ t.nums = true := by simpa [Pt.nums] using h1
    have b : m = 0 ∧ s.nums = true := by simpa [Pt.nums] using h2
    simp only [Pt.tm, Tm.lam.injEq] at h
    rw [a.1, b.1, tm_inj a.2 b.2 h]
  | .app n x y, .app m z w, h1, h2, h => by
    have a : n = 0 ∧ x.nums = true ∧ y.nums = true := by simpa [Pt.nums] using h1
    have b : m = 0 ∧ z.nums = true ∧ w.nums = true := by simpa [Pt.nums] using h2
    simp only [Pt.tm, Tm.app.injEq] at h
    rw [a.1, b.1, tm_inj a.2.1 b.2.1 h.1, tm_inj a.2.2 b.2.2 h.2]
  | .var _, .lam _ _, _, _, h => by cases h
  | .var _, .app _ _ _, _, _, h => by cases h
  | .lam _ _, .var _, _, _, h => by cases h
  | .lam _ _, .app _ _ _, _, _, h => by cases h
  | .app _ _ _, .var _, _, _, h => by cases h
  | .app _ _ _, .lam _ _, _, _, h => by cases h
/-- Moved up from f on. -/
def mv (b f : Nat) : Nat → Nat := fun i => if f ≤ i then i + b else i
theorem mv_up (b f : Nat) : ∀ i, upr (mv b f) i = mv b (f + 1) i
  | 0 => by simp [upr, mv]
  | i + 1 => by
    simp only [upr, mv]
    by_cases h : f ≤ i
    · rw [if_pos h, if_pos (by omega)]; omega
    · rw [if_neg h, if_neg (by omega)]
theorem tm_sh (b : Nat) : ∀ (t : Pt) (f : Nat), t.nn → (sh (b : Int) (f : Int) t).tm = ren (mv b f) t.tm ∧ (sh (b : Int) (f : Int) t).nn
  | .var n, f, h => by
    have h : 0 ≤ n := h
    simp only [sh]
    by_cases hf : (f : Int) ≤ n
    · rw [if_pos hf]
      refine ⟨?_, ?_⟩
      · simp only [Pt.tm, ren, mv]
        rw [if_pos (by omega)]
        congr 1
        omega
      · show 0 ≤ n + (b : Int)
        omega
    · rw [if_neg hf]
      refine ⟨?_, h⟩
      simp only [Pt.tm, ren, mv]
      rw [if_neg (by omega)]
  | .lam n t, f, h => by
    obtain ⟨h1, h2⟩ := tm_sh b t (f + 1) h
    simp only [sh, Pt.tm, ren]
    refine ⟨?_, h2⟩
    rw [show ((f : Int) + 1) = ((f + 1 : Nat) : Int) by omega, h1, ren_ext _ (mv_up b f)]
  | .app n x y, f, h => by
    obtain ⟨h1, h2⟩ := tm_sh b x f h.1
    obtain ⟨h3, h4⟩ := tm_sh b y f h.2
    simp only [sh, Pt.tm, ren, h1, h3]
    exact ⟨trivial, h2, h4⟩
/-- Put in for k, under u lambdas. -/
def pt (k : Nat) (s : Tm) (u : Nat) : Nat → Tm := fun i => if i = k + u then ren (mv u 0) s else if k + u < i then .var (i - 1) else .var i
theorem pt_up (k : Nat) (s : Tm) (u : Nat) : ∀ i, ups (pt k s u) i = pt k s (u + 1) i
  | 0 => by
    have h1 : ¬ 0 = k + (u + 1) := by omega
    have h2 : ¬ k + (u + 1) < 0 := by omega
    simp only [ups, pt, if_neg h1, if_neg h2]
  | i + 1 => by
    simp only [ups, pt]
    by_cases h : i = k + u
    · have h' : i + 1 = k + (u + 1) := by omega
      simp only [if_pos h, if_pos h', ren_ren]
      refine ren_ext _ fun n => ?_
      simp only [mv, Nat.zero_le, if_true]
      omega
    · have h' : ¬ i + 1 = k + (u + 1) := by omega
      simp only [if_neg h, if_neg h']
      by_cases h2 : k + u < i
      · have h3 : k + (u + 1) < i + 1 := by omega
        simp only [if_pos h2, if_pos h3, ren]
        congr 1
        omega
      · have h3 : ¬ k + (u + 1) < i + 1 := by omega
        simp only [if_neg h2, if_neg h3]
        rfl
theorem tm_sub (k : Nat) (s : Pt) (hs : s.nn) : ∀ (t : Pt) (u : Nat), t.nn → (sub (k : Int) s (u : Int) t).tm = sb (pt k s.tm u) t.tm ∧ (sub (k : Int) s (u : Int) t).nn
  | .var n, u, h => by
    have h : 0 ≤ n := h
    simp only [sub]
    by_cases h1 : n = (k : Int) + u
    · rw [if_pos h1]
      obtain ⟨a, b⟩ := tm_sh u s 0 hs
      refine ⟨?_, b⟩
      simp only [Pt.tm, sb, pt]
      rw [if_pos (by omega)]
      exact a
    · rw [if_neg h1]
      by_cases h2 : (k : Int) + u < n
      · rw [if_pos h2]
        refine ⟨?_, ?_⟩
        · simp only [Pt.tm, sb, pt]
          rw [if_neg (by omega), if_pos (by omega)]
          congr 1
          omega
        · show 0 ≤ n - 1
          omega
      · rw [if_neg h2]
        refine ⟨?_, h⟩
        simp only [Pt.tm, sb, pt]
        rw [if_neg (by omega), if_neg (by omega)]
  | .lam n t, u, h => by
    obtain ⟨h1, h2⟩ := tm_sub k s hs t (u + 1) h
    simp only [sub, Pt.tm, sb]
    refine ⟨?_, h2⟩
    rw [show ((u : Int) + 1) = ((u + 1 : Nat) : Int) by omega, h1, sb_ext _ (pt_up k s.tm u)]
  | .app n x y, u, h => by
    obtain ⟨h1, h2⟩ := tm_sub k s hs x u h.1
    obtain ⟨h3, h4⟩ := tm_sub k s hs y u h.2
    simp only [sub, Pt.tm, sb, h1, h3]
    exact ⟨trivial, h2, h4⟩
theorem pt_inst (s : Tm) : ∀ i, pt 0 s 0 i = inst s i
  | 0 => by
    simp only [pt, inst, Nat.add_zero, if_true]
    rw [ren_as_sb]
    exact sb_id _ fun n => by simp [mv]
  | i + 1 => by
    simp only [pt, inst]
    rw [if_neg (by omega), if_pos (by omega)]
    rfl
theorem tm_beta {x y : Pt} (hx : x.nn) (hy : y.nn) : (sub 0 y 0 x).tm = sb (inst y.tm) x.tm ∧ (sub 0 y 0 x).nn := by
  obtain ⟨h1, h2⟩ := tm_sub 0 y hy x 0 hx
  refine ⟨?_, h2⟩
  have h1 : (sub 0 y 0 x).tm = sb (pt 0 y.tm 0) x.tm := h1
  rw [h1, sb_ext _ (pt_inst y.tm)]
end Go.Den
namespace Go.Den
open Go
set_option linter.unusedVariables false
set_option maxRecDepth 100000
theorem ev_same (L : List Nd) (b1 b2 : Bool) (hL : L.length ≤ 1048576) : EvN 1048600 7 [.dat (.lst b1 (L.map Nd.d)), .dat (.lst b2 (L.map Nd.d))] [] [] ([.dat (B true)], [], []) := by
  refine (ev_fn Go.Proofs.Tryz.f7 (L.length + 5) (by kernel_rfl) (by kernel_rfl) fun kk hk => ?_).mono (by omega)
  refine same_y kk b1 b2 _ _ (by simp) ?_
  let st := fun i : Nat => h2_9 b1 b2 (L.map Nd.d) (L.map Nd.d) i
  have hlen : ((L.map Nd.d).length : Int) = L.length := by simp
  refine loopAt_range st L.length (by omega) (fun i hi m s K hs hn => ?_) (fun m s K hs hK => ?_) rfl
  · have hget : (L.map Nd.d)[((i : Nat) : Int).toNat]? = some (N3 L[i].k L[i].n L[i].u) := by
      rw [Int.toNat_natCast, List.getElem?_map, List.getElem?_eq_getElem hi]
      rfl
    refine same_go kk m b1 b2 _ _ (i : Int) _ _ _ _ _ _ hs (decide_eq_true (by omega)) ⟨⟨by omega, by omega⟩, hget⟩ ⟨⟨by omega, by omega⟩, hget⟩ (by simp) fun s' hs' => hn s' ?_
    rw [hs', w64_eq (by omega)]
    rfl
  · exact same_end kk m b1 b2 _ _ _ hs (decide_eq_false (by omega)) hK
end Go.Den
namespace Go.Den
open Go
set_option linter.unusedVariables false
set_option maxRecDepth 100000
def lamN : Nat → Pt → Pt
  | 0, t => t
  | n + 1, t => .lam 0 (lamN n t)
theorem lamN_facts (t : Pt) : ∀ n, (lamN n t).size = t.size + n ∧ (lamN n t).depth = t.depth + n
  | 0 => ⟨rfl, rfl⟩
  | n + 1 => by
    obtain ⟨h1, h2⟩ := lamN_facts t n
    simp only [lamN, Pt.size, Pt.depth, h1, h2]
    omega
abbrev cellT (t : Pt) : Option (List D) := some [.dat (I t.kd), .dat (I t.num), .dat (.lst false (t.kids.map Pt.d))]
theorem ev_wrap (kk : Nat) (hk : 300 ≤ kk) (cs : List Dat) (p e : Int) (t : Pt) (n : Nat) (hn : n ≤ 100) :
    LoopAt cfg kk 14 Go.Proofs.Tryz.f14 14 (hdc89w cs p e t.kd t.num (t.kids.map Pt.d) n 0) (.exit 3) (Nm [3] [.ptr (.loc 3) 0] [cellT (lamN (n + 1) t)] [Cur cs p e] []) := by
  let st := fun j : Nat => hdc89w cs p e (lamN j t).kd (lamN j t).num ((lamN j t).kids.map Pt.d) n j
  refine loopAt_range st (n + 1) (by omega) (fun j hj m s K hs hn' => ?_) (fun m s K hs hK => ?_) rfl
  · have h2 := ev_lcLam (lamN j t) kk (by omega)
    rw [Pt.d_eq (lamN j t), Pt.d_eq (Pt.lam 0 (lamN j t))] at h2
    refine wr_go kk m cs p e _ _ _ (n : Int) (j : Int) _ _ _ hs (decide_eq_true (by omega)) h2 fun s' hs' => hn' s' ?_
    rw [hs', w64_eq (by omega)]
    rfl
  · exact wr_end kk m cs p e _ _ _ (n : Int) ((n + 1 : Nat) : Int) hs (decide_eq_false (by omega)) hK
theorem bs_at {bs : List Bool} {i : Nat} (h : i < bs.length) : (bs.map B)[((i : Nat) : Int).toNat]? = some (B bs[i]) := by
  rw [Int.toNat_natCast, List.getElem?_map, List.getElem?_eq_getElem h]
  rfl
theorem cl_loop {cs : List Dat} (hb : Bs cs) (t : Pt) (bs : List Bool) (hbl : bs.length = 100) : ∀ (n : Nat) (p e : Int), n ≤ 100 → 0 ≤ p → p + 2 * n ≤ 800000 →
    ∃ (t' : Pt) (p' e' : Int), (t'.size ≤ t.size + 100 ∧ t'.depth ≤ t.depth + 100) ∧ p ≤ p' ∧ p' ≤ p + 2 * n ∧ ∀ kk, 300 ≤ kk → ∀ (m : Nat) (s : St) (K : X → St → Prop), n < m →
      s.norm ((envOf cfg kk 14 Go.Proofs.Tryz.f14).live (firstRegion (lp Go.Proofs.Tryz.f14 10))) = hdc89 cs p e t.kd t.num (t.kids.map Pt.d) (bs.map B) ((n : Int) - 1) →
      K (.exit 1) (Nm [3] [.ptr (.loc 3) 0] [cellT t'] [Cur cs p' e'] []) → Rounds (envOf cfg kk 14 Go.Proofs.Tryz.f14) kk (lp Go.Proofs.Tryz.f14 10) m s K
  | 0, p, e, h1, h2, h3 => by
    refine ⟨t, p, e, ⟨by omega, by omega⟩, by omega, by omega, fun kk hk m s K hm hs hK => ?_⟩
    obtain ⟨m, rfl⟩ : ∃ k, m = k + 1 := ⟨m - 1, by omega⟩
    exact cl_end kk m cs p e _ _ _ _ _ hs (decide_eq_false (by omega)) hK
  | n + 1, p, e, h1, h2, h3 => by
    have hi : ((n + 1 : Nat) : Int) - 1 = (n : Int) := by omega
    have hlen : ((bs.map B).length : Int) = 100 := by rw [List.length_map, hbl]; rfl
    have hat := bs_at (bs := bs) (i := n) (by omega)
    cases hv : bs[n]'(by omega) with
    | false =>
      rw [hv] at hat
      obtain ⟨t', p', e', h4, h5, h6, h7⟩ := cl_loop hb t bs hbl n p e (by omega) h2 (by omega)
      refine ⟨t', p', e', h4, h5, by omega, fun kk hk m s K hm hs hK => ?_⟩
      obtain ⟨m, rfl⟩ : ∃ k, m = k + 1 := ⟨m - 1, by omega⟩
      rw [hi] at hs
      refine cl_no kk m cs p e _ _ _ _ _ hs (decide_eq_true (by omega)) ⟨by omega, by omega⟩ hat fun s' hs' => h7 kk hk m s' K (by omega) ?_ hK
      rw [hs', w64_eq (by omega)]
      rfl
    | true =>
      rw [hv] at hat
      obtain ⟨b, p1, e1, ha, hb2, hev⟩ := ev_one hb 20 p e h2 (by omega) (by omega)
      cases b with
      | true =>
        obtain ⟨t', p', e', h4, h5, h6, h7⟩ := cl_loop hb t bs hbl n p1 e1 (by omega) (by omega) (by omega)
        refine ⟨t', p', e', h4, by omega, by omega, fun kk hk m s K hm hs hK => ?_⟩
        obtain ⟨m, rfl⟩ : ∃ k, m = k + 1 := ⟨m - 1, by omega⟩
        rw [hi] at hs
        refine cl_one kk m cs p e _ _ _ _ _ p1 e1 hs (decide_eq_true (by omega)) ⟨by omega, by omega⟩ hat (hev kk (by omega)) fun s' hs' => h7 kk hk m s' K (by omega) ?_ hK
        rw [hs', w64_eq (by omega)]
        rfl
      | false =>
        have hl := lamN_facts t (n + 1)
        refine ⟨lamN (n + 1) t, p1, e1, ⟨by omega, by omega⟩, ha, by omega, fun kk hk m s K hm hs hK => ?_⟩
        obtain ⟨m, rfl⟩ : ∃ k, m = k + 1 := ⟨m - 1, by omega⟩
        rw [hi] at hs
        exact cl_hit kk m cs p e _ _ _ _ _ p1 e1 _ _ _ hs (decide_eq_true (by omega)) ⟨by omega, by omega⟩ hat (hev kk (by omega)) (ev_wrap kk hk cs p1 e1 t n (by omega)) hK
/-- the free variables, into the row of a hundred. -/
theorem ev_free100 (t : Pt) (hd : t.depth ≤ 50) (hn : t.nums = true) : ∃ bs : List Bool, bs.length = 100 ∧ EvN 100 40 [.dat t.d, .dat (I 0), .bor (.lent 0) none] [] [some (4, (List.replicate 100 false).map B)] ([], [], [some (4, bs.map B)]) :=
  ⟨_, by rw [setB_length]; simp, (ev_lcFree 50 t 0 (List.replicate 100 false) hd hn (by omega) (by omega) (by simp)).mono (by omega)⟩
theorem cl_end_ev {cs : List Dat} (hb : Bs cs) (t : Pt) (ht : t.size ≤ 400 ∧ t.depth ≤ 50 ∧ t.nums = true) (p e : Int) (h0 : 0 ≤ p) (h1 : p ≤ 200000) : ∃ (bs : List Bool) (t' : Pt) (p' e' : Int), p ≤ p' ∧ p' ≤ p + 200 ∧ (t'.size ≤ 500 ∧ t'.depth ≤ 150) ∧ ∀ kk, 400 ≤ kk →
    den cfg kk 40 [.dat t.d, .dat (I 0), .bor (.lent 0) none] [] [some (4, (List.replicate 100 false).map B)] = some ([], [], [some (4, bs.map B)]) ∧
    LoopAt cfg kk 14 Go.Proofs.Tryz.f14 10 (hdc89 cs p e t.kd t.num (t.kids.map Pt.d) (bs.map B) (w64 (((bs.map B).length : Int) - 1))) (.exit 1) (Nm [3] [.ptr (.loc 3) 0] [cellT t'] [Cur cs p' e'] []) ∧
    den cfg kk 41 [.own 46 [], .dat t'.d, .dat (I (-1))] [] [] = some ([.own 46 ((flatS t' [] (-1)).map Nd.d)], [], []) := by
  obtain ⟨bs, hbl, hfr⟩ := ev_free100 t ht.2.1 ht.2.2
  obtain ⟨t', p', e', h4, h5, h6, h7⟩ := cl_loop hb t bs hbl 100 p e (by omega) h0 (by omega)
  refine ⟨bs, t', p', e', h5, by omega, ⟨by omega, by omega⟩, fun kk hk => ⟨hfr kk (by omega), ?_, ev_lcFlat 200 t' [] (-1) (by omega) (by simp) (by omega) kk (by omega)⟩⟩
  have hw : w64 (((bs.map B).length : Int) - 1) = ((100 : Nat) : Int) - 1 := by rw [List.length_map, hbl]; exact w64_eq (by omega)
  rw [hw]
  exact loopOb_of fun s hs => h7 kk (by omega) kk s _ (by omega) hs ⟨rfl, rfl⟩
theorem flat_len {t : Pt} (ht : t.size ≤ 900) : (flatS t [] (-1)).length ≤ 900 := by
  have h2 := (flatS_facts t [] (-1) (by simp)).2
  simp at h2
  omega
theorem ev_closed {cs : List Dat} (hb : Bs cs) (p e : Int) (h0 : 0 ≤ p) (h1 : p ≤ 100000) : ∃ (L : List Nd) (p' e' : Int), L.length ≤ 1000 ∧ p ≤ p' ∧ p' ≤ p + 1000 ∧
    EvN 500 14 [cp] [Cur cs p e] [] ([.own 46 (L.map Nd.d)], [Cur cs p' e'], []) := by
  obtain ⟨z, p1, e1, ha1, ha2, hz0, hz1, hz⟩ := ev_pick hb 5 p e h0 (by omega) (by omega)
  have hpw : pw z.toNat ≤ 16 := by
    have : z = 0 ∨ z = 1 ∨ z = 2 ∨ z = 3 ∨ z = 4 := by omega
    rcases this with rfl | rfl | rfl | rfl | rfl <;> decide
  obtain ⟨t1, p2, e2, ht1, hb1, hb2, hev1⟩ := ev_term hb z.toNat 1 p1 e1 (by omega) (by omega) (by omega) (by omega)
  rw [show ((z.toNat : Nat) : Int) = z by omega] at hev1
  have hs1 := ht1.sz
  have hd1 := ht1.dp
  obtain ⟨w, p3, e3, hc1, hc2, hw0, hw1, hw⟩ := ev_pick hb 4 p2 e2 (by omega) (by omega) (by omega)
  have hlam : ∀ t : Pt, (Pt.lam 0 t).d = T 2 0 [t.d] := fun t => rfl
  by_cases q0 : w = 0
  · obtain ⟨t3, p4, e4, ht3, hk1, hk2, hev3⟩ := ev_known hb p3 e3 (by omega) (by omega)
    obtain ⟨bs, t', p5, e5, h4, h5, h6, h7⟩ := cl_end_ev hb t3 ⟨by omega, by omega, ht3.2.2⟩ p4 e4 (by omega) (by omega)
    refine ⟨flatS t' [] (-1), p5, e5, by have := flat_len (t := t') (by omega); omega, by omega, by omega, ev_fn Go.Proofs.Tryz.f14 499 (by kernel_rfl) (by kernel_rfl) fun kk hk => ?_⟩
    obtain ⟨g1, g2, g3⟩ := h7 kk (by omega)
    have x1 := hev1 kk (by omega)
    have x2 := ev_lcLam t1 kk (by omega)
    have x3 := hev3 kk (by omega)
    rw [hlam] at x2
    rw [Pt.d_eq] at x1 x2 x3 g1 g3
    exact closed_a kk cs p e p1 e1 p2 e2 p3 e3 p4 e4 0 0 p5 e5 z w _ _ _ _ _ _ _ _ _ _ _ 0 0 [] 0 0 [] _ _ _ (hz kk (by omega)) x1 x2 (hw kk (by omega)) (decide_eq_true q0) x3 g1 g2 g3
  by_cases q1 : w = 1
  · obtain ⟨t3, p4, e4, ht3, hk1, hk2, hev3⟩ := ev_known hb p3 e3 (by omega) (by omega)
    obtain ⟨t4, p5, e5, ht4, hk3, hk4, hev4⟩ := ev_known hb p4 e4 (by omega) (by omega)
    obtain ⟨bs, t', p6, e6, h4, h5, h6, h7⟩ := cl_end_ev hb (Pt.app 0 t3 t4) ⟨by simp only [Pt.size]; omega, by simp only [Pt.depth]; omega, by simp [Pt.nums, ht3.2.2, ht4.2.2]⟩ p5 e5 (by omega) (by omega)
    refine ⟨flatS t' [] (-1), p6, e6, by have := flat_len (t := t') (by omega); omega, by omega, by omega, ev_fn Go.Proofs.Tryz.f14 499 (by kernel_rfl) (by kernel_rfl) fun kk hk => ?_⟩
    obtain ⟨g1, g2, g3⟩ := h7 kk (by omega)
    have x1 := hev1 kk (by omega)
    have x2 := ev_lcLam t1 kk (by omega)
    have x3 := hev3 kk (by omega)
    have x4 := hev4 kk (by omega)
    have x5 := ev_lcApp t3 t4 kk (by omega)
    rw [hlam] at x2
    rw [Pt.d_eq (Pt.app 0 t3 t4)] at g1 x5
    rw [Pt.d_eq t1] at x1 x2
    rw [Pt.d_eq t3] at x3 x5
    rw [Pt.d_eq t4] at x4 x5
    rw [Pt.d_eq] at g3
    exact closed_b kk cs p e p1 e1 p2 e2 p3 e3 p4 e4 p5 e5 p6 e6 z w _ _ _ _ _ _ _ _ _ _ _ _ _ _ _ _ _ _ _ _ (hz kk (by omega)) x1 x2 (hw kk (by omega)) (decide_eq_false q0) (decide_eq_true q1) x3 x4 x5 g1 g2 g3
  · obtain ⟨bs, t', p5, e5, h4, h5, h6, h7⟩ := cl_end_ev hb (Pt.lam 0 t1) ⟨by simp only [Pt.size]; omega, by simp only [Pt.depth]; omega, by simp [Pt.nums, ht1.nm]⟩ p3 e3 (by omega) (by omega)
    refine ⟨flatS t' [] (-1), p5, e5, by have := flat_len (t := t') (by omega); omega, by omega, by omega, ev_fn Go.Proofs.Tryz.f14 499 (by kernel_rfl) (by kernel_rfl) fun kk hk => ?_⟩
    obtain ⟨g1, g2, g3⟩ := h7 kk (by omega)
    have x1 := hev1 kk (by omega)
    have x2 := ev_lcLam t1 kk (by omega)
    rw [Pt.d_eq (Pt.lam 0 t1)] at g1 x2
    rw [Pt.d_eq t1] at x1 x2
    rw [Pt.d_eq] at g3
    exact closed_c kk cs p e p1 e1 p2 e2 p3 e3 0 0 0 0 p5 e5 z w _ _ _ _ _ _ _ _ 0 0 [] 0 0 [] 0 0 [] _ _ _ (hz kk (by omega)) x1 x2 (hw kk (by omega)) (decide_eq_false q0) (decide_eq_false q1) g1 g2 g3
end Go.Den
namespace Go.Den
open Go
set_option linter.unusedVariables false
set_option maxRecDepth 100000
theorem bs_cases (bs : List Bool) : (∃ j, j < bs.length ∧ bs[j]? = some true ∧ ∀ i, i < j → bs[i]? = some false) ∨ ∀ i, i < bs.length → bs[i]? = some false := by
  cases h : bs.all (fun b => !b) with
  | false =>
    obtain ⟨j, x, h1, h2, h3⟩ := first_bad (fun b => !b) h
    have hx : x = true := by simpa using h2
    have hj : j < bs.length := by
      cases hh : decide (j < bs.length) with
      | true => exact of_decide_eq_true hh
      | false => rw [List.getElem?_eq_none (by have := of_decide_eq_false hh; omega)] at h1; cases h1
    refine .inl ⟨j, hj, by rw [h1, hx], fun i hi => ?_⟩
    have hg := List.getElem?_eq_getElem (l := bs) (i := i) (by omega)
    have := h3 i _ hi hg
    have h4 : bs[i] = false := by simpa using this
    rw [hg, h4]
  | true =>
    refine .inr fun i hi => ?_
    have hg := List.getElem?_eq_getElem (l := bs) (i := i) hi
    rw [List.all_eq_true] at h
    have h4 : bs[i] = false := by simpa using h _ (List.getElem_mem hi)
    rw [hg, h4]
def selfT : Pt := .app 0 (.lam 0 (.app 0 (.var 0) (.var 0))) (.lam 0 (.var 0))
theorem bs_get {bs : List Bool} {i : Nat} {v : Bool} (h : bs[i]? = some v) : (bs.map B)[((i : Nat) : Int).toNat]? = some (B v) := by
  rw [Int.toNat_natCast, List.getElem?_map, h]
  rfl
theorem sm_end_ev {cs : List Dat} (t : Pt) (ht : t.size ≤ 400 ∧ t.depth ≤ 50 ∧ t.nums = true) (p e : Int) : ∃ (bs : List Bool) (L : List Nd), L.length ≤ 900 ∧ (∀ kk, 400 ≤ kk →
    den cfg kk 40 [.dat t.d, .dat (I 0), .bor (.lent 0) none] [] [some (4, (List.replicate 100 false).map B)] = some ([], [], [some (4, bs.map B)])) ∧ ((∀ kk, 400 ≤ kk →
    LoopAt cfg kk 15 Go.Proofs.Tryz.f15 10 (hdc90 cs p e t.kd t.num (t.kids.map Pt.d) (bs.map B) 0) .ret (Nm [2, 3] [.own 46 (L.map Nd.d), .ptr (.loc 3) 0] [none, cellT t] [Cur cs p e] [])) ∨ (∀ kk, 400 ≤ kk →
    LoopAt cfg kk 15 Go.Proofs.Tryz.f15 10 (hdc90 cs p e t.kd t.num (t.kids.map Pt.d) (bs.map B) 0) (.exit 1) (Nm [2, 3] [.junk, .ptr (.loc 3) 0] [none, cellT t] [Cur cs p e] []) ∧
    den cfg kk 41 [.own 46 [], .dat t.d, .dat (I (-1))] [] [] = some ([.own 46 (L.map Nd.d)], [], []))) := by
  obtain ⟨bs, hbl, hfr⟩ := ev_free100 t ht.2.1 ht.2.2
  have hlen : ((bs.map B).length : Int) = 100 := by rw [List.length_map, hbl]; rfl
  let st := fun i : Nat => hdc90 cs p e t.kd t.num (t.kids.map Pt.d) (bs.map B) i
  have hgo : ∀ kk, ∀ i, i < 100 → bs[i]? = some false → ∀ (m : Nat) (s : St) (K : X → St → Prop), s.norm ((envOf cfg kk 15 Go.Proofs.Tryz.f15).live (firstRegion (lp Go.Proofs.Tryz.f15 10))) = st i →
      (∀ s : St, s.norm ((envOf cfg kk 15 Go.Proofs.Tryz.f15).live (firstRegion (lp Go.Proofs.Tryz.f15 10))) = st (i + 1) → Rounds (envOf cfg kk 15 Go.Proofs.Tryz.f15) kk (lp Go.Proofs.Tryz.f15 10) m s K) → Rounds (envOf cfg kk 15 Go.Proofs.Tryz.f15) kk (lp Go.Proofs.Tryz.f15 10) (m + 1) s K := fun kk i hi hv m s K hs hn => by
    refine sm_no kk m cs p e _ _ _ _ (i : Int) hs (decide_eq_true (by omega)) ⟨by omega, by omega⟩ (bs_get hv) fun s' hs' => hn s' ?_
    rw [hs', w64_eq (by omega)]
    rfl
  rcases bs_cases bs with ⟨j, hj, h1, h2⟩ | h1
  · refine ⟨bs, flatS selfT [] (-1), flat_len (by decide), fun kk hk => hfr kk (by omega), .inl fun kk hk => ?_⟩
    refine loopAt_range st j (by omega) (fun i hi m s K hs hn => hgo kk i (by omega) (h2 i hi) m s K hs hn) (fun m s K hs hK => ?_) rfl
    have y1 := ev_lcVar 0 kk (by omega)
    have y2 := ev_lcApp (.var 0) (.var 0) kk (by omega)
    have y3 := ev_lcLam (.app 0 (.var 0) (.var 0)) kk (by omega)
    have y4 := ev_lcLam (.var 0) kk (by omega)
    have y5 := ev_lcApp (.lam 0 (.app 0 (.var 0) (.var 0))) (.lam 0 (.var 0)) kk (by omega)
    have y6 := ev_lcFlat 100 selfT [] (-1) (by decide) (by simp) (by decide) kk (by omega)
    exact sm_hit kk m cs p e _ _ _ _ (j : Int) _ _ _ _ _ _ _ _ _ _ _ _ _ _ _ _ _ _ _ _ _ _ hs (decide_eq_true (by omega)) ⟨by omega, by omega⟩ (bs_get h1) y1 y1 y2 y3 y1 y4 y5 y6 hK
  · refine ⟨bs, flatS t [] (-1), flat_len (by omega), fun kk hk => hfr kk (by omega), .inr fun kk hk => ⟨?_, ev_lcFlat 200 t [] (-1) (by omega) (by simp) (by omega) kk (by omega)⟩⟩
    refine loopAt_range st 100 (by omega) (fun i hi m s K hs hn => hgo kk i (by omega) (h1 i (by omega)) m s K hs hn) (fun m s K hs hK => ?_) rfl
    exact sm_end kk m cs p e _ _ _ _ _ hs (decide_eq_false (by omega)) hK
theorem ev_small {cs : List Dat} (hb : Bs cs) (p e : Int) (h0 : 0 ≤ p) (h1 : p ≤ 100000) : ∃ (L : List Nd) (p' e' : Int), L.length ≤ 1000 ∧ p ≤ p' ∧ p' ≤ p + 1000 ∧
    EvN 500 15 [cp] [Cur cs p e] [] ([.own 46 (L.map Nd.d)], [Cur cs p' e'], []) := by
  obtain ⟨z, p1, e1, ha1, ha2, hz0, hz1, hz⟩ := ev_pick hb 3 p e h0 (by omega) (by omega)
  have hpw : pw z.toNat ≤ 16 := by
    have : z = 0 ∨ z = 1 ∨ z = 2 := by omega
    rcases this with rfl | rfl | rfl <;> decide
  obtain ⟨t1, p2, e2, ht1, hb1, hb2, hev1⟩ := ev_term hb z.toNat 1 p1 e1 (by omega) (by omega) (by omega) (by omega)
  rw [show ((z.toNat : Nat) : Int) = z by omega] at hev1
  obtain ⟨w, p3, e3, hc1, hc2, hw0, hw1, hw⟩ := ev_pick hb 2 p2 e2 (by omega) (by omega) (by omega)
  have hpw2 : pw w.toNat ≤ 16 := by
    have : w = 0 ∨ w = 1 := by omega
    rcases this with rfl | rfl <;> decide
  obtain ⟨t3, p4, e4, ht3, hb3, hb4, hev3⟩ := ev_term hb w.toNat 1 p3 e3 (by omega) (by omega) (by omega) (by omega)
  rw [show ((w.toNat : Nat) : Int) = w by omega] at hev3
  obtain ⟨q, p5, e5, hd1, hd2, hq0, hq1, hq⟩ := ev_pick hb 4 p4 e4 (by omega) (by omega) (by omega)
  have hs1 := ht1.sz
  have hp1 := ht1.dp
  have hs3 := ht3.sz
  have hp3 := ht3.dp
  have hlam : ∀ t : Pt, (Pt.lam 0 t).d = T 2 0 [t.d] := fun t => rfl
  have hx : ∀ kk, 499 ≤ kk → den cfg kk 38 [cp, .dat (I 1), .dat (I z)] [Cur cs p1 e1] [] = some ([.dat (T t1.kd t1.num (t1.kids.map Pt.d))], [Cur cs p2 e2], []) ∧
      den cfg kk 29 [.dat (T t1.kd t1.num (t1.kids.map Pt.d))] [] [] = some ([.dat (T 2 0 [T t1.kd t1.num (t1.kids.map Pt.d)])], [], []) ∧
      den cfg kk 38 [cp, .dat (I 1), .dat (I w)] [Cur cs p3 e3] [] = some ([.dat (T t3.kd t3.num (t3.kids.map Pt.d))], [Cur cs p4 e4], []) ∧
      den cfg kk 29 [.dat (T t3.kd t3.num (t3.kids.map Pt.d))] [] [] = some ([.dat (T 2 0 [T t3.kd t3.num (t3.kids.map Pt.d)])], [], []) ∧
      den cfg kk 27 [.dat (T 2 0 [T t1.kd t1.num (t1.kids.map Pt.d)]), .dat (T 2 0 [T t3.kd t3.num (t3.kids.map Pt.d)])] [] [] = some ([.dat (T 3 0 [T 2 0 [T t1.kd t1.num (t1.kids.map Pt.d)], T 2 0 [T t3.kd t3.num (t3.kids.map Pt.d)]])], [], []) := fun kk hk => by
    have x1 := hev1 kk (by omega)
    have x2 := ev_lcLam t1 kk (by omega)
    have x3 := hev3 kk (by omega)
    have x4 := ev_lcLam t3 kk (by omega)
    have x5 := ev_lcApp (.lam 0 t1) (.lam 0 t3) kk (by omega)
    rw [show (Pt.app 0 (.lam 0 t1) (.lam 0 t3)).d = T 3 0 [(Pt.lam 0 t1).d, (Pt.lam 0 t3).d] from rfl] at x5
    rw [hlam] at x2 x4 x5
    rw [hlam] at x5
    rw [Pt.d_eq t1] at x1 x2 x5
    rw [Pt.d_eq t3] at x3 x4 x5
    exact ⟨x1, x2, x3, x4, x5⟩
  by_cases q0 : q = 0
  · obtain ⟨t6, p6, e6, ht6, hk1, hk2, hev6⟩ := ev_known hb p5 e5 (by omega) (by omega)
    obtain ⟨bs, L, hL, hfr, hc⟩ := sm_end_ev (cs := cs) (t6) ⟨by omega, by omega, by exact ht6.2.2⟩ p6 e6
    rcases hc with hc | hc
    · refine ⟨L, p6, e6, by omega, by omega, by omega, ev_fn Go.Proofs.Tryz.f15 499 (by kernel_rfl) (by kernel_rfl) fun kk hk => ?_⟩
      obtain ⟨x1, x2, x3, x4, x5⟩ := hx kk (by omega)
      have g1 := hfr kk (by omega)
      have g2 := hc kk (by omega)
      have x6 := hev6 kk (by omega)
      rw [Pt.d_eq t6] at x6 g1
      try rw [Pt.d_eq t6] at g3
      exact small_a1 kk cs p e p1 e1 p2 e2 p3 e3 p4 e4 p5 e5 p6 e6 z w q _ _ _ _ _ _ _ _ _ _ _ _ _ _ _ _ _ _ _ _ 0 0 [] 0 0 [] 0 0 [] (hz kk (by omega)) x1 x2 (hw kk (by omega)) x3 x4 x5 (hq kk (by omega)) (decide_eq_true q0) x6 g1 g2
    · refine ⟨L, p6, e6, by omega, by omega, by omega, ev_fn Go.Proofs.Tryz.f15 499 (by kernel_rfl) (by kernel_rfl) fun kk hk => ?_⟩
      obtain ⟨x1, x2, x3, x4, x5⟩ := hx kk (by omega)
      have g1 := hfr kk (by omega)
      have g2 := (hc kk (by omega)).1
      have g3 := (hc kk (by omega)).2
      have x6 := hev6 kk (by omega)
      rw [Pt.d_eq t6] at x6 g1
      try rw [Pt.d_eq t6] at g3
      exact small_a0 kk cs p e p1 e1 p2 e2 p3 e3 p4 e4 p5 e5 p6 e6 z w q _ _ _ _ _ _ _ _ _ _ _ _ _ _ _ _ _ _ _ _ 0 0 [] 0 0 [] 0 0 [] (hz kk (by omega)) x1 x2 (hw kk (by omega)) x3 x4 x5 (hq kk (by omega)) (decide_eq_true q0) x6 g1 g2 g3
  by_cases q1 : q = 1
  · obtain ⟨t6, p6, e6, ht6, hk1, hk2, hev6⟩ := ev_known hb p5 e5 (by omega) (by omega)
    obtain ⟨bs, L, hL, hfr, hc⟩ := sm_end_ev (cs := cs) (Pt.app 0 t6 (.lam 0 (.var 0))) ⟨by simp only [Pt.size]; omega, by simp only [Pt.depth]; omega, by simp [Pt.nums, ht6.2.2]⟩ p6 e6
    rcases hc with hc | hc
    · refine ⟨L, p6, e6, by omega, by omega, by omega, ev_fn Go.Proofs.Tryz.f15 499 (by kernel_rfl) (by kernel_rfl) fun kk hk => ?_⟩
      obtain ⟨x1, x2, x3, x4, x5⟩ := hx kk (by omega)
      have g1 := hfr kk (by omega)
      have g2 := hc kk (by omega)
      have x6 := hev6 kk (by omega)
      have x7 := ev_lcVar 0 kk (by omega)
      have x8 := ev_lcLam (.var 0) kk (by omega)
      have x9 := ev_lcApp t6 (.lam 0 (.var 0)) kk (by omega)
      rw [show (Pt.app 0 t6 (.lam 0 (.var 0))).d = T 3 0 [t6.d, T 2 0 [T 1 0 []]] from rfl] at x9 g1
      try rw [show (Pt.app 0 t6 (.lam 0 (.var 0))).d = T 3 0 [t6.d, T 2 0 [T 1 0 []]] from rfl] at g3
      rw [Pt.d_eq t6] at x6 x9 g1
      try rw [Pt.d_eq t6] at g3
      rw [show cellT (Pt.app 0 t6 (.lam 0 (.var 0))) = some [.dat (I 3), .dat (I 0), .dat (.lst false [t6.d, T 2 0 [T 1 0 []]])] from rfl, Pt.d_eq t6] at g2
      rw [show (Pt.app 0 t6 (.lam 0 (.var 0))).kids.map Pt.d = [t6.d, T 2 0 [T 1 0 []]] from rfl, Pt.d_eq t6] at g2
      exact small_b1 kk cs p e p1 e1 p2 e2 p3 e3 p4 e4 p5 e5 p6 e6 z w q _ _ _ _ _ _ _ _ _ _ _ _ _ _ _ _ _ _ _ _ _ _ _ _ _ _ _ _ _ (hz kk (by omega)) x1 x2 (hw kk (by omega)) x3 x4 x5 (hq kk (by omega)) (decide_eq_false q0) (decide_eq_true q1) x6 x7 x8 x9 g1 g2
    · refine ⟨L, p6, e6, by omega, by omega, by omega, ev_fn Go.Proofs.Tryz.f15 499 (by kernel_rfl) (by kernel_rfl) fun kk hk => ?_⟩
      obtain ⟨x1, x2, x3, x4, x5⟩ := hx kk (by omega)
      have g1 := hfr kk (by omega)
      have g2 := (hc kk (by omega)).1
      have g3 := (hc kk (by omega)).2
      have x6 := hev6 kk (by omega)
      have x7 := ev_lcVar 0 kk (by omega)
      have x8 := ev_lcLam (.var 0) kk (by omega)
      have x9 := ev_lcApp t6 (.lam 0 (.var 0)) kk (by omega)
      rw [show (Pt.app 0 t6 (.lam 0 (.var 0))).d = T 3 0 [t6.d, T 2 0 [T 1 0 []]] from rfl] at x9 g1
      try rw [show (Pt.app 0 t6 (.lam 0 (.var 0))).d = T 3 0 [t6.d, T 2 0 [T 1 0 []]] from rfl] at g3
      rw [Pt.d_eq t6] at x6 x9 g1
      try rw [Pt.d_eq t6] at g3
      rw [show cellT (Pt.app 0 t6 (.lam 0 (.var 0))) = some [.dat (I 3), .dat (I 0), .dat (.lst false [t6.d, T 2 0 [T 1 0 []]])] from rfl, Pt.d_eq t6] at g2
      rw [show (Pt.app 0 t6 (.lam 0 (.var 0))).kids.map Pt.d = [t6.d, T 2 0 [T 1 0 []]] from rfl, Pt.d_eq t6] at g2
      exact small_b0 kk cs p e p1 e1 p2 e2 p3 e3 p4 e4 p5 e5 p6 e6 z w q _ _ _ _ _ _ _ _ _ _ _ _ _ _ _ _ _ _ _ _ _ _ _ _ _ _ _ _ _ (hz kk (by omega)) x1 x2 (hw kk (by omega)) x3 x4 x5 (hq kk (by omega)) (decide_eq_false q0) (decide_eq_true q1) x6 x7 x8 x9 g1 g2 g3
  · skip
    obtain ⟨bs, L, hL, hfr, hc⟩ := sm_end_ev (cs := cs) (Pt.app 0 (.lam 0 t1) (.lam 0 t3)) ⟨by simp only [Pt.size]; omega, by simp only [Pt.depth]; omega, by simp [Pt.nums, ht1.nm, ht3.nm]⟩ p5 e5
    rcases hc with hc | hc
    · refine ⟨L, p5, e5, by omega, by omega, by omega, ev_fn Go.Proofs.Tryz.f15 499 (by kernel_rfl) (by kernel_rfl) fun kk hk => ?_⟩
      obtain ⟨x1, x2, x3, x4, x5⟩ := hx kk (by omega)
      have g1 := hfr kk (by omega)
      have g2 := hc kk (by omega)
      rw [show (Pt.app 0 (.lam 0 t1) (.lam 0 t3)).d = T 3 0 [T 2 0 [t1.d], T 2 0 [t3.d]] from rfl, Pt.d_eq t1, Pt.d_eq t3] at g1
      try rw [show (Pt.app 0 (.lam 0 t1) (.lam 0 t3)).d = T 3 0 [T 2 0 [t1.d], T 2 0 [t3.d]] from rfl, Pt.d_eq t1, Pt.d_eq t3] at g3
      rw [show cellT (Pt.app 0 (.lam 0 t1) (.lam 0 t3)) = some [.dat (I 3), .dat (I 0), .dat (.lst false [T 2 0 [t1.d], T 2 0 [t3.d]])] from rfl, show (Pt.app 0 (.lam 0 t1) (.lam 0 t3)).kids.map Pt.d = [T 2 0 [t1.d], T 2 0 [t3.d]] from rfl, Pt.d_eq t1, Pt.d_eq t3] at g2
      exact small_c1 kk cs p e p1 e1 p2 e2 p3 e3 p4 e4 p5 e5 0 0 z w q _ _ _ _ _ _ _ _ _ _ _ _ _ _ _ _ _ 0 0 [] 0 0 [] 0 0 [] 0 0 [] (hz kk (by omega)) x1 x2 (hw kk (by omega)) x3 x4 x5 (hq kk (by omega)) (decide_eq_false q0) (decide_eq_false q1) g1 g2
    · refine ⟨L, p5, e5, by omega, by omega, by omega, ev_fn Go.Proofs.Tryz.f15 499 (by kernel_rfl) (by kernel_rfl) fun kk hk => ?_⟩
      obtain ⟨x1, x2, x3, x4, x5⟩ := hx kk (by omega)
      have g1 := hfr kk (by omega)
      have g2 := (hc kk (by omega)).1
      have g3 := (hc kk (by omega)).2
      rw [show (Pt.app 0 (.lam 0 t1) (.lam 0 t3)).d = T 3 0 [T 2 0 [t1.d], T 2 0 [t3.d]] from rfl, Pt.d_eq t1, Pt.d_eq t3] at g1
      try rw [show (Pt.app 0 (.lam 0 t1) (.lam 0 t3)).d = T 3 0 [T 2 0 [t1.d], T 2 0 [t3.d]] from rfl, Pt.d_eq t1, Pt.d_eq t3] at g3
      rw [show cellT (Pt.app 0 (.lam 0 t1) (.lam 0 t3)) = some [.dat (I 3), .dat (I 0), .dat (.lst false [T 2 0 [t1.d], T 2 0 [t3.d]])] from rfl, show (Pt.app 0 (.lam 0 t1) (.lam 0 t3)).kids.map Pt.d = [T 2 0 [t1.d], T 2 0 [t3.d]] from rfl, Pt.d_eq t1, Pt.d_eq t3] at g2
      exact small_c0 kk cs p e p1 e1 p2 e2 p3 e3 p4 e4 p5 e5 0 0 z w q _ _ _ _ _ _ _ _ _ _ _ _ _ _ _ _ _ 0 0 [] 0 0 [] 0 0 [] 0 0 [] (hz kk (by omega)) x1 x2 (hw kk (by omega)) x3 x4 x5 (hq kk (by omega)) (decide_eq_false q0) (decide_eq_false q1) g1 g2 g3
theorem ev_drawV {cs : List Dat} (hb : Bs cs) : ∃ (L : List Nd) (n : Int), L.length ≤ 1000 ∧ -1 ≤ n ∧ n ≤ 1001 ∧ EvN 501 4 [.dat (.lst false cs)] [] [] ([.own 46 (L.map Nd.d), .dat (I n)], [], []) := by
  obtain ⟨b, p1, e1, ha1, ha2, hev⟩ := ev_one hb 8 0 0 (by omega) (by omega) (by omega)
  cases b
  · obtain ⟨b2, p3, e3, hb1, hb2, hev2⟩ := ev_one hb 4 p1 e1 (by omega) (by omega) (by omega)
    cases b2
    · obtain ⟨L, p4, e4, hL, hc1, hc2, hev3⟩ := ev_small hb p3 e3 (by omega) (by omega)
      exact ⟨L, 40, hL, by omega, by omega, ev_fn Go.Proofs.Tryz.f4 500 (by kernel_rfl) (by kernel_rfl) fun kk hk => drawV_00 kk cs p1 e1 0 0 p3 e3 p4 e4 0 _ (hev kk (by omega)) (hev2 kk (by omega)) (hev3 kk (by omega))⟩
    · obtain ⟨L, p4, e4, hL, hc1, hc2, hev3⟩ := ev_closed hb p3 e3 (by omega) (by omega)
      exact ⟨L, 40, hL, by omega, by omega, ev_fn Go.Proofs.Tryz.f4 500 (by kernel_rfl) (by kernel_rfl) fun kk hk => drawV_01 kk cs p1 e1 0 0 p3 e3 p4 e4 0 _ (hev kk (by omega)) (hev2 kk (by omega)) (hev3 kk (by omega))⟩
  · obtain ⟨v, p2, e2, hv, hd1, hd2, hevv⟩ := ev_among hb true [-1, 0, 1, 2, 1000, 1001] p1 e1 (by omega) (by omega) (by decide)
    have hv2 : -1 ≤ v ∧ v ≤ 1001 := by simp at hv; omega
    obtain ⟨b2, p3, e3, hb1, hb2, hev2⟩ := ev_one hb 4 p2 e2 (by omega) (by omega) (by omega)
    cases b2
    · obtain ⟨L, p4, e4, hL, hc1, hc2, hev3⟩ := ev_small hb p3 e3 (by omega) (by omega)
      exact ⟨L, v, hL, hv2.1, hv2.2, ev_fn Go.Proofs.Tryz.f4 500 (by kernel_rfl) (by kernel_rfl) fun kk hk => drawV_10 kk cs p1 e1 p2 e2 p3 e3 p4 e4 v _ (hev kk (by omega)) (hevv kk (by omega)) (by rw [hb.box p2 e2]; rfl) (hev2 kk (by omega)) (hev3 kk (by omega))⟩
    · obtain ⟨L, p4, e4, hL, hc1, hc2, hev3⟩ := ev_closed hb p3 e3 (by omega) (by omega)
      exact ⟨L, v, hL, hv2.1, hv2.2, ev_fn Go.Proofs.Tryz.f4 500 (by kernel_rfl) (by kernel_rfl) fun kk hk => drawV_11 kk cs p1 e1 p2 e2 p3 e3 p4 e4 v _ (hev kk (by omega)) (hevv kk (by omega)) (by rw [hb.box p2 e2]; rfl) (hev2 kk (by omega)) (hev3 kk (by omega))⟩
end Go.Den
set_option linter.unusedVariables false
namespace Go.Den
namespace Tm
def cps : Tm → Tm
  | .var n => .lam (.app (.var 0) (.var (n + 1)))
  | .lam t => .lam (.app (.var 0) (ren Nat.succ (.lam (cps t))))
  | .app a b => .lam (.app (ren Nat.succ (cps a)) (.lam (.app (ren (fun i => i + 2) (cps b)) (.lam (.app (.app (.var 1) (.var 0)) (.var 2))))))
def psi : Tm → Tm
  | .lam t => .lam (cps t)
  | .var n => .var n
  | .app a b => .app a b
def val : Tm → Prop
  | .app _ _ => False
  | _ => True
theorem ren_up (r : Nat → Nat) (t : Tm) : ren (upr r) (ren Nat.succ t) = ren Nat.succ (ren r t) := by rw [ren_ren, ren_ren]; rfl
theorem ren_up2 (r : Nat → Nat) (t : Tm) : ren (upr (upr r)) (ren (fun i => i + 2) t) = ren (fun i => i + 2) (ren r t) := by rw [ren_ren, ren_ren]; rfl
theorem sb_up (σ : Nat → Tm) (t : Tm) : sb (ups σ) (ren Nat.succ t) = ren Nat.succ (sb σ t) := by rw [sb_ren, ren_sb]; rfl
theorem sb_up2 (σ : Nat → Tm) (t : Tm) : sb (ups (ups σ)) (ren (fun i => i + 2) t) = ren (fun i => i + 2) (sb σ t) := by
  rw [sb_ren, ren_sb]
  refine sb_ext _ fun n => ?_
  show ren Nat.succ (ren Nat.succ (σ n)) = _
  rw [ren_ren]
theorem cps_ren : ∀ (t : Tm) (r : Nat → Nat), ren r (cps t) = cps (ren r t)
  | .var n, r => rfl
  | .lam t, r => by
    show Tm.lam (.app (.var 0) (ren (upr r) (ren Nat.succ (.lam (cps t))))) = .lam (.app (.var 0) (ren Nat.succ (.lam (cps (ren (upr r) t)))))
    rw [ren_up, ← cps_ren t (upr r)]
    rfl
  | .app a b, r => by
    show Tm.lam (.app (ren (upr r) (ren Nat.succ (cps a))) (.lam (.app (ren (upr (upr r)) (ren (fun i => i + 2) (cps b))) _))) = _
    rw [ren_up, ren_up2, cps_ren a, cps_ren b]
    rfl
theorem psi_ren (t : Tm) (r : Nat → Nat) : ren r (psi t) = psi (ren r t) := by
  cases t with
  | var n => rfl
  | lam t => show Tm.lam (ren (upr r) (cps t)) = .lam (cps (ren (upr r) t)); rw [cps_ren]
  | app a b => rfl
theorem ups_psi (σ : Nat → Tm) : ∀ n, ups (fun n => psi (σ n)) n = psi (ups σ n)
  | 0 => rfl
  | n + 1 => psi_ren _ _
theorem val_ren {t : Tm} (h : val t) (r : Nat → Nat) : val (ren r t) := by cases t <;> first | trivial | exact h.elim
theorem cps_sb : ∀ (t : Tm) (σ : Nat → Tm), (∀ n, val (σ n)) → sb (fun n => psi (σ n)) (cps t) = cps (sb σ t)
  | .var n, σ, h => by
    show Tm.lam (.app (.var 0) (ren Nat.succ (psi (σ n)))) = cps (σ n)
    have := h n
    cases hs : σ n with
    | var m => rfl
    | lam m => rfl
    | app a b => rw [hs] at this; exact this.elim
  | .lam t, σ, h => by
    show Tm.lam (.app (.var 0) (sb (ups fun n => psi (σ n)) (ren Nat.succ (.lam (cps t))))) = .lam (.app (.var 0) (ren Nat.succ (.lam (cps (sb (ups σ) t)))))
    rw [sb_up, ← cps_sb t (ups σ) (fun n => by cases n with | zero => trivial | succ n => exact val_ren (h n) _)]
    show Tm.lam (.app (.var 0) (ren Nat.succ (.lam (sb (ups fun n => psi (σ n)) (cps t))))) = _
    rw [sb_ext (cps t) (ups_psi σ)]
  | .app a b, σ, h => by
    show Tm.lam (.app (sb (ups fun n => psi (σ n)) (ren Nat.succ (cps a))) (.lam (.app (sb (ups (ups fun n => psi (σ n))) (ren (fun i => i + 2) (cps b))) _))) = _
    rw [sb_up, sb_up2, cps_sb a σ h, cps_sb b σ h]
    rfl
theorem inst_val (v t : Tm) (h : val v) : sb (inst (psi v)) (cps t) = cps (sb (inst v) t) := by
  rw [← cps_sb t (inst v) (fun n => by cases n with | zero => exact h | succ n => trivial)]
  exact sb_ext _ fun n => by cases n <;> rfl
theorem inst_succ (s t : Tm) : sb (inst s) (ren Nat.succ t) = t := by
  rw [sb_ren]
  exact sb_id _ fun n => rfl
/-- Whether it is a lambda. -/
def isLam : Tm → Bool
  | .lam _ => true
  | _ => false
/-- One step, by value or by name. -/
def tstep (v : Bool) : Tm → Option Tm
  | .var _ => none
  | .lam _ => none
  | .app x y => match x with
    | .lam b => if v = true ∧ y.isLam = false then (tstep v y).map (.app (.lam b)) else some (sb (inst y) b)
    | .var n => none
    | .app a b => (tstep v (.app a b)).map fun z => .app z y
/-- Below k. -/
def cls : Nat → Tm → Prop
  | k, .var n => n < k
  | k, .lam t => cls (k + 1) t
  | k, .app a b => cls k a ∧ cls k b
/-- What is to be done then. -/
inductive Then : Tm → Prop
  | id : Then (.lam (.var 0))
  | k1 (q : Tm) (k : Tm) : cls 0 q → Then k → Then (.lam (.app (ren Nat.succ (cps q)) (.lam (.app (.app (.var 1) (.var 0)) (ren Nat.succ (ren Nat.succ k))))))
  | k2 (p : Tm) (k : Tm) : cls 1 p → Then k → Then (.lam (.app (.app (ren Nat.succ (.lam (cps p))) (.var 0)) (ren Nat.succ k)))
/-- The forms that a passed term comes through. -/
inductive PInv : Tm → Prop
  | s1 (m k : Tm) : cls 0 m → Then k → PInv (.app (cps m) k)
  | s2 (p k : Tm) : cls 1 p → Then k → PInv (.app k (.lam (cps p)))
  | s3 (p v k : Tm) : cls 1 p → cls 1 v → Then k → PInv (.app (.app (.lam (cps p)) (.lam (cps v))) k)
  | fin (p : Tm) : PInv (.lam (cps p))
theorem step_lam (b y : Tm) : tstep false (.app (.lam b) y) = some (sb (inst y) b) := by simp [tstep]
theorem s1_lam (p k : Tm) : tstep false (.app (cps (.lam p)) k) = some (.app k (.lam (cps p))) := by
  rw [cps, step_lam]
  show some (Tm.app k (sb (inst k) (ren Nat.succ (.lam (cps p))))) = _
  rw [inst_succ]
theorem s1_app (p q k : Tm) : tstep false (.app (cps (.app p q)) k) = some (.app (cps p) (.lam (.app (ren Nat.succ (cps q)) (.lam (.app (.app (.var 1) (.var 0)) (ren Nat.succ (ren Nat.succ k))))))) := by
  rw [cps, step_lam]
  have h : sb (ups (inst k)) (ren (fun i => i + 2) (cps q)) = ren Nat.succ (cps q) := by
    rw [sb_ren, ren_as_sb]
    exact sb_ext _ fun n => rfl
  show some (Tm.app (sb (inst k) (ren Nat.succ (cps p))) (.lam (.app (sb (ups (inst k)) (ren (fun i => i + 2) (cps q))) _))) = _
  rw [inst_succ, h]
  rfl
theorem s2_k1 (p q k : Tm) : tstep false (.app (.lam (.app (ren Nat.succ (cps q)) (.lam (.app (.app (.var 1) (.var 0)) (ren Nat.succ (ren Nat.succ k)))))) (.lam (cps p))) = some (.app (cps q) (.lam (.app (.app (ren Nat.succ (.lam (cps p))) (.var 0)) (ren Nat.succ k)))) := by
  rw [step_lam]
  show some (Tm.app (sb (inst (.lam (cps p))) (ren Nat.succ (cps q))) (.lam (.app (.app (ren Nat.succ (.lam (cps p))) (.var 0)) (sb (ups (inst (.lam (cps p)))) (ren Nat.succ (ren Nat.succ k)))))) = _
  rw [inst_succ, sb_up, inst_succ]
theorem s2_k2 (p v k : Tm) : tstep false (.app (.lam (.app (.app (ren Nat.succ (.lam (cps p))) (.var 0)) (ren Nat.succ k))) (.lam (cps v))) = some (.app (.app (.lam (cps p)) (.lam (cps v))) k) := by
  rw [step_lam]
  show some (Tm.app (.app (sb (inst (.lam (cps v))) (ren Nat.succ (.lam (cps p)))) (.lam (cps v))) (sb (inst (.lam (cps v))) (ren Nat.succ k))) = _
  rw [inst_succ, inst_succ]
theorem s3_step (p v k : Tm) : tstep false (.app (.app (.lam (cps p)) (.lam (cps v))) k) = some (.app (cps (sb (inst (.lam v)) p)) k) := by
  have h := step_lam (cps p) (.lam (cps v))
  have h2 : tstep false (.app (.app (.lam (cps p)) (.lam (cps v))) k) = (tstep false (.app (.lam (cps p)) (.lam (cps v)))).map fun z => .app z k := by
    simp only [tstep]
  rw [h2, h]
  show some (Tm.app (sb (inst (psi (.lam v))) (cps p)) k) = _
  rw [inst_val (.lam v) p trivial]
inductive ValOf : Tm → Tm → Prop
  | lam (b : Tm) : ValOf (.lam b) (.lam b)
  | app {x y b v w : Tm} : ValOf x (.lam b) → ValOf y (.lam v) → ValOf (sb (inst (.lam v)) b) w → ValOf (.app x y) w
/-- A step ahead of it. -/
theorem ValOf.step : ∀ {t u v : Tm}, tstep true t = some u → ValOf u v → ValOf t v
  | .var n, u, v, h, hb => by simp [tstep] at h
  | .lam t, u, v, h, hb => by simp [tstep] at h
  | .app x y, u, v, h, hb => by
    cases x with
    | var n => simp [tstep] at h
    | lam b =>
      simp only [tstep] at h
      split at h
      · obtain ⟨y', hy, rfl⟩ := Option.map_eq_some_iff.1 h
        cases hb with
        | app h1 h2 h3 => exact .app h1 (ValOf.step hy h2) h3
      · rename_i hn
        cases h
        cases y with
        | lam w => exact .app (.lam b) (.lam w) hb
        | var n => exact absurd ⟨trivial, rfl⟩ hn
        | app a c => exact absurd ⟨trivial, rfl⟩ hn
    | app a b =>
      simp only [tstep] at h
      obtain ⟨z, hz, rfl⟩ := Option.map_eq_some_iff.1 h
      cases hb with
      | app h1 h2 h3 => exact .app (ValOf.step (t := .app a b) hz h1) h2 h3
/-- NSteps by name. -/
inductive NSteps : Tm → Tm → Prop
  | nil (t : Tm) : NSteps t t
  | cons {t u w : Tm} : tstep false t = some u → NSteps u w → NSteps t w
theorem NSteps.trans {a b c : Tm} (h1 : NSteps a b) (h2 : NSteps b c) : NSteps a c := by
  induction h1 with
  | nil => exact h2
  | cons h _ ih => exact .cons h (ih h2)
theorem NSteps.end_eq {a b c : Tm} (h1 : NSteps a b) (h2 : NSteps a c) (hb : tstep false b = none) (hc : tstep false c = none) : b = c := by
  induction h1 with
  | nil t =>
    cases h2 with
    | nil => rfl
    | cons h _ => rw [hb] at h; cases h
  | cons h _ ih =>
    cases h2 with
    | nil => rw [hc] at h; cases h
    | cons h' h2 => rw [h] at h'; cases h'; exact ih h2 hb
/-- Plotkin's simulation. -/
theorem simulate {t w : Tm} (h : ValOf t w) : ∀ k : Tm, NSteps (.app (cps t) k) (.app k (psi w)) := by
  induction h with
  | lam b => exact fun k => .cons (s1_lam b k) (.nil _)
  | @app x y b v w h1 h2 h3 ih1 ih2 ih3 =>
    intro k
    refine .cons (s1_app x y k) ((ih1 _).trans (.cons (s2_k1 b y k) ((ih2 _).trans (.cons (s2_k2 b v k) (.cons (s3_step b v k) (ih3 k))))))
end Tm
end Go.Den
namespace Go.Den
open Tm
set_option linter.unusedVariables false
theorem mv_1 : ∀ i, mv 1 0 i = Nat.succ i := fun i => by simp [mv]
theorem mv_2 : ∀ i, mv 2 0 i = i + 2 := fun i => by simp [mv]
theorem pass_tm : ∀ t : Pt, t.nn → (passT t).tm = cps t.tm ∧ (passT t).nn
  | .var n, h => by
    have h : 0 ≤ n := h
    refine ⟨?_, ?_⟩
    · show Tm.lam (.app (.var 0) (.var (n + 1).toNat)) = Tm.lam (.app (.var 0) (.var (n.toNat + 1)))
      rw [show (n + 1).toNat = n.toNat + 1 by omega]
    · exact ⟨Int.le_refl 0, show (0 : Int) ≤ n + 1 by omega⟩
  | .lam n x, h => by
    obtain ⟨h1, h2⟩ := pass_tm x h
    obtain ⟨h3, h4⟩ := tm_sh 1 (.lam 0 (passT x)) 0 h2
    have h3 : (sh 1 0 (.lam 0 (passT x))).tm = ren (mv 1 0) (.lam (passT x).tm) := h3
    refine ⟨?_, ?_⟩
    · show Tm.lam (.app (.var 0) (sh 1 0 (.lam 0 (passT x))).tm) = .lam (.app (.var 0) (ren Nat.succ (.lam (cps x.tm))))
      rw [h3, h1, ren_ext _ mv_1]
    · exact ⟨Int.le_refl 0, h4⟩
  | .app n x y, h => by
    obtain ⟨h1, h2⟩ := pass_tm x h.1
    obtain ⟨h3, h4⟩ := pass_tm y h.2
    obtain ⟨h5, h6⟩ := tm_sh 1 (passT x) 0 h2
    obtain ⟨h7, h8⟩ := tm_sh 2 (passT y) 0 h4
    have h5 : (sh 1 0 (passT x)).tm = ren (mv 1 0) (passT x).tm := h5
    have h7 : (sh 2 0 (passT y)).tm = ren (mv 2 0) (passT y).tm := h7
    refine ⟨?_, ?_⟩
    · show Tm.lam (.app (sh 1 0 (passT x)).tm (.lam (.app (sh 2 0 (passT y)).tm (.lam (.app (.app (.var 1) (.var 0)) (.var 2)))))) = _
      rw [h5, h7, h1, h3, ren_ext _ mv_1, ren_ext _ mv_2]
      rfl
    · exact ⟨h6, h8, ⟨show (0 : Int) ≤ 1 by omega, show (0 : Int) ≤ 0 by omega⟩, show (0 : Int) ≤ 2 by omega⟩
theorem kd_isLam (t : Pt) : t.kd = 2 ↔ t.tm.isLam = true := by
  cases t <;> simp [Pt.kd, Pt.tm, Tm.isLam]
theorem nx_step (v : Bool) : ∀ t : Pt, t.nn → (nx v t = none → tstep v t.tm = none) ∧ ∀ r, nx v t = some r → tstep v t.tm = some (red t r).tm ∧ (red t r).nn
  | .var n, h => ⟨fun _ => rfl, fun r hr => by cases hr⟩
  | .lam n x, h => ⟨fun _ => rfl, fun r hr => by cases hr⟩
  | .app n x y, h => by
    obtain ⟨x1, x2⟩ := nx_step v x h.1
    obtain ⟨y1, y2⟩ := nx_step v y h.2
    have hx := nx_rx v x
    have hy := nx_rx v y
    cases x with
    | var m =>
      refine ⟨fun _ => rfl, fun r hr => ?_⟩
      simp [nx, Pt.kd] at hr
    | app m a b =>
      have hnx : nx v (.app n (.app m a b) y) = (nx v (.app m a b)).map (1 + ·) := by rw [nx]; exact if_pos (by simp [Pt.kd])
      have hst : tstep v (Pt.app n (.app m a b) y).tm = (tstep v (Pt.app m a b).tm).map fun z => .app z y.tm := by simp only [Pt.tm]; rw [tstep]
      rw [hnx, hst]
      refine ⟨fun hn => ?_, fun r hr => ?_⟩
      · rw [x1 (Option.map_eq_none_iff.1 hn)]; rfl
      · obtain ⟨q, hq, rfl⟩ := Option.map_eq_some_iff.1 hr
        obtain ⟨h1, h2⟩ := x2 q hq
        have h3 := (hx q hq).2
        rw [h1, show 1 + q = q + 1 by omega]
        have hred : red (.app n (.app m a b) y) (q + 1) = .app n (red (.app m a b) q) y := by rw [red]; exact if_pos h3
        rw [hred]
        exact ⟨rfl, h2, h.2⟩
    | lam m b =>
      by_cases hv : v = true ∧ y.kd ≠ 2
      · have hnx : nx v (.app n (.lam m b) y) = (nx v y).map (1 + (Pt.lam m b).size + ·) := by rw [nx]; rw [if_neg (by simp [Pt.kd]), if_pos hv]
        have hyl : y.tm.isLam = false := by
          cases hh : y.tm.isLam with
          | false => rfl
          | true => exact absurd ((kd_isLam y).2 hh) hv.2
        have hst : tstep v (Pt.app n (.lam m b) y).tm = (tstep v y.tm).map (Tm.app (.lam b.tm)) := by
          simp only [Pt.tm]; rw [tstep]; exact if_pos ⟨hv.1, hyl⟩
        rw [hnx, hst]
        refine ⟨fun hn => ?_, fun r hr => ?_⟩
        · rw [y1 (Option.map_eq_none_iff.1 hn)]; rfl
        · obtain ⟨q, hq, rfl⟩ := Option.map_eq_some_iff.1 hr
          obtain ⟨h1, h2⟩ := y2 q hq
          rw [h1, show 1 + (Pt.lam m b).size + q = ((Pt.lam m b).size + q) + 1 by omega]
          have hred : red (.app n (.lam m b) y) (((Pt.lam m b).size + q) + 1) = .app n (.lam m b) (red y q) := by
            rw [red, if_neg (by omega), show (Pt.lam m b).size + q - (Pt.lam m b).size = q by omega]
          rw [hred]
          exact ⟨rfl, h.1, h2⟩
      · have hnx : nx v (.app n (.lam m b) y) = some 0 := by rw [nx]; rw [if_neg (by simp [Pt.kd]), if_neg hv]
        have hst : tstep v (Pt.app n (.lam m b) y).tm = some (sb (inst y.tm) b.tm) := by
          simp only [Pt.tm]; rw [tstep]; refine if_neg fun hh => hv ⟨hh.1, fun h2 => ?_⟩
          have := (kd_isLam y).1 h2
          rw [this] at hh
          exact absurd hh.2 (by decide)
        rw [hnx, hst]
        refine ⟨fun hn => (by cases hn), fun r hr => ?_⟩
        cases hr
        obtain ⟨h1, h2⟩ := tm_beta (x := b) (y := y) h.1 h.2
        have hred : red (.app n (.lam m b) y) 0 = sub 0 y 0 b := by rw [red]; rfl
        rw [hred, h1]
        exact ⟨rfl, h2⟩
theorem cls_tm : ∀ (t : Pt) (a : Nat), t.nn → fv t a = [] → cls a t.tm
  | .var n, a, h, hf => by
    have h : 0 ≤ n := h
    show n.toNat < a
    simp only [fv] at hf
    split at hf
    · cases hf
    · omega
  | .lam n x, a, h, hf => cls_tm x (a + 1) h hf
  | .app n x y, a, h, hf => by
    have := closed_app.1 hf
    exact ⟨cls_tm x a h.1 this.1, cls_tm y a h.2 this.2⟩
theorem whole_inv {t : Pt} (hn : t.nn) (hf : fv t 0 = []) : PInv (whole t).tm ∧ (whole t).nn ∧ (whole t).tm = .app (cps t.tm) (.lam (.var 0)) := by
  obtain ⟨h1, h2⟩ := pass_tm t hn
  have h3 : (whole t).tm = .app (cps t.tm) (.lam (.var 0)) := by
    show Tm.app (passT t).tm (.lam (.var 0)) = _
    rw [h1]
  refine ⟨?_, ⟨h2, Int.le_refl 0⟩, h3⟩
  rw [h3]
  exact .s1 _ _ (cls_tm t 0 hn hf) .id
/-- What a run comes to. -/
theorem goOn_steps : ∀ (f : Nat) (s : Pt) (q : Pt × Nat), s.nn → goOnP (nx false) f s = some q → NSteps s.tm q.1.tm ∧ tstep false q.1.tm = none
  | 0, s, q, hn, h => by
    unfold goOnP at h
    split at h
    · rename_i h0
      cases h
      exact ⟨.nil _, (nx_step false s hn).1 h0⟩
    · cases h
  | f + 1, s, q, hn, h => by
    unfold goOnP at h
    split at h
    · rename_i h0
      cases h
      exact ⟨.nil _, (nx_step false s hn).1 h0⟩
    · rename_i r hr
      split at h
      · obtain ⟨p, hp, rfl⟩ := Option.map_eq_some_iff.1 h
        obtain ⟨h1, h2⟩ := (nx_step false s hn).2 r hr
        obtain ⟨h3, h4⟩ := goOn_steps f (red s r) p h2 hp
        exact ⟨.cons h1 h3, h4⟩
      · cases h
theorem goOn_big : ∀ (f : Nat) (s : Pt) (q : Pt × Nat), s.nn → goOnP (nx true) f s = some q → q.1.tm.isLam = true → ValOf s.tm q.1.tm
  | 0, s, q, hn, h, hl => by
    unfold goOnP at h
    split at h
    · cases h
      cases hs : s.tm with
      | lam b => exact .lam b
      | var n => rw [hs] at hl; cases hl
      | app a b => rw [hs] at hl; cases hl
    · cases h
  | f + 1, s, q, hn, h, hl => by
    unfold goOnP at h
    split at h
    · cases h
      cases hs : s.tm with
      | lam b => exact .lam b
      | var n => rw [hs] at hl; cases hl
      | app a b => rw [hs] at hl; cases hl
    · rename_i r hr
      split at h
      · obtain ⟨p, hp, rfl⟩ := Option.map_eq_some_iff.1 h
        obtain ⟨h1, h2⟩ := (nx_step true s hn).2 r hr
        exact ValOf.step h1 (goOn_big f (red s r) p h2 hp hl)
      · cases h
/-- Run by name, a passed term comes to the translation of what the term comes to by value. -/
theorem plotkin {t : Pt} {f g : Nat} {q p : Pt × Nat} (hn : t.nn) (hf : fv t 0 = []) (h1 : goOnP (nx true) f t = some q) (h2 : goOnP (nx false) g (whole t) = some p) (hl : q.1.tm.isLam = true) : p.1.tm = psi q.1.tm := by
  obtain ⟨_, hw, he⟩ := whole_inv hn hf
  obtain ⟨h3, h4⟩ := goOn_steps g (whole t) p hw h2
  have h5 := simulate (goOn_big f t q hn h1 hl) (.lam (.var 0))
  rw [he] at h3
  have h6 : NSteps (.app (cps t.tm) (.lam (.var 0))) (psi q.1.tm) := h5.trans (.cons (step_lam _ _) (.nil _))
  refine h3.end_eq h6 h4 ?_
  cases hs : q.1.tm with
  | lam b => rfl
  | var n => rw [hs] at hl; cases hl
  | app a b => rw [hs] at hl; cases hl
end Go.Den
namespace Go.Den
open Go
set_option linter.unusedVariables false
set_option maxRecDepth 100000
theorem fnPl_big (kk : Nat) (cs : List Dat) (h1 : decide (1048576 < (cs.length : Int)) = true) : runFn cfg kk (den cfg kk) 3 Go.Proofs.Tryz.f3 [.dat (Dat.lst false cs)] [] [] = some ([D.dat (B true)], [], []) :=
  hrun_ok [(200019, .yes)] (ob h1 ob0) (by kernel_rfl)
theorem fnPl_no (kk : Nat) (cs ls vs rs ps : List Dat) (fu c : Int) (b2 : Bool) (h1 : decide (1048576 < (cs.length : Int)) = false) (h2 : den cfg kk 4 [D.dat (Dat.lst false cs)] [] [] = some ([D.own 46 ls, D.dat (I fu)], [], [])) (h4 : den cfg kk 5 [D.dat (Dat.lst true ls), D.dat (I fu)] [] [] = some ([D.own 46 [], D.dat (I c), D.dat (B false)], [], [])) (h6 : den cfg kk 6 [D.dat (Dat.lst true ls), D.dat (I fu)] [] [] = some ([D.own 46 [], D.dat (I c), D.dat (B false)], [], [])) (h10 : (!decide (c = c)) = false) (h14 : den cfg kk 7 [D.dat (Dat.lst true []), D.dat (Dat.lst true [])] [] [] = some ([D.dat (B true)], [], [])) : runFn cfg kk (den cfg kk) 3 Go.Proofs.Tryz.f3 [.dat (Dat.lst false cs)] [] [] = some ([D.dat (B true)], [], []) :=
  hrun_ok [(200019, .no), (22, .ret [.own 46 ls, .dat (I fu)]), (28, .ret [.own 46 [], .dat (I c), .dat (B false)]), (35, .ret [.own 46 [], .dat (I c), .dat (B false)]), (200042, .no), (200047, .no), (50, .ret [.dat (B true)]), (200052, .no)] (ob h1 (ob h2 (ob (rfl : true = true) (ob h4 (ob (rfl : true = true) (ob h6 (ob (rfl : false = false) (ob (rfl : false = false) (ob (rfl : false = false) (ob h10 (ob (rfl : false = false) (ob (rfl : false = false) (ob (rfl : true = true) (ob h14 (ob (rfl : false = false) (ob (rfl : false = false) ob0)))))))))))))))) (by kernel_rfl)
theorem fnPl_1 (kk : Nat) (cs ls vs rs ps : List Dat) (fu c : Int) (b2 : Bool) (h1 : decide (1048576 < (cs.length : Int)) = false) (h2 : den cfg kk 4 [D.dat (Dat.lst false cs)] [] [] = some ([D.own 46 ls, D.dat (I fu)], [], [])) (h3 : D.cleans [D.own 46 vs, D.dat (I c), D.dat (B true)] = true) (h4 : den cfg kk 5 [D.dat (Dat.lst true ls), D.dat (I fu)] [] [] = some ([D.own 46 vs, D.dat (I c), D.dat (B true)], [], [])) (h5 : D.cleans [D.own 46 vs, D.dat (I c), D.dat (B true)] = true) (h6 : den cfg kk 6 [D.dat (Dat.lst true ls), D.dat (I fu)] [] [] = some ([D.own 46 vs, D.dat (I c), D.dat (B true)], [], [])) (h10 : (!decide (c = c)) = false) (h14 : den cfg kk 7 [D.dat (Dat.lst true vs), D.dat (Dat.lst true vs)] [] [] = some ([D.dat (B true)], [], [])) (h19 : den cfg kk 8 [D.dat (Dat.lst true vs)] [] [] = some ([D.dat (B true)], [], [])) (h20 : D.cleans [D.own 46 rs, D.dat (B false)] = true) (h21 : den cfg kk 9 [D.dat (Dat.lst true ls), D.dat (I 400)] [] [] = some ([D.own 46 rs, D.dat (B false)], [], [])) (h22 : D.cleans [D.own 46 rs, D.dat (B false)] = true) (h23 : den cfg kk 10 [D.dat (Dat.lst true ls), D.dat (I 400)] [] [] = some ([D.own 46 rs, D.dat (B false)], [], [])) (h24 : D.cleans [D.own 46 ps, D.dat (B b2)] = true) (h25 : den cfg kk 11 [D.dat (Dat.lst true vs)] [] [] = some ([D.own 46 ps, D.dat (B b2)], [], [])) : runFn cfg kk (den cfg kk) 3 Go.Proofs.Tryz.f3 [.dat (Dat.lst false cs)] [] [] = some ([D.dat (B true)], [], []) :=
  hrun_ok [(200019, .no), (22, .ret [.own 46 ls, .dat (I fu)]), (28, .ret [.own 46 vs, .dat (I c), .dat (B true)]), (35, .ret [.own 46 vs, .dat (I c), .dat (B true)]), (200042, .no), (200047, .no), (50, .ret [.dat (B true)]), (200052, .no), (200054, .no), (59, .ret [.dat (B true)]), (63, .ret [.own 46 rs, .dat (B false)]), (68, .ret [.own 46 rs, .dat (B false)]), (73, .ret [.own 46 ps, .dat (B b2)]), (200081, .yes), (200085, .yes)] (ob h1 (ob h2 (ob h3 (ob h4 (ob h5 (ob h6 (ob (rfl : false = false) (ob (rfl : false = false) (ob (rfl : false = false) (ob h10 (ob (rfl : false = false) (ob (rfl : false = false) (ob (rfl : true = true) (ob h14 (ob (rfl : false = false) (ob (rfl : false = false) (ob (rfl : false = false) (ob (rfl : true = true) (ob h19 (ob h20 (ob h21 (ob h22 (ob h23 (ob h24 (ob h25 (ob (rfl : true = true) (ob (rfl : true = true) (ob (rfl : true = true) (ob (rfl : true = true) (ob (rfl : true = true) ob0)))))))))))))))))))))))))))))) (by kernel_rfl)
theorem fnPl_2 (kk : Nat) (cs ls vs rs ps : List Dat) (fu c : Int) (b2 : Bool) (h1 : decide (1048576 < (cs.length : Int)) = false) (h2 : den cfg kk 4 [D.dat (Dat.lst false cs)] [] [] = some ([D.own 46 ls, D.dat (I fu)], [], [])) (h3 : D.cleans [D.own 46 vs, D.dat (I c), D.dat (B true)] = true) (h4 : den cfg kk 5 [D.dat (Dat.lst true ls), D.dat (I fu)] [] [] = some ([D.own 46 vs, D.dat (I c), D.dat (B true)], [], [])) (h5 : D.cleans [D.own 46 vs, D.dat (I c), D.dat (B true)] = true) (h6 : den cfg kk 6 [D.dat (Dat.lst true ls), D.dat (I fu)] [] [] = some ([D.own 46 vs, D.dat (I c), D.dat (B true)], [], [])) (h10 : (!decide (c = c)) = false) (h14 : den cfg kk 7 [D.dat (Dat.lst true vs), D.dat (Dat.lst true vs)] [] [] = some ([D.dat (B true)], [], [])) (h19 : den cfg kk 8 [D.dat (Dat.lst true vs)] [] [] = some ([D.dat (B true)], [], [])) (h20 : D.cleans [D.own 46 rs, D.dat (B true)] = true) (h21 : den cfg kk 9 [D.dat (Dat.lst true ls), D.dat (I 400)] [] [] = some ([D.own 46 rs, D.dat (B true)], [], [])) (h22 : D.cleans [D.own 46 rs, D.dat (B true)] = true) (h23 : den cfg kk 10 [D.dat (Dat.lst true ls), D.dat (I 400)] [] [] = some ([D.own 46 rs, D.dat (B true)], [], [])) (h24 : D.cleans [D.own 46 ps, D.dat (B false)] = true) (h25 : den cfg kk 11 [D.dat (Dat.lst true vs)] [] [] = some ([D.own 46 ps, D.dat (B false)], [], [])) : runFn cfg kk (den cfg kk) 3 Go.Proofs.Tryz.f3 [.dat (Dat.lst false cs)] [] [] = some ([D.dat (B true)], [], []) :=
  hrun_ok [(200019, .no), (22, .ret [.own 46 ls, .dat (I fu)]), (28, .ret [.own 46 vs, .dat (I c), .dat (B true)]), (35, .ret [.own 46 vs, .dat (I c), .dat (B true)]), (200042, .no), (200047, .no), (50, .ret [.dat (B true)]), (200052, .no), (200054, .no), (59, .ret [.dat (B true)]), (63, .ret [.own 46 rs, .dat (B true)]), (68, .ret [.own 46 rs, .dat (B true)]), (73, .ret [.own 46 ps, .dat (B false)]), (200081, .no), (200085, .yes)] (ob h1 (ob h2 (ob h3 (ob h4 (ob h5 (ob h6 (ob (rfl : false = false) (ob (rfl : false = false) (ob (rfl : false = false) (ob h10 (ob (rfl : false = false) (ob (rfl : false = false) (ob (rfl : true = true) (ob h14 (ob (rfl : false = false) (ob (rfl : false = false) (ob (rfl : false = false) (ob (rfl : true = true) (ob h19 (ob h20 (ob h21 (ob h22 (ob h23 (ob h24 (ob h25 (ob (rfl : false = false) (ob (rfl : false = false) (ob (rfl : true = true) (ob (rfl : true = true) (ob (rfl : true = true) ob0)))))))))))))))))))))))))))))) (by kernel_rfl)
theorem fnPl_3 (kk : Nat) (cs ls vs rs ps : List Dat) (fu c : Int) (b2 : Bool) (h1 : decide (1048576 < (cs.length : Int)) = false) (h2 : den cfg kk 4 [D.dat (Dat.lst false cs)] [] [] = some ([D.own 46 ls, D.dat (I fu)], [], [])) (h3 : D.cleans [D.own 46 vs, D.dat (I c), D.dat (B true)] = true) (h4 : den cfg kk 5 [D.dat (Dat.lst true ls), D.dat (I fu)] [] [] = some ([D.own 46 vs, D.dat (I c), D.dat (B true)], [], [])) (h5 : D.cleans [D.own 46 vs, D.dat (I c), D.dat (B true)] = true) (h6 : den cfg kk 6 [D.dat (Dat.lst true ls), D.dat (I fu)] [] [] = some ([D.own 46 vs, D.dat (I c), D.dat (B true)], [], [])) (h10 : (!decide (c = c)) = false) (h14 : den cfg kk 7 [D.dat (Dat.lst true vs), D.dat (Dat.lst true vs)] [] [] = some ([D.dat (B true)], [], [])) (h19 : den cfg kk 8 [D.dat (Dat.lst true vs)] [] [] = some ([D.dat (B true)], [], [])) (h20 : D.cleans [D.own 46 rs, D.dat (B true)] = true) (h21 : den cfg kk 9 [D.dat (Dat.lst true ls), D.dat (I 400)] [] [] = some ([D.own 46 rs, D.dat (B true)], [], [])) (h22 : D.cleans [D.own 46 rs, D.dat (B true)] = true) (h23 : den cfg kk 10 [D.dat (Dat.lst true ls), D.dat (I 400)] [] [] = some ([D.own 46 rs, D.dat (B true)], [], [])) (h24 : D.cleans [D.own 46 ps, D.dat (B true)] = true) (h25 : den cfg kk 11 [D.dat (Dat.lst true vs)] [] [] = some ([D.own 46 ps, D.dat (B true)], [], [])) (h32 : den cfg kk 7 [D.dat (Dat.lst true rs), D.dat (Dat.lst true ps)] [] [] = some ([D.dat (B true)], [], [])) : runFn cfg kk (den cfg kk) 3 Go.Proofs.Tryz.f3 [.dat (Dat.lst false cs)] [] [] = some ([D.dat (B true)], [], []) :=
  hrun_ok [(200019, .no), (22, .ret [.own 46 ls, .dat (I fu)]), (28, .ret [.own 46 vs, .dat (I c), .dat (B true)]), (35, .ret [.own 46 vs, .dat (I c), .dat (B true)]), (200042, .no), (200047, .no), (50, .ret [.dat (B true)]), (200052, .no), (200054, .no), (59, .ret [.dat (B true)]), (63, .ret [.own 46 rs, .dat (B true)]), (68, .ret [.own 46 rs, .dat (B true)]), (73, .ret [.own 46 ps, .dat (B true)]), (200081, .no), (200085, .no), (88, .ret [.dat (B true)])] (ob h1 (ob h2 (ob h3 (ob h4 (ob h5 (ob h6 (ob (rfl : false = false) (ob (rfl : false = false) (ob (rfl : false = false) (ob h10 (ob (rfl : false = false) (ob (rfl : false = false) (ob (rfl : true = true) (ob h14 (ob (rfl : false = false) (ob (rfl : false = false) (ob (rfl : false = false) (ob (rfl : true = true) (ob h19 (ob h20 (ob h21 (ob h22 (ob h23 (ob h24 (ob h25 (ob (rfl : false = false) (ob (rfl : false = false) (ob (rfl : false = false) (ob (rfl : false = false) (ob (rfl : false = false) (ob (rfl : true = true) (ob h32 ob0)))))))))))))))))))))))))))))))) (by kernel_rfl)
end Go.Den
namespace Go.Den
open Go
set_option linter.unusedVariables false
set_option maxRecDepth 100000
theorem pl_gone (v : Bool) (L : List Nd) (f : Int) : clN v L f = ([], 0, false) ∨ ∃ t q, closedOfP L = some t ∧ goOnP (nx v) f.toNat t = some q ∧ clN v L f = (q.1.flat 0 (-1), q.2, true) := by
  unfold clN
  cases h1 : closedOfP L with
  | none => exact .inl rfl
  | some t =>
    simp only
    unfold goneN
    rw [(closedOfP_some h1).1]
    simp only
    split
    · cases h2 : goOnP (nx v) f.toNat t with
      | none => exact .inl rfl
      | some q => exact .inr ⟨t, q, rfl, h2, rfl⟩
    · exact .inl rfl
theorem pl_end (v : Bool) : ∀ (f : Nat) (t : Pt) (q : Pt × Nat), fv t 0 = [] → goOnP (nx v) f t = some q → fv q.1 0 = [] ∧ nx v q.1 = none
  | 0, t, q, hc, h => by
    unfold goOnP at h
    split at h
    · rename_i h0; cases h; exact ⟨hc, h0⟩
    · cases h
  | f + 1, t, q, hc, h => by
    unfold goOnP at h
    split at h
    · rename_i h0; cases h; exact ⟨hc, h0⟩
    · rename_i r hr
      split at h
      · obtain ⟨p, hp, rfl⟩ := Option.map_eq_some_iff.1 h
        exact pl_end v f (red t r) p (nx_closed v t r hc hr) hp
      · cases h
theorem pl_told (t : Pt) : told t = ([], false) ∨ (t.good = true ∧ told t = (t.flat 0 (-1), true)) := by
  unfold told
  cases h : t.good with
  | false => exact .inl (by simp)
  | true => exact .inr ⟨rfl, by simp⟩
theorem pl_closed {t : Pt} (h : closedP t = true) : fv t 0 = [] := by
  unfold closedP at h
  exact List.isEmpty_iff.1 h
theorem pl_run (t : Pt) (f : Int) : (runT t f).2 = false ∨ ∃ p, goOnP (nx false) f.toNat (whole t) = some p ∧ (whole t).good = true ∧ runT t f = (p.1.flat 0 (-1), true) := by
  unfold runT
  split
  · split
    · rename_i hw
      split
      · cases h : goOnP (nx false) f.toNat (whole t) with
        | none => exact .inl rfl
        | some p => exact .inr ⟨p, rfl, hw, rfl⟩
      · exact .inl rfl
    · exact .inl rfl
  · exact .inl rfl
theorem fnPlotkin_den : ∀ (d0 : Dat), WT cfg.ty 22 d0 → ∃ k, den cfg k 3 [.dat d0] [] [] = some ([.dat (.val (.bool true))], [], []) := by
  intro d0 w0
  obtain ⟨cs, rfl, hb⟩ := bytes_of w0
  refine ⟨1100001, ev_fn Go.Proofs.Tryz.f3 1100000 (by kernel_rfl) (by kernel_rfl) (fun kk hkk => ?_) 1100001 (Nat.le_refl _)⟩
  by_cases hbig : 1048576 < (cs.length : Int)
  · exact fnPl_big kk cs (decide_eq_true hbig)
  have hsmall := decide_eq_false hbig
  obtain ⟨L, n, hL, _, _, hev⟩ := ev_drawV hb
  have s1 := hev kk (by omega)
  have s2 := ev_iValue L true n (by omega) kk (by omega)
  have s3 := ev_sValue L true n (by omega) kk (by omega)
  rcases pl_gone true L n with h | ⟨t, q, ht, hq, h⟩
  · rw [h] at s2 s3
    exact fnPl_no kk cs _ [] [] [] n 0 false hsmall s1 s2 s3 (by simp) (ev_same [] true true (by simp) kk (by omega))
  rw [h] at s2 s3
  obtain ⟨htt, htc⟩ := closedOfP_some ht
  have hf := pl_closed htc
  have hgood := ((termOfP_iff L t).1 htt).1
  have hnn := nums_nn (good_facts hgood).2.2
  obtain ⟨hqf, hqn⟩ := pl_end true _ t q hf hq
  have hqg := (goOnP_good hgood hq).1
  have hqc : closedOfP (q.1.flat 0 (-1)) = some q.1 := closedOfP_flat hqg hqf
  have hq2 : q.1.kd = 2 := by
    cases hd : decide (q.1.kd = 2) with
    | true => exact of_decide_eq_true hd
    | false =>
      obtain ⟨r, hr⟩ := nx_app true q.1 ⟨hqf, (good_facts hqg).2.2⟩ (of_decide_eq_false hd)
      rw [hqn] at hr
      cases hr
  have hql : (q.1.flat 0 (-1)).length ≤ 150 := by rw [Pt.flat_length]; exact (good_facts hqg).1
  have s4 := ev_iIsValue (q.1.flat 0 (-1)) true (by omega) kk (by omega)
  have hv : isValueN (q.1.flat 0 (-1)) = true := by
    unfold isValueN
    rw [hqc]
    exact decide_eq_true hq2
  rw [hv] at s4
  have s5 := ev_iRunP L true 400 (by omega) kk (by omega)
  have s6 := ev_sRunP L true 400 (by omega) kk (by omega)
  have s7 := ev_iPassV (q.1.flat 0 (-1)) true (by omega) kk (by omega)
  have hsm := ev_same (q.1.flat 0 (-1)) true true (by omega) kk (by omega)
  have c0 := own_clean3 (q.1.flat 0 (-1)) q.2 true
  have hrun : runN L 400 = runT t 400 := by unfold runN; rw [ht]
  have hrl := runN_len L 400
  rw [hrun] at s5 s6 hrl
  rcases pl_run t 400 with h1 | ⟨p, hp, hwg, h1⟩
  · rw [h1] at s5 s6
    exact fnPl_1 kk cs _ _ _ _ n q.2 _ hsmall s1 c0 s2 c0 s3 (by simp) hsm s4 (own_clean _ _) s5 (own_clean _ _) s6 (own_clean _ _) s7
  rw [h1] at s5 s6 hrl
  have hrl : (p.1.flat 0 (-1)).length ≤ 150 := hrl
  cases hb2 : (passVN (q.1.flat 0 (-1))).2 with
  | false =>
    rw [hb2] at s7
    exact fnPl_2 kk cs _ _ _ _ n q.2 false hsmall s1 c0 s2 c0 s3 (by simp) hsm s4 (own_clean _ _) s5 (own_clean _ _) s6 (own_clean _ _) s7
  | true =>
    have he : passVN (q.1.flat 0 (-1)) = (p.1.flat 0 (-1), true) := by
      have hp2 := plotkin hnn hf hq hp ((kd_isLam q.1).1 hq2)
      have hpg := (goOnP_good hwg hp).1
      unfold passVN at hb2 ⊢
      rw [hqc] at hb2 ⊢
      cases hqq : q.1 with
      | var m => rw [hqq] at hq2; cases hq2
      | app m a b => rw [hqq] at hq2; cases hq2
      | lam m x =>
        rw [hqq] at hb2 hp2 hqg
        simp only at hb2 ⊢
        rcases pl_told (.lam 0 (passT x)) with h2 | ⟨h2, h3⟩
        · rw [h2] at hb2; cases hb2
        · rw [h3]
          have hxn : x.nn := nums_nn (t := .lam m x) (good_facts hqg).2.2
          have h5 : (Pt.lam 0 (passT x)).tm = p.1.tm := by
            rw [hp2]
            show Tm.lam (passT x).tm = .lam (Tm.cps x.tm)
            rw [(pass_tm x hxn).1]
          rw [tm_inj (good_facts h2).2.2 (good_facts hpg).2.2 h5]
    rw [he] at s7
    exact fnPl_3 kk cs _ _ _ _ n q.2 false hsmall s1 c0 s2 c0 s3 (by simp) hsm s4 (own_clean _ _) s5 (own_clean _ _) s6 (own_clean _ _) s7 (ev_same _ true true (by omega) kk (by omega))
end Go.Den
namespace Go.Proofs.YtjmljfpnofjkeaaGreat.fnPlotkin
open Go.ChangeShapes Go.WideShapes Go.ChangeAt Go.RowKit Go.Den
set_option linter.unusedVariables false
theorem own : ownKnob Tryz.prog.godebug = none := by kernel_rfl
theorem laidOut : laidOutB Tryz.prog = true := by kernel_rfl
theorem body : (Tryz.f3.body).isSome = true := by kernel_rfl
theorem fnThere : cfg.fn 3 = some Tryz.f3 := by kernel_rfl
theorem plain22 : plainTy cfg.ty 8 22 = true := by kernel_rfl
set_option maxRecDepth 100000 in
theorem lifted (os : Os) (started : os.Started) (H : Type) (enc : TypeId × Value → H) :
    ReturnsInHanded {} Tryz.checked os 3 .any (Rows.fnPlotkinSpec.pre6 enc Tryz.prog Tryz.f3 Rows.fnPlotkinRow.domain false) (Rows.fnPlotkinSpec.post enc Tryz.prog Tryz.f3 false true false false) := by
  refine returnsInHanded_of_change (C := Tryz.checked) own started (by kernel_rfl) Tryz.func3
    (ChangeSpec.witness6 (enc := enc) (C := Tryz.checked) false ⟨#[], #[.slice none 0 0], []⟩ 8 (by kernel_rfl) (by kernel_rfl) (by kernel_rfl) (by kernel_rfl)) ?_
  intro W base args ds gs before hval0 hW hcnd _
  have hval : ∀ (j : Nat) t v, Tryz.f3.params[j]? = some t → args[j]? = some v → Value.okWide Tryz.prog W .any base t v := hval0
  have hW' := hW
  obtain ⟨p, q, hA0, hV, rfl, hfz, hnd⟩ := hW
  have hA : DataW.TrodAll enc Tryz.prog W 0 (fun _ => true) true Tryz.f3.params.toList args.toList ds p := hA0
  rw [Tryz.params3] at hA hval
  obtain ⟨v0, vs0, d0, ds0, p0, q0, hargs, rfl, rfl, h0, r0⟩ := trodAll_cons hA
  obtain ⟨rfl, rfl, rfl⟩ := trodAll_nil r0
  obtain rfl : args = #[v0] := by cases args; simp_all
  obtain ⟨rfl, rfl⟩ := trodVars_none hV
  have k0 := h0
  have lt0 : ∀ x ∈ p0, x.block < W.heap.size := by obtain ⟨m, hm⟩ := k0; exact DataW.trod_lt m _ _ _ hm
  obtain ⟨e0, cv0, R0, V0, T0⟩ := arg_dat cfg_ty plain22 (hval 0 22 v0 rfl rfl) h0
  clear hA0 hval0
  have hden := fnPlotkin_den e0 T0
  refine (law_calls (P := Tryz.prog) (C := cfg) (f := 3) (fn := Tryz.f3) (vals := #[v0]) (ds := [e0]) (W := W) (b := true) den_true.out (cfg_fn fnThere) body rfl (fun j d v hj hv => ?_) hden).mono fun e W' hh => ?_
  · match j, hj, hv with
    | 0, hj, hv => cases hj; cases hv; exact ⟨cv0, R0, V0⟩
    | j + 1, hj, hv => simp at hj
  · obtain ⟨he, bel⟩ := hh
    subst he
    exact ⟨_, rfl, _, _, _, [], _, [], hW', trodAll_mk1 (shut_bool Tryz.underlying4 _), (trodAll_cons_mk (Below.trod laidOut (by kernel_rfl) (of_decide_eq_true (by kernel_rfl)) k0 bel lt0) trodAll_mk0), rfl, bel.frame _, fun h => by cases h⟩
theorem over : Rows.fnPlotkinRow.holds Tryz.pinned (OpenSpec.ofChange Rows.fnPlotkinSpec) :=
  OpenClaim.holds_of_wide 3 Tryz.f3 rfl rfl rfl rfl rfl rfl rfl ⟨rfl, rfl, rfl, rfl, rfl⟩ rfl rfl rfl rfl rfl (by kernel_rfl) Tryz.func3 (by kernel_rfl)
    (of_decide_eq_true (by kernel_rfl)) (by unfold Func.isWrapper; first | (rw [if_pos (by decide +kernel)]; kernel_rfl) | (rw [if_neg (by decide +kernel)]; exact ⟨rfl, rfl⟩))
    (fun os started H enc _ => lifted os started H enc)
theorem proved : Rows.FnPlotkinSaid := over
end Go.Proofs.YtjmljfpnofjkeaaGreat.fnPlotkin
namespace Go.Proofs.YtjmljfpnofjkeaaGreat
/-- The row, under a short name, for the claim. -/
theorem fnPlotkin_holds : Rows.FnPlotkinSaid := fnPlotkin.proved
end Go.Proofs.YtjmljfpnofjkeaaGreat
