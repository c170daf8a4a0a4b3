/- Merged out of: WP YFnExactHeadTerm LFnExactHeadTerm (prune.py, a program of this work's). -/
import Derived.Test.YtcehfbegcapmnaaD6
import Derived.Test.YtcehfbegcapmnaaRows
import Derived.Test.YtcehfbegcapmnaaD4
import Derived.WalkKit
import Derived.ProofKit
import Derived.OpenShut
import Derived.ShutString
import Derived.ChangeOld
import Derived.Below
set_option linter.unusedVariables false
set_option linter.unusedSimpArgs false
set_option linter.unnecessarySimpa false
namespace Go.Den
open Go
set_option linter.unusedVariables false
set_option maxRecDepth 100000
/-- The number of the redex that is reduced next, by value or by name. -/
def nx (v : Bool) : Pt → Option Nat
  | .var _ => none
  | .lam _ _ => none
  | .app _ x y => if x.kd ≠ 2 then (nx v x).map (1 + ·) else if v = true ∧ y.kd ≠ 2 then (nx v y).map (1 + x.size + ·) else some 0
theorem closed_app {n : Int} {x y : Pt} {a : Int} : fv (.app n x y) a = [] ↔ fv x a = [] ∧ fv y a = [] := by simp [fv]
theorem closedP_iff (t : Pt) : closedP t = true ↔ fv t 0 = [] := by unfold closedP; exact List.isEmpty_iff
/-- Closed, its numbers as they have to be. -/
def Cl (t : Pt) : Prop := fv t 0 = [] ∧ t.nums = true
theorem Cl.app {n : Int} {x y : Pt} (h : Cl (.app n x y)) : n = 0 ∧ Cl x ∧ Cl y := by
  obtain ⟨h1, h2⟩ := h
  rw [closed_app] at h1
  have h' : n = 0 ∧ x.nums = true ∧ y.nums = true := by simpa [Pt.nums] using h2
  exact ⟨h'.1, ⟨h1.1, h'.2.1⟩, ⟨h1.2, h'.2.2⟩⟩
theorem Cl.var {n : Int} (h : Cl (.var n)) : False := by
  obtain ⟨h1, h2⟩ := h
  have h' : 0 ≤ n ∧ n ≤ 99 := by simpa [Pt.nums] using h2
  simp only [fv] at h1
  rw [if_pos h'.1] at h1
  cases h1
theorem nx_app (v : Bool) : ∀ (t : Pt), Cl t → t.kd ≠ 2 → ∃ r, nx v t = some r
  | .var n, h, _ => h.var.elim
  | .lam n x, _, h => (h rfl).elim
  | .app n x y, h, _ => by
    have h := h.app
    simp only [nx]
    split
    · rename_i hx
      obtain ⟨r, hr⟩ := nx_app v x h.2.1 hx
      exact ⟨_, by rw [hr]; rfl⟩
    · split
      · rename_i hy
        obtain ⟨r, hr⟩ := nx_app v y h.2.2 hy.2
        exact ⟨_, by rw [hr]; rfl⟩
      · exact ⟨0, rfl⟩
theorem nx_lam (v : Bool) {t : Pt} (h : t.kd = 2) : nx v t = none := by
  cases t with
  | var n => cases h
  | lam n x => rfl
  | app n x y => cases h
theorem kd_lam {t : Pt} (h : t.kd = 2) : ∃ n x, t = .lam n x := by
  cases t with
  | var n => cases h
  | lam n x => exact ⟨n, x, rfl⟩
  | app n x y => cases h
theorem nx_rx (v : Bool) : ∀ (t : Pt) (r : Nat), nx v t = some r → rxAt t r = true ∧ r < t.size
  | .var n, r, h => by cases h
  | .lam n x, r, h => by cases h
  | .app n x y, r, h => by
    simp only [nx] at h
    split at h
    · obtain ⟨q, hq, rfl⟩ := Option.map_eq_some_iff.1 h
      obtain ⟨h1, h2⟩ := nx_rx v x q hq
      rw [Nat.add_comm 1 q]
      simp only [rxAt, Pt.size, if_pos h2]
      exact ⟨h1, by omega⟩
    · rename_i hx
      split at h
      · obtain ⟨q, hq, rfl⟩ := Option.map_eq_some_iff.1 h
        obtain ⟨h1, h2⟩ := nx_rx v y q hq
        rw [show 1 + x.size + q = (x.size + q) + 1 by omega]
        simp only [rxAt, Pt.size, if_neg (show ¬ x.size + q < x.size by omega), show x.size + q - x.size = q by omega]
        exact ⟨h1, by omega⟩
      · cases h
        refine ⟨?_, by simp only [Pt.size]; omega⟩
        simp only [rxAt, Pt.isRedex]
        exact decide_eq_true (by omega)
theorem fv_sh (b : Int) : ∀ (s : Pt) (a f : Int), fv s a = [] → a ≤ f → fv (sh b f s) a = []
  | .var n, a, f, h, hf => by
    have hn : ¬ a ≤ n := fun hn => by simp only [fv] at h; rw [if_pos hn] at h; cases h
    simp only [sh]
    rw [if_neg (by omega)]
    exact h
  | .lam n t, a, f, h, hf => fv_sh b t (a + 1) (f + 1) h (by omega)
  | .app n x y, a, f, h, hf => by
    rw [closed_app] at h
    simp only [sh]
    rw [closed_app]
    exact ⟨fv_sh b x a f h.1 hf, fv_sh b y a f h.2 hf⟩
theorem fv_up : ∀ (t : Pt) (a b : Int), fv t a = [] → a ≤ b → fv t b = []
  | .var n, a, b, h, hb => by
    have hn : ¬ a ≤ n := fun hn => by simp only [fv] at h; rw [if_pos hn] at h; cases h
    simp only [fv]
    rw [if_neg (by omega)]
  | .lam n t, a, b, h, hb => fv_up t (a + 1) (b + 1) h (by omega)
  | .app n x y, a, b, h, hb => by
    rw [closed_app] at h ⊢
    exact ⟨fv_up x a b h.1 hb, fv_up y a b h.2 hb⟩
theorem fv_sub (s : Pt) (hs : fv s 0 = []) : ∀ (t : Pt) (u : Int), 0 ≤ u → fv t (u + 1) = [] → fv (sub 0 s u t) u = []
  | .var n, u, hu, h => by
    have hn : ¬ u + 1 ≤ n := fun hn => by simp only [fv] at h; rw [if_pos hn] at h; cases h
    simp only [sub]
    split
    · exact fv_up _ 0 u (fv_sh u s 0 0 hs (by omega)) hu
    · rw [if_neg (by omega)]
      simp only [fv]
      rw [if_neg (by omega)]
  | .lam n t, u, hu, h => fv_sub s hs t (u + 1) (by omega) h
  | .app n x y, u, hu, h => by
    rw [closed_app] at h
    simp only [sub]
    rw [closed_app]
    exact ⟨fv_sub s hs x u hu h.1, fv_sub s hs y u hu h.2⟩
theorem nx_closed (v : Bool) : ∀ (t : Pt) (r : Nat), fv t 0 = [] → nx v t = some r → fv (red t r) 0 = []
  | .var n, r, _, h => by cases h
  | .lam n x, r, _, h => by cases h
  | .app n x y, r, hc, h => by
    rw [closed_app] at hc
    simp only [nx] at h
    split at h
    · obtain ⟨q, hq, rfl⟩ := Option.map_eq_some_iff.1 h
      have h2 := (nx_rx v x q hq).2
      rw [Nat.add_comm 1 q]
      simp only [red, if_pos h2]
      rw [closed_app]
      exact ⟨nx_closed v x q hc.1 hq, hc.2⟩
    · rename_i hx
      split at h
      · obtain ⟨q, hq, rfl⟩ := Option.map_eq_some_iff.1 h
        rw [show 1 + x.size + q = (x.size + q) + 1 by omega]
        simp only [red, if_neg (show ¬ x.size + q < x.size by omega), show x.size + q - x.size = q by omega]
        rw [closed_app]
        exact ⟨hc.1, nx_closed v y q hc.2 hq⟩
      · cases h
        obtain ⟨n1, z, rfl⟩ := kd_lam (t := x) (by omega)
        simp only [red, Pt.beta]
        exact fv_sub y hc.2 z 0 (by omega) hc.1
theorem ev_nextIn (v : Bool) : ∀ (d : Nat) (t : Pt), t.depth ≤ d → Cl t → t.size ≤ 1000 → ∃ x : Int, EvN (d + 200) 111 [.dat t.d, .dat (B v)] [] [] ([.dat (I x)], [], []) ∧ nxI (nx v t) x
  | 0, t, hd, _, _ => by have := t.depth_pos; omega
  | d + 1, t, hd, hc, hz => by
    cases t with
    | var n => exact hc.var.elim
    | lam n x =>
      refine ⟨-1, ?_, by show (-1 : Int) < 0; decide⟩
      exact ev_fn Go.Proofs.Try.f111 (d + 200) (by kernel_rfl) (by kernel_rfl) fun kk hkk => nextIn_no2 kk n _ v
    | app n x y =>
      have hca := hc.app
      simp only [Pt.depth] at hd
      simp only [Pt.size] at hz
      have e : (Pt.app n x y).d = T 3 n [T x.kd x.num (x.kids.map Pt.d), T y.kd y.num (y.kids.map Pt.d)] := by rw [← Pt.d_eq, ← Pt.d_eq]; rfl
      rw [e]
      simp only [nx]
      by_cases hx : x.kd = 2
      · rw [if_neg (by simpa using hx)]
        have kx : (!decide (x.kd = 2)) = false := by rw [decide_eq_true hx]; rfl
        cases v with
        | false =>
          rw [if_neg (fun h => by cases h.1)]
          exact ⟨0, ev_fn Go.Proofs.Try.f111 (d + 200) (by kernel_rfl) (by kernel_rfl) fun kk hkk => nextIn_name kk n [T y.kd y.num (y.kids.map Pt.d)] _ _ _ ⟨⟨by decide, by simp; try omega⟩, rfl⟩ kx, rfl⟩
        | true =>
          by_cases hy : y.kd = 2
          · rw [if_neg (fun h => h.2 hy)]
            have ky : (!decide (y.kd = 2)) = false := by rw [decide_eq_true hy]; rfl
            exact ⟨0, ev_fn Go.Proofs.Try.f111 (d + 200) (by kernel_rfl) (by kernel_rfl) fun kk hkk => nextIn_here kk n [] _ _ _ _ _ _ ⟨⟨by decide, by simp; try omega⟩, rfl⟩ kx ⟨⟨by decide, by simp; try omega⟩, rfl⟩ ky, rfl⟩
          · rw [if_pos ⟨rfl, hy⟩]
            have ky : (!decide (y.kd = 2)) = true := by rw [decide_eq_false hy]; rfl
            obtain ⟨z, h1, h2⟩ := ev_nextIn true d y (by omega) hca.2.2 (by omega)
            obtain ⟨r, hr⟩ := nx_app true y hca.2.2 hy
            rw [hr] at h2
            have h2 : z = r := h2
            have hlt := (nx_rx true y r hr).2
            refine ⟨((1 + x.size + r : Nat) : Int), ev_fn Go.Proofs.Try.f111 (d + 200) (by kernel_rfl) (by kernel_rfl) fun kk hkk => ?_, by rw [hr]; rfl⟩
            have h1 := h1 kk (by omega)
            have hs := ev_size d x (by omega) (by omega) kk (by omega)
            rw [Pt.d_eq y] at h1
            rw [Pt.d_eq x] at hs
            have := nextIn_r kk n _ _ [] _ _ _ _ _ _ ⟨⟨by decide, by simp; try omega⟩, rfl⟩ kx ⟨⟨by decide, by simp; try omega⟩, rfl⟩ ky ⟨⟨by decide, by simp; try omega⟩, rfl⟩ ⟨⟨by decide, by simp; try omega⟩, rfl⟩ hs h1
            rw [this, w64_eq (n := 1 + (x.size : Int)) (by omega), w64_eq (by omega), h2]
            simp only [Int.natCast_add, Int.natCast_one]
      · rw [if_pos hx]
        have kx : (!decide (x.kd = 2)) = true := by rw [decide_eq_false hx]; rfl
        obtain ⟨z, h1, h2⟩ := ev_nextIn v d x (by omega) hca.2.1 (by omega)
        obtain ⟨r, hr⟩ := nx_app v x hca.2.1 hx
        rw [hr] at h2
        have h2 : z = r := h2
        have hlt := (nx_rx v x r hr).2
        refine ⟨((1 + r : Nat) : Int), ev_fn Go.Proofs.Try.f111 (d + 200) (by kernel_rfl) (by kernel_rfl) fun kk hkk => ?_, by rw [hr]; rfl⟩
        have h1 := h1 kk (by omega)
        rw [Pt.d_eq x] at h1
        have := nextIn_l kk n _ [T y.kd y.num (y.kids.map Pt.d)] v _ _ _ ⟨⟨by decide, by simp; try omega⟩, rfl⟩ kx ⟨⟨by decide, by simp; try omega⟩, rfl⟩ h1
        rw [this, w64_eq (by omega), h2]
        simp only [Int.natCast_add, Int.natCast_one]
theorem goOn_rounds_n (nx : Pt → Option Nat) (kk : Nat) (hkk : 4000 ≤ kk) (fuel : Nat) (hf : fuel ≤ 1000)
    (P : Pt → Prop) (hnx : ∀ t, P t → t.good = true → ∃ x : Int, den cfg kk 81 [.dat (T t.kd t.num (t.kids.map Pt.d))] [] [] = some ([.dat (I x)], [], []) ∧ nxI (nx t) x)
    (hrx : ∀ t r, P t → t.good = true → nx t = some r → rxAt t r = true ∧ r < t.size) (hP : ∀ t r, P t → t.good = true → nx t = some r → (red t r).good = true → P (red t r)) :
    ∀ (f made : Nat) (t : Pt) (m : Nat) (s : St) (K : X → St → Prop), P t → t.good = true → made + f = fuel → f < m →
    s.norm ((envOf cfg kk 102 Go.Proofs.Try.f102).live (firstRegion (lp Go.Proofs.Try.f102 3))) = hd102n fuel t.kd t.num (t.kids.map Pt.d) made → K .ret (outI made (goOnP nx f t)) → Rounds (envOf cfg kk 102 Go.Proofs.Try.f102) kk (lp Go.Proofs.Try.f102 3) m s K := by
  have hround : ∀ (f made : Nat) (t : Pt) (m : Nat) (s : St) (K : X → St → Prop), P t → t.good = true → made + f = fuel →
      s.norm ((envOf cfg kk 102 Go.Proofs.Try.f102).live (firstRegion (lp Go.Proofs.Try.f102 3))) = hd102n fuel t.kd t.num (t.kids.map Pt.d) made →
      (nx t = none → K .ret (outI made (some (t, 0)))) → (∀ r, nx t = some r → f = 0 → K .ret (outI made none)) → (∀ r, nx t = some r → f ≠ 0 → (red t r).good = false → K .ret (outI made none)) →
      (∀ r, nx t = some r → f ≠ 0 → (red t r).good = true → ∀ s : St, s.norm ((envOf cfg kk 102 Go.Proofs.Try.f102).live (firstRegion (lp Go.Proofs.Try.f102 3))) = hd102n fuel (red t r).kd (red t r).num ((red t r).kids.map Pt.d) ((made + 1 : Nat) : Int) → Rounds (envOf cfg kk 102 Go.Proofs.Try.f102) kk (lp Go.Proofs.Try.f102 3) m s K) →
      Rounds (envOf cfg kk 102 Go.Proofs.Try.f102) kk (lp Go.Proofs.Try.f102 3) (m + 1) s K := by
    intro f made t m s K hPt hg hfm hs k1 k2 k3 k4
    have hsm : small t := good_small hg
    obtain ⟨x, a1, hx⟩ := hnx t hPt hg
    cases hn : nx t with
    | none =>
      rw [hn] at hx
      have hx : x < 0 := hx
      exact goOn_done_n kk m _ _ _ _ _ x hs a1 (decide_eq_true hx) (k1 hn)
    | some r =>
      rw [hn] at hx
      have hx : x = r := hx
      subst hx
      have hlt : decide ((r : Int) < 0) = false := decide_eq_false (by omega)
      by_cases h0 : f = 0
      · exact goOn_stop_n kk m _ _ _ _ _ _ hs a1 hlt (decide_eq_true (by omega)) (k2 r hn h0)
      · obtain ⟨h4, h3⟩ := hrx t r hPt hg hn
        have hz := red_size t r h4 hsm.1
        have a3 := ev_reduceAt 40 t r hsm.2.1 hsm h4 h3 kk (by omega)
        have a4 := ev_good (red t r) (by have := hsm.1; omega) 80 (by have := hsm.2.1; omega) kk (by omega)
        rw [Pt.d_eq t, Pt.d_eq (red t r)] at a3
        rw [Pt.d_eq (red t r)] at a4
        cases hgr : (red t r).good with
        | false =>
          rw [hgr] at a4
          exact goOn_bad_n kk m _ _ _ _ _ _ _ _ _ hs a1 hlt (decide_eq_false (by omega)) a3 a4 (k3 r hn h0 hgr)
        | true =>
          rw [hgr] at a4
          refine goOn_go_n kk m _ _ _ _ _ _ _ _ _ hs a1 hlt (decide_eq_false (by omega)) a3 a4 fun s' hs' => k4 r hn h0 hgr s' ?_
          rw [hs', w64_eq (by omega)]
          rfl
  intro f
  induction f with
  | zero =>
    intro made t m s K hPt hg hfm hm hs hK
    obtain ⟨m, rfl⟩ : ∃ j, m = j + 1 := ⟨m - 1, by omega⟩
    refine hround 0 made t m s K hPt hg hfm hs (fun h => ?_) (fun r h _ => ?_) (fun r h h0 => (h0 rfl).elim) (fun r h h0 => (h0 rfl).elim)
    · unfold goOnP at hK
      rw [h] at hK
      exact hK
    · unfold goOnP at hK
      rw [h] at hK
      exact hK
  | succ f ih =>
    intro made t m s K hPt hg hfm hm hs hK
    obtain ⟨m, rfl⟩ : ∃ j, m = j + 1 := ⟨m - 1, by omega⟩
    refine hround (f + 1) made t m s K hPt hg hfm hs (fun h => ?_) (fun r h h0 => by omega) (fun r h _ hgr => ?_) (fun r h _ hgr s' hs' => ?_)
    · unfold goOnP at hK
      rw [h] at hK
      exact hK
    · unfold goOnP at hK
      rw [h] at hK
      simp only [hgr] at hK
      exact hK
    · refine ih (made + 1) (red t r) m s' K (hP t r hPt hg h hgr) hgr (by omega) (by omega) hs' ?_
      unfold goOnP at hK
      rw [h] at hK
      simp only [hgr, if_true] at hK
      cases hq : goOnP nx f (red t r) with
      | none => rw [hq] at hK; exact hK
      | some q =>
        rw [hq] at hK
        simp only [Option.map_some, outI] at hK
        simp only [outI]
        rw [show made + 1 + q.2 = made + (q.2 + 1) by omega]
        exact hK
/-- What both sides come to. -/
def clN (v : Bool) (L : List Nd) (f : Int) : List Nd × Nat × Bool := match closedOfP L with | some _ => goneN (nx v) L f | none => ([], 0, false)
theorem clN_len (v : Bool) (L : List Nd) (f : Int) : (clN v L f).1.length ≤ 150 := by
  unfold clN
  split
  · exact goneN_len _ _ _
  · simp
theorem ev_next_n (t : Pt) (hc : fv t 0 = []) (hg : t.good = true) (kk : Nat) (hkk : 500 ≤ kk) : ∃ x : Int, den cfg kk 81 [.dat (T t.kd t.num (t.kids.map Pt.d))] [] [] = some ([.dat (I x)], [], []) ∧ nxI (nx false t) x := by
  have hsm : small t := good_small hg
  obtain ⟨x, h1, h2⟩ := ev_nextIn false 40 t hsm.2.1 ⟨hc, (good_facts hg).2.2⟩ (by have := hsm.1; omega)
  refine ⟨x, ?_, h2⟩
  refine (ev_fn Go.Proofs.Try.f81 400 (by kernel_rfl) (by kernel_rfl) fun k2 hk2 => ?_) kk (by omega)
  have h1 := h1 k2 (by omega)
  rw [Pt.d_eq t] at h1
  exact next_n k2 _ _ _ _ h1
theorem ev_goneOn_n (L : List Nd) (b : Bool) (v : Int) (t : Pt) (ht : termOfP L = some t) (hc : fv t 0 = []) (hL : L.length ≤ 1048576) :
    EvN 5900 64 [.dat (.lst b (L.map Nd.d)), .dat (I v), .fn 81 []] [] [] ([.own 50 ((goneN (nx false) L v).1.map Nd.d), .dat (I (goneN (nx false) L v).2.1), .dat (B (goneN (nx false) L v).2.2)], [], []) := by
  refine (ev_fn Go.Proofs.Try.f64 5800 (by kernel_rfl) (by kernel_rfl) fun kk hkk => ?_).mono (by omega)
  have a1 := (ev_termOf L b hL).1 t ht kk (by omega)
  have hin := ev_isFuel v kk (by omega)
  have hgt := ((termOfP_iff L t).1 ht).1
  unfold goneN
  rw [ht]
  rw [Pt.d_eq] at a1
  simp only
  cases hk : (decide (0 ≤ v) && decide (v ≤ 1000)) with
  | false =>
    rw [hk] at hin
    rw [if_neg (fun h => by simp [h.1, h.2] at hk)]
    exact goneOn_no2_n kk b _ v _ _ _ a1 hin
  | true =>
    rw [hk] at hin
    have hk' : 0 ≤ v ∧ v ≤ 1000 := by simpa using hk
    rw [if_pos hk']
    obtain ⟨fu, rfl⟩ : ∃ fu : Nat, v = fu := ⟨v.toNat, by omega⟩
    rw [show ((fu : Int)).toNat = fu by simp]
    have hloop : ∀ k2, 5000 ≤ k2 → LoopAt cfg k2 102 Go.Proofs.Try.f102 3 (hd102n fu t.kd t.num (t.kids.map Pt.d) 0) X.ret (outI 0 (goOnP (nx false) fu t)) := fun k2 hk2 => loopOb_of fun s hs =>
      goOn_rounds_n (nx false) k2 (by omega) fu (by omega) (fun t => fv t 0 = []) (fun t hc hg => ev_next_n t hc hg k2 (by omega)) (fun t r _ _ h => nx_rx false t r h) (fun t r hc _ h _ => nx_closed false t r hc h) fu 0 t k2 s _ hc hgt (by omega) (by omega) hs ⟨rfl, rfl⟩
    cases hq : goOnP (nx false) fu t with
    | none =>
      rw [hq] at hloop
      refine goneOn_no3_n kk b _ _ _ _ 0 0 0 _ [] a1 hin ?_
      refine (ev_fn Go.Proofs.Try.f102 5000 (by kernel_rfl) (by kernel_rfl) fun k2 hk2 => ?_) kk (by omega)
      exact goOn_n_n k2 _ _ _ 0 _ false (hloop k2 hk2)
    | some q =>
      rw [hq] at hloop
      have hgq := good_small (goOnP_good hgt hq).1
      have a5 := ev_nodes q.1 (by omega) kk (by omega)
      rw [Pt.d_eq q.1] at a5
      refine goneOn_go_n kk b _ _ _ _ _ _ _ _ _ _ a1 hin ?_ a5
      refine (ev_fn Go.Proofs.Try.f102 5000 (by kernel_rfl) (by kernel_rfl) fun k2 hk2 => ?_) kk (by omega)
      have hl := hloop k2 hk2
      simp only [outI, Nat.zero_add] at hl
      exact goOn_y_n k2 _ _ _ _ _ _ _ _ true hl
theorem ev_iHead (L : List Nd) (b : Bool) (v : Int) (hL : L.length ≤ 1048576) : EvN 7000 39 [.dat (.lst b (L.map Nd.d)), .dat (I v)] [] [] ([.own 50 ((clN false L v).1.map Nd.d), .dat (I (clN false L v).2.1), .dat (B (clN false L v).2.2)], [], []) := by
  refine (ev_fn Go.Proofs.Try.f39 6900 (by kernel_rfl) (by kernel_rfl) fun k1 hk1 => ?_).mono (by omega)
  refine iRun_n k1 b _ v _ _ _ ?_
  refine (ev_fn Go.Proofs.Try.f80 6800 (by kernel_rfl) (by kernel_rfl) fun kk hkk => ?_) k1 (by omega)
  obtain ⟨k, n, ds, e, he⟩ := ev_closedOf_any L b hL
  have e := e kk (by omega)
  unfold clN
  cases hc : closedOfP L with
  | none => rw [hc] at e; exact closedOn_no_n kk b _ v _ _ _ e
  | some t =>
    rw [hc] at e
    have h2 := closedOfP_some hc
    exact closedOn_go_n kk b _ v _ _ _ _ _ _ e (ev_goneOn_n L b v t h2.1 ((closedP_iff t).1 h2.2) hL kk (by omega))
theorem ev_lfStep (v : Bool) : ∀ (d : Nat) (t : Pt), t.depth ≤ d → Cl t → small t →
    (∀ r, nx v t = some r → EvN (d + 2200) 112 [.dat t.d, .dat (B v)] [] [] ([.dat (red t r).d, .dat (B true)], [], [])) ∧
    (nx v t = none → EvN (d + 2200) 112 [.dat t.d, .dat (B v)] [] [] ([.dat t.d, .dat (B false)], [], []))
  | 0, t, hd, _, _ => by have := t.depth_pos; omega
  | d + 1, t, hd, hc, hs => by
    cases t with
    | var n => exact hc.var.elim
    | lam n x =>
      refine ⟨fun r h => (by cases h), fun _ => ?_⟩
      exact ev_fn Go.Proofs.Try.f112 (d + 2200) (by kernel_rfl) (by kernel_rfl) fun kk hkk => lfStep_no2 kk n _ v
    | app n x y =>
      have hca := hc.app
      obtain ⟨rfl, hcx, hcy⟩ := hca
      simp only [Pt.depth] at hd
      have hsx := small_kid hs (x := x) (by simp [Pt.kids])
      have hsy := small_kid hs (x := y) (by simp [Pt.kids])
      have ihx := ev_lfStep v d x (by omega) hcx hsx
      have ihy := ev_lfStep v d y (by omega) hcy hsy
      have e : (Pt.app 0 x y).d = T 3 0 [T x.kd x.num (x.kids.map Pt.d), T y.kd y.num (y.kids.map Pt.d)] := by rw [← Pt.d_eq, ← Pt.d_eq]; rfl
      refine ⟨fun r hr => ?_, fun hn => ?_⟩
      · refine ev_fn Go.Proofs.Try.f112 (d + 2200) (by kernel_rfl) (by kernel_rfl) fun kk hkk => ?_
        rw [e]
        have hg1 : ((0 : Int) ≤ 0 ∧ 0 < (([T x.kd x.num (x.kids.map Pt.d), T y.kd y.num (y.kids.map Pt.d)] : List Dat).length : Int)) ∧ some (T x.kd x.num (x.kids.map Pt.d)) = some (T x.kd x.num (x.kids.map Pt.d)) := ⟨⟨by decide, by simp⟩, rfl⟩
        have hg2 : ((0 : Int) ≤ 1 ∧ 1 < (([T x.kd x.num (x.kids.map Pt.d), T y.kd y.num (y.kids.map Pt.d)] : List Dat).length : Int)) ∧ some (T y.kd y.num (y.kids.map Pt.d)) = some (T y.kd y.num (y.kids.map Pt.d)) := ⟨⟨by decide, by simp⟩, rfl⟩
        simp only [nx] at hr
        by_cases hx : x.kd = 2
        · rw [if_neg (by simpa using hx)] at hr
          have h1 := ihx.2 (nx_lam v hx) kk (by omega)
          rw [Pt.d_eq x] at h1
          obtain ⟨n1, z, rfl⟩ := kd_lam hx
          have hbeta := ev_lcBeta false 0 n1 z y hsx.2.2 hsy.2.2 (by have := hsx.2.1; simp only [Pt.depth] at this; omega) (by have := hsy.2.1; omega) kk (by omega)
          have hbeta : den cfg kk 95 [.dat (Dat.agg [I 3, I 0, Dat.lst false [T (Pt.lam n1 z).kd (Pt.lam n1 z).num ((Pt.lam n1 z).kids.map Pt.d), T y.kd y.num (y.kids.map Pt.d)]])] [] [] = some ([.dat (sub 0 y 0 z).d], [], []) := by
            rw [← Pt.d_eq, ← Pt.d_eq]
            exact hbeta
          rw [Pt.d_eq (sub 0 y 0 z)] at hbeta
          cases v with
          | false =>
            rw [if_neg (fun h => by cases h.1)] at hr
            cases hr
            have hres : (red (.app 0 (.lam n1 z) y) 0).d = T (sub 0 y 0 z).kd (sub 0 y 0 z).num ((sub 0 y 0 z).kids.map Pt.d) := by rw [← Pt.d_eq]; rfl
            rw [hres]
            exact lfStep_name kk 0 [] _ _ _ _ _ _ _ _ _ _ _ _ hg1 hg2 h1 hbeta
          | true =>
            by_cases hy : y.kd = 2
            · rw [if_neg (fun h => h.2 hy)] at hr
              cases hr
              have h2 := ihy.2 (nx_lam true hy) kk (by omega)
              rw [Pt.d_eq y] at h2
              have hres : (red (.app 0 (.lam n1 z) y) 0).d = T (sub 0 y 0 z).kd (sub 0 y 0 z).num ((sub 0 y 0 z).kids.map Pt.d) := by rw [← Pt.d_eq]; rfl
              rw [hres]
              exact lfStep_val kk 0 [] _ _ _ _ _ _ _ _ _ _ _ _ _ _ _ hg1 hg2 h1 h2 hbeta
            · rw [if_pos ⟨rfl, hy⟩] at hr
              obtain ⟨q, hq, rfl⟩ := Option.map_eq_some_iff.1 hr
              have h2 := ihy.1 q hq kk (by omega)
              have h3 := ev_lcApp (.lam n1 z) (red y q) kk (by omega)
              rw [Pt.d_eq y, Pt.d_eq (red y q)] at h2
              rw [Pt.d_eq (.lam n1 z), Pt.d_eq (red y q), Pt.d_eq (Pt.app 0 (.lam n1 z) (red y q))] at h3
              have hres : red (.app 0 (.lam n1 z) y) (1 + (Pt.lam n1 z).size + q) = .app 0 (.lam n1 z) (red y q) := by
                rw [show 1 + (Pt.lam n1 z).size + q = ((Pt.lam n1 z).size + q) + 1 by omega]
                simp only [red, if_neg (show ¬ (Pt.lam n1 z).size + q < (Pt.lam n1 z).size by omega), show (Pt.lam n1 z).size + q - (Pt.lam n1 z).size = q by omega]
              rw [hres, Pt.d_eq (Pt.app 0 (.lam n1 z) (red y q))]
              exact lfStep_snd kk 0 [] _ _ _ _ _ _ _ _ _ _ _ _ _ _ _ hg1 hg2 h1 h2 h3
        · rw [if_pos hx] at hr
          obtain ⟨q, hq, rfl⟩ := Option.map_eq_some_iff.1 hr
          have hlt := (nx_rx v x q hq).2
          have h1 := ihx.1 q hq kk (by omega)
          have h3 := ev_lcApp (red x q) y kk (by omega)
          rw [Pt.d_eq x, Pt.d_eq (red x q)] at h1
          rw [Pt.d_eq (red x q), Pt.d_eq y, Pt.d_eq (Pt.app 0 (red x q) y)] at h3
          have hres : red (.app 0 x y) (1 + q) = .app 0 (red x q) y := by
            rw [Nat.add_comm 1 q]
            simp only [red, if_pos hlt]
          rw [hres, Pt.d_eq (Pt.app 0 (red x q) y)]
          exact lfStep_fst kk 0 [] _ _ _ _ _ _ _ _ _ v _ _ _ hg1 hg2 h1 h3
      · obtain ⟨r, hr⟩ := nx_app v (.app 0 x y) hc (by simp [Pt.kd])
        rw [hn] at hr
        cases hr
/-- What the reference's loop leaves. -/
def outR (made : Nat) (t : Pt) : Option (Pt × Nat) → St
  | some q => Nm [6, 7, 8] [.ptr (.loc 6) 0, .dat (I ((made + q.2 : Nat) : Int)), .dat (B true)] [some [.dat (I q.1.kd), .dat (I q.1.num), .dat (.lst false (q.1.kids.map Pt.d))], none, none] [] []
  | none => Nm [6, 7, 8] [.ptr (.loc 6) 0, .dat (I 0), .dat (B false)] [some [.dat (I t.kd), .dat (I t.num), .dat (.lst false (t.kids.map Pt.d))], none, none] [] []
/-- The term at which it stops. -/
def lastP (nx : Pt → Option Nat) : Nat → Pt → Pt
  | 0, t => t
  | f + 1, t => match nx t with | none => t | some r => if (red t r).good = true then lastP nx f (red t r) else t
theorem lfRun_rounds (v : Bool) (kk : Nat) (hkk : 1002000 ≤ kk) (fuel : Nat) (hf : fuel ≤ 1000) :
    ∀ (f made : Nat) (t : Pt) (m : Nat) (s : St) (K : X → St → Prop), fv t 0 = [] → t.good = true → made + f = fuel → f < m →
    s.norm ((envOf cfg kk 85 Go.Proofs.Try.f85).live (firstRegion (lp Go.Proofs.Try.f85 3))) = hd85 fuel t.kd t.num made (t.kids.map Pt.d) v → K .ret (outR made (lastP (nx v) f t) (goOnP (nx v) f t)) → Rounds (envOf cfg kk 85 Go.Proofs.Try.f85) kk (lp Go.Proofs.Try.f85 3) m s K := by
  intro f
  induction f with
  | zero =>
    intro made t m s K hc hg hfm hm hs hK
    obtain ⟨m, rfl⟩ : ∃ j, m = j + 1 := ⟨m - 1, by omega⟩
    have hsm : small t := good_small hg
    have hst := ev_lfStep v 40 t hsm.2.1 ⟨hc, (good_facts hg).2.2⟩ hsm
    unfold goOnP lastP at hK
    cases hn : nx v t with
    | none =>
      rw [hn] at hK
      have a := hst.2 hn kk (by omega)
      rw [Pt.d_eq t] at a
      exact lfRun_done kk m _ _ _ _ _ _ _ _ _ hs a hK
    | some r =>
      rw [hn] at hK
      have a := hst.1 r hn kk (by omega)
      rw [Pt.d_eq t, Pt.d_eq (red t r)] at a
      exact lfRun_stop kk m _ _ _ _ _ _ _ _ _ hs a (decide_eq_true (by omega)) hK
  | succ f ih =>
    intro made t m s K hc hg hfm hm hs hK
    obtain ⟨m, rfl⟩ : ∃ j, m = j + 1 := ⟨m - 1, by omega⟩
    have hsm : small t := good_small hg
    have hst := ev_lfStep v 40 t hsm.2.1 ⟨hc, (good_facts hg).2.2⟩ hsm
    unfold goOnP lastP at hK
    cases hn : nx v t with
    | none =>
      rw [hn] at hK
      have a := hst.2 hn kk (by omega)
      rw [Pt.d_eq t] at a
      exact lfRun_done kk m _ _ _ _ _ _ _ _ _ hs a hK
    | some r =>
      rw [hn] at hK
      have a := hst.1 r hn kk (by omega)
      have hrx := nx_rx v t r hn
      have hz := red_size t r hrx.1 hsm.1
      have a2 := ev_lcFine false (red t r) (by have := hsm.1; omega) kk (by have := hsm.2.1; omega)
      rw [← Pt.d_db] at a2
      rw [Pt.d_eq t, Pt.d_eq (red t r)] at a
      rw [Pt.d_eq (red t r)] at a2
      cases hgr : (red t r).good with
      | false =>
        rw [hgr] at a2
        simp only [hgr] at hK
        exact lfRun_bad kk m _ _ _ _ _ _ _ _ _ hs a (decide_eq_false (by omega)) a2 hK
      | true =>
        rw [hgr] at a2
        simp only [hgr, if_true] at hK
        refine lfRun_go kk m _ _ _ _ _ _ _ _ _ hs a (decide_eq_false (by omega)) a2 fun s' hs' => ih (made + 1) (red t r) m s' K (nx_closed v t r hc hn) hgr (by omega) (by omega) ?_ ?_
        · rw [hs', w64_eq (by omega)]
          rfl
        · cases hq : goOnP (nx v) f (red t r) with
          | none => rw [hq] at hK; exact hK
          | some q =>
            rw [hq] at hK
            simp only [Option.map_some, outR] at hK
            simp only [outR]
            rw [show made + 1 + q.2 = made + (q.2 + 1) by omega]
            exact hK
theorem ev_lfRun (v : Bool) (t : Pt) (fu : Nat) (hf : fu ≤ 1000) (hc : fv t 0 = []) (hg : t.good = true) :
    (∀ q, goOnP (nx v) fu t = some q → EvN 1002500 85 [.dat t.d, .dat (I fu), .dat (B v)] [] [] ([.dat q.1.d, .dat (I q.2), .dat (B true)], [], [])) ∧
    (goOnP (nx v) fu t = none → EvN 1002500 85 [.dat t.d, .dat (I fu), .dat (B v)] [] [] ([.dat (lastP (nx v) fu t).d, .dat (I 0), .dat (B false)], [], [])) := by
  refine ⟨fun q hq => ?_, fun hq => ?_⟩
  · refine (ev_fn Go.Proofs.Try.f85 1002400 (by kernel_rfl) (by kernel_rfl) fun kk hkk => ?_).mono (by omega)
    rw [Pt.d_eq t, Pt.d_eq q.1]
    refine lfRun kk _ _ v true _ _ _ _ _ _ (loopOb_of fun s hs => lfRun_rounds v kk (by omega) fu hf fu 0 t kk s _ hc hg (by omega) (by omega) hs ?_)
    rw [hq]
    simp only [outR, Nat.zero_add]
    exact ⟨trivial, trivial⟩
  · refine (ev_fn Go.Proofs.Try.f85 1002400 (by kernel_rfl) (by kernel_rfl) fun kk hkk => ?_).mono (by omega)
    rw [Pt.d_eq t, Pt.d_eq (lastP (nx v) fu t)]
    refine lfRun kk _ _ v false _ _ _ _ _ _ (loopOb_of fun s hs => lfRun_rounds v kk (by omega) fu hf fu 0 t kk s _ hc hg (by omega) (by omega) hs ?_)
    rw [hq]
    exact ⟨rfl, rfl⟩
theorem ev_lfTold (v : Bool) (L : List Nd) (b : Bool) (f : Int) (hL : L.length ≤ 1048576) : EvN 1003000 79 [.dat (.lst b (L.map Nd.d)), .dat (I f), .dat (B v)] [] [] ([.own 50 ((clN v L f).1.map Nd.d), .dat (I (clN v L f).2.1), .dat (B (clN v L f).2.2)], [], []) := by
  refine (ev_fn Go.Proofs.Try.f79 1002900 (by kernel_rfl) (by kernel_rfl) fun kk hkk => ?_).mono (by omega)
  have a1 := ev_lfClosed L b hL kk (by omega)
  have hin := ev_l1In f 0 1000 kk (by omega)
  unfold clN
  cases hc : closedOfP L with
  | none => rw [hc] at a1; exact lfTold_no1 kk b _ f v a1
  | some t =>
    rw [hc] at a1
    have hcs := closedOfP_some hc
    have hg := closedOfP_good hc
    simp only
    unfold goneN
    rw [hcs.1]
    simp only
    cases hk : (decide (0 ≤ f) && decide (f ≤ 1000)) with
    | false =>
      rw [hk] at hin
      rw [if_neg (fun h => by simp [h.1, h.2] at hk)]
      exact lfTold_no2 kk b _ f v a1 hin
    | true =>
      rw [hk] at hin
      have hk' : 0 ≤ f ∧ f ≤ 1000 := by simpa using hk
      rw [if_pos hk']
      obtain ⟨fu, rfl⟩ : ∃ fu : Nat, f = fu := ⟨f.toNat, by omega⟩
      rw [show ((fu : Int)).toNat = fu by simp]
      have a2 := ev_tree b hcs.1 kk (by omega)
      obtain ⟨h1, h2⟩ := ev_lfRun v t fu (by omega) ((closedP_iff t).1 hcs.2) hg
      rw [Pt.d_eq t] at a2
      cases hq : goOnP (nx v) fu t with
      | none =>
        have a3 := h2 hq kk (by omega)
        rw [Pt.d_eq t, Pt.d_eq (lastP (nx v) fu t)] at a3
        exact lfTold_no3 kk b _ _ v _ _ _ _ _ _ _ a1 hin a2 a3
      | some q =>
        have a3 := h1 q hq kk (by omega)
        have hgq := (goOnP_good hg hq).1
        have hsq := good_small hgq
        have a4 := ev_lcTold q.1 (by omega) kk (by omega)
        rw [hgq, if_pos rfl] at a4
        rw [Pt.d_eq t, Pt.d_eq q.1] at a3
        rw [Pt.d_eq q.1] at a4
        exact lfTold_go kk b _ _ v _ _ _ _ _ _ _ _ _ a1 hin a2 a3 a4
theorem ev_sHead (L : List Nd) (b : Bool) (f : Int) (hL : L.length ≤ 1048576) : EvN 1004000 38 [.dat (.lst b (L.map Nd.d)), .dat (I f)] [] [] ([.own 50 ((clN false L f).1.map Nd.d), .dat (I (clN false L f).2.1), .dat (B (clN false L f).2.2)], [], []) :=
  (ev_fn Go.Proofs.Try.f38 1003500 (by kernel_rfl) (by kernel_rfl) fun kk hkk => sRun_n kk b _ f _ _ _ (ev_lfTold false L b f hL kk (by omega))).mono (by omega)
theorem own_clean3 (L : List Nd) (n : Int) (r : Bool) : D.cleans [.own 50 (L.map Nd.d), .dat (I n), .dat (B r)] = true := by
  simp only [D.cleans, D.clean, nds_clean]
  rfl
end Go.Den
namespace Go.Den
open Go
set_option linter.unusedVariables false
set_option maxRecDepth 100000
theorem fnExactHeadTerm_den : ∀ (d0 d1 : Dat), WT cfg.ty 22 d0 → WT cfg.ty 3 d1 → ∃ k, den cfg k 12 [.dat d0, .dat d1] [] [] = some ([.dat (.val (.bool true))], [], []) := by
  intro d0 d1 w0 w1
  obtain ⟨L, rfl, hL⟩ := terms_of w0
  obtain ⟨v1, rfl⟩ := int_of w1
  have hlL : (L.map Nd.d).length = L.length := by simp
  refine ⟨1100001, ev_fn Go.Proofs.Try.f12 1100000 (by kernel_rfl) (by kernel_rfl) (fun kk hkk => ?_) 1100001 (Nat.le_refl _)⟩
  by_cases h1 : 1048576 < L.length
  · have z1 := ev_sz_no (L.map Nd.d) (1048576) false (by omega) (by omega) (by omega) kk (by omega)
    apply hdt_small1 kk <;> first | assumption | exact decide_eq_false (by omega) | decide
  have z1 := ev_sz_go (L.map Nd.d) (1048576) false (by omega) (by omega) kk (by omega)
  have bL : L.length ≤ 1048576 := by omega
  have tL := ev_toTermS L bL kk (by omega)
  have eL := ev_eqTermS L true true bL kk (by omega)
  have s1 := ev_sHead L true v1 bL kk (by omega)
  have s2 := ev_iHead L true v1 bL kk (by omega)
  have m1 := ev_mark L (1) bL (by omega) (by omega) kk (by omega)
  have hw := clN_len false L v1
  have ew := ev_eqTermS (clN false L v1).1 true true (by omega) kk (by omega)
  have mw := ev_mark (clN false L v1).1 1 (by omega) (by omega) (by omega) kk (by omega)
  have qw := ev_held (clN false L v1).1.length 1 true (by omega) (by omega) (by omega) kk (by omega)
  have c : D.cleans [.own 50 ((clN false L v1).1.map Nd.d), .dat (I (clN false L v1).2.1), .dat (B (clN false L v1).2.2)] = true := own_clean3 _ _ _
  generalize (clN false L v1).1 = W at *
  generalize (clN false L v1).2.2 = r at *
  generalize (clN false L v1).2.1 = cc at *
  cases r with
  | false => apply hdt_false kk <;> first | assumption | exact decide_eq_false (by omega) | (simp; done)
  | true => apply hdt_true kk <;> first | assumption | exact decide_eq_false (by omega) | (simp; done)
end Go.Den
namespace Go.Proofs.Ytcehfbegcapmnaa.fnExactHeadTerm
open Go.ChangeShapes Go.WideShapes Go.ChangeAt Go.RowKit Go.Den
set_option linter.unusedVariables false
theorem own : ownKnob Try.prog.godebug = none := by kernel_rfl
theorem laidOut : laidOutB Try.prog = true := by kernel_rfl
theorem body : (Try.f12.body).isSome = true := by kernel_rfl
theorem fnThere : cfg.fn 12 = some Try.f12 := by kernel_rfl
theorem plain3 : plainTy cfg.ty 8 3 = true := by kernel_rfl
theorem plain22 : plainTy cfg.ty 8 22 = true := by kernel_rfl
set_option maxRecDepth 100000 in
theorem lifted (os : Os) (started : os.Started) (H : Type) (enc : TypeId × Value → H) :
    ReturnsInHanded {} Try.checked os 12 .any (Rows.fnExactHeadTermSpec.pre6 enc Try.prog Try.f12 Rows.fnExactHeadTermRow.domain false) (Rows.fnExactHeadTermSpec.post enc Try.prog Try.f12 false true false false) := by
  refine returnsInHanded_of_change (C := Try.checked) own started (by kernel_rfl) Try.func12
    (ChangeSpec.witness6 (enc := enc) (C := Try.checked) false ⟨#[], #[.slice none 0 0, .int .i64 0], []⟩ 8 (by kernel_rfl) (by kernel_rfl) (by kernel_rfl) (by kernel_rfl)) ?_
  intro W base args ds gs before hval0 hW hcnd _
  have hval : ∀ (j : Nat) t v, Try.f12.params[j]? = some t → args[j]? = some v → Value.okWide Try.prog W .any base t v := hval0
  have hW' := hW
  obtain ⟨p, q, hA0, hV, rfl, hfz, hnd⟩ := hW
  have hA : DataW.TrodAll enc Try.prog W 0 (fun _ => true) true Try.f12.params.toList args.toList ds p := hA0
  rw [Try.params12] at hA hval
  obtain ⟨v0, vs0, d0, ds0, p0, q0, hargs, rfl, rfl, h0, r0⟩ := trodAll_cons hA
  obtain ⟨v1, vs1, d1, ds1, p1, q1, rfl, rfl, rfl, h1, r1⟩ := trodAll_cons r0
  obtain ⟨rfl, rfl, rfl⟩ := trodAll_nil r1
  obtain rfl : args = #[v0, v1] := by cases args; simp_all
  obtain ⟨rfl, rfl⟩ := trodVars_none hV
  have k0 := h0
  have lt0 : ∀ x ∈ p0, x.block < W.heap.size := by obtain ⟨m, hm⟩ := k0; exact DataW.trod_lt m _ _ _ hm
  obtain ⟨e0, cv0, R0, V0, T0⟩ := arg_dat cfg_ty plain22 (hval 0 22 v0 rfl rfl) h0
  have k1 := h1
  have lt1 : ∀ x ∈ p1, x.block < W.heap.size := by obtain ⟨m, hm⟩ := k1; exact DataW.trod_lt m _ _ _ hm
  obtain ⟨e1, cv1, R1, V1, T1⟩ := arg_dat cfg_ty plain3 (hval 1 3 v1 rfl rfl) h1
  clear hA0 hval0
  have hden := fnExactHeadTerm_den e0 e1 T0 T1
  refine (law_calls (P := Try.prog) (C := cfg) (f := 12) (fn := Try.f12) (vals := #[v0, v1]) (ds := [e0, e1]) (W := W) (b := true) den_true.out (cfg_fn fnThere) body rfl (fun j d v hj hv => ?_) hden).mono fun e W' hh => ?_
  · match j, hj, hv with
    | 0, hj, hv => cases hj; cases hv; exact ⟨cv0, R0, V0⟩
    | 1, hj, hv => cases hj; cases hv; exact ⟨cv1, R1, V1⟩
    | j + 2, hj, hv => simp at hj
  · obtain ⟨he, bel⟩ := hh
    subst he
    exact ⟨_, rfl, _, _, _, [], _, [], hW', trodAll_mk1 (shut_bool Try.underlying4 _), (trodAll_cons_mk (Below.trod laidOut (by kernel_rfl) (of_decide_eq_true (by kernel_rfl)) k0 bel lt0) (trodAll_cons_mk (Below.trod laidOut (by kernel_rfl) (of_decide_eq_true (by kernel_rfl)) k1 bel lt1) trodAll_mk0)), rfl, bel.frame _, fun h => by cases h⟩
theorem over : Rows.fnExactHeadTermRow.holds Try.pinned (OpenSpec.ofChange Rows.fnExactHeadTermSpec) :=
  OpenClaim.holds_of_wide 12 Try.f12 rfl rfl rfl rfl rfl rfl rfl ⟨rfl, rfl, rfl, rfl, rfl⟩ rfl rfl rfl rfl rfl (by kernel_rfl) Try.func12 (by kernel_rfl)
    (of_decide_eq_true (by kernel_rfl)) (by unfold Func.isWrapper; first | (rw [if_pos (by decide +kernel)]; kernel_rfl) | (rw [if_neg (by decide +kernel)]; exact ⟨rfl, rfl⟩))
    (fun os started H enc _ => lifted os started H enc)
theorem proved : Rows.FnExactHeadTermSaid := over
end Go.Proofs.Ytcehfbegcapmnaa.fnExactHeadTerm
namespace Go.Proofs.Ytcehfbegcapmnaa
/-- The row, under a short name, for the claim. -/
theorem fnExactHeadTerm_holds : Rows.FnExactHeadTermSaid := fnExactHeadTerm.proved
end Go.Proofs.Ytcehfbegcapmnaa
