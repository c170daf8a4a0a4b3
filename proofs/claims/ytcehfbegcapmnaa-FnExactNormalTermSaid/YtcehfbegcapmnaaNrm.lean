/- Merged out of: WG WH WI WJ YFnExactNormalTerm LFnExactNormalTerm (dmerge.py, a program of this work's). -/
import Derived.Test.YtcehfbegcapmnaaM7
import Derived.Test.YtcehfbegcapmnaaM4
import Derived.KernelRfl
import Derived.Test.YtcehfbegcapmnaaRows
import Derived.WalkKit
import Derived.ProofKit
import Derived.OpenShut
import Derived.ShutString
import Derived.ChangeOld
import Derived.Below
set_option linter.unusedVariables false
set_option linter.unusedSimpArgs false
set_option linter.unnecessarySimpa false
/- What functions come to (14): one redex reduced; ReduceAt. -/
namespace Go.Den
open Go
set_option linter.unusedVariables false
set_option maxRecDepth 100000

/-- A term with the redex of a number reduced. -/
def red : Pt → Nat → Pt
  | t, 0 => t.beta
  | .var n, _ + 1 => .var n
  | .lam n x, k + 1 => .lam n (red x k)
  | .app n a c, k + 1 => if k < a.size then .app n (red a k) c else .app n a (red c (k - a.size))
theorem red_kd (t : Pt) (k : Nat) : (red t (k + 1)).kd = t.kd ∧ (red t (k + 1)).num = t.num := by
  cases t with
  | var n => exact ⟨rfl, rfl⟩
  | lam n x => exact ⟨rfl, rfl⟩
  | app n a c => simp only [red]; split <;> exact ⟨rfl, rfl⟩
theorem red_size : ∀ (t : Pt) (k : Nat), rxAt t k = true → t.size ≤ 150 → (red t k).size ≤ t.size + 22500 ∧ (red t k).depth ≤ 2 * t.depth
  | .var n, 0, h, hz => by cases h
  | .var n, k + 1, h, hz => by cases h
  | .lam n x, 0, h, hz => by cases h
  | .lam n x, k + 1, h, hz => by
    simp only [Pt.size] at hz
    have := red_size x k h (by omega)
    simp only [red, Pt.size, Pt.depth]
    omega
  | .app n a c, 0, h, hz => by
    obtain ⟨n', n1, x, y, e⟩ := redex_app (t := .app n a c) h
    cases e
    simp only [Pt.size] at hz
    have h3 := sub_size 0 c x 0
    have hm : x.size * c.size ≤ 150 * 150 := Nat.mul_le_mul (by omega) (by omega)
    simp only [red, Pt.beta, Pt.size, Pt.depth]
    omega
  | .app n a c, k + 1, h, hz => by
    simp only [Pt.size] at hz
    simp only [rxAt] at h
    simp only [red]
    split
    · rename_i hk
      rw [if_pos hk] at h
      have := red_size a k h (by omega)
      simp only [Pt.size, Pt.depth]
      omega
    · rename_i hk
      rw [if_neg hk] at h
      have := red_size c _ h (by omega)
      simp only [Pt.size, Pt.depth]
      omega
/-- A part, on the way to a number. -/
def stepAt (r : List Pt × Int) (x : Pt) : List Pt × Int :=
  if 0 ≤ r.2 then (if r.2 < x.size then (r.1 ++ [red x r.2.toNat], -1) else (r.1 ++ [x], r.2 - x.size)) else (r.1 ++ [x], r.2)
def foldAt (t : Pt) (k : Int) (i : Nat) : List Pt × Int := (t.kids.take i).foldl stepAt ([], k)
theorem foldAt_succ {t x : Pt} {k : Int} {i : Nat} (h : t.kids[i]? = some x) : foldAt t k (i + 1) = stepAt (foldAt t k i) x := by
  unfold foldAt
  rw [List.take_add_one, h, List.foldl_append]
  rfl
theorem foldAt_len (t : Pt) (k : Int) : ∀ i, i ≤ t.kids.length → (foldAt t k i).1.length = i
  | 0, _ => rfl
  | i + 1, h => by
    have hx := List.getElem?_eq_getElem (l := t.kids) (i := i) (by omega)
    rw [foldAt_succ hx]
    have := foldAt_len t k i (by omega)
    unfold stepAt
    split
    · split <;> simp [this]
    · simp [this]
theorem foldAt_bound (t : Pt) (k : Int) : ∀ i, -1 ≤ k → -1 ≤ (foldAt t k i).2 ∧ (foldAt t k i).2 ≤ k
  | 0, h => ⟨h, Int.le_refl _⟩
  | i + 1, h => by
    have ih := foldAt_bound t k i h
    cases hx : t.kids[i]? with
    | none =>
      have : foldAt t k (i + 1) = foldAt t k i := by
        unfold foldAt
        rw [List.take_add_one, hx]
        simp
      rw [this]
      exact ih
    | some x =>
      rw [foldAt_succ hx]
      have := x.size_pos
      unfold stepAt
      split
      · split
        · simp only; omega
        · simp only; omega
      · exact ih
theorem foldAt_red {t : Pt} {j : Nat} (h : j + 1 < t.size) : foldAt t j t.kids.length = ((red t (j + 1)).kids, -1) := by
  unfold foldAt
  rw [List.take_length]
  cases t with
  | var n => simp only [Pt.size] at h; omega
  | lam n x =>
    simp only [Pt.size] at h
    simp only [Pt.kids, List.foldl_cons, List.foldl_nil, stepAt, red]
    rw [if_pos (by omega), if_pos (by omega)]
    simp
  | app n a c =>
    simp only [Pt.size] at h
    simp only [Pt.kids, List.foldl_cons, List.foldl_nil, red]
    by_cases hk : j < a.size
    · rw [if_pos hk]
      have e : stepAt ([], (j : Int)) a = ([red a j], -1) := by
        unfold stepAt
        simp only
        rw [if_pos (by omega), if_pos (by omega)]
        simp
      rw [e]
      unfold stepAt
      simp only
      rw [if_neg (by omega)]
      simp
    · rw [if_neg hk]
      have e : stepAt ([], (j : Int)) a = ([a], (j : Int) - a.size) := by
        unfold stepAt
        simp only
        rw [if_pos (by omega), if_neg (by omega)]
        simp
      rw [e]
      unfold stepAt
      simp only
      rw [if_pos (by omega), if_pos (by omega), show ((j : Int) - a.size).toNat = j - a.size by omega]
      simp
theorem foldAt_past {t : Pt} {j : Nat} (h : t.size ≤ j + 1) : foldAt t j t.kids.length = (t.kids, (j : Int) + 1 - t.size) := by
  unfold foldAt
  rw [List.take_length]
  cases t with
  | var n => simp [Pt.kids, Pt.size]
  | lam n x =>
    simp only [Pt.size] at h
    simp only [Pt.kids, List.foldl_cons, List.foldl_nil, stepAt, Pt.size]
    rw [if_pos (by omega), if_neg (by omega)]
    simp
    omega
  | app n a c =>
    simp only [Pt.size] at h
    simp only [Pt.kids, List.foldl_cons, List.foldl_nil, Pt.size]
    have e : stepAt ([], (j : Int)) a = ([a], (j : Int) - a.size) := by
      unfold stepAt
      simp only
      rw [if_pos (by omega), if_neg (by omega)]
      simp
    rw [e]
    unfold stepAt
    simp only
    rw [if_pos (by omega), if_neg (by omega)]
    simp
    omega
/-- Where a part is met with a number of its own, that is a redex of it. -/
theorem foldAt_rx {t x : Pt} {j i : Nat} (hr : j + 1 < t.size → rxAt t (j + 1) = true) (hx : t.kids[i]? = some x) (h0 : 0 ≤ (foldAt t j i).2) (h1 : (foldAt t j i).2 < x.size) : rxAt x (foldAt t j i).2.toNat = true := by
  cases t with
  | var n => simp [Pt.kids] at hx
  | lam n y =>
    match i, hx with
    | 0, hx =>
      simp [Pt.kids] at hx
      subst hx
      have e : (foldAt (.lam n y) j 0).2 = j := rfl
      rw [e] at h1 ⊢
      simp only [Pt.size] at hr
      exact hr (by omega)
    | i + 1, hx => simp [Pt.kids] at hx
  | app n a c =>
    match i, hx with
    | 0, hx =>
      simp [Pt.kids] at hx
      subst hx
      have e : (foldAt (.app n a c) j 0).2 = j := rfl
      rw [e] at h1 ⊢
      simp only [Pt.size] at hr
      have := hr (by omega)
      simp only [rxAt] at this
      rw [if_pos (by omega)] at this
      exact this
    | 1, hx =>
      simp [Pt.kids] at hx
      subst hx
      have e : (foldAt (.app n a c) j 1).2 = (stepAt ([], (j : Int)) a).2 := rfl
      rw [e] at h0 h1 ⊢
      by_cases hk : j < a.size
      · exfalso
        unfold stepAt at h0
        simp only at h0
        rw [if_pos (by omega), if_pos (by omega)] at h0
        simp at h0
      · have e2 : (stepAt ([], (j : Int)) a).2 = (j : Int) - a.size := by
          unfold stepAt
          simp only
          rw [if_pos (by omega), if_neg (by omega)]
        rw [e2] at h0 h1 ⊢
        simp only [Pt.size] at hr
        have := hr (by omega)
        simp only [rxAt] at this
        rw [if_neg hk] at this
        rw [show ((j : Int) - a.size).toNat = j - a.size by omega]
        exact this
    | i + 2, hx => simp [Pt.kids] at hx
/-- Small terms. -/
def small (t : Pt) : Prop := t.size ≤ 150 ∧ t.depth ≤ 40 ∧ t.within 1000000
theorem small_kid {t x : Pt} (h : small t) (hx : x ∈ t.kids) : small x := by
  have h1 := Pt.kids_lt hx
  refine ⟨by have := h.1; omega, by have := h.2.1; omega, ?_⟩
  have hw := h.2.2
  cases t with
  | var n => cases hx
  | lam n y =>
    simp only [Pt.kids, List.mem_singleton] at hx
    subst hx
    exact hw
  | app n a c =>
    simp only [Pt.kids, List.mem_cons, List.not_mem_nil, or_false] at hx
    rcases hx with rfl | rfl
    · exact hw.1
    · exact hw.2
theorem ev_lcAt : ∀ (d : Nat) (t : Pt) (k : Nat), t.depth ≤ d → small t → k ≤ 1000 → (k < t.size → rxAt t k = true) →
    EvN (d + 2100) 59 [.dat t.d, .dat (I k)] [] [] (if k < t.size then ([.dat (red t k).d, .dat (I (-1))], [], []) else ([.dat t.d, .dat (I ((k : Int) - t.size))], [], []))
  | 0, t, k, hd, hs, hk, hr => by have := t.depth_pos; omega
  | d + 1, t, 0, hd, hs, hk, hr => by
    have hp := t.size_pos
    rw [if_pos (by omega)]
    obtain ⟨n, n1, x, y, rfl⟩ := redex_app (t := t) (by have := hr (by omega); cases t <;> exact this)
    refine EvN.mono (ev_fn Go.Proofs.Try.f59 (d + 2100) (by kernel_rfl) (by kernel_rfl) fun kk hkk => ?_) (by omega)
    have h1 := hs.2.1
    simp only [Pt.depth] at h1
    have h := ev_lcBeta false n n1 x y hs.2.2.1 hs.2.2.2 (by omega) (by omega) kk (by omega)
    unfold Pt.db at h
    have e : red (.app n (.lam n1 x) y) 0 = sub 0 y 0 x := rfl
    rw [e, Pt.d_eq (sub 0 y 0 x)]
    rw [Pt.d_eq (sub 0 y 0 x)] at h
    rw [Pt.d_eq (.app n (.lam n1 x) y)]
    exact lcAt_here kk 0 _ _ _ _ _ _ rfl h
  | d + 1, t, j + 1, hd, hs, hk, hr => by
    have hle := t.kids_le
    have hw : w64 ((((j + 1 : Nat) : Int)) - 1) = (j : Int) := (w64_eq (by omega)).trans (by omega)
    have hloop : ∀ kk, d + 2100 ≤ kk → LoopAt cfg kk 59 Go.Proofs.Try.f59 6 (hd59 j t.kd t.num (t.kids.map Pt.d) [] 0) (X.exit 0) (Nm [1, 4, 6] [D.dat (I (foldAt t j t.kids.length).2), D.ptr (Ref.loc 4) 0, D.ptr (Ref.loc 6) 0] [none, some [D.dat (I 0), D.dat (I 0), D.own 46 []], some [D.dat (I t.kd), D.dat (I t.num), D.own 46 ((foldAt t j t.kids.length).1.map Pt.d)]] [] []) := by
      intro kk hkk
      refine loopAt_range (fun i => hd59 (foldAt t j i).2 t.kd t.num (t.kids.map Pt.d) ((foldAt t j i).1.map Pt.d) i) t.kids.length (by omega) (fun i hi m s K hs' hn => ?_) (fun m s K hs' hK => ?_) rfl
      · obtain ⟨x, h1, h2, h3⟩ := kid_at hi
        have hx := Pt.kids_lt h2
        have hto : ((i : Int)).toNat = i := by simp
        have hlen := foldAt_len t j i (by omega)
        have hb := foldAt_bound t j i (by omega)
        have hsuc := foldAt_succ (k := j) h1
        by_cases h0 : 0 ≤ (foldAt t j i).2
        · have hq : (((foldAt t j i).2.toNat : Nat) : Int) = (foldAt t j i).2 := by omega
          have ih := ev_lcAt d x (foldAt t j i).2.toNat (by omega) (small_kid hs h2) (by omega) (fun hlt => foldAt_rx hr h1 h0 (by omega)) kk (by omega)
          rw [hq] at ih
          by_cases hlt : (foldAt t j i).2 < x.size
          · rw [if_pos (by omega)] at ih
            rw [Pt.d_eq x, Pt.d_eq (red x _)] at ih
            refine lcAt_in kk m _ t.kd t.num _ _ _ x.kd x.num _ _ _ _ _ hs' (decide_eq_true (by simp; omega)) ⟨⟨by omega, by simp; omega⟩, by rw [hto]; exact h3⟩ (decide_eq_true h0) ih (by simp; omega) fun s' hs2 => hn s' ?_
            have hst : foldAt t j (i + 1) = ((foldAt t j i).1 ++ [red x (foldAt t j i).2.toNat], -1) := by
              rw [hsuc]
              unfold stepAt
              rw [if_pos h0, if_pos hlt]
            rw [hs2, w64_eq (n := (i : Int) + 1) (by omega)]
            simp only [hd59, hst, List.map_append, List.map_cons, List.map_nil, ← Pt.d_eq]
            rfl
          · rw [if_neg (by omega)] at ih
            rw [Pt.d_eq x] at ih
            refine lcAt_in kk m _ t.kd t.num _ _ _ x.kd x.num _ _ _ _ _ hs' (decide_eq_true (by simp; omega)) ⟨⟨by omega, by simp; omega⟩, by rw [hto]; exact h3⟩ (decide_eq_true h0) ih (by simp; omega) fun s' hs2 => hn s' ?_
            have hst : foldAt t j (i + 1) = ((foldAt t j i).1 ++ [x], (foldAt t j i).2 - x.size) := by
              rw [hsuc]
              unfold stepAt
              rw [if_pos h0, if_neg hlt]
            rw [hs2, w64_eq (n := (i : Int) + 1) (by omega)]
            simp only [hd59, hst, List.map_append, List.map_cons, List.map_nil, ← Pt.d_eq]
            rfl
        · refine lcAt_past kk m _ t.kd t.num _ _ _ x.kd x.num _ hs' (decide_eq_true (by simp; omega)) ⟨⟨by omega, by simp; omega⟩, by rw [hto]; exact h3⟩ (decide_eq_false h0) (by simp; omega) fun s' hs2 => hn s' ?_
          have hst : foldAt t j (i + 1) = ((foldAt t j i).1 ++ [x], (foldAt t j i).2) := by
            rw [hsuc]
            unfold stepAt
            rw [if_neg h0]
          rw [hs2, w64_eq (n := (i : Int) + 1) (by omega)]
          simp only [hd59, hst, List.map_append, List.map_cons, List.map_nil, ← Pt.d_eq]
          rfl
      · exact lcAt_end kk m _ t.kd t.num _ _ _ hs' (decide_eq_false (by simp)) hK
    refine EvN.mono (ev_fn Go.Proofs.Try.f59 (d + 2100) (by kernel_rfl) (by kernel_rfl) fun kk hkk => ?_) (by omega)
    have hl := hloop kk hkk
    have hl' : LoopAt cfg kk 59 Go.Proofs.Try.f59 6 (hd59 (w64 (((j + 1 : Nat) : Int) - 1)) t.kd t.num (t.kids.map Pt.d) [] 0) (X.exit 0) (Nm [1, 4, 6] [D.dat (I (foldAt t j t.kids.length).2), D.ptr (Ref.loc 4) 0, D.ptr (Ref.loc 6) 0] [none, some [D.dat (I 0), D.dat (I 0), D.own 46 []], some [D.dat (I t.kd), D.dat (I t.num), D.own 46 ((foldAt t j t.kids.length).1.map Pt.d)]] [] []) := by rw [hw]; exact hl
    have := lcAt kk _ t.kd t.num _ _ _ (decide_eq_false (by omega)) hl'
    rw [← Pt.d_eq] at this
    rw [this]
    by_cases hlt : j + 1 < t.size
    · rw [if_pos hlt, foldAt_red hlt, Pt.d_eq (red t (j + 1)), (red_kd t j).1, (red_kd t j).2]
    · rw [if_neg hlt, foldAt_past (by omega), ← Pt.d_eq]
      simp only
      rw [show ((j + 1 : Nat) : Int) = (j : Int) + 1 by omega]
/-! ### the program's -/
def rxKids : Pt → Nat → Nat → List Nat
  | .lam _ x, at_, 1 => rx x (at_ + 1)
  | .app _ a _, at_, 1 => rx a (at_ + 1)
  | .app _ a c, at_, 2 => rx a (at_ + 1) ++ rx c (at_ + 1 + a.size)
  | _, _, _ => []
theorem ev_redexes : ∀ (d : Nat) (t : Pt) (at_ : Nat), t.depth ≤ d → t.size ≤ 150 → at_ ≤ 1000000 → at_ + t.size ≤ 1000000 → EvN (d + 100) 61 [.dat t.d, .dat (I at_)] [] [] ([.own 3 ((rx t at_).map IN)], [], [])
  | 0, t, at_, hd, hz, h0, h1 => by have := t.depth_pos; omega
  | d + 1, t, at_, hd, hz, h0, h1 => by
    have hle := t.kids_le
    have hw : w64 ((at_ : Int) + 1) = ((at_ + 1 : Nat) : Int) := (w64_eq (by omega)).trans (by omega)
    let pos := fun i : Nat => at_ + 1 + ((t.kids.take i).map Pt.size).sum
    let hd0 : List Nat := if t.isRedex = true then [at_] else []
    let acc := fun i : Nat => hd0 ++ rxKids t at_ i
    have hstep : ∀ i x, t.kids[i]? = some x → acc (i + 1) = acc i ++ rx x (pos i) ∧ pos (i + 1) = pos i + x.size ∧ pos i + x.size ≤ at_ + t.size := by
      intro i x hx
      cases t with
      | var n => simp [Pt.kids] at hx
      | lam n y =>
        match i, hx with
        | 0, hx =>
          simp [Pt.kids] at hx
          subst hx
          exact ⟨by simp [acc, pos, rxKids], by simp [pos, Pt.kids], by simp only [pos, Pt.size, List.take_zero, List.map_nil, List.sum_nil]; omega⟩
        | i + 1, hx => simp [Pt.kids] at hx
      | app n a c =>
        match i, hx with
        | 0, hx =>
          simp [Pt.kids] at hx
          subst hx
          exact ⟨by simp [acc, pos, rxKids], by simp [pos, Pt.kids], by simp only [pos, Pt.size, List.take_zero, List.map_nil, List.sum_nil]; omega⟩
        | 1, hx =>
          simp [Pt.kids] at hx
          subst hx
          exact ⟨by simp [acc, pos, Pt.kids, rxKids], by simp [pos, Pt.kids]; try omega, by simp only [pos, Pt.kids, Pt.size, List.take_succ_cons, List.take_zero, List.map_cons, List.map_nil, List.sum_cons, List.sum_nil]; omega⟩
        | i + 2, hx => simp [Pt.kids] at hx
    have hend : acc t.kids.length = rx t at_ := by
      cases t with
      | var n => rfl
      | lam n y => rfl
      | app n a c =>
        simp only [acc, hd0, Pt.kids, rx, Pt.isRedex, List.length_cons, List.length_nil, decide_eq_true_eq, rxKids]
    have hacc : ∀ i, i ≤ t.kids.length → (acc i).length ≤ 1 + 3 * 150 := by
      intro i hi
      have hh : hd0.length ≤ 1 := by
        simp only [hd0]
        split <;> simp
      have hz' := hz
      cases t with
      | var n => simp only [acc, List.length_append, rxKids]; simp; omega
      | lam n y =>
        have h1 := rx_length y (at_ + 1)
        simp only [Pt.size] at hz'
        match i, hi with
        | 0, _ => simp only [acc, List.length_append, rxKids]; simp; omega
        | 1, _ => simp only [acc, List.length_append, rxKids]; omega
        | i + 2, hi => simp [Pt.kids] at hi
      | app n a c =>
        have h1 := rx_length a (at_ + 1)
        have h2 := rx_length c (at_ + 1 + a.size)
        simp only [Pt.size] at hz'
        match i, hi with
        | 0, _ => simp only [acc, List.length_append, rxKids]; simp; omega
        | 1, _ => simp only [acc, List.length_append, rxKids]; omega
        | 2, _ => simp only [acc, List.length_append, rxKids]; omega
        | i + 3, hi => simp [Pt.kids] at hi
    have hloop : ∀ kk, d + 100 ≤ kk → LoopAt cfg kk 61 Go.Proofs.Try.f61 6 (hd61 (w64 ((at_ : Int) + 1)) (t.kids.map Pt.d) (hd0.map IN) 0) (X.exit 0) (Nm [5] [.own 3 ((rx t at_).map IN)] [none] [] []) := by
      intro kk hkk
      rw [hw, ← hend]
      refine loopAt_range (fun i => hd61 (pos i) (t.kids.map Pt.d) ((acc i).map IN) i) t.kids.length (by omega) (fun i hi m s K hs' hn => ?_) (fun m s K hs' hK => ?_) ?_
      · obtain ⟨x, h1, h2, h3⟩ := kid_at hi
        have hx := Pt.kids_lt h2
        have hto : ((i : Int)).toNat = i := by simp
        obtain ⟨e1, e2, e3⟩ := hstep i x h1
        have ih := ev_redexes d x (pos i) (by omega) (by omega) (by omega) (by omega) kk (by omega)
        have hsz := ev_size d x (by omega) (by omega) kk (by omega)
        rw [Pt.d_eq x] at ih hsz
        have hl1 := hacc i (by omega)
        have hl2 := rx_length x (pos i)
        refine redexes_go kk m _ _ _ _ x.kd x.num _ _ _ hs' (decide_eq_true (by simp; omega)) ⟨⟨by omega, by simp; omega⟩, by rw [hto]; exact h3⟩ ih ⟨?_, by simp; omega⟩ hsz fun s' hs2 => hn s' ?_
        · rw [List.all_eq_true]
          intro q hq
          obtain ⟨v, _, rfl⟩ := List.mem_map.1 hq
          rfl
        · rw [hs2, w64_eq (n := (i : Int) + 1) (by omega), w64_eq (n := ((pos i : Nat) : Int) + x.size) (by omega)]
          simp only [hd61, e1, e2, List.map_append]
          rfl
      · exact redexes_end kk m _ _ _ _ hs' (decide_eq_false (by simp)) hK
      · have e0 : rxKids t at_ 0 = [] := by cases t <;> rfl
        simp [pos, acc, e0]
    refine EvN.mono (ev_fn Go.Proofs.Try.f61 (d + 100) (by kernel_rfl) (by kernel_rfl) fun kk hkk => ?_) (by omega)
    have hr := ev_isRedex t kk (by omega)
    have hl := hloop kk hkk
    rw [Pt.d_eq t] at hr ⊢
    cases hb : t.isRedex with
    | true =>
      have e0 : hd0 = [at_] := if_pos hb
      rw [hb] at hr
      rw [e0] at hl
      exact redexes_y kk t.kd t.num at_ _ _ 0 hr (by omega) hl
    | false =>
      have e0 : hd0 = [] := if_neg (by rw [hb]; intro h; cases h)
      rw [hb] at hr
      rw [e0] at hl
      exact redexes_n kk t.kd t.num at_ _ _ 0 hr hl
theorem ev_reduceAt : ∀ (d : Nat) (t : Pt) (k : Nat), t.depth ≤ d → small t → rxAt t k = true → k < t.size → EvN (d + 2100) 62 [.dat t.d, .dat (I k)] [] [] ([.dat (red t k).d], [], [])
  | 0, t, k, hd, hs, hr, hk => by have := t.depth_pos; omega
  | d + 1, t, 0, hd, hs, hr, hk => by
    obtain ⟨n, n1, x, y, rfl⟩ := redex_app (t := t) (by cases t <;> exact hr)
    refine EvN.mono (ev_fn Go.Proofs.Try.f62 (d + 2100) (by kernel_rfl) (by kernel_rfl) fun kk hkk => ?_) (by omega)
    have h1 := hs.2.1
    simp only [Pt.depth] at h1
    have h := ev_reduced n n1 x y hs.2.2.1 hs.2.2.2 (by omega) (by omega) kk (by omega)
    have e : red (.app n (.lam n1 x) y) 0 = sub 0 y 0 x := rfl
    rw [e, Pt.d_eq (sub 0 y 0 x), Pt.d_eq (.app n (.lam n1 x) y)]
    rw [Pt.d_eq (sub 0 y 0 x), Pt.d_eq (.app n (.lam n1 x) y)] at h
    exact reduceAt_here kk 0 _ _ _ _ _ _ rfl h
  | d + 1, t, j + 1, hd, hs, hr, hk => by
    have hle := t.kids_le
    have hsz := hs.1
    have hw : w64 ((((j + 1 : Nat) : Int)) - 1) = (j : Int) := (w64_eq (by omega)).trans (by omega)
    -- the number goes on falling behind the part that has been reduced
    have hst : ∃ kf : Nat → Int, kf 0 = j ∧ ∀ i x, t.kids[i]? = some x → -1000 ≤ kf i ∧ kf i ≤ 1000 ∧
        ((0 ≤ kf i ∧ kf i < x.size ∧ (foldAt t j i).2 = kf i ∧ kf (i + 1) = -1) ∨ (0 ≤ kf i ∧ ¬ kf i < x.size ∧ (foldAt t j i).2 = kf i ∧ kf (i + 1) = kf i - x.size) ∨ (¬ 0 ≤ kf i ∧ ¬ 0 ≤ (foldAt t j i).2 ∧ kf (i + 1) = kf i - x.size)) := by
      cases t with
      | var n => exact ⟨fun _ => j, rfl, fun i x hx => by simp [Pt.kids] at hx⟩
      | lam n y =>
        simp only [Pt.size] at hk hsz
        refine ⟨fun i => if i = 0 then j else -1, rfl, fun i x hx => ?_⟩
        match i, hx with
        | 0, hx =>
          simp [Pt.kids] at hx
          subst hx
          refine ⟨by first | (simp; done) | (simp; omega), by first | (simp; done) | (simp; omega), .inl ⟨by simp, by first | (simp; done) | (simp; omega), rfl, rfl⟩⟩
        | i + 1, hx => simp [Pt.kids] at hx
      | app n a c =>
        simp only [Pt.size] at hk hsz
        by_cases hj : j < a.size
        · refine ⟨fun i => if i = 0 then j else if i = 1 then -1 else -1 - c.size, rfl, fun i x hx => ?_⟩
          match i, hx with
          | 0, hx =>
            simp [Pt.kids] at hx
            subst hx
            refine ⟨by first | (simp; done) | (simp; omega), by first | (simp; done) | (simp; omega), .inl ⟨by simp, by first | (simp; done) | (simp; omega), rfl, rfl⟩⟩
          | 1, hx =>
            simp [Pt.kids] at hx
            subst hx
            have e : (foldAt (.app n a c) j 1).2 = -1 := by
              have : foldAt (.app n a c) j 1 = stepAt ([], (j : Int)) a := rfl
              rw [this]
              unfold stepAt
              simp only
              rw [if_pos (by omega), if_pos (by omega)]
            refine ⟨by simp, by simp, .inr (.inr ⟨by simp, by rw [e]; decide, by simp⟩)⟩
          | i + 2, hx => simp [Pt.kids] at hx
        · refine ⟨fun i => if i = 0 then j else if i = 1 then (j : Int) - a.size else -1, rfl, fun i x hx => ?_⟩
          match i, hx with
          | 0, hx =>
            simp [Pt.kids] at hx
            subst hx
            refine ⟨by first | (simp; done) | (simp; omega), by first | (simp; done) | (simp; omega), .inr (.inl ⟨by simp, by first | (simp; done) | (simp; omega), rfl, by simp⟩)⟩
          | 1, hx =>
            simp [Pt.kids] at hx
            subst hx
            have e : (foldAt (.app n a c) j 1).2 = (j : Int) - a.size := by
              have : foldAt (.app n a c) j 1 = stepAt ([], (j : Int)) a := rfl
              rw [this]
              unfold stepAt
              simp only
              rw [if_pos (by omega), if_neg (by omega)]
            refine ⟨by first | (simp; done) | (simp; omega), by first | (simp; done) | (simp; omega), .inl ⟨by first | (simp; done) | (simp; omega), by first | (simp; done) | (simp; omega), by rw [e]; simp, by simp⟩⟩
          | i + 2, hx => simp [Pt.kids] at hx
    obtain ⟨kf, hk0, hkf⟩ := hst
    refine EvN.mono (ev_fn Go.Proofs.Try.f62 (d + 2100) (by kernel_rfl) (by kernel_rfl) fun kk hkk => ?_) (by omega)
    have hl : LoopAt cfg kk 62 Go.Proofs.Try.f62 6 (hd62 (w64 (((j + 1 : Nat) : Int) - 1)) t.kd t.num (t.kids.map Pt.d) [] 0) (X.exit 0) (Nm [4, 5] [.ptr (.loc 4) 0, .ptr (.loc 5) 0] [some [.dat (I 0), .dat (I 0), .own 55 []], some [.dat (I t.kd), .dat (I t.num), .own 55 ((red t (j + 1)).kids.map Pt.d)]] [] []) := by
      rw [hw]
      refine loopAt_range (fun i => hd62 (kf i) t.kd t.num (t.kids.map Pt.d) ((foldAt t j i).1.map Pt.d) i) t.kids.length (by omega) (fun i hi m s K hs' hn => ?_) (fun m s K hs' hK => ?_) ?_
      · obtain ⟨x, h1, h2, h3⟩ := kid_at hi
        have hx := Pt.kids_lt h2
        have hto : ((i : Int)).toNat = i := by simp
        have hlen := foldAt_len t j i (by omega)
        have hsuc := foldAt_succ (k := j) h1
        obtain ⟨b1, b2, hc⟩ := hkf i x h1
        have hsx := ev_size d x (by omega) (by omega) kk (by omega)
        rw [Pt.d_eq x] at hsx
        rcases hc with ⟨c1, c2, c3, c4⟩ | ⟨c1, c2, c3, c4⟩ | ⟨c1, c2, c4⟩
        · have hrx := foldAt_rx (fun _ => hr) h1 (by omega) (by omega)
          have ih := ev_reduceAt d x (kf i).toNat (by omega) (small_kid hs h2) (by rw [← c3]; exact hrx) (by omega) kk (by omega)
          rw [show (((kf i).toNat : Nat) : Int) = kf i by omega, Pt.d_eq x, Pt.d_eq (red x _)] at ih
          refine reduceAt_in kk m _ t.kd t.num _ _ _ x.kd x.num _ _ _ _ _ hs' (decide_eq_true (by simp; omega)) ⟨⟨by omega, by simp; omega⟩, by rw [hto]; exact h3⟩ hsx (decide_eq_true c1) (decide_eq_true c2) ih (by simp; omega) fun s' hs2 => hn s' ?_
          have hst : foldAt t j (i + 1) = ((foldAt t j i).1 ++ [red x (kf i).toNat], -1) := by
            rw [hsuc]
            unfold stepAt
            rw [c3, if_pos c1, if_pos c2]
          rw [hs2, w64_eq (n := (i : Int) + 1) (by omega)]
          simp only [hd62, hst, c4, List.map_append, List.map_cons, List.map_nil, ← Pt.d_eq]
          rfl
        · refine reduceAt_on kk m _ t.kd t.num _ _ _ x.kd x.num _ _ hs' (decide_eq_true (by simp; omega)) ⟨⟨by omega, by simp; omega⟩, by rw [hto]; exact h3⟩ hsx (decide_eq_true c1) (decide_eq_false c2) (by simp; omega) fun s' hs2 => hn s' ?_
          have hst : foldAt t j (i + 1) = ((foldAt t j i).1 ++ [x], kf i - x.size) := by
            rw [hsuc]
            unfold stepAt
            rw [c3, if_pos c1, if_neg c2]
          rw [hs2, w64_eq (n := (i : Int) + 1) (by omega), w64_eq (n := kf i - x.size) (by omega)]
          simp only [hd62, hst, c4, List.map_append, List.map_cons, List.map_nil, ← Pt.d_eq]
          rfl
        · refine reduceAt_past kk m _ t.kd t.num _ _ _ x.kd x.num _ _ hs' (decide_eq_true (by simp; omega)) ⟨⟨by omega, by simp; omega⟩, by rw [hto]; exact h3⟩ hsx (decide_eq_false c1) (by simp; omega) fun s' hs2 => hn s' ?_
          have hst : foldAt t j (i + 1) = ((foldAt t j i).1 ++ [x], (foldAt t j i).2) := by
            rw [hsuc]
            unfold stepAt
            rw [if_neg c2]
          rw [hs2, w64_eq (n := (i : Int) + 1) (by omega), w64_eq (n := kf i - x.size) (by omega)]
          simp only [hd62, hst, c4, List.map_append, List.map_cons, List.map_nil, ← Pt.d_eq]
          rfl
      · refine reduceAt_end kk m _ t.kd t.num _ _ _ hs' (decide_eq_false (by simp)) ?_
        rw [foldAt_red hk]
        exact hK
      · rw [hk0]
        rfl
    have := reduceAt kk _ t.kd t.num _ _ (decide_eq_false (by omega)) hl
    rw [← Pt.d_eq] at this
    rw [this, Pt.d_eq (red t (j + 1)), (red_kd t j).1, (red_kd t j).2]

/-! ### both sides of ReduceAt -/
def ratN (L : List Nd) (v : Int) : List Nd × Bool :=
  match termOfP L with
  | some t => if hasI (rx t 0) v = true then (if (red t v.toNat).good = true then (red t v.toNat).flat 0 (-1) else [], (red t v.toNat).good) else ([], false)
  | none => ([], false)
theorem rat_facts {t : Pt} {v : Int} (hs : small t) (h : hasI (rx t 0) v = true) : ∃ q : Nat, v = q ∧ q < t.size ∧ rxAt t q = true ∧ (red t q).size ≤ 22650 ∧ (red t q).depth ≤ 80 := by
  obtain ⟨q, h1, h2⟩ := hasI_mem h
  obtain ⟨_, h3, h4⟩ := rx_range t 0 q h2
  have h5 := red_size t q (by simpa using h4) hs.1
  have := hs.1
  have := hs.2.1
  exact ⟨q, h1, by omega, by simpa using h4, by omega, by omega⟩
theorem ev_iRat (L : List Nd) (b : Bool) (v : Int) (hL : L.length ≤ 1048576) : EvN 5000 25 [.dat (.lst b (L.map Nd.d)), .dat (I v)] [] [] ([.own 50 ((ratN L v).1.map Nd.d), .dat (B (ratN L v).2)], [], []) := by
  refine (ev_fn Go.Proofs.Try.f25 4900 (by kernel_rfl) (by kernel_rfl) fun kk hkk => ?_).mono (by omega)
  obtain ⟨hy, hn⟩ := ev_termOf L b hL
  unfold ratN
  cases h1 : termOfP L with
  | none =>
    obtain ⟨k1, n1, d1, e1⟩ := hn h1
    exact iReduceAt_no1 kk b _ v _ _ _ (e1 kk (by omega))
  | some t =>
    have a1 := hy t h1 kk (by omega)
    have hg : small t := good_small ((termOfP_iff L t).1 h1).1
    have a2 := ev_redexes 40 t 0 hg.2.1 hg.1 (by omega) (by have := hg.1; omega) kk (by omega)
    have hrl := rx_length t 0
    have a3 := ev_containsI (rx t 0) true v (by have := hg.1; omega) kk (by omega)
    simp only
    cases h2 : hasI (rx t 0) v with
    | false =>
      rw [if_neg (by intro h; cases h)]
      rw [h2] at a3
      rw [Pt.d_eq] at a1 a2
      exact iReduceAt_no2 kk b _ v _ _ _ _ a1 a2 a3
    | true =>
      rw [if_pos rfl]
      rw [h2] at a3
      obtain ⟨q, rfl, hq, hrx, hz1, hz2⟩ := rat_facts hg h2
      rw [show ((q : Int)).toNat = q by simp]
      have a4 := ev_reduceAt 40 t q hg.2.1 hg hrx hq kk (by omega)
      have a5 := ev_goodNodes (red t q) (by omega) kk (by omega)
      rw [Pt.d_eq t] at a1 a2
      rw [Pt.d_eq t, Pt.d_eq (red t q)] at a4
      rw [Pt.d_eq (red t q)] at a5
      exact iReduceAt_go kk b _ q _ _ _ _ _ _ _ _ _ a1 a2 a3 a4 a5
theorem ev_sRat (L : List Nd) (b : Bool) (v : Int) (hL : L.length ≤ 1048576) : EvN 1005000 24 [.dat (.lst b (L.map Nd.d)), .dat (I v)] [] [] ([.own 50 ((ratN L v).1.map Nd.d), .dat (B (ratN L v).2)], [], []) := by
  refine (ev_fn Go.Proofs.Try.f24 1004900 (by kernel_rfl) (by kernel_rfl) fun kk hkk => ?_).mono (by omega)
  have g := ev_GoodTerm L b hL kk (by omega)
  rw [goodS_term] at g
  unfold ratN
  cases h1 : termOfP L with
  | none =>
    rw [h1] at g
    exact ReduceAt_no1 kk b _ v g
  | some t =>
    rw [h1] at g
    have hg : small t := good_small ((termOfP_iff L t).1 h1).1
    have a1 := ev_tree b h1 kk (by omega)
    have a2 := ev_lcRedexes t b hg.1 kk (by omega)
    rw [← ((termOfP_iff L t).1 h1).2] at a2
    have hrl := rx_length t 0
    have a3 := ev_lcHas (rx t 0) true v (by have := hg.1; omega) kk (by omega)
    simp only
    cases h2 : hasI (rx t 0) v with
    | false =>
      rw [if_neg (by intro h; cases h)]
      rw [h2] at a3
      exact ReduceAt_no2 kk b _ v _ g a2 a3
    | true =>
      rw [if_pos rfl]
      rw [h2] at a3
      obtain ⟨q, rfl, hq, hrx, hz1, hz2⟩ := rat_facts hg h2
      rw [show ((q : Int)).toNat = q by simp]
      have a4 := ev_lcAt 40 t q hg.2.1 hg (by have := hg.1; omega) (fun _ => hrx) kk (by omega)
      rw [if_pos hq] at a4
      have a5 := ev_lcTold (red t q) (by omega) kk (by omega)
      rw [Pt.d_eq t] at a1
      rw [Pt.d_eq t, Pt.d_eq (red t q)] at a4
      rw [Pt.d_eq (red t q)] at a5
      exact ReduceAt_go kk b _ q _ _ _ _ _ _ _ _ _ _ g a2 a3 a1 a4 a5
theorem ratN_len (L : List Nd) (v : Int) : (ratN L v).1.length ≤ 150 := by
  unfold ratN
  split
  · split
    · simp only
      split
      · rename_i h
        rw [Pt.flat_length]
        exact (good_small h).1
      · simp
    · simp
  · simp
end Go.Den
/- The ways through functions, told by den (written by gen.py, a program of this session's, out of hints). -/
namespace Go.Den
open Go
set_option linter.unusedVariables false
set_option maxRecDepth 100000
def hd63 (es : List Dat) (fuel n : Int) : St := Nm [0, 1, 7] [.own 50 es, .dat (I fuel), .dat (I n)] [none, none, none] [] []
theorem lcNormal_done (kk m : Nat) {s : St} {K : X → St → Prop} (es : List Dat) (fuel n : Int) (rs : List Dat) (hs : s.norm ((envOf cfg kk 63 Go.Proofs.Try.f63).live (firstRegion (lp Go.Proofs.Try.f63 3))) = hd63 es fuel n) (h1 : D.cleans [D.own 3 rs] = true) (h2 : den cfg kk 58 [D.dat (Dat.lst true es)] [] [] = some ([D.own 3 rs], [], [])) (h3 : decide ((rs.length : Int) = 0) = true) (hK : K (X.ret) (Nm [4, 5, 6] [D.own 50 es, D.dat (I n), D.dat (B true)] [none, none, none] [] [])) : Rounds (envOf cfg kk 63 Go.Proofs.Try.f63) kk (lp Go.Proofs.Try.f63 3) (m + 1) s K :=
  rounds_end [(16, .ret [.own 3 rs]), (200019, .yes)] hs (ps := [D.cleans [D.own 3 rs] = true, den cfg kk 58 [D.dat (Dat.lst true es)] [] [] = some ([D.own 3 rs], [], []), decide ((rs.length : Int) = 0) = true]) (x := X.ret) (by kernel_rfl) rfl ⟨h1, h2, h3, trivial⟩ (by kernel_rfl) hK
theorem lcNormal_stop (kk m : Nat) {s : St} {K : X → St → Prop} (es : List Dat) (fuel n : Int) (rs : List Dat) (hs : s.norm ((envOf cfg kk 63 Go.Proofs.Try.f63).live (firstRegion (lp Go.Proofs.Try.f63 3))) = hd63 es fuel n) (h1 : D.cleans [D.own 3 rs] = true) (h2 : den cfg kk 58 [D.dat (Dat.lst true es)] [] [] = some ([D.own 3 rs], [], [])) (h3 : decide ((rs.length : Int) = 0) = false) (h4 : decide (n = fuel) = true) (hK : K (X.ret) (Nm [4, 5, 6] [D.own 50 [], D.dat (I 0), D.dat (B false)] [none, none, none] [] [])) : Rounds (envOf cfg kk 63 Go.Proofs.Try.f63) kk (lp Go.Proofs.Try.f63 3) (m + 1) s K :=
  rounds_end [(16, .ret [.own 3 rs]), (200019, .no), (200024, .yes)] hs (ps := [D.cleans [D.own 3 rs] = true, den cfg kk 58 [D.dat (Dat.lst true es)] [] [] = some ([D.own 3 rs], [], []), decide ((rs.length : Int) = 0) = false, decide (n = fuel) = true]) (x := X.ret) (by kernel_rfl) rfl ⟨h1, h2, h3, h4, trivial⟩ (by kernel_rfl) hK
theorem lcNormal_bad (kk m : Nat) {s : St} {K : X → St → Prop} (es : List Dat) (fuel n : Int) (rs d d2 out : List Dat) (k1 n1 k2 n2 r0 left : Int) (hs : s.norm ((envOf cfg kk 63 Go.Proofs.Try.f63).live (firstRegion (lp Go.Proofs.Try.f63 3))) = hd63 es fuel n) (h1 : D.cleans [D.own 3 rs] = true) (h2 : den cfg kk 58 [D.dat (Dat.lst true es)] [] [] = some ([D.own 3 rs], [], [])) (h3 : decide ((rs.length : Int) = 0) = false) (h4 : decide (n = fuel) = false) (h5 : (0 : Int) ≤ 0 ∧ 0 < (rs.length : Int)) (h6 : rs[0]? = some (I r0)) (h7 : D.cleans [D.dat (T k1 n1 d)] = true) (h8 : den cfg kk 48 [D.dat (Dat.lst true es), D.dat (I 0)] [] [] = some ([D.dat (T k1 n1 d)], [], [])) (h9 : den cfg kk 59 [D.dat (T k1 n1 d), D.dat (I r0)] [] [] = some ([D.dat (T k2 n2 d2), D.dat (I left)], [], [])) (h10 : den cfg kk 46 [D.dat (T k2 n2 d2)] [] [] = some ([D.own 50 out, D.dat (B false)], [], [])) (hK : K (X.ret) (Nm [4, 5, 6] [D.own 50 [], D.dat (I 0), D.dat (B false)] [none, none, none] [] [])) : Rounds (envOf cfg kk 63 Go.Proofs.Try.f63) kk (lp Go.Proofs.Try.f63 3) (m + 1) s K :=
  rounds_end [(16, .ret [.own 3 rs]), (200019, .no), (200024, .no), (27, .ret [.dat (T k1 n1 d)]), (29, .ok), (30, .at (I r0)), (31, .ret [.dat (T k2 n2 d2), .dat (I left)]), (36, .ret [.own 50 out, .dat (B false)])] hs (ps := [D.cleans [D.own 3 rs] = true, den cfg kk 58 [D.dat (Dat.lst true es)] [] [] = some ([D.own 3 rs], [], []), decide ((rs.length : Int) = 0) = false, decide (n = fuel) = false, (0 : Int) ≤ 0 ∧ 0 < (rs.length : Int), rs[0]? = some (I r0), D.cleans [D.dat (T k1 n1 d)] = true, den cfg kk 48 [D.dat (Dat.lst true es), D.dat (I 0)] [] [] = some ([D.dat (T k1 n1 d)], [], []), den cfg kk 59 [D.dat (T k1 n1 d), D.dat (I r0)] [] [] = some ([D.dat (T k2 n2 d2), D.dat (I left)], [], []), den cfg kk 46 [D.dat (T k2 n2 d2)] [] [] = some ([D.own 50 out, D.dat (B false)], [], [])]) (x := X.ret) (by kernel_rfl) rfl ⟨h1, h2, h3, h4, h5, h6, h7, h8, h9, h10, trivial⟩ (by kernel_rfl) hK
theorem lcNormal_go (kk m : Nat) {s : St} {K : X → St → Prop} (es : List Dat) (fuel n : Int) (rs d d2 out : List Dat) (k1 n1 k2 n2 r0 left : Int) (hs : s.norm ((envOf cfg kk 63 Go.Proofs.Try.f63).live (firstRegion (lp Go.Proofs.Try.f63 3))) = hd63 es fuel n) (h1 : D.cleans [D.own 3 rs] = true) (h2 : den cfg kk 58 [D.dat (Dat.lst true es)] [] [] = some ([D.own 3 rs], [], [])) (h3 : decide ((rs.length : Int) = 0) = false) (h4 : decide (n = fuel) = false) (h5 : (0 : Int) ≤ 0 ∧ 0 < (rs.length : Int)) (h6 : rs[0]? = some (I r0)) (h7 : D.cleans [D.dat (T k1 n1 d)] = true) (h8 : den cfg kk 48 [D.dat (Dat.lst true es), D.dat (I 0)] [] [] = some ([D.dat (T k1 n1 d)], [], [])) (h9 : den cfg kk 59 [D.dat (T k1 n1 d), D.dat (I r0)] [] [] = some ([D.dat (T k2 n2 d2), D.dat (I left)], [], [])) (h10 : den cfg kk 46 [D.dat (T k2 n2 d2)] [] [] = some ([D.own 50 out, D.dat (B true)], [], [])) (hn : ∀ s : St, s.norm ((envOf cfg kk 63 Go.Proofs.Try.f63).live (firstRegion (lp Go.Proofs.Try.f63 3))) = Nm [0, 1, 7] [D.own 50 out, D.dat (I fuel), D.dat (I (w64 (n + 1)))] [none, none, none] [] [] → Rounds (envOf cfg kk 63 Go.Proofs.Try.f63) kk (lp Go.Proofs.Try.f63 3) m s K) : Rounds (envOf cfg kk 63 Go.Proofs.Try.f63) kk (lp Go.Proofs.Try.f63 3) (m + 1) s K :=
  rounds_go [(16, .ret [.own 3 rs]), (200019, .no), (200024, .no), (27, .ret [.dat (T k1 n1 d)]), (29, .ok), (30, .at (I r0)), (31, .ret [.dat (T k2 n2 d2), .dat (I left)]), (36, .ret [.own 50 out, .dat (B true)])] hs (ps := [D.cleans [D.own 3 rs] = true, den cfg kk 58 [D.dat (Dat.lst true es)] [] [] = some ([D.own 3 rs], [], []), decide ((rs.length : Int) = 0) = false, decide (n = fuel) = false, (0 : Int) ≤ 0 ∧ 0 < (rs.length : Int), rs[0]? = some (I r0), D.cleans [D.dat (T k1 n1 d)] = true, den cfg kk 48 [D.dat (Dat.lst true es), D.dat (I 0)] [] [] = some ([D.dat (T k1 n1 d)], [], []), den cfg kk 59 [D.dat (T k1 n1 d), D.dat (I r0)] [] [] = some ([D.dat (T k2 n2 d2), D.dat (I left)], [], []), den cfg kk 46 [D.dat (T k2 n2 d2)] [] [] = some ([D.own 50 out, D.dat (B true)], [], [])]) (by kernel_rfl) ⟨h1, h2, h3, h4, h5, h6, h7, h8, h9, h10, trivial⟩ (by kernel_rfl) hn
theorem lcNormal (kk : Nat) (es out : List Dat) (fuel c : Int) (r : Bool) (h2 : LoopAt cfg kk 63 Go.Proofs.Try.f63 3 (hd63 es fuel 0) X.ret (Nm [4, 5, 6] [D.own 50 out, D.dat (I c), D.dat (B r)] [none, none, none] [] [])) : runFn cfg kk (den cfg kk) 63 Go.Proofs.Try.f63 [.own 50 es, .dat (I fuel)] [] [] = some ([D.own 50 out, D.dat (I c), D.dat (B r)], [], []) :=
  hrun_sound [(300003, .loop (hd63 es fuel 0) .ret (Nm [4, 5, 6] [.own 50 out, .dat (I c), .dat (B r)] [none, none, none] [] []))] (q := ([Nm [0, 1, 7] [D.own 50 es, D.dat (I fuel), D.dat (I 0)] [none, none, none] [] [] = hd63 es fuel 0, LoopAt cfg kk 63 Go.Proofs.Try.f63 3 (hd63 es fuel 0) X.ret (Nm [4, 5, 6] [D.own 50 out, D.dat (I c), D.dat (B r)] [none, none, none] [] [])], [D.own 50 out, D.dat (I c), D.dat (B r)], [], [])) (by kernel_rfl) ⟨rfl, h2, trivial⟩
theorem NormalTerm_no1 (kk : Nat) (b : Bool) (es : List Dat) (fuel : Int) (h1 : den cfg kk 44 [D.dat (Dat.lst b es)] [] [] = some ([D.dat (B false)], [], [])) : runFn cfg kk (den cfg kk) 26 Go.Proofs.Try.f26 [.dat (Dat.lst b es), .dat (I fuel)] [] [] = some ([D.own 50 [], D.dat (I 0), D.dat (B false)], [], []) :=
  hrun_sound [(8, .ret [.dat (B false)])] (q := ([den cfg kk 44 [D.dat (Dat.lst b es)] [] [] = some ([D.dat (B false)], [], [])], [D.own 50 [], D.dat (I 0), D.dat (B false)], [], [])) (by kernel_rfl) ⟨h1, trivial⟩
theorem NormalTerm_no2 (kk : Nat) (b : Bool) (es : List Dat) (fuel : Int) (h1 : den cfg kk 44 [D.dat (Dat.lst b es)] [] [] = some ([D.dat (B true)], [], [])) (h2 : den cfg kk 45 [D.dat (I fuel), D.dat (I 0), D.dat (I 1000)] [] [] = some ([D.dat (B false)], [], [])) : runFn cfg kk (den cfg kk) 26 Go.Proofs.Try.f26 [.dat (Dat.lst b es), .dat (I fuel)] [] [] = some ([D.own 50 [], D.dat (I 0), D.dat (B false)], [], []) :=
  hrun_sound [(8, .ret [.dat (B true)]), (12, .ret [.dat (B false)])] (q := ([den cfg kk 44 [D.dat (Dat.lst b es)] [] [] = some ([D.dat (B true)], [], []), den cfg kk 45 [D.dat (I fuel), D.dat (I 0), D.dat (I 1000)] [] [] = some ([D.dat (B false)], [], [])], [D.own 50 [], D.dat (I 0), D.dat (B false)], [], [])) (by kernel_rfl) ⟨h1, h2, trivial⟩
theorem NormalTerm_go (kk : Nat) (b : Bool) (es : List Dat) (fuel : Int) (out : List Dat) (c : Int) (r : Bool) (h1 : den cfg kk 44 [D.dat (Dat.lst b es)] [] [] = some ([D.dat (B true)], [], [])) (h2 : den cfg kk 45 [D.dat (I fuel), D.dat (I 0), D.dat (I 1000)] [] [] = some ([D.dat (B true)], [], [])) (h3 : (es.all fun d => d.cells.length.beq 3) = true ∧ 0 + es.length ≤ 2147483648) (h4 : den cfg kk 63 [D.own 50 ([] ++ es), D.dat (I fuel)] [] [] = some ([D.own 50 out, D.dat (I c), D.dat (B r)], [], [])) : runFn cfg kk (den cfg kk) 26 Go.Proofs.Try.f26 [.dat (Dat.lst b es), .dat (I fuel)] [] [] = some ([D.own 50 out, D.dat (I c), D.dat (B r)], [], []) :=
  hrun_sound [(8, .ret [.dat (B true)]), (12, .ret [.dat (B true)]), (17, .ok), (19, .back [.own 50 out, .dat (I c), .dat (B r)] [] [])] (q := ([den cfg kk 44 [D.dat (Dat.lst b es)] [] [] = some ([D.dat (B true)], [], []), den cfg kk 45 [D.dat (I fuel), D.dat (I 0), D.dat (I 1000)] [] [] = some ([D.dat (B true)], [], []), (es.all fun d => d.cells.length.beq 3) = true ∧ 0 + es.length ≤ 2147483648, den cfg kk 63 [D.own 50 ([] ++ es), D.dat (I fuel)] [] [] = some ([D.own 50 out, D.dat (I c), D.dat (B r)], [], []), false = false], [D.own 50 out, D.dat (I c), D.dat (B r)], [], [])) (by kernel_rfl) ⟨h1, h2, h3, h4, rfl, trivial⟩
theorem iNormal (kk : Nat) (b : Bool) (es : List Dat) (fuel : Int) (out : List Dat) (c : Int) (r : Bool) (h1 : den cfg kk 64 [D.dat (Dat.lst b es), D.dat (I fuel), D.fn 65 []] [] [] = some ([D.own 50 out, D.dat (I c), D.dat (B r)], [], [])) : runFn cfg kk (den cfg kk) 27 Go.Proofs.Try.f27 [.dat (Dat.lst b es), .dat (I fuel)] [] [] = some ([D.own 50 out, D.dat (I c), D.dat (B r)], [], []) :=
  hrun_sound [(9, .back [.own 50 out, .dat (I c), .dat (B r)] [] [])] (q := ([den cfg kk 64 [D.dat (Dat.lst b es), D.dat (I fuel), D.fn 65 []] [] [] = some ([D.own 50 out, D.dat (I c), D.dat (B r)], [], []), false = false], [D.own 50 out, D.dat (I c), D.dat (B r)], [], [])) (by kernel_rfl) ⟨h1, rfl, trivial⟩
theorem goneOn_no1_f (kk : Nat) (b : Bool) (es : List Dat) (fuel : Int) (k n : Int) (d : List Dat) (h1 : den cfg kk 50 [D.dat (Dat.lst b es)] [] [] = some ([D.dat (T k n d), D.dat (B false)], [], [])) : runFn cfg kk (den cfg kk) 64 Go.Proofs.Try.f64 [.dat (Dat.lst b es), .dat (I fuel), .fn 65 []] [] [] = some ([D.own 50 [], D.dat (I 0), D.dat (B false)], [], []) :=
  hrun_sound [(15, .ret [.dat (T k n d), .dat (B false)])] (q := ([den cfg kk 50 [D.dat (Dat.lst b es)] [] [] = some ([D.dat (T k n d), D.dat (B false)], [], [])], [D.own 50 [], D.dat (I 0), D.dat (B false)], [], [])) (by kernel_rfl) ⟨h1, trivial⟩
theorem goneOn_no2_f (kk : Nat) (b : Bool) (es : List Dat) (fuel : Int) (k n : Int) (d : List Dat) (h1 : den cfg kk 50 [D.dat (Dat.lst b es)] [] [] = some ([D.dat (T k n d), D.dat (B true)], [], [])) (h2 : den cfg kk 101 [D.dat (I fuel)] [] [] = some ([D.dat (B false)], [], [])) : runFn cfg kk (den cfg kk) 64 Go.Proofs.Try.f64 [.dat (Dat.lst b es), .dat (I fuel), .fn 65 []] [] [] = some ([D.own 50 [], D.dat (I 0), D.dat (B false)], [], []) :=
  hrun_sound [(15, .ret [.dat (T k n d), .dat (B true)]), (22, .ret [.dat (B false)])] (q := ([den cfg kk 50 [D.dat (Dat.lst b es)] [] [] = some ([D.dat (T k n d), D.dat (B true)], [], []), den cfg kk 101 [D.dat (I fuel)] [] [] = some ([D.dat (B false)], [], [])], [D.own 50 [], D.dat (I 0), D.dat (B false)], [], [])) (by kernel_rfl) ⟨h1, h2, trivial⟩
theorem goneOn_no3_f (kk : Nat) (b : Bool) (es : List Dat) (fuel : Int) (k n k2 n2 c : Int) (d d2 : List Dat) (h1 : den cfg kk 50 [D.dat (Dat.lst b es)] [] [] = some ([D.dat (T k n d), D.dat (B true)], [], [])) (h2 : den cfg kk 101 [D.dat (I fuel)] [] [] = some ([D.dat (B true)], [], [])) (h3 : den cfg kk 102 [D.dat (T k n d), D.dat (I fuel), D.fn 65 []] [] [] = some ([D.dat (T k2 n2 d2), D.dat (I c), D.dat (B false)], [], [])) : runFn cfg kk (den cfg kk) 64 Go.Proofs.Try.f64 [.dat (Dat.lst b es), .dat (I fuel), .fn 65 []] [] [] = some ([D.own 50 [], D.dat (I 0), D.dat (B false)], [], []) :=
  hrun_sound [(15, .ret [.dat (T k n d), .dat (B true)]), (22, .ret [.dat (B true)]), (29, .back [.dat (T k2 n2 d2), .dat (I c), .dat (B false)] [] [])] (q := ([den cfg kk 50 [D.dat (Dat.lst b es)] [] [] = some ([D.dat (T k n d), D.dat (B true)], [], []), den cfg kk 101 [D.dat (I fuel)] [] [] = some ([D.dat (B true)], [], []), den cfg kk 102 [D.dat (T k n d), D.dat (I fuel), D.fn 65 []] [] [] = some ([D.dat (T k2 n2 d2), D.dat (I c), D.dat (B false)], [], []), false = false], [D.own 50 [], D.dat (I 0), D.dat (B false)], [], [])) (by kernel_rfl) ⟨h1, h2, h3, rfl, trivial⟩
theorem goneOn_go_f (kk : Nat) (b : Bool) (es : List Dat) (fuel : Int) (k n k2 n2 c : Int) (d d2 out : List Dat) (h1 : den cfg kk 50 [D.dat (Dat.lst b es)] [] [] = some ([D.dat (T k n d), D.dat (B true)], [], [])) (h2 : den cfg kk 101 [D.dat (I fuel)] [] [] = some ([D.dat (B true)], [], [])) (h3 : den cfg kk 102 [D.dat (T k n d), D.dat (I fuel), D.fn 65 []] [] [] = some ([D.dat (T k2 n2 d2), D.dat (I c), D.dat (B true)], [], [])) (h5 : den cfg kk 56 [D.dat (T k2 n2 d2)] [] [] = some ([D.own 50 out], [], [])) : runFn cfg kk (den cfg kk) 64 Go.Proofs.Try.f64 [.dat (Dat.lst b es), .dat (I fuel), .fn 65 []] [] [] = some ([D.own 50 out, D.dat (I c), D.dat (B true)], [], []) :=
  hrun_sound [(15, .ret [.dat (T k n d), .dat (B true)]), (22, .ret [.dat (B true)]), (29, .back [.dat (T k2 n2 d2), .dat (I c), .dat (B true)] [] []), (36, .ret [.own 50 out])] (q := ([den cfg kk 50 [D.dat (Dat.lst b es)] [] [] = some ([D.dat (T k n d), D.dat (B true)], [], []), den cfg kk 101 [D.dat (I fuel)] [] [] = some ([D.dat (B true)], [], []), den cfg kk 102 [D.dat (T k n d), D.dat (I fuel), D.fn 65 []] [] [] = some ([D.dat (T k2 n2 d2), D.dat (I c), D.dat (B true)], [], []), false = false, den cfg kk 56 [D.dat (T k2 n2 d2)] [] [] = some ([D.own 50 out], [], [])], [D.own 50 out, D.dat (I c), D.dat (B true)], [], [])) (by kernel_rfl) ⟨h1, h2, h3, rfl, h5, trivial⟩
def hd102f (fuel k n : Int) (ps : List Dat) (made : Int) : St := Nm [1, 2, 3, 6, 9] [.dat (I fuel), .fn 65 [], .ptr (.loc 3) 0, .ptr (.loc 6) 0, .dat (I made)] [none, none, some [.dat (I k), .dat (I n), .dat (.lst false ps)], some [.dat (I 0), .dat (I 0), .own 55 []], none] [] []
theorem goOn_done_f (kk m : Nat) {s : St} {K : X → St → Prop} (fuel k n : Int) (ps : List Dat) (made : Int) (x : Int) (hs : s.norm ((envOf cfg kk 102 Go.Proofs.Try.f102).live (firstRegion (lp Go.Proofs.Try.f102 3))) = hd102f fuel k n ps made) (h1 : den cfg kk 65 [D.dat (T k n ps)] [] [] = some ([D.dat (I x)], [], [])) (h2 : decide (x < 0) = true) (hK : K (X.ret) (Nm [6, 7, 8] [D.ptr (Ref.loc 6) 0, D.dat (I made), D.dat (B true)] [some [D.dat (I k), D.dat (I n), D.dat (Dat.lst false ps)], none, none] [] [])) : Rounds (envOf cfg kk 102 Go.Proofs.Try.f102) kk (lp Go.Proofs.Try.f102 3) (m + 1) s K :=
  rounds_end [(15, .ret [.dat (I x)]), (200016, .yes)] hs (ps := [den cfg kk 65 [D.dat (T k n ps)] [] [] = some ([D.dat (I x)], [], []), decide (x < 0) = true]) (x := X.ret) (by kernel_rfl) rfl ⟨h1, h2, trivial⟩ (by kernel_rfl) hK
theorem goOn_stop_f (kk m : Nat) {s : St} {K : X → St → Prop} (fuel k n : Int) (ps : List Dat) (made : Int) (x : Int) (hs : s.norm ((envOf cfg kk 102 Go.Proofs.Try.f102).live (firstRegion (lp Go.Proofs.Try.f102 3))) = hd102f fuel k n ps made) (h1 : den cfg kk 65 [D.dat (T k n ps)] [] [] = some ([D.dat (I x)], [], [])) (h2 : decide (x < 0) = false) (h3 : decide (made = fuel) = true) (hK : K (X.ret) (Nm [6, 7, 8] [D.ptr (Ref.loc 6) 0, D.dat (I 0), D.dat (B false)] [some [D.dat (I 0), D.dat (I 0), D.own 55 []], none, none] [] [])) : Rounds (envOf cfg kk 102 Go.Proofs.Try.f102) kk (lp Go.Proofs.Try.f102 3) (m + 1) s K :=
  rounds_end [(15, .ret [.dat (I x)]), (200016, .no), (200021, .yes)] hs (ps := [den cfg kk 65 [D.dat (T k n ps)] [] [] = some ([D.dat (I x)], [], []), decide (x < 0) = false, decide (made = fuel) = true]) (x := X.ret) (by kernel_rfl) rfl ⟨h1, h2, h3, trivial⟩ (by kernel_rfl) hK
theorem goOn_bad_f (kk m : Nat) {s : St} {K : X → St → Prop} (fuel k n : Int) (ps : List Dat) (made : Int) (x k2 n2 : Int) (d2 : List Dat) (hs : s.norm ((envOf cfg kk 102 Go.Proofs.Try.f102).live (firstRegion (lp Go.Proofs.Try.f102 3))) = hd102f fuel k n ps made) (h1 : den cfg kk 65 [D.dat (T k n ps)] [] [] = some ([D.dat (I x)], [], [])) (h2 : decide (x < 0) = false) (h3 : decide (made = fuel) = false) (h4 : den cfg kk 62 [D.dat (T k n ps), D.dat (I x)] [] [] = some ([D.dat (T k2 n2 d2)], [], [])) (h5 : den cfg kk 91 [D.dat (T k2 n2 d2)] [] [] = some ([D.dat (B false)], [], [])) (hK : K (X.ret) (Nm [6, 7, 8] [D.ptr (Ref.loc 6) 0, D.dat (I 0), D.dat (B false)] [some [D.dat (I 0), D.dat (I 0), D.own 55 []], none, none] [] [])) : Rounds (envOf cfg kk 102 Go.Proofs.Try.f102) kk (lp Go.Proofs.Try.f102 3) (m + 1) s K :=
  rounds_end [(15, .ret [.dat (I x)]), (200016, .no), (200021, .no), (28, .ret [.dat (T k2 n2 d2)]), (30, .ret [.dat (B false)])] hs (ps := [den cfg kk 65 [D.dat (T k n ps)] [] [] = some ([D.dat (I x)], [], []), decide (x < 0) = false, decide (made = fuel) = false, den cfg kk 62 [D.dat (T k n ps), D.dat (I x)] [] [] = some ([D.dat (T k2 n2 d2)], [], []), den cfg kk 91 [D.dat (T k2 n2 d2)] [] [] = some ([D.dat (B false)], [], [])]) (x := X.ret) (by kernel_rfl) rfl ⟨h1, h2, h3, h4, h5, trivial⟩ (by kernel_rfl) hK
theorem goOn_go_f (kk m : Nat) {s : St} {K : X → St → Prop} (fuel k n : Int) (ps : List Dat) (made : Int) (x k2 n2 : Int) (d2 : List Dat) (hs : s.norm ((envOf cfg kk 102 Go.Proofs.Try.f102).live (firstRegion (lp Go.Proofs.Try.f102 3))) = hd102f fuel k n ps made) (h1 : den cfg kk 65 [D.dat (T k n ps)] [] [] = some ([D.dat (I x)], [], [])) (h2 : decide (x < 0) = false) (h3 : decide (made = fuel) = false) (h4 : den cfg kk 62 [D.dat (T k n ps), D.dat (I x)] [] [] = some ([D.dat (T k2 n2 d2)], [], [])) (h5 : den cfg kk 91 [D.dat (T k2 n2 d2)] [] [] = some ([D.dat (B true)], [], [])) (hn : ∀ s : St, s.norm ((envOf cfg kk 102 Go.Proofs.Try.f102).live (firstRegion (lp Go.Proofs.Try.f102 3))) = Nm [1, 2, 3, 6, 9] [D.dat (I fuel), D.fn 65 [], D.ptr (Ref.loc 3) 0, D.ptr (Ref.loc 6) 0, D.dat (I (w64 (made + 1)))] [none, none, some [D.dat (I k2), D.dat (I n2), D.dat (Dat.lst false d2)], some [D.dat (I 0), D.dat (I 0), D.own 55 []], none] [] [] → Rounds (envOf cfg kk 102 Go.Proofs.Try.f102) kk (lp Go.Proofs.Try.f102 3) m s K) : Rounds (envOf cfg kk 102 Go.Proofs.Try.f102) kk (lp Go.Proofs.Try.f102 3) (m + 1) s K :=
  rounds_go [(15, .ret [.dat (I x)]), (200016, .no), (200021, .no), (28, .ret [.dat (T k2 n2 d2)]), (30, .ret [.dat (B true)])] hs (ps := [den cfg kk 65 [D.dat (T k n ps)] [] [] = some ([D.dat (I x)], [], []), decide (x < 0) = false, decide (made = fuel) = false, den cfg kk 62 [D.dat (T k n ps), D.dat (I x)] [] [] = some ([D.dat (T k2 n2 d2)], [], []), den cfg kk 91 [D.dat (T k2 n2 d2)] [] [] = some ([D.dat (B true)], [], [])]) (by kernel_rfl) ⟨h1, h2, h3, h4, h5, trivial⟩ (by kernel_rfl) hn
theorem goOn_y_f (kk : Nat) (fuel k n c k2 n2 : Int) (ps d2 : List Dat) (r : Bool) (h2 : LoopAt cfg kk 102 Go.Proofs.Try.f102 3 (hd102f fuel k n ps 0) X.ret (Nm [6, 7, 8] [D.ptr (Ref.loc 6) 0, D.dat (I c), D.dat (B r)] [some [D.dat (I k2), D.dat (I n2), D.dat (Dat.lst false d2)], none, none] [] [])) : runFn cfg kk (den cfg kk) 102 Go.Proofs.Try.f102 [.dat (T k n ps), .dat (I fuel), .fn 65 []] [] [] = some ([D.dat (T k2 n2 d2), D.dat (I c), D.dat (B r)], [], []) :=
  hrun_sound [(300003, .loop (hd102f fuel k n ps 0) .ret (Nm [6, 7, 8] [.ptr (.loc 6) 0, .dat (I c), .dat (B r)] [some [.dat (I k2), .dat (I n2), .dat (.lst false d2)], none, none] [] []))] (q := ([Nm [1, 2, 3, 6, 9] [D.dat (I fuel), D.fn 65 [], D.ptr (Ref.loc 3) 0, D.ptr (Ref.loc 6) 0, D.dat (I 0)] [none, none, some [D.dat (I k), D.dat (I n), D.dat (Dat.lst false ps)], some [D.dat (I 0), D.dat (I 0), D.own 55 []], none] [] [] = hd102f fuel k n ps 0, LoopAt cfg kk 102 Go.Proofs.Try.f102 3 (hd102f fuel k n ps 0) X.ret (Nm [6, 7, 8] [D.ptr (Ref.loc 6) 0, D.dat (I c), D.dat (B r)] [some [D.dat (I k2), D.dat (I n2), D.dat (Dat.lst false d2)], none, none] [] [])], [D.dat (T k2 n2 d2), D.dat (I c), D.dat (B r)], [], [])) (by kernel_rfl) ⟨rfl, h2, trivial⟩
theorem goOn_n_f (kk : Nat) (fuel k n c : Int) (ps : List Dat) (r : Bool) (h2 : LoopAt cfg kk 102 Go.Proofs.Try.f102 3 (hd102f fuel k n ps 0) X.ret (Nm [6, 7, 8] [D.ptr (Ref.loc 6) 0, D.dat (I c), D.dat (B r)] [some [D.dat (I 0), D.dat (I 0), D.own 55 []], none, none] [] [])) : runFn cfg kk (den cfg kk) 102 Go.Proofs.Try.f102 [.dat (T k n ps), .dat (I fuel), .fn 65 []] [] [] = some ([D.dat (T 0 0 []), D.dat (I c), D.dat (B r)], [], []) :=
  hrun_sound [(300003, .loop (hd102f fuel k n ps 0) .ret (Nm [6, 7, 8] [.ptr (.loc 6) 0, .dat (I c), .dat (B r)] [some [.dat (I 0), .dat (I 0), .own 55 []], none, none] [] []))] (q := ([Nm [1, 2, 3, 6, 9] [D.dat (I fuel), D.fn 65 [], D.ptr (Ref.loc 3) 0, D.ptr (Ref.loc 6) 0, D.dat (I 0)] [none, none, some [D.dat (I k), D.dat (I n), D.dat (Dat.lst false ps)], some [D.dat (I 0), D.dat (I 0), D.own 55 []], none] [] [] = hd102f fuel k n ps 0, LoopAt cfg kk 102 Go.Proofs.Try.f102 3 (hd102f fuel k n ps 0) X.ret (Nm [6, 7, 8] [D.ptr (Ref.loc 6) 0, D.dat (I c), D.dat (B r)] [some [D.dat (I 0), D.dat (I 0), D.own 55 []], none, none] [] [])], [D.dat (T 0 0 []), D.dat (I c), D.dat (B r)], [], [])) (by kernel_rfl) ⟨rfl, h2, trivial⟩
theorem firstRedex_y (kk : Nat) (k n x : Int) (d rs : List Dat) (h1 : den cfg kk 61 [D.dat (T k n d), D.dat (I 0)] [] [] = some ([D.own 3 rs], [], [])) (h2 : decide (0 < (rs.length : Int)) = true) (h3 : (0 : Int) ≤ 0 ∧ 0 < (rs.length : Int)) (h4 : rs[0]? = some (I x)) : runFn cfg kk (den cfg kk) 65 Go.Proofs.Try.f65 [.dat (T k n d)] [] [] = some ([D.dat (I x)], [], []) :=
  hrun_sound [(5, .ret [.own 3 rs]), (200008, .yes), (10, .ok), (11, .at (I x))] (q := ([den cfg kk 61 [D.dat (T k n d), D.dat (I 0)] [] [] = some ([D.own 3 rs], [], []), decide (0 < (rs.length : Int)) = true, (0 : Int) ≤ 0 ∧ 0 < (rs.length : Int), rs[0]? = some (I x)], [D.dat (I x)], [], [])) (by kernel_rfl) ⟨h1, h2, h3, h4, trivial⟩
theorem firstRedex_n (kk : Nat) (k n : Int) (d rs : List Dat) (h1 : den cfg kk 61 [D.dat (T k n d), D.dat (I 0)] [] [] = some ([D.own 3 rs], [], [])) (h2 : decide (0 < (rs.length : Int)) = false) : runFn cfg kk (den cfg kk) 65 Go.Proofs.Try.f65 [.dat (T k n d)] [] [] = some ([D.dat (I (-1))], [], []) :=
  hrun_sound [(5, .ret [.own 3 rs]), (200008, .no)] (q := ([den cfg kk 61 [D.dat (T k n d), D.dat (I 0)] [] [] = some ([D.own 3 rs], [], []), decide (0 < (rs.length : Int)) = false], [D.dat (I (-1))], [], [])) (by kernel_rfl) ⟨h1, h2, trivial⟩
theorem isFuel_n (kk : Nat) (x : Int) (h1 : decide (0 ≤ x) = false) : runFn cfg kk (den cfg kk) 101 Go.Proofs.Try.f101 [.dat (I x)] [] [] = some ([D.dat (B false)], [], []) :=
  hrun_sound [(200005, .no)] (q := ([decide (0 ≤ x) = false, false = false], [D.dat (B false)], [], [])) (by kernel_rfl) ⟨h1, rfl, trivial⟩
theorem isFuel_y (kk : Nat) (x : Int) (h1 : decide (0 ≤ x) = true) : runFn cfg kk (den cfg kk) 101 Go.Proofs.Try.f101 [.dat (I x)] [] [] = some ([D.dat (B (decide (x ≤ 1000)))], [], []) :=
  hrun_sound [(200005, .yes)] (q := ([decide (0 ≤ x) = true, true = true], [D.dat (B (decide (x ≤ 1000)))], [], [])) (by kernel_rfl) ⟨h1, rfl, trivial⟩
theorem nrm_small (kk : Nat) (l1 v : Int) (as_ : List Dat) (h1 : den cfg kk 15 [D.dat (Dat.lst false as_), D.dat (I 1048576)] [] [] = some ([D.dat (I l1)], [], [])) (h2 : decide (l1 < 0) = true) : runFn cfg kk (den cfg kk) 6 Go.Proofs.Try.f6 [.dat (Dat.lst false as_), .dat (I v)] [] [] = some ([D.dat (B true)], [], []) :=
  hrun_sound [(21, .ret [.dat (I l1)]), (200023, .yes)] (q := ([den cfg kk 15 [D.dat (Dat.lst false as_), D.dat (I 1048576)] [] [] = some ([D.dat (I l1)], [], []), decide (l1 < 0) = true], [D.dat (B true)], [], [])) (by kernel_rfl) ⟨h1, h2, trivial⟩
theorem nrm_true (kk : Nat) (l1 v : Int) (as_ : List Dat) (xs ws xs' ws' : List Dat) (c k1 m q q2 : Int) (h1 : den cfg kk 15 [D.dat (Dat.lst false as_), D.dat (I 1048576)] [] [] = some ([D.dat (I l1)], [], [])) (h2 : decide (l1 < 0) = false) (h3 : den cfg kk 17 [D.dat (Dat.lst false as_)] [] [] = some ([D.own 50 xs], [], [])) (h4 : D.cleans [D.own 50 ws, D.dat (I c), D.dat (B true)] = true) (h5 : den cfg kk 26 [D.dat (Dat.lst true xs), D.dat (I v)] [] [] = some ([D.own 50 ws, D.dat (I c), D.dat (B true)], [], [])) (h6 : den cfg kk 17 [D.dat (Dat.lst false as_)] [] [] = some ([D.own 50 xs], [], [])) (h7 : D.cleans [D.own 50 ws, D.dat (I c), D.dat (B true)] = true) (h8 : den cfg kk 27 [D.dat (Dat.lst true xs), D.dat (I v)] [] [] = some ([D.own 50 ws, D.dat (I c), D.dat (B true)], [], [])) (h10 : den cfg kk 19 [D.dat (Dat.lst true ws), D.dat (Dat.lst true ws)] [] [] = some ([D.dat (B true)], [], [])) (h11 : (!decide (c = c)) = false) (h14 : den cfg kk 17 [D.dat (Dat.lst false as_)] [] [] = some ([D.own 50 xs], [], [])) (h16 : den cfg kk 19 [D.dat (Dat.lst true xs), D.dat (Dat.lst true xs)] [] [] = some ([D.dat (B true)], [], [])) (h17 : den cfg kk 20 [D.bor (Pl.lent 0) none, D.dat (I 1)] [] [some (50, xs)] = some ([D.dat (I k1)], [], [some (50, xs')])) (h19 : decide (k1 < 0) = false) (h23 : den cfg kk 19 [D.dat (Dat.lst true ws), D.dat (Dat.lst true ws)] [] [] = some ([D.dat (B true)], [], [])) (h25 : (!decide (c = c)) = false) (h28 : den cfg kk 20 [D.bor (Pl.lent 0) none, D.dat (I 1)] [] [some (50, ws)] = some ([D.dat (I m)], [], [some (50, ws')])) (h31 : den cfg kk 21 [D.dat (Dat.lst true ws'), D.dat (I 1)] [] [] = some ([D.dat (I q)], [], [])) (h32 : decide (q < 0) = false) (h33 : (!decide (q = m)) = false) (h34 : den cfg kk 17 [D.dat (Dat.lst false as_)] [] [] = some ([D.own 50 xs], [], [])) (h35 : D.cleans [D.own 50 ws, D.dat (I c), D.dat (B true)] = true) (h36 : den cfg kk 27 [D.dat (Dat.lst true xs), D.dat (I v)] [] [] = some ([D.own 50 ws, D.dat (I c), D.dat (B true)], [], [])) (h38 : den cfg kk 19 [D.dat (Dat.lst true ws), D.dat (Dat.lst true ws)] [] [] = some ([D.dat (B true)], [], [])) (h39 : (!decide (c = c)) = false) (h43 : den cfg kk 21 [D.dat (Dat.lst true ws'), D.dat (I 1)] [] [] = some ([D.dat (I q2)], [], [])) (h44 : decide (q2 < 0) = false) (h45 : (!decide (q2 = m)) = false) : runFn cfg kk (den cfg kk) 6 Go.Proofs.Try.f6 [.dat (Dat.lst false as_), .dat (I v)] [] [] = some ([D.dat (B true)], [], []) :=
  hrun_sound [(21, .ret [.dat (I l1)]), (200023, .no), (26, .ret [.own 50 xs]), (28, .ret [.own 50 ws, .dat (I c), .dat (B true)]), (33, .ret [.own 50 xs]), (37, .ret [.own 50 ws, .dat (I c), .dat (B true)]), (43, .ret [.dat (B true)]), (200050, .no), (57, .ret [.own 50 xs]), (58, .ret [.dat (B true)]), (62, .back [.dat (I k1)] [] [some (50, xs')]), (200065, .no), (68, .ret [.dat (B true)]), (200076, .no), (83, .back [.dat (I m)] [] [some (50, ws')]), (86, .ret [.dat (I q)]), (200088, .no), (200091, .no), (94, .ret [.own 50 xs]), (96, .ret [.own 50 ws, .dat (I c), .dat (B true)]), (102, .ret [.dat (B true)]), (200109, .no), (116, .ret [.dat (I q2)]), (200118, .no), (200121, .no)] (q := ([den cfg kk 15 [D.dat (Dat.lst false as_), D.dat (I 1048576)] [] [] = some ([D.dat (I l1)], [], []), decide (l1 < 0) = false, den cfg kk 17 [D.dat (Dat.lst false as_)] [] [] = some ([D.own 50 xs], [], []), D.cleans [D.own 50 ws, D.dat (I c), D.dat (B true)] = true, den cfg kk 26 [D.dat (Dat.lst true xs), D.dat (I v)] [] [] = some ([D.own 50 ws, D.dat (I c), D.dat (B true)], [], []), den cfg kk 17 [D.dat (Dat.lst false as_)] [] [] = some ([D.own 50 xs], [], []), D.cleans [D.own 50 ws, D.dat (I c), D.dat (B true)] = true, den cfg kk 27 [D.dat (Dat.lst true xs), D.dat (I v)] [] [] = some ([D.own 50 ws, D.dat (I c), D.dat (B true)], [], []), true = true, den cfg kk 19 [D.dat (Dat.lst true ws), D.dat (Dat.lst true ws)] [] [] = some ([D.dat (B true)], [], []), (!decide (c = c)) = false, false = false, false = false, den cfg kk 17 [D.dat (Dat.lst false as_)] [] [] = some ([D.own 50 xs], [], []), true = true, den cfg kk 19 [D.dat (Dat.lst true xs), D.dat (Dat.lst true xs)] [] [] = some ([D.dat (B true)], [], []), den cfg kk 20 [D.bor (Pl.lent 0) none, D.dat (I 1)] [] [some (50, xs)] = some ([D.dat (I k1)], [], [some (50, xs')]), false = false, decide (k1 < 0) = false, false = false, false = false, true = true, den cfg kk 19 [D.dat (Dat.lst true ws), D.dat (Dat.lst true ws)] [] [] = some ([D.dat (B true)], [], []), false = false, (!decide (c = c)) = false, false = false, false = false, den cfg kk 20 [D.bor (Pl.lent 0) none, D.dat (I 1)] [] [some (50, ws)] = some ([D.dat (I m)], [], [some (50, ws')]), false = false, true = true, den cfg kk 21 [D.dat (Dat.lst true ws'), D.dat (I 1)] [] [] = some ([D.dat (I q)], [], []), decide (q < 0) = false, (!decide (q = m)) = false, den cfg kk 17 [D.dat (Dat.lst false as_)] [] [] = some ([D.own 50 xs], [], []), D.cleans [D.own 50 ws, D.dat (I c), D.dat (B true)] = true, den cfg kk 27 [D.dat (Dat.lst true xs), D.dat (I v)] [] [] = some ([D.own 50 ws, D.dat (I c), D.dat (B true)], [], []), true = true, den cfg kk 19 [D.dat (Dat.lst true ws), D.dat (Dat.lst true ws)] [] [] = some ([D.dat (B true)], [], []), (!decide (c = c)) = false, false = false, false = false, true = true, den cfg kk 21 [D.dat (Dat.lst true ws'), D.dat (I 1)] [] [] = some ([D.dat (I q2)], [], []), decide (q2 < 0) = false, (!decide (q2 = m)) = false], [D.dat (B true)], [], [])) (by kernel_rfl) ⟨h1, h2, h3, h4, h5, h6, h7, h8, rfl, h10, h11, rfl, rfl, h14, rfl, h16, h17, rfl, h19, rfl, rfl, rfl, h23, rfl, h25, rfl, rfl, h28, rfl, rfl, h31, h32, h33, h34, h35, h36, rfl, h38, h39, rfl, rfl, rfl, h43, h44, h45, trivial⟩
theorem nrm_false (kk : Nat) (l1 v : Int) (as_ : List Dat) (xs ws xs' ws' : List Dat) (c k1 m q q2 : Int) (h1 : den cfg kk 15 [D.dat (Dat.lst false as_), D.dat (I 1048576)] [] [] = some ([D.dat (I l1)], [], [])) (h2 : decide (l1 < 0) = false) (h3 : den cfg kk 17 [D.dat (Dat.lst false as_)] [] [] = some ([D.own 50 xs], [], [])) (h4 : D.cleans [D.own 50 ws, D.dat (I c), D.dat (B false)] = true) (h5 : den cfg kk 26 [D.dat (Dat.lst true xs), D.dat (I v)] [] [] = some ([D.own 50 ws, D.dat (I c), D.dat (B false)], [], [])) (h6 : den cfg kk 17 [D.dat (Dat.lst false as_)] [] [] = some ([D.own 50 xs], [], [])) (h7 : D.cleans [D.own 50 ws, D.dat (I c), D.dat (B false)] = true) (h8 : den cfg kk 27 [D.dat (Dat.lst true xs), D.dat (I v)] [] [] = some ([D.own 50 ws, D.dat (I c), D.dat (B false)], [], [])) (h10 : den cfg kk 19 [D.dat (Dat.lst true ws), D.dat (Dat.lst true ws)] [] [] = some ([D.dat (B true)], [], [])) (h11 : (!decide (c = c)) = false) (h14 : den cfg kk 17 [D.dat (Dat.lst false as_)] [] [] = some ([D.own 50 xs], [], [])) (h16 : den cfg kk 19 [D.dat (Dat.lst true xs), D.dat (Dat.lst true xs)] [] [] = some ([D.dat (B true)], [], [])) (h17 : den cfg kk 20 [D.bor (Pl.lent 0) none, D.dat (I 1)] [] [some (50, xs)] = some ([D.dat (I k1)], [], [some (50, xs')])) (h19 : decide (k1 < 0) = false) (h23 : den cfg kk 19 [D.dat (Dat.lst true ws), D.dat (Dat.lst true ws)] [] [] = some ([D.dat (B true)], [], [])) (h25 : (!decide (c = c)) = false) (h28 : den cfg kk 20 [D.bor (Pl.lent 0) none, D.dat (I 1)] [] [some (50, ws)] = some ([D.dat (I m)], [], [some (50, ws')])) (h31 : den cfg kk 21 [D.dat (Dat.lst true ws'), D.dat (I 1)] [] [] = some ([D.dat (I q)], [], [])) (h32 : decide (q < 0) = false) (h33 : (!decide (q = m)) = false) (h34 : den cfg kk 17 [D.dat (Dat.lst false as_)] [] [] = some ([D.own 50 xs], [], [])) (h35 : D.cleans [D.own 50 ws, D.dat (I c), D.dat (B false)] = true) (h36 : den cfg kk 27 [D.dat (Dat.lst true xs), D.dat (I v)] [] [] = some ([D.own 50 ws, D.dat (I c), D.dat (B false)], [], [])) (h38 : den cfg kk 19 [D.dat (Dat.lst true ws), D.dat (Dat.lst true ws)] [] [] = some ([D.dat (B true)], [], [])) (h39 : (!decide (c = c)) = false) (h43 : den cfg kk 21 [D.dat (Dat.lst true ws'), D.dat (I 1)] [] [] = some ([D.dat (I q2)], [], [])) (h44 : decide (q2 < 0) = false) (h45 : (!decide (q2 = m)) = false) : runFn cfg kk (den cfg kk) 6 Go.Proofs.Try.f6 [.dat (Dat.lst false as_), .dat (I v)] [] [] = some ([D.dat (B true)], [], []) :=
  hrun_sound [(21, .ret [.dat (I l1)]), (200023, .no), (26, .ret [.own 50 xs]), (28, .ret [.own 50 ws, .dat (I c), .dat (B false)]), (33, .ret [.own 50 xs]), (37, .ret [.own 50 ws, .dat (I c), .dat (B false)]), (43, .ret [.dat (B true)]), (200050, .no), (57, .ret [.own 50 xs]), (58, .ret [.dat (B true)]), (62, .back [.dat (I k1)] [] [some (50, xs')]), (200065, .no), (68, .ret [.dat (B true)]), (200076, .no), (83, .back [.dat (I m)] [] [some (50, ws')]), (86, .ret [.dat (I q)]), (200088, .no), (200091, .no), (94, .ret [.own 50 xs]), (96, .ret [.own 50 ws, .dat (I c), .dat (B false)]), (102, .ret [.dat (B true)]), (200109, .no), (116, .ret [.dat (I q2)]), (200118, .no), (200121, .no)] (q := ([den cfg kk 15 [D.dat (Dat.lst false as_), D.dat (I 1048576)] [] [] = some ([D.dat (I l1)], [], []), decide (l1 < 0) = false, den cfg kk 17 [D.dat (Dat.lst false as_)] [] [] = some ([D.own 50 xs], [], []), D.cleans [D.own 50 ws, D.dat (I c), D.dat (B false)] = true, den cfg kk 26 [D.dat (Dat.lst true xs), D.dat (I v)] [] [] = some ([D.own 50 ws, D.dat (I c), D.dat (B false)], [], []), den cfg kk 17 [D.dat (Dat.lst false as_)] [] [] = some ([D.own 50 xs], [], []), D.cleans [D.own 50 ws, D.dat (I c), D.dat (B false)] = true, den cfg kk 27 [D.dat (Dat.lst true xs), D.dat (I v)] [] [] = some ([D.own 50 ws, D.dat (I c), D.dat (B false)], [], []), true = true, den cfg kk 19 [D.dat (Dat.lst true ws), D.dat (Dat.lst true ws)] [] [] = some ([D.dat (B true)], [], []), (!decide (c = c)) = false, false = false, false = false, den cfg kk 17 [D.dat (Dat.lst false as_)] [] [] = some ([D.own 50 xs], [], []), true = true, den cfg kk 19 [D.dat (Dat.lst true xs), D.dat (Dat.lst true xs)] [] [] = some ([D.dat (B true)], [], []), den cfg kk 20 [D.bor (Pl.lent 0) none, D.dat (I 1)] [] [some (50, xs)] = some ([D.dat (I k1)], [], [some (50, xs')]), false = false, decide (k1 < 0) = false, false = false, false = false, true = true, den cfg kk 19 [D.dat (Dat.lst true ws), D.dat (Dat.lst true ws)] [] [] = some ([D.dat (B true)], [], []), false = false, (!decide (c = c)) = false, false = false, false = false, den cfg kk 20 [D.bor (Pl.lent 0) none, D.dat (I 1)] [] [some (50, ws)] = some ([D.dat (I m)], [], [some (50, ws')]), false = false, true = true, den cfg kk 21 [D.dat (Dat.lst true ws'), D.dat (I 1)] [] [] = some ([D.dat (I q)], [], []), decide (q < 0) = false, (!decide (q = m)) = false, den cfg kk 17 [D.dat (Dat.lst false as_)] [] [] = some ([D.own 50 xs], [], []), D.cleans [D.own 50 ws, D.dat (I c), D.dat (B false)] = true, den cfg kk 27 [D.dat (Dat.lst true xs), D.dat (I v)] [] [] = some ([D.own 50 ws, D.dat (I c), D.dat (B false)], [], []), true = true, den cfg kk 19 [D.dat (Dat.lst true ws), D.dat (Dat.lst true ws)] [] [] = some ([D.dat (B true)], [], []), (!decide (c = c)) = false, false = false, false = false, true = true, den cfg kk 21 [D.dat (Dat.lst true ws'), D.dat (I 1)] [] [] = some ([D.dat (I q2)], [], []), decide (q2 < 0) = false, (!decide (q2 = m)) = false], [D.dat (B true)], [], [])) (by kernel_rfl) ⟨h1, h2, h3, h4, h5, h6, h7, h8, rfl, h10, h11, rfl, rfl, h14, rfl, h16, h17, rfl, h19, rfl, rfl, rfl, h23, rfl, h25, rfl, rfl, h28, rfl, rfl, h31, h32, h33, h34, h35, h36, rfl, h38, h39, rfl, rfl, rfl, h43, h44, h45, trivial⟩
end Go.Den
/- What functions come to (15): normal forms. -/
namespace Go.Den
open Go
set_option linter.unusedVariables false
set_option maxRecDepth 100000

/-- A term reduced again and again, where 'nx' says; with so much fuel. -/
def goOnP (nx : Pt → Option Nat) : Nat → Pt → Option (Pt × Nat)
  | 0, t => match nx t with | none => some (t, 0) | some _ => none
  | f + 1, t => match nx t with | none => some (t, 0) | some r => if (red t r).good = true then (goOnP nx f (red t r)).map fun q => (q.1, q.2 + 1) else none
theorem goOnP_good {nx : Pt → Option Nat} : ∀ {f : Nat} {t : Pt} {q : Pt × Nat}, t.good = true → goOnP nx f t = some q → q.1.good = true ∧ q.2 ≤ f
  | 0, t, q, hg, h => by
    unfold goOnP at h
    split at h
    · cases h; exact ⟨hg, Nat.le_refl _⟩
    · cases h
  | f + 1, t, q, hg, h => by
    unfold goOnP at h
    split at h
    · cases h; exact ⟨hg, by omega⟩
    · split at h
      · rename_i hr
        obtain ⟨p, hp, rfl⟩ := Option.map_eq_some_iff.1 h
        have := goOnP_good hr hp
        exact ⟨this.1, by simp only; omega⟩
      · cases h
def firstR (t : Pt) : Option Nat := (rx t 0).head?
theorem ins_clean (rs : List Nat) : D.cleans [.own 3 (rs.map IN)] = true := by
  have : ∀ rs : List Nat, Dat.cleans (rs.map IN) = true := fun rs => by
    induction rs with
    | nil => rfl
    | cons r rs ih => simp only [List.map_cons, Dat.cleans, ih]; rfl
  simp only [D.cleans, D.clean, this]
  rfl
/-- What the reference's loop leaves. -/
def outS (made : Nat) : Option (Pt × Nat) → St
  | some q => Nm [4, 5, 6] [.own 50 ((q.1.flat 0 (-1)).map Nd.d), .dat (I ((made + q.2 : Nat) : Int)), .dat (B true)] [none, none, none] [] []
  | none => Nm [4, 5, 6] [.own 50 [], .dat (I 0), .dat (B false)] [none, none, none] [] []
theorem normal_rounds (kk : Nat) (hkk : 1005000 ≤ kk) (fuel : Nat) (hf : fuel ≤ 1000) : ∀ (f made : Nat) (t : Pt) (m : Nat) (s : St) (K : X → St → Prop), t.good = true → made + f = fuel → f < m →
    s.norm ((envOf cfg kk 63 Go.Proofs.Try.f63).live (firstRegion (lp Go.Proofs.Try.f63 3))) = hd63 ((t.flat 0 (-1)).map Nd.d) fuel made → K .ret (outS made (goOnP firstR f t)) → Rounds (envOf cfg kk 63 Go.Proofs.Try.f63) kk (lp Go.Proofs.Try.f63 3) m s K := by
  have hround : ∀ (f made : Nat) (t : Pt) (m : Nat) (s : St) (K : X → St → Prop), t.good = true → made + f = fuel →
      s.norm ((envOf cfg kk 63 Go.Proofs.Try.f63).live (firstRegion (lp Go.Proofs.Try.f63 3))) = hd63 ((t.flat 0 (-1)).map Nd.d) fuel made →
      (firstR t = none → K .ret (outS made (some (t, 0)))) → (∀ r, firstR t = some r → f = 0 → K .ret (outS made none)) → (∀ r, firstR t = some r → f ≠ 0 → (red t r).good = false → K .ret (outS made none)) →
      (∀ r, firstR t = some r → f ≠ 0 → (red t r).good = true → ∀ s : St, s.norm ((envOf cfg kk 63 Go.Proofs.Try.f63).live (firstRegion (lp Go.Proofs.Try.f63 3))) = hd63 (((red t r).flat 0 (-1)).map Nd.d) fuel ((made + 1 : Nat) : Int) → Rounds (envOf cfg kk 63 Go.Proofs.Try.f63) kk (lp Go.Proofs.Try.f63 3) m s K) →
      Rounds (envOf cfg kk 63 Go.Proofs.Try.f63) kk (lp Go.Proofs.Try.f63 3) (m + 1) s K := by
    intro f made t m s K hg hfm hs k1 k2 k3 k4
    have hsm : small t := good_small hg
    have a1 := ev_lcRedexes t true hsm.1 kk (by omega)
    have hcl := ins_clean (rx t 0)
    have hrl := rx_length t 0
    cases hrs : rx t 0 with
    | nil =>
      have hn : firstR t = none := by unfold firstR; rw [hrs]; rfl
      rw [hrs] at a1 hcl
      exact lcNormal_done kk m _ _ _ _ hs hcl a1 (decide_eq_true (by simp)) (k1 hn)
    | cons r rs =>
      have hn : firstR t = some r := by unfold firstR; rw [hrs]; rfl
      rw [hrs] at a1 hcl
      have hne : decide (((((r :: rs).map IN).length : Nat) : Int) = 0) = false := decide_eq_false (by simp; omega)
      by_cases h0 : f = 0
      · exact lcNormal_stop kk m _ _ _ _ hs hcl a1 hne (decide_eq_true (by omega)) (k2 r hn h0)
      · obtain ⟨_, h3, h4⟩ := rx_range t 0 r (by rw [hrs]; simp)
        have h4 : rxAt t r = true := by simpa using h4
        have hz := red_size t r h4 hsm.1
        have a2 := ev_tree true ((termOfP_iff _ t).2 ⟨hg, rfl⟩) kk (by omega)
        have a3 := ev_lcAt 40 t r hsm.2.1 hsm (by have := hsm.1; omega) (fun _ => h4) kk (by omega)
        rw [if_pos (by omega)] at a3
        have a4 := ev_lcTold (red t r) (by have := hsm.1; omega) kk (by have := hsm.2.1; omega)
        have hct := clean1 t
        rw [Pt.d_eq t] at a2
        rw [Pt.d_eq t, Pt.d_eq (red t r)] at a3
        rw [Pt.d_eq (red t r)] at a4
        cases hgr : (red t r).good with
        | false =>
          rw [hgr] at a4
          exact lcNormal_bad kk m _ _ _ _ _ _ _ _ _ _ _ _ _ hs hcl a1 hne (decide_eq_false (by omega)) ⟨by decide, by simp⟩ rfl hct a2 a3 a4 (k3 r hn h0 hgr)
        | true =>
          rw [hgr, if_pos rfl] at a4
          refine lcNormal_go kk m _ _ _ _ _ _ _ _ _ _ _ _ _ hs hcl a1 hne (decide_eq_false (by omega)) ⟨by decide, by simp⟩ rfl hct a2 a3 a4 fun s' hs' => k4 r hn h0 hgr s' ?_
          rw [hs', w64_eq (by omega)]
          rfl
  intro f
  induction f with
  | zero =>
    intro made t m s K hg hfm hm hs hK
    obtain ⟨m, rfl⟩ : ∃ j, m = j + 1 := ⟨m - 1, by omega⟩
    refine hround 0 made t m s K hg hfm hs (fun h => ?_) (fun r h _ => ?_) (fun r h h0 => (h0 rfl).elim) (fun r h h0 => (h0 rfl).elim)
    · unfold goOnP at hK
      rw [h] at hK
      exact hK
    · unfold goOnP at hK
      rw [h] at hK
      exact hK
  | succ f ih =>
    intro made t m s K hg hfm hm hs hK
    obtain ⟨m, rfl⟩ : ∃ j, m = j + 1 := ⟨m - 1, by omega⟩
    refine hround (f + 1) made t m s K hg hfm hs (fun h => ?_) (fun r h h0 => by omega) (fun r h _ hgr => ?_) (fun r h _ hgr s' hs' => ?_)
    · unfold goOnP at hK
      rw [h] at hK
      exact hK
    · unfold goOnP at hK
      rw [h] at hK
      simp only [hgr] at hK
      exact hK
    · refine ih (made + 1) (red t r) m s' K hgr (by omega) (by omega) hs' ?_
      unfold goOnP at hK
      rw [h] at hK
      simp only [hgr, if_true] at hK
      cases hq : goOnP firstR f (red t r) with
      | none => rw [hq] at hK; exact hK
      | some q =>
        rw [hq] at hK
        simp only [Option.map_some, outS] at hK
        simp only [outS]
        rw [show made + 1 + q.2 = made + (q.2 + 1) by omega]
        exact hK
/-- What both sides come to. -/
def goneN (nx : Pt → Option Nat) (L : List Nd) (v : Int) : List Nd × Nat × Bool :=
  match termOfP L with
  | some t => if 0 ≤ v ∧ v ≤ 1000 then (match goOnP nx v.toNat t with | some q => (q.1.flat 0 (-1), q.2, true) | none => ([], 0, false)) else ([], 0, false)
  | none => ([], 0, false)
theorem goneN_len (nx : Pt → Option Nat) (L : List Nd) (v : Int) : (goneN nx L v).1.length ≤ 150 := by
  unfold goneN
  split
  · rename_i t ht
    split
    · split
      · rename_i q hq
        rw [Pt.flat_length]
        exact (good_small (goOnP_good ((termOfP_iff L t).1 ht).1 hq).1).1
      · simp
    · simp
  · simp
theorem ev_sNormal (L : List Nd) (b : Bool) (v : Int) (hL : L.length ≤ 1048576) : EvN 1006000 26 [.dat (.lst b (L.map Nd.d)), .dat (I v)] [] [] ([.own 50 ((goneN firstR L v).1.map Nd.d), .dat (I (goneN firstR L v).2.1), .dat (B (goneN firstR L v).2.2)], [], []) := by
  refine (ev_fn Go.Proofs.Try.f26 1005900 (by kernel_rfl) (by kernel_rfl) fun kk hkk => ?_).mono (by omega)
  have g := ev_GoodTerm L b hL kk (by omega)
  have hin := ev_l1In v 0 1000 kk (by omega)
  rw [goodS_term] at g
  unfold goneN
  cases h1 : termOfP L with
  | none =>
    rw [h1] at g
    exact NormalTerm_no1 kk b _ v g
  | some t =>
    rw [h1] at g
    have hgt := (termOfP_iff L t).1 h1
    have hlen : L.length ≤ 150 := by
      rw [hgt.2, Pt.flat_length]
      exact (good_small hgt.1).1
    simp only
    cases hk : (decide (0 ≤ v) && decide (v ≤ 1000)) with
    | false =>
      rw [hk] at hin
      rw [if_neg (fun h => by simp [h.1, h.2] at hk)]
      exact NormalTerm_no2 kk b _ v g hin
    | true =>
      rw [hk] at hin
      have hk' : 0 ≤ v ∧ v ≤ 1000 := by simpa using hk
      rw [if_pos hk']
      obtain ⟨fu, rfl⟩ : ∃ fu : Nat, v = fu := ⟨v.toNat, by omega⟩
      rw [show ((fu : Int)).toNat = fu by simp]
      have hnorm : ∀ (out : List Nd) (c : Nat) (r : Bool), outS 0 (goOnP firstR fu t) = Nm [4, 5, 6] [.own 50 (out.map Nd.d), .dat (I (c : Int)), .dat (B r)] [none, none, none] [] [] →
          den cfg kk 63 [.own 50 ([] ++ L.map Nd.d), .dat (I fu)] [] [] = some ([.own 50 (out.map Nd.d), .dat (I (c : Int)), .dat (B r)], [], []) := fun out c r ho => by
        refine (ev_fn Go.Proofs.Try.f63 1005800 (by kernel_rfl) (by kernel_rfl) fun k2 hk2 => ?_) kk (by omega)
        refine lcNormal k2 _ _ _ _ _ (loopOb_of fun s hs => ?_)
        rw [List.nil_append, hgt.2] at hs
        exact normal_rounds k2 (by omega) fu (by omega) fu 0 t k2 s _ hgt.1 (by omega) (by omega) hs ⟨rfl, by rw [ho]⟩
      have hall : ((L.map Nd.d).all fun d => d.cells.length.beq 3) = true := by
        rw [List.all_eq_true]
        intro x hx
        obtain ⟨y, _, rfl⟩ := List.mem_map.1 hx
        rfl
      cases hq : goOnP firstR fu t with
      | none => exact NormalTerm_go kk b _ _ _ _ _ g hin ⟨hall, by simp; omega⟩ (hnorm [] 0 false (by rw [hq]; rfl))
      | some q => exact NormalTerm_go kk b _ _ _ _ _ g hin ⟨hall, by simp; omega⟩ (hnorm (q.1.flat 0 (-1)) q.2 true (by rw [hq]; simp [outS]))
end Go.Den
/- What functions come to (16): the program's normal forms. -/
namespace Go.Den
open Go
set_option linter.unusedVariables false
set_option maxRecDepth 100000

/-- What the program's loop leaves. -/
def outI (made : Nat) : Option (Pt × Nat) → St
  | some q => Nm [6, 7, 8] [.ptr (.loc 6) 0, .dat (I ((made + q.2 : Nat) : Int)), .dat (B true)] [some [.dat (I q.1.kd), .dat (I q.1.num), .dat (.lst false (q.1.kids.map Pt.d))], none, none] [] []
  | none => Nm [6, 7, 8] [.ptr (.loc 6) 0, .dat (I 0), .dat (B false)] [some [.dat (I 0), .dat (I 0), .own 55 []], none, none] [] []
/-- The number that a function value tells: of a redex, or less than 0. -/
def nxI : Option Nat → Int → Prop
  | some r, x => x = r
  | none, x => x < 0
theorem goOn_rounds_f (nx : Pt → Option Nat) (kk : Nat) (hkk : 4000 ≤ kk) (fuel : Nat) (hf : fuel ≤ 1000)
    (P : Pt → Prop) (hnx : ∀ t, P t → t.good = true → ∃ x : Int, den cfg kk 65 [.dat (T t.kd t.num (t.kids.map Pt.d))] [] [] = some ([.dat (I x)], [], []) ∧ nxI (nx t) x)
    (hrx : ∀ t r, P t → t.good = true → nx t = some r → rxAt t r = true ∧ r < t.size) (hP : ∀ t r, P t → t.good = true → nx t = some r → (red t r).good = true → P (red t r)) :
    ∀ (f made : Nat) (t : Pt) (m : Nat) (s : St) (K : X → St → Prop), P t → t.good = true → made + f = fuel → f < m →
    s.norm ((envOf cfg kk 102 Go.Proofs.Try.f102).live (firstRegion (lp Go.Proofs.Try.f102 3))) = hd102f fuel t.kd t.num (t.kids.map Pt.d) made → K .ret (outI made (goOnP nx f t)) → Rounds (envOf cfg kk 102 Go.Proofs.Try.f102) kk (lp Go.Proofs.Try.f102 3) m s K := by
  have hround : ∀ (f made : Nat) (t : Pt) (m : Nat) (s : St) (K : X → St → Prop), P t → t.good = true → made + f = fuel →
      s.norm ((envOf cfg kk 102 Go.Proofs.Try.f102).live (firstRegion (lp Go.Proofs.Try.f102 3))) = hd102f fuel t.kd t.num (t.kids.map Pt.d) made →
      (nx t = none → K .ret (outI made (some (t, 0)))) → (∀ r, nx t = some r → f = 0 → K .ret (outI made none)) → (∀ r, nx t = some r → f ≠ 0 → (red t r).good = false → K .ret (outI made none)) →
      (∀ r, nx t = some r → f ≠ 0 → (red t r).good = true → ∀ s : St, s.norm ((envOf cfg kk 102 Go.Proofs.Try.f102).live (firstRegion (lp Go.Proofs.Try.f102 3))) = hd102f fuel (red t r).kd (red t r).num ((red t r).kids.map Pt.d) ((made + 1 : Nat) : Int) → Rounds (envOf cfg kk 102 Go.Proofs.Try.f102) kk (lp Go.Proofs.Try.f102 3) m s K) →
      Rounds (envOf cfg kk 102 Go.Proofs.Try.f102) kk (lp Go.Proofs.Try.f102 3) (m + 1) s K := by
    intro f made t m s K hPt hg hfm hs k1 k2 k3 k4
    have hsm : small t := good_small hg
    obtain ⟨x, a1, hx⟩ := hnx t hPt hg
    cases hn : nx t with
    | none =>
      rw [hn] at hx
      have hx : x < 0 := hx
      exact goOn_done_f kk m _ _ _ _ _ x hs a1 (decide_eq_true hx) (k1 hn)
    | some r =>
      rw [hn] at hx
      have hx : x = r := hx
      subst hx
      have hlt : decide ((r : Int) < 0) = false := decide_eq_false (by omega)
      by_cases h0 : f = 0
      · exact goOn_stop_f kk m _ _ _ _ _ _ hs a1 hlt (decide_eq_true (by omega)) (k2 r hn h0)
      · obtain ⟨h4, h3⟩ := hrx t r hPt hg hn
        have hz := red_size t r h4 hsm.1
        have a3 := ev_reduceAt 40 t r hsm.2.1 hsm h4 h3 kk (by omega)
        have a4 := ev_good (red t r) (by have := hsm.1; omega) 80 (by have := hsm.2.1; omega) kk (by omega)
        rw [Pt.d_eq t, Pt.d_eq (red t r)] at a3
        rw [Pt.d_eq (red t r)] at a4
        cases hgr : (red t r).good with
        | false =>
          rw [hgr] at a4
          exact goOn_bad_f kk m _ _ _ _ _ _ _ _ _ hs a1 hlt (decide_eq_false (by omega)) a3 a4 (k3 r hn h0 hgr)
        | true =>
          rw [hgr] at a4
          refine goOn_go_f kk m _ _ _ _ _ _ _ _ _ hs a1 hlt (decide_eq_false (by omega)) a3 a4 fun s' hs' => k4 r hn h0 hgr s' ?_
          rw [hs', w64_eq (by omega)]
          rfl
  intro f
  induction f with
  | zero =>
    intro made t m s K hPt hg hfm hm hs hK
    obtain ⟨m, rfl⟩ : ∃ j, m = j + 1 := ⟨m - 1, by omega⟩
    refine hround 0 made t m s K hPt hg hfm hs (fun h => ?_) (fun r h _ => ?_) (fun r h h0 => (h0 rfl).elim) (fun r h h0 => (h0 rfl).elim)
    · unfold goOnP at hK
      rw [h] at hK
      exact hK
    · unfold goOnP at hK
      rw [h] at hK
      exact hK
  | succ f ih =>
    intro made t m s K hPt hg hfm hm hs hK
    obtain ⟨m, rfl⟩ : ∃ j, m = j + 1 := ⟨m - 1, by omega⟩
    refine hround (f + 1) made t m s K hPt hg hfm hs (fun h => ?_) (fun r h h0 => by omega) (fun r h _ hgr => ?_) (fun r h _ hgr s' hs' => ?_)
    · unfold goOnP at hK
      rw [h] at hK
      exact hK
    · unfold goOnP at hK
      rw [h] at hK
      simp only [hgr] at hK
      exact hK
    · refine ih (made + 1) (red t r) m s' K (hP t r hPt hg h hgr) hgr (by omega) (by omega) hs' ?_
      unfold goOnP at hK
      rw [h] at hK
      simp only [hgr, if_true] at hK
      cases hq : goOnP nx f (red t r) with
      | none => rw [hq] at hK; exact hK
      | some q =>
        rw [hq] at hK
        simp only [Option.map_some, outI] at hK
        simp only [outI]
        rw [show made + 1 + q.2 = made + (q.2 + 1) by omega]
        exact hK
theorem ev_firstRedex (t : Pt) (hg : t.good = true) (kk : Nat) (hkk : 500 ≤ kk) : ∃ x : Int, den cfg kk 65 [.dat (T t.kd t.num (t.kids.map Pt.d))] [] [] = some ([.dat (I x)], [], []) ∧ nxI (firstR t) x := by
  have hsm : small t := good_small hg
  have hrl := rx_length t 0
  unfold firstR
  cases hrs : rx t 0 with
  | nil =>
    refine ⟨-1, ?_, by show (-1 : Int) < 0; decide⟩
    refine (ev_fn Go.Proofs.Try.f65 400 (by kernel_rfl) (by kernel_rfl) fun k2 hk2 => ?_) kk (by omega)
    have a1 := ev_redexes 40 t 0 hsm.2.1 hsm.1 (by omega) (by have := hsm.1; omega) k2 (by omega)
    rw [hrs, Pt.d_eq t] at a1
    exact firstRedex_n k2 _ _ _ _ a1 (decide_eq_false (by simp))
  | cons r rs =>
    refine ⟨r, ?_, rfl⟩
    refine (ev_fn Go.Proofs.Try.f65 400 (by kernel_rfl) (by kernel_rfl) fun k2 hk2 => ?_) kk (by omega)
    have a1 := ev_redexes 40 t 0 hsm.2.1 hsm.1 (by omega) (by have := hsm.1; omega) k2 (by omega)
    rw [hrs, Pt.d_eq t] at a1
    exact firstRedex_y k2 _ _ _ _ _ a1 (decide_eq_true (by simp)) ⟨by decide, by simp⟩ rfl
theorem firstR_rx {t : Pt} {r : Nat} (h : firstR t = some r) : rxAt t r = true ∧ r < t.size := by
  unfold firstR at h
  obtain ⟨_, h3, h4⟩ := rx_range t 0 r (List.mem_of_mem_head? h)
  exact ⟨by simpa using h4, by omega⟩
theorem ev_isFuel (v : Int) : EvN 1 101 [.dat (I v)] [] [] ([.dat (B (decide (0 ≤ v) && decide (v ≤ 1000)))], [], []) := by
  refine ev_fn Go.Proofs.Try.f101 0 (by kernel_rfl) (by kernel_rfl) fun kk _ => ?_
  by_cases h : 0 ≤ v
  · rw [isFuel_y kk v (decide_eq_true h), decide_eq_true h, Bool.true_and]
  · rw [isFuel_n kk v (decide_eq_false h), decide_eq_false h, Bool.false_and]
theorem ev_iNormal (L : List Nd) (b : Bool) (v : Int) (hL : L.length ≤ 1048576) : EvN 6000 27 [.dat (.lst b (L.map Nd.d)), .dat (I v)] [] [] ([.own 50 ((goneN firstR L v).1.map Nd.d), .dat (I (goneN firstR L v).2.1), .dat (B (goneN firstR L v).2.2)], [], []) := by
  refine (ev_fn Go.Proofs.Try.f27 5900 (by kernel_rfl) (by kernel_rfl) fun k1 hk1 => ?_).mono (by omega)
  refine iNormal k1 b _ v _ _ _ ?_
  refine (ev_fn Go.Proofs.Try.f64 5800 (by kernel_rfl) (by kernel_rfl) fun kk hkk => ?_) k1 (by omega)
  obtain ⟨hy, hn⟩ := ev_termOf L b hL
  have hin := ev_isFuel v kk (by omega)
  unfold goneN
  cases h1 : termOfP L with
  | none =>
    obtain ⟨k1, n1, d1, e1⟩ := hn h1
    exact goneOn_no1_f kk b _ v _ _ _ (e1 kk (by omega))
  | some t =>
    have a1 := hy t h1 kk (by omega)
    have hgt := ((termOfP_iff L t).1 h1).1
    rw [Pt.d_eq] at a1
    simp only
    cases hk : (decide (0 ≤ v) && decide (v ≤ 1000)) with
    | false =>
      rw [hk] at hin
      rw [if_neg (fun h => by simp [h.1, h.2] at hk)]
      exact goneOn_no2_f kk b _ v _ _ _ a1 hin
    | true =>
      rw [hk] at hin
      have hk' : 0 ≤ v ∧ v ≤ 1000 := by simpa using hk
      rw [if_pos hk']
      obtain ⟨fu, rfl⟩ : ∃ fu : Nat, v = fu := ⟨v.toNat, by omega⟩
      rw [show ((fu : Int)).toNat = fu by simp]
      have hloop : ∀ k2, 5000 ≤ k2 → LoopAt cfg k2 102 Go.Proofs.Try.f102 3 (hd102f fu t.kd t.num (t.kids.map Pt.d) 0) X.ret (outI 0 (goOnP firstR fu t)) := fun k2 hk2 => loopOb_of fun s hs =>
        goOn_rounds_f firstR k2 (by omega) fu (by omega) (fun _ => True) (fun t _ hg => ev_firstRedex t hg k2 (by omega)) (fun t r _ _ h => firstR_rx h) (fun _ _ _ _ _ _ => trivial) fu 0 t k2 s _ trivial hgt (by omega) (by omega) hs ⟨rfl, rfl⟩
      cases hq : goOnP firstR fu t with
      | none =>
        rw [hq] at hloop
        refine goneOn_no3_f kk b _ _ _ _ 0 0 0 _ [] a1 hin ?_
        refine (ev_fn Go.Proofs.Try.f102 5000 (by kernel_rfl) (by kernel_rfl) fun k2 hk2 => ?_) kk (by omega)
        exact goOn_n_f k2 _ _ _ 0 _ false (hloop k2 hk2)
      | some q =>
        rw [hq] at hloop
        have hgq := good_small (goOnP_good hgt hq).1
        have a5 := ev_nodes q.1 (by omega) kk (by omega)
        rw [Pt.d_eq q.1] at a5
        refine goneOn_go_f kk b _ _ _ _ _ _ _ _ _ _ a1 hin ?_ a5
        refine (ev_fn Go.Proofs.Try.f102 5000 (by kernel_rfl) (by kernel_rfl) fun k2 hk2 => ?_) kk (by omega)
        have hl := hloop k2 hk2
        simp only [outI, Nat.zero_add] at hl
        exact goOn_y_f k2 _ _ _ _ _ _ _ _ true hl
end Go.Den
/- FnExactNormalTerm: what den says of the law. -/
namespace Go.Den
open Go
set_option linter.unusedVariables false
set_option maxRecDepth 100000

theorem own_clean3 (L : List Nd) (n : Int) (r : Bool) : D.cleans [.own 50 (L.map Nd.d), .dat (I n), .dat (B r)] = true := by
  simp only [D.cleans, D.clean, nds_clean]
  rfl
theorem fnExactNormalTerm_den : ∀ (d0 d1 : Dat), WT cfg.ty 22 d0 → WT cfg.ty 3 d1 → ∃ k, den cfg k 6 [.dat d0, .dat d1] [] [] = some ([.dat (.val (.bool true))], [], []) := by
  intro d0 d1 w0 w1
  obtain ⟨v, rfl⟩ := int_of w1
  obtain ⟨L, rfl, hL⟩ := terms_of w0
  have hl1 : (L.map Nd.d).length = L.length := by simp
  refine ⟨1100001, ev_fn Go.Proofs.Try.f6 1100000 (by kernel_rfl) (by kernel_rfl) (fun kk hkk => ?_) 1100001 (Nat.le_refl _)⟩
  by_cases h1 : 1048576 < L.length
  · have z1 := ev_sz_no (L.map Nd.d) 1048576 false (by omega) (by omega) (by omega) kk (by omega)
    exact nrm_small kk _ v _ z1 (by decide)
  · have hL' : L.length ≤ 1048576 := by omega
    have z1 := ev_sz_go (L.map Nd.d) 1048576 false (by omega) (by omega) kk (by omega)
    have t1 := ev_toTermS L hL' kk (by omega)
    have s1 := ev_sNormal L true v hL' kk (by omega)
    have s2 := ev_iNormal L true v hL' kk (by omega)
    have hw := goneN_len firstR L v
    have e1 := ev_eqTermS (goneN firstR L v).1 true true (by omega) kk (by omega)
    have e2 := ev_eqTermS L true true hL' kk (by omega)
    have m1 := ev_mark L 1 hL' (by omega) (by omega) kk (by omega)
    have m3 := ev_mark (goneN firstR L v).1 1 (by omega) (by omega) (by omega) kk (by omega)
    have q1 := ev_held (goneN firstR L v).1.length 1 true (by omega) (by omega) (by omega) kk (by omega)
    have c : D.cleans [.own 50 ((goneN firstR L v).1.map Nd.d), .dat (I (goneN firstR L v).2.1), .dat (B (goneN firstR L v).2.2)] = true := own_clean3 _ _ _
    generalize (goneN firstR L v).1 = W at *
    generalize (goneN firstR L v).2.2 = r at *
    generalize (goneN firstR L v).2.1 = cc at *
    cases r with
    | true => exact nrm_true kk _ v _ _ _ _ _ _ _ _ _ _ z1 (decide_eq_false (by omega)) t1 c s1 t1 c s2 e1 (by simp) t1 e2 m1 (decide_eq_false (by omega)) e1 (by simp) m3 q1 (decide_eq_false (by omega)) (by simp) t1 c s2 e1 (by simp) q1 (decide_eq_false (by omega)) (by simp)
    | false => exact nrm_false kk _ v _ _ _ _ _ _ _ _ _ _ z1 (decide_eq_false (by omega)) t1 c s1 t1 c s2 e1 (by simp) t1 e2 m1 (decide_eq_false (by omega)) e1 (by simp) m3 q1 (decide_eq_false (by omega)) (by simp) t1 c s2 e1 (by simp) q1 (decide_eq_false (by omega)) (by simp)
end Go.Den
/- FnExactNormalTerm: the row, out of what den says of the law. No condition. -/
namespace Go.Proofs.Ytcehfbegcapmnaa.fnExactNormalTerm
open Go.ChangeShapes Go.WideShapes Go.ChangeAt Go.RowKit Go.Den
set_option linter.unusedVariables false
theorem own : ownKnob Try.prog.godebug = none := by kernel_rfl
theorem laidOut : laidOutB Try.prog = true := by kernel_rfl
theorem body : (Try.f6.body).isSome = true := by kernel_rfl
theorem fnThere : cfg.fn 6 = some Try.f6 := by kernel_rfl
theorem plain3 : plainTy cfg.ty 8 3 = true := by kernel_rfl
theorem plain22 : plainTy cfg.ty 8 22 = true := by kernel_rfl
set_option maxRecDepth 100000 in
theorem lifted (os : Os) (started : os.Started) (H : Type) (enc : TypeId × Value → H) :
    ReturnsInHanded {} Try.checked os 6 .any (Rows.fnExactNormalTermSpec.pre6 enc Try.prog Try.f6 Rows.fnExactNormalTermRow.domain false) (Rows.fnExactNormalTermSpec.post enc Try.prog Try.f6 false true false false) := by
  refine returnsInHanded_of_change (C := Try.checked) own started (by kernel_rfl) Try.func6
    (ChangeSpec.witness6 (enc := enc) (C := Try.checked) false ⟨#[], #[.slice none 0 0, .int .i64 0], []⟩ 8 (by kernel_rfl) (by kernel_rfl) (by kernel_rfl) (by kernel_rfl)) ?_
  intro W base args ds gs before hval0 hW hcnd _
  have hval : ∀ (j : Nat) t v, Try.f6.params[j]? = some t → args[j]? = some v → Value.okWide Try.prog W .any base t v := hval0
  have hW' := hW
  obtain ⟨p, q, hA0, hV, rfl, hfz, hnd⟩ := hW
  have hA : DataW.TrodAll enc Try.prog W 0 (fun _ => true) true Try.f6.params.toList args.toList ds p := hA0
  rw [Try.params6] at hA hval
  obtain ⟨v0, vs0, d0, ds0, p0, q0, hargs, rfl, rfl, h0, r0⟩ := trodAll_cons hA
  obtain ⟨v1, vs1, d1, ds1, p1, q1, rfl, rfl, rfl, h1, r1⟩ := trodAll_cons r0
  obtain ⟨rfl, rfl, rfl⟩ := trodAll_nil r1
  obtain rfl : args = #[v0, v1] := by cases args; simp_all
  obtain ⟨rfl, rfl⟩ := trodVars_none hV
  have k0 := h0
  have lt0 : ∀ x ∈ p0, x.block < W.heap.size := by obtain ⟨m, hm⟩ := k0; exact DataW.trod_lt m _ _ _ hm
  obtain ⟨e0, cv0, R0, V0, T0⟩ := arg_dat cfg_ty plain22 (hval 0 22 v0 rfl rfl) h0
  have k1 := h1
  have lt1 : ∀ x ∈ p1, x.block < W.heap.size := by obtain ⟨m, hm⟩ := k1; exact DataW.trod_lt m _ _ _ hm
  obtain ⟨e1, cv1, R1, V1, T1⟩ := arg_dat cfg_ty plain3 (hval 1 3 v1 rfl rfl) h1
  clear hA0 hval0
  have hden := fnExactNormalTerm_den e0 e1 T0 T1
  refine (law_calls (P := Try.prog) (C := cfg) (f := 6) (fn := Try.f6) (vals := #[v0, v1]) (ds := [e0, e1]) (W := W) (b := true) den_true.out (cfg_fn fnThere) body rfl (fun j d v hj hv => ?_) hden).mono fun e W' hh => ?_
  · match j, hj, hv with
    | 0, hj, hv => cases hj; cases hv; exact ⟨cv0, R0, V0⟩
    | 1, hj, hv => cases hj; cases hv; exact ⟨cv1, R1, V1⟩
    | j + 2, hj, hv => simp at hj
  · obtain ⟨he, bel⟩ := hh
    subst he
    exact ⟨_, rfl, _, _, _, [], _, [], hW', trodAll_mk1 (shut_bool Try.underlying4 _), (trodAll_cons_mk (Below.trod laidOut (by kernel_rfl) (of_decide_eq_true (by kernel_rfl)) k0 bel lt0) (trodAll_cons_mk (Below.trod laidOut (by kernel_rfl) (of_decide_eq_true (by kernel_rfl)) k1 bel lt1) trodAll_mk0)), rfl, bel.frame _, fun h => by cases h⟩
theorem over : Rows.fnExactNormalTermRow.holds Try.pinned (OpenSpec.ofChange Rows.fnExactNormalTermSpec) :=
  OpenClaim.holds_of_wide 6 Try.f6 rfl rfl rfl rfl rfl rfl rfl ⟨rfl, rfl, rfl, rfl, rfl⟩ rfl rfl rfl rfl rfl (by kernel_rfl) Try.func6 (by kernel_rfl)
    (of_decide_eq_true (by kernel_rfl)) (by unfold Func.isWrapper; first | (rw [if_pos (by decide +kernel)]; kernel_rfl) | (rw [if_neg (by decide +kernel)]; exact ⟨rfl, rfl⟩))
    (fun os started H enc _ => lifted os started H enc)
theorem proved : Rows.FnExactNormalTermSaid := over
end Go.Proofs.Ytcehfbegcapmnaa.fnExactNormalTerm
namespace Go.Proofs.Ytcehfbegcapmnaa
/-- The row, under a short name, for the claim. -/
theorem fnExactNormalTerm_holds : Rows.FnExactNormalTermSaid := fnExactNormalTerm.proved
end Go.Proofs.Ytcehfbegcapmnaa
