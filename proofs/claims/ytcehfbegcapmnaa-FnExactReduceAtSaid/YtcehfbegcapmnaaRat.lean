/- Merged out of: WG YFnExactReduceAt LFnExactReduceAt (dmerge.py, a program of this work's). -/
import Derived.Test.YtcehfbegcapmnaaM7
import Derived.Test.YtcehfbegcapmnaaRows
import Derived.Test.YtcehfbegcapmnaaM4
import Derived.WalkKit
import Derived.ProofKit
import Derived.OpenShut
import Derived.ShutString
import Derived.ChangeOld
import Derived.Below
set_option linter.unusedVariables false
set_option linter.unusedSimpArgs false
set_option linter.unnecessarySimpa false
/- What functions come to (14): one redex reduced; ReduceAt. -/
namespace Go.Den
open Go
set_option linter.unusedVariables false
set_option maxRecDepth 100000

/-- A term with the redex of a number reduced. -/
def red : Pt → Nat → Pt
  | t, 0 => t.beta
  | .var n, _ + 1 => .var n
  | .lam n x, k + 1 => .lam n (red x k)
  | .app n a c, k + 1 => if k < a.size then .app n (red a k) c else .app n a (red c (k - a.size))
theorem red_kd (t : Pt) (k : Nat) : (red t (k + 1)).kd = t.kd ∧ (red t (k + 1)).num = t.num := by
  cases t with
  | var n => exact ⟨rfl, rfl⟩
  | lam n x => exact ⟨rfl, rfl⟩
  | app n a c => simp only [red]; split <;> exact ⟨rfl, rfl⟩
theorem red_size : ∀ (t : Pt) (k : Nat), rxAt t k = true → t.size ≤ 150 → (red t k).size ≤ t.size + 22500 ∧ (red t k).depth ≤ 2 * t.depth
  | .var n, 0, h, hz => by cases h
  | .var n, k + 1, h, hz => by cases h
  | .lam n x, 0, h, hz => by cases h
  | .lam n x, k + 1, h, hz => by
    simp only [Pt.size] at hz
    have := red_size x k h (by omega)
    simp only [red, Pt.size, Pt.depth]
    omega
  | .app n a c, 0, h, hz => by
    obtain ⟨n', n1, x, y, e⟩ := redex_app (t := .app n a c) h
    cases e
    simp only [Pt.size] at hz
    have h3 := sub_size 0 c x 0
    have hm : x.size * c.size ≤ 150 * 150 := Nat.mul_le_mul (by omega) (by omega)
    simp only [red, Pt.beta, Pt.size, Pt.depth]
    omega
  | .app n a c, k + 1, h, hz => by
    simp only [Pt.size] at hz
    simp only [rxAt] at h
    simp only [red]
    split
    · rename_i hk
      rw [if_pos hk] at h
      have := red_size a k h (by omega)
      simp only [Pt.size, Pt.depth]
      omega
    · rename_i hk
      rw [if_neg hk] at h
      have := red_size c _ h (by omega)
      simp only [Pt.size, Pt.depth]
      omega
/-- A part, on the way to a number. -/
def stepAt (r : List Pt × Int) (x : Pt) : List Pt × Int :=
  if 0 ≤ r.2 then (if r.2 < x.size then (r.1 ++ [red x r.2.toNat], -1) else (r.1 ++ [x], r.2 - x.size)) else (r.1 ++ [x], r.2)
def foldAt (t : Pt) (k : Int) (i : Nat) : List Pt × Int := (t.kids.take i).foldl stepAt ([], k)
theorem foldAt_succ {t x : Pt} {k : Int} {i : Nat} (h : t.kids[i]? = some x) : foldAt t k (i + 1) = stepAt (foldAt t k i) x := by
  unfold foldAt
  rw [List.take_add_one, h, List.foldl_append]
  rfl
theorem foldAt_len (t : Pt) (k : Int) : ∀ i, i ≤ t.kids.length → (foldAt t k i).1.length = i
  | 0, _ => rfl
  | i + 1, h => by
    have hx := List.getElem?_eq_getElem (l := t.kids) (i := i) (by omega)
    rw [foldAt_succ hx]
    have := foldAt_len t k i (by omega)
    unfold stepAt
    split
    · split <;> simp [this]
    · simp [this]
theorem foldAt_bound (t : Pt) (k : Int) : ∀ i, -1 ≤ k → -1 ≤ (foldAt t k i).2 ∧ (foldAt t k i).2 ≤ k
  | 0, h => ⟨h, Int.le_refl _⟩
  | i + 1, h => by
    have ih := foldAt_bound t k i h
    cases hx : t.kids[i]? with
    | none =>
      have : foldAt t k (i + 1) = foldAt t k i := by
        unfold foldAt
        rw [List.take_add_one, hx]
        simp
      rw [this]
      exact ih
    | some x =>
      rw [foldAt_succ hx]
      have := x.size_pos
      unfold stepAt
      split
      · split
        · simp only; omega
        · simp only; omega
      · exact ih
theorem foldAt_red {t : Pt} {j : Nat} (h : j + 1 < t.size) : foldAt t j t.kids.length = ((red t (j + 1)).kids, -1) := by
  unfold foldAt
  rw [List.take_length]
  cases t with
  | var n => simp only [Pt.size] at h; omega
  | lam n x =>
    simp only [Pt.size] at h
    simp only [Pt.kids, List.foldl_cons, List.foldl_nil, stepAt, red]
    rw [if_pos (by omega), if_pos (by omega)]
    simp
  | app n a c =>
    simp only [Pt.size] at h
    simp only [Pt.kids, List.foldl_cons, List.foldl_nil, red]
    by_cases hk : j < a.size
    · rw [if_pos hk]
      have e : stepAt ([], (j : Int)) a = ([red a j], -1) := by
        unfold stepAt
        simp only
        rw [if_pos (by omega), if_pos (by omega)]
        simp
      rw [e]
      unfold stepAt
      simp only
      rw [if_neg (by omega)]
      simp
    · rw [if_neg hk]
      have e : stepAt ([], (j : Int)) a = ([a], (j : Int) - a.size) := by
        unfold stepAt
        simp only
        rw [if_pos (by omega), if_neg (by omega)]
        simp
      rw [e]
      unfold stepAt
      simp only
      rw [if_pos (by omega), if_pos (by omega), show ((j : Int) - a.size).toNat = j - a.size by omega]
      simp
theorem foldAt_past {t : Pt} {j : Nat} (h : t.size ≤ j + 1) : foldAt t j t.kids.length = (t.kids, (j : Int) + 1 - t.size) := by
  unfold foldAt
  rw [List.take_length]
  cases t with
  | var n => simp [Pt.kids, Pt.size]
  | lam n x =>
    simp only [Pt.size] at h
    simp only [Pt.kids, List.foldl_cons, List.foldl_nil, stepAt, Pt.size]
    rw [if_pos (by omega), if_neg (by omega)]
    simp
    omega
  | app n a c =>
    simp only [Pt.size] at h
    simp only [Pt.kids, List.foldl_cons, List.foldl_nil, Pt.size]
    have e : stepAt ([], (j : Int)) a = ([a], (j : Int) - a.size) := by
      unfold stepAt
      simp only
      rw [if_pos (by omega), if_neg (by omega)]
      simp
    rw [e]
    unfold stepAt
    simp only
    rw [if_pos (by omega), if_neg (by omega)]
    simp
    omega
/-- Where a part is met with a number of its own, that is a redex of it. -/
theorem foldAt_rx {t x : Pt} {j i : Nat} (hr : j + 1 < t.size → rxAt t (j + 1) = true) (hx : t.kids[i]? = some x) (h0 : 0 ≤ (foldAt t j i).2) (h1 : (foldAt t j i).2 < x.size) : rxAt x (foldAt t j i).2.toNat = true := by
  cases t with
  | var n => simp [Pt.kids] at hx
  | lam n y =>
    match i, hx with
    | 0, hx =>
      simp [Pt.kids] at hx
      subst hx
      have e : (foldAt (.lam n y) j 0).2 = j := rfl
      rw [e] at h1 ⊢
      simp only [Pt.size] at hr
      exact hr (by omega)
    | i + 1, hx => simp [Pt.kids] at hx
  | app n a c =>
    match i, hx with
    | 0, hx =>
      simp [Pt.kids] at hx
      subst hx
      have e : (foldAt (.app n a c) j 0).2 = j := rfl
      rw [e] at h1 ⊢
      simp only [Pt.size] at hr
      have := hr (by omega)
      simp only [rxAt] at this
      rw [if_pos (by omega)] at this
      exact this
    | 1, hx =>
      simp [Pt.kids] at hx
      subst hx
      have e : (foldAt (.app n a c) j 1).2 = (stepAt ([], (j : Int)) a).2 := rfl
      rw [e] at h0 h1 ⊢
      by_cases hk : j < a.size
      · exfalso
        unfold stepAt at h0
        simp only at h0
        rw [if_pos (by omega), if_pos (by omega)] at h0
        simp at h0
      · have e2 : (stepAt ([], (j : Int)) a).2 = (j : Int) - a.size := by
          unfold stepAt
          simp only
          rw [if_pos (by omega), if_neg (by omega)]
        rw [e2] at h0 h1 ⊢
        simp only [Pt.size] at hr
        have := hr (by omega)
        simp only [rxAt] at this
        rw [if_neg hk] at this
        rw [show ((j : Int) - a.size).toNat = j - a.size by omega]
        exact this
    | i + 2, hx => simp [Pt.kids] at hx
/-- Small terms. -/
def small (t : Pt) : Prop := t.size ≤ 150 ∧ t.depth ≤ 40 ∧ t.within 1000000
theorem small_kid {t x : Pt} (h : small t) (hx : x ∈ t.kids) : small x := by
  have h1 := Pt.kids_lt hx
  refine ⟨by have := h.1; omega, by have := h.2.1; omega, ?_⟩
  have hw := h.2.2
  cases t with
  | var n => cases hx
  | lam n y =>
    simp only [Pt.kids, List.mem_singleton] at hx
    subst hx
    exact hw
  | app n a c =>
    simp only [Pt.kids, List.mem_cons, List.not_mem_nil, or_false] at hx
    rcases hx with rfl | rfl
    · exact hw.1
    · exact hw.2
theorem ev_lcAt : ∀ (d : Nat) (t : Pt) (k : Nat), t.depth ≤ d → small t → k ≤ 1000 → (k < t.size → rxAt t k = true) →
    EvN (d + 2100) 59 [.dat t.d, .dat (I k)] [] [] (if k < t.size then ([.dat (red t k).d, .dat (I (-1))], [], []) else ([.dat t.d, .dat (I ((k : Int) - t.size))], [], []))
  | 0, t, k, hd, hs, hk, hr => by have := t.depth_pos; omega
  | d + 1, t, 0, hd, hs, hk, hr => by
    have hp := t.size_pos
    rw [if_pos (by omega)]
    obtain ⟨n, n1, x, y, rfl⟩ := redex_app (t := t) (by have := hr (by omega); cases t <;> exact this)
    refine EvN.mono (ev_fn Go.Proofs.Try.f59 (d + 2100) (by kernel_rfl) (by kernel_rfl) fun kk hkk => ?_) (by omega)
    have h1 := hs.2.1
    simp only [Pt.depth] at h1
    have h := ev_lcBeta false n n1 x y hs.2.2.1 hs.2.2.2 (by omega) (by omega) kk (by omega)
    unfold Pt.db at h
    have e : red (.app n (.lam n1 x) y) 0 = sub 0 y 0 x := rfl
    rw [e, Pt.d_eq (sub 0 y 0 x)]
    rw [Pt.d_eq (sub 0 y 0 x)] at h
    rw [Pt.d_eq (.app n (.lam n1 x) y)]
    exact lcAt_here kk 0 _ _ _ _ _ _ rfl h
  | d + 1, t, j + 1, hd, hs, hk, hr => by
    have hle := t.kids_le
    have hw : w64 ((((j + 1 : Nat) : Int)) - 1) = (j : Int) := (w64_eq (by omega)).trans (by omega)
    have hloop : ∀ kk, d + 2100 ≤ kk → LoopAt cfg kk 59 Go.Proofs.Try.f59 6 (hd59 j t.kd t.num (t.kids.map Pt.d) [] 0) (X.exit 0) (Nm [1, 4, 6] [D.dat (I (foldAt t j t.kids.length).2), D.ptr (Ref.loc 4) 0, D.ptr (Ref.loc 6) 0] [none, some [D.dat (I 0), D.dat (I 0), D.own 46 []], some [D.dat (I t.kd), D.dat (I t.num), D.own 46 ((foldAt t j t.kids.length).1.map Pt.d)]] [] []) := by
      intro kk hkk
      refine loopAt_range (fun i => hd59 (foldAt t j i).2 t.kd t.num (t.kids.map Pt.d) ((foldAt t j i).1.map Pt.d) i) t.kids.length (by omega) (fun i hi m s K hs' hn => ?_) (fun m s K hs' hK => ?_) rfl
      · obtain ⟨x, h1, h2, h3⟩ := kid_at hi
        have hx := Pt.kids_lt h2
        have hto : ((i : Int)).toNat = i := by simp
        have hlen := foldAt_len t j i (by omega)
        have hb := foldAt_bound t j i (by omega)
        have hsuc := foldAt_succ (k := j) h1
        by_cases h0 : 0 ≤ (foldAt t j i).2
        · have hq : (((foldAt t j i).2.toNat : Nat) : Int) = (foldAt t j i).2 := by omega
          have ih := ev_lcAt d x (foldAt t j i).2.toNat (by omega) (small_kid hs h2) (by omega) (fun hlt => foldAt_rx hr h1 h0 (by omega)) kk (by omega)
          rw [hq] at ih
          by_cases hlt : (foldAt t j i).2 < x.size
          · rw [if_pos (by omega)] at ih
            rw [Pt.d_eq x, Pt.d_eq (red x _)] at ih
            refine lcAt_in kk m _ t.kd t.num _ _ _ x.kd x.num _ _ _ _ _ hs' (decide_eq_true (by simp; omega)) ⟨⟨by omega, by simp; omega⟩, by rw [hto]; exact h3⟩ (decide_eq_true h0) ih (by simp; omega) fun s' hs2 => hn s' ?_
            have hst : foldAt t j (i + 1) = ((foldAt t j i).1 ++ [red x (foldAt t j i).2.toNat], -1) := by
              rw [hsuc]
              unfold stepAt
              rw [if_pos h0, if_pos hlt]
            rw [hs2, w64_eq (n := (i : Int) + 1) (by omega)]
            simp only [hd59, hst, List.map_append, List.map_cons, List.map_nil, ← Pt.d_eq]
            rfl
          · rw [if_neg (by omega)] at ih
            rw [Pt.d_eq x] at ih
            refine lcAt_in kk m _ t.kd t.num _ _ _ x.kd x.num _ _ _ _ _ hs' (decide_eq_true (by simp; omega)) ⟨⟨by omega, by simp; omega⟩, by rw [hto]; exact h3⟩ (decide_eq_true h0) ih (by simp; omega) fun s' hs2 => hn s' ?_
            have hst : foldAt t j (i + 1) = ((foldAt t j i).1 ++ [x], (foldAt t j i).2 - x.size) := by
              rw [hsuc]
              unfold stepAt
              rw [if_pos h0, if_neg hlt]
            rw [hs2, w64_eq (n := (i : Int) + 1) (by omega)]
            simp only [hd59, hst, List.map_append, List.map_cons, List.map_nil, ← Pt.d_eq]
            rfl
        · refine lcAt_past kk m _ t.kd t.num _ _ _ x.kd x.num _ hs' (decide_eq_true (by simp; omega)) ⟨⟨by omega, by simp; omega⟩, by rw [hto]; exact h3⟩ (decide_eq_false h0) (by simp; omega) fun s' hs2 => hn s' ?_
          have hst : foldAt t j (i + 1) = ((foldAt t j i).1 ++ [x], (foldAt t j i).2) := by
            rw [hsuc]
            unfold stepAt
            rw [if_neg h0]
          rw [hs2, w64_eq (n := (i : Int) + 1) (by omega)]
          simp only [hd59, hst, List.map_append, List.map_cons, List.map_nil, ← Pt.d_eq]
          rfl
      · exact lcAt_end kk m _ t.kd t.num _ _ _ hs' (decide_eq_false (by simp)) hK
    refine EvN.mono (ev_fn Go.Proofs.Try.f59 (d + 2100) (by kernel_rfl) (by kernel_rfl) fun kk hkk => ?_) (by omega)
    have hl := hloop kk hkk
    have hl' : LoopAt cfg kk 59 Go.Proofs.Try.f59 6 (hd59 (w64 (((j + 1 : Nat) : Int) - 1)) t.kd t.num (t.kids.map Pt.d) [] 0) (X.exit 0) (Nm [1, 4, 6] [D.dat (I (foldAt t j t.kids.length).2), D.ptr (Ref.loc 4) 0, D.ptr (Ref.loc 6) 0] [none, some [D.dat (I 0), D.dat (I 0), D.own 46 []], some [D.dat (I t.kd), D.dat (I t.num), D.own 46 ((foldAt t j t.kids.length).1.map Pt.d)]] [] []) := by rw [hw]; exact hl
    have := lcAt kk _ t.kd t.num _ _ _ (decide_eq_false (by omega)) hl'
    rw [← Pt.d_eq] at this
    rw [this]
    by_cases hlt : j + 1 < t.size
    · rw [if_pos hlt, foldAt_red hlt, Pt.d_eq (red t (j + 1)), (red_kd t j).1, (red_kd t j).2]
    · rw [if_neg hlt, foldAt_past (by omega), ← Pt.d_eq]
      simp only
      rw [show ((j + 1 : Nat) : Int) = (j : Int) + 1 by omega]
/-! ### the program's -/
def rxKids : Pt → Nat → Nat → List Nat
  | .lam _ x, at_, 1 => rx x (at_ + 1)
  | .app _ a _, at_, 1 => rx a (at_ + 1)
  | .app _ a c, at_, 2 => rx a (at_ + 1) ++ rx c (at_ + 1 + a.size)
  | _, _, _ => []
theorem ev_redexes : ∀ (d : Nat) (t : Pt) (at_ : Nat), t.depth ≤ d → t.size ≤ 150 → at_ ≤ 1000000 → at_ + t.size ≤ 1000000 → EvN (d + 100) 61 [.dat t.d, .dat (I at_)] [] [] ([.own 3 ((rx t at_).map IN)], [], [])
  | 0, t, at_, hd, hz, h0, h1 => by have := t.depth_pos; omega
  | d + 1, t, at_, hd, hz, h0, h1 => by
    have hle := t.kids_le
    have hw : w64 ((at_ : Int) + 1) = ((at_ + 1 : Nat) : Int) := (w64_eq (by omega)).trans (by omega)
    let pos := fun i : Nat => at_ + 1 + ((t.kids.take i).map Pt.size).sum
    let hd0 : List Nat := if t.isRedex = true then [at_] else []
    let acc := fun i : Nat => hd0 ++ rxKids t at_ i
    have hstep : ∀ i x, t.kids[i]? = some x → acc (i + 1) = acc i ++ rx x (pos i) ∧ pos (i + 1) = pos i + x.size ∧ pos i + x.size ≤ at_ + t.size := by
      intro i x hx
      cases t with
      | var n => simp [Pt.kids] at hx
      | lam n y =>
        match i, hx with
        | 0, hx =>
          simp [Pt.kids] at hx
          subst hx
          exact ⟨by simp [acc, pos, rxKids], by simp [pos, Pt.kids], by simp only [pos, Pt.size, List.take_zero, List.map_nil, List.sum_nil]; omega⟩
        | i + 1, hx => simp [Pt.kids] at hx
      | app n a c =>
        match i, hx with
        | 0, hx =>
          simp [Pt.kids] at hx
          subst hx
          exact ⟨by simp [acc, pos, rxKids], by simp [pos, Pt.kids], by simp only [pos, Pt.size, List.take_zero, List.map_nil, List.sum_nil]; omega⟩
        | 1, hx =>
          simp [Pt.kids] at hx
          subst hx
          exact ⟨by simp [acc, pos, Pt.kids, rxKids], by simp [pos, Pt.kids]; try omega, by simp only [pos, Pt.kids, Pt.size, List.take_succ_cons, List.take_zero, List.map_cons, List.map_nil, List.sum_cons, List.sum_nil]; omega⟩
        | i + 2, hx => simp [Pt.kids] at hx
    have hend : acc t.kids.length = rx t at_ := by
      cases t with
      | var n => rfl
      | lam n y => rfl
      | app n a c =>
        simp only [acc, hd0, Pt.kids, rx, Pt.isRedex, List.length_cons, List.length_nil, decide_eq_true_eq, rxKids]
    have hacc : ∀ i, i ≤ t.kids.length → (acc i).length ≤ 1 + 3 * 150 := by
      intro i hi
      have hh : hd0.length ≤ 1 := by
        simp only [hd0]
        split <;> simp
      have hz' := hz
      cases t with
      | var n => simp only [acc, List.length_append, rxKids]; simp; omega
      | lam n y =>
        have h1 := rx_length y (at_ + 1)
        simp only [Pt.size] at hz'
        match i, hi with
        | 0, _ => simp only [acc, List.length_append, rxKids]; simp; omega
        | 1, _ => simp only [acc, List.length_append, rxKids]; omega
        | i + 2, hi => simp [Pt.kids] at hi
      | app n a c =>
        have h1 := rx_length a (at_ + 1)
        have h2 := rx_length c (at_ + 1 + a.size)
        simp only [Pt.size] at hz'
        match i, hi with
        | 0, _ => simp only [acc, List.length_append, rxKids]; simp; omega
        | 1, _ => simp only [acc, List.length_append, rxKids]; omega
        | 2, _ => simp only [acc, List.length_append, rxKids]; omega
        | i + 3, hi => simp [Pt.kids] at hi
    have hloop : ∀ kk, d + 100 ≤ kk → LoopAt cfg kk 61 Go.Proofs.Try.f61 6 (hd61 (w64 ((at_ : Int) + 1)) (t.kids.map Pt.d) (hd0.map IN) 0) (X.exit 0) (Nm [5] [.own 3 ((rx t at_).map IN)] [none] [] []) := by
      intro kk hkk
      rw [hw, ← hend]
      refine loopAt_range (fun i => hd61 (pos i) (t.kids.map Pt.d) ((acc i).map IN) i) t.kids.length (by omega) (fun i hi m s K hs' hn => ?_) (fun m s K hs' hK => ?_) ?_
      · obtain ⟨x, h1, h2, h3⟩ := kid_at hi
        have hx := Pt.kids_lt h2
        have hto : ((i : Int)).toNat = i := by simp
        obtain ⟨e1, e2, e3⟩ := hstep i x h1
        have ih := ev_redexes d x (pos i) (by omega) (by omega) (by omega) (by omega) kk (by omega)
        have hsz := ev_size d x (by omega) (by omega) kk (by omega)
        rw [Pt.d_eq x] at ih hsz
        have hl1 := hacc i (by omega)
        have hl2 := rx_length x (pos i)
        refine redexes_go kk m _ _ _ _ x.kd x.num _ _ _ hs' (decide_eq_true (by simp; omega)) ⟨⟨by omega, by simp; omega⟩, by rw [hto]; exact h3⟩ ih ⟨?_, by simp; omega⟩ hsz fun s' hs2 => hn s' ?_
        · rw [List.all_eq_true]
          intro q hq
          obtain ⟨v, _, rfl⟩ := List.mem_map.1 hq
          rfl
        · rw [hs2, w64_eq (n := (i : Int) + 1) (by omega), w64_eq (n := ((pos i : Nat) : Int) + x.size) (by omega)]
          simp only [hd61, e1, e2, List.map_append]
          rfl
      · exact redexes_end kk m _ _ _ _ hs' (decide_eq_false (by simp)) hK
      · have e0 : rxKids t at_ 0 = [] := by cases t <;> rfl
        simp [pos, acc, e0]
    refine EvN.mono (ev_fn Go.Proofs.Try.f61 (d + 100) (by kernel_rfl) (by kernel_rfl) fun kk hkk => ?_) (by omega)
    have hr := ev_isRedex t kk (by omega)
    have hl := hloop kk hkk
    rw [Pt.d_eq t] at hr ⊢
    cases hb : t.isRedex with
    | true =>
      have e0 : hd0 = [at_] := if_pos hb
      rw [hb] at hr
      rw [e0] at hl
      exact redexes_y kk t.kd t.num at_ _ _ 0 hr (by omega) hl
    | false =>
      have e0 : hd0 = [] := if_neg (by rw [hb]; intro h; cases h)
      rw [hb] at hr
      rw [e0] at hl
      exact redexes_n kk t.kd t.num at_ _ _ 0 hr hl
theorem ev_reduceAt : ∀ (d : Nat) (t : Pt) (k : Nat), t.depth ≤ d → small t → rxAt t k = true → k < t.size → EvN (d + 2100) 62 [.dat t.d, .dat (I k)] [] [] ([.dat (red t k).d], [], [])
  | 0, t, k, hd, hs, hr, hk => by have := t.depth_pos; omega
  | d + 1, t, 0, hd, hs, hr, hk => by
    obtain ⟨n, n1, x, y, rfl⟩ := redex_app (t := t) (by cases t <;> exact hr)
    refine EvN.mono (ev_fn Go.Proofs.Try.f62 (d + 2100) (by kernel_rfl) (by kernel_rfl) fun kk hkk => ?_) (by omega)
    have h1 := hs.2.1
    simp only [Pt.depth] at h1
    have h := ev_reduced n n1 x y hs.2.2.1 hs.2.2.2 (by omega) (by omega) kk (by omega)
    have e : red (.app n (.lam n1 x) y) 0 = sub 0 y 0 x := rfl
    rw [e, Pt.d_eq (sub 0 y 0 x), Pt.d_eq (.app n (.lam n1 x) y)]
    rw [Pt.d_eq (sub 0 y 0 x), Pt.d_eq (.app n (.lam n1 x) y)] at h
    exact reduceAt_here kk 0 _ _ _ _ _ _ rfl h
  | d + 1, t, j + 1, hd, hs, hr, hk => by
    have hle := t.kids_le
    have hsz := hs.1
    have hw : w64 ((((j + 1 : Nat) : Int)) - 1) = (j : Int) := (w64_eq (by omega)).trans (by omega)
    -- the number goes on falling behind the part that has been reduced
    have hst : ∃ kf : Nat → Int, kf 0 = j ∧ ∀ i x, t.kids[i]? = some x → -1000 ≤ kf i ∧ kf i ≤ 1000 ∧
        ((0 ≤ kf i ∧ kf i < x.size ∧ (foldAt t j i).2 = kf i ∧ kf (i + 1) = -1) ∨ (0 ≤ kf i ∧ ¬ kf i < x.size ∧ (foldAt t j i).2 = kf i ∧ kf (i + 1) = kf i - x.size) ∨ (¬ 0 ≤ kf i ∧ ¬ 0 ≤ (foldAt t j i).2 ∧ kf (i + 1) = kf i - x.size)) := by
      cases t with
      | var n => exact ⟨fun _ => j, rfl, fun i x hx => by simp [Pt.kids] at hx⟩
      | lam n y =>
        simp only [Pt.size] at hk hsz
        refine ⟨fun i => if i = 0 then j else -1, rfl, fun i x hx => ?_⟩
        match i, hx with
        | 0, hx =>
          simp [Pt.kids] at hx
          subst hx
          refine ⟨by first | (simp; done) | (simp; omega), by first | (simp; done) | (simp; omega), .inl ⟨by simp, by first | (simp; done) | (simp; omega), rfl, rfl⟩⟩
        | i + 1, hx => simp [Pt.kids] at hx
      | app n a c =>
        simp only [Pt.size] at hk hsz
        by_cases hj : j < a.size
        · refine ⟨fun i => if i = 0 then j else if i = 1 then -1 else -1 - c.size, rfl, fun i x hx => ?_⟩
          match i, hx with
          | 0, hx =>
            simp [Pt.kids] at hx
            subst hx
            refine ⟨by first | (simp; done) | (simp; omega), by first | (simp; done) | (simp; omega), .inl ⟨by simp, by first | (simp; done) | (simp; omega), rfl, rfl⟩⟩
          | 1, hx =>
            simp [Pt.kids] at hx
            subst hx
            have e : (foldAt (.app n a c) j 1).2 = -1 := by
              have : foldAt (.app n a c) j 1 = stepAt ([], (j : Int)) a := rfl
              rw [this]
              unfold stepAt
              simp only
              rw [if_pos (by omega), if_pos (by omega)]
            refine ⟨by simp, by simp, .inr (.inr ⟨by simp, by rw [e]; decide, by simp⟩)⟩
          | i + 2, hx => simp [Pt.kids] at hx
        · refine ⟨fun i => if i = 0 then j else if i = 1 then (j : Int) - a.size else -1, rfl, fun i x hx => ?_⟩
          match i, hx with
          | 0, hx =>
            simp [Pt.kids] at hx
            subst hx
            refine ⟨by first | (simp; done) | (simp; omega), by first | (simp; done) | (simp; omega), .inr (.inl ⟨by simp, by first | (simp; done) | (simp; omega), rfl, by simp⟩)⟩
          | 1, hx =>
            simp [Pt.kids] at hx
            subst hx
            have e : (foldAt (.app n a c) j 1).2 = (j : Int) - a.size := by
              have : foldAt (.app n a c) j 1 = stepAt ([], (j : Int)) a := rfl
              rw [this]
              unfold stepAt
              simp only
              rw [if_pos (by omega), if_neg (by omega)]
            refine ⟨by first | (simp; done) | (simp; omega), by first | (simp; done) | (simp; omega), .inl ⟨by first | (simp; done) | (simp; omega), by first | (simp; done) | (simp; omega), by rw [e]; simp, by simp⟩⟩
          | i + 2, hx => simp [Pt.kids] at hx
    obtain ⟨kf, hk0, hkf⟩ := hst
    refine EvN.mono (ev_fn Go.Proofs.Try.f62 (d + 2100) (by kernel_rfl) (by kernel_rfl) fun kk hkk => ?_) (by omega)
    have hl : LoopAt cfg kk 62 Go.Proofs.Try.f62 6 (hd62 (w64 (((j + 1 : Nat) : Int) - 1)) t.kd t.num (t.kids.map Pt.d) [] 0) (X.exit 0) (Nm [4, 5] [.ptr (.loc 4) 0, .ptr (.loc 5) 0] [some [.dat (I 0), .dat (I 0), .own 55 []], some [.dat (I t.kd), .dat (I t.num), .own 55 ((red t (j + 1)).kids.map Pt.d)]] [] []) := by
      rw [hw]
      refine loopAt_range (fun i => hd62 (kf i) t.kd t.num (t.kids.map Pt.d) ((foldAt t j i).1.map Pt.d) i) t.kids.length (by omega) (fun i hi m s K hs' hn => ?_) (fun m s K hs' hK => ?_) ?_
      · obtain ⟨x, h1, h2, h3⟩ := kid_at hi
        have hx := Pt.kids_lt h2
        have hto : ((i : Int)).toNat = i := by simp
        have hlen := foldAt_len t j i (by omega)
        have hsuc := foldAt_succ (k := j) h1
        obtain ⟨b1, b2, hc⟩ := hkf i x h1
        have hsx := ev_size d x (by omega) (by omega) kk (by omega)
        rw [Pt.d_eq x] at hsx
        rcases hc with ⟨c1, c2, c3, c4⟩ | ⟨c1, c2, c3, c4⟩ | ⟨c1, c2, c4⟩
        · have hrx := foldAt_rx (fun _ => hr) h1 (by omega) (by omega)
          have ih := ev_reduceAt d x (kf i).toNat (by omega) (small_kid hs h2) (by rw [← c3]; exact hrx) (by omega) kk (by omega)
          rw [show (((kf i).toNat : Nat) : Int) = kf i by omega, Pt.d_eq x, Pt.d_eq (red x _)] at ih
          refine reduceAt_in kk m _ t.kd t.num _ _ _ x.kd x.num _ _ _ _ _ hs' (decide_eq_true (by simp; omega)) ⟨⟨by omega, by simp; omega⟩, by rw [hto]; exact h3⟩ hsx (decide_eq_true c1) (decide_eq_true c2) ih (by simp; omega) fun s' hs2 => hn s' ?_
          have hst : foldAt t j (i + 1) = ((foldAt t j i).1 ++ [red x (kf i).toNat], -1) := by
            rw [hsuc]
            unfold stepAt
            rw [c3, if_pos c1, if_pos c2]
          rw [hs2, w64_eq (n := (i : Int) + 1) (by omega)]
          simp only [hd62, hst, c4, List.map_append, List.map_cons, List.map_nil, ← Pt.d_eq]
          rfl
        · refine reduceAt_on kk m _ t.kd t.num _ _ _ x.kd x.num _ _ hs' (decide_eq_true (by simp; omega)) ⟨⟨by omega, by simp; omega⟩, by rw [hto]; exact h3⟩ hsx (decide_eq_true c1) (decide_eq_false c2) (by simp; omega) fun s' hs2 => hn s' ?_
          have hst : foldAt t j (i + 1) = ((foldAt t j i).1 ++ [x], kf i - x.size) := by
            rw [hsuc]
            unfold stepAt
            rw [c3, if_pos c1, if_neg c2]
          rw [hs2, w64_eq (n := (i : Int) + 1) (by omega), w64_eq (n := kf i - x.size) (by omega)]
          simp only [hd62, hst, c4, List.map_append, List.map_cons, List.map_nil, ← Pt.d_eq]
          rfl
        · refine reduceAt_past kk m _ t.kd t.num _ _ _ x.kd x.num _ _ hs' (decide_eq_true (by simp; omega)) ⟨⟨by omega, by simp; omega⟩, by rw [hto]; exact h3⟩ hsx (decide_eq_false c1) (by simp; omega) fun s' hs2 => hn s' ?_
          have hst : foldAt t j (i + 1) = ((foldAt t j i).1 ++ [x], (foldAt t j i).2) := by
            rw [hsuc]
            unfold stepAt
            rw [if_neg c2]
          rw [hs2, w64_eq (n := (i : Int) + 1) (by omega), w64_eq (n := kf i - x.size) (by omega)]
          simp only [hd62, hst, c4, List.map_append, List.map_cons, List.map_nil, ← Pt.d_eq]
          rfl
      · refine reduceAt_end kk m _ t.kd t.num _ _ _ hs' (decide_eq_false (by simp)) ?_
        rw [foldAt_red hk]
        exact hK
      · rw [hk0]
        rfl
    have := reduceAt kk _ t.kd t.num _ _ (decide_eq_false (by omega)) hl
    rw [← Pt.d_eq] at this
    rw [this, Pt.d_eq (red t (j + 1)), (red_kd t j).1, (red_kd t j).2]

/-! ### both sides of ReduceAt -/
def ratN (L : List Nd) (v : Int) : List Nd × Bool :=
  match termOfP L with
  | some t => if hasI (rx t 0) v = true then (if (red t v.toNat).good = true then (red t v.toNat).flat 0 (-1) else [], (red t v.toNat).good) else ([], false)
  | none => ([], false)
theorem rat_facts {t : Pt} {v : Int} (hs : small t) (h : hasI (rx t 0) v = true) : ∃ q : Nat, v = q ∧ q < t.size ∧ rxAt t q = true ∧ (red t q).size ≤ 22650 ∧ (red t q).depth ≤ 80 := by
  obtain ⟨q, h1, h2⟩ := hasI_mem h
  obtain ⟨_, h3, h4⟩ := rx_range t 0 q h2
  have h5 := red_size t q (by simpa using h4) hs.1
  have := hs.1
  have := hs.2.1
  exact ⟨q, h1, by omega, by simpa using h4, by omega, by omega⟩
theorem ev_iRat (L : List Nd) (b : Bool) (v : Int) (hL : L.length ≤ 1048576) : EvN 5000 25 [.dat (.lst b (L.map Nd.d)), .dat (I v)] [] [] ([.own 50 ((ratN L v).1.map Nd.d), .dat (B (ratN L v).2)], [], []) := by
  refine (ev_fn Go.Proofs.Try.f25 4900 (by kernel_rfl) (by kernel_rfl) fun kk hkk => ?_).mono (by omega)
  obtain ⟨hy, hn⟩ := ev_termOf L b hL
  unfold ratN
  cases h1 : termOfP L with
  | none =>
    obtain ⟨k1, n1, d1, e1⟩ := hn h1
    exact iReduceAt_no1 kk b _ v _ _ _ (e1 kk (by omega))
  | some t =>
    have a1 := hy t h1 kk (by omega)
    have hg : small t := good_small ((termOfP_iff L t).1 h1).1
    have a2 := ev_redexes 40 t 0 hg.2.1 hg.1 (by omega) (by have := hg.1; omega) kk (by omega)
    have hrl := rx_length t 0
    have a3 := ev_containsI (rx t 0) true v (by have := hg.1; omega) kk (by omega)
    simp only
    cases h2 : hasI (rx t 0) v with
    | false =>
      rw [if_neg (by intro h; cases h)]
      rw [h2] at a3
      rw [Pt.d_eq] at a1 a2
      exact iReduceAt_no2 kk b _ v _ _ _ _ a1 a2 a3
    | true =>
      rw [if_pos rfl]
      rw [h2] at a3
      obtain ⟨q, rfl, hq, hrx, hz1, hz2⟩ := rat_facts hg h2
      rw [show ((q : Int)).toNat = q by simp]
      have a4 := ev_reduceAt 40 t q hg.2.1 hg hrx hq kk (by omega)
      have a5 := ev_goodNodes (red t q) (by omega) kk (by omega)
      rw [Pt.d_eq t] at a1 a2
      rw [Pt.d_eq t, Pt.d_eq (red t q)] at a4
      rw [Pt.d_eq (red t q)] at a5
      exact iReduceAt_go kk b _ q _ _ _ _ _ _ _ _ _ a1 a2 a3 a4 a5
theorem ev_sRat (L : List Nd) (b : Bool) (v : Int) (hL : L.length ≤ 1048576) : EvN 1005000 24 [.dat (.lst b (L.map Nd.d)), .dat (I v)] [] [] ([.own 50 ((ratN L v).1.map Nd.d), .dat (B (ratN L v).2)], [], []) := by
  refine (ev_fn Go.Proofs.Try.f24 1004900 (by kernel_rfl) (by kernel_rfl) fun kk hkk => ?_).mono (by omega)
  have g := ev_GoodTerm L b hL kk (by omega)
  rw [goodS_term] at g
  unfold ratN
  cases h1 : termOfP L with
  | none =>
    rw [h1] at g
    exact ReduceAt_no1 kk b _ v g
  | some t =>
    rw [h1] at g
    have hg : small t := good_small ((termOfP_iff L t).1 h1).1
    have a1 := ev_tree b h1 kk (by omega)
    have a2 := ev_lcRedexes t b hg.1 kk (by omega)
    rw [← ((termOfP_iff L t).1 h1).2] at a2
    have hrl := rx_length t 0
    have a3 := ev_lcHas (rx t 0) true v (by have := hg.1; omega) kk (by omega)
    simp only
    cases h2 : hasI (rx t 0) v with
    | false =>
      rw [if_neg (by intro h; cases h)]
      rw [h2] at a3
      exact ReduceAt_no2 kk b _ v _ g a2 a3
    | true =>
      rw [if_pos rfl]
      rw [h2] at a3
      obtain ⟨q, rfl, hq, hrx, hz1, hz2⟩ := rat_facts hg h2
      rw [show ((q : Int)).toNat = q by simp]
      have a4 := ev_lcAt 40 t q hg.2.1 hg (by have := hg.1; omega) (fun _ => hrx) kk (by omega)
      rw [if_pos hq] at a4
      have a5 := ev_lcTold (red t q) (by omega) kk (by omega)
      rw [Pt.d_eq t] at a1
      rw [Pt.d_eq t, Pt.d_eq (red t q)] at a4
      rw [Pt.d_eq (red t q)] at a5
      exact ReduceAt_go kk b _ q _ _ _ _ _ _ _ _ _ _ g a2 a3 a1 a4 a5
theorem ratN_len (L : List Nd) (v : Int) : (ratN L v).1.length ≤ 150 := by
  unfold ratN
  split
  · split
    · simp only
      split
      · rename_i h
        rw [Pt.flat_length]
        exact (good_small h).1
      · simp
    · simp
  · simp
end Go.Den
/- FnExactReduceAt: what den says of the law. -/
namespace Go.Den
open Go
set_option linter.unusedVariables false
set_option maxRecDepth 100000

theorem fnExactReduceAt_den : ∀ (d0 d1 : Dat), WT cfg.ty 22 d0 → WT cfg.ty 3 d1 → ∃ k, den cfg k 5 [.dat d0, .dat d1] [] [] = some ([.dat (.val (.bool true))], [], []) := by
  intro d0 d1 w0 w1
  obtain ⟨v, rfl⟩ := int_of w1
  obtain ⟨L, rfl, hL⟩ := terms_of w0
  have hl1 : (L.map Nd.d).length = L.length := by simp
  refine ⟨1100001, ev_fn Go.Proofs.Try.f5 1100000 (by kernel_rfl) (by kernel_rfl) (fun kk hkk => ?_) 1100001 (Nat.le_refl _)⟩
  by_cases h1 : 1048576 < L.length
  · have z1 := ev_sz_no (L.map Nd.d) 1048576 false (by omega) (by omega) (by omega) kk (by omega)
    exact rat_small kk _ v _ z1 (by decide)
  · have hL' : L.length ≤ 1048576 := by omega
    have z1 := ev_sz_go (L.map Nd.d) 1048576 false (by omega) (by omega) kk (by omega)
    have t1 := ev_toTermS L hL' kk (by omega)
    have s1 := ev_sRat L true v hL' kk (by omega)
    have s2 := ev_iRat L true v hL' kk (by omega)
    have hw := ratN_len L v
    have e1 := ev_eqTermS (ratN L v).1 true true (by omega) kk (by omega)
    have e2 := ev_eqTermS L true true hL' kk (by omega)
    have m1 := ev_mark L 1 hL' (by omega) (by omega) kk (by omega)
    have m3 := ev_mark (ratN L v).1 1 (by omega) (by omega) (by omega) kk (by omega)
    have q1 := ev_held (ratN L v).1.length 1 true (by omega) (by omega) (by omega) kk (by omega)
    have c := own_clean (ratN L v).1 (ratN L v).2
    generalize (ratN L v).1 = W at *
    generalize (ratN L v).2 = r at *
    cases r with
    | true => exact rat_true kk _ v _ _ _ _ _ _ _ _ _ z1 (decide_eq_false (by omega)) t1 c s1 t1 c s2 e1 t1 e2 m1 (decide_eq_false (by omega)) e1 m3 q1 (decide_eq_false (by omega)) (by simp) t1 c s2 e1 q1 (decide_eq_false (by omega)) (by simp)
    | false => exact rat_false kk _ v _ _ _ _ _ _ _ _ _ z1 (decide_eq_false (by omega)) t1 c s1 t1 c s2 e1 t1 e2 m1 (decide_eq_false (by omega)) e1 m3 q1 (decide_eq_false (by omega)) (by simp) t1 c s2 e1 q1 (decide_eq_false (by omega)) (by simp)
end Go.Den
/- FnExactReduceAt: the row, out of what den says of the law. No condition. -/
namespace Go.Proofs.Ytcehfbegcapmnaa.fnExactReduceAt
open Go.ChangeShapes Go.WideShapes Go.ChangeAt Go.RowKit Go.Den
set_option linter.unusedVariables false
theorem own : ownKnob Try.prog.godebug = none := by kernel_rfl
theorem laidOut : laidOutB Try.prog = true := by kernel_rfl
theorem body : (Try.f5.body).isSome = true := by kernel_rfl
theorem fnThere : cfg.fn 5 = some Try.f5 := by kernel_rfl
theorem plain3 : plainTy cfg.ty 8 3 = true := by kernel_rfl
theorem plain22 : plainTy cfg.ty 8 22 = true := by kernel_rfl
set_option maxRecDepth 100000 in
theorem lifted (os : Os) (started : os.Started) (H : Type) (enc : TypeId × Value → H) :
    ReturnsInHanded {} Try.checked os 5 .any (Rows.fnExactReduceAtSpec.pre6 enc Try.prog Try.f5 Rows.fnExactReduceAtRow.domain false) (Rows.fnExactReduceAtSpec.post enc Try.prog Try.f5 false true false false) := by
  refine returnsInHanded_of_change (C := Try.checked) own started (by kernel_rfl) Try.func5
    (ChangeSpec.witness6 (enc := enc) (C := Try.checked) false ⟨#[], #[.slice none 0 0, .int .i64 0], []⟩ 8 (by kernel_rfl) (by kernel_rfl) (by kernel_rfl) (by kernel_rfl)) ?_
  intro W base args ds gs before hval0 hW hcnd _
  have hval : ∀ (j : Nat) t v, Try.f5.params[j]? = some t → args[j]? = some v → Value.okWide Try.prog W .any base t v := hval0
  have hW' := hW
  obtain ⟨p, q, hA0, hV, rfl, hfz, hnd⟩ := hW
  have hA : DataW.TrodAll enc Try.prog W 0 (fun _ => true) true Try.f5.params.toList args.toList ds p := hA0
  rw [Try.params5] at hA hval
  obtain ⟨v0, vs0, d0, ds0, p0, q0, hargs, rfl, rfl, h0, r0⟩ := trodAll_cons hA
  obtain ⟨v1, vs1, d1, ds1, p1, q1, rfl, rfl, rfl, h1, r1⟩ := trodAll_cons r0
  obtain ⟨rfl, rfl, rfl⟩ := trodAll_nil r1
  obtain rfl : args = #[v0, v1] := by cases args; simp_all
  obtain ⟨rfl, rfl⟩ := trodVars_none hV
  have k0 := h0
  have lt0 : ∀ x ∈ p0, x.block < W.heap.size := by obtain ⟨m, hm⟩ := k0; exact DataW.trod_lt m _ _ _ hm
  obtain ⟨e0, cv0, R0, V0, T0⟩ := arg_dat cfg_ty plain22 (hval 0 22 v0 rfl rfl) h0
  have k1 := h1
  have lt1 : ∀ x ∈ p1, x.block < W.heap.size := by obtain ⟨m, hm⟩ := k1; exact DataW.trod_lt m _ _ _ hm
  obtain ⟨e1, cv1, R1, V1, T1⟩ := arg_dat cfg_ty plain3 (hval 1 3 v1 rfl rfl) h1
  clear hA0 hval0
  have hden := fnExactReduceAt_den e0 e1 T0 T1
  refine (law_calls (P := Try.prog) (C := cfg) (f := 5) (fn := Try.f5) (vals := #[v0, v1]) (ds := [e0, e1]) (W := W) (b := true) den_true.out (cfg_fn fnThere) body rfl (fun j d v hj hv => ?_) hden).mono fun e W' hh => ?_
  · match j, hj, hv with
    | 0, hj, hv => cases hj; cases hv; exact ⟨cv0, R0, V0⟩
    | 1, hj, hv => cases hj; cases hv; exact ⟨cv1, R1, V1⟩
    | j + 2, hj, hv => simp at hj
  · obtain ⟨he, bel⟩ := hh
    subst he
    exact ⟨_, rfl, _, _, _, [], _, [], hW', trodAll_mk1 (shut_bool Try.underlying4 _), (trodAll_cons_mk (Below.trod laidOut (by kernel_rfl) (of_decide_eq_true (by kernel_rfl)) k0 bel lt0) (trodAll_cons_mk (Below.trod laidOut (by kernel_rfl) (of_decide_eq_true (by kernel_rfl)) k1 bel lt1) trodAll_mk0)), rfl, bel.frame _, fun h => by cases h⟩
theorem over : Rows.fnExactReduceAtRow.holds Try.pinned (OpenSpec.ofChange Rows.fnExactReduceAtSpec) :=
  OpenClaim.holds_of_wide 5 Try.f5 rfl rfl rfl rfl rfl rfl rfl ⟨rfl, rfl, rfl, rfl, rfl⟩ rfl rfl rfl rfl rfl (by kernel_rfl) Try.func5 (by kernel_rfl)
    (of_decide_eq_true (by kernel_rfl)) (by unfold Func.isWrapper; first | (rw [if_pos (by decide +kernel)]; kernel_rfl) | (rw [if_neg (by decide +kernel)]; exact ⟨rfl, rfl⟩))
    (fun os started H enc _ => lifted os started H enc)
theorem proved : Rows.FnExactReduceAtSaid := over
end Go.Proofs.Ytcehfbegcapmnaa.fnExactReduceAt
namespace Go.Proofs.Ytcehfbegcapmnaa
/-- The row, under a short name, for the claim. -/
theorem fnExactReduceAt_holds : Rows.FnExactReduceAtSaid := fnExactReduceAt.proved
end Go.Proofs.Ytcehfbegcapmnaa
