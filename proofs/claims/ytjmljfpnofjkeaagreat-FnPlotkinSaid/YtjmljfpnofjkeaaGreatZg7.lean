/- Merged out of: WG WH WI WJ WK WL WN WM WO WP WQ T1 (prune.py, a program of this work's). -/
import Derived.Test.YtjmljfpnofjkeaaGreatZg6
import Derived.Test.YtjmljfpnofjkeaaGreatZg4
import Derived.KernelRfl
set_option linter.unusedVariables false
set_option linter.unusedSimpArgs false
set_option linter.unnecessarySimpa false
namespace Go.Den
open Go
set_option linter.unusedVariables false
set_option maxRecDepth 100000
/-- A term with the redex of a number reduced. -/
def red : Pt → Nat → Pt
  | t, 0 => t.beta
  | .var n, _ + 1 => .var n
  | .lam n x, k + 1 => .lam n (red x k)
  | .app n a c, k + 1 => if k < a.size then .app n (red a k) c else .app n a (red c (k - a.size))
theorem red_kd (t : Pt) (k : Nat) : (red t (k + 1)).kd = t.kd ∧ (red t (k + 1)).num = t.num := by
  cases t with
  | var n => exact ⟨rfl, rfl⟩
  | lam n x => exact ⟨rfl, rfl⟩
  | app n a c => simp only [red]; split <;> exact ⟨rfl, rfl⟩
theorem red_size : ∀ (t : Pt) (k : Nat), rxAt t k = true → t.size ≤ 150 → (red t k).size ≤ t.size + 22500 ∧ (red t k).depth ≤ 2 * t.depth
  | .var n, 0, h, hz => by cases h
  | .var n, k + 1, h, hz => by cases h
  | .lam n x, 0, h, hz => by cases h
  | .lam n x, k + 1, h, hz => by
    simp only [Pt.size] at hz
    have := red_size x k h (by omega)
    simp only [red, Pt.size, Pt.depth]
    omega
  | .app n a c, 0, h, hz => by
    obtain ⟨n', n1, x, y, e⟩ := redex_app (t := .app n a c) h
    cases e
    simp only [Pt.size] at hz
    have h3 := sub_size 0 c x 0
    have hm : x.size * c.size ≤ 150 * 150 := Nat.mul_le_mul (by omega) (by omega)
    simp only [red, Pt.beta, Pt.size, Pt.depth]
    omega
  | .app n a c, k + 1, h, hz => by
    simp only [Pt.size] at hz
    simp only [rxAt] at h
    simp only [red]
    split
    · rename_i hk
      rw [if_pos hk] at h
      have := red_size a k h (by omega)
      simp only [Pt.size, Pt.depth]
      omega
    · rename_i hk
      rw [if_neg hk] at h
      have := red_size c _ h (by omega)
      simp only [Pt.size, Pt.depth]
      omega
/-- A part, on the way to a number. -/
def stepAt (r : List Pt × Int) (x : Pt) : List Pt × Int :=
  if 0 ≤ r.2 then (if r.2 < x.size then (r.1 ++ [red x r.2.toNat], -1) else (r.1 ++ [x], r.2 - x.size)) else (r.1 ++ [x], r.2)
def foldAt (t : Pt) (k : Int) (i : Nat) : List Pt × Int := (t.kids.take i).foldl stepAt ([], k)
theorem foldAt_succ {t x : Pt} {k : Int} {i : Nat} (h : t.kids[i]? = some x) : foldAt t k (i + 1) = stepAt (foldAt t k i) x := by
  unfold foldAt
  rw [List.take_add_one, h, List.foldl_append]
  rfl
theorem foldAt_len (t : Pt) (k : Int) : ∀ i, i ≤ t.kids.length → (foldAt t k i).1.length = i
  | 0, _ => rfl
  | i + 1, h => by
    have hx := List.getElem?_eq_getElem (l := t.kids) (i := i) (by omega)
    rw [foldAt_succ hx]
    have := foldAt_len t k i (by omega)
    unfold stepAt
    split
    · split <;> simp [this]
    · simp [this]
theorem foldAt_red {t : Pt} {j : Nat} (h : j + 1 < t.size) : foldAt t j t.kids.length = ((red t (j + 1)).kids, -1) := by
  unfold foldAt
  rw [List.take_length]
  cases t with
  | var n => simp only [Pt.size] at h; omega
  | lam n x =>
    simp only [Pt.size] at h
    simp only [Pt.kids, List.foldl_cons, List.foldl_nil, stepAt, red]
    rw [if_pos (by omega), if_pos (by omega)]
    simp
  | app n a c =>
    simp only [Pt.size] at h
    simp only [Pt.kids, List.foldl_cons, List.foldl_nil, red]
    by_cases hk : j < a.size
    · rw [if_pos hk]
      have e : stepAt ([], (j : Int)) a = ([red a j], -1) := by
        unfold stepAt
        simp only
        rw [if_pos (by omega), if_pos (by omega)]
        simp
      rw [e]
      unfold stepAt
      simp only
      rw [if_neg (by omega)]
      simp
    · rw [if_neg hk]
      have e : stepAt ([], (j : Int)) a = ([a], (j : Int) - a.size) := by
        unfold stepAt
        simp only
        rw [if_pos (by omega), if_neg (by omega)]
        simp
      rw [e]
      unfold stepAt
      simp only
      rw [if_pos (by omega), if_pos (by omega), show ((j : Int) - a.size).toNat = j - a.size by omega]
      simp
/-- Where a part is met with a number of its own, that is a redex of it. -/
theorem foldAt_rx {t x : Pt} {j i : Nat} (hr : j + 1 < t.size → rxAt t (j + 1) = true) (hx : t.kids[i]? = some x) (h0 : 0 ≤ (foldAt t j i).2) (h1 : (foldAt t j i).2 < x.size) : rxAt x (foldAt t j i).2.toNat = true := by
  cases t with
  | var n => simp [Pt.kids] at hx
  | lam n y =>
    match i, hx with
    | 0, hx =>
      simp [Pt.kids] at hx
      subst hx
      have e : (foldAt (.lam n y) j 0).2 = j := rfl
      rw [e] at h1 ⊢
      simp only [Pt.size] at hr
      exact hr (by omega)
    | i + 1, hx => simp [Pt.kids] at hx
  | app n a c =>
    match i, hx with
    | 0, hx =>
      simp [Pt.kids] at hx
      subst hx
      have e : (foldAt (.app n a c) j 0).2 = j := rfl
      rw [e] at h1 ⊢
      simp only [Pt.size] at hr
      have := hr (by omega)
      simp only [rxAt] at this
      rw [if_pos (by omega)] at this
      exact this
    | 1, hx =>
      simp [Pt.kids] at hx
      subst hx
      have e : (foldAt (.app n a c) j 1).2 = (stepAt ([], (j : Int)) a).2 := rfl
      rw [e] at h0 h1 ⊢
      by_cases hk : j < a.size
      · exfalso
        unfold stepAt at h0
        simp only at h0
        rw [if_pos (by omega), if_pos (by omega)] at h0
        simp at h0
      · have e2 : (stepAt ([], (j : Int)) a).2 = (j : Int) - a.size := by
          unfold stepAt
          simp only
          rw [if_pos (by omega), if_neg (by omega)]
        rw [e2] at h0 h1 ⊢
        simp only [Pt.size] at hr
        have := hr (by omega)
        simp only [rxAt] at this
        rw [if_neg hk] at this
        rw [show ((j : Int) - a.size).toNat = j - a.size by omega]
        exact this
    | i + 2, hx => simp [Pt.kids] at hx
/-- Small terms. -/
def small (t : Pt) : Prop := t.size ≤ 150 ∧ t.depth ≤ 40 ∧ t.within 1000000
theorem small_kid {t x : Pt} (h : small t) (hx : x ∈ t.kids) : small x := by
  have h1 := Pt.kids_lt hx
  refine ⟨by have := h.1; omega, by have := h.2.1; omega, ?_⟩
  have hw := h.2.2
  cases t with
  | var n => cases hx
  | lam n y =>
    simp only [Pt.kids, List.mem_singleton] at hx
    subst hx
    exact hw
  | app n a c =>
    simp only [Pt.kids, List.mem_cons, List.not_mem_nil, or_false] at hx
    rcases hx with rfl | rfl
    · exact hw.1
    · exact hw.2
theorem ev_reduceAt : ∀ (d : Nat) (t : Pt) (k : Nat), t.depth ≤ d → small t → rxAt t k = true → k < t.size → EvN (d + 2100) 74 [.dat t.d, .dat (I k)] [] [] ([.dat (red t k).d], [], [])
  | 0, t, k, hd, hs, hr, hk => by have := t.depth_pos; omega
  | d + 1, t, 0, hd, hs, hr, hk => by
    obtain ⟨n, n1, x, y, rfl⟩ := redex_app (t := t) (by cases t <;> exact hr)
    refine EvN.mono (ev_fn Go.Proofs.Tryz.f74 (d + 2100) (by kernel_rfl) (by kernel_rfl) fun kk hkk => ?_) (by omega)
    have h1 := hs.2.1
    simp only [Pt.depth] at h1
    have h := ev_reduced n n1 x y hs.2.2.1 hs.2.2.2 (by omega) (by omega) kk (by omega)
    have e : red (.app n (.lam n1 x) y) 0 = sub 0 y 0 x := rfl
    rw [e, Pt.d_eq (sub 0 y 0 x), Pt.d_eq (.app n (.lam n1 x) y)]
    rw [Pt.d_eq (sub 0 y 0 x), Pt.d_eq (.app n (.lam n1 x) y)] at h
    exact reduceAt_here kk 0 _ _ _ _ _ _ rfl h
  | d + 1, t, j + 1, hd, hs, hr, hk => by
    have hle := t.kids_le
    have hsz := hs.1
    have hw : w64 ((((j + 1 : Nat) : Int)) - 1) = (j : Int) := (w64_eq (by omega)).trans (by omega)
    -- the number goes on falling behind the part that has been reduced
    have hst : ∃ kf : Nat → Int, kf 0 = j ∧ ∀ i x, t.kids[i]? = some x → -1000 ≤ kf i ∧ kf i ≤ 1000 ∧
        ((0 ≤ kf i ∧ kf i < x.size ∧ (foldAt t j i).2 = kf i ∧ kf (i + 1) = -1) ∨ (0 ≤ kf i ∧ ¬ kf i < x.size ∧ (foldAt t j i).2 = kf i ∧ kf (i + 1) = kf i - x.size) ∨ (¬ 0 ≤ kf i ∧ ¬ 0 ≤ (foldAt t j i).2 ∧ kf (i + 1) = kf i - x.size)) := by
      cases t with
      | var n => exact ⟨fun _ => j, rfl, fun i x hx => by simp [Pt.kids] at hx⟩
      | lam n y =>
        simp only [Pt.size] at hk hsz
        refine ⟨fun i => if i = 0 then j else -1, rfl, fun i x hx => ?_⟩
        match i, hx with
        | 0, hx =>
          simp [Pt.kids] at hx
          subst hx
          refine ⟨by first | (simp; done) | (simp; omega), by first | (simp; done) | (simp; omega), .inl ⟨by simp, by first | (simp; done) | (simp; omega), rfl, rfl⟩⟩
        | i + 1, hx => simp [Pt.kids] at hx
      | app n a c =>
        simp only [Pt.size] at hk hsz
        by_cases hj : j < a.size
        · refine ⟨fun i => if i = 0 then j else if i = 1 then -1 else -1 - c.size, rfl, fun i x hx => ?_⟩
          match i, hx with
          | 0, hx =>
            simp [Pt.kids] at hx
            subst hx
            refine ⟨by first | (simp; done) | (simp; omega), by first | (simp; done) | (simp; omega), .inl ⟨by simp, by first | (simp; done) | (simp; omega), rfl, rfl⟩⟩
          | 1, hx =>
            simp [Pt.kids] at hx
            subst hx
            have e : (foldAt (.app n a c) j 1).2 = -1 := by
              have : foldAt (.app n a c) j 1 = stepAt ([], (j : Int)) a := rfl
              rw [this]
              unfold stepAt
              simp only
              rw [if_pos (by omega), if_pos (by omega)]
            refine ⟨by simp, by simp, .inr (.inr ⟨by simp, by rw [e]; decide, by simp⟩)⟩
          | i + 2, hx => simp [Pt.kids] at hx
        · refine ⟨fun i => if i = 0 then j else if i = 1 then (j : Int) - a.size else -1, rfl, fun i x hx => ?_⟩
          match i, hx with
          | 0, hx =>
            simp [Pt.kids] at hx
            subst hx
            refine ⟨by first | (simp; done) | (simp; omega), by first | (simp; done) | (simp; omega), .inr (.inl ⟨by simp, by first | (simp; done) | (simp; omega), rfl, by simp⟩)⟩
          | 1, hx =>
            simp [Pt.kids] at hx
            subst hx
            have e : (foldAt (.app n a c) j 1).2 = (j : Int) - a.size := by
              have : foldAt (.app n a c) j 1 = stepAt ([], (j : Int)) a := rfl
              rw [this]
              unfold stepAt
              simp only
              rw [if_pos (by omega), if_neg (by omega)]
            refine ⟨by first | (simp; done) | (simp; omega), by first | (simp; done) | (simp; omega), .inl ⟨by first | (simp; done) | (simp; omega), by first | (simp; done) | (simp; omega), by rw [e]; simp, by simp⟩⟩
          | i + 2, hx => simp [Pt.kids] at hx
    obtain ⟨kf, hk0, hkf⟩ := hst
    refine EvN.mono (ev_fn Go.Proofs.Tryz.f74 (d + 2100) (by kernel_rfl) (by kernel_rfl) fun kk hkk => ?_) (by omega)
    have hl : LoopAt cfg kk 74 Go.Proofs.Tryz.f74 6 (hd62 (w64 (((j + 1 : Nat) : Int) - 1)) t.kd t.num (t.kids.map Pt.d) [] 0) (X.exit 0) (Nm [4, 5] [.ptr (.loc 4) 0, .ptr (.loc 5) 0] [some [.dat (I 0), .dat (I 0), .own 49 []], some [.dat (I t.kd), .dat (I t.num), .own 49 ((red t (j + 1)).kids.map Pt.d)]] [] []) := by
      rw [hw]
      refine loopAt_range (fun i => hd62 (kf i) t.kd t.num (t.kids.map Pt.d) ((foldAt t j i).1.map Pt.d) i) t.kids.length (by omega) (fun i hi m s K hs' hn => ?_) (fun m s K hs' hK => ?_) ?_
      · obtain ⟨x, h1, h2, h3⟩ := kid_at hi
        have hx := Pt.kids_lt h2
        have hto : ((i : Int)).toNat = i := by simp
        have hlen := foldAt_len t j i (by omega)
        have hsuc := foldAt_succ (k := j) h1
        obtain ⟨b1, b2, hc⟩ := hkf i x h1
        have hsx := ev_size d x (by omega) (by omega) kk (by omega)
        rw [Pt.d_eq x] at hsx
        rcases hc with ⟨c1, c2, c3, c4⟩ | ⟨c1, c2, c3, c4⟩ | ⟨c1, c2, c4⟩
        · have hrx := foldAt_rx (fun _ => hr) h1 (by omega) (by omega)
          have ih := ev_reduceAt d x (kf i).toNat (by omega) (small_kid hs h2) (by rw [← c3]; exact hrx) (by omega) kk (by omega)
          rw [show (((kf i).toNat : Nat) : Int) = kf i by omega, Pt.d_eq x, Pt.d_eq (red x _)] at ih
          refine reduceAt_in kk m _ t.kd t.num _ _ _ x.kd x.num _ _ _ _ _ hs' (decide_eq_true (by simp; omega)) ⟨⟨by omega, by simp; omega⟩, by rw [hto]; exact h3⟩ hsx (decide_eq_true c1) (decide_eq_true c2) ih (by simp; omega) fun s' hs2 => hn s' ?_
          have hst : foldAt t j (i + 1) = ((foldAt t j i).1 ++ [red x (kf i).toNat], -1) := by
            rw [hsuc]
            unfold stepAt
            rw [c3, if_pos c1, if_pos c2]
          rw [hs2, w64_eq (n := (i : Int) + 1) (by omega)]
          simp only [hd62, hst, c4, List.map_append, List.map_cons, List.map_nil, ← Pt.d_eq]
          rfl
        · refine reduceAt_on kk m _ t.kd t.num _ _ _ x.kd x.num _ _ hs' (decide_eq_true (by simp; omega)) ⟨⟨by omega, by simp; omega⟩, by rw [hto]; exact h3⟩ hsx (decide_eq_true c1) (decide_eq_false c2) (by simp; omega) fun s' hs2 => hn s' ?_
          have hst : foldAt t j (i + 1) = ((foldAt t j i).1 ++ [x], kf i - x.size) := by
            rw [hsuc]
            unfold stepAt
            rw [c3, if_pos c1, if_neg c2]
          rw [hs2, w64_eq (n := (i : Int) + 1) (by omega), w64_eq (n := kf i - x.size) (by omega)]
          simp only [hd62, hst, c4, List.map_append, List.map_cons, List.map_nil, ← Pt.d_eq]
          rfl
        · refine reduceAt_past kk m _ t.kd t.num _ _ _ x.kd x.num _ _ hs' (decide_eq_true (by simp; omega)) ⟨⟨by omega, by simp; omega⟩, by rw [hto]; exact h3⟩ hsx (decide_eq_false c1) (by simp; omega) fun s' hs2 => hn s' ?_
          have hst : foldAt t j (i + 1) = ((foldAt t j i).1 ++ [x], (foldAt t j i).2) := by
            rw [hsuc]
            unfold stepAt
            rw [if_neg c2]
          rw [hs2, w64_eq (n := (i : Int) + 1) (by omega), w64_eq (n := kf i - x.size) (by omega)]
          simp only [hd62, hst, c4, List.map_append, List.map_cons, List.map_nil, ← Pt.d_eq]
          rfl
      · refine reduceAt_end kk m _ t.kd t.num _ _ _ hs' (decide_eq_false (by simp)) ?_
        rw [foldAt_red hk]
        exact hK
      · rw [hk0]
        rfl
    have := reduceAt kk _ t.kd t.num _ _ (decide_eq_false (by omega)) hl
    rw [← Pt.d_eq] at this
    rw [this, Pt.d_eq (red t (j + 1)), (red_kd t j).1, (red_kd t j).2]
end Go.Den
namespace Go.Den
open Go
set_option linter.unusedVariables false
set_option maxRecDepth 100000
theorem isFuel_n (kk : Nat) (x : Int) (h1 : decide (0 ≤ x) = false) : runFn cfg kk (den cfg kk) 59 Go.Proofs.Tryz.f59 [.dat (I x)] [] [] = some ([D.dat (B false)], [], []) :=
  hrun_ok [(200005, .no)] (ob h1 (ob (rfl : false = false) ob0)) (by kernel_rfl)
theorem isFuel_y (kk : Nat) (x : Int) (h1 : decide (0 ≤ x) = true) : runFn cfg kk (den cfg kk) 59 Go.Proofs.Tryz.f59 [.dat (I x)] [] [] = some ([D.dat (B (decide (x ≤ 1000)))], [], []) :=
  hrun_ok [(200005, .yes)] (ob h1 (ob (rfl : true = true) ob0)) (by kernel_rfl)
end Go.Den
namespace Go.Den
open Go
set_option linter.unusedVariables false
set_option maxRecDepth 100000
/-- A term reduced again and again, where 'nx' says; with so much fuel. -/
def goOnP (nx : Pt → Option Nat) : Nat → Pt → Option (Pt × Nat)
  | 0, t => match nx t with | none => some (t, 0) | some _ => none
  | f + 1, t => match nx t with | none => some (t, 0) | some r => if (red t r).good = true then (goOnP nx f (red t r)).map fun q => (q.1, q.2 + 1) else none
theorem goOnP_good {nx : Pt → Option Nat} : ∀ {f : Nat} {t : Pt} {q : Pt × Nat}, t.good = true → goOnP nx f t = some q → q.1.good = true ∧ q.2 ≤ f
  | 0, t, q, hg, h => by
    unfold goOnP at h
    split at h
    · cases h; exact ⟨hg, Nat.le_refl _⟩
    · cases h
  | f + 1, t, q, hg, h => by
    unfold goOnP at h
    split at h
    · cases h; exact ⟨hg, by omega⟩
    · split at h
      · rename_i hr
        obtain ⟨p, hp, rfl⟩ := Option.map_eq_some_iff.1 h
        have := goOnP_good hr hp
        exact ⟨this.1, by simp only; omega⟩
      · cases h
/-- What the reference's loop leaves. -/
def outS (made : Nat) : Option (Pt × Nat) → St
  | some q => Nm [4, 5, 6] [.own 46 ((q.1.flat 0 (-1)).map Nd.d), .dat (I ((made + q.2 : Nat) : Int)), .dat (B true)] [none, none, none] [] []
  | none => Nm [4, 5, 6] [.own 46 [], .dat (I 0), .dat (B false)] [none, none, none] [] []
/-- What both sides come to. -/
def goneN (nx : Pt → Option Nat) (L : List Nd) (v : Int) : List Nd × Nat × Bool :=
  match termOfP L with
  | some t => if 0 ≤ v ∧ v ≤ 1000 then (match goOnP nx v.toNat t with | some q => (q.1.flat 0 (-1), q.2, true) | none => ([], 0, false)) else ([], 0, false)
  | none => ([], 0, false)
end Go.Den
namespace Go.Den
open Go
set_option linter.unusedVariables false
set_option maxRecDepth 100000
/-- What the program's loop leaves. -/
def outI (made : Nat) : Option (Pt × Nat) → St
  | some q => Nm [6, 7, 8] [.ptr (.loc 6) 0, .dat (I ((made + q.2 : Nat) : Int)), .dat (B true)] [some [.dat (I q.1.kd), .dat (I q.1.num), .dat (.lst false (q.1.kids.map Pt.d))], none, none] [] []
  | none => Nm [6, 7, 8] [.ptr (.loc 6) 0, .dat (I 0), .dat (B false)] [some [.dat (I 0), .dat (I 0), .own 49 []], none, none] [] []
/-- The number that a function value tells: of a redex, or less than 0. -/
def nxI : Option Nat → Int → Prop
  | some r, x => x = r
  | none, x => x < 0
theorem ev_isFuel (v : Int) : EvN 1 59 [.dat (I v)] [] [] ([.dat (B (decide (0 ≤ v) && decide (v ≤ 1000)))], [], []) := by
  refine ev_fn Go.Proofs.Tryz.f59 0 (by kernel_rfl) (by kernel_rfl) fun kk _ => ?_
  by_cases h : 0 ≤ v
  · rw [isFuel_y kk v (decide_eq_true h), decide_eq_true h, Bool.true_and]
  · rw [isFuel_n kk v (decide_eq_false h), decide_eq_false h, Bool.false_and]
end Go.Den
namespace Go.Den
open Go
set_option linter.unusedVariables false
set_option maxRecDepth 100000
def hd120 (k n u : Int) (ps bs : List Dat) (i : Int) : St := Nm [1, 2, 3, 24, 25, 26] [.dat (I u), .bor (.lent 0) none, .ptr (.loc 3) 0, .dat (.lst false ps), .dat (I ps.length), .dat (I i)] [none, none, some [.dat (I k), .dat (I n), .dat (.lst false ps)], none, none, none] [] [some (4, bs)]
theorem lcFree_lam (kk m : Nat) {s : St} {K : X → St → Prop} (n u : Int) (ps bs bs' : List Dat) (i : Int) (kx nx : Int) (dx : List Dat) (hs : s.norm ((envOf cfg kk 40 Go.Proofs.Tryz.f40).live (firstRegion (lp Go.Proofs.Tryz.f40 4))) = hd120 2 n u ps bs i) (h1 : decide (i < (ps.length : Int)) = true) (h2 : (0 ≤ i ∧ i < (ps.length : Int)) ∧ ps[i.toNat]? = some (T kx nx dx)) (h3 : den cfg kk 40 [D.dat (T kx nx dx), D.dat (I (w64 (u + 1))), D.bor (Pl.lent 0) none] [] [some (4, bs)] = some ([], [], [some (4, bs')])) (hn : ∀ s : St, s.norm ((envOf cfg kk 40 Go.Proofs.Tryz.f40).live (firstRegion (lp Go.Proofs.Tryz.f40 4))) = Nm [1, 2, 3, 24, 25, 26] [D.dat (I u), D.bor (Pl.lent 0) none, D.ptr (Ref.loc 3) 0, D.dat (Dat.lst false ps), D.dat (I (ps.length : Int)), D.dat (I (w64 (i + 1)))] [none, none, some [D.dat (I 2), D.dat (I n), D.dat (Dat.lst false ps)], none, none, none] [] [some (4, bs')] → Rounds (envOf cfg kk 40 Go.Proofs.Tryz.f40) kk (lp Go.Proofs.Tryz.f40 4) m s K) : Rounds (envOf cfg kk 40 Go.Proofs.Tryz.f40) kk (lp Go.Proofs.Tryz.f40 4) (m + 1) s K :=
  rounds_go [(200027, .yes), (28, .at (T kx nx dx)), (37, .back [] [] [some (4, bs')])] hs (by kernel_rfl) (ob h1 (ob h2 (ob h3 (ob (rfl : false = false) ob0)))) (by kernel_rfl) hn
theorem lcFree_app (kk m : Nat) {s : St} {K : X → St → Prop} (n u : Int) (ps bs bs' : List Dat) (i : Int) (kx nx : Int) (dx : List Dat) (hs : s.norm ((envOf cfg kk 40 Go.Proofs.Tryz.f40).live (firstRegion (lp Go.Proofs.Tryz.f40 4))) = hd120 3 n u ps bs i) (h1 : decide (i < (ps.length : Int)) = true) (h2 : (0 ≤ i ∧ i < (ps.length : Int)) ∧ ps[i.toNat]? = some (T kx nx dx)) (h3 : den cfg kk 40 [D.dat (T kx nx dx), D.dat (I u), D.bor (Pl.lent 0) none] [] [some (4, bs)] = some ([], [], [some (4, bs')])) (hn : ∀ s : St, s.norm ((envOf cfg kk 40 Go.Proofs.Tryz.f40).live (firstRegion (lp Go.Proofs.Tryz.f40 4))) = Nm [1, 2, 3, 24, 25, 26] [D.dat (I u), D.bor (Pl.lent 0) none, D.ptr (Ref.loc 3) 0, D.dat (Dat.lst false ps), D.dat (I (ps.length : Int)), D.dat (I (w64 (i + 1)))] [none, none, some [D.dat (I 3), D.dat (I n), D.dat (Dat.lst false ps)], none, none, none] [] [some (4, bs')] → Rounds (envOf cfg kk 40 Go.Proofs.Tryz.f40) kk (lp Go.Proofs.Tryz.f40 4) m s K) : Rounds (envOf cfg kk 40 Go.Proofs.Tryz.f40) kk (lp Go.Proofs.Tryz.f40 4) (m + 1) s K :=
  rounds_go [(200027, .yes), (28, .at (T kx nx dx)), (41, .back [] [] [some (4, bs')])] hs (by kernel_rfl) (ob h1 (ob h2 (ob h3 (ob (rfl : false = false) ob0)))) (by kernel_rfl) hn
theorem lcFree_end (kk m : Nat) {s : St} {K : X → St → Prop} (k n u : Int) (ps bs : List Dat) (i : Int) (hs : s.norm ((envOf cfg kk 40 Go.Proofs.Tryz.f40).live (firstRegion (lp Go.Proofs.Tryz.f40 4))) = hd120 k n u ps bs i) (h1 : decide (i < (ps.length : Int)) = false) (hK : K (X.exit 0) (Nm [] [] [] [] [some (4, bs)])) : Rounds (envOf cfg kk 40 Go.Proofs.Tryz.f40) kk (lp Go.Proofs.Tryz.f40 4) (m + 1) s K :=
  rounds_end [(200027, .no)] hs (by kernel_rfl) rfl (ob h1 ob0) (by kernel_rfl) hK
theorem lcFree_hit (kk : Nat) (n u : Int) (ps bs bs' : List Dat) (v : Bool) (h1 : decide (u ≤ n) = true) (h2 : 0 ≤ w64 (n - u) ∧ w64 (n - u) < (bs.length : Int)) (h3 : bs[(w64 (n - u)).toNat]? = some (B v)) (h5 : LoopAt cfg kk 40 Go.Proofs.Tryz.f40 4 (hd120 1 n u ps (bs.set (w64 (n - u)).toNat (B true)) 0) (X.exit 0) (Nm [] [] [] [] [some (4, bs')])) : runFn cfg kk (den cfg kk) 40 Go.Proofs.Tryz.f40 [.dat (T 1 n ps), .dat (I u), .bor (.lent 0) none] [] [some (4, bs)] = some ([], [], [some (4, bs')]) :=
  hrun_ok [(200016, .yes), (22, .ok), (100022, .at (B v)), (300004, .loop (hd120 1 n u ps (bs.set (w64 (n - u)).toNat (B true)) 0) (.exit 0) (Nm [] [] [] [] [some (4, bs')]))] (ob h1 (ob h2 (ob h3 (ob (rfl : _ = hd120 1 n u ps (bs.set (w64 (n - u)).toNat (B true)) 0) (ob h5 ob0))))) (by kernel_rfl)
theorem lcFree_miss (kk : Nat) (n u : Int) (ps bs bs' : List Dat) (h1 : decide (u ≤ n) = false) (h3 : LoopAt cfg kk 40 Go.Proofs.Tryz.f40 4 (hd120 1 n u ps bs 0) (X.exit 0) (Nm [] [] [] [] [some (4, bs')])) : runFn cfg kk (den cfg kk) 40 Go.Proofs.Tryz.f40 [.dat (T 1 n ps), .dat (I u), .bor (.lent 0) none] [] [some (4, bs)] = some ([], [], [some (4, bs')]) :=
  hrun_ok [(200016, .no), (300004, .loop (hd120 1 n u ps (bs) 0) (.exit 0) (Nm [] [] [] [] [some (4, bs')]))] (ob h1 (ob (rfl : _ = hd120 1 n u ps bs 0) (ob h3 ob0))) (by kernel_rfl)
theorem lcFree_2 (kk : Nat) (n u : Int) (ps bs bs' : List Dat) (h2 : LoopAt cfg kk 40 Go.Proofs.Tryz.f40 4 (hd120 2 n u ps bs 0) (X.exit 0) (Nm [] [] [] [] [some (4, bs')])) : runFn cfg kk (den cfg kk) 40 Go.Proofs.Tryz.f40 [.dat (T 2 n ps), .dat (I u), .bor (.lent 0) none] [] [some (4, bs)] = some ([], [], [some (4, bs')]) :=
  hrun_ok [(300004, .loop (hd120 2 n u ps (bs) 0) (.exit 0) (Nm [] [] [] [] [some (4, bs')]))] (ob (rfl : _ = hd120 2 n u ps bs 0) (ob h2 ob0)) (by kernel_rfl)
theorem lcFree_3 (kk : Nat) (n u : Int) (ps bs bs' : List Dat) (h2 : LoopAt cfg kk 40 Go.Proofs.Tryz.f40 4 (hd120 3 n u ps bs 0) (X.exit 0) (Nm [] [] [] [] [some (4, bs')])) : runFn cfg kk (den cfg kk) 40 Go.Proofs.Tryz.f40 [.dat (T 3 n ps), .dat (I u), .bor (.lent 0) none] [] [some (4, bs)] = some ([], [], [some (4, bs')]) :=
  hrun_ok [(300004, .loop (hd120 3 n u ps (bs) 0) (.exit 0) (Nm [] [] [] [] [some (4, bs')]))] (ob (rfl : _ = hd120 3 n u ps bs 0) (ob h2 ob0)) (by kernel_rfl)
def hd115 (bs out : List Dat) (i : Int) : St := Nm [4, 5, 16, 17, 18] [.own 4 bs, .own 3 out, .bor (.slot 4 []) none, .dat (I bs.length), .dat (I i)] [none, none, none, none, none] [] []
theorem FreeIn_hit (kk m : Nat) {s : St} {K : X → St → Prop} (bs out : List Dat) (i : Int) (hs : s.norm ((envOf cfg kk 75 Go.Proofs.Tryz.f75).live (firstRegion (lp Go.Proofs.Tryz.f75 7))) = hd115 bs out i) (h1 : decide (i < (bs.length : Int)) = true) (h2 : 0 ≤ i ∧ i < (bs.length : Int)) (h3 : bs[i.toNat]? = some (B true)) (h4 : out.length + 1 ≤ 2147483648) (hn : ∀ s : St, s.norm ((envOf cfg kk 75 Go.Proofs.Tryz.f75).live (firstRegion (lp Go.Proofs.Tryz.f75 7))) = Nm [4, 5, 16, 17, 18] [D.own 4 bs, D.own 3 (out ++ [I i]), D.bor (Pl.slot 4 []) none, D.dat (I (bs.length : Int)), D.dat (I (w64 (i + 1)))] [none, none, none, none, none] [] [] → Rounds (envOf cfg kk 75 Go.Proofs.Tryz.f75) kk (lp Go.Proofs.Tryz.f75 7) m s K) : Rounds (envOf cfg kk 75 Go.Proofs.Tryz.f75) kk (lp Go.Proofs.Tryz.f75 7) (m + 1) s K :=
  rounds_go [(200019, .yes), (21, .ok), (22, .at (B true)), (27, .ok)] hs (by kernel_rfl) (ob h1 (ob h2 (ob h3 (ob (obT h4) ob0)))) (by kernel_rfl) hn
theorem FreeIn_miss (kk m : Nat) {s : St} {K : X → St → Prop} (bs out : List Dat) (i : Int) (hs : s.norm ((envOf cfg kk 75 Go.Proofs.Tryz.f75).live (firstRegion (lp Go.Proofs.Tryz.f75 7))) = hd115 bs out i) (h1 : decide (i < (bs.length : Int)) = true) (h2 : 0 ≤ i ∧ i < (bs.length : Int)) (h3 : bs[i.toNat]? = some (B false)) (hn : ∀ s : St, s.norm ((envOf cfg kk 75 Go.Proofs.Tryz.f75).live (firstRegion (lp Go.Proofs.Tryz.f75 7))) = Nm [4, 5, 16, 17, 18] [D.own 4 bs, D.own 3 out, D.bor (Pl.slot 4 []) none, D.dat (I (bs.length : Int)), D.dat (I (w64 (i + 1)))] [none, none, none, none, none] [] [] → Rounds (envOf cfg kk 75 Go.Proofs.Tryz.f75) kk (lp Go.Proofs.Tryz.f75 7) m s K) : Rounds (envOf cfg kk 75 Go.Proofs.Tryz.f75) kk (lp Go.Proofs.Tryz.f75 7) (m + 1) s K :=
  rounds_go [(200019, .yes), (21, .ok), (22, .at (B false))] hs (by kernel_rfl) (ob h1 (ob h2 (ob h3 ob0))) (by kernel_rfl) hn
theorem FreeIn_end (kk m : Nat) {s : St} {K : X → St → Prop} (bs out : List Dat) (i : Int) (hs : s.norm ((envOf cfg kk 75 Go.Proofs.Tryz.f75).live (firstRegion (lp Go.Proofs.Tryz.f75 7))) = hd115 bs out i) (h1 : decide (i < (bs.length : Int)) = false) (hK : K (X.exit 0) (Nm [5] [D.own 3 out] [none] [] [])) : Rounds (envOf cfg kk 75 Go.Proofs.Tryz.f75) kk (lp Go.Proofs.Tryz.f75 7) (m + 1) s K :=
  rounds_end [(200019, .no)] hs (by kernel_rfl) rfl (ob h1 ob0) (by kernel_rfl) hK
theorem FreeIn_no (kk : Nat) (b : Bool) (es : List Dat) (h1 : den cfg kk 54 [D.dat (Dat.lst b es)] [] [] = some ([D.dat (B false)], [], [])) : runFn cfg kk (den cfg kk) 75 Go.Proofs.Tryz.f75 [.dat (Dat.lst b es)] [] [] = some ([D.own 3 [], D.dat (B false)], [], []) :=
  hrun_ok [(9, .ret [.dat (B false)])] (ob h1 ob0) (by kernel_rfl)
theorem FreeIn_go (kk : Nat) (b : Bool) (es : List Dat) (bs out : List Dat) (k n : Int) (d : List Dat) (h1 : den cfg kk 54 [D.dat (Dat.lst b es)] [] [] = some ([D.dat (B true)], [], [])) (h2 : den cfg kk 28 [D.dat (Dat.lst b es), D.dat (I 0)] [] [] = some ([D.dat (T k n d)], [], [])) (h3 : den cfg kk 40 [D.dat (T k n d), D.dat (I 0), D.bor (Pl.lent 0) none] [] [some (4, [B false, B false, B false, B false, B false, B false, B false, B false, B false, B false, B false, B false, B false, B false, B false, B false, B false, B false, B false, B false, B false, B false, B false, B false, B false, B false, B false, B false, B false, B false, B false, B false, B false, B false, B false, B false, B false, B false, B false, B false, B false, B false, B false, B false, B false, B false, B false, B false, B false, B false, B false, B false, B false, B false, B false, B false, B false, B false, B false, B false, B false, B false, B false, B false, B false, B false, B false, B false, B false, B false, B false, B false, B false, B false, B false, B false, B false, B false, B false, B false, B false, B false, B false, B false, B false, B false, B false, B false, B false, B false, B false, B false, B false, B false, B false, B false, B false, B false, B false, B false])] = some ([], [], [some (4, bs)])) (h6 : LoopAt cfg kk 75 Go.Proofs.Tryz.f75 7 (hd115 bs [] 0) (X.exit 0) (Nm [5] [D.own 3 out] [none] [] [])) : runFn cfg kk (den cfg kk) 75 Go.Proofs.Tryz.f75 [.dat (Dat.lst b es)] [] [] = some ([D.own 3 out, D.dat (B true)], [], []) :=
  hrun_ok [(9, .ret [.dat (B true)]), (13, .ret [.dat (T k n d)]), (15, .back [] [] [some (4, bs)]), (300007, .loop (hd115 bs [] 0) (.exit 0) (Nm [5] [.own 3 out] [none] [] []))] (ob h1 (ob h2 (ob h3 (ob (rfl : false = false) (ob (rfl : _ = hd115 bs [] 0) (ob h6 ob0)))))) (by kernel_rfl)
theorem leClosed_no (kk : Nat) (b : Bool) (es : List Dat) (rs : List Dat) (h1 : den cfg kk 75 [D.dat (Dat.lst b es)] [] [] = some ([D.own 3 rs, D.dat (B false)], [], [])) : runFn cfg kk (den cfg kk) 62 Go.Proofs.Tryz.f62 [.dat (Dat.lst b es)] [] [] = some ([D.dat (B false)], [], []) :=
  hrun_ok [(7, .ret [.own 3 rs, .dat (B false)])] (ob h1 ob0) (by kernel_rfl)
theorem leClosed_y (kk : Nat) (b : Bool) (es : List Dat) (rs : List Dat) (h1 : den cfg kk 75 [D.dat (Dat.lst b es)] [] [] = some ([D.own 3 rs, D.dat (B true)], [], [])) : runFn cfg kk (den cfg kk) 62 Go.Proofs.Tryz.f62 [.dat (Dat.lst b es)] [] [] = some ([D.dat (B (decide ((rs.length : Int) = 0)))], [], []) :=
  hrun_ok [(7, .ret [.own 3 rs, .dat (B true)])] (ob h1 ob0) (by kernel_rfl)
theorem lfClosed (kk : Nat) (b : Bool) (es : List Dat) (r : Bool) (h1 : den cfg kk 62 [D.dat (Dat.lst b es)] [] [] = some ([D.dat (B r)], [], [])) : runFn cfg kk (den cfg kk) 44 Go.Proofs.Tryz.f44 [.dat (Dat.lst b es)] [] [] = some ([D.dat (B r)], [], []) :=
  hrun_ok [(4, .ret [.dat (B r)])] (ob h1 ob0) (by kernel_rfl)
def hd105 (a : Int) (ps out : List Dat) (i : Int) : St := Nm [1, 2, 29, 30, 31] [.dat (I a), .fn 65 [.up 0], .dat (.lst false ps), .dat (I ps.length), .dat (I i)] [none, none, none, none, none] [[.own 3 out]] []
theorem free_go (kk m : Nat) {s : St} {K : X → St → Prop} (a : Int) (ps out : List Dat) (i : Int) (out' : List Dat) (kx nx : Int) (dx : List Dat) (hs : s.norm ((envOf cfg kk 64 Go.Proofs.Tryz.f64).live (firstRegion (lp Go.Proofs.Tryz.f64 6))) = hd105 a ps out i) (h1 : decide (i < (ps.length : Int)) = true) (h2 : (0 ≤ i ∧ i < (ps.length : Int)) ∧ ps[i.toNat]? = some (T kx nx dx)) (h3 : den cfg kk 64 [D.dat (T kx nx dx), D.dat (I a), D.fn 65 [Ref.up 0]] [[D.own 3 out]] [] = some ([], [[D.own 3 out']], [])) (hn : ∀ s : St, s.norm ((envOf cfg kk 64 Go.Proofs.Tryz.f64).live (firstRegion (lp Go.Proofs.Tryz.f64 6))) = Nm [1, 2, 29, 30, 31] [D.dat (I a), D.fn 65 [Ref.up 0], D.dat (Dat.lst false ps), D.dat (I (ps.length : Int)), D.dat (I (w64 (i + 1)))] [none, none, none, none, none] [[D.own 3 out']] [] → Rounds (envOf cfg kk 64 Go.Proofs.Tryz.f64) kk (lp Go.Proofs.Tryz.f64 6) m s K) : Rounds (envOf cfg kk 64 Go.Proofs.Tryz.f64) kk (lp Go.Proofs.Tryz.f64 6) (m + 1) s K :=
  rounds_go [(200032, .yes), (33, .at (T kx nx dx)), (38, .back [] [[.own 3 out']] [])] hs (by kernel_rfl) (ob h1 (ob h2 (ob h3 (ob (rfl : false = false) ob0)))) (by kernel_rfl) hn
theorem free_end (kk m : Nat) {s : St} {K : X → St → Prop} (a : Int) (ps out : List Dat) (i : Int) (hs : s.norm ((envOf cfg kk 64 Go.Proofs.Tryz.f64).live (firstRegion (lp Go.Proofs.Tryz.f64 6))) = hd105 a ps out i) (h1 : decide (i < (ps.length : Int)) = false) (hK : K (X.exit 0) (Nm [] [] [] [[D.own 3 out]] [])) : Rounds (envOf cfg kk 64 Go.Proofs.Tryz.f64) kk (lp Go.Proofs.Tryz.f64 6) (m + 1) s K :=
  rounds_end [(200032, .no)] hs (by kernel_rfl) rfl (ob h1 ob0) (by kernel_rfl) hK
theorem free_hit (kk : Nat) (n a : Int) (ps out out1 out2 : List Dat) (h1 : decide (a ≤ n) = true) (h2 : den cfg kk 65 [D.dat (I (w64 (n - a))), D.ptr (Ref.up 0) 0] [[D.own 3 out]] [] = some ([], [[D.own 3 out1]], [])) (h5 : LoopAt cfg kk 64 Go.Proofs.Tryz.f64 6 (hd105 a ps out1 0) (X.exit 0) (Nm [] [] [] [[D.own 3 out2]] [])) : runFn cfg kk (den cfg kk) 64 Go.Proofs.Tryz.f64 [.dat (T 1 n ps), .dat (I a), .fn 65 [.up 0]] [[.own 3 out]] [] = some ([], [[D.own 3 out2]], []) :=
  hrun_ok [(200016, .yes), (22, .back [] [[.own 3 out1]] []), (300006, .loop (hd105 a ps out1 0) (.exit 0) (Nm [] [] [] [[.own 3 out2]] []))] (ob h1 (ob h2 (ob (rfl : false = false) (ob (rfl : _ = hd105 a ps out1 0) (ob h5 ob0))))) (by kernel_rfl)
theorem free_miss (kk : Nat) (n a : Int) (ps out out2 : List Dat) (h1 : decide (a ≤ n) = false) (h3 : LoopAt cfg kk 64 Go.Proofs.Tryz.f64 6 (hd105 a ps out 0) (X.exit 0) (Nm [] [] [] [[D.own 3 out2]] [])) : runFn cfg kk (den cfg kk) 64 Go.Proofs.Tryz.f64 [.dat (T 1 n ps), .dat (I a), .fn 65 [.up 0]] [[.own 3 out]] [] = some ([], [[D.own 3 out2]], []) :=
  hrun_ok [(200016, .no), (300006, .loop (hd105 a ps out 0) (.exit 0) (Nm [] [] [] [[.own 3 out2]] []))] (ob h1 (ob (rfl : _ = hd105 a ps out 0) (ob h3 ob0))) (by kernel_rfl)
theorem free_lam (kk : Nat) (n a : Int) (ps out out2 : List Dat) (h2 : LoopAt cfg kk 64 Go.Proofs.Tryz.f64 6 (hd105 (w64 (a + 1)) ps out 0) (X.exit 0) (Nm [] [] [] [[D.own 3 out2]] [])) : runFn cfg kk (den cfg kk) 64 Go.Proofs.Tryz.f64 [.dat (T 2 n ps), .dat (I a), .fn 65 [.up 0]] [[.own 3 out]] [] = some ([], [[D.own 3 out2]], []) :=
  hrun_ok [(300006, .loop (hd105 (w64 (a + 1)) ps out 0) (.exit 0) (Nm [] [] [] [[.own 3 out2]] []))] (ob (rfl : _ = hd105 (w64 (a + 1)) ps out 0) (ob h2 ob0)) (by kernel_rfl)
theorem free_app (kk : Nat) (n a : Int) (ps out out2 : List Dat) (h2 : LoopAt cfg kk 64 Go.Proofs.Tryz.f64 6 (hd105 a ps out 0) (X.exit 0) (Nm [] [] [] [[D.own 3 out2]] [])) : runFn cfg kk (den cfg kk) 64 Go.Proofs.Tryz.f64 [.dat (T 3 n ps), .dat (I a), .fn 65 [.up 0]] [[.own 3 out]] [] = some ([], [[D.own 3 out2]], []) :=
  hrun_ok [(300006, .loop (hd105 a ps out 0) (.exit 0) (Nm [] [] [] [[.own 3 out2]] []))] (ob (rfl : _ = hd105 a ps out 0) (ob h2 ob0)) (by kernel_rfl)
theorem freeIn1 (kk : Nat) (x : Int) (out : List Dat) (h1 : out.length + 1 ≤ 2147483648) : runFn cfg kk (den cfg kk) 65 Go.Proofs.Tryz.f65 [.dat (I x), .ptr (.up 0) 0] [[.own 3 out]] [] = some ([], [[D.own 3 (out ++ [I x])]], []) :=
  hrun_ok [(6, .ok)] (ob (obT h1) ob0) (by kernel_rfl)
theorem freeIn (kk : Nat) (k n : Int) (d : List Dat) (out srt cmp : List Dat) (h1 : den cfg kk 64 [D.dat (T k n d), D.dat (I 0), D.fn 65 [Ref.up 0]] [[D.own 3 []]] [] = some ([], [[D.own 3 out]], [])) (h3 : den cfg kk 66 [D.bor (Pl.lent 0) none] [] [some (3, out)] = some ([], [], [some (3, srt)])) (h5 : den cfg kk 67 [D.own 3 srt] [] [] = some ([D.own 3 cmp], [], [])) : runFn cfg kk (den cfg kk) 46 Go.Proofs.Tryz.f46 [.dat (T k n d)] [] [] = some ([D.own 3 cmp], [], []) :=
  hrun_ok [(7, .back [] [[.own 3 out]] []), (9, .back [] [] [some (3, srt)]), (11, .back [.own 3 cmp] [] [])] (ob h1 (ob (rfl : false = false) (ob h3 (ob (rfl : false = false) (ob h5 (ob (rfl : false = false) ob0)))))) (by kernel_rfl)
theorem closedOf_no (kk : Nat) (b : Bool) (es : List Dat) (k n : Int) (d : List Dat) (h1 : den cfg kk 45 [D.dat (Dat.lst b es)] [] [] = some ([D.dat (T k n d), D.dat (B false)], [], [])) : runFn cfg kk (den cfg kk) 19 Go.Proofs.Tryz.f19 [.dat (Dat.lst b es)] [] [] = some ([D.dat (T k n d), D.dat (B false)], [], []) :=
  hrun_ok [(8, .ret [.dat (T k n d), .dat (B false)])] (ob h1 ob0) (by kernel_rfl)
theorem closedOf_y (kk : Nat) (b : Bool) (es : List Dat) (rs : List Dat) (k n : Int) (d : List Dat) (h1 : den cfg kk 45 [D.dat (Dat.lst b es)] [] [] = some ([D.dat (T k n d), D.dat (B true)], [], [])) (h2 : den cfg kk 46 [D.dat (T k n d)] [] [] = some ([D.own 3 rs], [], [])) : runFn cfg kk (den cfg kk) 19 Go.Proofs.Tryz.f19 [.dat (Dat.lst b es)] [] [] = some ([D.dat (T k n d), D.dat (B (decide ((rs.length : Int) = 0)))], [], []) :=
  hrun_ok [(8, .ret [.dat (T k n d), .dat (B true)]), (15, .ret [.own 3 rs])] (ob h1 (ob h2 ob0)) (by kernel_rfl)
theorem iIsValue_no (kk : Nat) (b : Bool) (es : List Dat) (k n : Int) (d : List Dat) (h1 : den cfg kk 19 [D.dat (Dat.lst b es)] [] [] = some ([D.dat (T k n d), D.dat (B false)], [], [])) : runFn cfg kk (den cfg kk) 8 Go.Proofs.Tryz.f8 [.dat (Dat.lst b es)] [] [] = some ([D.dat (B false)], [], []) :=
  hrun_ok [(7, .ret [.dat (T k n d), .dat (B false)])] (ob h1 ob0) (by kernel_rfl)
theorem iIsValue_y (kk : Nat) (b : Bool) (es : List Dat) (k n : Int) (d : List Dat) (h1 : den cfg kk 19 [D.dat (Dat.lst b es)] [] [] = some ([D.dat (T k n d), D.dat (B true)], [], [])) : runFn cfg kk (den cfg kk) 8 Go.Proofs.Tryz.f8 [.dat (Dat.lst b es)] [] [] = some ([D.dat (B (decide (k = 2)))], [], []) :=
  hrun_ok [(7, .ret [.dat (T k n d), .dat (B true)])] (ob h1 ob0) (by kernel_rfl)
theorem iApply_no1 (kk : Nat) (b1 b2 : Bool) (es fs : List Dat) (r2 : Bool) (k1 n1 : Int) (d1 : List Dat) (k2 n2 : Int) (d2 : List Dat) (h1 : den cfg kk 19 [D.dat (Dat.lst b1 es)] [] [] = some ([D.dat (T k1 n1 d1), D.dat (B false)], [], [])) (h2 : den cfg kk 19 [D.dat (Dat.lst b2 fs)] [] [] = some ([D.dat (T k2 n2 d2), D.dat (B r2)], [], [])) : runFn cfg kk (den cfg kk) 21 Go.Proofs.Tryz.f21 [.dat (Dat.lst b1 es), .dat (Dat.lst b2 fs)] [] [] = some ([D.own 46 [], D.dat (B false)], [], []) :=
  hrun_ok [(12, .ret [.dat (T k1 n1 d1), .dat (B false)]), (17, .ret [.dat (T k2 n2 d2), .dat (B r2)])] (ob h1 (ob h2 ob0)) (by kernel_rfl)
theorem iApply_no2 (kk : Nat) (b1 b2 : Bool) (es fs : List Dat) (k1 n1 : Int) (d1 : List Dat) (k2 n2 : Int) (d2 : List Dat) (h1 : den cfg kk 19 [D.dat (Dat.lst b1 es)] [] [] = some ([D.dat (T k1 n1 d1), D.dat (B true)], [], [])) (h2 : den cfg kk 19 [D.dat (Dat.lst b2 fs)] [] [] = some ([D.dat (T k2 n2 d2), D.dat (B false)], [], [])) : runFn cfg kk (den cfg kk) 21 Go.Proofs.Tryz.f21 [.dat (Dat.lst b1 es), .dat (Dat.lst b2 fs)] [] [] = some ([D.own 46 [], D.dat (B false)], [], []) :=
  hrun_ok [(12, .ret [.dat (T k1 n1 d1), .dat (B true)]), (17, .ret [.dat (T k2 n2 d2), .dat (B false)])] (ob h1 (ob h2 ob0)) (by kernel_rfl)
theorem iApply_go (kk : Nat) (b1 b2 : Bool) (es fs : List Dat) (out : List Dat) (r : Bool) (k1 n1 : Int) (d1 : List Dat) (k2 n2 : Int) (d2 : List Dat) (k3 n3 : Int) (d3 : List Dat) (h1 : den cfg kk 19 [D.dat (Dat.lst b1 es)] [] [] = some ([D.dat (T k1 n1 d1), D.dat (B true)], [], [])) (h2 : den cfg kk 19 [D.dat (Dat.lst b2 fs)] [] [] = some ([D.dat (T k2 n2 d2), D.dat (B true)], [], [])) (h3 : den cfg kk 48 [D.dat (T k1 n1 d1), D.dat (T k2 n2 d2)] [] [] = some ([D.dat (T k3 n3 d3)], [], [])) (h4 : den cfg kk 36 [D.dat (T k3 n3 d3)] [] [] = some ([D.own 46 out, D.dat (B r)], [], [])) : runFn cfg kk (den cfg kk) 21 Go.Proofs.Tryz.f21 [.dat (Dat.lst b1 es), .dat (Dat.lst b2 fs)] [] [] = some ([D.own 46 out, D.dat (B r)], [], []) :=
  hrun_ok [(12, .ret [.dat (T k1 n1 d1), .dat (B true)]), (17, .ret [.dat (T k2 n2 d2), .dat (B true)]), (28, .ret [.dat (T k3 n3 d3)]), (29, .ret [.own 46 out, .dat (B r)])] (ob h1 (ob h2 (ob h3 (ob h4 ob0)))) (by kernel_rfl)
end Go.Den
namespace Go.Den
open Go
set_option linter.unusedVariables false
set_option maxRecDepth 100000
/-- A loop over a term's parts. -/
theorem kids_loop {kk f : Nat} {fn : Func} {r : Nat} {x : X} {s' s0 : St} (t : Pt) (hk : 5 ≤ kk) (st : Nat → St)
    (hgo : ∀ (i : Nat) (y : Pt), t.kids[i]? = some y → y ∈ t.kids → decide ((i : Int) < ((t.kids.map Pt.d).length : Int)) = true → ((0 ≤ (i : Int) ∧ (i : Int) < ((t.kids.map Pt.d).length : Int)) ∧ (t.kids.map Pt.d)[(i : Int).toNat]? = some (T y.kd y.num (y.kids.map Pt.d))) → w64 ((i : Int) + 1) = ((i + 1 : Nat) : Int) →
      ∀ (m : Nat) (s : St) (K : X → St → Prop), s.norm ((envOf cfg kk f fn).live (firstRegion (lp fn r))) = st i → (∀ s : St, s.norm ((envOf cfg kk f fn).live (firstRegion (lp fn r))) = st (i + 1) → Rounds (envOf cfg kk f fn) kk (lp fn r) m s K) → Rounds (envOf cfg kk f fn) kk (lp fn r) (m + 1) s K)
    (hend : decide ((t.kids.length : Int) < ((t.kids.map Pt.d).length : Int)) = false → ∀ (m : Nat) (s : St) (K : X → St → Prop), s.norm ((envOf cfg kk f fn).live (firstRegion (lp fn r))) = st t.kids.length → K x s' → Rounds (envOf cfg kk f fn) kk (lp fn r) (m + 1) s K) (h0 : s0 = st 0) : LoopAt cfg kk f fn r s0 x s' := by
  have hle := t.kids_le
  refine loopAt_range st t.kids.length (by omega) (fun i hi m s K hs hn => ?_) (hend (decide_eq_false (by simp))) h0
  obtain ⟨y, h1, h2, h3⟩ := kid_at hi
  have hto : ((i : Int)).toNat = i := by simp
  exact hgo i y h1 h2 (decide_eq_true (by simp; omega)) ⟨⟨by omega, by simp; omega⟩, by rw [hto]; exact h3⟩ (by rw [w64_eq (by omega)]; rfl) m s K hs hn
theorem takeF_step {α β : Type} {ks : List α} {i : Nat} {x : α} (h : ks[i]? = some x) (g : α → List β) : (ks.take (i + 1)).flatMap g = (ks.take i).flatMap g ++ g x := by
  rw [List.take_add_one, h]
  simp
/-- The indices of the free variables, as they stand. -/
def fv : Pt → Int → List Int
  | .var n, a => if a ≤ n then [n - a] else []
  | .lam _ t, a => fv t (a + 1)
  | .app _ x y, a => fv x a ++ fv y a
def Pt.under (t : Pt) (a : Int) : Int := match t with | .lam _ _ => a + 1 | _ => a
theorem fv_kids (t : Pt) (a : Int) (h : ∀ n, t ≠ .var n) : fv t a = t.kids.flatMap fun x => fv x (t.under a) := by
  cases t with
  | var n => exact (h n rfl).elim
  | lam n x => simp [fv, Pt.kids, Pt.under]
  | app n x y => simp [fv, Pt.kids, Pt.under]
theorem fv_range : ∀ (t : Pt) (a : Int), t.nums = true → 0 ≤ a → ∀ z ∈ fv t a, 0 ≤ z ∧ z ≤ 99
  | .var n, a, h, ha, z, hz => by
    have h' : 0 ≤ n ∧ n ≤ 99 := by simpa [Pt.nums] using h
    simp only [fv] at hz
    split at hz
    · simp only [List.mem_singleton] at hz; omega
    · cases hz
  | .lam n t, a, h, ha, z, hz => by
    have h' : n = 0 ∧ t.nums = true := by simpa [Pt.nums] using h
    exact fv_range t (a + 1) h'.2 (by omega) z hz
  | .app n x y, a, h, ha, z, hz => by
    have h' : n = 0 ∧ x.nums = true ∧ y.nums = true := by simpa [Pt.nums] using h
    simp only [fv, List.mem_append] at hz
    rcases hz with hz | hz
    · exact fv_range x a h'.2.1 ha z hz
    · exact fv_range y a h'.2.2 ha z hz
theorem fv_length : ∀ (t : Pt) (a : Int), (fv t a).length ≤ t.size
  | .var n, a => by simp only [fv, Pt.size]; split <;> simp
  | .lam n t, a => by have := fv_length t (a + 1); simp only [fv, Pt.size]; omega
  | .app n x y, a => by have h1 := fv_length x a; have h2 := fv_length y a; simp only [fv, Pt.size, List.length_append]; omega
theorem nums_kids {t x : Pt} (h : t.nums = true) (hx : x ∈ t.kids) : x.nums = true := by
  rw [Pt.nums_kids] at h
  simp only [Bool.and_eq_true, List.all_eq_true] at h
  exact h.2 x hx
def setB (bs : List Bool) (zs : List Int) : List Bool := zs.foldl (fun bs z => bs.set z.toNat true) bs
theorem setB_length (zs : List Int) : ∀ bs, (setB bs zs).length = bs.length := by
  induction zs with
  | nil => intro bs; rfl
  | cons z zs ih => intro bs; simp only [setB, List.foldl_cons] at ih ⊢; rw [ih]; simp
theorem setB_append (bs : List Bool) (a b : List Int) : setB bs (a ++ b) = setB (setB bs a) b := by simp [setB]
theorem setB_get (zs : List Int) : ∀ (bs : List Bool) (i : Nat), i < bs.length → (∀ z ∈ zs, 0 ≤ z) → (setB bs zs)[i]? = some (bs.getD i false || zs.contains (i : Int)) := by
  induction zs with
  | nil => intro bs i hi _; simp [setB, hi]
  | cons z zs ih =>
    intro bs i hi hz
    have h0 : 0 ≤ z := hz z (by simp)
    have := ih (bs.set z.toNat true) i (by simpa using hi) (fun y hy => hz y (by simp [hy]))
    simp only [setB, List.foldl_cons] at this ⊢
    rw [this]
    congr 1
    simp only [List.getD_eq_getElem?_getD, List.getElem?_set, List.contains_cons]
    by_cases he : z.toNat = i
    · have e2 : ((i : Int) == z) = true := by simp; omega
      rw [if_pos he, if_pos (by omega), e2]
      simp
    · have e2 : ((i : Int) == z) = false := by simp; omega
      rw [if_neg he, e2]
      simp
theorem ev_lcFree : ∀ (d : Nat) (t : Pt) (u : Int) (bs : List Bool), t.depth ≤ d → t.nums = true → 0 ≤ u → u + t.depth ≤ 1000 → bs.length = 100 →
    EvN (d + 10) 40 [.dat t.d, .dat (I u), .bor (.lent 0) none] [] [some (4, bs.map B)] ([], [], [some (4, (setB bs (fv t u)).map B)])
  | 0, t, u, bs, hd, _, _, _, _ => by have := t.depth_pos; omega
  | d + 1, t, u, bs, hd, hn, hu, hud, hb => by
    refine ev_fn Go.Proofs.Tryz.f40 (d + 10) (by kernel_rfl) (by kernel_rfl) fun kk hkk => ?_
    have hloop : ∀ (bs : List Bool), bs.length = 100 → (∀ n, t ≠ .var n) → LoopAt cfg kk 40 Go.Proofs.Tryz.f40 4 (hd120 t.kd t.num u (t.kids.map Pt.d) (bs.map B) 0) (X.exit 0) (Nm [] [] [] [] [some (4, (setB bs (fv t u)).map B)]) := by
      intro bs hb hv
      refine kids_loop t (by omega) (fun i => hd120 t.kd t.num u (t.kids.map Pt.d) ((setB bs ((t.kids.take i).flatMap fun x => fv x (t.under u))).map B) i) (fun i y hy hmem h1 h2 h3 m s K hs hn' => ?_) (fun h1 m s K hs hK => ?_) (by simp [setB])
      · have hlt := Pt.kids_lt hmem
        have hu2 : t.under u ≤ u + 1 ∧ u ≤ t.under u := by cases t <;> simp [Pt.under] <;> omega
        have hr := ev_lcFree d y (t.under u) (setB bs ((t.kids.take i).flatMap fun x => fv x (t.under u))) (by omega) (nums_kids hn hmem) (by omega) (by omega) (by rw [setB_length]; exact hb) kk (by omega)
        rw [Pt.d_eq y] at hr
        have hgo : ∀ s : St, s.norm ((envOf cfg kk 40 Go.Proofs.Tryz.f40).live (firstRegion (lp Go.Proofs.Tryz.f40 4))) = hd120 t.kd t.num u (t.kids.map Pt.d) ((setB (setB bs ((t.kids.take i).flatMap fun x => fv x (t.under u))) (fv y (t.under u))).map B) (w64 ((i : Int) + 1)) → Rounds (envOf cfg kk 40 Go.Proofs.Tryz.f40) kk (lp Go.Proofs.Tryz.f40 4) m s K := by
          intro s' hs'
          refine hn' s' ?_
          rw [hs', h3, ← setB_append, ← takeF_step hy]
        cases t with
        | var n => exact (hv n rfl).elim
        | lam n x =>
          have e : w64 (u + 1) = u + 1 := w64_eq (by simp only [Pt.depth] at hud; omega)
          refine lcFree_lam kk m n u _ _ _ _ _ _ _ hs h1 h2 ?_ hgo
          rw [e]
          exact hr
        | app n x z => exact lcFree_app kk m n u _ _ _ _ _ _ _ hs h1 h2 hr hgo
      · refine lcFree_end kk m _ _ _ _ _ _ hs h1 ?_
        rw [List.take_length, ← fv_kids t u hv]
        exact hK
    cases t with
    | var n =>
      have hn' : 0 ≤ n ∧ n ≤ 99 := by simpa [Pt.nums] using hn
      have hend : ∀ L : List Dat, LoopAt cfg kk 40 Go.Proofs.Tryz.f40 4 (hd120 1 n u [] L 0) (X.exit 0) (Nm [] [] [] [] [some (4, L)]) := fun L =>
        kids_loop (.var n) (by omega) (fun i => hd120 1 n u [] L i) (fun i y hy => by simp [Pt.kids] at hy) (fun h1 m s K hs hK => lcFree_end kk m _ _ _ _ _ _ hs h1 hK) rfl
      by_cases h : u ≤ n
      · have e : w64 (n - u) = n - u := w64_eq (by omega)
        have hget : (bs.map B)[(n - u).toNat]? = some (B (bs.getD (n - u).toNat false)) := by
          rw [List.getElem?_map, List.getElem?_eq_getElem (by omega), List.getD_eq_getElem?_getD, List.getElem?_eq_getElem (by omega)]
          rfl
        have hfv : fv (.var n) u = [n - u] := by simp only [fv]; rw [if_pos h]
        have hset : (setB bs (fv (.var n) u)).map B = (bs.map B).set (n - u).toNat (B true) := by
          rw [hfv]
          simp [setB, List.map_set]
        rw [hset]
        have := lcFree_hit kk n u [] (bs.map B) ((bs.map B).set (n - u).toNat (B true)) (bs.getD (n - u).toNat false) (decide_eq_true h) (by rw [e]; simp; omega) (by rw [e]; exact hget) (by rw [e]; exact hend _)
        exact this
      · have hfv : fv (.var n) u = [] := by simp only [fv]; rw [if_neg h]
        rw [hfv]
        exact lcFree_miss kk n u [] _ _ (decide_eq_false h) (hend _)
    | lam n x => exact lcFree_2 kk n u _ _ _ (hloop bs hb (fun _ h => by cases h))
    | app n x y => exact lcFree_3 kk n u _ _ _ (hloop bs hb (fun _ h => by cases h))
/-- The indices that are marked. -/
def hasL (bs : List Bool) (n : Nat) : List Nat := (List.range n).filter fun i => bs.getD i false
theorem ev_FreeIn (L : List Nd) (b : Bool) (hL : L.length ≤ 1048576) :
    (∀ t, termOfP L = some t → EvN 1000300 75 [.dat (.lst b (L.map Nd.d))] [] [] ([.own 3 ((hasL (setB (List.replicate 100 false) (fv t 0)) 100).map IN), .dat (B true)], [], [])) ∧
    (termOfP L = none → EvN 1000300 75 [.dat (.lst b (L.map Nd.d))] [] [] ([.own 3 [], .dat (B false)], [], [])) := by
  refine ⟨fun t ht => ?_, fun ht => ?_⟩
  · refine (ev_fn Go.Proofs.Tryz.f75 1000250 (by kernel_rfl) (by kernel_rfl) fun kk hkk => ?_).mono (by omega)
    have g := ev_GoodTerm L b hL kk (by omega)
    rw [goodS_term, ht] at g
    have hg := ((termOfP_iff L t).1 ht).1
    have hsm := good_small hg
    have hnum := (good_facts hg).2.2
    have a2 := ev_tree b ht kk (by omega)
    have a3 := ev_lcFree 40 t 0 (List.replicate 100 false) hsm.2.1 hnum (by omega) (by have := hsm.2.1; omega) (by simp) kk (by omega)
    rw [Pt.d_eq] at a2 a3
    refine FreeIn_go kk b _ _ _ _ _ _ g a2 a3 ?_
    have hbl : (setB (List.replicate 100 false) (fv t 0)).length = 100 := by rw [setB_length]; simp
    generalize setB (List.replicate 100 false) (fv t 0) = bs at hbl
    have hml : (bs.map B).length = 100 := by simpa using hbl
    refine loopAt_range (fun i => hd115 (bs.map B) ((hasL bs i).map IN) i) 100 (by omega) (fun i hi m s K hs hn => ?_) (fun m s K hs hK => ?_) (by simp [hasL])
    · have hto : ((i : Int)).toNat = i := by simp
      have hget : (bs.map B)[i]? = some (B (bs.getD i false)) := by
        rw [List.getElem?_map, List.getElem?_eq_getElem (by omega), List.getD_eq_getElem?_getD, List.getElem?_eq_getElem (by omega)]
        rfl
      have hst : hasL bs (i + 1) = hasL bs i ++ (if bs.getD i false = true then [i] else []) := filter_range_succ _ i
      have hlen : (hasL bs i).length ≤ i := Nat.le_trans (List.length_filter_le _ _) (by simp)
      cases hv : bs.getD i false with
      | true =>
        refine FreeIn_hit kk m _ _ _ hs (decide_eq_true (by omega)) ⟨by omega, by omega⟩ (by rw [hto, hget, hv]) (by simp; omega) fun s' hs' => hn s' ?_
        rw [hs', w64_eq (by omega), hst, hv]
        simp only [if_true, List.map_append]
        rfl
      | false =>
        refine FreeIn_miss kk m _ _ _ hs (decide_eq_true (by omega)) ⟨by omega, by omega⟩ (by rw [hto, hget, hv]) fun s' hs' => hn s' ?_
        rw [hs', w64_eq (by omega), hst, hv]
        simp only [Bool.false_eq_true, if_false, List.append_nil]
        rfl
    · exact FreeIn_end kk m _ _ _ hs (decide_eq_false (by rw [hml]; decide)) hK
  · refine (ev_fn Go.Proofs.Tryz.f75 1000250 (by kernel_rfl) (by kernel_rfl) fun kk hkk => ?_).mono (by omega)
    have g := ev_GoodTerm L b hL kk (by omega)
    rw [goodS_term, ht] at g
    exact FreeIn_no kk b _ g
/-- A term of no free variable. -/
def closedP (t : Pt) : Bool := (fv t 0).isEmpty
theorem hasL_fv (t : Pt) (h : t.nums = true) (i : Nat) : i ∈ hasL (setB (List.replicate 100 false) (fv t 0)) 100 ↔ (i : Int) ∈ fv t 0 := by
  have hr := fv_range t 0 h (by omega)
  unfold hasL
  have hrep : ∀ n : Nat, (List.replicate n false).getD i false = false := fun n => by
    rw [List.getD_eq_getElem?_getD, List.getElem?_replicate]
    split <;> rfl
  rw [List.mem_filter, List.mem_range, List.getD_eq_getElem?_getD]
  constructor
  · rintro ⟨h1, h2⟩
    rw [setB_get _ _ i (by simpa using h1) (fun z hz => (hr z hz).1), hrep] at h2
    simpa using h2
  · intro hm
    have hb := hr _ hm
    have hi : i < 100 := by omega
    refine ⟨hi, ?_⟩
    rw [setB_get _ _ i (by simpa using hi) (fun z hz => (hr z hz).1)]
    simp [hm]
theorem hasL_empty (t : Pt) (h : t.nums = true) : decide ((((hasL (setB (List.replicate 100 false) (fv t 0)) 100).map IN).length : Int) = 0) = closedP t := by
  have hr := fv_range t 0 h (by omega)
  have hm := hasL_fv t h
  generalize hasL (setB (List.replicate 100 false) (fv t 0)) 100 = hs at hm
  unfold closedP
  cases hf : fv t 0 with
  | nil =>
    rw [hf] at hm
    have : hs = [] := List.eq_nil_iff_forall_not_mem.2 fun i hi => by have := (hm i).1 hi; simp at this
    rw [this]
    rfl
  | cons z zs =>
    rw [hf] at hm hr
    have hz := hr z (by simp)
    have : z.toNat ∈ hs := (hm z.toNat).2 (by rw [Int.toNat_of_nonneg hz.1]; simp)
    have hne : hs ≠ [] := List.ne_nil_of_mem this
    have : hs.length ≠ 0 := fun h => hne (List.eq_nil_of_length_eq_zero h)
    simp only [List.isEmpty_cons]
    exact decide_eq_false (by simp; omega)
/-- The closed term that nodes tell. -/
def closedOfP (L : List Nd) : Option Pt := (termOfP L).bind fun t => if closedP t = true then some t else none
theorem closedOfP_some {L : List Nd} {t : Pt} (h : closedOfP L = some t) : termOfP L = some t ∧ closedP t = true := by
  unfold closedOfP at h
  rw [Option.bind_eq_some_iff] at h
  obtain ⟨a, h1, h2⟩ := h
  split at h2
  · cases h2; exact ⟨h1, by assumption⟩
  · cases h2
theorem ev_lfClosed (L : List Nd) (b : Bool) (hL : L.length ≤ 1048576) : EvN 1000400 44 [.dat (.lst b (L.map Nd.d))] [] [] ([.dat (B (closedOfP L).isSome)], [], []) := by
  refine (ev_fn Go.Proofs.Tryz.f44 1000350 (by kernel_rfl) (by kernel_rfl) fun k1 hk1 => ?_).mono (by omega)
  refine lfClosed k1 b _ _ ?_
  refine (ev_fn Go.Proofs.Tryz.f62 1000320 (by kernel_rfl) (by kernel_rfl) fun kk hkk => ?_) k1 (by omega)
  obtain ⟨h1, h2⟩ := ev_FreeIn L b hL
  unfold closedOfP
  cases ht : termOfP L with
  | none => exact leClosed_no kk b _ _ (h2 ht kk (by omega))
  | some t =>
    have := leClosed_y kk b _ _ (h1 t ht kk (by omega))
    rw [hasL_empty t (good_facts ((termOfP_iff L t).1 ht).1).2.2] at this
    rw [this]
    simp only [Option.bind_some]
    cases closedP t <;> rfl
theorem ev_free : ∀ (d : Nat) (t : Pt) (a : Int) (out : List Int), t.depth ≤ d → t.within 1000000 → 0 ≤ a → a + t.depth ≤ 1000000 → out.length + t.size ≤ 1000000 →
    EvN (d + 10) 64 [.dat t.d, .dat (I a), .fn 65 [.up 0]] [[.own 3 (out.map I)]] [] ([], [[.own 3 ((out ++ fv t a).map I)]], [])
  | 0, t, a, out, hd, _, _, _, _ => by have := t.depth_pos; omega
  | d + 1, t, a, out, hd, hw, ha, had, ho => by
    refine ev_fn Go.Proofs.Tryz.f64 (d + 10) (by kernel_rfl) (by kernel_rfl) fun kk hkk => ?_
    have hwk : ∀ x ∈ t.kids, x.within 1000000 := by
      intro x hx
      cases t with
      | var n => cases hx
      | lam n y => simp only [Pt.kids, List.mem_singleton] at hx; subst hx; exact hw
      | app n y z =>
        have hw : y.within 1000000 ∧ z.within 1000000 := hw
        simp only [Pt.kids, List.mem_cons, List.not_mem_nil, or_false] at hx
        rcases hx with rfl | rfl
        · exact hw.1
        · exact hw.2
    have hloop : (∀ n, t ≠ .var n) → LoopAt cfg kk 64 Go.Proofs.Tryz.f64 6 (hd105 (t.under a) (t.kids.map Pt.d) (out.map I) 0) (X.exit 0) (Nm [] [] [] [[.own 3 ((out ++ fv t a).map I)]] []) := by
      intro hv
      refine kids_loop t (by omega) (fun i => hd105 (t.under a) (t.kids.map Pt.d) ((out ++ (t.kids.take i).flatMap fun x => fv x (t.under a)).map I) i) (fun i y hy hmem h1 h2 h3 m s K hs hn' => ?_) (fun h1 m s K hs hK => ?_) (by simp)
      · have hlt := Pt.kids_lt hmem
        have hu2 : t.under a ≤ a + 1 ∧ a ≤ t.under a := by cases t <;> simp [Pt.under] <;> omega
        have hsz : ((t.kids.take i).flatMap fun x => fv x (t.under a)).length + y.size ≤ t.size := by
          have h5 : ∀ ks : List Pt, (ks.flatMap fun x => fv x (t.under a)).length ≤ (ks.map Pt.size).sum := fun ks => by
            induction ks with
            | nil => simp
            | cons k ks ih => have := fv_length k (t.under a); simp only [List.flatMap_cons, List.length_append, List.map_cons, List.sum_cons]; omega
          have h6 := h5 (t.kids.take i)
          have h7 := sum_le (ks := t.kids) (i + 1)
          rw [List.take_add_one, hy] at h7
          simp only [List.map_append, List.sum_append, Option.toList_some, List.map_cons, List.map_nil, List.sum_cons, List.sum_nil] at h7
          have := t.size_kids
          omega
        have hr := ev_free d y (t.under a) (out ++ (t.kids.take i).flatMap fun x => fv x (t.under a)) (by omega) (hwk y hmem) (by omega) (by omega) (by simp only [List.length_append]; omega) kk (by omega)
        rw [Pt.d_eq y] at hr
        refine free_go kk m _ _ _ _ _ _ _ _ hs h1 h2 hr fun s' hs' => hn' s' ?_
        rw [hs', h3, takeF_step hy, List.append_assoc]
        rfl
      · refine free_end kk m _ _ _ _ hs h1 ?_
        rw [List.take_length, ← fv_kids t a hv]
        exact hK
    cases t with
    | var n =>
      have hw : -1000000 ≤ n ∧ n ≤ 1000000 := hw
      have hend : ∀ L : List Dat, LoopAt cfg kk 64 Go.Proofs.Tryz.f64 6 (hd105 a [] L 0) (X.exit 0) (Nm [] [] [] [[.own 3 L]] []) := fun L =>
        kids_loop (.var n) (by omega) (fun i => hd105 a [] L i) (fun i y hy => by simp [Pt.kids] at hy) (fun h1 m s K hs hK => free_end kk m _ _ _ _ hs h1 hK) rfl
      simp only [Pt.depth] at had
      simp only [Pt.size] at ho
      by_cases h : a ≤ n
      · have e : w64 (n - a) = n - a := w64_eq (by omega)
        have hfv : fv (.var n) a = [n - a] := by simp only [fv]; rw [if_pos h]
        rw [hfv]
        refine free_hit kk n a [] _ _ _ (decide_eq_true h) ?_ (hend _)
        rw [e]
        refine (ev_fn Go.Proofs.Tryz.f65 0 (by kernel_rfl) (by kernel_rfl) fun k2 _ => ?_) kk (by omega)
        have := freeIn1 k2 (n - a) (out.map I) (by simp; omega)
        rw [this]
        simp
      · have hfv : fv (.var n) a = [] := by simp only [fv]; rw [if_neg h]
        rw [hfv, List.append_nil]
        exact free_miss kk n a [] _ _ (decide_eq_false h) (hend _)
    | lam n x =>
      have e : w64 (a + 1) = a + 1 := w64_eq (by simp only [Pt.depth] at had; omega)
      have := hloop (fun _ h => by cases h)
      refine free_lam kk n a _ _ _ ?_
      rw [e]
      exact this
    | app n x y => exact free_app kk n a _ _ _ (hloop (fun _ h => by cases h))
/-- The free variables, sorted, each once. -/
def freeL (t : Pt) : List Int := Lib.compact ((fv t 0).mergeSort fun x y => decide (x ≤ y))
theorem den_ext {f k : Nat} {g : List D → List (List D) → List (Option Row) → Option (List D × List (List D) × List (Option Row))} (h : cfg.ext f = some g) (args : List D) (u : List (List D)) (l : List (Option Row)) : den cfg (k + 1) f args u l = g args u l := by
  simp only [den, h]
theorem ev_Sort (zs : List Int) (h : zs.length ≤ 1000000) : EvN 1 66 [.bor (.lent 0) none] [] [some (3, zs.map I)] ([], [], [some (3, (zs.mergeSort fun x y => decide (x ≤ y)).map I)]) := fun k hk => by
  obtain ⟨m, rfl⟩ : ∃ m, k = m + 1 := ⟨k - 1, by omega⟩
  rw [den_ext (g := extSort 3) (by kernel_rfl)]
  have e : intsOf (zs.map I) = some zs := intsOf_map zs
  have e2 : Nat.ble (zs.map I).length 1000000 = true := Nat.ble_eq_true_of_le (by simpa using h)
  show (match Nat.ble (zs.map I).length 1000000 with | true => sortI (zs.map I) | false => none).map (fun es' => (([], [], [some (3, es')]) : List D × List (List D) × List (Option Row))) = _
  rw [e2]
  simp only [sortI, e, Option.map_some]
  rfl
theorem ev_Compact (zs : List Int) (h : zs.length ≤ 1000000) : EvN 1 67 [.own 3 (zs.map I)] [] [] ([.own 3 ((Lib.compact zs).map I)], [], []) := fun k hk => by
  obtain ⟨m, rfl⟩ : ∃ m, k = m + 1 := ⟨k - 1, by omega⟩
  rw [den_ext (g := extComp 3) (by kernel_rfl)]
  have e : intsOf (zs.map I) = some zs := intsOf_map zs
  have e2 : Nat.ble (zs.map I).length 1000000 = true := Nat.ble_eq_true_of_le (by simpa using h)
  show (match Nat.ble (zs.map I).length 1000000 with | true => compI (zs.map I) | false => none).map (fun es' => (([.own 3 es'], [], []) : List D × List (List D) × List (Option Row))) = _
  rw [e2]
  simp only [compI, e, Option.map_some]
  rfl
theorem ev_freeIn (t : Pt) (hg : t.good = true) : EvN 100 46 [.dat t.d] [] [] ([.own 3 ((freeL t).map I)], [], []) := by
  refine (ev_fn Go.Proofs.Tryz.f46 80 (by kernel_rfl) (by kernel_rfl) fun kk hkk => ?_).mono (by omega)
  have hsm := good_small hg
  have hl := fv_length t 0
  have a1 := ev_free 40 t 0 [] hsm.2.1 hsm.2.2 (by omega) (by have := hsm.2.1; omega) (by simpa using (show t.size ≤ 1000000 by omega)) kk (by omega)
  have a2 := ev_Sort (fv t 0) (by omega) kk (by omega)
  have a3 := ev_Compact ((fv t 0).mergeSort fun x y => decide (x ≤ y)) (by simp; omega) kk (by omega)
  rw [Pt.d_eq] at a1 ⊢
  simp only [List.nil_append] at a1
  exact freeIn kk _ _ _ _ _ _ a1 a2 a3
theorem compact_mem (zs : List Int) (x : Int) : x ∈ Lib.compact zs ↔ x ∈ zs := by
  unfold Lib.compact Lib.compactUpTo
  simp only [List.mem_map, List.mem_filter, List.mem_range]
  constructor
  · rintro ⟨j, ⟨h1, _⟩, rfl⟩
    have : (zs.toArray[j]!) = zs[j] := by simp [h1]
    rw [this]
    exact List.getElem_mem h1
  · intro hx
    obtain ⟨j, hj, rfl⟩ := List.getElem_of_mem hx
    have key : ∀ j, (hj : j < zs.length) → ∃ i, (i < zs.length ∧ Lib.keeps zs.toArray i = true) ∧ zs.toArray[i]! = zs[j] := by
      intro j
      induction j with
      | zero => intro hj; exact ⟨0, ⟨hj, by simp [Lib.keeps]⟩, by simp [hj]⟩
      | succ j ih =>
        intro hj
        cases hk : Lib.keeps zs.toArray (j + 1) with
        | true => exact ⟨j + 1, ⟨hj, hk⟩, by simp [hj]⟩
        | false =>
          have h2 : zs[j + 1] = zs[j] := by
            simp [Lib.keeps] at hk
            have e1 : zs.toArray[j + 1]! = zs[j + 1] := by simp [hj]
            have e2 : zs.toArray[j]! = zs[j] := by simp [show j < zs.length by omega]
            first
              | (rw [← e1, ← e2]; simpa using hk)
              | (simp at hk; simpa using hk)
          obtain ⟨i, hi, he⟩ := ih (by omega)
          exact ⟨i, hi, by rw [he, h2]⟩
    obtain ⟨i, hi, he⟩ := key j hj
    exact ⟨i, hi, he⟩
theorem freeL_mem (t : Pt) (x : Int) : x ∈ freeL t ↔ x ∈ fv t 0 := by
  unfold freeL
  rw [compact_mem]
  simp
theorem freeL_empty (t : Pt) : decide ((((freeL t).map I).length : Int) = 0) = closedP t := by
  have hm := freeL_mem t
  unfold closedP
  generalize freeL t = hs at hm
  cases hf : fv t 0 with
  | nil =>
    rw [hf] at hm
    have : hs = [] := List.eq_nil_iff_forall_not_mem.2 fun i hi => by have := (hm i).1 hi; simp at this
    rw [this]
    rfl
  | cons z zs =>
    rw [hf] at hm
    have : z ∈ hs := (hm z).2 (by simp)
    have hne : hs.length ≠ 0 := fun h => by rw [List.eq_nil_of_length_eq_zero h] at this; cases this
    simp only [List.isEmpty_cons]
    exact decide_eq_false (by rw [List.length_map]; omega)
theorem ev_closedOf (L : List Nd) (b : Bool) (hL : L.length ≤ 1048576) :
    (∀ t, termOfP L = some t → EvN 2000 19 [.dat (.lst b (L.map Nd.d))] [] [] ([.dat t.d, .dat (B (closedP t))], [], [])) ∧
    (termOfP L = none → ∃ (k n : Int) (ds : List Dat), EvN 2000 19 [.dat (.lst b (L.map Nd.d))] [] [] ([.dat (T k n ds), .dat (B false)], [], [])) := by
  obtain ⟨hy, hn⟩ := ev_termOf L b hL
  refine ⟨fun t ht => ?_, fun ht => ?_⟩
  · refine (ev_fn Go.Proofs.Tryz.f19 1500 (by kernel_rfl) (by kernel_rfl) fun kk hkk => ?_).mono (by omega)
    have a1 := hy t ht kk (by omega)
    have a2 := ev_freeIn t ((termOfP_iff L t).1 ht).1 kk (by omega)
    rw [← freeL_empty t]
    rw [Pt.d_eq] at a1 a2 ⊢
    exact closedOf_y kk b _ _ _ _ _ a1 a2
  · obtain ⟨k, n, ds, e⟩ := hn ht
    exact ⟨k, n, ds, (ev_fn Go.Proofs.Tryz.f19 1500 (by kernel_rfl) (by kernel_rfl) fun kk hkk => closedOf_no kk b _ _ _ _ (e kk (by omega))).mono (by omega)⟩
/-- What 'closedOf' tells, either way. -/
theorem ev_closedOf_any (L : List Nd) (b : Bool) (hL : L.length ≤ 1048576) : ∃ (k n : Int) (ds : List Dat), EvN 2000 19 [.dat (.lst b (L.map Nd.d))] [] [] ([.dat (T k n ds), .dat (B (closedOfP L).isSome)], [], []) ∧ ∀ t, closedOfP L = some t → T k n ds = t.d := by
  obtain ⟨hy, hn⟩ := ev_closedOf L b hL
  cases ht : termOfP L with
  | none =>
    obtain ⟨k, n, ds, e⟩ := hn ht
    have hc : closedOfP L = none := by unfold closedOfP; rw [ht]; rfl
    exact ⟨k, n, ds, by rw [hc]; exact e, fun t h => by rw [hc] at h; cases h⟩
  | some t =>
    have e := hy t ht
    rw [Pt.d_eq] at e
    have hc : (closedOfP L).isSome = closedP t := by
      unfold closedOfP
      rw [ht]
      simp only [Option.bind_some]
      cases closedP t <;> rfl
    refine ⟨_, _, _, by rw [hc]; exact e, fun t' h => ?_⟩
    have := (closedOfP_some h).1
    rw [ht] at this
    cases this
    exact (Pt.d_eq t).symm
def isValueN (L : List Nd) : Bool := match closedOfP L with | some t => decide (t.kd = 2) | none => false
theorem ev_iIsValue (L : List Nd) (b : Bool) (hL : L.length ≤ 1048576) : EvN 3000 8 [.dat (.lst b (L.map Nd.d))] [] [] ([.dat (B (isValueN L))], [], []) := by
  refine (ev_fn Go.Proofs.Tryz.f8 2500 (by kernel_rfl) (by kernel_rfl) fun kk hkk => ?_).mono (by omega)
  obtain ⟨k, n, ds, e, he⟩ := ev_closedOf_any L b hL
  have e := e kk (by omega)
  unfold isValueN
  cases hc : closedOfP L with
  | none => rw [hc] at e; exact iIsValue_no kk b _ _ _ _ e
  | some t =>
    rw [hc] at e
    have := iIsValue_y kk b _ _ _ _ e
    have h2 := he t hc
    rw [Pt.d_eq] at h2
    simp only [Dat.agg.injEq, List.cons.injEq, Dat.val.injEq, Value.int.injEq, true_and] at h2
    rw [h2.1] at this
    exact this
end Go.Den
namespace Go.Den
open Go
set_option linter.unusedVariables false
set_option maxRecDepth 100000
/-- What a good term's nodes are, if it is good. -/
def told (t : Pt) : List Nd × Bool := (if t.good = true then t.flat 0 (-1) else [], t.good)
theorem told_len (t : Pt) : (told t).1.length ≤ 150 := by
  unfold told
  simp only
  split
  · rename_i hg
    rw [Pt.flat_length]
    exact (good_facts hg).1
  · simp
def applyN (L M : List Nd) : List Nd × Bool := match closedOfP L, closedOfP M with | some t, some s => told (.app 0 t s) | _, _ => ([], false)
theorem applyN_len (L M : List Nd) : (applyN L M).1.length ≤ 150 := by
  unfold applyN
  split
  · exact told_len _
  · simp
theorem closedOfP_good {L : List Nd} {t : Pt} (h : closedOfP L = some t) : t.good = true := ((termOfP_iff L t).1 (closedOfP_some h).1).1
theorem ev_iApply (L M : List Nd) (b1 b2 : Bool) (hL : L.length ≤ 1048576) (hM : M.length ≤ 1048576) : EvN 4000 21 [.dat (.lst b1 (L.map Nd.d)), .dat (.lst b2 (M.map Nd.d))] [] [] ([.own 46 ((applyN L M).1.map Nd.d), .dat (B (applyN L M).2)], [], []) := by
  refine (ev_fn Go.Proofs.Tryz.f21 3900 (by kernel_rfl) (by kernel_rfl) fun kk hkk => ?_).mono (by omega)
  obtain ⟨k1, n1, d1, a1, e1⟩ := ev_closedOf_any L b1 hL
  obtain ⟨k2, n2, d2, a2, e2⟩ := ev_closedOf_any M b2 hM
  have a1 := a1 kk (by omega)
  have a2 := a2 kk (by omega)
  unfold applyN
  cases h1 : closedOfP L with
  | none => rw [h1] at a1; exact iApply_no1 kk b1 b2 _ _ _ _ _ _ _ _ _ a1 a2
  | some t =>
    rw [h1] at a1
    cases h2 : closedOfP M with
    | none => rw [h2] at a2; exact iApply_no2 kk b1 b2 _ _ _ _ _ _ _ _ a1 a2
    | some s =>
      rw [h2] at a2
      have hs1 := good_small (closedOfP_good h1)
      have hs2 := good_small (closedOfP_good h2)
      have a5 := ev_app t s kk (by omega)
      have a6 := ev_goodNodes (.app 0 t s) (by simp only [Pt.size]; omega) kk (by simp only [Pt.depth]; omega)
      rw [e1 t h1, Pt.d_eq t] at a1
      rw [e2 s h2, Pt.d_eq s] at a2
      rw [Pt.d_eq t, Pt.d_eq s, Pt.d_eq (Pt.app 0 t s)] at a5
      rw [Pt.d_eq (Pt.app 0 t s)] at a6
      exact iApply_go kk b1 b2 _ _ _ _ _ _ _ _ _ _ _ _ _ a1 a2 a5 a6
theorem within_kids {t x : Pt} {M : Int} (h : t.within M) (hx : x ∈ t.kids) : x.within M := by
  cases t with
  | var n => cases hx
  | lam n y => simp only [Pt.kids, List.mem_singleton] at hx; subst hx; exact h
  | app n y z =>
    have h : y.within M ∧ z.within M := h
    simp only [Pt.kids, List.mem_cons, List.not_mem_nil, or_false] at hx
    rcases hx with rfl | rfl
    · exact h.1
    · exact h.2
end Go.Den
namespace Go.Den
open Go
set_option linter.unusedVariables false
set_option maxRecDepth 100000
theorem lfPass_var (kk : Nat) (n : Int) (ps : List Dat) (k1 n1 : Int) (d1 : List Dat) (k2 n2 : Int) (d2 : List Dat) (k3 n3 : Int) (d3 : List Dat) (k4 n4 : Int) (d4 : List Dat) (h1 : den cfg kk 30 [D.dat (I 0)] [] [] = some ([D.dat (T k1 n1 d1)], [], [])) (h2 : den cfg kk 30 [D.dat (I (w64 (n + 1)))] [] [] = some ([D.dat (T k2 n2 d2)], [], [])) (h3 : den cfg kk 27 [D.dat (T k1 n1 d1), D.dat (T k2 n2 d2)] [] [] = some ([D.dat (T k3 n3 d3)], [], [])) (h4 : den cfg kk 29 [D.dat (T k3 n3 d3)] [] [] = some ([D.dat (T k4 n4 d4)], [], [])) : runFn cfg kk (den cfg kk) 51 Go.Proofs.Tryz.f51 [.dat (T 1 n ps)] [] [] = some ([D.dat (T k4 n4 d4)], [], []) :=
  hrun_ok [(10, .ret [.dat (T k1 n1 d1)]), (14, .ret [.dat (T k2 n2 d2)]), (15, .ret [.dat (T k3 n3 d3)]), (16, .ret [.dat (T k4 n4 d4)])] (ob h1 (ob h2 (ob h3 (ob h4 ob0)))) (by kernel_rfl)
theorem lfPass_lam (kk : Nat) (n : Int) (ps : List Dat) (kx nx : Int) (dx : List Dat) (k1 n1 : Int) (d1 : List Dat) (k2 n2 : Int) (d2 : List Dat) (k3 n3 : Int) (d3 : List Dat) (k4 n4 : Int) (d4 : List Dat) (k5 n5 : Int) (d5 : List Dat) (k6 n6 : Int) (d6 : List Dat) (h1 : ((0 : Int) ≤ 0 ∧ 0 < ((T kx nx dx :: ps).length : Int)) ∧ some (T kx nx dx) = some (T kx nx dx)) (h2 : den cfg kk 30 [D.dat (I 0)] [] [] = some ([D.dat (T k1 n1 d1)], [], [])) (h3 : den cfg kk 51 [D.dat (T kx nx dx)] [] [] = some ([D.dat (T k2 n2 d2)], [], [])) (h4 : den cfg kk 29 [D.dat (T k2 n2 d2)] [] [] = some ([D.dat (T k3 n3 d3)], [], [])) (h5 : den cfg kk 69 [D.dat (T k3 n3 d3), D.dat (I 1)] [] [] = some ([D.dat (T k4 n4 d4)], [], [])) (h6 : den cfg kk 27 [D.dat (T k1 n1 d1), D.dat (T k4 n4 d4)] [] [] = some ([D.dat (T k5 n5 d5)], [], [])) (h7 : den cfg kk 29 [D.dat (T k5 n5 d5)] [] [] = some ([D.dat (T k6 n6 d6)], [], [])) : runFn cfg kk (den cfg kk) 51 Go.Proofs.Tryz.f51 [.dat (T 2 n (T kx nx dx :: ps))] [] [] = some ([D.dat (T k6 n6 d6)], [], []) :=
  hrun_ok [(22, .at (T kx nx dx)), (19, .ret [.dat (T k1 n1 d1)]), (24, .ret [.dat (T k2 n2 d2)]), (25, .ret [.dat (T k3 n3 d3)]), (26, .ret [.dat (T k4 n4 d4)]), (27, .ret [.dat (T k5 n5 d5)]), (28, .ret [.dat (T k6 n6 d6)])] (ob h1 (ob h2 (ob h3 (ob h4 (ob h5 (ob h6 (ob h7 ob0))))))) (by kernel_rfl)
theorem lfPass_app (kk : Nat) (n : Int) (ps : List Dat) (kx nx : Int) (dx : List Dat) (ky ny : Int) (dy : List Dat) (k1 n1 : Int) (d1 : List Dat) (k2 n2 : Int) (d2 : List Dat) (k3 n3 : Int) (d3 : List Dat) (k4 n4 : Int) (d4 : List Dat) (k5 n5 : Int) (d5 : List Dat) (k6 n6 : Int) (d6 : List Dat) (k7 n7 : Int) (d7 : List Dat) (k8 n8 : Int) (d8 : List Dat) (k9 n9 : Int) (d9 : List Dat) (k10 n10 : Int) (d10 : List Dat) (k11 n11 : Int) (d11 : List Dat) (k12 n12 : Int) (d12 : List Dat) (k13 n13 : Int) (d13 : List Dat) (k14 n14 : Int) (d14 : List Dat) (h1 : ((0 : Int) ≤ 0 ∧ 0 < ((T kx nx dx :: T ky ny dy :: ps).length : Int)) ∧ some (T kx nx dx) = some (T kx nx dx)) (h2 : den cfg kk 51 [D.dat (T kx nx dx)] [] [] = some ([D.dat (T k1 n1 d1)], [], [])) (h3 : den cfg kk 69 [D.dat (T k1 n1 d1), D.dat (I 1)] [] [] = some ([D.dat (T k2 n2 d2)], [], [])) (h4 : ((0 : Int) ≤ 1 ∧ 1 < ((T kx nx dx :: T ky ny dy :: ps).length : Int)) ∧ some (T ky ny dy) = some (T ky ny dy)) (h5 : den cfg kk 51 [D.dat (T ky ny dy)] [] [] = some ([D.dat (T k3 n3 d3)], [], [])) (h6 : den cfg kk 69 [D.dat (T k3 n3 d3), D.dat (I 2)] [] [] = some ([D.dat (T k4 n4 d4)], [], [])) (h7 : den cfg kk 30 [D.dat (I 1)] [] [] = some ([D.dat (T k5 n5 d5)], [], [])) (h8 : den cfg kk 30 [D.dat (I 0)] [] [] = some ([D.dat (T k6 n6 d6)], [], [])) (h9 : den cfg kk 27 [D.dat (T k5 n5 d5), D.dat (T k6 n6 d6)] [] [] = some ([D.dat (T k7 n7 d7)], [], [])) (h10 : den cfg kk 30 [D.dat (I 2)] [] [] = some ([D.dat (T k8 n8 d8)], [], [])) (h11 : den cfg kk 27 [D.dat (T k7 n7 d7), D.dat (T k8 n8 d8)] [] [] = some ([D.dat (T k9 n9 d9)], [], [])) (h12 : den cfg kk 29 [D.dat (T k9 n9 d9)] [] [] = some ([D.dat (T k10 n10 d10)], [], [])) (h13 : den cfg kk 27 [D.dat (T k4 n4 d4), D.dat (T k10 n10 d10)] [] [] = some ([D.dat (T k11 n11 d11)], [], [])) (h14 : den cfg kk 29 [D.dat (T k11 n11 d11)] [] [] = some ([D.dat (T k12 n12 d12)], [], [])) (h15 : den cfg kk 27 [D.dat (T k2 n2 d2), D.dat (T k12 n12 d12)] [] [] = some ([D.dat (T k13 n13 d13)], [], [])) (h16 : den cfg kk 29 [D.dat (T k13 n13 d13)] [] [] = some ([D.dat (T k14 n14 d14)], [], [])) : runFn cfg kk (den cfg kk) 51 Go.Proofs.Tryz.f51 [.dat (T 3 n (T kx nx dx :: T ky ny dy :: ps))] [] [] = some ([D.dat (T k14 n14 d14)], [], []) :=
  hrun_ok [(31, .at (T kx nx dx)), (37, .at (T ky ny dy)), (33, .ret [.dat (T k1 n1 d1)]), (34, .ret [.dat (T k2 n2 d2)]), (39, .ret [.dat (T k3 n3 d3)]), (40, .ret [.dat (T k4 n4 d4)]), (41, .ret [.dat (T k5 n5 d5)]), (42, .ret [.dat (T k6 n6 d6)]), (43, .ret [.dat (T k7 n7 d7)]), (44, .ret [.dat (T k8 n8 d8)]), (45, .ret [.dat (T k9 n9 d9)]), (46, .ret [.dat (T k10 n10 d10)]), (50, .ret [.dat (T k11 n11 d11)]), (51, .ret [.dat (T k12 n12 d12)]), (52, .ret [.dat (T k13 n13 d13)]), (53, .ret [.dat (T k14 n14 d14)])] (ob h1 (ob h2 (ob h3 (ob h4 (ob h5 (ob h6 (ob h7 (ob h8 (ob h9 (ob h10 (ob h11 (ob h12 (ob h13 (ob h14 (ob h15 (ob h16 ob0)))))))))))))))) (by kernel_rfl)
theorem pass_var (kk : Nat) (n : Int) (ps : List Dat) (k1 n1 : Int) (d1 : List Dat) (k2 n2 : Int) (d2 : List Dat) (k3 n3 : Int) (d3 : List Dat) (k4 n4 : Int) (d4 : List Dat) (h1 : den cfg kk 23 [D.dat (I 0)] [] [] = some ([D.dat (T k1 n1 d1)], [], [])) (h2 : den cfg kk 23 [D.dat (I (w64 (n + 1)))] [] [] = some ([D.dat (T k2 n2 d2)], [], [])) (h3 : den cfg kk 48 [D.dat (T k1 n1 d1), D.dat (T k2 n2 d2)] [] [] = some ([D.dat (T k3 n3 d3)], [], [])) (h4 : den cfg kk 22 [D.dat (T k3 n3 d3)] [] [] = some ([D.dat (T k4 n4 d4)], [], [])) : runFn cfg kk (den cfg kk) 47 Go.Proofs.Tryz.f47 [.dat (T 1 n ps)] [] [] = some ([D.dat (T k4 n4 d4)], [], []) :=
  hrun_ok [(9, .ret [.dat (T k1 n1 d1)]), (13, .ret [.dat (T k2 n2 d2)]), (14, .ret [.dat (T k3 n3 d3)]), (15, .ret [.dat (T k4 n4 d4)])] (ob h1 (ob h2 (ob h3 (ob h4 ob0)))) (by kernel_rfl)
theorem pass_lam (kk : Nat) (n : Int) (ps : List Dat) (k1 n1 : Int) (d1 : List Dat) (k2 n2 : Int) (d2 : List Dat) (k3 n3 : Int) (d3 : List Dat) (k4 n4 : Int) (d4 : List Dat) (k5 n5 : Int) (d5 : List Dat) (h1 : den cfg kk 23 [D.dat (I 0)] [] [] = some ([D.dat (T k1 n1 d1)], [], [])) (h2 : den cfg kk 35 [D.dat (T 2 n ps)] [] [] = some ([D.dat (T k2 n2 d2)], [], [])) (h3 : den cfg kk 68 [D.dat (T k2 n2 d2), D.dat (I 1), D.dat (I 0)] [] [] = some ([D.dat (T k3 n3 d3)], [], [])) (h4 : den cfg kk 48 [D.dat (T k1 n1 d1), D.dat (T k3 n3 d3)] [] [] = some ([D.dat (T k4 n4 d4)], [], [])) (h5 : den cfg kk 22 [D.dat (T k4 n4 d4)] [] [] = some ([D.dat (T k5 n5 d5)], [], [])) : runFn cfg kk (den cfg kk) 47 Go.Proofs.Tryz.f47 [.dat (T 2 n ps)] [] [] = some ([D.dat (T k5 n5 d5)], [], []) :=
  hrun_ok [(18, .ret [.dat (T k1 n1 d1)]), (20, .ret [.dat (T k2 n2 d2)]), (21, .ret [.dat (T k3 n3 d3)]), (22, .ret [.dat (T k4 n4 d4)]), (23, .ret [.dat (T k5 n5 d5)])] (ob h1 (ob h2 (ob h3 (ob h4 (ob h5 ob0))))) (by kernel_rfl)
theorem pass_app (kk : Nat) (n : Int) (ps : List Dat) (kx nx : Int) (dx : List Dat) (ky ny : Int) (dy : List Dat) (k1 n1 : Int) (d1 : List Dat) (k2 n2 : Int) (d2 : List Dat) (k3 n3 : Int) (d3 : List Dat) (k4 n4 : Int) (d4 : List Dat) (k5 n5 : Int) (d5 : List Dat) (k6 n6 : Int) (d6 : List Dat) (k7 n7 : Int) (d7 : List Dat) (k8 n8 : Int) (d8 : List Dat) (k9 n9 : Int) (d9 : List Dat) (k10 n10 : Int) (d10 : List Dat) (k11 n11 : Int) (d11 : List Dat) (k12 n12 : Int) (d12 : List Dat) (k13 n13 : Int) (d13 : List Dat) (k14 n14 : Int) (d14 : List Dat) (h1 : den cfg kk 23 [D.dat (I 1)] [] [] = some ([D.dat (T k1 n1 d1)], [], [])) (h2 : den cfg kk 23 [D.dat (I 0)] [] [] = some ([D.dat (T k2 n2 d2)], [], [])) (h3 : den cfg kk 48 [D.dat (T k1 n1 d1), D.dat (T k2 n2 d2)] [] [] = some ([D.dat (T k3 n3 d3)], [], [])) (h4 : den cfg kk 23 [D.dat (I 2)] [] [] = some ([D.dat (T k4 n4 d4)], [], [])) (h5 : den cfg kk 48 [D.dat (T k3 n3 d3), D.dat (T k4 n4 d4)] [] [] = some ([D.dat (T k5 n5 d5)], [], [])) (h6 : den cfg kk 22 [D.dat (T k5 n5 d5)] [] [] = some ([D.dat (T k6 n6 d6)], [], [])) (h7 : ((0 : Int) ≤ 1 ∧ 1 < ((T kx nx dx :: T ky ny dy :: ps).length : Int)) ∧ some (T ky ny dy) = some (T ky ny dy)) (h8 : den cfg kk 47 [D.dat (T ky ny dy)] [] [] = some ([D.dat (T k7 n7 d7)], [], [])) (h9 : den cfg kk 68 [D.dat (T k7 n7 d7), D.dat (I 2), D.dat (I 0)] [] [] = some ([D.dat (T k8 n8 d8)], [], [])) (h10 : den cfg kk 48 [D.dat (T k8 n8 d8), D.dat (T k6 n6 d6)] [] [] = some ([D.dat (T k9 n9 d9)], [], [])) (h11 : den cfg kk 22 [D.dat (T k9 n9 d9)] [] [] = some ([D.dat (T k10 n10 d10)], [], [])) (h12 : ((0 : Int) ≤ 0 ∧ 0 < ((T kx nx dx :: T ky ny dy :: ps).length : Int)) ∧ some (T kx nx dx) = some (T kx nx dx)) (h13 : den cfg kk 47 [D.dat (T kx nx dx)] [] [] = some ([D.dat (T k11 n11 d11)], [], [])) (h14 : den cfg kk 68 [D.dat (T k11 n11 d11), D.dat (I 1), D.dat (I 0)] [] [] = some ([D.dat (T k12 n12 d12)], [], [])) (h15 : den cfg kk 48 [D.dat (T k12 n12 d12), D.dat (T k10 n10 d10)] [] [] = some ([D.dat (T k13 n13 d13)], [], [])) (h16 : den cfg kk 22 [D.dat (T k13 n13 d13)] [] [] = some ([D.dat (T k14 n14 d14)], [], [])) : runFn cfg kk (den cfg kk) 47 Go.Proofs.Tryz.f47 [.dat (T 3 n (T kx nx dx :: T ky ny dy :: ps))] [] [] = some ([D.dat (T k14 n14 d14)], [], []) :=
  hrun_ok [(32, .at (T ky ny dy)), (41, .at (T kx nx dx)), (24, .ret [.dat (T k1 n1 d1)]), (25, .ret [.dat (T k2 n2 d2)]), (26, .ret [.dat (T k3 n3 d3)]), (27, .ret [.dat (T k4 n4 d4)]), (28, .ret [.dat (T k5 n5 d5)]), (29, .ret [.dat (T k6 n6 d6)]), (34, .ret [.dat (T k7 n7 d7)]), (35, .ret [.dat (T k8 n8 d8)]), (37, .ret [.dat (T k9 n9 d9)]), (38, .ret [.dat (T k10 n10 d10)]), (43, .ret [.dat (T k11 n11 d11)]), (44, .ret [.dat (T k12 n12 d12)]), (46, .ret [.dat (T k13 n13 d13)]), (47, .ret [.dat (T k14 n14 d14)])] (ob h1 (ob h2 (ob h3 (ob h4 (ob h5 (ob h6 (ob h7 (ob h8 (ob h9 (ob h10 (ob h11 (ob h12 (ob h13 (ob h14 (ob h15 (ob h16 ob0)))))))))))))))) (by kernel_rfl)
theorem passLambda (kk : Nat) (k n : Int) (ps : List Dat) (kx nx : Int) (dx : List Dat) (k1 n1 : Int) (d1 : List Dat) (k2 n2 : Int) (d2 : List Dat) (h1 : ((0 : Int) ≤ 0 ∧ 0 < ((T kx nx dx :: ps).length : Int)) ∧ some (T kx nx dx) = some (T kx nx dx)) (h2 : den cfg kk 47 [D.dat (T kx nx dx)] [] [] = some ([D.dat (T k1 n1 d1)], [], [])) (h3 : den cfg kk 22 [D.dat (T k1 n1 d1)] [] [] = some ([D.dat (T k2 n2 d2)], [], [])) : runFn cfg kk (den cfg kk) 35 Go.Proofs.Tryz.f35 [.dat (T k n (T kx nx dx :: ps))] [] [] = some ([D.dat (T k2 n2 d2)], [], []) :=
  hrun_ok [(5, .at (T kx nx dx)), (7, .ret [.dat (T k1 n1 d1)]), (8, .ret [.dat (T k2 n2 d2)])] (ob h1 (ob h2 (ob h3 ob0))) (by kernel_rfl)
theorem lfUp (kk : Nat) (v : Int) (r : Bool) (k n : Int) (d : List Dat) (k2 n2 : Int) (d2 : List Dat) (h1 : den cfg kk 80 [D.dat (T k n d), D.dat (I v), D.dat (I 0)] [] [] = some ([D.dat (T k2 n2 d2), D.dat (B r)], [], [])) : runFn cfg kk (den cfg kk) 69 Go.Proofs.Tryz.f69 [.dat (T k n d), .dat (I v)] [] [] = some ([D.dat (T k2 n2 d2)], [], []) :=
  hrun_ok [(10, .ret [.dat (T k2 n2 d2), .dat (B r)])] (ob h1 ob0) (by kernel_rfl)
theorem sPass_no (kk : Nat) (b : Bool) (es : List Dat) (h1 : den cfg kk 44 [D.dat (Dat.lst b es)] [] [] = some ([D.dat (B false)], [], [])) : runFn cfg kk (den cfg kk) 26 Go.Proofs.Tryz.f26 [.dat (Dat.lst b es)] [] [] = some ([D.own 46 [], D.dat (B false)], [], []) :=
  hrun_ok [(5, .ret [.dat (B false)])] (ob h1 ob0) (by kernel_rfl)
theorem sPass_go (kk : Nat) (b : Bool) (es : List Dat) (out : List Dat) (r : Bool) (k n : Int) (d : List Dat) (k2 n2 : Int) (d2 : List Dat) (h1 : den cfg kk 44 [D.dat (Dat.lst b es)] [] [] = some ([D.dat (B true)], [], [])) (h2 : den cfg kk 28 [D.dat (Dat.lst b es), D.dat (I 0)] [] [] = some ([D.dat (T k n d)], [], [])) (h3 : den cfg kk 51 [D.dat (T k n d)] [] [] = some ([D.dat (T k2 n2 d2)], [], [])) (h4 : den cfg kk 34 [D.dat (T k2 n2 d2)] [] [] = some ([D.own 46 out, D.dat (B r)], [], [])) : runFn cfg kk (den cfg kk) 26 Go.Proofs.Tryz.f26 [.dat (Dat.lst b es)] [] [] = some ([D.own 46 out, D.dat (B r)], [], []) :=
  hrun_ok [(5, .ret [.dat (B true)]), (8, .ret [.dat (T k n d)]), (9, .ret [.dat (T k2 n2 d2)]), (10, .ret [.own 46 out, .dat (B r)])] (ob h1 (ob h2 (ob h3 (ob h4 ob0)))) (by kernel_rfl)
theorem iPass_no (kk : Nat) (b : Bool) (es : List Dat) (k n : Int) (d : List Dat) (h1 : den cfg kk 19 [D.dat (Dat.lst b es)] [] [] = some ([D.dat (T k n d), D.dat (B false)], [], [])) : runFn cfg kk (den cfg kk) 20 Go.Proofs.Tryz.f20 [.dat (Dat.lst b es)] [] [] = some ([D.own 46 [], D.dat (B false)], [], []) :=
  hrun_ok [(8, .ret [.dat (T k n d), .dat (B false)])] (ob h1 ob0) (by kernel_rfl)
theorem iPass_go (kk : Nat) (b : Bool) (es : List Dat) (out : List Dat) (r : Bool) (k n : Int) (d : List Dat) (k2 n2 : Int) (d2 : List Dat) (h1 : den cfg kk 19 [D.dat (Dat.lst b es)] [] [] = some ([D.dat (T k n d), D.dat (B true)], [], [])) (h2 : den cfg kk 47 [D.dat (T k n d)] [] [] = some ([D.dat (T k2 n2 d2)], [], [])) (h3 : den cfg kk 36 [D.dat (T k2 n2 d2)] [] [] = some ([D.own 46 out, D.dat (B r)], [], [])) : runFn cfg kk (den cfg kk) 20 Go.Proofs.Tryz.f20 [.dat (Dat.lst b es)] [] [] = some ([D.own 46 out, D.dat (B r)], [], []) :=
  hrun_ok [(8, .ret [.dat (T k n d), .dat (B true)]), (14, .ret [.dat (T k2 n2 d2)]), (15, .ret [.own 46 out, .dat (B r)])] (ob h1 (ob h2 (ob h3 ob0))) (by kernel_rfl)
theorem iPassV_no1 (kk : Nat) (b : Bool) (es : List Dat) (k n : Int) (d : List Dat) (h1 : den cfg kk 19 [D.dat (Dat.lst b es)] [] [] = some ([D.dat (T k n d), D.dat (B false)], [], [])) : runFn cfg kk (den cfg kk) 11 Go.Proofs.Tryz.f11 [.dat (Dat.lst b es)] [] [] = some ([D.own 46 [], D.dat (B false)], [], []) :=
  hrun_ok [(8, .ret [.dat (T k n d), .dat (B false)])] (ob h1 ob0) (by kernel_rfl)
theorem iPassV_no2 (kk : Nat) (b : Bool) (es : List Dat) (k n : Int) (d : List Dat) (h1 : den cfg kk 19 [D.dat (Dat.lst b es)] [] [] = some ([D.dat (T k n d), D.dat (B true)], [], [])) (h2 : (!decide (k = 2)) = true) : runFn cfg kk (den cfg kk) 11 Go.Proofs.Tryz.f11 [.dat (Dat.lst b es)] [] [] = some ([D.own 46 [], D.dat (B false)], [], []) :=
  hrun_ok [(8, .ret [.dat (T k n d), .dat (B true)]), (200017, .yes)] (ob h1 (ob h2 ob0)) (by kernel_rfl)
theorem iPassV_go (kk : Nat) (b : Bool) (es : List Dat) (out : List Dat) (r : Bool) (k n : Int) (d : List Dat) (k2 n2 : Int) (d2 : List Dat) (h1 : den cfg kk 19 [D.dat (Dat.lst b es)] [] [] = some ([D.dat (T k n d), D.dat (B true)], [], [])) (h2 : (!decide (k = 2)) = false) (h3 : den cfg kk 35 [D.dat (T k n d)] [] [] = some ([D.dat (T k2 n2 d2)], [], [])) (h4 : den cfg kk 36 [D.dat (T k2 n2 d2)] [] [] = some ([D.own 46 out, D.dat (B r)], [], [])) : runFn cfg kk (den cfg kk) 11 Go.Proofs.Tryz.f11 [.dat (Dat.lst b es)] [] [] = some ([D.own 46 out, D.dat (B r)], [], []) :=
  hrun_ok [(8, .ret [.dat (T k n d), .dat (B true)]), (200017, .no), (19, .ret [.dat (T k2 n2 d2)]), (20, .ret [.own 46 out, .dat (B r)])] (ob h1 (ob h2 (ob h3 (ob h4 ob0)))) (by kernel_rfl)
theorem nextIn_no2 (kk : Nat) (n : Int) (ps : List Dat) (v : Bool)  : runFn cfg kk (den cfg kk) 43 Go.Proofs.Tryz.f43 [.dat (T 2 n ps), .dat (B v)] [] [] = some ([D.dat (I (-1))], [], []) :=
  hrun_ok [] ob0 (by kernel_rfl)
theorem nextIn_l (kk : Nat) (n z : Int) (ps : List Dat) (v : Bool) (kx nx : Int) (dx : List Dat) (h1 : ((0 : Int) ≤ 0 ∧ 0 < ((T kx nx dx :: ps).length : Int)) ∧ some (T kx nx dx) = some (T kx nx dx)) (h2 : (!decide (kx = 2)) = true) (h3 : ((0 : Int) ≤ 0 ∧ 0 < ((T kx nx dx :: ps).length : Int)) ∧ some (T kx nx dx) = some (T kx nx dx)) (h4 : den cfg kk 43 [D.dat (T kx nx dx), D.dat (B v)] [] [] = some ([D.dat (I z)], [], [])) : runFn cfg kk (den cfg kk) 43 Go.Proofs.Tryz.f43 [.dat (T 3 n (T kx nx dx :: ps)), .dat (B v)] [] [] = some ([D.dat (I (w64 (1 + z)))], [], []) :=
  hrun_ok [(12, .at (T kx nx dx)), (200009, .yes), (18, .at (T kx nx dx)), (21, .ret [.dat (I z)])] (ob h1 (ob h2 (ob h3 (ob h4 ob0)))) (by kernel_rfl)
theorem nextIn_name (kk : Nat) (n : Int) (ps : List Dat) (kx nx : Int) (dx : List Dat) (h1 : ((0 : Int) ≤ 0 ∧ 0 < ((T kx nx dx :: ps).length : Int)) ∧ some (T kx nx dx) = some (T kx nx dx)) (h2 : (!decide (kx = 2)) = false) : runFn cfg kk (den cfg kk) 43 Go.Proofs.Tryz.f43 [.dat (T 3 n (T kx nx dx :: ps)), .dat (B false)] [] [] = some ([D.dat (I 0)], [], []) :=
  hrun_ok [(12, .at (T kx nx dx)), (200009, .no)] (ob h1 (ob h2 ob0)) (by kernel_rfl)
theorem nextIn_r (kk : Nat) (n z z2 : Int) (ps : List Dat) (kx nx : Int) (dx : List Dat) (ky ny : Int) (dy : List Dat) (h1 : ((0 : Int) ≤ 0 ∧ 0 < ((T kx nx dx :: T ky ny dy :: ps).length : Int)) ∧ some (T kx nx dx) = some (T kx nx dx)) (h2 : (!decide (kx = 2)) = false) (h3 : ((0 : Int) ≤ 1 ∧ 1 < ((T kx nx dx :: T ky ny dy :: ps).length : Int)) ∧ some (T ky ny dy) = some (T ky ny dy)) (h4 : (!decide (ky = 2)) = true) (h5 : ((0 : Int) ≤ 0 ∧ 0 < ((T kx nx dx :: T ky ny dy :: ps).length : Int)) ∧ some (T kx nx dx) = some (T kx nx dx)) (h6 : ((0 : Int) ≤ 1 ∧ 1 < ((T kx nx dx :: T ky ny dy :: ps).length : Int)) ∧ some (T ky ny dy) = some (T ky ny dy)) (h7 : den cfg kk 61 [D.dat (T kx nx dx)] [] [] = some ([D.dat (I z)], [], [])) (h8 : den cfg kk 43 [D.dat (T ky ny dy), D.dat (B true)] [] [] = some ([D.dat (I z2)], [], [])) : runFn cfg kk (den cfg kk) 43 Go.Proofs.Tryz.f43 [.dat (T 3 n (T kx nx dx :: T ky ny dy :: ps)), .dat (B true)] [] [] = some ([D.dat (I (w64 (w64 (1 + z) + z2)))], [], []) :=
  hrun_ok [(12, .at (T kx nx dx)), (200009, .no), (28, .at (T ky ny dy)), (200023, .yes), (35, .at (T kx nx dx)), (37, .ret [.dat (I z)]), (41, .at (T ky ny dy)), (44, .ret [.dat (I z2)])] (ob h1 (ob h2 (ob h3 (ob h4 (ob h5 (ob h6 (ob h7 (ob h8 ob0)))))))) (by kernel_rfl)
theorem nextIn_here (kk : Nat) (n : Int) (ps : List Dat) (kx nx : Int) (dx : List Dat) (ky ny : Int) (dy : List Dat) (h1 : ((0 : Int) ≤ 0 ∧ 0 < ((T kx nx dx :: T ky ny dy :: ps).length : Int)) ∧ some (T kx nx dx) = some (T kx nx dx)) (h2 : (!decide (kx = 2)) = false) (h3 : ((0 : Int) ≤ 1 ∧ 1 < ((T kx nx dx :: T ky ny dy :: ps).length : Int)) ∧ some (T ky ny dy) = some (T ky ny dy)) (h4 : (!decide (ky = 2)) = false) : runFn cfg kk (den cfg kk) 43 Go.Proofs.Tryz.f43 [.dat (T 3 n (T kx nx dx :: T ky ny dy :: ps)), .dat (B true)] [] [] = some ([D.dat (I 0)], [], []) :=
  hrun_ok [(12, .at (T kx nx dx)), (200009, .no), (28, .at (T ky ny dy)), (200023, .no)] (ob h1 (ob h2 (ob h3 (ob h4 ob0)))) (by kernel_rfl)
theorem next_n (kk : Nat) (z : Int) (k n : Int) (d : List Dat) (h1 : den cfg kk 43 [D.dat (T k n d), D.dat (B false)] [] [] = some ([D.dat (I z)], [], [])) : runFn cfg kk (den cfg kk) 50 Go.Proofs.Tryz.f50 [.dat (T k n d)] [] [] = some ([D.dat (I z)], [], []) :=
  hrun_ok [(4, .ret [.dat (I z)])] (ob h1 ob0) (by kernel_rfl)
theorem next_v (kk : Nat) (z : Int) (k n : Int) (d : List Dat) (h1 : den cfg kk 43 [D.dat (T k n d), D.dat (B true)] [] [] = some ([D.dat (I z)], [], [])) : runFn cfg kk (den cfg kk) 17 Go.Proofs.Tryz.f17 [.dat (T k n d)] [] [] = some ([D.dat (I z)], [], []) :=
  hrun_ok [(4, .ret [.dat (I z)])] (ob h1 ob0) (by kernel_rfl)
theorem lfStep_no2 (kk : Nat) (n : Int) (ps : List Dat) (v : Bool)  : runFn cfg kk (den cfg kk) 53 Go.Proofs.Tryz.f53 [.dat (T 2 n ps), .dat (B v)] [] [] = some ([D.dat (T 2 n ps), D.dat (B false)], [], []) :=
  hrun_ok [] ob0 (by kernel_rfl)
theorem lfStep_fst (kk : Nat) (n : Int) (ps : List Dat) (kx nx : Int) (dx : List Dat) (ky ny : Int) (dy : List Dat) (k1 n1 : Int) (d1 : List Dat) (v : Bool) (k2 n2 : Int) (d2 : List Dat) (h1 : ((0 : Int) ≤ 0 ∧ 0 < ((T kx nx dx :: T ky ny dy :: ps).length : Int)) ∧ some (T kx nx dx) = some (T kx nx dx)) (h2 : ((0 : Int) ≤ 1 ∧ 1 < ((T kx nx dx :: T ky ny dy :: ps).length : Int)) ∧ some (T ky ny dy) = some (T ky ny dy)) (h3 : den cfg kk 53 [D.dat (T kx nx dx), D.dat (B v)] [] [] = some ([D.dat (T k1 n1 d1), D.dat (B true)], [], [])) (h4 : den cfg kk 27 [D.dat (T k1 n1 d1), D.dat (T ky ny dy)] [] [] = some ([D.dat (T k2 n2 d2)], [], [])) : runFn cfg kk (den cfg kk) 53 Go.Proofs.Tryz.f53 [.dat (T 3 n (T kx nx dx :: T ky ny dy :: ps)), .dat (B v)] [] [] = some ([D.dat (T k2 n2 d2), D.dat (B true)], [], []) :=
  hrun_ok [(18, .at (T kx nx dx)), (22, .at (T ky ny dy)), (27, .ret [.dat (T k1 n1 d1), .dat (B true)]), (33, .ret [.dat (T k2 n2 d2)])] (ob h1 (ob h2 (ob h3 (ob h4 ob0)))) (by kernel_rfl)
theorem lfStep_name (kk : Nat) (n : Int) (ps : List Dat) (kx nx : Int) (dx : List Dat) (ky ny : Int) (dy : List Dat) (k1 n1 : Int) (d1 : List Dat) (k2 n2 : Int) (d2 : List Dat) (h1 : ((0 : Int) ≤ 0 ∧ 0 < ((T kx nx dx :: T ky ny dy :: ps).length : Int)) ∧ some (T kx nx dx) = some (T kx nx dx)) (h2 : ((0 : Int) ≤ 1 ∧ 1 < ((T kx nx dx :: T ky ny dy :: ps).length : Int)) ∧ some (T ky ny dy) = some (T ky ny dy)) (h3 : den cfg kk 53 [D.dat (T kx nx dx), D.dat (B false)] [] [] = some ([D.dat (T k1 n1 d1), D.dat (B false)], [], [])) (h4 : den cfg kk 70 [D.dat (Dat.agg [I 3, I n, Dat.lst false (T kx nx dx :: T ky ny dy :: ps)])] [] [] = some ([D.dat (T k2 n2 d2)], [], [])) : runFn cfg kk (den cfg kk) 53 Go.Proofs.Tryz.f53 [.dat (T 3 n (T kx nx dx :: T ky ny dy :: ps)), .dat (B false)] [] [] = some ([D.dat (T k2 n2 d2), D.dat (B true)], [], []) :=
  hrun_ok [(18, .at (T kx nx dx)), (22, .at (T ky ny dy)), (27, .ret [.dat (T k1 n1 d1), .dat (B false)]), (46, .ret [.dat (T k2 n2 d2)])] (ob h1 (ob h2 (ob h3 (ob h4 ob0)))) (by kernel_rfl)
theorem lfStep_snd (kk : Nat) (n : Int) (ps : List Dat) (kx nx : Int) (dx : List Dat) (ky ny : Int) (dy : List Dat) (k1 n1 : Int) (d1 : List Dat) (k2 n2 : Int) (d2 : List Dat) (k3 n3 : Int) (d3 : List Dat) (h1 : ((0 : Int) ≤ 0 ∧ 0 < ((T kx nx dx :: T ky ny dy :: ps).length : Int)) ∧ some (T kx nx dx) = some (T kx nx dx)) (h2 : ((0 : Int) ≤ 1 ∧ 1 < ((T kx nx dx :: T ky ny dy :: ps).length : Int)) ∧ some (T ky ny dy) = some (T ky ny dy)) (h3 : den cfg kk 53 [D.dat (T kx nx dx), D.dat (B true)] [] [] = some ([D.dat (T k1 n1 d1), D.dat (B false)], [], [])) (h4 : den cfg kk 53 [D.dat (T ky ny dy), D.dat (B true)] [] [] = some ([D.dat (T k2 n2 d2), D.dat (B true)], [], [])) (h5 : den cfg kk 27 [D.dat (T kx nx dx), D.dat (T k2 n2 d2)] [] [] = some ([D.dat (T k3 n3 d3)], [], [])) : runFn cfg kk (den cfg kk) 53 Go.Proofs.Tryz.f53 [.dat (T 3 n (T kx nx dx :: T ky ny dy :: ps)), .dat (B true)] [] [] = some ([D.dat (T k3 n3 d3), D.dat (B true)], [], []) :=
  hrun_ok [(18, .at (T kx nx dx)), (22, .at (T ky ny dy)), (27, .ret [.dat (T k1 n1 d1), .dat (B false)]), (38, .ret [.dat (T k2 n2 d2), .dat (B true)]), (44, .ret [.dat (T k3 n3 d3)])] (ob h1 (ob h2 (ob h3 (ob h4 (ob h5 ob0))))) (by kernel_rfl)
theorem lfStep_val (kk : Nat) (n : Int) (ps : List Dat) (kx nx : Int) (dx : List Dat) (ky ny : Int) (dy : List Dat) (k1 n1 : Int) (d1 : List Dat) (k2 n2 : Int) (d2 : List Dat) (k3 n3 : Int) (d3 : List Dat) (h1 : ((0 : Int) ≤ 0 ∧ 0 < ((T kx nx dx :: T ky ny dy :: ps).length : Int)) ∧ some (T kx nx dx) = some (T kx nx dx)) (h2 : ((0 : Int) ≤ 1 ∧ 1 < ((T kx nx dx :: T ky ny dy :: ps).length : Int)) ∧ some (T ky ny dy) = some (T ky ny dy)) (h3 : den cfg kk 53 [D.dat (T kx nx dx), D.dat (B true)] [] [] = some ([D.dat (T k1 n1 d1), D.dat (B false)], [], [])) (h4 : den cfg kk 53 [D.dat (T ky ny dy), D.dat (B true)] [] [] = some ([D.dat (T k2 n2 d2), D.dat (B false)], [], [])) (h5 : den cfg kk 70 [D.dat (Dat.agg [I 3, I n, Dat.lst false (T kx nx dx :: T ky ny dy :: ps)])] [] [] = some ([D.dat (T k3 n3 d3)], [], [])) : runFn cfg kk (den cfg kk) 53 Go.Proofs.Tryz.f53 [.dat (T 3 n (T kx nx dx :: T ky ny dy :: ps)), .dat (B true)] [] [] = some ([D.dat (T k3 n3 d3), D.dat (B true)], [], []) :=
  hrun_ok [(18, .at (T kx nx dx)), (22, .at (T ky ny dy)), (27, .ret [.dat (T k1 n1 d1), .dat (B false)]), (38, .ret [.dat (T k2 n2 d2), .dat (B false)]), (46, .ret [.dat (T k3 n3 d3)])] (ob h1 (ob h2 (ob h3 (ob h4 (ob h5 ob0))))) (by kernel_rfl)
def hd85 (fuel k n i : Int) (ps : List Dat) (v : Bool) : St := Nm [1, 2, 3, 6, 9] [.dat (I fuel), .dat (B v), .ptr (.loc 3) 0, .ptr (.loc 6) 0, .dat (I i)] [none, none, some [.dat (I k), .dat (I n), .dat (.lst false ps)], some [.dat (I 0), .dat (I 0), .own 57 []], none] [] []
theorem lfRun_done (kk m : Nat) {s : St} {K : X → St → Prop} (fuel k n i : Int) (ps : List Dat) (v : Bool) (k2 n2 : Int) (d2 : List Dat) (hs : s.norm ((envOf cfg kk 33 Go.Proofs.Tryz.f33).live (firstRegion (lp Go.Proofs.Tryz.f33 3))) = hd85 fuel k n i ps v) (h1 : den cfg kk 53 [D.dat (T k n ps), D.dat (B v)] [] [] = some ([D.dat (T k2 n2 d2), D.dat (B false)], [], [])) (hK : K (X.ret) (Nm [6, 7, 8] [D.ptr (Ref.loc 6) 0, D.dat (I i), D.dat (B true)] [some [D.dat (I k), D.dat (I n), D.dat (Dat.lst false ps)], none, none] [] [])) : Rounds (envOf cfg kk 33 Go.Proofs.Tryz.f33) kk (lp Go.Proofs.Tryz.f33 3) (m + 1) s K :=
  rounds_end [(17, .ret [.dat (T k2 n2 d2), .dat (B false)])] hs (by kernel_rfl) rfl (ob h1 ob0) (by kernel_rfl) hK
theorem lfRun_stop (kk m : Nat) {s : St} {K : X → St → Prop} (fuel k n i : Int) (ps : List Dat) (v : Bool) (k2 n2 : Int) (d2 : List Dat) (hs : s.norm ((envOf cfg kk 33 Go.Proofs.Tryz.f33).live (firstRegion (lp Go.Proofs.Tryz.f33 3))) = hd85 fuel k n i ps v) (h1 : den cfg kk 53 [D.dat (T k n ps), D.dat (B v)] [] [] = some ([D.dat (T k2 n2 d2), D.dat (B true)], [], [])) (h2 : decide (i = fuel) = true) (hK : K (X.ret) (Nm [6, 7, 8] [D.ptr (Ref.loc 6) 0, D.dat (I 0), D.dat (B false)] [some [D.dat (I k), D.dat (I n), D.dat (Dat.lst false ps)], none, none] [] [])) : Rounds (envOf cfg kk 33 Go.Proofs.Tryz.f33) kk (lp Go.Proofs.Tryz.f33 3) (m + 1) s K :=
  rounds_end [(17, .ret [.dat (T k2 n2 d2), .dat (B true)]), (200027, .yes)] hs (by kernel_rfl) rfl (ob h1 (ob h2 (ob (rfl : true = true) (ob (rfl : true = true) ob0)))) (by kernel_rfl) hK
theorem lfRun_bad (kk m : Nat) {s : St} {K : X → St → Prop} (fuel k n i : Int) (ps : List Dat) (v : Bool) (k2 n2 : Int) (d2 : List Dat) (hs : s.norm ((envOf cfg kk 33 Go.Proofs.Tryz.f33).live (firstRegion (lp Go.Proofs.Tryz.f33 3))) = hd85 fuel k n i ps v) (h1 : den cfg kk 53 [D.dat (T k n ps), D.dat (B v)] [] [] = some ([D.dat (T k2 n2 d2), D.dat (B true)], [], [])) (h2 : decide (i = fuel) = false) (h4 : den cfg kk 31 [D.dat (T k2 n2 d2)] [] [] = some ([D.dat (B false)], [], [])) (hK : K (X.ret) (Nm [6, 7, 8] [D.ptr (Ref.loc 6) 0, D.dat (I 0), D.dat (B false)] [some [D.dat (I k), D.dat (I n), D.dat (Dat.lst false ps)], none, none] [] [])) : Rounds (envOf cfg kk 33 Go.Proofs.Tryz.f33) kk (lp Go.Proofs.Tryz.f33 3) (m + 1) s K :=
  rounds_end [(17, .ret [.dat (T k2 n2 d2), .dat (B true)]), (200027, .no), (29, .ret [.dat (B false)])] hs (by kernel_rfl) rfl (ob h1 (ob h2 (ob (rfl : false = false) (ob h4 (ob (rfl : false = false) ob0))))) (by kernel_rfl) hK
theorem lfRun_go (kk m : Nat) {s : St} {K : X → St → Prop} (fuel k n i : Int) (ps : List Dat) (v : Bool) (k2 n2 : Int) (d2 : List Dat) (hs : s.norm ((envOf cfg kk 33 Go.Proofs.Tryz.f33).live (firstRegion (lp Go.Proofs.Tryz.f33 3))) = hd85 fuel k n i ps v) (h1 : den cfg kk 53 [D.dat (T k n ps), D.dat (B v)] [] [] = some ([D.dat (T k2 n2 d2), D.dat (B true)], [], [])) (h2 : decide (i = fuel) = false) (h4 : den cfg kk 31 [D.dat (T k2 n2 d2)] [] [] = some ([D.dat (B true)], [], [])) (hn : ∀ s : St, s.norm ((envOf cfg kk 33 Go.Proofs.Tryz.f33).live (firstRegion (lp Go.Proofs.Tryz.f33 3))) = Nm [1, 2, 3, 6, 9] [D.dat (I fuel), D.dat (B v), D.ptr (Ref.loc 3) 0, D.ptr (Ref.loc 6) 0, D.dat (I (w64 (i + 1)))] [none, none, some [D.dat (I k2), D.dat (I n2), D.dat (Dat.lst false d2)], some [D.dat (I 0), D.dat (I 0), D.own 57 []], none] [] [] → Rounds (envOf cfg kk 33 Go.Proofs.Tryz.f33) kk (lp Go.Proofs.Tryz.f33 3) m s K) : Rounds (envOf cfg kk 33 Go.Proofs.Tryz.f33) kk (lp Go.Proofs.Tryz.f33 3) (m + 1) s K :=
  rounds_go [(17, .ret [.dat (T k2 n2 d2), .dat (B true)]), (200027, .no), (29, .ret [.dat (B true)])] hs (by kernel_rfl) (ob h1 (ob h2 (ob (rfl : false = false) (ob h4 (ob (rfl : false = false) ob0))))) (by kernel_rfl) hn
theorem lfRun (kk : Nat) (fuel c : Int) (v r : Bool) (k n : Int) (d : List Dat) (k2 n2 : Int) (d2 : List Dat) (h2 : LoopAt cfg kk 33 Go.Proofs.Tryz.f33 3 (hd85 fuel k n 0 d v) X.ret (Nm [6, 7, 8] [D.ptr (Ref.loc 6) 0, D.dat (I c), D.dat (B r)] [some [D.dat (I k2), D.dat (I n2), D.dat (Dat.lst false d2)], none, none] [] [])) : runFn cfg kk (den cfg kk) 33 Go.Proofs.Tryz.f33 [.dat (T k n d), .dat (I fuel), .dat (B v)] [] [] = some ([D.dat (T k2 n2 d2), D.dat (I c), D.dat (B r)], [], []) :=
  hrun_ok [(300003, .loop (hd85 fuel k n 0 d v) .ret (Nm [6, 7, 8] [.ptr (.loc 6) 0, .dat (I c), .dat (B r)] [some [.dat (I k2), .dat (I n2), .dat (.lst false d2)], none, none] [] []))] (ob (rfl : _ = hd85 fuel k n 0 d v) (ob h2 ob0)) (by kernel_rfl)
theorem lfTold_no1 (kk : Nat) (b : Bool) (es : List Dat) (fuel : Int) (v : Bool) (h1 : den cfg kk 44 [D.dat (Dat.lst b es)] [] [] = some ([D.dat (B false)], [], [])) : runFn cfg kk (den cfg kk) 18 Go.Proofs.Tryz.f18 [.dat (Dat.lst b es), .dat (I fuel), .dat (B v)] [] [] = some ([D.own 46 [], D.dat (I 0), D.dat (B false)], [], []) :=
  hrun_ok [(15, .ret [.dat (B false)])] (ob h1 ob0) (by kernel_rfl)
theorem lfTold_no2 (kk : Nat) (b : Bool) (es : List Dat) (fuel : Int) (v : Bool) (h1 : den cfg kk 44 [D.dat (Dat.lst b es)] [] [] = some ([D.dat (B true)], [], [])) (h2 : den cfg kk 32 [D.dat (I fuel), D.dat (I 0), D.dat (I 1000)] [] [] = some ([D.dat (B false)], [], [])) : runFn cfg kk (den cfg kk) 18 Go.Proofs.Tryz.f18 [.dat (Dat.lst b es), .dat (I fuel), .dat (B v)] [] [] = some ([D.own 46 [], D.dat (I 0), D.dat (B false)], [], []) :=
  hrun_ok [(15, .ret [.dat (B true)]), (19, .ret [.dat (B false)])] (ob h1 (ob h2 ob0)) (by kernel_rfl)
theorem lfTold_no3 (kk : Nat) (b : Bool) (es : List Dat) (fuel : Int) (v : Bool) (c : Int) (k n : Int) (d : List Dat) (k2 n2 : Int) (d2 : List Dat) (h1 : den cfg kk 44 [D.dat (Dat.lst b es)] [] [] = some ([D.dat (B true)], [], [])) (h2 : den cfg kk 32 [D.dat (I fuel), D.dat (I 0), D.dat (I 1000)] [] [] = some ([D.dat (B true)], [], [])) (h3 : den cfg kk 28 [D.dat (Dat.lst b es), D.dat (I 0)] [] [] = some ([D.dat (T k n d)], [], [])) (h4 : den cfg kk 33 [D.dat (T k n d), D.dat (I fuel), D.dat (B v)] [] [] = some ([D.dat (T k2 n2 d2), D.dat (I c), D.dat (B false)], [], [])) : runFn cfg kk (den cfg kk) 18 Go.Proofs.Tryz.f18 [.dat (Dat.lst b es), .dat (I fuel), .dat (B v)] [] [] = some ([D.own 46 [], D.dat (I 0), D.dat (B false)], [], []) :=
  hrun_ok [(15, .ret [.dat (B true)]), (19, .ret [.dat (B true)]), (24, .ret [.dat (T k n d)]), (27, .ret [.dat (T k2 n2 d2), .dat (I c), .dat (B false)])] (ob h1 (ob h2 (ob h3 (ob h4 ob0)))) (by kernel_rfl)
theorem lfTold_go (kk : Nat) (b : Bool) (es : List Dat) (fuel : Int) (v : Bool) (c : Int) (out : List Dat) (g : Bool) (k n : Int) (d : List Dat) (k2 n2 : Int) (d2 : List Dat) (h1 : den cfg kk 44 [D.dat (Dat.lst b es)] [] [] = some ([D.dat (B true)], [], [])) (h2 : den cfg kk 32 [D.dat (I fuel), D.dat (I 0), D.dat (I 1000)] [] [] = some ([D.dat (B true)], [], [])) (h3 : den cfg kk 28 [D.dat (Dat.lst b es), D.dat (I 0)] [] [] = some ([D.dat (T k n d)], [], [])) (h4 : den cfg kk 33 [D.dat (T k n d), D.dat (I fuel), D.dat (B v)] [] [] = some ([D.dat (T k2 n2 d2), D.dat (I c), D.dat (B true)], [], [])) (h5 : den cfg kk 34 [D.dat (T k2 n2 d2)] [] [] = some ([D.own 46 out, D.dat (B g)], [], [])) : runFn cfg kk (den cfg kk) 18 Go.Proofs.Tryz.f18 [.dat (Dat.lst b es), .dat (I fuel), .dat (B v)] [] [] = some ([D.own 46 out, D.dat (I c), D.dat (B true)], [], []) :=
  hrun_ok [(15, .ret [.dat (B true)]), (19, .ret [.dat (B true)]), (24, .ret [.dat (T k n d)]), (27, .ret [.dat (T k2 n2 d2), .dat (I c), .dat (B true)]), (35, .ret [.own 46 out, .dat (B g)])] (ob h1 (ob h2 (ob h3 (ob h4 (ob h5 ob0))))) (by kernel_rfl)
theorem iRun_n (kk : Nat) (b : Bool) (es : List Dat) (fuel : Int) (out : List Dat) (c : Int) (r : Bool) (h1 : den cfg kk 16 [D.dat (Dat.lst b es), D.dat (I fuel), D.fn 50 []] [] [] = some ([D.own 46 out, D.dat (I c), D.dat (B r)], [], [])) : runFn cfg kk (den cfg kk) 25 Go.Proofs.Tryz.f25 [.dat (Dat.lst b es), .dat (I fuel)] [] [] = some ([D.own 46 out, D.dat (I c), D.dat (B r)], [], []) :=
  hrun_ok [(9, .back [.own 46 out, .dat (I c), .dat (B r)] [] [])] (ob h1 (ob (rfl : false = false) ob0)) (by kernel_rfl)
theorem closedOn_no_n (kk : Nat) (b : Bool) (es : List Dat) (fuel : Int) (k n : Int) (d : List Dat) (h1 : den cfg kk 19 [D.dat (Dat.lst b es)] [] [] = some ([D.dat (T k n d), D.dat (B false)], [], [])) : runFn cfg kk (den cfg kk) 16 Go.Proofs.Tryz.f16 [.dat (Dat.lst b es), .dat (I fuel), .fn 50 []] [] [] = some ([D.own 46 [], D.dat (I 0), D.dat (B false)], [], []) :=
  hrun_ok [(13, .ret [.dat (T k n d), .dat (B false)])] (ob h1 ob0) (by kernel_rfl)
theorem closedOn_go_n (kk : Nat) (b : Bool) (es : List Dat) (fuel : Int) (out : List Dat) (c : Int) (r : Bool) (k n : Int) (d : List Dat) (h1 : den cfg kk 19 [D.dat (Dat.lst b es)] [] [] = some ([D.dat (T k n d), D.dat (B true)], [], [])) (h2 : den cfg kk 42 [D.dat (Dat.lst b es), D.dat (I fuel), D.fn 50 []] [] [] = some ([D.own 46 out, D.dat (I c), D.dat (B r)], [], [])) : runFn cfg kk (den cfg kk) 16 Go.Proofs.Tryz.f16 [.dat (Dat.lst b es), .dat (I fuel), .fn 50 []] [] [] = some ([D.own 46 out, D.dat (I c), D.dat (B r)], [], []) :=
  hrun_ok [(13, .ret [.dat (T k n d), .dat (B true)]), (21, .back [.own 46 out, .dat (I c), .dat (B r)] [] [])] (ob h1 (ob h2 (ob (rfl : false = false) ob0))) (by kernel_rfl)
theorem goneOn_no2_n (kk : Nat) (b : Bool) (es : List Dat) (fuel : Int) (k n : Int) (d : List Dat) (h1 : den cfg kk 45 [D.dat (Dat.lst b es)] [] [] = some ([D.dat (T k n d), D.dat (B true)], [], [])) (h2 : den cfg kk 59 [D.dat (I fuel)] [] [] = some ([D.dat (B false)], [], [])) : runFn cfg kk (den cfg kk) 42 Go.Proofs.Tryz.f42 [.dat (Dat.lst b es), .dat (I fuel), .fn 50 []] [] [] = some ([D.own 46 [], D.dat (I 0), D.dat (B false)], [], []) :=
  hrun_ok [(15, .ret [.dat (T k n d), .dat (B true)]), (22, .ret [.dat (B false)])] (ob h1 (ob h2 ob0)) (by kernel_rfl)
theorem goneOn_no3_n (kk : Nat) (b : Bool) (es : List Dat) (fuel : Int) (k n k2 n2 c : Int) (d d2 : List Dat) (h1 : den cfg kk 45 [D.dat (Dat.lst b es)] [] [] = some ([D.dat (T k n d), D.dat (B true)], [], [])) (h2 : den cfg kk 59 [D.dat (I fuel)] [] [] = some ([D.dat (B true)], [], [])) (h3 : den cfg kk 60 [D.dat (T k n d), D.dat (I fuel), D.fn 50 []] [] [] = some ([D.dat (T k2 n2 d2), D.dat (I c), D.dat (B false)], [], [])) : runFn cfg kk (den cfg kk) 42 Go.Proofs.Tryz.f42 [.dat (Dat.lst b es), .dat (I fuel), .fn 50 []] [] [] = some ([D.own 46 [], D.dat (I 0), D.dat (B false)], [], []) :=
  hrun_ok [(15, .ret [.dat (T k n d), .dat (B true)]), (22, .ret [.dat (B true)]), (29, .back [.dat (T k2 n2 d2), .dat (I c), .dat (B false)] [] [])] (ob h1 (ob h2 (ob h3 (ob (rfl : false = false) ob0)))) (by kernel_rfl)
theorem goneOn_go_n (kk : Nat) (b : Bool) (es : List Dat) (fuel : Int) (k n k2 n2 c : Int) (d d2 out : List Dat) (h1 : den cfg kk 45 [D.dat (Dat.lst b es)] [] [] = some ([D.dat (T k n d), D.dat (B true)], [], [])) (h2 : den cfg kk 59 [D.dat (I fuel)] [] [] = some ([D.dat (B true)], [], [])) (h3 : den cfg kk 60 [D.dat (T k n d), D.dat (I fuel), D.fn 50 []] [] [] = some ([D.dat (T k2 n2 d2), D.dat (I c), D.dat (B true)], [], [])) (h5 : den cfg kk 24 [D.dat (T k2 n2 d2)] [] [] = some ([D.own 46 out], [], [])) : runFn cfg kk (den cfg kk) 42 Go.Proofs.Tryz.f42 [.dat (Dat.lst b es), .dat (I fuel), .fn 50 []] [] [] = some ([D.own 46 out, D.dat (I c), D.dat (B true)], [], []) :=
  hrun_ok [(15, .ret [.dat (T k n d), .dat (B true)]), (22, .ret [.dat (B true)]), (29, .back [.dat (T k2 n2 d2), .dat (I c), .dat (B true)] [] []), (36, .ret [.own 46 out])] (ob h1 (ob h2 (ob h3 (ob (rfl : false = false) (ob h5 ob0))))) (by kernel_rfl)
def hd102n (fuel k n : Int) (ps : List Dat) (made : Int) : St := Nm [1, 2, 3, 6, 9] [.dat (I fuel), .fn 50 [], .ptr (.loc 3) 0, .ptr (.loc 6) 0, .dat (I made)] [none, none, some [.dat (I k), .dat (I n), .dat (.lst false ps)], some [.dat (I 0), .dat (I 0), .own 49 []], none] [] []
theorem goOn_done_n (kk m : Nat) {s : St} {K : X → St → Prop} (fuel k n : Int) (ps : List Dat) (made : Int) (x : Int) (hs : s.norm ((envOf cfg kk 60 Go.Proofs.Tryz.f60).live (firstRegion (lp Go.Proofs.Tryz.f60 3))) = hd102n fuel k n ps made) (h1 : den cfg kk 50 [D.dat (T k n ps)] [] [] = some ([D.dat (I x)], [], [])) (h2 : decide (x < 0) = true) (hK : K (X.ret) (Nm [6, 7, 8] [D.ptr (Ref.loc 6) 0, D.dat (I made), D.dat (B true)] [some [D.dat (I k), D.dat (I n), D.dat (Dat.lst false ps)], none, none] [] [])) : Rounds (envOf cfg kk 60 Go.Proofs.Tryz.f60) kk (lp Go.Proofs.Tryz.f60 3) (m + 1) s K :=
  rounds_end [(15, .ret [.dat (I x)]), (200016, .yes)] hs (by kernel_rfl) rfl (ob h1 (ob h2 ob0)) (by kernel_rfl) hK
theorem goOn_stop_n (kk m : Nat) {s : St} {K : X → St → Prop} (fuel k n : Int) (ps : List Dat) (made : Int) (x : Int) (hs : s.norm ((envOf cfg kk 60 Go.Proofs.Tryz.f60).live (firstRegion (lp Go.Proofs.Tryz.f60 3))) = hd102n fuel k n ps made) (h1 : den cfg kk 50 [D.dat (T k n ps)] [] [] = some ([D.dat (I x)], [], [])) (h2 : decide (x < 0) = false) (h3 : decide (made = fuel) = true) (hK : K (X.ret) (Nm [6, 7, 8] [D.ptr (Ref.loc 6) 0, D.dat (I 0), D.dat (B false)] [some [D.dat (I 0), D.dat (I 0), D.own 49 []], none, none] [] [])) : Rounds (envOf cfg kk 60 Go.Proofs.Tryz.f60) kk (lp Go.Proofs.Tryz.f60 3) (m + 1) s K :=
  rounds_end [(15, .ret [.dat (I x)]), (200016, .no), (200021, .yes)] hs (by kernel_rfl) rfl (ob h1 (ob h2 (ob h3 ob0))) (by kernel_rfl) hK
theorem goOn_bad_n (kk m : Nat) {s : St} {K : X → St → Prop} (fuel k n : Int) (ps : List Dat) (made : Int) (x k2 n2 : Int) (d2 : List Dat) (hs : s.norm ((envOf cfg kk 60 Go.Proofs.Tryz.f60).live (firstRegion (lp Go.Proofs.Tryz.f60 3))) = hd102n fuel k n ps made) (h1 : den cfg kk 50 [D.dat (T k n ps)] [] [] = some ([D.dat (I x)], [], [])) (h2 : decide (x < 0) = false) (h3 : decide (made = fuel) = false) (h4 : den cfg kk 74 [D.dat (T k n ps), D.dat (I x)] [] [] = some ([D.dat (T k2 n2 d2)], [], [])) (h5 : den cfg kk 55 [D.dat (T k2 n2 d2)] [] [] = some ([D.dat (B false)], [], [])) (hK : K (X.ret) (Nm [6, 7, 8] [D.ptr (Ref.loc 6) 0, D.dat (I 0), D.dat (B false)] [some [D.dat (I 0), D.dat (I 0), D.own 49 []], none, none] [] [])) : Rounds (envOf cfg kk 60 Go.Proofs.Tryz.f60) kk (lp Go.Proofs.Tryz.f60 3) (m + 1) s K :=
  rounds_end [(15, .ret [.dat (I x)]), (200016, .no), (200021, .no), (28, .ret [.dat (T k2 n2 d2)]), (30, .ret [.dat (B false)])] hs (by kernel_rfl) rfl (ob h1 (ob h2 (ob h3 (ob h4 (ob h5 ob0))))) (by kernel_rfl) hK
theorem goOn_go_n (kk m : Nat) {s : St} {K : X → St → Prop} (fuel k n : Int) (ps : List Dat) (made : Int) (x k2 n2 : Int) (d2 : List Dat) (hs : s.norm ((envOf cfg kk 60 Go.Proofs.Tryz.f60).live (firstRegion (lp Go.Proofs.Tryz.f60 3))) = hd102n fuel k n ps made) (h1 : den cfg kk 50 [D.dat (T k n ps)] [] [] = some ([D.dat (I x)], [], [])) (h2 : decide (x < 0) = false) (h3 : decide (made = fuel) = false) (h4 : den cfg kk 74 [D.dat (T k n ps), D.dat (I x)] [] [] = some ([D.dat (T k2 n2 d2)], [], [])) (h5 : den cfg kk 55 [D.dat (T k2 n2 d2)] [] [] = some ([D.dat (B true)], [], [])) (hn : ∀ s : St, s.norm ((envOf cfg kk 60 Go.Proofs.Tryz.f60).live (firstRegion (lp Go.Proofs.Tryz.f60 3))) = Nm [1, 2, 3, 6, 9] [D.dat (I fuel), D.fn 50 [], D.ptr (Ref.loc 3) 0, D.ptr (Ref.loc 6) 0, D.dat (I (w64 (made + 1)))] [none, none, some [D.dat (I k2), D.dat (I n2), D.dat (Dat.lst false d2)], some [D.dat (I 0), D.dat (I 0), D.own 49 []], none] [] [] → Rounds (envOf cfg kk 60 Go.Proofs.Tryz.f60) kk (lp Go.Proofs.Tryz.f60 3) m s K) : Rounds (envOf cfg kk 60 Go.Proofs.Tryz.f60) kk (lp Go.Proofs.Tryz.f60 3) (m + 1) s K :=
  rounds_go [(15, .ret [.dat (I x)]), (200016, .no), (200021, .no), (28, .ret [.dat (T k2 n2 d2)]), (30, .ret [.dat (B true)])] hs (by kernel_rfl) (ob h1 (ob h2 (ob h3 (ob h4 (ob h5 ob0))))) (by kernel_rfl) hn
theorem goOn_y_n (kk : Nat) (fuel k n c k2 n2 : Int) (ps d2 : List Dat) (r : Bool) (h2 : LoopAt cfg kk 60 Go.Proofs.Tryz.f60 3 (hd102n fuel k n ps 0) X.ret (Nm [6, 7, 8] [D.ptr (Ref.loc 6) 0, D.dat (I c), D.dat (B r)] [some [D.dat (I k2), D.dat (I n2), D.dat (Dat.lst false d2)], none, none] [] [])) : runFn cfg kk (den cfg kk) 60 Go.Proofs.Tryz.f60 [.dat (T k n ps), .dat (I fuel), .fn 50 []] [] [] = some ([D.dat (T k2 n2 d2), D.dat (I c), D.dat (B r)], [], []) :=
  hrun_ok [(300003, .loop (hd102n fuel k n ps 0) .ret (Nm [6, 7, 8] [.ptr (.loc 6) 0, .dat (I c), .dat (B r)] [some [.dat (I k2), .dat (I n2), .dat (.lst false d2)], none, none] [] []))] (ob (rfl : _ = hd102n fuel k n ps 0) (ob h2 ob0)) (by kernel_rfl)
theorem goOn_n_n (kk : Nat) (fuel k n c : Int) (ps : List Dat) (r : Bool) (h2 : LoopAt cfg kk 60 Go.Proofs.Tryz.f60 3 (hd102n fuel k n ps 0) X.ret (Nm [6, 7, 8] [D.ptr (Ref.loc 6) 0, D.dat (I c), D.dat (B r)] [some [D.dat (I 0), D.dat (I 0), D.own 49 []], none, none] [] [])) : runFn cfg kk (den cfg kk) 60 Go.Proofs.Tryz.f60 [.dat (T k n ps), .dat (I fuel), .fn 50 []] [] [] = some ([D.dat (T 0 0 []), D.dat (I c), D.dat (B r)], [], []) :=
  hrun_ok [(300003, .loop (hd102n fuel k n ps 0) .ret (Nm [6, 7, 8] [.ptr (.loc 6) 0, .dat (I c), .dat (B r)] [some [.dat (I 0), .dat (I 0), .own 49 []], none, none] [] []))] (ob (rfl : _ = hd102n fuel k n ps 0) (ob h2 ob0)) (by kernel_rfl)
theorem sRun_v (kk : Nat) (b : Bool) (es : List Dat) (fuel : Int) (out : List Dat) (c : Int) (r : Bool) (h1 : den cfg kk 18 [D.dat (Dat.lst b es), D.dat (I fuel), D.dat (B true)] [] [] = some ([D.own 46 out, D.dat (I c), D.dat (B r)], [], [])) : runFn cfg kk (den cfg kk) 6 Go.Proofs.Tryz.f6 [.dat (Dat.lst b es), .dat (I fuel)] [] [] = some ([D.own 46 out, D.dat (I c), D.dat (B r)], [], []) :=
  hrun_ok [(9, .ret [.own 46 out, .dat (I c), .dat (B r)])] (ob h1 ob0) (by kernel_rfl)
theorem iRun_v (kk : Nat) (b : Bool) (es : List Dat) (fuel : Int) (out : List Dat) (c : Int) (r : Bool) (h1 : den cfg kk 16 [D.dat (Dat.lst b es), D.dat (I fuel), D.fn 17 []] [] [] = some ([D.own 46 out, D.dat (I c), D.dat (B r)], [], [])) : runFn cfg kk (den cfg kk) 5 Go.Proofs.Tryz.f5 [.dat (Dat.lst b es), .dat (I fuel)] [] [] = some ([D.own 46 out, D.dat (I c), D.dat (B r)], [], []) :=
  hrun_ok [(9, .back [.own 46 out, .dat (I c), .dat (B r)] [] [])] (ob h1 (ob (rfl : false = false) ob0)) (by kernel_rfl)
theorem closedOn_no_v (kk : Nat) (b : Bool) (es : List Dat) (fuel : Int) (k n : Int) (d : List Dat) (h1 : den cfg kk 19 [D.dat (Dat.lst b es)] [] [] = some ([D.dat (T k n d), D.dat (B false)], [], [])) : runFn cfg kk (den cfg kk) 16 Go.Proofs.Tryz.f16 [.dat (Dat.lst b es), .dat (I fuel), .fn 17 []] [] [] = some ([D.own 46 [], D.dat (I 0), D.dat (B false)], [], []) :=
  hrun_ok [(13, .ret [.dat (T k n d), .dat (B false)])] (ob h1 ob0) (by kernel_rfl)
theorem closedOn_go_v (kk : Nat) (b : Bool) (es : List Dat) (fuel : Int) (out : List Dat) (c : Int) (r : Bool) (k n : Int) (d : List Dat) (h1 : den cfg kk 19 [D.dat (Dat.lst b es)] [] [] = some ([D.dat (T k n d), D.dat (B true)], [], [])) (h2 : den cfg kk 42 [D.dat (Dat.lst b es), D.dat (I fuel), D.fn 17 []] [] [] = some ([D.own 46 out, D.dat (I c), D.dat (B r)], [], [])) : runFn cfg kk (den cfg kk) 16 Go.Proofs.Tryz.f16 [.dat (Dat.lst b es), .dat (I fuel), .fn 17 []] [] [] = some ([D.own 46 out, D.dat (I c), D.dat (B r)], [], []) :=
  hrun_ok [(13, .ret [.dat (T k n d), .dat (B true)]), (21, .back [.own 46 out, .dat (I c), .dat (B r)] [] [])] (ob h1 (ob h2 (ob (rfl : false = false) ob0))) (by kernel_rfl)
theorem goneOn_no2_v (kk : Nat) (b : Bool) (es : List Dat) (fuel : Int) (k n : Int) (d : List Dat) (h1 : den cfg kk 45 [D.dat (Dat.lst b es)] [] [] = some ([D.dat (T k n d), D.dat (B true)], [], [])) (h2 : den cfg kk 59 [D.dat (I fuel)] [] [] = some ([D.dat (B false)], [], [])) : runFn cfg kk (den cfg kk) 42 Go.Proofs.Tryz.f42 [.dat (Dat.lst b es), .dat (I fuel), .fn 17 []] [] [] = some ([D.own 46 [], D.dat (I 0), D.dat (B false)], [], []) :=
  hrun_ok [(15, .ret [.dat (T k n d), .dat (B true)]), (22, .ret [.dat (B false)])] (ob h1 (ob h2 ob0)) (by kernel_rfl)
theorem goneOn_no3_v (kk : Nat) (b : Bool) (es : List Dat) (fuel : Int) (k n k2 n2 c : Int) (d d2 : List Dat) (h1 : den cfg kk 45 [D.dat (Dat.lst b es)] [] [] = some ([D.dat (T k n d), D.dat (B true)], [], [])) (h2 : den cfg kk 59 [D.dat (I fuel)] [] [] = some ([D.dat (B true)], [], [])) (h3 : den cfg kk 60 [D.dat (T k n d), D.dat (I fuel), D.fn 17 []] [] [] = some ([D.dat (T k2 n2 d2), D.dat (I c), D.dat (B false)], [], [])) : runFn cfg kk (den cfg kk) 42 Go.Proofs.Tryz.f42 [.dat (Dat.lst b es), .dat (I fuel), .fn 17 []] [] [] = some ([D.own 46 [], D.dat (I 0), D.dat (B false)], [], []) :=
  hrun_ok [(15, .ret [.dat (T k n d), .dat (B true)]), (22, .ret [.dat (B true)]), (29, .back [.dat (T k2 n2 d2), .dat (I c), .dat (B false)] [] [])] (ob h1 (ob h2 (ob h3 (ob (rfl : false = false) ob0)))) (by kernel_rfl)
theorem goneOn_go_v (kk : Nat) (b : Bool) (es : List Dat) (fuel : Int) (k n k2 n2 c : Int) (d d2 out : List Dat) (h1 : den cfg kk 45 [D.dat (Dat.lst b es)] [] [] = some ([D.dat (T k n d), D.dat (B true)], [], [])) (h2 : den cfg kk 59 [D.dat (I fuel)] [] [] = some ([D.dat (B true)], [], [])) (h3 : den cfg kk 60 [D.dat (T k n d), D.dat (I fuel), D.fn 17 []] [] [] = some ([D.dat (T k2 n2 d2), D.dat (I c), D.dat (B true)], [], [])) (h5 : den cfg kk 24 [D.dat (T k2 n2 d2)] [] [] = some ([D.own 46 out], [], [])) : runFn cfg kk (den cfg kk) 42 Go.Proofs.Tryz.f42 [.dat (Dat.lst b es), .dat (I fuel), .fn 17 []] [] [] = some ([D.own 46 out, D.dat (I c), D.dat (B true)], [], []) :=
  hrun_ok [(15, .ret [.dat (T k n d), .dat (B true)]), (22, .ret [.dat (B true)]), (29, .back [.dat (T k2 n2 d2), .dat (I c), .dat (B true)] [] []), (36, .ret [.own 46 out])] (ob h1 (ob h2 (ob h3 (ob (rfl : false = false) (ob h5 ob0))))) (by kernel_rfl)
def hd102v (fuel k n : Int) (ps : List Dat) (made : Int) : St := Nm [1, 2, 3, 6, 9] [.dat (I fuel), .fn 17 [], .ptr (.loc 3) 0, .ptr (.loc 6) 0, .dat (I made)] [none, none, some [.dat (I k), .dat (I n), .dat (.lst false ps)], some [.dat (I 0), .dat (I 0), .own 49 []], none] [] []
theorem goOn_done_v (kk m : Nat) {s : St} {K : X → St → Prop} (fuel k n : Int) (ps : List Dat) (made : Int) (x : Int) (hs : s.norm ((envOf cfg kk 60 Go.Proofs.Tryz.f60).live (firstRegion (lp Go.Proofs.Tryz.f60 3))) = hd102v fuel k n ps made) (h1 : den cfg kk 17 [D.dat (T k n ps)] [] [] = some ([D.dat (I x)], [], [])) (h2 : decide (x < 0) = true) (hK : K (X.ret) (Nm [6, 7, 8] [D.ptr (Ref.loc 6) 0, D.dat (I made), D.dat (B true)] [some [D.dat (I k), D.dat (I n), D.dat (Dat.lst false ps)], none, none] [] [])) : Rounds (envOf cfg kk 60 Go.Proofs.Tryz.f60) kk (lp Go.Proofs.Tryz.f60 3) (m + 1) s K :=
  rounds_end [(15, .ret [.dat (I x)]), (200016, .yes)] hs (by kernel_rfl) rfl (ob h1 (ob h2 ob0)) (by kernel_rfl) hK
theorem goOn_stop_v (kk m : Nat) {s : St} {K : X → St → Prop} (fuel k n : Int) (ps : List Dat) (made : Int) (x : Int) (hs : s.norm ((envOf cfg kk 60 Go.Proofs.Tryz.f60).live (firstRegion (lp Go.Proofs.Tryz.f60 3))) = hd102v fuel k n ps made) (h1 : den cfg kk 17 [D.dat (T k n ps)] [] [] = some ([D.dat (I x)], [], [])) (h2 : decide (x < 0) = false) (h3 : decide (made = fuel) = true) (hK : K (X.ret) (Nm [6, 7, 8] [D.ptr (Ref.loc 6) 0, D.dat (I 0), D.dat (B false)] [some [D.dat (I 0), D.dat (I 0), D.own 49 []], none, none] [] [])) : Rounds (envOf cfg kk 60 Go.Proofs.Tryz.f60) kk (lp Go.Proofs.Tryz.f60 3) (m + 1) s K :=
  rounds_end [(15, .ret [.dat (I x)]), (200016, .no), (200021, .yes)] hs (by kernel_rfl) rfl (ob h1 (ob h2 (ob h3 ob0))) (by kernel_rfl) hK
theorem goOn_bad_v (kk m : Nat) {s : St} {K : X → St → Prop} (fuel k n : Int) (ps : List Dat) (made : Int) (x k2 n2 : Int) (d2 : List Dat) (hs : s.norm ((envOf cfg kk 60 Go.Proofs.Tryz.f60).live (firstRegion (lp Go.Proofs.Tryz.f60 3))) = hd102v fuel k n ps made) (h1 : den cfg kk 17 [D.dat (T k n ps)] [] [] = some ([D.dat (I x)], [], [])) (h2 : decide (x < 0) = false) (h3 : decide (made = fuel) = false) (h4 : den cfg kk 74 [D.dat (T k n ps), D.dat (I x)] [] [] = some ([D.dat (T k2 n2 d2)], [], [])) (h5 : den cfg kk 55 [D.dat (T k2 n2 d2)] [] [] = some ([D.dat (B false)], [], [])) (hK : K (X.ret) (Nm [6, 7, 8] [D.ptr (Ref.loc 6) 0, D.dat (I 0), D.dat (B false)] [some [D.dat (I 0), D.dat (I 0), D.own 49 []], none, none] [] [])) : Rounds (envOf cfg kk 60 Go.Proofs.Tryz.f60) kk (lp Go.Proofs.Tryz.f60 3) (m + 1) s K :=
  rounds_end [(15, .ret [.dat (I x)]), (200016, .no), (200021, .no), (28, .ret [.dat (T k2 n2 d2)]), (30, .ret [.dat (B false)])] hs (by kernel_rfl) rfl (ob h1 (ob h2 (ob h3 (ob h4 (ob h5 ob0))))) (by kernel_rfl) hK
theorem goOn_go_v (kk m : Nat) {s : St} {K : X → St → Prop} (fuel k n : Int) (ps : List Dat) (made : Int) (x k2 n2 : Int) (d2 : List Dat) (hs : s.norm ((envOf cfg kk 60 Go.Proofs.Tryz.f60).live (firstRegion (lp Go.Proofs.Tryz.f60 3))) = hd102v fuel k n ps made) (h1 : den cfg kk 17 [D.dat (T k n ps)] [] [] = some ([D.dat (I x)], [], [])) (h2 : decide (x < 0) = false) (h3 : decide (made = fuel) = false) (h4 : den cfg kk 74 [D.dat (T k n ps), D.dat (I x)] [] [] = some ([D.dat (T k2 n2 d2)], [], [])) (h5 : den cfg kk 55 [D.dat (T k2 n2 d2)] [] [] = some ([D.dat (B true)], [], [])) (hn : ∀ s : St, s.norm ((envOf cfg kk 60 Go.Proofs.Tryz.f60).live (firstRegion (lp Go.Proofs.Tryz.f60 3))) = Nm [1, 2, 3, 6, 9] [D.dat (I fuel), D.fn 17 [], D.ptr (Ref.loc 3) 0, D.ptr (Ref.loc 6) 0, D.dat (I (w64 (made + 1)))] [none, none, some [D.dat (I k2), D.dat (I n2), D.dat (Dat.lst false d2)], some [D.dat (I 0), D.dat (I 0), D.own 49 []], none] [] [] → Rounds (envOf cfg kk 60 Go.Proofs.Tryz.f60) kk (lp Go.Proofs.Tryz.f60 3) m s K) : Rounds (envOf cfg kk 60 Go.Proofs.Tryz.f60) kk (lp Go.Proofs.Tryz.f60 3) (m + 1) s K :=
  rounds_go [(15, .ret [.dat (I x)]), (200016, .no), (200021, .no), (28, .ret [.dat (T k2 n2 d2)]), (30, .ret [.dat (B true)])] hs (by kernel_rfl) (ob h1 (ob h2 (ob h3 (ob h4 (ob h5 ob0))))) (by kernel_rfl) hn
theorem goOn_y_v (kk : Nat) (fuel k n c k2 n2 : Int) (ps d2 : List Dat) (r : Bool) (h2 : LoopAt cfg kk 60 Go.Proofs.Tryz.f60 3 (hd102v fuel k n ps 0) X.ret (Nm [6, 7, 8] [D.ptr (Ref.loc 6) 0, D.dat (I c), D.dat (B r)] [some [D.dat (I k2), D.dat (I n2), D.dat (Dat.lst false d2)], none, none] [] [])) : runFn cfg kk (den cfg kk) 60 Go.Proofs.Tryz.f60 [.dat (T k n ps), .dat (I fuel), .fn 17 []] [] [] = some ([D.dat (T k2 n2 d2), D.dat (I c), D.dat (B r)], [], []) :=
  hrun_ok [(300003, .loop (hd102v fuel k n ps 0) .ret (Nm [6, 7, 8] [.ptr (.loc 6) 0, .dat (I c), .dat (B r)] [some [.dat (I k2), .dat (I n2), .dat (.lst false d2)], none, none] [] []))] (ob (rfl : _ = hd102v fuel k n ps 0) (ob h2 ob0)) (by kernel_rfl)
theorem goOn_n_v (kk : Nat) (fuel k n c : Int) (ps : List Dat) (r : Bool) (h2 : LoopAt cfg kk 60 Go.Proofs.Tryz.f60 3 (hd102v fuel k n ps 0) X.ret (Nm [6, 7, 8] [D.ptr (Ref.loc 6) 0, D.dat (I c), D.dat (B r)] [some [D.dat (I 0), D.dat (I 0), D.own 49 []], none, none] [] [])) : runFn cfg kk (den cfg kk) 60 Go.Proofs.Tryz.f60 [.dat (T k n ps), .dat (I fuel), .fn 17 []] [] [] = some ([D.dat (T 0 0 []), D.dat (I c), D.dat (B r)], [], []) :=
  hrun_ok [(300003, .loop (hd102v fuel k n ps 0) .ret (Nm [6, 7, 8] [.ptr (.loc 6) 0, .dat (I c), .dat (B r)] [some [.dat (I 0), .dat (I 0), .own 49 []], none, none] [] []))] (ob (rfl : _ = hd102v fuel k n ps 0) (ob h2 ob0)) (by kernel_rfl)
theorem sRp_no1 (kk : Nat) (b : Bool) (es : List Dat) (fuel : Int) (ws : List Dat) (h1 : den cfg kk 26 [D.dat (Dat.lst b es)] [] [] = some ([D.own 46 ws, D.dat (B false)], [], [])) : runFn cfg kk (den cfg kk) 10 Go.Proofs.Tryz.f10 [.dat (Dat.lst b es), .dat (I fuel)] [] [] = some ([D.own 46 [], D.dat (B false)], [], []) :=
  hrun_ok [(14, .ret [.own 46 ws, .dat (B false)])] (ob h1 ob0) (by kernel_rfl)
theorem sRp_no2 (kk : Nat) (b : Bool) (es : List Dat) (fuel : Int) (ws : List Dat) (k1 n1 : Int) (d1 : List Dat) (k2 n2 : Int) (d2 : List Dat) (k3 n3 : Int) (d3 : List Dat) (k4 n4 : Int) (d4 : List Dat) (h1 : den cfg kk 26 [D.dat (Dat.lst b es)] [] [] = some ([D.own 46 ws, D.dat (B true)], [], [])) (h2 : D.cleans [D.dat (T k1 n1 d1)] = true) (h3 : den cfg kk 28 [D.dat (Dat.lst true ws), D.dat (I 0)] [] [] = some ([D.dat (T k1 n1 d1)], [], [])) (h4 : den cfg kk 30 [D.dat (I 0)] [] [] = some ([D.dat (T k2 n2 d2)], [], [])) (h5 : den cfg kk 29 [D.dat (T k2 n2 d2)] [] [] = some ([D.dat (T k3 n3 d3)], [], [])) (h6 : den cfg kk 27 [D.dat (T k1 n1 d1), D.dat (T k3 n3 d3)] [] [] = some ([D.dat (T k4 n4 d4)], [], [])) (h7 : den cfg kk 31 [D.dat (T k4 n4 d4)] [] [] = some ([D.dat (B false)], [], [])) : runFn cfg kk (den cfg kk) 10 Go.Proofs.Tryz.f10 [.dat (Dat.lst b es), .dat (I fuel)] [] [] = some ([D.own 46 [], D.dat (B false)], [], []) :=
  hrun_ok [(14, .ret [.own 46 ws, .dat (B true)]), (20, .ret [.dat (T k1 n1 d1)]), (21, .ret [.dat (T k2 n2 d2)]), (22, .ret [.dat (T k3 n3 d3)]), (23, .ret [.dat (T k4 n4 d4)]), (25, .ret [.dat (B false)])] (ob h1 (ob h2 (ob h3 (ob h4 (ob h5 (ob h6 (ob h7 ob0))))))) (by kernel_rfl)
theorem sRp_no3 (kk : Nat) (b : Bool) (es : List Dat) (fuel : Int) (ws : List Dat) (k1 n1 : Int) (d1 : List Dat) (k2 n2 : Int) (d2 : List Dat) (k3 n3 : Int) (d3 : List Dat) (k4 n4 : Int) (d4 : List Dat) (h1 : den cfg kk 26 [D.dat (Dat.lst b es)] [] [] = some ([D.own 46 ws, D.dat (B true)], [], [])) (h2 : D.cleans [D.dat (T k1 n1 d1)] = true) (h3 : den cfg kk 28 [D.dat (Dat.lst true ws), D.dat (I 0)] [] [] = some ([D.dat (T k1 n1 d1)], [], [])) (h4 : den cfg kk 30 [D.dat (I 0)] [] [] = some ([D.dat (T k2 n2 d2)], [], [])) (h5 : den cfg kk 29 [D.dat (T k2 n2 d2)] [] [] = some ([D.dat (T k3 n3 d3)], [], [])) (h6 : den cfg kk 27 [D.dat (T k1 n1 d1), D.dat (T k3 n3 d3)] [] [] = some ([D.dat (T k4 n4 d4)], [], [])) (h7 : den cfg kk 31 [D.dat (T k4 n4 d4)] [] [] = some ([D.dat (B true)], [], [])) (h8 : den cfg kk 32 [D.dat (I fuel), D.dat (I 0), D.dat (I 1000)] [] [] = some ([D.dat (B false)], [], [])) : runFn cfg kk (den cfg kk) 10 Go.Proofs.Tryz.f10 [.dat (Dat.lst b es), .dat (I fuel)] [] [] = some ([D.own 46 [], D.dat (B false)], [], []) :=
  hrun_ok [(14, .ret [.own 46 ws, .dat (B true)]), (20, .ret [.dat (T k1 n1 d1)]), (21, .ret [.dat (T k2 n2 d2)]), (22, .ret [.dat (T k3 n3 d3)]), (23, .ret [.dat (T k4 n4 d4)]), (25, .ret [.dat (B true)]), (29, .ret [.dat (B false)])] (ob h1 (ob h2 (ob h3 (ob h4 (ob h5 (ob h6 (ob h7 (ob h8 ob0)))))))) (by kernel_rfl)
theorem sRp_no4 (kk : Nat) (b : Bool) (es : List Dat) (fuel : Int) (ws : List Dat) (k1 n1 : Int) (d1 : List Dat) (k2 n2 : Int) (d2 : List Dat) (k3 n3 : Int) (d3 : List Dat) (k4 n4 : Int) (d4 : List Dat) (c : Int) (k5 n5 : Int) (d5 : List Dat) (h1 : den cfg kk 26 [D.dat (Dat.lst b es)] [] [] = some ([D.own 46 ws, D.dat (B true)], [], [])) (h2 : D.cleans [D.dat (T k1 n1 d1)] = true) (h3 : den cfg kk 28 [D.dat (Dat.lst true ws), D.dat (I 0)] [] [] = some ([D.dat (T k1 n1 d1)], [], [])) (h4 : den cfg kk 30 [D.dat (I 0)] [] [] = some ([D.dat (T k2 n2 d2)], [], [])) (h5 : den cfg kk 29 [D.dat (T k2 n2 d2)] [] [] = some ([D.dat (T k3 n3 d3)], [], [])) (h6 : den cfg kk 27 [D.dat (T k1 n1 d1), D.dat (T k3 n3 d3)] [] [] = some ([D.dat (T k4 n4 d4)], [], [])) (h7 : den cfg kk 31 [D.dat (T k4 n4 d4)] [] [] = some ([D.dat (B true)], [], [])) (h8 : den cfg kk 32 [D.dat (I fuel), D.dat (I 0), D.dat (I 1000)] [] [] = some ([D.dat (B true)], [], [])) (h9 : den cfg kk 33 [D.dat (T k4 n4 d4), D.dat (I fuel), D.dat (B false)] [] [] = some ([D.dat (T k5 n5 d5), D.dat (I c), D.dat (B false)], [], [])) : runFn cfg kk (den cfg kk) 10 Go.Proofs.Tryz.f10 [.dat (Dat.lst b es), .dat (I fuel)] [] [] = some ([D.own 46 [], D.dat (B false)], [], []) :=
  hrun_ok [(14, .ret [.own 46 ws, .dat (B true)]), (20, .ret [.dat (T k1 n1 d1)]), (21, .ret [.dat (T k2 n2 d2)]), (22, .ret [.dat (T k3 n3 d3)]), (23, .ret [.dat (T k4 n4 d4)]), (25, .ret [.dat (B true)]), (29, .ret [.dat (B true)]), (35, .ret [.dat (T k5 n5 d5), .dat (I c), .dat (B false)])] (ob h1 (ob h2 (ob h3 (ob h4 (ob h5 (ob h6 (ob h7 (ob h8 (ob h9 ob0))))))))) (by kernel_rfl)
theorem sRp_go (kk : Nat) (b : Bool) (es : List Dat) (fuel : Int) (ws : List Dat) (k1 n1 : Int) (d1 : List Dat) (k2 n2 : Int) (d2 : List Dat) (k3 n3 : Int) (d3 : List Dat) (k4 n4 : Int) (d4 : List Dat) (c : Int) (out : List Dat) (g : Bool) (k5 n5 : Int) (d5 : List Dat) (h1 : den cfg kk 26 [D.dat (Dat.lst b es)] [] [] = some ([D.own 46 ws, D.dat (B true)], [], [])) (h2 : D.cleans [D.dat (T k1 n1 d1)] = true) (h3 : den cfg kk 28 [D.dat (Dat.lst true ws), D.dat (I 0)] [] [] = some ([D.dat (T k1 n1 d1)], [], [])) (h4 : den cfg kk 30 [D.dat (I 0)] [] [] = some ([D.dat (T k2 n2 d2)], [], [])) (h5 : den cfg kk 29 [D.dat (T k2 n2 d2)] [] [] = some ([D.dat (T k3 n3 d3)], [], [])) (h6 : den cfg kk 27 [D.dat (T k1 n1 d1), D.dat (T k3 n3 d3)] [] [] = some ([D.dat (T k4 n4 d4)], [], [])) (h7 : den cfg kk 31 [D.dat (T k4 n4 d4)] [] [] = some ([D.dat (B true)], [], [])) (h8 : den cfg kk 32 [D.dat (I fuel), D.dat (I 0), D.dat (I 1000)] [] [] = some ([D.dat (B true)], [], [])) (h9 : den cfg kk 33 [D.dat (T k4 n4 d4), D.dat (I fuel), D.dat (B false)] [] [] = some ([D.dat (T k5 n5 d5), D.dat (I c), D.dat (B true)], [], [])) (h10 : den cfg kk 34 [D.dat (T k5 n5 d5)] [] [] = some ([D.own 46 out, D.dat (B g)], [], [])) : runFn cfg kk (den cfg kk) 10 Go.Proofs.Tryz.f10 [.dat (Dat.lst b es), .dat (I fuel)] [] [] = some ([D.own 46 out, D.dat (B g)], [], []) :=
  hrun_ok [(14, .ret [.own 46 ws, .dat (B true)]), (20, .ret [.dat (T k1 n1 d1)]), (21, .ret [.dat (T k2 n2 d2)]), (22, .ret [.dat (T k3 n3 d3)]), (23, .ret [.dat (T k4 n4 d4)]), (25, .ret [.dat (B true)]), (29, .ret [.dat (B true)]), (35, .ret [.dat (T k5 n5 d5), .dat (I c), .dat (B true)]), (42, .ret [.own 46 out, .dat (B g)])] (ob h1 (ob h2 (ob h3 (ob h4 (ob h5 (ob h6 (ob h7 (ob h8 (ob h9 (ob h10 ob0)))))))))) (by kernel_rfl)
theorem iRp_no1 (kk : Nat) (b : Bool) (es : List Dat) (fuel : Int) (ws us os : List Dat) (k1 n1 : Int) (d1 : List Dat) (k2 n2 : Int) (d2 : List Dat) (r2 : Bool) (h1 : den cfg kk 20 [D.dat (Dat.lst b es)] [] [] = some ([D.own 46 ws, D.dat (B false)], [], [])) (h2 : den cfg kk 23 [D.dat (I 0)] [] [] = some ([D.dat (T k1 n1 d1)], [], [])) (h3 : den cfg kk 22 [D.dat (T k1 n1 d1)] [] [] = some ([D.dat (T k2 n2 d2)], [], [])) (h4 : den cfg kk 24 [D.dat (T k2 n2 d2)] [] [] = some ([D.own 46 us], [], [])) (h5 : D.cleans [D.own 46 os, D.dat (B r2)] = true) (h6 : den cfg kk 21 [D.dat (Dat.lst true ws), D.dat (Dat.lst true us)] [] [] = some ([D.own 46 os, D.dat (B r2)], [], [])) : runFn cfg kk (den cfg kk) 9 Go.Proofs.Tryz.f9 [.dat (Dat.lst b es), .dat (I fuel)] [] [] = some ([D.own 46 [], D.dat (B false)], [], []) :=
  hrun_ok [(15, .ret [.own 46 ws, .dat (B false)]), (20, .ret [.dat (T k1 n1 d1)]), (21, .ret [.dat (T k2 n2 d2)]), (22, .ret [.own 46 us]), (23, .ret [.own 46 os, .dat (B r2)])] (ob h1 (ob h2 (ob h3 (ob h4 (ob h5 (ob h6 ob0)))))) (by kernel_rfl)
theorem iRp_no2 (kk : Nat) (b : Bool) (es : List Dat) (fuel : Int) (ws us os : List Dat) (k1 n1 : Int) (d1 : List Dat) (k2 n2 : Int) (d2 : List Dat) (h1 : den cfg kk 20 [D.dat (Dat.lst b es)] [] [] = some ([D.own 46 ws, D.dat (B true)], [], [])) (h2 : den cfg kk 23 [D.dat (I 0)] [] [] = some ([D.dat (T k1 n1 d1)], [], [])) (h3 : den cfg kk 22 [D.dat (T k1 n1 d1)] [] [] = some ([D.dat (T k2 n2 d2)], [], [])) (h4 : den cfg kk 24 [D.dat (T k2 n2 d2)] [] [] = some ([D.own 46 us], [], [])) (h5 : D.cleans [D.own 46 os, D.dat (B false)] = true) (h6 : den cfg kk 21 [D.dat (Dat.lst true ws), D.dat (Dat.lst true us)] [] [] = some ([D.own 46 os, D.dat (B false)], [], [])) : runFn cfg kk (den cfg kk) 9 Go.Proofs.Tryz.f9 [.dat (Dat.lst b es), .dat (I fuel)] [] [] = some ([D.own 46 [], D.dat (B false)], [], []) :=
  hrun_ok [(15, .ret [.own 46 ws, .dat (B true)]), (20, .ret [.dat (T k1 n1 d1)]), (21, .ret [.dat (T k2 n2 d2)]), (22, .ret [.own 46 us]), (23, .ret [.own 46 os, .dat (B false)])] (ob h1 (ob h2 (ob h3 (ob h4 (ob h5 (ob h6 ob0)))))) (by kernel_rfl)
theorem iRp_go (kk : Nat) (b : Bool) (es : List Dat) (fuel : Int) (ws us os : List Dat) (k1 n1 : Int) (d1 : List Dat) (k2 n2 : Int) (d2 : List Dat) (out : List Dat) (c : Int) (r : Bool) (h1 : den cfg kk 20 [D.dat (Dat.lst b es)] [] [] = some ([D.own 46 ws, D.dat (B true)], [], [])) (h2 : den cfg kk 23 [D.dat (I 0)] [] [] = some ([D.dat (T k1 n1 d1)], [], [])) (h3 : den cfg kk 22 [D.dat (T k1 n1 d1)] [] [] = some ([D.dat (T k2 n2 d2)], [], [])) (h4 : den cfg kk 24 [D.dat (T k2 n2 d2)] [] [] = some ([D.own 46 us], [], [])) (h5 : D.cleans [D.own 46 os, D.dat (B true)] = true) (h6 : den cfg kk 21 [D.dat (Dat.lst true ws), D.dat (Dat.lst true us)] [] [] = some ([D.own 46 os, D.dat (B true)], [], [])) (h7 : D.cleans [D.own 46 out, D.dat (I c), D.dat (B r)] = true) (h8 : den cfg kk 25 [D.dat (Dat.lst true os), D.dat (I fuel)] [] [] = some ([D.own 46 out, D.dat (I c), D.dat (B r)], [], [])) : runFn cfg kk (den cfg kk) 9 Go.Proofs.Tryz.f9 [.dat (Dat.lst b es), .dat (I fuel)] [] [] = some ([D.own 46 out, D.dat (B r)], [], []) :=
  hrun_ok [(15, .ret [.own 46 ws, .dat (B true)]), (20, .ret [.dat (T k1 n1 d1)]), (21, .ret [.dat (T k2 n2 d2)]), (22, .ret [.own 46 us]), (23, .ret [.own 46 os, .dat (B true)]), (35, .ret [.own 46 out, .dat (I c), .dat (B r)])] (ob h1 (ob h2 (ob h3 (ob h4 (ob h5 (ob h6 (ob h7 (ob h8 ob0)))))))) (by kernel_rfl)
end Go.Den
namespace Go.Den
open Go
set_option linter.unusedVariables false
set_option maxRecDepth 100000
/-- A term as one that is told what is to be done then (Plotkin). -/
def passT : Pt → Pt
  | .var n => .lam 0 (.app 0 (.var 0) (.var (n + 1)))
  | .lam _ x => .lam 0 (.app 0 (.var 0) (sh 1 0 (.lam 0 (passT x))))
  | .app _ x y => .lam 0 (.app 0 (sh 1 0 (passT x)) (.lam 0 (.app 0 (sh 2 0 (passT y)) (.lam 0 (.app 0 (.app 0 (.var 1) (.var 0)) (.var 2))))))
theorem sh_within (b : Int) (hb : 0 ≤ b) (M : Int) : ∀ (t : Pt) (f : Int), t.within M → (sh b f t).within (M + b)
  | .var n, f, h => by
    have h : -M ≤ n ∧ n ≤ M := h
    simp only [sh]
    split
    · show -(M + b) ≤ n + b ∧ n + b ≤ M + b
      omega
    · show -(M + b) ≤ n ∧ n ≤ M + b
      omega
  | .lam n t, f, h => sh_within b hb M t (f + 1) h
  | .app n x y, f, h => by
    have h : x.within M ∧ y.within M := h
    exact ⟨sh_within b hb M x f h.1, sh_within b hb M y f h.2⟩
theorem passT_size : ∀ t : Pt, (passT t).size ≤ 10 * t.size ∧ (passT t).depth ≤ 8 * t.depth
  | .var n => by simp [passT, Pt.size, Pt.depth]
  | .lam n x => by
    have h := passT_size x
    have h2 := sh_size 1 (.lam 0 (passT x)) 0
    simp only [passT, Pt.size, Pt.depth] at h2 ⊢
    omega
  | .app n x y => by
    have h := passT_size x
    have k := passT_size y
    have h2 := sh_size 1 (passT x) 0
    have k2 := sh_size 2 (passT y) 0
    simp only [passT, Pt.size, Pt.depth] at h2 k2 ⊢
    omega
theorem passT_within (M : Int) (hM : 2 ≤ M) : ∀ t : Pt, t.within M → (passT t).within (M + 3 * t.depth)
  | .var n, h => by
    have h : -M ≤ n ∧ n ≤ M := h
    simp only [passT, Pt.within, Pt.depth]
    omega
  | .lam n x, h => by
    have ih := passT_within M hM x h
    have h2 : (sh 1 0 (.lam 0 (passT x))).within (M + 3 * x.depth + 1) := sh_within 1 (by omega) _ (.lam 0 (passT x)) 0 ih
    have h3 := within_mono (show M + 3 * (x.depth : Int) + 1 ≤ M + 3 * ((x.depth + 1 : Nat) : Int) by omega) _ h2
    show ((.app 0 (.var 0) (sh 1 0 (.lam 0 (passT x))) : Pt)).within _
    refine ⟨?_, h3⟩
    show -(M + 3 * ((x.depth + 1 : Nat) : Int)) ≤ 0 ∧ (0 : Int) ≤ M + 3 * ((x.depth + 1 : Nat) : Int)
    omega
  | .app n x y, h => by
    have h : x.within M ∧ y.within M := h
    have i1 := passT_within M hM x h.1
    have i2 := passT_within M hM y h.2
    have j1 := sh_within 1 (by omega) _ (passT x) 0 i1
    have j2 := sh_within 2 (by omega) _ (passT y) 0 i2
    have hd : (Pt.app n x y).depth = max x.depth y.depth + 1 := rfl
    have k1 := within_mono (show M + 3 * (x.depth : Int) + 1 ≤ M + 3 * ((Pt.app n x y).depth : Int) by omega) _ j1
    have k2 := within_mono (show M + 3 * (y.depth : Int) + 2 ≤ M + 3 * ((Pt.app n x y).depth : Int) by omega) _ j2
    refine ⟨k1, k2, ⟨?_, ?_⟩, ?_⟩
    · show -(M + 3 * ((Pt.app n x y).depth : Int)) ≤ 1 ∧ (1 : Int) ≤ M + 3 * ((Pt.app n x y).depth : Int); omega
    · show -(M + 3 * ((Pt.app n x y).depth : Int)) ≤ 0 ∧ (0 : Int) ≤ M + 3 * ((Pt.app n x y).depth : Int); omega
    · show -(M + 3 * ((Pt.app n x y).depth : Int)) ≤ 2 ∧ (2 : Int) ≤ M + 3 * ((Pt.app n x y).depth : Int); omega
/-- What is small enough to be passed. -/
def fit (t : Pt) : Prop := t.depth ≤ 41 ∧ t.within 1000
theorem fit_kid {t x : Pt} (h : fit t) (hx : x ∈ t.kids) : fit x := ⟨by have := Pt.kids_lt hx; have := h.1; omega, within_kids h.2 hx⟩
theorem pass_fit {t : Pt} (h : fit t) : (passT t).depth ≤ 328 ∧ (passT t).within 10000 := by
  have h1 := passT_size t
  have h2 := passT_within 1000 (by omega) t h.2
  have := h.1
  exact ⟨by omega, within_mono (by omega) _ h2⟩
theorem ev_lfUp (t : Pt) (b : Int) (hb : 0 ≤ b ∧ b ≤ 10) (hd : t.depth ≤ 400) (hw : t.within 100000) : EvN 1000 69 [.dat t.d, .dat (I b)] [] [] ([.dat (sh b 0 t).d], [], []) := by
  refine (ev_fn Go.Proofs.Tryz.f69 900 (by kernel_rfl) (by kernel_rfl) fun kk hkk => ?_).mono (by omega)
  have a := ev_lcShift b (by omega) 400 t 0 hd (by omega) (by omega) (within_mono (by omega) _ hw) kk (by omega)
  rw [Pt.d_eq t, Pt.d_eq (sh b 0 t)] at a ⊢
  exact lfUp kk b true _ _ _ _ _ _ a
theorem ev_lfPass : ∀ (d : Nat) (t : Pt), t.depth ≤ d → fit t → EvN (d + 1100) 51 [.dat t.d] [] [] ([.dat (passT t).d], [], [])
  | 0, t, hd, _ => by have := t.depth_pos; omega
  | d + 1, t, hd, hf => by
    refine ev_fn Go.Proofs.Tryz.f51 (d + 1100) (by kernel_rfl) (by kernel_rfl) fun kk hkk => ?_
    have v0 := ev_lcVar 0 kk (by omega)
    have ih : ∀ x ∈ t.kids, den cfg kk 51 [.dat x.d] [] [] = some ([.dat (passT x).d], [], []) := fun x hx => ev_lfPass d x (by have := Pt.kids_lt hx; omega) (fit_kid hf hx) kk (by omega)
    have hfit : ∀ x ∈ t.kids, _ := fun x hx => pass_fit (fit_kid hf hx)
    cases t with
    | var n =>
      have hw : -1000 ≤ n ∧ n ≤ 1000 := hf.2
      have e : w64 (n + 1) = n + 1 := w64_eq (by omega)
      have v1 := ev_lcVar (n + 1) kk (by omega)
      have a := ev_lcApp (.var 0) (.var (n + 1)) kk (by omega)
      have l := ev_lcLam (.app 0 (.var 0) (.var (n + 1))) kk (by omega)
      refine lfPass_var kk n [] _ _ _ _ _ _ _ _ _ _ _ _ v0 ?_ a l
      rw [e]
      exact v1
    | lam n x =>
      have i := ih x (by simp [Pt.kids])
      have hx := hfit x (by simp [Pt.kids])
      have l := ev_lcLam (passT x) kk (by omega)
      have u := ev_lfUp (.lam 0 (passT x)) 1 (by omega) (by simp only [Pt.depth]; omega) (within_mono (by omega) _ hx.2) kk (by omega)
      have a := ev_lcApp (.var 0) (sh 1 0 (.lam 0 (passT x))) kk (by omega)
      have l2 := ev_lcLam (.app 0 (.var 0) (sh 1 0 (.lam 0 (passT x)))) kk (by omega)
      rw [Pt.d_eq x, Pt.d_eq (passT x)] at i
      rw [Pt.d_eq (passT x)] at l
      rw [Pt.d_eq (sh 1 0 (.lam 0 (passT x)))] at u a
      have e : (Pt.lam n x).d = T 2 n [T x.kd x.num (x.kids.map Pt.d)] := by rw [← Pt.d_eq]; rfl
      rw [e]
      apply lfPass_lam kk <;> first | assumption | exact ⟨⟨by decide, by simp⟩, rfl⟩ | (simp; done)
    | app n x y =>
      have i1 := ih x (by simp [Pt.kids])
      have i2 := ih y (by simp [Pt.kids])
      have hx := hfit x (by simp [Pt.kids])
      have hy := hfit y (by simp [Pt.kids])
      have u1 := ev_lfUp (passT x) 1 (by omega) (by omega) (within_mono (by omega) _ hx.2) kk (by omega)
      have u2 := ev_lfUp (passT y) 2 (by omega) (by omega) (within_mono (by omega) _ hy.2) kk (by omega)
      have v1 := ev_lcVar 1 kk (by omega)
      have v2 := ev_lcVar 2 kk (by omega)
      have a1 := ev_lcApp (.var 1) (.var 0) kk (by omega)
      have a2 := ev_lcApp (.app 0 (.var 1) (.var 0)) (.var 2) kk (by omega)
      have l1 := ev_lcLam (.app 0 (.app 0 (.var 1) (.var 0)) (.var 2)) kk (by omega)
      have a3 := ev_lcApp (sh 2 0 (passT y)) (.lam 0 (.app 0 (.app 0 (.var 1) (.var 0)) (.var 2))) kk (by omega)
      have l2 := ev_lcLam (.app 0 (sh 2 0 (passT y)) (.lam 0 (.app 0 (.app 0 (.var 1) (.var 0)) (.var 2)))) kk (by omega)
      have a4 := ev_lcApp (sh 1 0 (passT x)) (.lam 0 (.app 0 (sh 2 0 (passT y)) (.lam 0 (.app 0 (.app 0 (.var 1) (.var 0)) (.var 2))))) kk (by omega)
      have l3 := ev_lcLam (.app 0 (sh 1 0 (passT x)) (.lam 0 (.app 0 (sh 2 0 (passT y)) (.lam 0 (.app 0 (.app 0 (.var 1) (.var 0)) (.var 2)))))) kk (by omega)
      rw [Pt.d_eq x, Pt.d_eq (passT x)] at i1
      rw [Pt.d_eq y, Pt.d_eq (passT y)] at i2
      rw [Pt.d_eq (passT x), Pt.d_eq (sh 1 0 (passT x))] at u1
      rw [Pt.d_eq (passT y), Pt.d_eq (sh 2 0 (passT y))] at u2
      rw [Pt.d_eq (sh 2 0 (passT y))] at a3
      rw [Pt.d_eq (sh 1 0 (passT x))] at a4
      have e : (Pt.app n x y).d = T 3 n [T x.kd x.num (x.kids.map Pt.d), T y.kd y.num (y.kids.map Pt.d)] := by rw [← Pt.d_eq, ← Pt.d_eq]; rfl
      rw [e]
      refine lfPass_app kk n [] _ _ _ _ _ _ _ _ _ _ _ _ _ _ _ _ _ _ _ _ _ _ _ _ _ _ _ _ _ _ _ _ _ _ _ _ _ _ _ _ _ _ _ _ _ _ _ _ ?_ i1 u1 ?_ i2 u2 v1 v0 a1 v2 a2 l1 a3 l2 a4 l3
      · exact ⟨⟨by decide, by simp⟩, rfl⟩
      · exact ⟨⟨by decide, by simp⟩, rfl⟩
theorem ev_pass : ∀ (d : Nat) (t : Pt), t.depth ≤ d → fit t → EvN (2 * d + 1100) 47 [.dat t.d] [] [] ([.dat (passT t).d], [], [])
  | 0, t, hd, _ => by have := t.depth_pos; omega
  | d + 1, t, hd, hf => by
    refine (ev_fn Go.Proofs.Tryz.f47 (2 * d + 1101) (by kernel_rfl) (by kernel_rfl) fun kk hkk => ?_).mono (by omega)
    have v0 := ev_variable 0 kk (by omega)
    have ih : ∀ x ∈ t.kids, ∀ kk, 2 * d + 1100 ≤ kk → den cfg kk 47 [.dat x.d] [] [] = some ([.dat (passT x).d], [], []) := fun x hx kk hkk => ev_pass d x (by have := Pt.kids_lt hx; omega) (fit_kid hf hx) kk (by omega)
    have hfit : ∀ x ∈ t.kids, _ := fun x hx => pass_fit (fit_kid hf hx)
    cases t with
    | var n =>
      have hw : -1000 ≤ n ∧ n ≤ 1000 := hf.2
      have e : w64 (n + 1) = n + 1 := w64_eq (by omega)
      have v1 := ev_variable (n + 1) kk (by omega)
      have a := ev_app (.var 0) (.var (n + 1)) kk (by omega)
      have l := ev_lam (.app 0 (.var 0) (.var (n + 1))) kk (by omega)
      refine pass_var kk n [] _ _ _ _ _ _ _ _ _ _ _ _ v0 ?_ a l
      rw [e]
      exact v1
    | lam n x =>
      have hx := hfit x (by simp [Pt.kids])
      have pl : den cfg kk 35 [.dat (Pt.lam n x).d] [] [] = some ([.dat (Pt.lam 0 (passT x)).d], [], []) := by
        refine (ev_fn Go.Proofs.Tryz.f35 (2 * d + 1100) (by kernel_rfl) (by kernel_rfl) fun k2 hk2 => ?_) kk (by omega)
        have i := ih x (by simp [Pt.kids]) k2 hk2
        have l := ev_lam (passT x) k2 (by omega)
        rw [Pt.d_eq x, Pt.d_eq (passT x)] at i
        rw [Pt.d_eq (passT x)] at l
        have e : (Pt.lam n x).d = T 2 n [T x.kd x.num (x.kids.map Pt.d)] := by rw [← Pt.d_eq]; rfl
        rw [e]
        exact passLambda k2 2 n [] _ _ _ _ _ _ _ _ _ ⟨⟨by decide, by simp⟩, rfl⟩ i l
      have u := ev_shift (.lam 0 (passT x)) 1 0 (by omega) (by omega) (by simp only [Pt.depth]; omega) (within_mono (by omega) _ hx.2) kk (by simp only [Pt.depth]; omega)
      have a := ev_app (.var 0) (sh 1 0 (.lam 0 (passT x))) kk (by omega)
      have l2 := ev_lam (.app 0 (.var 0) (sh 1 0 (.lam 0 (passT x)))) kk (by omega)
      rw [Pt.d_eq (sh 1 0 (.lam 0 (passT x)))] at u a
      exact pass_lam kk n _ _ _ _ _ _ _ _ _ _ _ _ _ _ _ _ v0 pl u a l2
    | app n x y =>
      have i1 := ih x (by simp [Pt.kids]) kk (by omega)
      have i2 := ih y (by simp [Pt.kids]) kk (by omega)
      have hx := hfit x (by simp [Pt.kids])
      have hy := hfit y (by simp [Pt.kids])
      have u1 := ev_shift (passT x) 1 0 (by omega) (by omega) (by omega) (within_mono (by omega) _ hx.2) kk (by omega)
      have u2 := ev_shift (passT y) 2 0 (by omega) (by omega) (by omega) (within_mono (by omega) _ hy.2) kk (by omega)
      have v1 := ev_variable 1 kk (by omega)
      have v2 := ev_variable 2 kk (by omega)
      have a1 := ev_app (.var 1) (.var 0) kk (by omega)
      have a2 := ev_app (.app 0 (.var 1) (.var 0)) (.var 2) kk (by omega)
      have l1 := ev_lam (.app 0 (.app 0 (.var 1) (.var 0)) (.var 2)) kk (by omega)
      have a3 := ev_app (sh 2 0 (passT y)) (.lam 0 (.app 0 (.app 0 (.var 1) (.var 0)) (.var 2))) kk (by omega)
      have l2 := ev_lam (.app 0 (sh 2 0 (passT y)) (.lam 0 (.app 0 (.app 0 (.var 1) (.var 0)) (.var 2)))) kk (by omega)
      have a4 := ev_app (sh 1 0 (passT x)) (.lam 0 (.app 0 (sh 2 0 (passT y)) (.lam 0 (.app 0 (.app 0 (.var 1) (.var 0)) (.var 2))))) kk (by omega)
      have l3 := ev_lam (.app 0 (sh 1 0 (passT x)) (.lam 0 (.app 0 (sh 2 0 (passT y)) (.lam 0 (.app 0 (.app 0 (.var 1) (.var 0)) (.var 2)))))) kk (by omega)
      rw [Pt.d_eq x, Pt.d_eq (passT x)] at i1
      rw [Pt.d_eq y, Pt.d_eq (passT y)] at i2
      rw [Pt.d_eq (passT x), Pt.d_eq (sh 1 0 (passT x))] at u1
      rw [Pt.d_eq (passT y), Pt.d_eq (sh 2 0 (passT y))] at u2
      rw [Pt.d_eq (sh 2 0 (passT y))] at a3
      rw [Pt.d_eq (sh 1 0 (passT x))] at a4
      have e : (Pt.app n x y).d = T 3 n [T x.kd x.num (x.kids.map Pt.d), T y.kd y.num (y.kids.map Pt.d)] := by rw [← Pt.d_eq, ← Pt.d_eq]; rfl
      rw [e]
      exact pass_app kk n [] _ _ _ _ _ _ _ _ _ _ _ _ _ _ _ _ _ _ _ _ _ _ _ _ _ _ _ _ _ _ _ _ _ _ _ _ _ _ _ _ _ _ _ _ _ _ _ _ v1 v0 a1 v2 a2 l1 ⟨⟨by decide, by simp⟩, rfl⟩ i2 u2 a3 l2 ⟨⟨by decide, by simp⟩, rfl⟩ i1 u1 a4 l3
def passN (L : List Nd) : List Nd × Bool := match closedOfP L with | some t => told (passT t) | none => ([], false)
theorem passN_len (L : List Nd) : (passN L).1.length ≤ 150 := by
  unfold passN
  split
  · exact told_len _
  · simp
theorem good_fit {t : Pt} (h : t.good = true) : fit t := by
  have h1 := good_facts h
  exact ⟨by omega, within_mono (by omega) _ (nums_within t h1.2.2)⟩
theorem ev_sPass (L : List Nd) (b : Bool) (hL : L.length ≤ 1048576) : EvN 1002000 26 [.dat (.lst b (L.map Nd.d))] [] [] ([.own 46 ((passN L).1.map Nd.d), .dat (B (passN L).2)], [], []) := by
  refine (ev_fn Go.Proofs.Tryz.f26 1001900 (by kernel_rfl) (by kernel_rfl) fun kk hkk => ?_).mono (by omega)
  have a1 := ev_lfClosed L b hL kk (by omega)
  unfold passN
  cases h1 : closedOfP L with
  | none => rw [h1] at a1; exact sPass_no kk b _ a1
  | some t =>
    rw [h1] at a1
    have hg := closedOfP_good h1
    have hf := good_fit hg
    have hsm := good_small hg
    have hp := pass_fit hf
    have hz := passT_size t
    have a2 := ev_tree b (closedOfP_some h1).1 kk (by omega)
    have a3 := ev_lfPass 40 t hsm.2.1 hf kk (by omega)
    have a4 := ev_lcTold (passT t) (by omega) kk (by omega)
    rw [Pt.d_eq t] at a2
    rw [Pt.d_eq t, Pt.d_eq (passT t)] at a3
    rw [Pt.d_eq (passT t)] at a4
    exact sPass_go kk b _ _ _ _ _ _ _ _ _ a1 a2 a3 a4
theorem ev_iPass (L : List Nd) (b : Bool) (hL : L.length ≤ 1048576) : EvN 5000 20 [.dat (.lst b (L.map Nd.d))] [] [] ([.own 46 ((passN L).1.map Nd.d), .dat (B (passN L).2)], [], []) := by
  refine (ev_fn Go.Proofs.Tryz.f20 4900 (by kernel_rfl) (by kernel_rfl) fun kk hkk => ?_).mono (by omega)
  obtain ⟨k1, n1, d1, a1, e1⟩ := ev_closedOf_any L b hL
  have a1 := a1 kk (by omega)
  unfold passN
  cases h1 : closedOfP L with
  | none => rw [h1] at a1; exact iPass_no kk b _ _ _ _ a1
  | some t =>
    rw [h1, e1 t h1, Pt.d_eq t] at a1
    have hg := closedOfP_good h1
    have hf := good_fit hg
    have hsm := good_small hg
    have hp := pass_fit hf
    have hz := passT_size t
    have a3 := ev_pass 40 t hsm.2.1 hf kk (by omega)
    have a4 := ev_goodNodes (passT t) (by omega) kk (by omega)
    rw [Pt.d_eq t, Pt.d_eq (passT t)] at a3
    rw [Pt.d_eq (passT t)] at a4
    exact iPass_go kk b _ _ _ _ _ _ _ _ _ a1 a3 a4
def passVN (L : List Nd) : List Nd × Bool := match closedOfP L with | some (.lam _ x) => told (.lam 0 (passT x)) | _ => ([], false)
theorem ev_iPassV (L : List Nd) (b : Bool) (hL : L.length ≤ 1048576) : EvN 5000 11 [.dat (.lst b (L.map Nd.d))] [] [] ([.own 46 ((passVN L).1.map Nd.d), .dat (B (passVN L).2)], [], []) := by
  refine (ev_fn Go.Proofs.Tryz.f11 4900 (by kernel_rfl) (by kernel_rfl) fun kk hkk => ?_).mono (by omega)
  obtain ⟨k1, n1, d1, a1, e1⟩ := ev_closedOf_any L b hL
  have a1 := a1 kk (by omega)
  unfold passVN
  cases h1 : closedOfP L with
  | none => rw [h1] at a1; exact iPassV_no1 kk b _ _ _ _ a1
  | some t =>
    rw [h1, e1 t h1] at a1
    cases t with
    | var n => exact iPassV_no2 kk b _ 1 n [] a1 rfl
    | app n x y => exact iPassV_no2 kk b _ 3 n [x.d, y.d] a1 rfl
    | lam n x =>
      have hg := closedOfP_good h1
      have hf := good_fit hg
      have hfx := fit_kid hf (x := x) (by simp [Pt.kids])
      have hsm := good_small hg
      have hp := pass_fit hfx
      have hz := passT_size x
      have hsz : x.size + 1 ≤ 150 := by have := hsm.1; simp only [Pt.size] at this; omega
      have pl : den cfg kk 35 [.dat (Pt.lam n x).d] [] [] = some ([.dat (Pt.lam 0 (passT x)).d], [], []) := by
        refine (ev_fn Go.Proofs.Tryz.f35 2000 (by kernel_rfl) (by kernel_rfl) fun k2 hk2 => ?_) kk (by omega)
        have i := ev_pass 41 x hfx.1 hfx k2 (by omega)
        have l := ev_lam (passT x) k2 (by omega)
        rw [Pt.d_eq x, Pt.d_eq (passT x)] at i
        rw [Pt.d_eq (passT x)] at l
        have e : (Pt.lam n x).d = T 2 n [T x.kd x.num (x.kids.map Pt.d)] := by rw [← Pt.d_eq]; rfl
        rw [e]
        exact passLambda k2 2 n [] _ _ _ _ _ _ _ _ _ ⟨⟨by decide, by simp⟩, rfl⟩ i l
      have a4 := ev_goodNodes (.lam 0 (passT x)) (by simp only [Pt.size]; omega) kk (by simp only [Pt.depth]; omega)
      exact iPassV_go kk b _ _ _ _ _ _ _ _ _ a1 rfl pl a4
end Go.Den
namespace Go.Den
open Go
set_option linter.unusedVariables false
set_option maxRecDepth 100000
/-- The number of the redex that is reduced next, by value or by name. -/
def nx (v : Bool) : Pt → Option Nat
  | .var _ => none
  | .lam _ _ => none
  | .app _ x y => if x.kd ≠ 2 then (nx v x).map (1 + ·) else if v = true ∧ y.kd ≠ 2 then (nx v y).map (1 + x.size + ·) else some 0
theorem closed_app {n : Int} {x y : Pt} {a : Int} : fv (.app n x y) a = [] ↔ fv x a = [] ∧ fv y a = [] := by simp [fv]
theorem closedP_iff (t : Pt) : closedP t = true ↔ fv t 0 = [] := by unfold closedP; exact List.isEmpty_iff
/-- Closed, its numbers as they have to be. -/
def Cl (t : Pt) : Prop := fv t 0 = [] ∧ t.nums = true
theorem Cl.app {n : Int} {x y : Pt} (h : Cl (.app n x y)) : n = 0 ∧ Cl x ∧ Cl y := by
  obtain ⟨h1, h2⟩ := h
  rw [closed_app] at h1
  have h' : n = 0 ∧ x.nums = true ∧ y.nums = true := by simpa [Pt.nums] using h2
  exact ⟨h'.1, ⟨h1.1, h'.2.1⟩, ⟨h1.2, h'.2.2⟩⟩
theorem Cl.var {n : Int} (h : Cl (.var n)) : False := by
  obtain ⟨h1, h2⟩ := h
  have h' : 0 ≤ n ∧ n ≤ 99 := by simpa [Pt.nums] using h2
  simp only [fv] at h1
  rw [if_pos h'.1] at h1
  cases h1
theorem nx_app (v : Bool) : ∀ (t : Pt), Cl t → t.kd ≠ 2 → ∃ r, nx v t = some r
  | .var n, h, _ => h.var.elim
  | .lam n x, _, h => (h rfl).elim
  | .app n x y, h, _ => by
    have h := h.app
    simp only [nx]
    split
    · rename_i hx
      obtain ⟨r, hr⟩ := nx_app v x h.2.1 hx
      exact ⟨_, by rw [hr]; rfl⟩
    · split
      · rename_i hy
        obtain ⟨r, hr⟩ := nx_app v y h.2.2 hy.2
        exact ⟨_, by rw [hr]; rfl⟩
      · exact ⟨0, rfl⟩
theorem nx_lam (v : Bool) {t : Pt} (h : t.kd = 2) : nx v t = none := by
  cases t with
  | var n => cases h
  | lam n x => rfl
  | app n x y => cases h
theorem kd_lam {t : Pt} (h : t.kd = 2) : ∃ n x, t = .lam n x := by
  cases t with
  | var n => cases h
  | lam n x => exact ⟨n, x, rfl⟩
  | app n x y => cases h
theorem nx_rx (v : Bool) : ∀ (t : Pt) (r : Nat), nx v t = some r → rxAt t r = true ∧ r < t.size
  | .var n, r, h => by cases h
  | .lam n x, r, h => by cases h
  | .app n x y, r, h => by
    simp only [nx] at h
    split at h
    · obtain ⟨q, hq, rfl⟩ := Option.map_eq_some_iff.1 h
      obtain ⟨h1, h2⟩ := nx_rx v x q hq
      rw [Nat.add_comm 1 q]
      simp only [rxAt, Pt.size, if_pos h2]
      exact ⟨h1, by omega⟩
    · rename_i hx
      split at h
      · obtain ⟨q, hq, rfl⟩ := Option.map_eq_some_iff.1 h
        obtain ⟨h1, h2⟩ := nx_rx v y q hq
        rw [show 1 + x.size + q = (x.size + q) + 1 by omega]
        simp only [rxAt, Pt.size, if_neg (show ¬ x.size + q < x.size by omega), show x.size + q - x.size = q by omega]
        exact ⟨h1, by omega⟩
      · cases h
        refine ⟨?_, by simp only [Pt.size]; omega⟩
        simp only [rxAt, Pt.isRedex]
        exact decide_eq_true (by omega)
theorem fv_sh (b : Int) : ∀ (s : Pt) (a f : Int), fv s a = [] → a ≤ f → fv (sh b f s) a = []
  | .var n, a, f, h, hf => by
    have hn : ¬ a ≤ n := fun hn => by simp only [fv] at h; rw [if_pos hn] at h; cases h
    simp only [sh]
    rw [if_neg (by omega)]
    exact h
  | .lam n t, a, f, h, hf => fv_sh b t (a + 1) (f + 1) h (by omega)
  | .app n x y, a, f, h, hf => by
    rw [closed_app] at h
    simp only [sh]
    rw [closed_app]
    exact ⟨fv_sh b x a f h.1 hf, fv_sh b y a f h.2 hf⟩
theorem fv_up : ∀ (t : Pt) (a b : Int), fv t a = [] → a ≤ b → fv t b = []
  | .var n, a, b, h, hb => by
    have hn : ¬ a ≤ n := fun hn => by simp only [fv] at h; rw [if_pos hn] at h; cases h
    simp only [fv]
    rw [if_neg (by omega)]
  | .lam n t, a, b, h, hb => fv_up t (a + 1) (b + 1) h (by omega)
  | .app n x y, a, b, h, hb => by
    rw [closed_app] at h ⊢
    exact ⟨fv_up x a b h.1 hb, fv_up y a b h.2 hb⟩
theorem fv_sub (s : Pt) (hs : fv s 0 = []) : ∀ (t : Pt) (u : Int), 0 ≤ u → fv t (u + 1) = [] → fv (sub 0 s u t) u = []
  | .var n, u, hu, h => by
    have hn : ¬ u + 1 ≤ n := fun hn => by simp only [fv] at h; rw [if_pos hn] at h; cases h
    simp only [sub]
    split
    · exact fv_up _ 0 u (fv_sh u s 0 0 hs (by omega)) hu
    · rw [if_neg (by omega)]
      simp only [fv]
      rw [if_neg (by omega)]
  | .lam n t, u, hu, h => fv_sub s hs t (u + 1) (by omega) h
  | .app n x y, u, hu, h => by
    rw [closed_app] at h
    simp only [sub]
    rw [closed_app]
    exact ⟨fv_sub s hs x u hu h.1, fv_sub s hs y u hu h.2⟩
theorem nx_closed (v : Bool) : ∀ (t : Pt) (r : Nat), fv t 0 = [] → nx v t = some r → fv (red t r) 0 = []
  | .var n, r, _, h => by cases h
  | .lam n x, r, _, h => by cases h
  | .app n x y, r, hc, h => by
    rw [closed_app] at hc
    simp only [nx] at h
    split at h
    · obtain ⟨q, hq, rfl⟩ := Option.map_eq_some_iff.1 h
      have h2 := (nx_rx v x q hq).2
      rw [Nat.add_comm 1 q]
      simp only [red, if_pos h2]
      rw [closed_app]
      exact ⟨nx_closed v x q hc.1 hq, hc.2⟩
    · rename_i hx
      split at h
      · obtain ⟨q, hq, rfl⟩ := Option.map_eq_some_iff.1 h
        rw [show 1 + x.size + q = (x.size + q) + 1 by omega]
        simp only [red, if_neg (show ¬ x.size + q < x.size by omega), show x.size + q - x.size = q by omega]
        rw [closed_app]
        exact ⟨hc.1, nx_closed v y q hc.2 hq⟩
      · cases h
        obtain ⟨n1, z, rfl⟩ := kd_lam (t := x) (by omega)
        simp only [red, Pt.beta]
        exact fv_sub y hc.2 z 0 (by omega) hc.1
theorem ev_nextIn (v : Bool) : ∀ (d : Nat) (t : Pt), t.depth ≤ d → Cl t → t.size ≤ 1000 → ∃ x : Int, EvN (d + 200) 43 [.dat t.d, .dat (B v)] [] [] ([.dat (I x)], [], []) ∧ nxI (nx v t) x
  | 0, t, hd, _, _ => by have := t.depth_pos; omega
  | d + 1, t, hd, hc, hz => by
    cases t with
    | var n => exact hc.var.elim
    | lam n x =>
      refine ⟨-1, ?_, by show (-1 : Int) < 0; decide⟩
      exact ev_fn Go.Proofs.Tryz.f43 (d + 200) (by kernel_rfl) (by kernel_rfl) fun kk hkk => nextIn_no2 kk n _ v
    | app n x y =>
      have hca := hc.app
      simp only [Pt.depth] at hd
      simp only [Pt.size] at hz
      have e : (Pt.app n x y).d = T 3 n [T x.kd x.num (x.kids.map Pt.d), T y.kd y.num (y.kids.map Pt.d)] := by rw [← Pt.d_eq, ← Pt.d_eq]; rfl
      rw [e]
      simp only [nx]
      by_cases hx : x.kd = 2
      · rw [if_neg (by simpa using hx)]
        have kx : (!decide (x.kd = 2)) = false := by rw [decide_eq_true hx]; rfl
        cases v with
        | false =>
          rw [if_neg (fun h => by cases h.1)]
          exact ⟨0, ev_fn Go.Proofs.Tryz.f43 (d + 200) (by kernel_rfl) (by kernel_rfl) fun kk hkk => nextIn_name kk n [T y.kd y.num (y.kids.map Pt.d)] _ _ _ ⟨⟨by decide, by simp; try omega⟩, rfl⟩ kx, rfl⟩
        | true =>
          by_cases hy : y.kd = 2
          · rw [if_neg (fun h => h.2 hy)]
            have ky : (!decide (y.kd = 2)) = false := by rw [decide_eq_true hy]; rfl
            exact ⟨0, ev_fn Go.Proofs.Tryz.f43 (d + 200) (by kernel_rfl) (by kernel_rfl) fun kk hkk => nextIn_here kk n [] _ _ _ _ _ _ ⟨⟨by decide, by simp; try omega⟩, rfl⟩ kx ⟨⟨by decide, by simp; try omega⟩, rfl⟩ ky, rfl⟩
          · rw [if_pos ⟨rfl, hy⟩]
            have ky : (!decide (y.kd = 2)) = true := by rw [decide_eq_false hy]; rfl
            obtain ⟨z, h1, h2⟩ := ev_nextIn true d y (by omega) hca.2.2 (by omega)
            obtain ⟨r, hr⟩ := nx_app true y hca.2.2 hy
            rw [hr] at h2
            have h2 : z = r := h2
            have hlt := (nx_rx true y r hr).2
            refine ⟨((1 + x.size + r : Nat) : Int), ev_fn Go.Proofs.Tryz.f43 (d + 200) (by kernel_rfl) (by kernel_rfl) fun kk hkk => ?_, by rw [hr]; rfl⟩
            have h1 := h1 kk (by omega)
            have hs := ev_size d x (by omega) (by omega) kk (by omega)
            rw [Pt.d_eq y] at h1
            rw [Pt.d_eq x] at hs
            have := nextIn_r kk n _ _ [] _ _ _ _ _ _ ⟨⟨by decide, by simp; try omega⟩, rfl⟩ kx ⟨⟨by decide, by simp; try omega⟩, rfl⟩ ky ⟨⟨by decide, by simp; try omega⟩, rfl⟩ ⟨⟨by decide, by simp; try omega⟩, rfl⟩ hs h1
            rw [this, w64_eq (n := 1 + (x.size : Int)) (by omega), w64_eq (by omega), h2]
            simp only [Int.natCast_add, Int.natCast_one]
      · rw [if_pos hx]
        have kx : (!decide (x.kd = 2)) = true := by rw [decide_eq_false hx]; rfl
        obtain ⟨z, h1, h2⟩ := ev_nextIn v d x (by omega) hca.2.1 (by omega)
        obtain ⟨r, hr⟩ := nx_app v x hca.2.1 hx
        rw [hr] at h2
        have h2 : z = r := h2
        have hlt := (nx_rx v x r hr).2
        refine ⟨((1 + r : Nat) : Int), ev_fn Go.Proofs.Tryz.f43 (d + 200) (by kernel_rfl) (by kernel_rfl) fun kk hkk => ?_, by rw [hr]; rfl⟩
        have h1 := h1 kk (by omega)
        rw [Pt.d_eq x] at h1
        have := nextIn_l kk n _ [T y.kd y.num (y.kids.map Pt.d)] v _ _ _ ⟨⟨by decide, by simp; try omega⟩, rfl⟩ kx ⟨⟨by decide, by simp; try omega⟩, rfl⟩ h1
        rw [this, w64_eq (by omega), h2]
        simp only [Int.natCast_add, Int.natCast_one]
theorem goOn_rounds_n (nx : Pt → Option Nat) (kk : Nat) (hkk : 4000 ≤ kk) (fuel : Nat) (hf : fuel ≤ 1000)
    (P : Pt → Prop) (hnx : ∀ t, P t → t.good = true → ∃ x : Int, den cfg kk 50 [.dat (T t.kd t.num (t.kids.map Pt.d))] [] [] = some ([.dat (I x)], [], []) ∧ nxI (nx t) x)
    (hrx : ∀ t r, P t → t.good = true → nx t = some r → rxAt t r = true ∧ r < t.size) (hP : ∀ t r, P t → t.good = true → nx t = some r → (red t r).good = true → P (red t r)) :
    ∀ (f made : Nat) (t : Pt) (m : Nat) (s : St) (K : X → St → Prop), P t → t.good = true → made + f = fuel → f < m →
    s.norm ((envOf cfg kk 60 Go.Proofs.Tryz.f60).live (firstRegion (lp Go.Proofs.Tryz.f60 3))) = hd102n fuel t.kd t.num (t.kids.map Pt.d) made → K .ret (outI made (goOnP nx f t)) → Rounds (envOf cfg kk 60 Go.Proofs.Tryz.f60) kk (lp Go.Proofs.Tryz.f60 3) m s K := by
  have hround : ∀ (f made : Nat) (t : Pt) (m : Nat) (s : St) (K : X → St → Prop), P t → t.good = true → made + f = fuel →
      s.norm ((envOf cfg kk 60 Go.Proofs.Tryz.f60).live (firstRegion (lp Go.Proofs.Tryz.f60 3))) = hd102n fuel t.kd t.num (t.kids.map Pt.d) made →
      (nx t = none → K .ret (outI made (some (t, 0)))) → (∀ r, nx t = some r → f = 0 → K .ret (outI made none)) → (∀ r, nx t = some r → f ≠ 0 → (red t r).good = false → K .ret (outI made none)) →
      (∀ r, nx t = some r → f ≠ 0 → (red t r).good = true → ∀ s : St, s.norm ((envOf cfg kk 60 Go.Proofs.Tryz.f60).live (firstRegion (lp Go.Proofs.Tryz.f60 3))) = hd102n fuel (red t r).kd (red t r).num ((red t r).kids.map Pt.d) ((made + 1 : Nat) : Int) → Rounds (envOf cfg kk 60 Go.Proofs.Tryz.f60) kk (lp Go.Proofs.Tryz.f60 3) m s K) →
      Rounds (envOf cfg kk 60 Go.Proofs.Tryz.f60) kk (lp Go.Proofs.Tryz.f60 3) (m + 1) s K := by
    intro f made t m s K hPt hg hfm hs k1 k2 k3 k4
    have hsm : small t := good_small hg
    obtain ⟨x, a1, hx⟩ := hnx t hPt hg
    cases hn : nx t with
    | none =>
      rw [hn] at hx
      have hx : x < 0 := hx
      exact goOn_done_n kk m _ _ _ _ _ x hs a1 (decide_eq_true hx) (k1 hn)
    | some r =>
      rw [hn] at hx
      have hx : x = r := hx
      subst hx
      have hlt : decide ((r : Int) < 0) = false := decide_eq_false (by omega)
      by_cases h0 : f = 0
      · exact goOn_stop_n kk m _ _ _ _ _ _ hs a1 hlt (decide_eq_true (by omega)) (k2 r hn h0)
      · obtain ⟨h4, h3⟩ := hrx t r hPt hg hn
        have hz := red_size t r h4 hsm.1
        have a3 := ev_reduceAt 40 t r hsm.2.1 hsm h4 h3 kk (by omega)
        have a4 := ev_good (red t r) (by have := hsm.1; omega) 80 (by have := hsm.2.1; omega) kk (by omega)
        rw [Pt.d_eq t, Pt.d_eq (red t r)] at a3
        rw [Pt.d_eq (red t r)] at a4
        cases hgr : (red t r).good with
        | false =>
          rw [hgr] at a4
          exact goOn_bad_n kk m _ _ _ _ _ _ _ _ _ hs a1 hlt (decide_eq_false (by omega)) a3 a4 (k3 r hn h0 hgr)
        | true =>
          rw [hgr] at a4
          refine goOn_go_n kk m _ _ _ _ _ _ _ _ _ hs a1 hlt (decide_eq_false (by omega)) a3 a4 fun s' hs' => k4 r hn h0 hgr s' ?_
          rw [hs', w64_eq (by omega)]
          rfl
  intro f
  induction f with
  | zero =>
    intro made t m s K hPt hg hfm hm hs hK
    obtain ⟨m, rfl⟩ : ∃ j, m = j + 1 := ⟨m - 1, by omega⟩
    refine hround 0 made t m s K hPt hg hfm hs (fun h => ?_) (fun r h _ => ?_) (fun r h h0 => (h0 rfl).elim) (fun r h h0 => (h0 rfl).elim)
    · unfold goOnP at hK
      rw [h] at hK
      exact hK
    · unfold goOnP at hK
      rw [h] at hK
      exact hK
  | succ f ih =>
    intro made t m s K hPt hg hfm hm hs hK
    obtain ⟨m, rfl⟩ : ∃ j, m = j + 1 := ⟨m - 1, by omega⟩
    refine hround (f + 1) made t m s K hPt hg hfm hs (fun h => ?_) (fun r h h0 => by omega) (fun r h _ hgr => ?_) (fun r h _ hgr s' hs' => ?_)
    · unfold goOnP at hK
      rw [h] at hK
      exact hK
    · unfold goOnP at hK
      rw [h] at hK
      simp only [hgr] at hK
      exact hK
    · refine ih (made + 1) (red t r) m s' K (hP t r hPt hg h hgr) hgr (by omega) (by omega) hs' ?_
      unfold goOnP at hK
      rw [h] at hK
      simp only [hgr, if_true] at hK
      cases hq : goOnP nx f (red t r) with
      | none => rw [hq] at hK; exact hK
      | some q =>
        rw [hq] at hK
        simp only [Option.map_some, outI] at hK
        simp only [outI]
        rw [show made + 1 + q.2 = made + (q.2 + 1) by omega]
        exact hK
theorem goOn_rounds_v (nx : Pt → Option Nat) (kk : Nat) (hkk : 4000 ≤ kk) (fuel : Nat) (hf : fuel ≤ 1000)
    (P : Pt → Prop) (hnx : ∀ t, P t → t.good = true → ∃ x : Int, den cfg kk 17 [.dat (T t.kd t.num (t.kids.map Pt.d))] [] [] = some ([.dat (I x)], [], []) ∧ nxI (nx t) x)
    (hrx : ∀ t r, P t → t.good = true → nx t = some r → rxAt t r = true ∧ r < t.size) (hP : ∀ t r, P t → t.good = true → nx t = some r → (red t r).good = true → P (red t r)) :
    ∀ (f made : Nat) (t : Pt) (m : Nat) (s : St) (K : X → St → Prop), P t → t.good = true → made + f = fuel → f < m →
    s.norm ((envOf cfg kk 60 Go.Proofs.Tryz.f60).live (firstRegion (lp Go.Proofs.Tryz.f60 3))) = hd102v fuel t.kd t.num (t.kids.map Pt.d) made → K .ret (outI made (goOnP nx f t)) → Rounds (envOf cfg kk 60 Go.Proofs.Tryz.f60) kk (lp Go.Proofs.Tryz.f60 3) m s K := by
  have hround : ∀ (f made : Nat) (t : Pt) (m : Nat) (s : St) (K : X → St → Prop), P t → t.good = true → made + f = fuel →
      s.norm ((envOf cfg kk 60 Go.Proofs.Tryz.f60).live (firstRegion (lp Go.Proofs.Tryz.f60 3))) = hd102v fuel t.kd t.num (t.kids.map Pt.d) made →
      (nx t = none → K .ret (outI made (some (t, 0)))) → (∀ r, nx t = some r → f = 0 → K .ret (outI made none)) → (∀ r, nx t = some r → f ≠ 0 → (red t r).good = false → K .ret (outI made none)) →
      (∀ r, nx t = some r → f ≠ 0 → (red t r).good = true → ∀ s : St, s.norm ((envOf cfg kk 60 Go.Proofs.Tryz.f60).live (firstRegion (lp Go.Proofs.Tryz.f60 3))) = hd102v fuel (red t r).kd (red t r).num ((red t r).kids.map Pt.d) ((made + 1 : Nat) : Int) → Rounds (envOf cfg kk 60 Go.Proofs.Tryz.f60) kk (lp Go.Proofs.Tryz.f60 3) m s K) →
      Rounds (envOf cfg kk 60 Go.Proofs.Tryz.f60) kk (lp Go.Proofs.Tryz.f60 3) (m + 1) s K := by
    intro f made t m s K hPt hg hfm hs k1 k2 k3 k4
    have hsm : small t := good_small hg
    obtain ⟨x, a1, hx⟩ := hnx t hPt hg
    cases hn : nx t with
    | none =>
      rw [hn] at hx
      have hx : x < 0 := hx
      exact goOn_done_v kk m _ _ _ _ _ x hs a1 (decide_eq_true hx) (k1 hn)
    | some r =>
      rw [hn] at hx
      have hx : x = r := hx
      subst hx
      have hlt : decide ((r : Int) < 0) = false := decide_eq_false (by omega)
      by_cases h0 : f = 0
      · exact goOn_stop_v kk m _ _ _ _ _ _ hs a1 hlt (decide_eq_true (by omega)) (k2 r hn h0)
      · obtain ⟨h4, h3⟩ := hrx t r hPt hg hn
        have hz := red_size t r h4 hsm.1
        have a3 := ev_reduceAt 40 t r hsm.2.1 hsm h4 h3 kk (by omega)
        have a4 := ev_good (red t r) (by have := hsm.1; omega) 80 (by have := hsm.2.1; omega) kk (by omega)
        rw [Pt.d_eq t, Pt.d_eq (red t r)] at a3
        rw [Pt.d_eq (red t r)] at a4
        cases hgr : (red t r).good with
        | false =>
          rw [hgr] at a4
          exact goOn_bad_v kk m _ _ _ _ _ _ _ _ _ hs a1 hlt (decide_eq_false (by omega)) a3 a4 (k3 r hn h0 hgr)
        | true =>
          rw [hgr] at a4
          refine goOn_go_v kk m _ _ _ _ _ _ _ _ _ hs a1 hlt (decide_eq_false (by omega)) a3 a4 fun s' hs' => k4 r hn h0 hgr s' ?_
          rw [hs', w64_eq (by omega)]
          rfl
  intro f
  induction f with
  | zero =>
    intro made t m s K hPt hg hfm hm hs hK
    obtain ⟨m, rfl⟩ : ∃ j, m = j + 1 := ⟨m - 1, by omega⟩
    refine hround 0 made t m s K hPt hg hfm hs (fun h => ?_) (fun r h _ => ?_) (fun r h h0 => (h0 rfl).elim) (fun r h h0 => (h0 rfl).elim)
    · unfold goOnP at hK
      rw [h] at hK
      exact hK
    · unfold goOnP at hK
      rw [h] at hK
      exact hK
  | succ f ih =>
    intro made t m s K hPt hg hfm hm hs hK
    obtain ⟨m, rfl⟩ : ∃ j, m = j + 1 := ⟨m - 1, by omega⟩
    refine hround (f + 1) made t m s K hPt hg hfm hs (fun h => ?_) (fun r h h0 => by omega) (fun r h _ hgr => ?_) (fun r h _ hgr s' hs' => ?_)
    · unfold goOnP at hK
      rw [h] at hK
      exact hK
    · unfold goOnP at hK
      rw [h] at hK
      simp only [hgr] at hK
      exact hK
    · refine ih (made + 1) (red t r) m s' K (hP t r hPt hg h hgr) hgr (by omega) (by omega) hs' ?_
      unfold goOnP at hK
      rw [h] at hK
      simp only [hgr, if_true] at hK
      cases hq : goOnP nx f (red t r) with
      | none => rw [hq] at hK; exact hK
      | some q =>
        rw [hq] at hK
        simp only [Option.map_some, outI] at hK
        simp only [outI]
        rw [show made + 1 + q.2 = made + (q.2 + 1) by omega]
        exact hK
/-- What both sides come to. -/
def clN (v : Bool) (L : List Nd) (f : Int) : List Nd × Nat × Bool := match closedOfP L with | some _ => goneN (nx v) L f | none => ([], 0, false)
theorem ev_next_n (t : Pt) (hc : fv t 0 = []) (hg : t.good = true) (kk : Nat) (hkk : 500 ≤ kk) : ∃ x : Int, den cfg kk 50 [.dat (T t.kd t.num (t.kids.map Pt.d))] [] [] = some ([.dat (I x)], [], []) ∧ nxI (nx false t) x := by
  have hsm : small t := good_small hg
  obtain ⟨x, h1, h2⟩ := ev_nextIn false 40 t hsm.2.1 ⟨hc, (good_facts hg).2.2⟩ (by have := hsm.1; omega)
  refine ⟨x, ?_, h2⟩
  refine (ev_fn Go.Proofs.Tryz.f50 400 (by kernel_rfl) (by kernel_rfl) fun k2 hk2 => ?_) kk (by omega)
  have h1 := h1 k2 (by omega)
  rw [Pt.d_eq t] at h1
  exact next_n k2 _ _ _ _ h1
theorem ev_goneOn_n (L : List Nd) (b : Bool) (v : Int) (t : Pt) (ht : termOfP L = some t) (hc : fv t 0 = []) (hL : L.length ≤ 1048576) :
    EvN 5900 42 [.dat (.lst b (L.map Nd.d)), .dat (I v), .fn 50 []] [] [] ([.own 46 ((goneN (nx false) L v).1.map Nd.d), .dat (I (goneN (nx false) L v).2.1), .dat (B (goneN (nx false) L v).2.2)], [], []) := by
  refine (ev_fn Go.Proofs.Tryz.f42 5800 (by kernel_rfl) (by kernel_rfl) fun kk hkk => ?_).mono (by omega)
  have a1 := (ev_termOf L b hL).1 t ht kk (by omega)
  have hin := ev_isFuel v kk (by omega)
  have hgt := ((termOfP_iff L t).1 ht).1
  unfold goneN
  rw [ht]
  rw [Pt.d_eq] at a1
  simp only
  cases hk : (decide (0 ≤ v) && decide (v ≤ 1000)) with
  | false =>
    rw [hk] at hin
    rw [if_neg (fun h => by simp [h.1, h.2] at hk)]
    exact goneOn_no2_n kk b _ v _ _ _ a1 hin
  | true =>
    rw [hk] at hin
    have hk' : 0 ≤ v ∧ v ≤ 1000 := by simpa using hk
    rw [if_pos hk']
    obtain ⟨fu, rfl⟩ : ∃ fu : Nat, v = fu := ⟨v.toNat, by omega⟩
    rw [show ((fu : Int)).toNat = fu by simp]
    have hloop : ∀ k2, 5000 ≤ k2 → LoopAt cfg k2 60 Go.Proofs.Tryz.f60 3 (hd102n fu t.kd t.num (t.kids.map Pt.d) 0) X.ret (outI 0 (goOnP (nx false) fu t)) := fun k2 hk2 => loopOb_of fun s hs =>
      goOn_rounds_n (nx false) k2 (by omega) fu (by omega) (fun t => fv t 0 = []) (fun t hc hg => ev_next_n t hc hg k2 (by omega)) (fun t r _ _ h => nx_rx false t r h) (fun t r hc _ h _ => nx_closed false t r hc h) fu 0 t k2 s _ hc hgt (by omega) (by omega) hs ⟨rfl, rfl⟩
    cases hq : goOnP (nx false) fu t with
    | none =>
      rw [hq] at hloop
      refine goneOn_no3_n kk b _ _ _ _ 0 0 0 _ [] a1 hin ?_
      refine (ev_fn Go.Proofs.Tryz.f60 5000 (by kernel_rfl) (by kernel_rfl) fun k2 hk2 => ?_) kk (by omega)
      exact goOn_n_n k2 _ _ _ 0 _ false (hloop k2 hk2)
    | some q =>
      rw [hq] at hloop
      have hgq := good_small (goOnP_good hgt hq).1
      have a5 := ev_nodes q.1 (by omega) kk (by omega)
      rw [Pt.d_eq q.1] at a5
      refine goneOn_go_n kk b _ _ _ _ _ _ _ _ _ _ a1 hin ?_ a5
      refine (ev_fn Go.Proofs.Tryz.f60 5000 (by kernel_rfl) (by kernel_rfl) fun k2 hk2 => ?_) kk (by omega)
      have hl := hloop k2 hk2
      simp only [outI, Nat.zero_add] at hl
      exact goOn_y_n k2 _ _ _ _ _ _ _ _ true hl
theorem ev_iHead (L : List Nd) (b : Bool) (v : Int) (hL : L.length ≤ 1048576) : EvN 7000 25 [.dat (.lst b (L.map Nd.d)), .dat (I v)] [] [] ([.own 46 ((clN false L v).1.map Nd.d), .dat (I (clN false L v).2.1), .dat (B (clN false L v).2.2)], [], []) := by
  refine (ev_fn Go.Proofs.Tryz.f25 6900 (by kernel_rfl) (by kernel_rfl) fun k1 hk1 => ?_).mono (by omega)
  refine iRun_n k1 b _ v _ _ _ ?_
  refine (ev_fn Go.Proofs.Tryz.f16 6800 (by kernel_rfl) (by kernel_rfl) fun kk hkk => ?_) k1 (by omega)
  obtain ⟨k, n, ds, e, he⟩ := ev_closedOf_any L b hL
  have e := e kk (by omega)
  unfold clN
  cases hc : closedOfP L with
  | none => rw [hc] at e; exact closedOn_no_n kk b _ v _ _ _ e
  | some t =>
    rw [hc] at e
    have h2 := closedOfP_some hc
    exact closedOn_go_n kk b _ v _ _ _ _ _ _ e (ev_goneOn_n L b v t h2.1 ((closedP_iff t).1 h2.2) hL kk (by omega))
theorem ev_next_v (t : Pt) (hc : fv t 0 = []) (hg : t.good = true) (kk : Nat) (hkk : 500 ≤ kk) : ∃ x : Int, den cfg kk 17 [.dat (T t.kd t.num (t.kids.map Pt.d))] [] [] = some ([.dat (I x)], [], []) ∧ nxI (nx true t) x := by
  have hsm : small t := good_small hg
  obtain ⟨x, h1, h2⟩ := ev_nextIn true 40 t hsm.2.1 ⟨hc, (good_facts hg).2.2⟩ (by have := hsm.1; omega)
  refine ⟨x, ?_, h2⟩
  refine (ev_fn Go.Proofs.Tryz.f17 400 (by kernel_rfl) (by kernel_rfl) fun k2 hk2 => ?_) kk (by omega)
  have h1 := h1 k2 (by omega)
  rw [Pt.d_eq t] at h1
  exact next_v k2 _ _ _ _ h1
theorem ev_goneOn_v (L : List Nd) (b : Bool) (v : Int) (t : Pt) (ht : termOfP L = some t) (hc : fv t 0 = []) (hL : L.length ≤ 1048576) :
    EvN 5900 42 [.dat (.lst b (L.map Nd.d)), .dat (I v), .fn 17 []] [] [] ([.own 46 ((goneN (nx true) L v).1.map Nd.d), .dat (I (goneN (nx true) L v).2.1), .dat (B (goneN (nx true) L v).2.2)], [], []) := by
  refine (ev_fn Go.Proofs.Tryz.f42 5800 (by kernel_rfl) (by kernel_rfl) fun kk hkk => ?_).mono (by omega)
  have a1 := (ev_termOf L b hL).1 t ht kk (by omega)
  have hin := ev_isFuel v kk (by omega)
  have hgt := ((termOfP_iff L t).1 ht).1
  unfold goneN
  rw [ht]
  rw [Pt.d_eq] at a1
  simp only
  cases hk : (decide (0 ≤ v) && decide (v ≤ 1000)) with
  | false =>
    rw [hk] at hin
    rw [if_neg (fun h => by simp [h.1, h.2] at hk)]
    exact goneOn_no2_v kk b _ v _ _ _ a1 hin
  | true =>
    rw [hk] at hin
    have hk' : 0 ≤ v ∧ v ≤ 1000 := by simpa using hk
    rw [if_pos hk']
    obtain ⟨fu, rfl⟩ : ∃ fu : Nat, v = fu := ⟨v.toNat, by omega⟩
    rw [show ((fu : Int)).toNat = fu by simp]
    have hloop : ∀ k2, 5000 ≤ k2 → LoopAt cfg k2 60 Go.Proofs.Tryz.f60 3 (hd102v fu t.kd t.num (t.kids.map Pt.d) 0) X.ret (outI 0 (goOnP (nx true) fu t)) := fun k2 hk2 => loopOb_of fun s hs =>
      goOn_rounds_v (nx true) k2 (by omega) fu (by omega) (fun t => fv t 0 = []) (fun t hc hg => ev_next_v t hc hg k2 (by omega)) (fun t r _ _ h => nx_rx true t r h) (fun t r hc _ h _ => nx_closed true t r hc h) fu 0 t k2 s _ hc hgt (by omega) (by omega) hs ⟨rfl, rfl⟩
    cases hq : goOnP (nx true) fu t with
    | none =>
      rw [hq] at hloop
      refine goneOn_no3_v kk b _ _ _ _ 0 0 0 _ [] a1 hin ?_
      refine (ev_fn Go.Proofs.Tryz.f60 5000 (by kernel_rfl) (by kernel_rfl) fun k2 hk2 => ?_) kk (by omega)
      exact goOn_n_v k2 _ _ _ 0 _ false (hloop k2 hk2)
    | some q =>
      rw [hq] at hloop
      have hgq := good_small (goOnP_good hgt hq).1
      have a5 := ev_nodes q.1 (by omega) kk (by omega)
      rw [Pt.d_eq q.1] at a5
      refine goneOn_go_v kk b _ _ _ _ _ _ _ _ _ _ a1 hin ?_ a5
      refine (ev_fn Go.Proofs.Tryz.f60 5000 (by kernel_rfl) (by kernel_rfl) fun k2 hk2 => ?_) kk (by omega)
      have hl := hloop k2 hk2
      simp only [outI, Nat.zero_add] at hl
      exact goOn_y_v k2 _ _ _ _ _ _ _ _ true hl
theorem ev_iValue (L : List Nd) (b : Bool) (v : Int) (hL : L.length ≤ 1048576) : EvN 7000 5 [.dat (.lst b (L.map Nd.d)), .dat (I v)] [] [] ([.own 46 ((clN true L v).1.map Nd.d), .dat (I (clN true L v).2.1), .dat (B (clN true L v).2.2)], [], []) := by
  refine (ev_fn Go.Proofs.Tryz.f5 6900 (by kernel_rfl) (by kernel_rfl) fun k1 hk1 => ?_).mono (by omega)
  refine iRun_v k1 b _ v _ _ _ ?_
  refine (ev_fn Go.Proofs.Tryz.f16 6800 (by kernel_rfl) (by kernel_rfl) fun kk hkk => ?_) k1 (by omega)
  obtain ⟨k, n, ds, e, he⟩ := ev_closedOf_any L b hL
  have e := e kk (by omega)
  unfold clN
  cases hc : closedOfP L with
  | none => rw [hc] at e; exact closedOn_no_v kk b _ v _ _ _ e
  | some t =>
    rw [hc] at e
    have h2 := closedOfP_some hc
    exact closedOn_go_v kk b _ v _ _ _ _ _ _ e (ev_goneOn_v L b v t h2.1 ((closedP_iff t).1 h2.2) hL kk (by omega))
theorem ev_lfStep (v : Bool) : ∀ (d : Nat) (t : Pt), t.depth ≤ d → Cl t → small t →
    (∀ r, nx v t = some r → EvN (d + 2200) 53 [.dat t.d, .dat (B v)] [] [] ([.dat (red t r).d, .dat (B true)], [], [])) ∧
    (nx v t = none → EvN (d + 2200) 53 [.dat t.d, .dat (B v)] [] [] ([.dat t.d, .dat (B false)], [], []))
  | 0, t, hd, _, _ => by have := t.depth_pos; omega
  | d + 1, t, hd, hc, hs => by
    cases t with
    | var n => exact hc.var.elim
    | lam n x =>
      refine ⟨fun r h => (by cases h), fun _ => ?_⟩
      exact ev_fn Go.Proofs.Tryz.f53 (d + 2200) (by kernel_rfl) (by kernel_rfl) fun kk hkk => lfStep_no2 kk n _ v
    | app n x y =>
      have hca := hc.app
      obtain ⟨rfl, hcx, hcy⟩ := hca
      simp only [Pt.depth] at hd
      have hsx := small_kid hs (x := x) (by simp [Pt.kids])
      have hsy := small_kid hs (x := y) (by simp [Pt.kids])
      have ihx := ev_lfStep v d x (by omega) hcx hsx
      have ihy := ev_lfStep v d y (by omega) hcy hsy
      have e : (Pt.app 0 x y).d = T 3 0 [T x.kd x.num (x.kids.map Pt.d), T y.kd y.num (y.kids.map Pt.d)] := by rw [← Pt.d_eq, ← Pt.d_eq]; rfl
      refine ⟨fun r hr => ?_, fun hn => ?_⟩
      · refine ev_fn Go.Proofs.Tryz.f53 (d + 2200) (by kernel_rfl) (by kernel_rfl) fun kk hkk => ?_
        rw [e]
        have hg1 : ((0 : Int) ≤ 0 ∧ 0 < (([T x.kd x.num (x.kids.map Pt.d), T y.kd y.num (y.kids.map Pt.d)] : List Dat).length : Int)) ∧ some (T x.kd x.num (x.kids.map Pt.d)) = some (T x.kd x.num (x.kids.map Pt.d)) := ⟨⟨by decide, by simp⟩, rfl⟩
        have hg2 : ((0 : Int) ≤ 1 ∧ 1 < (([T x.kd x.num (x.kids.map Pt.d), T y.kd y.num (y.kids.map Pt.d)] : List Dat).length : Int)) ∧ some (T y.kd y.num (y.kids.map Pt.d)) = some (T y.kd y.num (y.kids.map Pt.d)) := ⟨⟨by decide, by simp⟩, rfl⟩
        simp only [nx] at hr
        by_cases hx : x.kd = 2
        · rw [if_neg (by simpa using hx)] at hr
          have h1 := ihx.2 (nx_lam v hx) kk (by omega)
          rw [Pt.d_eq x] at h1
          obtain ⟨n1, z, rfl⟩ := kd_lam hx
          have hbeta := ev_lcBeta false 0 n1 z y hsx.2.2 hsy.2.2 (by have := hsx.2.1; simp only [Pt.depth] at this; omega) (by have := hsy.2.1; omega) kk (by omega)
          have hbeta : den cfg kk 70 [.dat (Dat.agg [I 3, I 0, Dat.lst false [T (Pt.lam n1 z).kd (Pt.lam n1 z).num ((Pt.lam n1 z).kids.map Pt.d), T y.kd y.num (y.kids.map Pt.d)]])] [] [] = some ([.dat (sub 0 y 0 z).d], [], []) := by
            rw [← Pt.d_eq, ← Pt.d_eq]
            exact hbeta
          rw [Pt.d_eq (sub 0 y 0 z)] at hbeta
          cases v with
          | false =>
            rw [if_neg (fun h => by cases h.1)] at hr
            cases hr
            have hres : (red (.app 0 (.lam n1 z) y) 0).d = T (sub 0 y 0 z).kd (sub 0 y 0 z).num ((sub 0 y 0 z).kids.map Pt.d) := by rw [← Pt.d_eq]; rfl
            rw [hres]
            exact lfStep_name kk 0 [] _ _ _ _ _ _ _ _ _ _ _ _ hg1 hg2 h1 hbeta
          | true =>
            by_cases hy : y.kd = 2
            · rw [if_neg (fun h => h.2 hy)] at hr
              cases hr
              have h2 := ihy.2 (nx_lam true hy) kk (by omega)
              rw [Pt.d_eq y] at h2
              have hres : (red (.app 0 (.lam n1 z) y) 0).d = T (sub 0 y 0 z).kd (sub 0 y 0 z).num ((sub 0 y 0 z).kids.map Pt.d) := by rw [← Pt.d_eq]; rfl
              rw [hres]
              exact lfStep_val kk 0 [] _ _ _ _ _ _ _ _ _ _ _ _ _ _ _ hg1 hg2 h1 h2 hbeta
            · rw [if_pos ⟨rfl, hy⟩] at hr
              obtain ⟨q, hq, rfl⟩ := Option.map_eq_some_iff.1 hr
              have h2 := ihy.1 q hq kk (by omega)
              have h3 := ev_lcApp (.lam n1 z) (red y q) kk (by omega)
              rw [Pt.d_eq y, Pt.d_eq (red y q)] at h2
              rw [Pt.d_eq (.lam n1 z), Pt.d_eq (red y q), Pt.d_eq (Pt.app 0 (.lam n1 z) (red y q))] at h3
              have hres : red (.app 0 (.lam n1 z) y) (1 + (Pt.lam n1 z).size + q) = .app 0 (.lam n1 z) (red y q) := by
                rw [show 1 + (Pt.lam n1 z).size + q = ((Pt.lam n1 z).size + q) + 1 by omega]
                simp only [red, if_neg (show ¬ (Pt.lam n1 z).size + q < (Pt.lam n1 z).size by omega), show (Pt.lam n1 z).size + q - (Pt.lam n1 z).size = q by omega]
              rw [hres, Pt.d_eq (Pt.app 0 (.lam n1 z) (red y q))]
              exact lfStep_snd kk 0 [] _ _ _ _ _ _ _ _ _ _ _ _ _ _ _ hg1 hg2 h1 h2 h3
        · rw [if_pos hx] at hr
          obtain ⟨q, hq, rfl⟩ := Option.map_eq_some_iff.1 hr
          have hlt := (nx_rx v x q hq).2
          have h1 := ihx.1 q hq kk (by omega)
          have h3 := ev_lcApp (red x q) y kk (by omega)
          rw [Pt.d_eq x, Pt.d_eq (red x q)] at h1
          rw [Pt.d_eq (red x q), Pt.d_eq y, Pt.d_eq (Pt.app 0 (red x q) y)] at h3
          have hres : red (.app 0 x y) (1 + q) = .app 0 (red x q) y := by
            rw [Nat.add_comm 1 q]
            simp only [red, if_pos hlt]
          rw [hres, Pt.d_eq (Pt.app 0 (red x q) y)]
          exact lfStep_fst kk 0 [] _ _ _ _ _ _ _ _ _ v _ _ _ hg1 hg2 h1 h3
      · obtain ⟨r, hr⟩ := nx_app v (.app 0 x y) hc (by simp [Pt.kd])
        rw [hn] at hr
        cases hr
/-- What the reference's loop leaves. -/
def outR (made : Nat) (t : Pt) : Option (Pt × Nat) → St
  | some q => Nm [6, 7, 8] [.ptr (.loc 6) 0, .dat (I ((made + q.2 : Nat) : Int)), .dat (B true)] [some [.dat (I q.1.kd), .dat (I q.1.num), .dat (.lst false (q.1.kids.map Pt.d))], none, none] [] []
  | none => Nm [6, 7, 8] [.ptr (.loc 6) 0, .dat (I 0), .dat (B false)] [some [.dat (I t.kd), .dat (I t.num), .dat (.lst false (t.kids.map Pt.d))], none, none] [] []
/-- The term at which it stops. -/
def lastP (nx : Pt → Option Nat) : Nat → Pt → Pt
  | 0, t => t
  | f + 1, t => match nx t with | none => t | some r => if (red t r).good = true then lastP nx f (red t r) else t
theorem lfRun_rounds (v : Bool) (kk : Nat) (hkk : 1002000 ≤ kk) (fuel : Nat) (hf : fuel ≤ 1000) :
    ∀ (f made : Nat) (t : Pt) (m : Nat) (s : St) (K : X → St → Prop), fv t 0 = [] → t.good = true → made + f = fuel → f < m →
    s.norm ((envOf cfg kk 33 Go.Proofs.Tryz.f33).live (firstRegion (lp Go.Proofs.Tryz.f33 3))) = hd85 fuel t.kd t.num made (t.kids.map Pt.d) v → K .ret (outR made (lastP (nx v) f t) (goOnP (nx v) f t)) → Rounds (envOf cfg kk 33 Go.Proofs.Tryz.f33) kk (lp Go.Proofs.Tryz.f33 3) m s K := by
  intro f
  induction f with
  | zero =>
    intro made t m s K hc hg hfm hm hs hK
    obtain ⟨m, rfl⟩ : ∃ j, m = j + 1 := ⟨m - 1, by omega⟩
    have hsm : small t := good_small hg
    have hst := ev_lfStep v 40 t hsm.2.1 ⟨hc, (good_facts hg).2.2⟩ hsm
    unfold goOnP lastP at hK
    cases hn : nx v t with
    | none =>
      rw [hn] at hK
      have a := hst.2 hn kk (by omega)
      rw [Pt.d_eq t] at a
      exact lfRun_done kk m _ _ _ _ _ _ _ _ _ hs a hK
    | some r =>
      rw [hn] at hK
      have a := hst.1 r hn kk (by omega)
      rw [Pt.d_eq t, Pt.d_eq (red t r)] at a
      exact lfRun_stop kk m _ _ _ _ _ _ _ _ _ hs a (decide_eq_true (by omega)) hK
  | succ f ih =>
    intro made t m s K hc hg hfm hm hs hK
    obtain ⟨m, rfl⟩ : ∃ j, m = j + 1 := ⟨m - 1, by omega⟩
    have hsm : small t := good_small hg
    have hst := ev_lfStep v 40 t hsm.2.1 ⟨hc, (good_facts hg).2.2⟩ hsm
    unfold goOnP lastP at hK
    cases hn : nx v t with
    | none =>
      rw [hn] at hK
      have a := hst.2 hn kk (by omega)
      rw [Pt.d_eq t] at a
      exact lfRun_done kk m _ _ _ _ _ _ _ _ _ hs a hK
    | some r =>
      rw [hn] at hK
      have a := hst.1 r hn kk (by omega)
      have hrx := nx_rx v t r hn
      have hz := red_size t r hrx.1 hsm.1
      have a2 := ev_lcFine false (red t r) (by have := hsm.1; omega) kk (by have := hsm.2.1; omega)
      rw [← Pt.d_db] at a2
      rw [Pt.d_eq t, Pt.d_eq (red t r)] at a
      rw [Pt.d_eq (red t r)] at a2
      cases hgr : (red t r).good with
      | false =>
        rw [hgr] at a2
        simp only [hgr] at hK
        exact lfRun_bad kk m _ _ _ _ _ _ _ _ _ hs a (decide_eq_false (by omega)) a2 hK
      | true =>
        rw [hgr] at a2
        simp only [hgr, if_true] at hK
        refine lfRun_go kk m _ _ _ _ _ _ _ _ _ hs a (decide_eq_false (by omega)) a2 fun s' hs' => ih (made + 1) (red t r) m s' K (nx_closed v t r hc hn) hgr (by omega) (by omega) ?_ ?_
        · rw [hs', w64_eq (by omega)]
          rfl
        · cases hq : goOnP (nx v) f (red t r) with
          | none => rw [hq] at hK; exact hK
          | some q =>
            rw [hq] at hK
            simp only [Option.map_some, outR] at hK
            simp only [outR]
            rw [show made + 1 + q.2 = made + (q.2 + 1) by omega]
            exact hK
theorem ev_lfRun (v : Bool) (t : Pt) (fu : Nat) (hf : fu ≤ 1000) (hc : fv t 0 = []) (hg : t.good = true) :
    (∀ q, goOnP (nx v) fu t = some q → EvN 1002500 33 [.dat t.d, .dat (I fu), .dat (B v)] [] [] ([.dat q.1.d, .dat (I q.2), .dat (B true)], [], [])) ∧
    (goOnP (nx v) fu t = none → EvN 1002500 33 [.dat t.d, .dat (I fu), .dat (B v)] [] [] ([.dat (lastP (nx v) fu t).d, .dat (I 0), .dat (B false)], [], [])) := by
  refine ⟨fun q hq => ?_, fun hq => ?_⟩
  · refine (ev_fn Go.Proofs.Tryz.f33 1002400 (by kernel_rfl) (by kernel_rfl) fun kk hkk => ?_).mono (by omega)
    rw [Pt.d_eq t, Pt.d_eq q.1]
    refine lfRun kk _ _ v true _ _ _ _ _ _ (loopOb_of fun s hs => lfRun_rounds v kk (by omega) fu hf fu 0 t kk s _ hc hg (by omega) (by omega) hs ?_)
    rw [hq]
    simp only [outR, Nat.zero_add]
    exact ⟨trivial, trivial⟩
  · refine (ev_fn Go.Proofs.Tryz.f33 1002400 (by kernel_rfl) (by kernel_rfl) fun kk hkk => ?_).mono (by omega)
    rw [Pt.d_eq t, Pt.d_eq (lastP (nx v) fu t)]
    refine lfRun kk _ _ v false _ _ _ _ _ _ (loopOb_of fun s hs => lfRun_rounds v kk (by omega) fu hf fu 0 t kk s _ hc hg (by omega) (by omega) hs ?_)
    rw [hq]
    exact ⟨rfl, rfl⟩
theorem ev_lfTold (v : Bool) (L : List Nd) (b : Bool) (f : Int) (hL : L.length ≤ 1048576) : EvN 1003000 18 [.dat (.lst b (L.map Nd.d)), .dat (I f), .dat (B v)] [] [] ([.own 46 ((clN v L f).1.map Nd.d), .dat (I (clN v L f).2.1), .dat (B (clN v L f).2.2)], [], []) := by
  refine (ev_fn Go.Proofs.Tryz.f18 1002900 (by kernel_rfl) (by kernel_rfl) fun kk hkk => ?_).mono (by omega)
  have a1 := ev_lfClosed L b hL kk (by omega)
  have hin := ev_l1In f 0 1000 kk (by omega)
  unfold clN
  cases hc : closedOfP L with
  | none => rw [hc] at a1; exact lfTold_no1 kk b _ f v a1
  | some t =>
    rw [hc] at a1
    have hcs := closedOfP_some hc
    have hg := closedOfP_good hc
    simp only
    unfold goneN
    rw [hcs.1]
    simp only
    cases hk : (decide (0 ≤ f) && decide (f ≤ 1000)) with
    | false =>
      rw [hk] at hin
      rw [if_neg (fun h => by simp [h.1, h.2] at hk)]
      exact lfTold_no2 kk b _ f v a1 hin
    | true =>
      rw [hk] at hin
      have hk' : 0 ≤ f ∧ f ≤ 1000 := by simpa using hk
      rw [if_pos hk']
      obtain ⟨fu, rfl⟩ : ∃ fu : Nat, f = fu := ⟨f.toNat, by omega⟩
      rw [show ((fu : Int)).toNat = fu by simp]
      have a2 := ev_tree b hcs.1 kk (by omega)
      obtain ⟨h1, h2⟩ := ev_lfRun v t fu (by omega) ((closedP_iff t).1 hcs.2) hg
      rw [Pt.d_eq t] at a2
      cases hq : goOnP (nx v) fu t with
      | none =>
        have a3 := h2 hq kk (by omega)
        rw [Pt.d_eq t, Pt.d_eq (lastP (nx v) fu t)] at a3
        exact lfTold_no3 kk b _ _ v _ _ _ _ _ _ _ a1 hin a2 a3
      | some q =>
        have a3 := h1 q hq kk (by omega)
        have hgq := (goOnP_good hg hq).1
        have hsq := good_small hgq
        have a4 := ev_lcTold q.1 (by omega) kk (by omega)
        rw [hgq, if_pos rfl] at a4
        rw [Pt.d_eq t, Pt.d_eq q.1] at a3
        rw [Pt.d_eq q.1] at a4
        exact lfTold_go kk b _ _ v _ _ _ _ _ _ _ _ _ a1 hin a2 a3 a4
theorem ev_sValue (L : List Nd) (b : Bool) (f : Int) (hL : L.length ≤ 1048576) : EvN 1004000 6 [.dat (.lst b (L.map Nd.d)), .dat (I f)] [] [] ([.own 46 ((clN true L f).1.map Nd.d), .dat (I (clN true L f).2.1), .dat (B (clN true L f).2.2)], [], []) :=
  (ev_fn Go.Proofs.Tryz.f6 1003500 (by kernel_rfl) (by kernel_rfl) fun kk hkk => sRun_v kk b _ f _ _ _ (ev_lfTold true L b f hL kk (by omega))).mono (by omega)
theorem own_clean3 (L : List Nd) (n : Int) (r : Bool) : D.cleans [.own 46 (L.map Nd.d), .dat (I n), .dat (B r)] = true := by
  simp only [D.cleans, D.clean, nds_clean]
  rfl
end Go.Den
namespace Go.Den
open Go
set_option linter.unusedVariables false
set_option maxRecDepth 100000
theorem fv_shift (b : Int) (hb : 0 ≤ b) : ∀ (s : Pt) (a f : Int), fv s a = [] → fv (sh b f s) (a + b) = []
  | .var n, a, f, h => by
    have hn : ¬ a ≤ n := fun hn => by simp only [fv] at h; rw [if_pos hn] at h; cases h
    simp only [sh]
    split
    · simp only [fv]; rw [if_neg (by omega)]
    · simp only [fv]; rw [if_neg (by omega)]
  | .lam n t, a, f, h => by
    have := fv_shift b hb t (a + 1) (f + 1) h
    simp only [sh, fv]
    rw [show a + b + 1 = a + 1 + b by omega]
    exact this
  | .app n x y, a, f, h => by
    rw [closed_app] at h
    simp only [sh]
    rw [closed_app]
    exact ⟨fv_shift b hb x a f h.1, fv_shift b hb y a f h.2⟩
theorem passT_closed : ∀ (t : Pt) (a : Int), 0 ≤ a → fv t a = [] → fv (passT t) a = []
  | .var n, a, ha, h => by
    have hn : ¬ a ≤ n := fun hn => by simp only [fv] at h; rw [if_pos hn] at h; cases h
    simp only [passT, fv]
    rw [if_neg (by omega), if_neg (by omega)]
    rfl
  | .lam n x, a, ha, h => by
    have ih := passT_closed x (a + 1) (by omega) h
    have h2 : fv (sh 1 0 (.lam 0 (passT x))) (a + 1) = [] := fv_shift 1 (by omega) (.lam 0 (passT x)) a 0 ih
    simp only [passT]
    show fv (.app 0 (.var 0) (sh 1 0 (.lam 0 (passT x)))) (a + 1) = []
    rw [closed_app]
    refine ⟨?_, h2⟩
    simp only [fv]
    rw [if_neg (by omega)]
  | .app n x y, a, ha, h => by
    rw [closed_app] at h
    have h1 := fv_shift 1 (by omega) (passT x) a 0 (passT_closed x a ha h.1)
    have h2 := fv_shift 2 (by omega) (passT y) a 0 (passT_closed y a ha h.2)
    simp only [passT]
    show fv (.app 0 (sh 1 0 (passT x)) (.lam 0 (.app 0 (sh 2 0 (passT y)) (.lam 0 (.app 0 (.app 0 (.var 1) (.var 0)) (.var 2)))))) (a + 1) = []
    rw [closed_app]
    refine ⟨h1, ?_⟩
    show fv (.app 0 (sh 2 0 (passT y)) (.lam 0 (.app 0 (.app 0 (.var 1) (.var 0)) (.var 2)))) (a + 1 + 1) = []
    rw [closed_app, show a + 1 + 1 = a + 2 by omega]
    refine ⟨h2, ?_⟩
    simp only [fv]
    rw [if_neg (by omega), if_neg (by omega), if_neg (by omega)]
    rfl
/-- A passed term with what is to be done then. -/
def whole (t : Pt) : Pt := .app 0 (passT t) (.lam 0 (.var 0))
theorem whole_closed {t : Pt} (h : fv t 0 = []) : fv (whole t) 0 = [] := by
  unfold whole
  rw [closed_app]
  exact ⟨passT_closed t 0 (by omega) h, rfl⟩
def runT (t : Pt) (f : Int) : List Nd × Bool :=
  if (passT t).good = true then (if (whole t).good = true then (if 0 ≤ f ∧ f ≤ 1000 then (match goOnP (nx false) f.toNat (whole t) with | some q => (q.1.flat 0 (-1), true) | none => ([], false)) else ([], false)) else ([], false)) else ([], false)
def runN (L : List Nd) (f : Int) : List Nd × Bool := match closedOfP L with | some t => runT t f | none => ([], false)
theorem runN_len (L : List Nd) (f : Int) : (runN L f).1.length ≤ 150 := by
  unfold runN
  split
  · unfold runT
    split
    · split
      · rename_i hw
        split
        · split
          · rename_i q hq
            rw [Pt.flat_length]
            exact (good_small (goOnP_good hw hq).1).1
          · simp
        · simp
      · simp
    · simp
  · simp
theorem termOfP_flat {t : Pt} (h : t.good = true) : termOfP (t.flat 0 (-1)) = some t := (termOfP_iff _ t).2 ⟨h, rfl⟩
theorem closedOfP_flat {t : Pt} (h : t.good = true) (hc : fv t 0 = []) : closedOfP (t.flat 0 (-1)) = some t := by
  unfold closedOfP
  rw [termOfP_flat h]
  simp only [Option.bind_some]
  rw [if_pos ((closedP_iff t).2 hc)]
theorem ev_sRunP (L : List Nd) (b : Bool) (f : Int) (hL : L.length ≤ 1048576) : EvN 1005000 10 [.dat (.lst b (L.map Nd.d)), .dat (I f)] [] [] ([.own 46 ((runN L f).1.map Nd.d), .dat (B (runN L f).2)], [], []) := by
  refine (ev_fn Go.Proofs.Tryz.f10 1004500 (by kernel_rfl) (by kernel_rfl) fun kk hkk => ?_).mono (by omega)
  have a1 := ev_sPass L b hL kk (by omega)
  have hin := ev_l1In f 0 1000 kk (by omega)
  unfold runN
  unfold passN at a1
  cases hc : closedOfP L with
  | none => rw [hc] at a1; exact sRp_no1 kk b _ _ _ a1
  | some t =>
    rw [hc] at a1
    simp only
    have hcl := (closedP_iff t).1 (closedOfP_some hc).2
    have hg := closedOfP_good hc
    have hz := passT_size t
    have hsm := good_small hg
    unfold runT
    unfold told at a1
    simp only at a1
    cases hp : (passT t).good with
    | false =>
      rw [hp] at a1
      exact sRp_no1 kk b _ _ _ a1
    | true =>
      rw [hp, if_pos rfl] at a1
      rw [if_pos rfl]
      have a2 := ev_tree true (termOfP_flat hp) kk (by omega)
      have v0 := ev_lcVar 0 kk (by omega)
      have l0 := ev_lcLam (.var 0) kk (by omega)
      have a3 := ev_lcApp (passT t) (.lam 0 (.var 0)) kk (by omega)
      have a4 := ev_lcFine false (whole t) (by simp only [whole, Pt.size]; omega) kk (by simp only [whole, Pt.depth]; omega)
      rw [← Pt.d_db] at a4
      rw [Pt.d_eq (passT t)] at a2 a3
      have a3 : den cfg kk 27 [.dat (T (passT t).kd (passT t).num ((passT t).kids.map Pt.d)), .dat (Pt.lam 0 (.var 0)).d] [] [] = some ([.dat (whole t).d], [], []) := a3
      rw [Pt.d_eq (whole t)] at a3 a4
      cases hw : (whole t).good with
      | false =>
        rw [hw] at a4
        exact sRp_no2 kk b _ _ _ _ _ _ _ _ _ _ _ _ _ _ _ a1 (clean1 (passT t)) a2 v0 l0 a3 a4
      | true =>
        rw [hw] at a4
        rw [if_pos rfl]
        cases hk : (decide (0 ≤ f) && decide (f ≤ 1000)) with
        | false =>
          rw [hk] at hin
          rw [if_neg (fun h => by simp [h.1, h.2] at hk)]
          exact sRp_no3 kk b _ _ _ _ _ _ _ _ _ _ _ _ _ _ _ a1 (clean1 (passT t)) a2 v0 l0 a3 a4 hin
        | true =>
          rw [hk] at hin
          have hk' : 0 ≤ f ∧ f ≤ 1000 := by simpa using hk
          rw [if_pos hk']
          obtain ⟨fu, rfl⟩ : ∃ fu : Nat, f = fu := ⟨f.toNat, by omega⟩
          rw [show ((fu : Int)).toNat = fu by simp]
          obtain ⟨h1, h2⟩ := ev_lfRun false (whole t) fu (by omega) (whole_closed hcl) hw
          cases hq : goOnP (nx false) fu (whole t) with
          | none =>
            have a5 := h2 hq kk (by omega)
            rw [Pt.d_eq (whole t), Pt.d_eq (lastP (nx false) fu (whole t))] at a5
            exact sRp_no4 kk b _ _ _ _ _ _ _ _ _ _ _ _ _ _ _ _ _ _ _ a1 (clean1 (passT t)) a2 v0 l0 a3 a4 hin a5
          | some q =>
            have a5 := h1 q hq kk (by omega)
            have hgq := (goOnP_good hw hq).1
            have hsq := good_small hgq
            have a6 := ev_lcTold q.1 (by omega) kk (by omega)
            rw [hgq, if_pos rfl] at a6
            rw [Pt.d_eq (whole t), Pt.d_eq q.1] at a5
            rw [Pt.d_eq q.1] at a6
            exact sRp_go kk b _ _ _ _ _ _ _ _ _ _ _ _ _ _ _ _ _ _ _ _ _ a1 (clean1 (passT t)) a2 v0 l0 a3 a4 hin a5 a6
theorem ev_iRunP (L : List Nd) (b : Bool) (f : Int) (hL : L.length ≤ 1048576) : EvN 9000 9 [.dat (.lst b (L.map Nd.d)), .dat (I f)] [] [] ([.own 46 ((runN L f).1.map Nd.d), .dat (B (runN L f).2)], [], []) := by
  refine (ev_fn Go.Proofs.Tryz.f9 8900 (by kernel_rfl) (by kernel_rfl) fun kk hkk => ?_).mono (by omega)
  have a1 := ev_iPass L b hL kk (by omega)
  have v0 := ev_variable 0 kk (by omega)
  have l0 := ev_lam (.var 0) kk (by omega)
  have n0 := ev_nodes (.lam 0 (.var 0)) (by simp [Pt.size]) kk (by simp only [Pt.depth]; omega)
  have hp0 := passN_len L
  have a2 := ev_iApply (passN L).1 ((Pt.lam 0 (.var 0)).flat 0 (-1)) true true (by omega) (by rw [Pt.flat_length]; decide) kk (by omega)
  have hap := applyN_len (passN L).1 ((Pt.lam 0 (.var 0)).flat 0 (-1))
  have hid : closedOfP ((Pt.lam 0 (.var 0)).flat 0 (-1)) = some (.lam 0 (.var 0)) := closedOfP_flat (by decide) rfl
  have c2 : D.cleans [.own 46 ((applyN (passN L).1 ((Pt.lam 0 (.var 0)).flat 0 (-1))).1.map Nd.d), .dat (B (applyN (passN L).1 ((Pt.lam 0 (.var 0)).flat 0 (-1))).2)] = true := own_clean _ _
  unfold runN
  cases hc : closedOfP L with
  | none =>
    have hpn : passN L = ([], false) := by unfold passN; rw [hc]
    rw [hpn] at a1 a2 c2
    exact iRp_no1 kk b _ _ _ _ _ _ _ _ _ _ _ _ a1 v0 l0 n0 c2 a2
  | some t =>
    simp only
    have hcl := (closedP_iff t).1 (closedOfP_some hc).2
    unfold runT
    have hpn : passN L = told (passT t) := by unfold passN; rw [hc]
    rw [hpn] at a1 a2 c2 hap
    cases hp : (passT t).good with
    | false =>
      have htt : told (passT t) = ([], false) := by unfold told; rw [hp]; rfl
      rw [htt] at a1 a2 c2
      exact iRp_no1 kk b _ _ _ _ _ _ _ _ _ _ _ _ a1 v0 l0 n0 c2 a2
    | true =>
      have htt : told (passT t) = ((passT t).flat 0 (-1), true) := by unfold told; rw [hp]; rfl
      rw [htt] at a1 a2 c2 hap
      rw [if_pos rfl]
      have hcp := closedOfP_flat hp (passT_closed t 0 (by omega) hcl)
      have hapn : applyN ((passT t).flat 0 (-1)) ((Pt.lam 0 (.var 0)).flat 0 (-1)) = told (whole t) := by unfold applyN; rw [hcp, hid]; rfl
      rw [hapn] at a2 c2 hap
      cases hw : (whole t).good with
      | false =>
        have htw : told (whole t) = ([], false) := by unfold told; rw [hw]; rfl
        rw [htw] at a2 c2
        exact iRp_no2 kk b _ _ _ _ _ _ _ _ _ _ _ a1 v0 l0 n0 c2 a2
      | true =>
        have htw : told (whole t) = ((whole t).flat 0 (-1), true) := by unfold told; rw [hw]; rfl
        rw [htw] at a2 c2 hap
        rw [if_pos rfl]
        have a3 := ev_iHead ((whole t).flat 0 (-1)) true f (by simp only at hap; omega) kk (by omega)
        have hcw := closedOfP_flat hw (whole_closed hcl)
        have c3 : D.cleans [.own 46 ((clN false ((whole t).flat 0 (-1)) f).1.map Nd.d), .dat (I (clN false ((whole t).flat 0 (-1)) f).2.1), .dat (B (clN false ((whole t).flat 0 (-1)) f).2.2)] = true := own_clean3 _ _ _
        have hres : clN false ((whole t).flat 0 (-1)) f = if 0 ≤ f ∧ f ≤ 1000 then (match goOnP (nx false) f.toNat (whole t) with | some q => (q.1.flat 0 (-1), q.2, true) | none => ([], 0, false)) else ([], 0, false) := by
          unfold clN goneN
          rw [hcw, termOfP_flat hw]
          try rfl
        have := iRp_go kk b _ _ _ _ _ _ _ _ _ _ _ _ _ _ a1 v0 l0 n0 c2 a2 c3 a3
        rw [this, hres]
        split
        · split <;> rfl
        · rfl
end Go.Den
namespace Go.Den
inductive Tm where
  | var (n : Nat)
  | lam (t : Tm)
  | app (a b : Tm)
namespace Tm
def upr (r : Nat → Nat) : Nat → Nat
  | 0 => 0
  | n + 1 => r n + 1
def ren (r : Nat → Nat) : Tm → Tm
  | .var n => .var (r n)
  | .lam t => .lam (ren (upr r) t)
  | .app a b => .app (ren r a) (ren r b)
def ups (σ : Nat → Tm) : Nat → Tm
  | 0 => .var 0
  | n + 1 => ren Nat.succ (σ n)
def sb (σ : Nat → Tm) : Tm → Tm
  | .var n => σ n
  | .lam t => .lam (sb (ups σ) t)
  | .app a b => .app (sb σ a) (sb σ b)
def inst (s : Tm) : Nat → Tm
  | 0 => s
  | n + 1 => .var n
theorem upr_ext {r s : Nat → Nat} (h : ∀ n, r n = s n) : ∀ n, upr r n = upr s n
  | 0 => rfl
  | n + 1 => by simp only [upr, h n]
theorem ren_ext : ∀ (t : Tm) {r s : Nat → Nat}, (∀ n, r n = s n) → ren r t = ren s t
  | .var n, r, s, h => by simp only [ren, h n]
  | .lam t, r, s, h => by simp only [ren, ren_ext t (upr_ext h)]
  | .app a b, r, s, h => by simp only [ren, ren_ext a h, ren_ext b h]
theorem ups_ext {σ τ : Nat → Tm} (h : ∀ n, σ n = τ n) : ∀ n, ups σ n = ups τ n
  | 0 => rfl
  | n + 1 => by simp only [ups, h n]
theorem sb_ext : ∀ (t : Tm) {σ τ : Nat → Tm}, (∀ n, σ n = τ n) → sb σ t = sb τ t
  | .var n, σ, τ, h => h n
  | .lam t, σ, τ, h => by simp only [sb, sb_ext t (ups_ext h)]
  | .app a b, σ, τ, h => by simp only [sb, sb_ext a h, sb_ext b h]
theorem ren_ren : ∀ (t : Tm) (r s : Nat → Nat), ren r (ren s t) = ren (fun n => r (s n)) t
  | .var n, r, s => rfl
  | .lam t, r, s => by
    simp only [ren, ren_ren t]
    rw [ren_ext t (s := upr fun n => r (s n)) (fun n => by cases n <;> rfl)]
  | .app a b, r, s => by simp only [ren, ren_ren a, ren_ren b]
theorem sb_ren : ∀ (t : Tm) (σ : Nat → Tm) (r : Nat → Nat), sb σ (ren r t) = sb (fun n => σ (r n)) t
  | .var n, σ, r => rfl
  | .lam t, σ, r => by
    simp only [ren, sb, sb_ren t]
    rw [sb_ext t (τ := ups fun n => σ (r n)) (fun n => by cases n <;> rfl)]
  | .app a b, σ, r => by simp only [ren, sb, sb_ren a, sb_ren b]
theorem ren_sb : ∀ (t : Tm) (r : Nat → Nat) (σ : Nat → Tm), ren r (sb σ t) = sb (fun n => ren r (σ n)) t
  | .var n, r, σ => rfl
  | .lam t, r, σ => by
    simp only [ren, sb, ren_sb t]
    rw [sb_ext t (τ := ups fun n => ren r (σ n)) (fun n => by
      cases n with
      | zero => rfl
      | succ n => simp only [ups, ren_ren]; exact ren_ext _ fun _ => rfl)]
  | .app a b, r, σ => by simp only [ren, sb, ren_sb a, ren_sb b]
theorem sb_id : ∀ (t : Tm) {σ : Nat → Tm}, (∀ n, σ n = .var n) → sb σ t = t
  | .var n, σ, h => h n
  | .lam t, σ, h => by
    simp only [sb]
    rw [sb_id t (fun n => by cases n with | zero => rfl | succ n => simp only [ups, h n]; rfl)]
  | .app a b, σ, h => by simp only [sb, sb_id a h, sb_id b h]
theorem ren_as_sb : ∀ (t : Tm) (r : Nat → Nat), ren r t = sb (fun n => .var (r n)) t
  | .var n, r => rfl
  | .lam t, r => by
    simp only [ren, sb, ren_as_sb t]
    rw [sb_ext t (τ := ups fun n => .var (r n)) (fun n => by cases n <;> rfl)]
  | .app a b, r => by simp only [ren, sb, ren_as_sb a, ren_as_sb b]
end Tm
end Go.Den
