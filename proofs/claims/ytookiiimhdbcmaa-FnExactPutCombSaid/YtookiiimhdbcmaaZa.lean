/- Merged out of: K4 K8 K9 KC KD YFnExactPutComb LFnExactPutComb (prune.py, a program of this work's). -/
import Derived.Test.YtookiiimhdbcmaaZb5
import Derived.Test.YtookiiimhdbcmaaZb4
import Derived.Test.YtookiiimhdbcmaaRows
import Derived.WalkKit
import Derived.ProofKit
import Derived.OpenShut
import Derived.ShutString
import Derived.ChangeOld
import Derived.Below
set_option linter.unusedVariables false
set_option linter.unusedSimpArgs false
set_option linter.unnecessarySimpa false
namespace Go.Den
open Go
set_option linter.unusedVariables false
set_option maxRecDepth 100000
theorem all_take {ks : List Pt} {i : Nat} {x : Pt} (h : ks[i]? = some x) (p : Pt → Bool) : (ks.take (i + 1)).all p = ((ks.take i).all p && p x) := by
  rw [List.take_add_one, h, List.all_append]
  simp
theorem ev_measure : ∀ (d : Nat) (t : Pt), t.depth ≤ d → t.size ≤ 1000000000000 → EvN (d + 5) 28 [.dat t.d] [] [] ([.dat (I t.size), .dat (I t.depth), .dat (B t.nums)], [], [])
  | 0, t, hd, hz => by have := t.depth_pos; omega
  | d + 1, t, hd, hz => by
    refine ev_fn Go.Proofs.Try.f28 (d + 5) (by kernel_rfl) (by kernel_rfl) fun kk hkk => ?_
    have hdle := t.depth_le
    have hdk := t.depth_kids
    have hle := t.kids_le
    have hsz := t.size_kids
    have hfin : w64 ((maxd t.kids : Nat) + 1) = t.depth := (w64_eq (by omega)).trans (by omega)
    have hloop : LoopAt cfg kk 28 Go.Proofs.Try.f28 4 (hd28 (t.kids.map Pt.d) 1 0 t.own 0) (.exit 0) (Nm [5, 6, 7] [.dat (I t.size), .dat (I (maxd t.kids : Nat)), .dat (B t.nums)] [none, none, none] [] []) := by
      let st := fun i : Nat => hd28 (t.kids.map Pt.d) ((1 + ((t.kids.take i).map Pt.size).sum : Nat) : Int) (maxd (t.kids.take i) : Nat) (t.own && (t.kids.take i).all Pt.nums) i
      refine loopAt_range st t.kids.length (by omega) (fun i hi m s K hs hn => ?_) (fun m s K hs hK => ?_) (by simp [st, maxd])
      · obtain ⟨x, h1, h2, h3⟩ := kid_at hi
        have hx := Pt.kids_lt h2
        have hev := ev_measure d x (by omega) (by omega) kk (by omega)
        rw [Pt.d_eq] at hev
        have hto : ((i : Int)).toNat = i := by simp
        have hb := sum_le (ks := t.kids) i
        have hb2 := sum_le (ks := t.kids) (i + 1)
        have hstep : ((t.kids.take (i + 1)).map Pt.size).sum = ((t.kids.take i).map Pt.size).sum + x.size := by
          rw [List.take_add_one, h1]
          simp
        have hstep2 : maxd (t.kids.take (i + 1)) = max (maxd (t.kids.take i)) x.depth := by
          rw [List.take_add_one, h1, maxd_append]
          simp [maxd]
        have hstep3 := all_take h1 Pt.nums
        have hnext : ∀ r : Bool, r = (t.own && (t.kids.take (i + 1)).all Pt.nums) → ∀ s' : St, s'.norm ((envOf cfg kk 28 Go.Proofs.Try.f28).live (firstRegion (lp Go.Proofs.Try.f28 4))) = Nm [5, 6, 7, 32, 33, 34] [.dat (I (w64 (((1 + ((t.kids.take i).map Pt.size).sum : Nat) : Int) + x.size))), .dat (I (if (x.depth : Int) > (maxd (t.kids.take i) : Nat) then (x.depth : Int) else (maxd (t.kids.take i) : Nat))), .dat (B r), .dat (.lst false (t.kids.map Pt.d)), .dat (I ((t.kids.map Pt.d).length : Int)), .dat (I (w64 ((i : Int) + 1)))] [none, none, none, none, none, none] [] [] → Rounds (envOf cfg kk 28 Go.Proofs.Try.f28) kk (lp Go.Proofs.Try.f28 4) m s' K := fun r hr s' hs' => by
          refine hn s' ?_
          rw [hs', w64_eq (n := (i : Int) + 1) (by omega), w64_eq (by omega), hr]
          simp only [st, hd28, hstep, hstep2]
          congr 4
          · congr 1; omega
          · congr 2
            split <;> omega
        have hlt : decide ((i : Int) < ((t.kids.map Pt.d).length : Int)) = true := decide_eq_true (by simp; omega)
        have hat : (0 ≤ (i : Int) ∧ (i : Int) < ((t.kids.map Pt.d).length : Int)) ∧ (t.kids.map Pt.d)[((i : Int)).toNat]? = some (T x.kd x.num (x.kids.map Pt.d)) := ⟨⟨by omega, by simp; omega⟩, by rw [hto]; exact h3⟩
        cases hr : (t.own && (t.kids.take i).all Pt.nums) with
        | true =>
          have hs0 : s.norm _ = hd28 (t.kids.map Pt.d) ((1 + ((t.kids.take i).map Pt.size).sum : Nat) : Int) (maxd (t.kids.take i) : Nat) (t.own && (t.kids.take i).all Pt.nums) i := hs
          rw [hr] at hs0
          exact measure_true kk m _ _ _ _ _ _ x.kd x.num _ _ hs0 hlt hat hev (hnext _ (by rw [hstep3, ← Bool.and_assoc, hr, Bool.true_and]))
        | false =>
          have hs0 : s.norm _ = hd28 (t.kids.map Pt.d) ((1 + ((t.kids.take i).map Pt.size).sum : Nat) : Int) (maxd (t.kids.take i) : Nat) (t.own && (t.kids.take i).all Pt.nums) i := hs
          rw [hr] at hs0
          exact measure_false kk m _ _ _ _ _ _ x.kd x.num _ _ hs0 hlt hat hev (hnext _ (by rw [hstep3, ← Bool.and_assoc, hr, Bool.false_and]))
      · have hs' : s.norm _ = hd28 (t.kids.map Pt.d) ((1 + ((t.kids.take t.kids.length).map Pt.size).sum : Nat) : Int) (maxd (t.kids.take t.kids.length) : Nat) (t.own && (t.kids.take t.kids.length).all Pt.nums) t.kids.length := hs
        rw [List.take_length, ← hsz, ← Pt.nums_kids] at hs'
        exact measure_end kk m _ _ _ _ _ hs' (decide_eq_false (by simp)) hK
    rw [← hfin, Pt.d_eq]
    by_cases h0 : 0 ≤ t.num
    · by_cases h9 : t.num ≤ 999
      · by_cases hk : t.kd = 1
        · have ho : t.own = true := by
            cases t with
            | leaf c n => 
              have hc : c = .v := by cases c <;> first | rfl | (simp [Pt.kd, Lf.kd] at hk)
              subst hc
              simp only [Pt.num] at h0 h9
              simp [Pt.own, h0, h9]
            | app n a b => simp [Pt.kd] at hk
          rw [ho] at hloop
          exact measure_v kk _ _ _ _ _ _ (decide_eq_true h0) (decide_eq_true h9) (decide_eq_true hk) hloop
        · have ho : t.own = decide (t.num = 0) := by
            cases t with
            | leaf c n =>
              have hc : c ≠ .v := fun e => hk (by rw [e]; rfl)
              simp only [Pt.num] at h0 h9
              show ((decide (0 ≤ n) && decide (n ≤ 999)) && (decide (c = .v) || decide (n = 0))) = decide (n = 0)
              rw [decide_eq_true h0, decide_eq_true h9, decide_eq_false hc]
              simp only [Bool.true_and, Bool.false_or]
            | app n a b => rfl
          rw [ho] at hloop
          exact measure_o kk _ _ _ _ _ _ (decide_eq_true h0) (decide_eq_true h9) (decide_eq_false hk) hloop
      · have ho : t.own = false := by
          cases t with
          | leaf c n => simp only [Pt.num] at h9; simp [Pt.own, h9]
          | app n a b => simp only [Pt.num] at h9; simp [Pt.own]; omega
        rw [ho] at hloop
        exact measure_big kk _ _ _ _ _ _ (decide_eq_true h0) (decide_eq_false h9) hloop
    · have ho : t.own = false := by
        cases t with
        | leaf c n => simp only [Pt.num] at h0; simp [Pt.own, h0]
        | app n a b => simp only [Pt.num] at h0; simp [Pt.own]; omega
      rw [ho] at hloop
      exact measure_neg kk _ _ _ _ _ _ (decide_eq_false h0) hloop
/-- 'isGood'. -/
theorem ev_good (t : Pt) (hz : t.size ≤ 1000000000000) (d : Nat) (hd : t.depth ≤ d) : EvN (4 * d + 7) 25 [.dat t.d] [] [] ([.dat (B t.good)], [], []) := by
  refine ev_fn Go.Proofs.Try.f25 (4 * d + 6) (by kernel_rfl) (by kernel_rfl) fun kk hkk => ?_
  have h1 := ev_measure d t hd hz kk (by omega)
  rw [Pt.d_eq] at h1 ⊢
  unfold Pt.good
  cases hn : t.nums with
  | false =>
    rw [hn] at h1
    rw [isGood_bad kk _ _ _ _ _ h1]
    simp
  | true =>
    rw [hn] at h1
    by_cases a1 : t.size ≤ 200
    · rw [isGood_go kk _ _ _ _ _ h1 (decide_eq_true (by omega))]
      rw [show decide ((t.depth : Int) ≤ 60) = decide (t.depth ≤ 60) from decide_eq_decide.2 (by omega)]
      simp [a1]
    · rw [isGood_big kk _ _ _ _ _ h1 (decide_eq_false (by omega))]
      simp [a1]
/-- 'termAt'. -/
theorem ev_termAt (L : List Nd) (b : Bool) (hL : L.length ≤ 1000) : ∀ (f at_ : Nat) (up : Int), at_ ≤ L.length → L.length < at_ + f →
    (∀ t nx, parse L f at_ up = some (t, nx) → EvN (f + 10) 24 [.dat (.lst b (L.map Nd.d)), .dat (I at_), .dat (I up)] [] [] ([.dat t.d, .dat (I nx), .dat (B true)], [], [])) ∧
    (parse L f at_ up = none → ∃ (k n v : Int) (ds : List Dat), EvN (f + 10) 24 [.dat (.lst b (L.map Nd.d)), .dat (I at_), .dat (I up)] [] [] ([.dat (T k n ds), .dat (I v), .dat (B false)], [], []))
  | 0, at_, up, h1, h2 => by omega
  | f + 1, at_, up, h1, h2 => by
    have hlen : ((L.map Nd.d).length : Int) = L.length := by simp
    by_cases hend : at_ = L.length
    · refine ⟨fun t nx h => ?_, fun _ => ⟨0, 0, 0, [], ?_⟩⟩
      · simp only [parse, Option.bind_eq_some_iff] at h
        obtain ⟨x, hx, _⟩ := h
        have := (List.getElem?_eq_some_iff.1 hx).1
        omega
      · exact ev_fn Go.Proofs.Try.f24 (f + 10) (by kernel_rfl) (by kernel_rfl) fun kk _ => termAt_end kk b _ at_ up (decide_eq_true (by rw [hlen, hend]))
    · obtain ⟨x, hx⟩ : ∃ x, L[at_]? = some x := ⟨_, List.getElem?_eq_getElem (by omega)⟩
      have hx3 := nd_at hx
      have hne : decide ((at_ : Int) = ((L.map Nd.d).length : Int)) = false := decide_eq_false (by omega)
      have hpar : parse L (f + 1) at_ up = (if x.u = up then (match lfOf x.k with
          | some c => some (.leaf c x.n, at_ + 1)
          | none => if x.k = 2 then (parse L f (at_ + 1) at_).bind fun r => (parse L f r.2 at_).map fun q => (.app x.n r.1 q.1, q.2) else none) else none) := by simp only [parse, hx, Option.bind_some]; rfl
      rw [hpar]
      have hw1 : w64 ((at_ : Int) + 1) = ((at_ + 1 : Nat) : Int) := (w64_eq (by omega)).trans (by omega)
      by_cases hu : x.u = up
      · rw [if_pos hu]
        have hub : (!decide (x.u = up)) = false := by simp [hu]
        by_cases hk1 : x.k < 1
        · rw [lfOf_lo (by omega)]
          simp only
          rw [if_neg (by omega)]
          refine ⟨fun t nx h => (by cases h), fun _ => ⟨0, 0, 0, [], ?_⟩⟩
          exact ev_fn Go.Proofs.Try.f24 (f + 10) (by kernel_rfl) (by kernel_rfl) fun kk _ => termAt_lo kk b _ at_ up x.k x.n x.u hne hx3 hub hx3 (decide_eq_true hk1)
        · by_cases hk3 : 5 < x.k
          · rw [lfOf_lo (by omega)]
            simp only
            rw [if_neg (by omega)]
            refine ⟨fun t nx h => (by cases h), fun _ => ⟨0, 0, 0, [], ?_⟩⟩
            exact ev_fn Go.Proofs.Try.f24 (f + 10) (by kernel_rfl) (by kernel_rfl) fun kk _ => termAt_hi kk b _ at_ up x.k x.n x.u hne hx3 hub hx3 (decide_eq_false hk1) hx3 (decide_eq_true hk3)
          · have hlo := decide_eq_false hk1
            have hhi := decide_eq_false hk3
            have hyes := fun kk nx out => termAt_y kk b (L.map Nd.d) at_ up x.k x.n x.u nx out hne hx3 hub hx3 hlo hx3 hhi hx3 hx3
            have hno := fun kk nx out => termAt_n kk b (L.map Nd.d) at_ up x.k x.n x.u nx out hne hx3 hub hx3 hlo hx3 hhi hx3 hx3
            rw [hw1] at hyes hno
            obtain ⟨hy1, hn1⟩ := ev_termAt L b hL f (at_ + 1) at_ (by omega) (by omega)
            by_cases hk : x.k = 2
            case neg =>
              obtain ⟨c, hc⟩ := lfOf_in ⟨by omega, by omega⟩ hk
              have hkc := lfOf_some hc
              rw [hc]
              refine ⟨fun t nx h => ?_, fun h => by cases h⟩
              cases h
              refine ev_fn Go.Proofs.Try.f24 (f + 10) (by kernel_rfl) (by kernel_rfl) fun kk hkk => ?_
              have := hyes kk ((at_ + 1 : Nat) : Int) [] (loopOb_of fun s hs => by
                obtain ⟨m, rfl⟩ : ∃ m, kk = m + 1 := ⟨kk - 1, by omega⟩
                exact termAt_leaf _ m b _ at_ up x.k x.n [] _ hs (decide_eq_false hk) ⟨rfl, rfl⟩)
              rw [this, hkc]
              rfl
            case pos =>
              rw [show lfOf x.k = none by rw [hk]; rfl]
              simp only
              rw [if_pos hk]
              rw [hk] at hyes hno
              cases hp : parse L f (at_ + 1) at_ with
              | none =>
                refine ⟨fun t nx h => (by cases h), fun _ => ⟨0, 0, 0, [], ?_⟩⟩
                obtain ⟨k', n', v', ds', hev⟩ := hn1 hp
                refine ev_fn Go.Proofs.Try.f24 (f + 10) (by kernel_rfl) (by kernel_rfl) fun kk hkk => ?_
                refine hno kk ((at_ + 1 : Nat) : Int) [] (loopOb_of fun s hs => ?_)
                obtain ⟨m, hm'⟩ : ∃ m, kk = m + 1 := ⟨kk - 1, by omega⟩
                conv => arg 4; rw [hm']
                exact termAt_bad kk m b _ at_ up 2 x.n [] _ k' n' v' ds' hs rfl (hev kk (by omega)) ⟨rfl, rfl⟩
              | some r =>
                obtain ⟨a, n1⟩ := r
                obtain ⟨_, hn1e, hn1l⟩ := parse_sound L _ _ _ _ _ hp
                have hpos := a.size_pos
                obtain ⟨hy2, hn2⟩ := ev_termAt L b hL f n1 at_ hn1l (by omega)
                have hev := hy1 a n1 hp
                simp only [Option.bind_some]
                cases hq : parse L f n1 at_ with
                | none =>
                  refine ⟨fun t nx h => (by cases h), fun _ => ⟨0, 0, 0, [], ?_⟩⟩
                  obtain ⟨k', n', v', ds', hev2⟩ := hn2 hq
                  refine ev_fn Go.Proofs.Try.f24 (f + 10) (by kernel_rfl) (by kernel_rfl) fun kk hkk => ?_
                  refine hno kk n1 [a.d] (loopOb_of fun s hs => ?_)
                  obtain ⟨m, hm'⟩ : ∃ m, kk = m + 2 := ⟨kk - 2, by omega⟩
                  have he := hev kk (by omega)
                  rw [Pt.d_eq] at he
                  conv => arg 4; rw [hm']
                  refine termAt_go kk (m + 1) b _ at_ up 2 x.n [] _ a.kd a.num n1 _ hs rfl he (by simp) fun s' hs' => ?_
                  exact termAt_bad kk m b _ at_ up 2 x.n [a.d] n1 k' n' v' ds' (by rw [hs', Pt.d_eq a]; rfl) rfl (hev2 kk (by omega)) ⟨rfl, rfl⟩
                | some q =>
                  obtain ⟨c, n2⟩ := q
                  refine ⟨fun t nx h => ?_, fun h => by cases h⟩
                  cases h
                  have hev2 := hy2 c n2 hq
                  refine ev_fn Go.Proofs.Try.f24 (f + 10) (by kernel_rfl) (by kernel_rfl) fun kk hkk => ?_
                  have := hyes kk n2 [a.d, c.d] (loopOb_of fun s hs => by
                    obtain ⟨m, hm'⟩ : ∃ m, kk = m + 3 := ⟨kk - 3, by omega⟩
                    have he := hev kk (by omega)
                    have he2 := hev2 kk (by omega)
                    rw [Pt.d_eq] at he he2
                    conv => arg 4; rw [hm']
                    refine termAt_go kk (m + 2) b _ at_ up 2 x.n [] _ a.kd a.num n1 _ hs rfl he (by simp) fun s' hs' => ?_
                    refine termAt_go kk (m + 1) b _ at_ up 2 x.n [a.d] n1 c.kd c.num n2 _ (by rw [hs', Pt.d_eq a]; rfl) rfl he2 (by simp) fun s2 hs2 => ?_
                    exact termAt_done kk m b _ at_ up 2 x.n [a.d, c.d] n2 (by rw [hs2, Pt.d_eq c]; rfl) rfl ⟨rfl, rfl⟩)
                  rw [this]
                  rfl
      · rw [if_neg hu]
        refine ⟨fun t nx h => (by cases h), fun _ => ⟨0, 0, 0, [], ?_⟩⟩
        exact ev_fn Go.Proofs.Try.f24 (f + 10) (by kernel_rfl) (by kernel_rfl) fun kk _ => termAt_up kk b _ at_ up x.k x.n x.u hne hx3 (by simp [hu])
def flatL : List Pt → Nat → Nat → List Nd
  | [], _, _ => []
  | t :: ts, pos, at_ => t.flat pos at_ ++ flatL ts (pos + t.size) at_
theorem Pt.flat_kids (t : Pt) (at_ : Nat) (up : Int) : t.flat at_ up = ⟨t.kd, t.num, up⟩ :: flatL t.kids (at_ + 1) at_ := by
  cases t <;> simp [Pt.flat, Pt.kids, flatL, Pt.kd, Pt.num]
theorem flatL_append : ∀ (a b : List Pt) (pos at_ : Nat), flatL (a ++ b) pos at_ = flatL a pos at_ ++ flatL b (pos + (flatL a pos at_).length) at_
  | [], b, pos, at_ => by simp [flatL]
  | t :: a, b, pos, at_ => by
    simp only [List.cons_append, flatL, flatL_append a b, List.length_append, Pt.flat_length, List.append_assoc]
    rw [Nat.add_assoc]
theorem flatL_length : ∀ (ks : List Pt) (pos at_ : Nat), (flatL ks pos at_).length = (ks.map Pt.size).sum
  | [], pos, at_ => rfl
  | t :: ks, pos, at_ => by simp [flatL, Pt.flat_length, flatL_length ks]
theorem flatL_step {ks : List Pt} {i : Nat} {x : Pt} (h : ks[i]? = some x) (pos at_ : Nat) : flatL (ks.take (i + 1)) pos at_ = flatL (ks.take i) pos at_ ++ x.flat (pos + (flatL (ks.take i) pos at_).length) at_ := by
  rw [List.take_add_one, h, flatL_append]
  simp [flatL]
theorem ev_nodes1 : ∀ (d : Nat) (t : Pt) (out : List Nd) (up : Int), t.depth ≤ d → out.length + t.size ≤ 1000000000 →
    EvN (d + 5) 27 [.dat t.d, .dat (I up), .ptr (.up 1) 0, .ptr (.up 0) 0] [[.fn 27 [.up 1, .up 0]], [.own 40 (out.map Nd.d)]] [] ([], [[.fn 27 [.up 1, .up 0]], [.own 40 ((out ++ t.flat out.length up).map Nd.d)]], [])
  | 0, t, out, up, hd, hz => by have := t.depth_pos; omega
  | d + 1, t, out, up, hd, hz => by
    refine ev_fn Go.Proofs.Try.f27 (d + 5) (by kernel_rfl) (by kernel_rfl) fun kk hkk => ?_
    have hpos := t.size_pos
    have hle := t.kids_le
    have hsz := t.size_kids
    rw [Pt.d_eq, Pt.flat_kids]
    refine nodes1 kk _ _ up _ _ _ (by simp; omega) ?_
    let acc := fun i : Nat => out ++ ⟨t.kd, t.num, up⟩ :: flatL (t.kids.take i) (out.length + 1) out.length
    let st := fun i : Nat => hd97 ((acc i).map Nd.d) (t.kids.map Pt.d) out.length i
    have hlen : ∀ i, (acc i).length = out.length + 1 + (flatL (t.kids.take i) (out.length + 1) out.length).length := fun i => by simp [acc]; omega
    refine loopAt_range st t.kids.length (by omega) (fun i hi m s K hs hn => ?_) (fun m s K hs hK => ?_) (by simp [st, acc, flatL]; rfl)
    · obtain ⟨x, h1, h2, h3⟩ := kid_at hi
      have hx := Pt.kids_lt h2
      have hb := sum_le (ks := t.kids) i
      have hb2 := sum_le (ks := t.kids) (i + 1)
      have hstep : ((t.kids.take (i + 1)).map Pt.size).sum = ((t.kids.take i).map Pt.size).sum + x.size := by
        rw [List.take_add_one, h1]
        simp
      have hl := hlen i
      rw [flatL_length] at hl
      have hev := ev_nodes1 d x (acc i) out.length (by omega) (by omega) kk (by omega)
      rw [Pt.d_eq] at hev
      have hto : ((i : Int)).toNat = i := by simp
      refine nodes1_go kk m _ _ _ _ _ x.kd x.num _ hs (decide_eq_true (by simp; omega)) ⟨⟨by omega, by simp; omega⟩, by rw [hto]; exact h3⟩ hev fun s' hs' => hn s' ?_
      have hacc : acc i ++ x.flat (acc i).length out.length = acc (i + 1) := by
        have e := flatL_step h1 (out.length + 1) out.length
        simp only [acc] at hlen ⊢
        rw [e, hlen i]
        simp
      rw [hs', w64_eq (n := (i : Int) + 1) (by omega), hacc]
      rfl
    · refine nodes1_end kk m _ _ _ _ hs (decide_eq_false (by simp)) ?_
      have : acc t.kids.length = out ++ ⟨t.kd, t.num, up⟩ :: flatL t.kids (out.length + 1) out.length := by simp only [acc, List.take_length]
      rw [this]
      exact hK
theorem ev_goodNodes (t : Pt) (hz : t.size ≤ 1000000000) : EvN (4 * t.depth + 10) 19 [.dat t.d] [] [] ([.own 40 ((if t.good = true then t.flat 0 (-1) else []).map Nd.d), .dat (B t.good)], [], []) := by
  refine ev_fn Go.Proofs.Try.f19 (4 * t.depth + 9) (by kernel_rfl) (by kernel_rfl) fun kk hkk => ?_
  have h1 := ev_good t (by omega) t.depth (Nat.le_refl _) kk (by omega)
  have h2 := ev_nodes1 t.depth t [] (-1) (Nat.le_refl _) (by simpa using hz) kk (by omega)
  rw [Pt.d_eq] at h1 h2 ⊢
  cases hg : t.good with
  | true =>
    rw [hg] at h1
    rw [if_pos rfl]
    exact goodNodes_yes kk _ _ _ _ h1 h2
  | false =>
    rw [hg] at h1
    rw [if_neg (fun h => by cases h)]
    exact goodNodes_no kk _ _ _ h1
/-- 'termOf'. -/
theorem ev_termOf (L : List Nd) (b : Bool) (hL : L.length ≤ 1048576) :
    (∀ t, termOfP L = some t → EvN 1000 17 [.dat (.lst b (L.map Nd.d))] [] [] ([.dat t.d, .dat (B true)], [], [])) ∧
    (termOfP L = none → ∃ (k n : Int) (ds : List Dat), EvN 1000 17 [.dat (.lst b (L.map Nd.d))] [] [] ([.dat (T k n ds), .dat (B false)], [], [])) := by
  have hlen : ((L.map Nd.d).length : Int) = L.length := by simp
  by_cases h1 : L.length < 1
  · have hn : termOfP L = none := by unfold termOfP; rw [if_neg (by omega)]
    rw [hn]
    refine ⟨fun t h => (by cases h), fun _ => ⟨0, 0, [], ?_⟩⟩
    exact (ev_fn Go.Proofs.Try.f17 0 (by kernel_rfl) (by kernel_rfl) fun kk _ => termOf_few kk b _ (decide_eq_true (by omega))).mono (by omega)
  · by_cases h2 : 200 < L.length
    · have hn : termOfP L = none := by unfold termOfP; rw [if_neg (by omega)]
      rw [hn]
      refine ⟨fun t h => (by cases h), fun _ => ⟨0, 0, [], ?_⟩⟩
      exact (ev_fn Go.Proofs.Try.f17 0 (by kernel_rfl) (by kernel_rfl) fun kk _ => termOf_many kk b _ (decide_eq_false (by omega)) (decide_eq_true (by omega))).mono (by omega)
    · have e1 : decide (((L.map Nd.d).length : Int) < 1) = false := decide_eq_false (by omega)
      have e2 : decide (200 < ((L.map Nd.d).length : Int)) = false := decide_eq_false (by omega)
      obtain ⟨hy, hn⟩ := ev_termAt L b (by omega) (L.length + 1) 0 (-1) (by omega) (by omega)
      have hdef : termOfP L = (parse L (L.length + 1) 0 (-1)).bind fun r => if r.2 = L.length ∧ r.1.good = true then some r.1 else none := by unfold termOfP; rw [if_pos (by omega)]
      rw [hdef]
      cases hp : parse L (L.length + 1) 0 (-1) with
      | none =>
        refine ⟨fun t h => (by cases h), fun _ => ?_⟩
        obtain ⟨k, n, v, ds, hev⟩ := hn hp
        exact ⟨k, n, ds, (ev_fn Go.Proofs.Try.f17 (L.length + 11) (by kernel_rfl) (by kernel_rfl) fun kk hkk => termOf_bad kk b _ k n v ds e1 e2 (hev kk (by omega))).mono (by omega)⟩
      | some r =>
        obtain ⟨t, nx⟩ := r
        have hev := hy t nx hp
        obtain ⟨hs1, hs2, hs3⟩ := parse_sound L _ _ _ _ _ hp
        simp only [Option.bind_some]
        by_cases hnx : nx = L.length
        · have hsz : t.size ≤ 200 := by omega
          have hdl := t.depth_le
          have hg := ev_good t (by omega) 200 (by omega)
          have hgo : ∀ kk, 900 ≤ kk → runFn cfg kk (den cfg kk) 17 Go.Proofs.Try.f17 [.dat (.lst b (L.map Nd.d))] [] [] = some ([.dat t.d, .dat (B t.good)], [], []) := fun kk hkk => by
            have a1 := hev kk (by omega)
            have a2 := hg kk (by omega)
            rw [Pt.d_eq] at a1 a2 ⊢
            exact termOf_go kk b _ _ _ _ _ _ e1 e2 a1 (decide_eq_true (by omega)) a2
          cases hgd : t.good with
          | true =>
            rw [if_pos ⟨hnx, rfl⟩]
            refine ⟨fun t' h => ?_, fun h => (by cases h)⟩
            cases h
            rw [hgd] at hgo
            exact (ev_fn Go.Proofs.Try.f17 900 (by kernel_rfl) (by kernel_rfl) hgo).mono (by omega)
          | false =>
            rw [if_neg (fun h => by cases h.2)]
            refine ⟨fun t h => (by cases h), fun _ => ⟨t.kd, t.num, t.kids.map Pt.d, ?_⟩⟩
            rw [hgd, Pt.d_eq] at hgo
            exact (ev_fn Go.Proofs.Try.f17 900 (by kernel_rfl) (by kernel_rfl) hgo).mono (by omega)
        · rw [if_neg (fun h => hnx h.1)]
          refine ⟨fun t h => (by cases h), fun _ => ⟨t.kd, t.num, t.kids.map Pt.d, ?_⟩⟩
          refine (ev_fn Go.Proofs.Try.f17 (L.length + 11) (by kernel_rfl) (by kernel_rfl) fun kk hkk => ?_).mono (by omega)
          have a1 := hev kk (by omega)
          rw [Pt.d_eq] at a1
          exact termOf_more kk b _ _ _ _ _ e1 e2 a1 (decide_eq_false (by omega))
end Go.Den
namespace Go.Den
open Go
set_option linter.unusedVariables false
set_option maxRecDepth 100000
theorem ev_l1In (x lo hi : Int) : EvN 1 12 [.dat (I x), .dat (I lo), .dat (I hi)] [] [] ([.dat (B (decide (lo ≤ x) && decide (x ≤ hi)))], [], []) := by
  refine ev_fn Go.Proofs.Try.f12 0 (by kernel_rfl) (by kernel_rfl) fun kk _ => ?_
  by_cases h : lo ≤ x
  · rw [l1In_yes kk x lo hi (decide_eq_true h)]
    simp [h]
  · rw [l1In_no kk x lo hi (decide_eq_false h)]
    simp [h]
theorem ev_lcApp (a b : Pt) : EvN 1 26 [.dat a.d, .dat b.d] [] [] ([.dat (Pt.app 0 a b).d], [], []) := by
  refine ev_fn Go.Proofs.Try.f26 0 (by kernel_rfl) (by kernel_rfl) fun kk _ => ?_
  rw [show (Pt.app 0 a b).d = T 2 0 [a.d, b.d] from rfl, Pt.d_eq a, Pt.d_eq b]
  exact lcApp kk a.kd a.num b.kd b.num (a.kids.map Pt.d) (b.kids.map Pt.d)
theorem good_facts {t : Pt} (h : t.good = true) : t.size ≤ 200 ∧ t.depth ≤ 60 ∧ t.nums = true := by
  unfold Pt.good at h
  simp only [Bool.and_eq_true, decide_eq_true_eq] at h
  exact h
def flatS : Pt → List Nd → Int → List Nd
  | .leaf c n, l, up => l ++ [⟨c.kd, n, up⟩]
  | .app n a b, l, up =>
    let l2 := if l.length + 1 ≤ 200 then flatS a (l ++ [⟨2, n, up⟩]) l.length else l ++ [⟨2, n, up⟩]
    if l2.length ≤ 200 then flatS b l2 l.length else l2
theorem flatS_facts : ∀ (t : Pt) (l : List Nd) (up : Int), l.length ≤ 200 → (flatS t l up = l ++ t.flat l.length up ∨ 200 < (flatS t l up).length) ∧ (flatS t l up).length ≤ l.length + t.size
  | .leaf c n, l, up, h => ⟨.inl rfl, by simp [flatS, Pt.size]⟩
  | .app n a b, l, up, h => by
    simp only [flatS, Pt.size]
    split
    · rename_i h1
      obtain ⟨h2, h3⟩ := flatS_facts a (l ++ [⟨2, n, up⟩]) l.length (by simpa using h1)
      simp only [List.length_append, List.length_cons, List.length_nil] at h2 h3
      generalize hr : flatS a (l ++ [⟨2, n, up⟩]) l.length = r at *
      split
      · rename_i h4
        obtain ⟨h5, h6⟩ := flatS_facts b r l.length h4
        refine ⟨?_, by omega⟩
        rcases h5 with h5 | h5
        · rcases h2 with h2 | h2
          · left
            have hrl : r.length = l.length + 1 + a.size := by rw [h2]; simp [Pt.flat_length]; omega
            rw [h5, hrl, h2]
            simp [Pt.flat]
          · omega
        · exact .inr h5
      · refine ⟨.inr (by omega), by omega⟩
    · rename_i h1
      have hb := b.size_pos
      rw [if_neg (by first | (simp; omega) | (simp; done))]
      exact ⟨.inr (by first | (simp; omega) | (simp; done)), by first | (simp; omega) | (simp; done)⟩
theorem flatS_small {t : Pt} (h : t.size ≤ 200) : flatS t [] (-1) = t.flat 0 (-1) := by
  obtain ⟨h1, h2⟩ := flatS_facts t [] (-1) (by simp)
  rcases h1 with h1 | h1
  · exact h1
  · simp at h2; omega
theorem flatS_big {t : Pt} (h : 200 < t.size) : 200 < (flatS t [] (-1)).length := by
  obtain ⟨h1, h2⟩ := flatS_facts t [] (-1) (by simp)
  rcases h1 with h1 | h1
  · rw [h1]
    simp [Pt.flat_length]
    exact h
  · exact h1
def stp (k : Nat) (l : List Nd) (x : Pt) : List Nd := if l.length ≤ 200 then flatS x l k else l
theorem flatS_kids (t : Pt) (l : List Nd) (up : Int) : flatS t l up = t.kids.foldl (stp l.length) (l ++ [⟨t.kd, t.num, up⟩]) := by
  cases t <;> simp [flatS, Pt.kids, stp, Pt.kd, Pt.num]
theorem foldl_step {ks : List Pt} {i : Nat} {x : Pt} (h : ks[i]? = some x) (k : Nat) (l : List Nd) : (ks.take (i + 1)).foldl (stp k) l = stp k ((ks.take i).foldl (stp k) l) x := by
  rw [List.take_add_one, h, List.foldl_append]
  rfl
theorem ev_lcFlat : ∀ (d : Nat) (t : Pt) (l : List Nd) (up : Int), t.depth ≤ d → l.length ≤ 200 → t.size ≤ 1000000000 →
    EvN (d + 5) 22 [.own 40 (l.map Nd.d), .dat t.d, .dat (I up)] [] [] ([.own 40 ((flatS t l up).map Nd.d)], [], [])
  | 0, t, l, up, hd, hl, hz => by have := t.depth_pos; omega
  | d + 1, t, l, up, hd, hl, hz => by
    refine ev_fn Go.Proofs.Try.f22 (d + 5) (by kernel_rfl) (by kernel_rfl) fun kk hkk => ?_
    have hle := t.kids_le
    have hsz := t.size_kids
    rw [Pt.d_eq, flatS_kids]
    have hll : ((l.map Nd.d).length : Int) = l.length := by simp
    refine lcFlat kk _ _ _ up _ _ (by simp; omega) ?_
    rw [hll]
    let acc := fun i : Nat => (t.kids.take i).foldl (stp l.length) (l ++ [⟨t.kd, t.num, up⟩])
    let st := fun i : Nat => hd89 ((acc i).map Nd.d) l.length (t.kids.map Pt.d) i
    refine loopAt_range st t.kids.length (by omega) (fun i hi m s K hs hn => ?_) (fun m s K hs hK => ?_) (by simp [st, acc]; rfl)
    · obtain ⟨x, h1, h2, h3⟩ := kid_at hi
      have hx := Pt.kids_lt h2
      have hto : ((i : Int)).toNat = i := by simp
      have hal : (((acc i).map Nd.d).length : Int) = (acc i).length := by simp
      have hacc : acc (i + 1) = stp l.length (acc i) x := foldl_step h1 _ _
      by_cases hc : (acc i).length ≤ 200
      · have hev := ev_lcFlat d x (acc i) l.length (by omega) hc (by omega) kk (by omega)
        rw [Pt.d_eq] at hev
        refine lcFlat_go kk m _ _ _ _ x.kd x.num _ _ hs (decide_eq_true (by simp; omega)) ⟨⟨by omega, by simp; omega⟩, by rw [hto]; exact h3⟩ (decide_eq_true (by omega)) hev fun s' hs' => hn s' ?_
        have : acc (i + 1) = flatS x (acc i) l.length := by rw [hacc]; unfold stp; rw [if_pos hc]
        rw [hs', w64_eq (n := (i : Int) + 1) (by omega), ← this]
        rfl
      · refine lcFlat_skip kk m _ _ _ _ x.kd x.num _ hs (decide_eq_true (by simp; omega)) ⟨⟨by omega, by simp; omega⟩, by rw [hto]; exact h3⟩ (decide_eq_false (by omega)) fun s' hs' => hn s' ?_
        have : acc (i + 1) = acc i := by rw [hacc]; unfold stp; rw [if_neg hc]
        rw [hs', w64_eq (n := (i : Int) + 1) (by omega), ← this]
        rfl
    · refine lcFlat_end kk m _ _ _ _ hs (decide_eq_false (by simp)) ?_
      have : acc t.kids.length = t.kids.foldl (stp l.length) (l ++ [⟨t.kd, t.num, up⟩]) := by simp only [acc, List.take_length]
      rw [this]
      exact hK
theorem ev_lcParts (L : List Nd) (b : Bool) (k : Nat) (hL : L.length ≤ 1000000) (hk : k < L.length) : EvN 1000010 21 [.dat (.lst b (L.map Nd.d)), .dat (I k)] [] [] ([.own 3 ((partsP L k L.length).map IN)], [], []) := by
  refine ev_fn Go.Proofs.Try.f21 1000009 (by kernel_rfl) (by kernel_rfl) fun kk hkk => ?_
  refine lcParts kk b _ k _ ?_
  have hlen : (L.map Nd.d).length = L.length := by simp
  have hw : w64 ((k : Int) + 1) = ((k + 1 : Nat) : Int) := (w64_eq (by omega)).trans (by omega)
  rw [hw]
  let st := fun i : Nat => hd88 b (L.map Nd.d) k ((k + 1 + i : Nat) : Int) ((partsP L k (k + 1 + i)).map IN)
  refine loopAt_range st (L.length - (k + 1)) (by omega) (fun i hi m s K hs hn => ?_) (fun m s K hs hK => ?_) (by simp [st, partsP_low])
  · obtain ⟨x, hx⟩ : ∃ x, L[k + 1 + i]? = some x := ⟨_, List.getElem?_eq_getElem (by omega)⟩
    have hx3 := nd_at hx
    have hpl := partsP_length L k (k + 1 + i)
    have hwi : w64 (((k + 1 + i : Nat) : Int) + 1) = ((k + 1 + (i + 1) : Nat) : Int) := (w64_eq (by omega)).trans (by omega)
    by_cases hu : x.u = (k : Int)
    · refine lcParts_in kk m b _ k _ x.k x.n x.u _ hs (decide_eq_true (by omega)) hx3 (decide_eq_true hu) (by simp; omega) fun s' hs' => hn s' ?_
      have : partsP L k (k + 1 + (i + 1)) = partsP L k (k + 1 + i) ++ [k + 1 + i] := by
        show partsP L k (k + 1 + i + 1) = _
        simp only [partsP]
        rw [if_pos ⟨by omega, by simp [upAt, hx, hu]⟩]
      rw [hs', hwi]
      simp only [st, hd88, this, List.map_append]
      rfl
    · refine lcParts_no kk m b _ k _ x.k x.n x.u _ hs (decide_eq_true (by omega)) hx3 (decide_eq_false hu) fun s' hs' => hn s' ?_
      have : partsP L k (k + 1 + (i + 1)) = partsP L k (k + 1 + i) := by
        show partsP L k (k + 1 + i + 1) = _
        simp only [partsP]
        rw [if_neg (by simp [upAt, hx, hu])]
      rw [hs', hwi]
      simp only [st, hd88, this]
  · have hs' : s.norm _ = hd88 b (L.map Nd.d) k ((k + 1 + (L.length - (k + 1)) : Nat) : Int) ((partsP L k (k + 1 + (L.length - (k + 1)))).map IN) := hs
    rw [show k + 1 + (L.length - (k + 1)) = L.length by omega] at hs'
    exact lcParts_end kk m b _ k _ _ hs' (decide_eq_false (by omega)) hK
theorem around_loop (L : List Nd) (b : Bool) (i : Int) (k n u : Int) (kk : Nat) (hL : UpTo L i) (hi : i ≤ L.length) (hLb : L.length ≤ 1000000) : ∀ (f : Nat) (at_ : Int) (ar : Bool) (m : Nat) (s : St) (K : X → St → Prop), at_ < f → -1 ≤ at_ → at_ < i → f < m →
    s.norm ((envOf cfg kk 11 Go.Proofs.Try.f11).live (firstRegion (lp Go.Proofs.Try.f11 10))) = hd44a b (L.map Nd.d) i k n u ar at_ → K (.exit 2) (out44a b (L.map Nd.d) i k n u (ar || aroundP L f at_ u)) → Rounds (envOf cfg kk 11 Go.Proofs.Try.f11) kk (lp Go.Proofs.Try.f11 10) m s K
  | f, at_, true, m, s, K, h1, h2, h3, h4, hs, hK => by
    obtain ⟨m, rfl⟩ : ∃ j, m = j + 1 := ⟨m - 1, by omega⟩
    by_cases h : 0 ≤ at_
    · exact around_yes kk m b _ i k n u at_ hs (decide_eq_true h) hK
    · exact around_out kk m b _ i k n u at_ true hs (decide_eq_false h) hK
  | 0, at_, false, m, s, K, h1, h2, h3, h4, hs, hK => by
    obtain ⟨m, rfl⟩ : ∃ j, m = j + 1 := ⟨m - 1, by omega⟩
    exact around_out kk m b _ i k n u at_ false hs (decide_eq_false (by omega)) hK
  | f + 1, at_, false, m, s, K, h1, h2, h3, h4, hs, hK => by
    obtain ⟨m, rfl⟩ : ∃ j, m = j + 1 := ⟨m - 1, by omega⟩
    by_cases h : 0 ≤ at_
    · obtain ⟨a, rfl⟩ : ∃ a : Nat, at_ = a := ⟨at_.toNat, by omega⟩
      obtain ⟨x, hx⟩ : ∃ x, L[a]? = some x := ⟨_, List.getElem?_eq_getElem (by omega)⟩
      obtain ⟨hu1, hu2⟩ := hL a x hx (by omega)
      refine around_go kk m b _ i k n u a x.k x.n x.u hs (decide_eq_true h) (nd_at hx) fun s' hs' => ?_
      refine around_loop L b i k n u kk hL hi hLb f x.u (decide ((a : Int) = u)) m s' K (by omega) (by omega) (by omega) (by omega) hs' ?_
      have : (decide ((a : Int) = u) || aroundP L f x.u u) = (false || aroundP L (f + 1) a u) := by
        simp only [aroundP]
        rw [if_pos h]
        by_cases he : (a : Int) = u
        · simp [he]
        · simp [he, hx]
      rw [this]
      exact hK
    · refine around_out kk m b _ i k n u at_ false hs (decide_eq_false h) ?_
      have : (false || aroundP L (f + 1) at_ u) = false := by simp only [aroundP]; rw [if_neg h]; rfl
      rw [this] at hK
      exact hK
theorem deep_loop (L : List Nd) (b : Bool) (i : Int) (k n u : Int) (ar : Bool) (kk : Nat) (top : Int) (hL : UpTo L (top + 1)) (hi : top < L.length) (hLb : L.length ≤ 1000000) : ∀ (f : Nat) (at_ : Int) (deep : Int) (m : Nat) (s : St) (K : X → St → Prop), at_ < f → -1 ≤ at_ → at_ ≤ top → f < m → 0 ≤ deep → deep + f ≤ 10000000 →
    s.norm ((envOf cfg kk 11 Go.Proofs.Try.f11).live (firstRegion (lp Go.Proofs.Try.f11 15))) = hd44b b (L.map Nd.d) i k n u ar deep at_ → K (.exit 4) (out44b b (L.map Nd.d) i k n u ar (deep + deepP L f at_)) → Rounds (envOf cfg kk 11 Go.Proofs.Try.f11) kk (lp Go.Proofs.Try.f11 15) m s K
  | 0, at_, deep, m, s, K, h1, h2, h3, h4, h5, h6, hs, hK => by
    obtain ⟨m, rfl⟩ : ∃ j, m = j + 1 := ⟨m - 1, by omega⟩
    refine deep_out kk m b _ i k n u ar deep at_ hs (decide_eq_false (by omega)) ?_
    have : deep + (deepP L 0 at_ : Int) = deep := by simp [deepP]
    rw [this] at hK
    exact hK
  | f + 1, at_, deep, m, s, K, h1, h2, h3, h4, h5, h6, hs, hK => by
    obtain ⟨m, rfl⟩ : ∃ j, m = j + 1 := ⟨m - 1, by omega⟩
    by_cases h : 0 ≤ at_
    · obtain ⟨a, rfl⟩ : ∃ a : Nat, at_ = a := ⟨at_.toNat, by omega⟩
      obtain ⟨x, hx⟩ : ∃ x, L[a]? = some x := ⟨_, List.getElem?_eq_getElem (by omega)⟩
      obtain ⟨hu1, hu2⟩ := hL a x hx (by omega)
      have hw : w64 (deep + 1) = deep + 1 := w64_eq (by omega)
      refine deep_go kk m b _ i k n u ar deep a x.k x.n x.u hs (decide_eq_true h) (nd_at hx) fun s' hs' => ?_
      rw [hw] at hs'
      refine deep_loop L b i k n u ar kk top hL hi hLb f x.u (deep + 1) m s' K (by omega) (by omega) (by omega) (by omega) (by omega) (by omega) hs' ?_
      have : deep + 1 + (deepP L f x.u : Int) = deep + (deepP L (f + 1) a : Int) := by
        simp only [deepP]
        rw [if_pos h]
        simp [hx]
        omega
      rw [this]
      exact hK
    · refine deep_out kk m b _ i k n u ar deep at_ hs (decide_eq_false h) ?_
      have : deep + (deepP L (f + 1) at_ : Int) = deep := by simp only [deepP]; rw [if_neg h]; simp
      rw [this] at hK
      exact hK
end Go.Den
namespace Go.Den
open Go
set_option linter.unusedVariables false
set_option maxRecDepth 100000
theorem upto_next (L : List Nd) (i : Nat) (x : Nd) (kk : Nat) (hk : 1000100 ≤ kk) (hlen : L.length ≤ 1000) (hx : L[i]? = some x) (hup : UpTo L i) (h : shapeP L i x = true) : UpTo L ((i : Int) + 1) := fun j y hy hj => by
  by_cases e : j = i
  · subst e
    rw [hx] at hy
    cases hy
    obtain ⟨_, h2, h3⟩ := chk_shape h
    exact ⟨h2, by omega⟩
  · exact hup j y hy (by omega)
theorem loop10 (L : List Nd) (b : Bool) (i : Nat) (x : Nd) (kk : Nat) (hk : 1000100 ≤ kk) (hlen : L.length ≤ 1000) (hx : L[i]? = some x) (hup : UpTo L i) (r : Bool) (h : (decide ((i : Int) = 0) || aroundP L i ((i : Int) - 1) x.u) = r) : LoopAt cfg kk 11 Go.Proofs.Try.f11 10 (hd44a b (L.map Nd.d) i x.k x.n x.u (decide ((i : Int) = 0)) (w64 ((i : Int) - 1))) (X.exit 2) (out44a b (L.map Nd.d) i x.k x.n x.u r) := by
  have hi := (List.getElem?_eq_some_iff.1 hx).1
  rw [w64_eq (n := (i : Int) - 1) (by omega)]
  exact loopOb_of fun s hs => around_loop L b i x.k x.n x.u kk hup (by omega) (by omega) i _ _ kk s _ (by omega) (by omega) (by omega) (by omega) hs ⟨rfl, by rw [h]⟩
theorem loop15 (L : List Nd) (b : Bool) (i : Nat) (x : Nd) (kk : Nat) (hk : 1000100 ≤ kk) (hlen : L.length ≤ 1000) (hx : L[i]? = some x) (hup : UpTo L i) (hs : shapeP L i x = true) (r : Bool) : LoopAt cfg kk 11 Go.Proofs.Try.f11 15 (hd44b b (L.map Nd.d) i x.k x.n x.u r 0 i) (X.exit 4) (out44b b (L.map Nd.d) i x.k x.n x.u r (deepP L (i + 1) i : Nat)) := by
  have hi := (List.getElem?_eq_some_iff.1 hx).1
  have hu := upto_next L i x kk hk hlen hx hup hs
  exact loopOb_of fun s hs => deep_loop L b i x.k x.n x.u r kk i hu (by omega) (by omega) (i + 1) i 0 kk s _ (by omega) (by omega) (by omega) (by omega) (by omega) (by omega) hs ⟨rfl, by rw [Int.zero_add]⟩
theorem parts_len (L : List Nd) (b : Bool) (i : Nat) (x : Nd) (kk : Nat) (hk : 1000100 ≤ kk) (hlen : L.length ≤ 1000) (hx : L[i]? = some x) (hup : UpTo L i) : den cfg kk 21 [.dat (.lst b (L.map Nd.d)), .dat (I i)] [] [] = some ([.own 3 ((partsP L i L.length).map IN)], [], []) := by
  have hi := (List.getElem?_eq_some_iff.1 hx).1
  exact ev_lcParts L b i (by omega) hi kk (by omega)
/-- A round: the node is good, or it is told that it is not. -/
theorem good_round (L : List Nd) (b : Bool) (i : Nat) (x : Nd) (kk : Nat) (hk : 1000100 ≤ kk) (hlen : L.length ≤ 1000) (hx : L[i]? = some x) (hup : UpTo L i) (m : Nat) (s : St) (K : X → St → Prop)
    (hs : s.norm ((envOf cfg kk 11 Go.Proofs.Try.f11).live (firstRegion (lp Go.Proofs.Try.f11 4))) = hd44 b (L.map Nd.d) i)
    (hn : chk L i x = true → ∀ s : St, s.norm ((envOf cfg kk 11 Go.Proofs.Try.f11).live (firstRegion (lp Go.Proofs.Try.f11 4))) = hd44 b (L.map Nd.d) ((i + 1 : Nat) : Int) → Rounds (envOf cfg kk 11 Go.Proofs.Try.f11) kk (lp Go.Proofs.Try.f11 4) m s K)
    (hK : chk L i x = false → K .ret (Nm [2] [.dat (B false)] [none] [] [])) : Rounds (envOf cfg kk 11 Go.Proofs.Try.f11) kk (lp Go.Proofs.Try.f11 4) (m + 1) s K := by
  have hi := (List.getElem?_eq_some_iff.1 hx).1
  have hx3 := nd_at hx
  have hlt : decide ((i : Int) < ((L.map Nd.d).length : Int)) = true := decide_eq_true hx3.1.2
  have hw : w64 ((i : Int) - 1) = (i : Int) - 1 := w64_eq (by omega)
  have hw2 : w64 ((i : Int) + 1) = ((i + 1 : Nat) : Int) := (w64_eq (by omega)).trans (by omega)
  have hin := ev_l1In x.u (-1) ((i : Int) - 1) kk (by omega)
  have hnum := ev_l1In x.n 0 999 kk (by omega)
  have hkin := ev_l1In x.k 1 5 kk (by omega)
  cases hsh : shapeP L i x with
  | false =>
    have hc : chk L i x = false := by unfold chk; rw [hsh]; rfl
    have hK' := hK hc
    cases h0 : (decide ((i : Int) = 0) == decide (x.u = -1)) with
    | false => exact good_up kk m b _ i x.n x.u x.k hs hlt hx3 (by rw [h0]; rfl) hK'
    | true =>
      have h1 : (decide (-1 ≤ x.u) && decide (x.u ≤ (i : Int) - 1)) = false := by unfold shapeP at hsh; rw [h0, Bool.true_and] at hsh; exact hsh
      rw [h1] at hin
      exact good_in kk m b _ i x.n x.u x.k hs hlt hx3 (by rw [h0]; rfl) (by rw [hw]; exact hin) hK'
  | true =>
  obtain ⟨h3, h4, h5⟩ := chk_shape hsh
  have hin' : den cfg kk 12 [.dat (I x.u), .dat (I (-1)), .dat (I (w64 ((i : Int) - 1)))] [] [] = some ([.dat (B true)], [], []) := by
    rw [hw, hin, decide_eq_true h4, decide_eq_true h5]
    rfl
  have l10 := loop10 L b i x kk hk hlen hx hup
  have l15 := loop15 L b i x kk hk hlen hx hup hsh
  have hp := parts_len L b i x kk hk hlen hx hup
  have hpl : (((partsP L i L.length).map IN).length : Int) = (partsP L i L.length).length := by simp
  have hc0 : chk L i x = ((decide (1 ≤ x.k) && decide (x.k ≤ 5)) && ((decide ((i : Int) = 0) || aroundP L i ((i : Int) - 1) x.u) && (decide (deepP L (i + 1) i ≤ 60) && (decide (((partsP L i L.length).length : Int) = wantP x.k) && numP x)))) := by
    unfold chk
    rw [hsh, Bool.true_and]
  by_cases hkd : 1 ≤ x.k ∧ x.k ≤ 5
  case neg =>
    have hkf : (decide (1 ≤ x.k) && decide (x.k ≤ 5)) = false := by
      cases h : (decide (1 ≤ x.k) && decide (x.k ≤ 5)) with
      | false => rfl
      | true => simp only [Bool.and_eq_true, decide_eq_true_eq] at h; exact (hkd h).elim
    have hc : chk L i x = false := by rw [hc0, hkf]; rfl
    rw [hkf] at hkin
    exact good_kind kk m b _ i x.n x.u x.k hs hlt hx3 h3 hin' hkin (hK hc)
  case pos =>
  have hkb : (decide (1 ≤ x.k) && decide (x.k ≤ 5)) = true := by rw [decide_eq_true hkd.1, decide_eq_true hkd.2]; rfl
  rw [hkb, Bool.true_and] at hc0
  rw [hkb] at hkin
  by_cases hna : 0 ≤ x.n ∧ x.n ≤ 999
  case neg =>
    have hnf : (decide (0 ≤ x.n) && decide (x.n ≤ 999)) = false := by
      cases h : (decide (0 ≤ x.n) && decide (x.n ≤ 999)) with
      | false => rfl
      | true => simp only [Bool.and_eq_true, decide_eq_true_eq] at h; exact (hna h).elim
    have hq : numP x = false := by unfold numP; rw [hnf]; rfl
    have hc : chk L i x = false := by rw [hc0, hq]; simp
    rw [hnf] at hnum
    exact good_n kk m b _ i x.n x.u x.k hs hlt hx3 h3 hin' hkin hnum (hK hc)
  case pos =>
  have hnt : (decide (0 ≤ x.n) && decide (x.n ≤ 999)) = true := by rw [decide_eq_true hna.1, decide_eq_true hna.2]; rfl
  rw [hnt] at hnum
  by_cases hnn : x.k = 1 ∨ x.n = 0
  case neg =>
    have hq : numP x = false := by unfold numP; rw [decide_eq_false (fun h => hnn (.inl h)), decide_eq_false (fun h => hnn (.inr h))]; simp
    have hc : chk L i x = false := by rw [hc0, hq]; simp
    exact good_num kk m b _ i x.n x.u x.k hs hlt hx3 h3 hin' hkin hnum (by simp; omega) (by simp; omega) (hK hc)
  case pos =>
  have hq : numP x = true := by
    unfold numP
    rw [hnt, Bool.true_and]
    rcases hnn with h | h <;> simp [h]
  rw [hq, Bool.and_true] at hc0
  by_cases h1 : x.k = 1
  case pos =>
    have hw : wantP x.k = 0 := by unfold wantP; rw [if_neg (by omega)]
    rw [hw] at hc0
    cases har : (decide ((i : Int) = 0) || aroundP L i ((i : Int) - 1) x.u) with
    | false =>
      have hc : chk L i x = false := by rw [hc0, har]; rfl
      exact good_ar_1 kk m b _ i x.n x.u x.k _ hs hlt hx3 h3 hin' hkin hnum (by simp [h1]) (l10 false har) (l15 false) (decide_eq_false (by omega)) (hK hc)
    | true =>
      by_cases hd : deepP L (i + 1) i ≤ 60
      case neg =>
        have hc : chk L i x = false := by rw [hc0, har, decide_eq_false hd]; rfl
        exact good_deep_1 kk m b _ i x.n x.u x.k _ hs hlt hx3 h3 hin' hkin hnum (by simp [h1]) (l10 true har) (l15 true) (decide_eq_false (by omega)) (decide_eq_true (by omega)) (hK hc)
      case pos =>
        have hdd : decide ((60 : Int) < ((deepP L (i + 1) i : Nat) : Int)) = false := decide_eq_false (by omega)
        by_cases hpc : ((partsP L i L.length).length : Int) = 0
        case neg =>
          have hc : chk L i x = false := by rw [hc0, har, decide_eq_false hpc]; simp
          exact good_parts_1 kk m b _ i x.n x.u x.k _ _ hs hlt hx3 h3 hin' hkin hnum (by simp [h1]) (l10 true har) (l15 true) (decide_eq_false (by omega)) hdd hp (by rw [hpl]; simp only [Bool.not_eq_true', decide_eq_false_iff_not]; omega) (hK hc)
        case pos =>
          have hpp : (!decide ((((partsP L i L.length).map IN).length : Int) = 0)) = false := by rw [hpl]; simp only [Bool.not_eq_false', decide_eq_true_eq]; omega
          have hc : chk L i x = true := by rw [hc0, har, decide_eq_true hd, decide_eq_true hpc]; rfl
          exact good_go_1 kk m b _ i x.n x.u x.k _ _ hs hlt hx3 h3 hin' hkin hnum (by simp [h1]) (l10 true har) (l15 true) (decide_eq_false (by omega)) hdd hp hpp fun s' hs' => hn hc s' (by rw [hs', hw2]; rfl)
  case neg =>
  have hn0 : x.n = 0 := hnn.resolve_left h1
  by_cases h2 : x.k = 2
  case pos =>
    have hw : wantP x.k = 2 := by unfold wantP; rw [if_pos h2]
    rw [hw] at hc0
    cases har : (decide ((i : Int) = 0) || aroundP L i ((i : Int) - 1) x.u) with
    | false =>
      have hc : chk L i x = false := by rw [hc0, har]; rfl
      exact good_ar_2 kk m b _ i x.n x.u x.k _ hs hlt hx3 h3 hin' hkin hnum (by simp [h1]) (by simp [hn0]) (l10 false har) (l15 false) (decide_eq_true h2) (hK hc)
    | true =>
      by_cases hd : deepP L (i + 1) i ≤ 60
      case neg =>
        have hc : chk L i x = false := by rw [hc0, har, decide_eq_false hd]; rfl
        exact good_deep_2 kk m b _ i x.n x.u x.k _ hs hlt hx3 h3 hin' hkin hnum (by simp [h1]) (by simp [hn0]) (l10 true har) (l15 true) (decide_eq_true h2) (decide_eq_true (by omega)) (hK hc)
      case pos =>
        have hdd : decide ((60 : Int) < ((deepP L (i + 1) i : Nat) : Int)) = false := decide_eq_false (by omega)
        by_cases hpc : ((partsP L i L.length).length : Int) = 2
        case neg =>
          have hc : chk L i x = false := by rw [hc0, har, decide_eq_false hpc]; simp
          exact good_parts_2 kk m b _ i x.n x.u x.k _ _ hs hlt hx3 h3 hin' hkin hnum (by simp [h1]) (by simp [hn0]) (l10 true har) (l15 true) (decide_eq_true h2) hdd hp (by rw [hpl]; simp only [Bool.not_eq_true', decide_eq_false_iff_not]; omega) (hK hc)
        case pos =>
          have hpp : (!decide ((((partsP L i L.length).map IN).length : Int) = 2)) = false := by rw [hpl]; simp only [Bool.not_eq_false', decide_eq_true_eq]; omega
          have hc : chk L i x = true := by rw [hc0, har, decide_eq_true hd, decide_eq_true hpc]; rfl
          exact good_go_2 kk m b _ i x.n x.u x.k _ _ hs hlt hx3 h3 hin' hkin hnum (by simp [h1]) (by simp [hn0]) (l10 true har) (l15 true) (decide_eq_true h2) hdd hp hpp fun s' hs' => hn hc s' (by rw [hs', hw2]; rfl)
  case neg =>
    have hw : wantP x.k = 0 := by unfold wantP; rw [if_neg (by omega)]
    rw [hw] at hc0
    cases har : (decide ((i : Int) = 0) || aroundP L i ((i : Int) - 1) x.u) with
    | false =>
      have hc : chk L i x = false := by rw [hc0, har]; rfl
      exact good_ar_3 kk m b _ i x.n x.u x.k _ hs hlt hx3 h3 hin' hkin hnum (by simp [h1]) (by simp [hn0]) (l10 false har) (l15 false) (decide_eq_false (by omega)) (hK hc)
    | true =>
      by_cases hd : deepP L (i + 1) i ≤ 60
      case neg =>
        have hc : chk L i x = false := by rw [hc0, har, decide_eq_false hd]; rfl
        exact good_deep_3 kk m b _ i x.n x.u x.k _ hs hlt hx3 h3 hin' hkin hnum (by simp [h1]) (by simp [hn0]) (l10 true har) (l15 true) (decide_eq_false (by omega)) (decide_eq_true (by omega)) (hK hc)
      case pos =>
        have hdd : decide ((60 : Int) < ((deepP L (i + 1) i : Nat) : Int)) = false := decide_eq_false (by omega)
        by_cases hpc : ((partsP L i L.length).length : Int) = 0
        case neg =>
          have hc : chk L i x = false := by rw [hc0, har, decide_eq_false hpc]; simp
          exact good_parts_3 kk m b _ i x.n x.u x.k _ _ hs hlt hx3 h3 hin' hkin hnum (by simp [h1]) (by simp [hn0]) (l10 true har) (l15 true) (decide_eq_false (by omega)) hdd hp (by rw [hpl]; simp only [Bool.not_eq_true', decide_eq_false_iff_not]; omega) (hK hc)
        case pos =>
          have hpp : (!decide ((((partsP L i L.length).map IN).length : Int) = 0)) = false := by rw [hpl]; simp only [Bool.not_eq_false', decide_eq_true_eq]; omega
          have hc : chk L i x = true := by rw [hc0, har, decide_eq_true hd, decide_eq_true hpc]; rfl
          exact good_go_3 kk m b _ i x.n x.u x.k _ _ hs hlt hx3 h3 hin' hkin hnum (by simp [h1]) (by simp [hn0]) (l10 true har) (l15 true) (decide_eq_false (by omega)) hdd hp hpp fun s' hs' => hn hc s' (by rw [hs', hw2]; rfl)
/-- 'GoodTerm'. -/
theorem ev_GoodTerm (L : List Nd) (b : Bool) (hL : L.length ≤ 1048576) : EvN 1000200 11 [.dat (.lst b (L.map Nd.d))] [] [] ([.dat (B (goodS L))], [], []) := by
  refine (ev_fn Go.Proofs.Try.f11 1000150 (by kernel_rfl) (by kernel_rfl) fun kk hkk => ?_).mono (by omega)
  have hlen : ((L.map Nd.d).length : Int) = L.length := by simp
  have hin := ev_l1In ((L.map Nd.d).length : Int) 1 200 kk (by omega)
  unfold goodS
  cases hr : (decide (1 ≤ (L.length : Int)) && decide ((L.length : Int) ≤ 200)) with
  | false =>
    rw [hlen, hr] at hin
    exact GoodTerm_few kk b _ (by rw [hlen]; exact hin)
  | true =>
    rw [hlen, hr] at hin
    have hL2 : L.length ≤ 200 := by
      simp only [Bool.and_eq_true, decide_eq_true_eq] at hr
      omega
    rw [Bool.true_and]
    have hupto : ∀ j : Nat, j ≤ L.length → (∀ q, q < j → chkAt L q = true) → UpTo L j := fun j hj hc q y hy hq => by
      have := hc q (by omega)
      unfold chkAt chk at this
      rw [hy] at this
      simp only [Bool.and_eq_true] at this
      obtain ⟨_, h2, h3⟩ := chk_shape this.1
      exact ⟨h2, by omega⟩
    cases hall : (List.range L.length).all (chkAt L) with
    | true =>
      have hch : ∀ q, q < L.length → chkAt L q = true := fun q hq => (List.all_eq_true.1 hall) q (List.mem_range.2 hq)
      refine GoodTerm_yes kk b _ (by rw [hlen]; exact hin) ?_
      refine loopAt_range (fun i => hd44 b (L.map Nd.d) i) L.length (by omega) (fun i hi m s K hs hn => ?_) (fun m s K hs hK => ?_) rfl
      · obtain ⟨x, hx⟩ : ∃ x, L[i]? = some x := ⟨_, List.getElem?_eq_getElem hi⟩
        refine good_round L b i x kk (by omega) (by omega) hx (hupto i (by omega) fun q hq => hch q (by omega)) m s K hs (fun _ => hn) fun h => ?_
        have := hch i hi
        unfold chkAt at this
        rw [hx] at this
        rw [show chk L i x = true from this] at h
        cases h
      · exact good_end kk m b _ _ hs (decide_eq_false (by omega)) hK
    | false =>
      obtain ⟨j, q, h1, h2, h3⟩ := first_bad (chkAt L) hall
      have hj : j < L.length := by
        have := (List.getElem?_eq_some_iff.1 h1).1
        simpa using this
      have hqj : q = j := by
        rw [List.getElem?_range hj] at h1
        exact (Option.some.inj h1).symm
      subst hqj
      have hch : ∀ i, i < q → chkAt L i = true := fun i hi => h3 i i hi (List.getElem?_range (by omega))
      refine GoodTerm_no kk b _ (by rw [hlen]; exact hin) ?_
      refine loopAt_range (fun i => hd44 b (L.map Nd.d) i) q (by omega) (fun i hi m s K hs hn => ?_) (fun m s K hs hK => ?_) rfl
      · obtain ⟨x, hx⟩ : ∃ x, L[i]? = some x := ⟨_, List.getElem?_eq_getElem (by omega)⟩
        refine good_round L b i x kk (by omega) (by omega) hx (hupto i (by omega) fun p hp => hch p (by omega)) m s K hs (fun _ => hn) fun h => ?_
        have := hch i hi
        unfold chkAt at this
        rw [hx] at this
        rw [show chk L i x = true from this] at h
        cases h
      · obtain ⟨x, hx⟩ : ∃ x, L[q]? = some x := ⟨_, List.getElem?_eq_getElem hj⟩
        refine good_round L b q x kk (by omega) (by omega) hx (hupto q (by omega) fun p hp => hch p hp) m s K hs (fun h => ?_) fun _ => hK
        unfold chkAt at h2
        rw [hx] at h2
        rw [show chk L q x = false from h2] at h
        cases h
end Go.Den
namespace Go.Den
open Go
set_option linter.unusedVariables false
set_option maxRecDepth 100000
theorem kid_seg {L rest : List Nd} {t : Pt} {at_ : Nat} {up : Int} (h : L.drop at_ = t.flat at_ up ++ rest) (h3 : Apart L at_ t.size) {i : Nat} (hi : i < t.kids.length) :
    ∃ (x : Pt) (p : Nat) (r : List Nd), t.kids[i]? = some x ∧ x ∈ t.kids ∧ (t.places at_)[i]? = some p ∧ L.drop p = x.flat p at_ ++ r ∧ Apart L p x.size := by
  cases t with
  | leaf c n => simp [Pt.kids] at hi
  | app n a b =>
    match i, hi with
    | 0, _ => exact ⟨a, at_ + 1, _, rfl, by simp [Pt.kids], rfl, (seg_app h).1, apart_a h h3⟩
    | 1, _ => exact ⟨b, at_ + 1 + a.size, _, rfl, by simp [Pt.kids], rfl, (seg_app h).2, apart_b h3⟩
    | i + 2, hi => simp [Pt.kids] at hi; omega
theorem places_kids (t : Pt) (at_ : Nat) : (t.places at_).length = t.kids.length := by cases t <;> rfl
theorem ev_lcTree (L : List Nd) (b : Bool) (hL : L.length ≤ 1000000) (N : Nat) (hN : 1000012 ≤ N) : ∀ (d : Nat) (t : Pt) (at_ : Nat) (up : Int) (rest : List Nd), t.depth ≤ d → L.drop at_ = t.flat at_ up ++ rest → Apart L at_ t.size →
    EvN (d + N) 15 [.dat (.lst b (L.map Nd.d)), .dat (I at_)] [] [] ([.dat t.d], [], [])
  | 0, t, at_, up, rest, hd, h, h3 => by have := t.depth_pos; omega
  | d + 1, t, at_, up, rest, hd, h, h3 => by
    refine EvN.mono (ev_fn Go.Proofs.Try.f15 (d + N) (by kernel_rfl) (by kernel_rfl) fun kk hkk => ?_) (by omega)
    have hl := seg_len h
    have hp := t.size_pos
    have hr := nd_at (seg_root h)
    have hparts := ev_lcParts L b at_ hL (by omega) kk (by omega)
    rw [seg_parts h h3] at hparts
    have hle := t.kids_le
    have hpk := places_kids t at_
    rw [Pt.d_eq]
    refine lcTree kk b (L.map Nd.d) at_ t.kd t.num up ((t.places at_).map IN) (t.kids.map Pt.d) hr hr hparts ?_
    let st := fun i : Nat => hd48 b (L.map Nd.d) t.kd t.num ((t.places at_).map IN) i ((t.kids.take i).map Pt.d)
    refine loopAt_range st t.kids.length (by omega) (fun i hi m s K hs hn => ?_) (fun m s K hs hK => ?_) (by simp [st])
    · obtain ⟨x, p, r, h1, h2, h4, h5, h6⟩ := kid_seg h h3 hi
      have hx := Pt.kids_lt h2
      have hto : ((i : Int)).toNat = i := by simp
      have hev := ev_lcTree L b hL N hN d x p at_ r (by omega) h5 h6 kk (by omega)
      rw [Pt.d_eq] at hev
      refine lcTree_go kk m b _ t.kd t.num _ i p x.kd x.num _ _ hs (decide_eq_true (by simp; omega)) ⟨by omega, by simp; omega⟩ (by rw [hto, List.getElem?_map, h4]; rfl) hev (by simp; omega) fun s' hs' => hn s' ?_
      have hstep : (t.kids.take (i + 1)).map Pt.d = (t.kids.take i).map Pt.d ++ [T x.kd x.num (x.kids.map Pt.d)] := by
        rw [List.take_add_one, h1, List.map_append, ← Pt.d_eq]
        rfl
      rw [hs', w64_eq (n := (i : Int) + 1) (by omega)]
      simp only [st, hd48, hstep]
      rfl
    · have hs' : s.norm _ = hd48 b (L.map Nd.d) t.kd t.num ((t.places at_).map IN) t.kids.length ((t.kids.take t.kids.length).map Pt.d) := hs
      rw [List.take_length] at hs'
      exact lcTree_end kk m b _ t.kd t.num _ _ _ hs' (decide_eq_false (by simp; omega)) hK
theorem ev_tree {L : List Nd} {t : Pt} (b : Bool) (h : termOfP L = some t) : EvN 1000100 15 [.dat (.lst b (L.map Nd.d)), .dat (I 0)] [] [] ([.dat t.d], [], []) := by
  obtain ⟨h1, h2⟩ := (termOfP_iff L t).1 h
  have hg := good_facts h1
  subst h2
  exact (ev_lcTree _ b (by rw [t.flat_length]; omega) 1000012 (Nat.le_refl _) t.depth t 0 (-1) [] (Nat.le_refl _) (flat_drop t) flat_apart).mono (by omega)
theorem flat_inj {t s : Pt} (h : t.flat 0 (-1) = s.flat 0 (-1)) : t = s := by
  have h1 := parse_flat (t.flat 0 (-1)) t t.size 0 (-1) [] (flat_drop t) (Nat.le_refl _)
  have hsz : t.size = s.size := by rw [← t.flat_length 0 (-1), h, s.flat_length]
  have h2 := parse_flat (t.flat 0 (-1)) s t.size 0 (-1) [] (by rw [h]; exact flat_drop s) (by omega)
  rw [h1] at h2
  injection h2 with h2
  injection h2
theorem goodS_flat (t : Pt) : goodS (t.flat 0 (-1)) = t.good := by
  cases hg : t.good with
  | true => exact good_tree hg
  | false =>
    cases h : goodS (t.flat 0 (-1)) with
    | false => rfl
    | true =>
      obtain ⟨s, h1, h2⟩ := tree_good h
      rw [flat_inj h2, h1] at hg
      cases hg
theorem ev_lcTold (t : Pt) (hz : t.size ≤ 1000000) : EvN (t.depth + 1000210) 13 [.dat t.d] [] [] ([.own 40 ((if t.good = true then t.flat 0 (-1) else []).map Nd.d), .dat (B t.good)], [], []) := by
  refine ev_fn Go.Proofs.Try.f13 (t.depth + 1000209) (by kernel_rfl) (by kernel_rfl) fun kk hkk => ?_
  have h1 := ev_lcFlat t.depth t [] (-1) (Nat.le_refl _) (by simp) (by omega) kk (by omega)
  have hb := (flatS_facts t [] (-1) (by simp)).2
  have h2 := ev_GoodTerm (flatS t [] (-1)) true (by simp at hb; omega) kk (by omega)
  have hgood : goodS (flatS t [] (-1)) = t.good := by
    by_cases hs : t.size ≤ 200
    · rw [flatS_small hs, goodS_flat]
    · have h3 := flatS_big (t := t) (by omega)
      have : t.good = false := by
        cases hg : t.good with
        | false => rfl
        | true => exact (hs (good_facts hg).1).elim
      rw [this]
      cases hg : goodS (flatS t [] (-1)) with
      | false => rfl
      | true => have := (goodS_iff.1 hg).1.2; omega
  rw [hgood] at h2
  rw [Pt.d_eq] at h1 ⊢
  cases hg : t.good with
  | true =>
    rw [hg] at h2
    rw [flatS_small (good_facts hg).1] at h1 h2
    rw [if_pos rfl]
    exact lcTold_yes kk _ _ _ _ h1 h2
  | false =>
    rw [hg] at h2
    rw [if_neg (fun h => by cases h)]
    exact lcTold_no kk _ _ _ _ h1 h2
/-- A combinator put in for a variable. -/
def putP (x : Int) (s : Pt) : Pt → Pt
  | .leaf c n => if c = .v ∧ n = x then s else .leaf c n
  | .app _ a b => .app 0 (putP x s a) (putP x s b)
theorem putP_size (x : Int) (s : Pt) : ∀ t : Pt, (putP x s t).size ≤ t.size * s.size ∧ (putP x s t).depth ≤ t.depth + s.depth
  | .leaf c n => by
    have h1 := s.size_pos
    have h2 := s.depth_pos
    simp only [putP]
    split
    · simp [Pt.size]
    · simp only [Pt.size, Pt.depth]; omega
  | .app n a b => by
    obtain ⟨h1, h2⟩ := putP_size x s a
    obtain ⟨h3, h4⟩ := putP_size x s b
    have h5 := s.size_pos
    simp only [putP, Pt.size, Pt.depth, Nat.add_mul]
    omega
theorem ev_put (x : Int) (s : Pt) : ∀ (d : Nat) (t : Pt), t.depth ≤ d → EvN (d + 5) 18 [.dat t.d, .dat (I x), .dat s.d] [] [] ([.dat (putP x s t).d], [], [])
  | 0, t, hd => by have := t.depth_pos; omega
  | d + 1, .leaf c n, hd => by
    refine ev_fn Go.Proofs.Try.f18 (d + 5) (by kernel_rfl) (by kernel_rfl) fun kk hkk => ?_
    simp only [putP]
    by_cases hc : c = .v
    · subst hc
      by_cases hn : n = x
      · rw [if_pos ⟨rfl, hn⟩, Pt.d_eq s]
        exact put_hit kk n x _ _ [] _ (decide_eq_true hn)
      · rw [if_neg (fun h => hn h.2), Pt.d_eq s]
        exact put_v kk n x _ _ [] _ (decide_eq_false hn)
    · rw [if_neg (fun h => hc h.1), Pt.d_eq s]
      have h1 : c.kd ≠ 1 := fun e => by cases c <;> first | exact hc rfl | exact absurd e (by decide)
      have h2 := c.kd_in.2.2
      exact put_leaf kk n x _ _ [] _ c.kd (decide_eq_false h1) (by simp [h2])
  | d + 1, .app n a b, hd => by
    refine ev_fn Go.Proofs.Try.f18 (d + 5) (by kernel_rfl) (by kernel_rfl) fun kk hkk => ?_
    simp only [Pt.depth] at hd
    have e1 := ev_put x s d a (by omega) kk (by omega)
    have e2 := ev_put x s d b (by omega) kk (by omega)
    have e3 := ev_lcApp (putP x s a) (putP x s b) kk (by omega)
    have hd1 : (Pt.app n a b).d = T 2 n [a.d, b.d] := rfl
    simp only [putP]
    rw [hd1]
    rw [Pt.d_eq (Pt.app 0 (putP x s a) (putP x s b))] at e3 ⊢
    rw [Pt.d_eq a, Pt.d_eq s, Pt.d_eq (putP x s a)] at e1
    rw [Pt.d_eq b, Pt.d_eq s, Pt.d_eq (putP x s b)] at e2
    rw [Pt.d_eq (putP x s a), Pt.d_eq (putP x s b)] at e3
    rw [Pt.d_eq a, Pt.d_eq b, Pt.d_eq s]
    exact put_app kk n x _ _ [] _ _ _ _ _ _ _ _ _ _ _ _ _ _ _ _ ⟨⟨by omega, by simp⟩, rfl⟩ ⟨⟨by omega, by simp⟩, rfl⟩ e1 e2 e3
theorem putP_kids (x : Int) (s : Pt) (t : Pt) (h : ¬ ∃ n, t = .leaf .v n ∧ n = x) (hn : t.nums = true) : putP x s t = putP x s t ∧ (putP x s t).d = T t.kd t.num ((t.kids.map (putP x s)).map Pt.d) := by
  refine ⟨rfl, ?_⟩
  cases t with
  | leaf c n =>
    simp only [putP]
    rw [if_neg (fun hh => h ⟨n, by rw [hh.1], hh.2⟩)]
    rfl
  | app n a b =>
    simp [Pt.nums] at hn
    rw [hn.1]
    rfl
theorem ev_ldPut (x : Int) (s : Pt) : ∀ (d : Nat) (t : Pt), t.depth ≤ d → t.nums = true → EvN (d + 8) 14 [.dat t.d, .dat (I x), .dat s.d] [] [] ([.dat (putP x s t).d], [], [])
  | 0, t, hd, hn => by have := t.depth_pos; omega
  | d + 1, t, hd, hn => by
    refine ev_fn Go.Proofs.Try.f14 (d + 8) (by kernel_rfl) (by kernel_rfl) fun kk hkk => ?_
    have hle := t.kids_le
    have his : den cfg kk 23 [.dat (T t.kd t.num (t.kids.map Pt.d)), .dat (I x)] [] [] = some ([.dat (B (decide (t.kd = 1) && decide (t.num = x)))], [], []) := by
      refine (ev_fn Go.Proofs.Try.f23 1 (by kernel_rfl) (by kernel_rfl) fun kk hkk => ?_ : EvN 2 23 _ _ _ _) kk (by omega)
      by_cases hk : t.kd = 1
      · rw [is_v kk _ _ _ _ (decide_eq_true hk), decide_eq_true hk, Bool.true_and]
      · rw [is_no kk _ _ _ _ (decide_eq_false hk), decide_eq_false hk, Bool.false_and]
    cases hb : (decide (t.kd = 1) && decide (t.num = x)) with
    | true =>
      rw [hb] at his
      simp only [Bool.and_eq_true, decide_eq_true_eq] at hb
      have : putP x s t = s := by
        cases t with
        | leaf c n =>
          have hc : c = .v := by cases c <;> first | rfl | exact absurd hb.1 (by simp [Pt.kd, Lf.kd])
          simp only [putP]
          exact if_pos ⟨hc, hb.2⟩
        | app n a b => exact absurd hb.1 (by simp [Pt.kd])
      rw [this, Pt.d_eq t, Pt.d_eq s]
      exact ldPut_hit kk x _ _ _ _ _ _ his
    | false =>
      rw [hb] at his
      have hne : ¬ ∃ n, t = .leaf .v n ∧ n = x := fun ⟨n, h1, h2⟩ => by
        subst h1
        subst h2
        simp [Pt.kd, Pt.num, Lf.kd] at hb
      rw [(putP_kids x s t hne hn).2, Pt.d_eq t, Pt.d_eq s]
      refine ldPut kk x _ _ _ _ _ _ _ his ?_
      let st := fun i : Nat => hd14 x s.kd s.num t.kd t.num (s.kids.map Pt.d) (t.kids.map Pt.d) i (((t.kids.take i).map (putP x s)).map Pt.d)
      refine loopAt_range st t.kids.length (by omega) (fun i hi m s0 K hs hn' => ?_) (fun m s0 K hs hK => ?_) (by simp [st])
      · obtain ⟨y, h1, h2, h3⟩ := kid_at hi
        have hy := Pt.kids_lt h2
        have hto : ((i : Int)).toNat = i := by simp
        have hny : y.nums = true := by
          rw [Pt.nums_kids] at hn
          simp only [Bool.and_eq_true, List.all_eq_true] at hn
          exact hn.2 y h2
        have hev := ev_ldPut x s d y (by omega) hny kk (by omega)
        rw [Pt.d_eq y, Pt.d_eq s, Pt.d_eq (putP x s y)] at hev
        refine ldPut_go kk m x _ _ _ _ _ _ _ _ y.kd y.num _ _ _ _ hs (decide_eq_true (by simp; omega)) ⟨⟨by omega, by simp; omega⟩, by rw [hto]; exact h3⟩ hev (by simp; omega) fun s' hs' => hn' s' ?_
        have hstep : ((t.kids.take (i + 1)).map (putP x s)).map Pt.d = ((t.kids.take i).map (putP x s)).map Pt.d ++ [T (putP x s y).kd (putP x s y).num ((putP x s y).kids.map Pt.d)] := by
          rw [List.take_add_one, h1, List.map_append, List.map_append, ← Pt.d_eq]
          rfl
        rw [hs', w64_eq (n := (i : Int) + 1) (by omega)]
        simp only [st, hd14, hstep]
        rfl
      · have hs' : s0.norm _ = hd14 x s.kd s.num t.kd t.num (s.kids.map Pt.d) (t.kids.map Pt.d) t.kids.length (((t.kids.take t.kids.length).map (putP x s)).map Pt.d) := hs
        rw [List.take_length] at hs'
        exact ldPut_end kk m x _ _ _ _ _ _ _ _ hs' (decide_eq_false (by simp)) hK
/-- What putting in comes to, on nodes. -/
def putN (L : List Nd) (k : Int) (M : List Nd) : List Nd × Bool :=
  match termOfP L, termOfP M with
  | some t, some s => if 0 ≤ k ∧ k ≤ 999 then (if (putP k s t).good = true then (putP k s t).flat 0 (-1) else [], (putP k s t).good) else ([], false)
  | _, _ => ([], false)
theorem putN_len (L M : List Nd) (k : Int) : (putN L k M).1.length ≤ 200 := by
  unfold putN
  split
  · split
    · simp only
      split
      · rename_i h; rw [Pt.flat_length]; exact (good_facts h).1
      · simp
    · simp
  · simp
theorem ev_iPut (L M : List Nd) (b1 b2 : Bool) (k : Int) (hL : L.length ≤ 1048576) (hM : M.length ≤ 1048576) : EvN 2000 7 [.dat (.lst b1 (L.map Nd.d)), .dat (I k), .dat (.lst b2 (M.map Nd.d))] [] [] ([.own 40 ((putN L k M).1.map Nd.d), .dat (B (putN L k M).2)], [], []) := by
  refine (ev_fn Go.Proofs.Try.f7 1900 (by kernel_rfl) (by kernel_rfl) fun kk hkk => ?_).mono (by omega)
  obtain ⟨hy1, hn1⟩ := ev_termOf L b1 hL
  obtain ⟨hy2, hn2⟩ := ev_termOf M b2 hM
  unfold putN
  cases h1 : termOfP L with
  | none =>
    obtain ⟨k1, n1, d1, e1⟩ := hn1 h1
    have a1 := e1 kk (by omega)
    cases h2 : termOfP M with
    | none =>
      obtain ⟨k2, n2, d2, e2⟩ := hn2 h2
      exact iPut_no1 kk b1 b2 false _ _ k _ _ _ _ _ _ a1 (e2 kk (by omega))
    | some s =>
      have a2 := hy2 s h2 kk (by omega)
      rw [Pt.d_eq] at a2
      exact iPut_no1 kk b1 b2 true _ _ k _ _ _ _ _ _ a1 a2
  | some t =>
    have a1 := hy1 t h1 kk (by omega)
    have hgt := good_facts ((termOfP_iff L t).1 h1).1
    have a1' := a1
    rw [Pt.d_eq] at a1'
    cases h2 : termOfP M with
    | none =>
      obtain ⟨k2, n2, d2, e2⟩ := hn2 h2
      exact iPut_no2 kk b1 b2 _ _ k _ _ _ _ _ _ a1' (e2 kk (by omega))
    | some s =>
      have a2 := hy2 s h2 kk (by omega)
      have hgs := good_facts ((termOfP_iff M s).1 h2).1
      have a2' := a2
      rw [Pt.d_eq] at a2'
      simp only
      by_cases hk0 : k < 0
      · rw [if_neg (by omega)]
        exact iPut_neg kk b1 b2 _ _ k _ _ _ _ _ _ a1' a2' (decide_eq_true hk0)
      · by_cases hk9 : 999 < k
        · rw [if_neg (by omega)]
          exact iPut_big kk b1 b2 _ _ k _ _ _ _ _ _ a1' a2' (decide_eq_false hk0) (decide_eq_true hk9)
        · rw [if_pos (by omega)]
          obtain ⟨hsz, hdp⟩ := putP_size k s t
          have hm : t.size * s.size ≤ 200 * 200 := Nat.mul_le_mul hgt.1 hgs.1
          have a3 := ev_put k s 60 t (by omega) kk (by omega)
          have a4 := ev_goodNodes (putP k s t) (by omega) kk (by omega)
          generalize putP k s t = r at *
          rw [Pt.d_eq t, Pt.d_eq s, Pt.d_eq r] at a3
          rw [Pt.d_eq r] at a4
          exact iPut_go kk b1 b2 r.good _ _ _ k _ _ _ _ _ _ _ _ _ a1' a2' (decide_eq_false hk0) (decide_eq_false hk9) a3 a4
theorem ev_sPut (L M : List Nd) (b1 b2 : Bool) (k : Int) (hL : L.length ≤ 1048576) (hM : M.length ≤ 1048576) : EvN 1002000 5 [.dat (.lst b1 (L.map Nd.d)), .dat (I k), .dat (.lst b2 (M.map Nd.d))] [] [] ([.own 40 ((putN L k M).1.map Nd.d), .dat (B (putN L k M).2)], [], []) := by
  refine (ev_fn Go.Proofs.Try.f5 1001900 (by kernel_rfl) (by kernel_rfl) fun kk hkk => ?_).mono (by omega)
  have g1 := ev_GoodTerm L b1 hL kk (by omega)
  have g2 := ev_GoodTerm M b2 hM kk (by omega)
  have hin := ev_l1In k 0 999 kk (by omega)
  rw [goodS_term] at g1 g2
  unfold putN
  cases h1 : termOfP L with
  | none =>
    rw [h1] at g1
    exact sPut_no1 kk b1 b2 _ _ k g1
  | some t =>
    have hgt := good_facts ((termOfP_iff L t).1 h1).1
    rw [h1] at g1
    cases h2 : termOfP M with
    | none =>
      rw [h2] at g2
      exact sPut_no2 kk b1 b2 _ _ k g1 g2
    | some s =>
      have hgs := good_facts ((termOfP_iff M s).1 h2).1
      rw [h2] at g2
      simp only
      cases hk : (decide (0 ≤ k) && decide (k ≤ 999)) with
      | false =>
        rw [hk] at hin
        rw [if_neg (fun h => by simp [h.1, h.2] at hk)]
        exact sPut_no3 kk b1 b2 _ _ k g1 g2 hin
      | true =>
        rw [hk] at hin
        have hk' : 0 ≤ k ∧ k ≤ 999 := by simpa using hk
        rw [if_pos hk']
        obtain ⟨hsz, hdp⟩ := putP_size k s t
        have hm : t.size * s.size ≤ 200 * 200 := Nat.mul_le_mul hgt.1 hgs.1
        have a1 := ev_tree b1 h1 kk (by omega)
        have a2 := ev_tree b2 h2 kk (by omega)
        have a3 := ev_ldPut k s 60 t (by omega) hgt.2.2 kk (by omega)
        have a4 := ev_lcTold (putP k s t) (by omega) kk (by omega)
        generalize putP k s t = r at *
        rw [Pt.d_eq] at a1 a2
        rw [Pt.d_eq t, Pt.d_eq s, Pt.d_eq r] at a3
        rw [Pt.d_eq r] at a4
        exact sPut_go kk b1 b2 r.good _ _ _ k _ _ _ _ _ _ _ _ _ g1 g2 hin a1 a2 a3 a4
end Go.Den
namespace Go.Den
open Go
set_option linter.unusedVariables false
set_option maxRecDepth 100000
theorem wt_int {n : Nat} {d : Dat} {i : TI} {k : IntKind} (h : WT cfg.ty n d) (ht : cfg.ty n = some i) (hk : i.kind = .int k) : ∃ x : Int, d = .val (.int k x) ∧ (Lit.int k x).wf = true := by
  cases h with
  | @int _ i' k' x ht' hk' hw => rw [ht] at ht'; cases ht'; rw [hk] at hk'; cases hk'; exact ⟨x, rfl, hw⟩
  | bool ht' hk' => rw [ht] at ht'; cases ht'; rw [hk] at hk'; cases hk'
  | str ht' hk' => rw [ht] at ht'; cases ht'; rw [hk] at hk'; cases hk'
  | lst ht' hk' => rw [ht] at ht'; cases ht'; rw [hk] at hk'; cases hk'
  | agg ht' hk' => rw [ht] at ht'; cases ht'; rw [hk] at hk'; cases hk'
theorem wt_lst {n e : Nat} {d : Dat} {i : TI} (h : WT cfg.ty n d) (ht : cfg.ty n = some i) (hk : i.kind = .slice e) : ∃ es : List Dat, d = .lst false es ∧ es.length ≤ maxLen ∧ ∀ x ∈ es, WT cfg.ty e x := by
  cases h with
  | int ht' hk' => rw [ht] at ht'; cases ht'; rw [hk] at hk'; cases hk'
  | bool ht' hk' => rw [ht] at ht'; cases ht'; rw [hk] at hk'; cases hk'
  | str ht' hk' => rw [ht] at ht'; cases ht'; rw [hk] at hk'; cases hk'
  | @lst _ i' e' es ht' hk' hl hx => rw [ht] at ht'; cases ht'; rw [hk] at hk'; cases hk'; exact ⟨es, rfl, hl, hx⟩
  | agg ht' hk' => rw [ht] at ht'; cases ht'; rw [hk] at hk'; cases hk'
theorem wt_agg {n : Nat} {d : Dat} {i : TI} (h : WT cfg.ty n d) (ht : cfg.ty n = some i) (hk : i.kind = .struct) : ∃ cs : List Dat, d = .agg cs ∧ cs.length = i.fs.length ∧ ∀ (j : Nat) (f : Nat × Nat) (x : Dat), i.fs[j]? = some f → cs[j]? = some x → WT cfg.ty f.2 x := by
  cases h with
  | int ht' hk' => rw [ht] at ht'; cases ht'; rw [hk] at hk'; cases hk'
  | bool ht' hk' => rw [ht] at ht'; cases ht'; rw [hk] at hk'; cases hk'
  | str ht' hk' => rw [ht] at ht'; cases ht'; rw [hk] at hk'; cases hk'
  | lst ht' hk' => rw [ht] at ht'; cases ht'; rw [hk] at hk'; cases hk'
  | @agg _ i' cs ht' hk' hl hx => rw [ht] at ht'; cases ht'; exact ⟨cs, rfl, hl, hx⟩
theorem int_of {d : Dat} (h : WT cfg.ty 3 d) : ∃ n : Int, d = I n := by
  obtain ⟨n, h1, _⟩ := wt_int h (i := ⟨.int .i64, 1, 8, [], [.dat (.val (.int .i64 0))]⟩) (by kernel_rfl) rfl
  exact ⟨n, h1⟩
theorem nd_of {d : Dat} (h : WT cfg.ty 42 d) : ∃ x : Nd, d = x.d := by
  obtain ⟨cs, rfl, hl, hx⟩ := wt_agg h (i := ⟨.struct, 3, 24, [(0, 3), (1, 3), (2, 3)], [.dat (.val (.int .i64 0)), .dat (.val (.int .i64 0)), .dat (.val (.int .i64 0))]⟩) (by kernel_rfl) rfl
  match cs, hl, hx with
  | [a, b, c], _, hx =>
    obtain ⟨k, rfl⟩ := int_of (hx 0 (0, 3) a rfl rfl)
    obtain ⟨n, rfl⟩ := int_of (hx 1 (1, 3) b rfl rfl)
    obtain ⟨u, rfl⟩ := int_of (hx 2 (2, 3) c rfl rfl)
    exact ⟨⟨k, n, u⟩, rfl⟩
theorem nds_of : ∀ {es : List Dat}, (∀ x ∈ es, WT cfg.ty 42 x) → ∃ L : List Nd, es = L.map Nd.d
  | [], h => ⟨[], rfl⟩
  | d :: es, h => by
    obtain ⟨x, rfl⟩ := nd_of (h d (by simp))
    obtain ⟨L, rfl⟩ := nds_of fun y hy => h y (List.mem_cons_of_mem _ hy)
    exact ⟨x :: L, rfl⟩
theorem terms_of {d : Dat} (h : WT cfg.ty 22 d) : ∃ L : List Nd, d = .lst false (L.map Nd.d) ∧ L.length ≤ 9223372036854775807 := by
  obtain ⟨es, rfl, hl, hx⟩ := wt_lst h (i := ⟨.slice 42, 1, 24, [], [.own 42 []]⟩) (by kernel_rfl) rfl
  obtain ⟨L, rfl⟩ := nds_of hx
  rw [List.length_map] at hl
  exact ⟨L, rfl, hl⟩
theorem nds_clean : ∀ L : List Nd, Dat.cleans (L.map Nd.d) = true
  | [] => rfl
  | x :: L => by
    have := nds_clean L
    simp only [List.map_cons, Dat.cleans, this, Bool.and_true]
    rfl
theorem own_clean (L : List Nd) (r : Bool) : D.cleans [.own 40 (L.map Nd.d), .dat (B r)] = true := by
  simp only [D.cleans, D.clean, nds_clean]
  rfl
end Go.Den
namespace Go.Den
open Go
set_option linter.unusedVariables false
set_option maxRecDepth 100000
theorem put_law (L M : List Nd) (k : Int) (hL : L.length ≤ 1048576) (hM : M.length ≤ 1048576) (hs : L.length + M.length ≤ 1048576) (kk : Nat) (hkk : 1100000 ≤ kk) :
    runFn cfg kk (den cfg kk) 3 Go.Proofs.Try.f3 [.dat (.lst false (L.map Nd.d)), .dat (I k), .dat (.lst false (M.map Nd.d))] [] [] = some ([.dat (B true)], [], []) := by
  have hl1 : (L.map Nd.d).length = L.length := by simp
  have hl2 : (M.map Nd.d).length = M.length := by simp
  have z1 := ev_sz_go (L.map Nd.d) 1048576 false (by omega) (by omega) kk (by omega)
  have z2 := ev_sz_go (M.map Nd.d) (1048576 - (L.map Nd.d).length) false (by omega) (by omega) kk (by omega)
  have t1 := ev_toTermS L hL kk (by omega)
  have t2 := ev_toTermS M hM kk (by omega)
  have s1 := ev_sPut L M true true k hL hM kk (by omega)
  have s2 := ev_iPut L M true true k hL hM kk (by omega)
  have hw := putN_len L M k
  have e1 := ev_eqTermS (putN L k M).1 true true (by omega) kk (by omega)
  have e2 := ev_eqTermS L true true hL kk (by omega)
  have e3 := ev_eqTermS M true true hM kk (by omega)
  have m1 := ev_mark L 1 hL (by omega) (by omega) kk (by omega)
  have m2 := ev_mark M (1 + 3 * L.length) hM (by omega) (by omega) kk (by omega)
  have m3 := ev_mark (putN L k M).1 1 (by omega) (by omega) (by omega) kk (by omega)
  have q1 := ev_held (putN L k M).1.length 1 true (by omega) (by omega) (by omega) kk (by omega)
  have c := own_clean (putN L k M).1 (putN L k M).2
  generalize (putN L k M).1 = W at *
  generalize (putN L k M).2 = r at *
  cases r with
  | true => exact putC_true kk k _ _ _ _ _ _ _ _ _ _ _ _ _ _ _ z1 (decide_eq_false (by omega)) z2 (decide_eq_false (by omega)) t1 t2 c s1 t1 t2 c s2 e1 t1 e2 t2 e3 m1 m2 (decide_eq_false (by omega)) e1 m3 q1 (decide_eq_false (by omega)) (by simp) t1 t2 c s2 e1 q1 (decide_eq_false (by omega)) (by simp)
  | false => exact putC_false kk k _ _ _ _ _ _ _ _ _ _ _ _ _ _ _ z1 (decide_eq_false (by omega)) z2 (decide_eq_false (by omega)) t1 t2 c s1 t1 t2 c s2 e1 t1 e2 t2 e3 m1 m2 (decide_eq_false (by omega)) e1 m3 q1 (decide_eq_false (by omega)) (by simp) t1 t2 c s2 e1 q1 (decide_eq_false (by omega)) (by simp)
theorem fnExactPutComb_den : ∀ (d0 d1 d2 : Dat), WT cfg.ty 22 d0 → WT cfg.ty 3 d1 → WT cfg.ty 22 d2 → ∃ k, den cfg k 3 [.dat d0, .dat d1, .dat d2] [] [] = some ([.dat (.val (.bool true))], [], []) := by
  intro d0 d1 d2 w0 w1 w2
  obtain ⟨L, rfl, hL⟩ := terms_of w0
  obtain ⟨k, rfl⟩ := int_of w1
  obtain ⟨M, rfl, hM⟩ := terms_of w2
  have hl1 : (L.map Nd.d).length = L.length := by simp
  have hl2 : (M.map Nd.d).length = M.length := by simp
  refine ⟨1100001, ev_fn Go.Proofs.Try.f3 1100000 (by kernel_rfl) (by kernel_rfl) (fun kk hkk => ?_) 1100001 (Nat.le_refl _)⟩
  by_cases h1 : 1048576 < L.length
  · have z1 := ev_sz_no (L.map Nd.d) 1048576 false (by omega) (by omega) (by omega) kk (by omega)
    exact putC_small1 kk k _ _ _ z1 (by decide)
  · have z1 := ev_sz_go (L.map Nd.d) 1048576 false (by omega) (by omega) kk (by omega)
    by_cases h2 : 1048576 < L.length + M.length
    · have z2 := ev_sz_no (M.map Nd.d) (1048576 - (L.map Nd.d).length) false (by omega) (by omega) (by omega) kk (by omega)
      exact putC_small2 kk k _ _ _ _ z1 (decide_eq_false (by omega)) z2 (by decide)
    · exact put_law L M k (by omega) (by omega) (by omega) kk hkk
end Go.Den
namespace Go.Proofs.Ytookiiimhdbcmaa.fnExactPutComb
open Go.ChangeShapes Go.WideShapes Go.ChangeAt Go.RowKit Go.Den
set_option linter.unusedVariables false
theorem own : ownKnob Try.prog.godebug = none := by kernel_rfl
theorem laidOut : laidOutB Try.prog = true := by kernel_rfl
theorem body : (Try.f3.body).isSome = true := by kernel_rfl
theorem fnThere : cfg.fn 3 = some Try.f3 := by kernel_rfl
theorem plain3 : plainTy cfg.ty 8 3 = true := by kernel_rfl
theorem plain22 : plainTy cfg.ty 8 22 = true := by kernel_rfl
set_option maxRecDepth 100000 in
theorem lifted (os : Os) (started : os.Started) (H : Type) (enc : TypeId × Value → H) :
    ReturnsInHanded {} Try.checked os 3 .any (Rows.fnExactPutCombSpec.pre6 enc Try.prog Try.f3 Rows.fnExactPutCombRow.domain false) (Rows.fnExactPutCombSpec.post enc Try.prog Try.f3 false true false false) := by
  refine returnsInHanded_of_change (C := Try.checked) own started (by kernel_rfl) Try.func3
    (ChangeSpec.witness6 (enc := enc) (C := Try.checked) false ⟨#[], #[.slice none 0 0, .int .i64 0, .slice none 0 0], []⟩ 8 (by kernel_rfl) (by kernel_rfl) (by kernel_rfl) (by kernel_rfl)) ?_
  intro W base args ds gs before hval0 hW hcnd _
  have hval : ∀ (j : Nat) t v, Try.f3.params[j]? = some t → args[j]? = some v → Value.okWide Try.prog W .any base t v := hval0
  have hW' := hW
  obtain ⟨p, q, hA0, hV, rfl, hfz, hnd⟩ := hW
  have hA : DataW.TrodAll enc Try.prog W 0 (fun _ => true) true Try.f3.params.toList args.toList ds p := hA0
  rw [Try.params3] at hA hval
  obtain ⟨v0, vs0, d0, ds0, p0, q0, hargs, rfl, rfl, h0, r0⟩ := trodAll_cons hA
  obtain ⟨v1, vs1, d1, ds1, p1, q1, rfl, rfl, rfl, h1, r1⟩ := trodAll_cons r0
  obtain ⟨v2, vs2, d2, ds2, p2, q2, rfl, rfl, rfl, h2, r2⟩ := trodAll_cons r1
  obtain ⟨rfl, rfl, rfl⟩ := trodAll_nil r2
  obtain rfl : args = #[v0, v1, v2] := by cases args; simp_all
  obtain ⟨rfl, rfl⟩ := trodVars_none hV
  have k0 := h0
  have lt0 : ∀ x ∈ p0, x.block < W.heap.size := by obtain ⟨m, hm⟩ := k0; exact DataW.trod_lt m _ _ _ hm
  obtain ⟨e0, cv0, R0, V0, T0⟩ := arg_dat cfg_ty plain22 (hval 0 22 v0 rfl rfl) h0
  have k1 := h1
  have lt1 : ∀ x ∈ p1, x.block < W.heap.size := by obtain ⟨m, hm⟩ := k1; exact DataW.trod_lt m _ _ _ hm
  obtain ⟨e1, cv1, R1, V1, T1⟩ := arg_dat cfg_ty plain3 (hval 1 3 v1 rfl rfl) h1
  have k2 := h2
  have lt2 : ∀ x ∈ p2, x.block < W.heap.size := by obtain ⟨m, hm⟩ := k2; exact DataW.trod_lt m _ _ _ hm
  obtain ⟨e2, cv2, R2, V2, T2⟩ := arg_dat cfg_ty plain22 (hval 2 22 v2 rfl rfl) h2
  clear hA0 hval0
  have hden := fnExactPutComb_den e0 e1 e2 T0 T1 T2
  refine (law_calls (P := Try.prog) (C := cfg) (f := 3) (fn := Try.f3) (vals := #[v0, v1, v2]) (ds := [e0, e1, e2]) (W := W) (b := true) den_true.out (cfg_fn fnThere) body rfl (fun j d v hj hv => ?_) hden).mono fun e W' hh => ?_
  · match j, hj, hv with
    | 0, hj, hv => cases hj; cases hv; exact ⟨cv0, R0, V0⟩
    | 1, hj, hv => cases hj; cases hv; exact ⟨cv1, R1, V1⟩
    | 2, hj, hv => cases hj; cases hv; exact ⟨cv2, R2, V2⟩
    | j + 3, hj, hv => simp at hj
  · obtain ⟨he, bel⟩ := hh
    subst he
    exact ⟨_, rfl, _, _, _, [], _, [], hW', trodAll_mk1 (shut_bool Try.underlying4 _), (trodAll_cons_mk (Below.trod laidOut (by kernel_rfl) (of_decide_eq_true (by kernel_rfl)) k0 bel lt0) (trodAll_cons_mk (Below.trod laidOut (by kernel_rfl) (of_decide_eq_true (by kernel_rfl)) k1 bel lt1) (trodAll_cons_mk (Below.trod laidOut (by kernel_rfl) (of_decide_eq_true (by kernel_rfl)) k2 bel lt2) trodAll_mk0))), rfl, bel.frame _, fun h => by cases h⟩
theorem over : Rows.fnExactPutCombRow.holds Try.pinned (OpenSpec.ofChange Rows.fnExactPutCombSpec) :=
  OpenClaim.holds_of_wide 3 Try.f3 rfl rfl rfl rfl rfl rfl rfl ⟨rfl, rfl, rfl, rfl, rfl⟩ rfl rfl rfl rfl rfl (by kernel_rfl) Try.func3 (by kernel_rfl)
    (of_decide_eq_true (by kernel_rfl)) (by unfold Func.isWrapper; first | (rw [if_pos (by decide +kernel)]; kernel_rfl) | (rw [if_neg (by decide +kernel)]; exact ⟨rfl, rfl⟩))
    (fun os started H enc _ => lifted os started H enc)
theorem proved : Rows.FnExactPutCombSaid := over
end Go.Proofs.Ytookiiimhdbcmaa.fnExactPutComb
namespace Go.Proofs.Ytookiiimhdbcmaa
/-- The row, under a short name, for the claim. -/
theorem fnExactPutComb_holds : Rows.FnExactPutCombSaid := fnExactPutComb.proved
end Go.Proofs.Ytookiiimhdbcmaa
