/- Merged out of: W8 W9 W10 W11 W12 W13 WA WB WC WE WF WG WH WI WJ WK WL WN WM (prune.py, a program of this work's). -/
import Derived.Test.YtcehfbegcapmnaaD5
import Derived.Test.YtcehfbegcapmnaaD4
import Derived.KernelRfl
set_option linter.unusedVariables false
set_option linter.unusedSimpArgs false
set_option linter.unnecessarySimpa false
namespace Go.Den
open Go
set_option linter.unusedVariables false
set_option maxRecDepth 100000
def stp (k : Nat) (l : List Nd) (x : Pt) : List Nd := if l.length ≤ 150 then flatS x l k else l
theorem flatS_kids (t : Pt) (l : List Nd) (up : Int) : flatS t l up = t.kids.foldl (stp l.length) (l ++ [⟨t.kd, t.num, up⟩]) := by
  cases t <;> simp [flatS, Pt.kids, stp, Pt.kd, Pt.num]
theorem foldl_step {ks : List Pt} {i : Nat} {x : Pt} (h : ks[i]? = some x) (k : Nat) (l : List Nd) : (ks.take (i + 1)).foldl (stp k) l = stp k ((ks.take i).foldl (stp k) l) x := by
  rw [List.take_add_one, h, List.foldl_append]
  rfl
theorem ev_lcFlat : ∀ (d : Nat) (t : Pt) (l : List Nd) (up : Int), t.depth ≤ d → l.length ≤ 150 → t.size ≤ 1000000000 →
    EvN (d + 5) 89 [.own 50 (l.map Nd.d), .dat t.d, .dat (I up)] [] [] ([.own 50 ((flatS t l up).map Nd.d)], [], [])
  | 0, t, l, up, hd, hl, hz => by have := t.depth_pos; omega
  | d + 1, t, l, up, hd, hl, hz => by
    refine ev_fn Go.Proofs.Try.f89 (d + 5) (by kernel_rfl) (by kernel_rfl) fun kk hkk => ?_
    have hle := t.kids_le
    have hsz := t.size_kids
    rw [Pt.d_eq, flatS_kids]
    have hll : ((l.map Nd.d).length : Int) = l.length := by simp
    refine lcFlat kk _ _ _ up _ _ (by simp; omega) ?_
    rw [hll]
    let acc := fun i : Nat => (t.kids.take i).foldl (stp l.length) (l ++ [⟨t.kd, t.num, up⟩])
    let st := fun i : Nat => hd89 ((acc i).map Nd.d) l.length (t.kids.map Pt.d) i
    refine loopAt_range st t.kids.length (by omega) (fun i hi m s K hs hn => ?_) (fun m s K hs hK => ?_) (by simp [st, acc]; rfl)
    · obtain ⟨x, h1, h2, h3⟩ := kid_at hi
      have hx := Pt.kids_lt h2
      have hto : ((i : Int)).toNat = i := by simp
      have hal : (((acc i).map Nd.d).length : Int) = (acc i).length := by simp
      have hacc : acc (i + 1) = stp l.length (acc i) x := foldl_step h1 _ _
      by_cases hc : (acc i).length ≤ 150
      · have hev := ev_lcFlat d x (acc i) l.length (by omega) hc (by omega) kk (by omega)
        rw [Pt.d_eq] at hev
        refine lcFlat_go kk m _ _ _ _ x.kd x.num _ _ hs (decide_eq_true (by simp; omega)) ⟨⟨by omega, by simp; omega⟩, by rw [hto]; exact h3⟩ (decide_eq_true (by omega)) hev fun s' hs' => hn s' ?_
        have : acc (i + 1) = flatS x (acc i) l.length := by rw [hacc]; unfold stp; rw [if_pos hc]
        rw [hs', w64_eq (n := (i : Int) + 1) (by omega), ← this]
        rfl
      · refine lcFlat_skip kk m _ _ _ _ x.kd x.num _ hs (decide_eq_true (by simp; omega)) ⟨⟨by omega, by simp; omega⟩, by rw [hto]; exact h3⟩ (decide_eq_false (by omega)) fun s' hs' => hn s' ?_
        have : acc (i + 1) = acc i := by rw [hacc]; unfold stp; rw [if_neg hc]
        rw [hs', w64_eq (n := (i : Int) + 1) (by omega), ← this]
        rfl
    · refine lcFlat_end kk m _ _ _ _ hs (decide_eq_false (by simp)) ?_
      have : acc t.kids.length = t.kids.foldl (stp l.length) (l ++ [⟨t.kd, t.num, up⟩]) := by simp only [acc, List.take_length]
      rw [this]
      exact hK
def upAt (L : List Nd) (q : Nat) (k : Nat) : Bool := match L[q]? with | some x => decide (x.u = (k : Int)) | none => false
def partsP (L : List Nd) (k : Nat) : Nat → List Nat
  | 0 => []
  | n + 1 => if k < n ∧ upAt L n k = true then partsP L k n ++ [n] else partsP L k n
theorem partsP_low (L : List Nd) (k : Nat) : ∀ n, n ≤ k + 1 → partsP L k n = []
  | 0, _ => rfl
  | n + 1, h => by
    simp only [partsP]
    rw [if_neg (by omega)]
    exact partsP_low L k n (by omega)
theorem partsP_length (L : List Nd) (k : Nat) : ∀ n, (partsP L k n).length ≤ n
  | 0 => Nat.le_refl _
  | n + 1 => by
    have := partsP_length L k n
    simp only [partsP]
    split
    · simp; omega
    · omega
def IN (q : Nat) : Dat := I (q : Int)
theorem ev_lcParts (L : List Nd) (b : Bool) (k : Nat) (hL : L.length ≤ 1000000) (hk : k < L.length) : EvN 1000010 88 [.dat (.lst b (L.map Nd.d)), .dat (I k)] [] [] ([.own 3 ((partsP L k L.length).map IN)], [], []) := by
  refine ev_fn Go.Proofs.Try.f88 1000009 (by kernel_rfl) (by kernel_rfl) fun kk hkk => ?_
  refine lcParts kk b _ k _ ?_
  have hlen : (L.map Nd.d).length = L.length := by simp
  have hw : w64 ((k : Int) + 1) = ((k + 1 : Nat) : Int) := (w64_eq (by omega)).trans (by omega)
  rw [hw]
  let st := fun i : Nat => hd88 b (L.map Nd.d) k ((k + 1 + i : Nat) : Int) ((partsP L k (k + 1 + i)).map IN)
  refine loopAt_range st (L.length - (k + 1)) (by omega) (fun i hi m s K hs hn => ?_) (fun m s K hs hK => ?_) (by simp [st, partsP_low])
  · obtain ⟨x, hx⟩ : ∃ x, L[k + 1 + i]? = some x := ⟨_, List.getElem?_eq_getElem (by omega)⟩
    have hx3 := nd_at hx
    have hpl := partsP_length L k (k + 1 + i)
    have hwi : w64 (((k + 1 + i : Nat) : Int) + 1) = ((k + 1 + (i + 1) : Nat) : Int) := (w64_eq (by omega)).trans (by omega)
    by_cases hu : x.u = (k : Int)
    · refine lcParts_in kk m b _ k _ x.k x.n x.u _ hs (decide_eq_true (by omega)) hx3 (decide_eq_true hu) (by simp; omega) fun s' hs' => hn s' ?_
      have : partsP L k (k + 1 + (i + 1)) = partsP L k (k + 1 + i) ++ [k + 1 + i] := by
        show partsP L k (k + 1 + i + 1) = _
        simp only [partsP]
        rw [if_pos ⟨by omega, by simp [upAt, hx, hu]⟩]
      rw [hs', hwi]
      simp only [st, hd88, this, List.map_append]
      rfl
    · refine lcParts_no kk m b _ k _ x.k x.n x.u _ hs (decide_eq_true (by omega)) hx3 (decide_eq_false hu) fun s' hs' => hn s' ?_
      have : partsP L k (k + 1 + (i + 1)) = partsP L k (k + 1 + i) := by
        show partsP L k (k + 1 + i + 1) = _
        simp only [partsP]
        rw [if_neg (by simp [upAt, hx, hu])]
      rw [hs', hwi]
      simp only [st, hd88, this]
  · have hs' : s.norm _ = hd88 b (L.map Nd.d) k ((k + 1 + (L.length - (k + 1)) : Nat) : Int) ((partsP L k (k + 1 + (L.length - (k + 1)))).map IN) := hs
    rw [show k + 1 + (L.length - (k + 1)) = L.length by omega] at hs'
    exact lcParts_end kk m b _ k _ _ hs' (decide_eq_false (by omega)) hK
def aroundP (L : List Nd) : Nat → Int → Int → Bool
  | 0, _, _ => false
  | f + 1, at_, u => if 0 ≤ at_ then (if at_ = u then true else match L[at_.toNat]? with | some x => aroundP L f x.u u | none => false) else false
def deepP (L : List Nd) : Nat → Int → Nat
  | 0, _ => 0
  | f + 1, at_ => if 0 ≤ at_ then (match L[at_.toNat]? with | some x => deepP L f x.u + 1 | none => 0) else 0
/-- Up to a place every node's parent stands before it. -/
def UpTo (L : List Nd) (m : Int) : Prop := ∀ (j : Nat) (x : Nd), L[j]? = some x → (j : Int) < m → -1 ≤ x.u ∧ x.u < j
theorem around_loop (L : List Nd) (b : Bool) (i : Int) (k n u : Int) (kk : Nat) (hL : UpTo L i) (hi : i ≤ L.length) (hLb : L.length ≤ 1000000) : ∀ (f : Nat) (at_ : Int) (ar : Bool) (m : Nat) (s : St) (K : X → St → Prop), at_ < f → -1 ≤ at_ → at_ < i → f < m →
    s.norm ((envOf cfg kk 44 Go.Proofs.Try.f44).live (firstRegion (lp Go.Proofs.Try.f44 10))) = hd44a b (L.map Nd.d) i k n u ar at_ → K (.exit 2) (out44a b (L.map Nd.d) i k n u (ar || aroundP L f at_ u)) → Rounds (envOf cfg kk 44 Go.Proofs.Try.f44) kk (lp Go.Proofs.Try.f44 10) m s K
  | f, at_, true, m, s, K, h1, h2, h3, h4, hs, hK => by
    obtain ⟨m, rfl⟩ : ∃ j, m = j + 1 := ⟨m - 1, by omega⟩
    by_cases h : 0 ≤ at_
    · exact around_yes kk m b _ i k n u at_ hs (decide_eq_true h) hK
    · exact around_out kk m b _ i k n u at_ true hs (decide_eq_false h) hK
  | 0, at_, false, m, s, K, h1, h2, h3, h4, hs, hK => by
    obtain ⟨m, rfl⟩ : ∃ j, m = j + 1 := ⟨m - 1, by omega⟩
    exact around_out kk m b _ i k n u at_ false hs (decide_eq_false (by omega)) hK
  | f + 1, at_, false, m, s, K, h1, h2, h3, h4, hs, hK => by
    obtain ⟨m, rfl⟩ : ∃ j, m = j + 1 := ⟨m - 1, by omega⟩
    by_cases h : 0 ≤ at_
    · obtain ⟨a, rfl⟩ : ∃ a : Nat, at_ = a := ⟨at_.toNat, by omega⟩
      obtain ⟨x, hx⟩ : ∃ x, L[a]? = some x := ⟨_, List.getElem?_eq_getElem (by omega)⟩
      obtain ⟨hu1, hu2⟩ := hL a x hx (by omega)
      refine around_go kk m b _ i k n u a x.k x.n x.u hs (decide_eq_true h) (nd_at hx) fun s' hs' => ?_
      refine around_loop L b i k n u kk hL hi hLb f x.u (decide ((a : Int) = u)) m s' K (by omega) (by omega) (by omega) (by omega) hs' ?_
      have : (decide ((a : Int) = u) || aroundP L f x.u u) = (false || aroundP L (f + 1) a u) := by
        simp only [aroundP]
        rw [if_pos h]
        by_cases he : (a : Int) = u
        · simp [he]
        · simp [he, hx]
      rw [this]
      exact hK
    · refine around_out kk m b _ i k n u at_ false hs (decide_eq_false h) ?_
      have : (false || aroundP L (f + 1) at_ u) = false := by simp only [aroundP]; rw [if_neg h]; rfl
      rw [this] at hK
      exact hK
theorem deep_loop (L : List Nd) (b : Bool) (i : Int) (k n u : Int) (ar : Bool) (kk : Nat) (top : Int) (hL : UpTo L (top + 1)) (hi : top < L.length) (hLb : L.length ≤ 1000000) : ∀ (f : Nat) (at_ : Int) (deep : Int) (m : Nat) (s : St) (K : X → St → Prop), at_ < f → -1 ≤ at_ → at_ ≤ top → f < m → 0 ≤ deep → deep + f ≤ 10000000 →
    s.norm ((envOf cfg kk 44 Go.Proofs.Try.f44).live (firstRegion (lp Go.Proofs.Try.f44 15))) = hd44b b (L.map Nd.d) i k n u ar deep at_ → K (.exit 4) (out44b b (L.map Nd.d) i k n u ar (deep + deepP L f at_)) → Rounds (envOf cfg kk 44 Go.Proofs.Try.f44) kk (lp Go.Proofs.Try.f44 15) m s K
  | 0, at_, deep, m, s, K, h1, h2, h3, h4, h5, h6, hs, hK => by
    obtain ⟨m, rfl⟩ : ∃ j, m = j + 1 := ⟨m - 1, by omega⟩
    refine deep_out kk m b _ i k n u ar deep at_ hs (decide_eq_false (by omega)) ?_
    have : deep + (deepP L 0 at_ : Int) = deep := by simp [deepP]
    rw [this] at hK
    exact hK
  | f + 1, at_, deep, m, s, K, h1, h2, h3, h4, h5, h6, hs, hK => by
    obtain ⟨m, rfl⟩ : ∃ j, m = j + 1 := ⟨m - 1, by omega⟩
    by_cases h : 0 ≤ at_
    · obtain ⟨a, rfl⟩ : ∃ a : Nat, at_ = a := ⟨at_.toNat, by omega⟩
      obtain ⟨x, hx⟩ : ∃ x, L[a]? = some x := ⟨_, List.getElem?_eq_getElem (by omega)⟩
      obtain ⟨hu1, hu2⟩ := hL a x hx (by omega)
      have hw : w64 (deep + 1) = deep + 1 := w64_eq (by omega)
      refine deep_go kk m b _ i k n u ar deep a x.k x.n x.u hs (decide_eq_true h) (nd_at hx) fun s' hs' => ?_
      rw [hw] at hs'
      refine deep_loop L b i k n u ar kk top hL hi hLb f x.u (deep + 1) m s' K (by omega) (by omega) (by omega) (by omega) (by omega) (by omega) hs' ?_
      have : deep + 1 + (deepP L f x.u : Int) = deep + (deepP L (f + 1) a : Int) := by
        simp only [deepP]
        rw [if_pos h]
        simp [hx]
        omega
      rw [this]
      exact hK
    · refine deep_out kk m b _ i k n u ar deep at_ hs (decide_eq_false h) ?_
      have : deep + (deepP L (f + 1) at_ : Int) = deep := by simp only [deepP]; rw [if_neg h]; simp
      rw [this] at hK
      exact hK
end Go.Den
namespace Go.Den
open Go
set_option linter.unusedVariables false
set_option maxRecDepth 100000
def shapeP (L : List Nd) (i : Nat) (x : Nd) : Bool := (decide ((i : Int) = 0) == decide (x.u = -1)) && (decide (-1 ≤ x.u) && decide (x.u ≤ (i : Int) - 1))
def numP (x : Nd) : Bool := (decide (0 ≤ x.n) && decide (x.n ≤ 99)) && (decide (x.k = 1) || decide (x.n = 0))
/-- What is asked of a node. -/
def chk (L : List Nd) (i : Nat) (x : Nd) : Bool :=
  shapeP L i x && ((decide (1 ≤ x.k) && decide (x.k ≤ 3)) && ((decide ((i : Int) = 0) || aroundP L i ((i : Int) - 1) x.u) && (decide (deepP L (i + 1) i ≤ 40) && (decide (((partsP L i L.length).length : Int) = x.k - 1) && numP x))))
def chkAt (L : List Nd) (i : Nat) : Bool := match L[i]? with | some x => chk L i x | none => false
def goodS (L : List Nd) : Bool := (decide (1 ≤ (L.length : Int)) && decide ((L.length : Int) ≤ 150)) && (List.range L.length).all (chkAt L)
theorem chk_shape {L : List Nd} {i : Nat} {x : Nd} (h : shapeP L i x = true) : ((!decide ((i : Int) = 0) == decide (x.u = -1)) = false) ∧ -1 ≤ x.u ∧ x.u ≤ (i : Int) - 1 := by
  unfold shapeP at h
  simp only [Bool.and_eq_true, decide_eq_true_eq] at h
  exact ⟨by rw [h.1]; rfl, h.2.1, h.2.2⟩
theorem upto_next (L : List Nd) (i : Nat) (x : Nd) (kk : Nat) (hk : 1000100 ≤ kk) (hlen : L.length ≤ 1000) (hx : L[i]? = some x) (hup : UpTo L i) (h : shapeP L i x = true) : UpTo L ((i : Int) + 1) := fun j y hy hj => by
  by_cases e : j = i
  · subst e
    rw [hx] at hy
    cases hy
    obtain ⟨_, h2, h3⟩ := chk_shape h
    exact ⟨h2, by omega⟩
  · exact hup j y hy (by omega)
theorem loop10 (L : List Nd) (b : Bool) (i : Nat) (x : Nd) (kk : Nat) (hk : 1000100 ≤ kk) (hlen : L.length ≤ 1000) (hx : L[i]? = some x) (hup : UpTo L i) (r : Bool) (h : (decide ((i : Int) = 0) || aroundP L i ((i : Int) - 1) x.u) = r) : LoopAt cfg kk 44 Go.Proofs.Try.f44 10 (hd44a b (L.map Nd.d) i x.k x.n x.u (decide ((i : Int) = 0)) (w64 ((i : Int) - 1))) (X.exit 2) (out44a b (L.map Nd.d) i x.k x.n x.u r) := by
  have hi := (List.getElem?_eq_some_iff.1 hx).1
  rw [w64_eq (n := (i : Int) - 1) (by omega)]
  exact loopOb_of fun s hs => around_loop L b i x.k x.n x.u kk hup (by omega) (by omega) i _ _ kk s _ (by omega) (by omega) (by omega) (by omega) hs ⟨rfl, by rw [h]⟩
theorem loop15 (L : List Nd) (b : Bool) (i : Nat) (x : Nd) (kk : Nat) (hk : 1000100 ≤ kk) (hlen : L.length ≤ 1000) (hx : L[i]? = some x) (hup : UpTo L i) (hs : shapeP L i x = true) (r : Bool) : LoopAt cfg kk 44 Go.Proofs.Try.f44 15 (hd44b b (L.map Nd.d) i x.k x.n x.u r 0 i) (X.exit 4) (out44b b (L.map Nd.d) i x.k x.n x.u r (deepP L (i + 1) i : Nat)) := by
  have hi := (List.getElem?_eq_some_iff.1 hx).1
  have hu := upto_next L i x kk hk hlen hx hup hs
  exact loopOb_of fun s hs => deep_loop L b i x.k x.n x.u r kk i hu (by omega) (by omega) (i + 1) i 0 kk s _ (by omega) (by omega) (by omega) (by omega) (by omega) (by omega) hs ⟨rfl, by rw [Int.zero_add]⟩
theorem parts_len (L : List Nd) (b : Bool) (i : Nat) (x : Nd) (kk : Nat) (hk : 1000100 ≤ kk) (hlen : L.length ≤ 1000) (hx : L[i]? = some x) (hup : UpTo L i) : den cfg kk 88 [.dat (.lst b (L.map Nd.d)), .dat (I i)] [] [] = some ([.own 3 ((partsP L i L.length).map IN)], [], []) := by
  have hi := (List.getElem?_eq_some_iff.1 hx).1
  exact ev_lcParts L b i (by omega) hi kk (by omega)
/-- A round: the node is good, or it is told that it is not. -/
theorem good_round (L : List Nd) (b : Bool) (i : Nat) (x : Nd) (kk : Nat) (hk : 1000100 ≤ kk) (hlen : L.length ≤ 1000) (hx : L[i]? = some x) (hup : UpTo L i) (m : Nat) (s : St) (K : X → St → Prop)
    (hs : s.norm ((envOf cfg kk 44 Go.Proofs.Try.f44).live (firstRegion (lp Go.Proofs.Try.f44 4))) = hd44 b (L.map Nd.d) i)
    (hn : chk L i x = true → ∀ s : St, s.norm ((envOf cfg kk 44 Go.Proofs.Try.f44).live (firstRegion (lp Go.Proofs.Try.f44 4))) = hd44 b (L.map Nd.d) ((i + 1 : Nat) : Int) → Rounds (envOf cfg kk 44 Go.Proofs.Try.f44) kk (lp Go.Proofs.Try.f44 4) m s K)
    (hK : chk L i x = false → K .ret (Nm [2] [.dat (B false)] [none] [] [])) : Rounds (envOf cfg kk 44 Go.Proofs.Try.f44) kk (lp Go.Proofs.Try.f44 4) (m + 1) s K := by
  have hi := (List.getElem?_eq_some_iff.1 hx).1
  have hx3 := nd_at hx
  have hlt : decide ((i : Int) < ((L.map Nd.d).length : Int)) = true := decide_eq_true hx3.1.2
  have hw : w64 ((i : Int) - 1) = (i : Int) - 1 := w64_eq (by omega)
  have hw2 : w64 ((i : Int) + 1) = ((i + 1 : Nat) : Int) := (w64_eq (by omega)).trans (by omega)
  have hin := ev_l1In x.u (-1) ((i : Int) - 1) kk (by omega)
  have hnum := ev_l1In x.n 0 99 kk (by omega)
  cases hsh : shapeP L i x with
  | false =>
    have hc : chk L i x = false := by unfold chk; rw [hsh]; rfl
    have hK' := hK hc
    cases h0 : (decide ((i : Int) = 0) == decide (x.u = -1)) with
    | false => exact good_up kk m b _ i x.n x.u x.k hs hlt hx3 (by rw [h0]; rfl) hK'
    | true =>
      have h1 : (decide (-1 ≤ x.u) && decide (x.u ≤ (i : Int) - 1)) = false := by unfold shapeP at hsh; rw [h0, Bool.true_and] at hsh; exact hsh
      rw [h1] at hin
      exact good_in kk m b _ i x.n x.u x.k hs hlt hx3 (by rw [h0]; rfl) (by rw [hw]; exact hin) hK'
  | true =>
  obtain ⟨h3, h4, h5⟩ := chk_shape hsh
  have hin' : den cfg kk 45 [.dat (I x.u), .dat (I (-1)), .dat (I (w64 ((i : Int) - 1)))] [] [] = some ([.dat (B true)], [], []) := by
    rw [hw, hin, decide_eq_true h4, decide_eq_true h5]
    rfl
  have l10 := loop10 L b i x kk hk hlen hx hup
  have l15 := loop15 L b i x kk hk hlen hx hup hsh
  have hp := parts_len L b i x kk hk hlen hx hup
  have hpl : (((partsP L i L.length).map IN).length : Int) = (partsP L i L.length).length := by simp
  have hc0 : chk L i x = ((decide (1 ≤ x.k) && decide (x.k ≤ 3)) && ((decide ((i : Int) = 0) || aroundP L i ((i : Int) - 1) x.u) && (decide (deepP L (i + 1) i ≤ 40) && (decide (((partsP L i L.length).length : Int) = x.k - 1) && numP x)))) := by
    unfold chk
    rw [hsh, Bool.true_and]
  by_cases hkd : 1 ≤ x.k ∧ x.k ≤ 3
  case neg =>
    have hc : chk L i x = false := by
      rw [hc0]
      have : (decide (1 ≤ x.k) && decide (x.k ≤ 3)) = false := by
        cases h : (decide (1 ≤ x.k) && decide (x.k ≤ 3)) with
        | false => rfl
        | true => simp only [Bool.and_eq_true, decide_eq_true_eq] at h; exact (hkd h).elim
      rw [this]; rfl
    exact good_kind kk m b _ i x.n x.u x.k _ _ hs hlt hx3 h3 hin' (l10 _ rfl) (l15 _) (decide_eq_false (by omega)) (decide_eq_false (by omega)) (decide_eq_false (by omega)) (hK hc)
  case pos =>
  have hkb : (decide (1 ≤ x.k) && decide (x.k ≤ 3)) = true := by rw [decide_eq_true hkd.1, decide_eq_true hkd.2]; rfl
  rw [hkb, Bool.true_and] at hc0
  obtain ⟨k, n, u⟩ := x
  simp only at *
  rcases (show k = 1 ∨ k = 2 ∨ k = 3 by omega) with rfl | rfl | rfl
  · cases har : (decide ((i : Int) = 0) || aroundP L i ((i : Int) - 1) u) with
    | false =>
      have hc : chk L i ⟨1, n, u⟩ = false := by rw [hc0, har]; rfl
      exact good_ar_1 kk m b _ i n u _ hs hlt hx3 h3 hin' (l10 false har) (l15 false) (hK hc)
    | true =>
      by_cases hd : deepP L (i + 1) i ≤ 40
      case neg =>
        have hc : chk L i ⟨1, n, u⟩ = false := by rw [hc0, har, decide_eq_false hd]; rfl
        exact good_deep_1 kk m b _ i n u _ hs hlt hx3 h3 hin' (l10 true har) (l15 true) (decide_eq_true (by omega)) (hK hc)
      case pos =>
        have hdd : decide ((40 : Int) < ((deepP L (i + 1) i : Nat) : Int)) = false := decide_eq_false (by omega)
        by_cases hpc : ((partsP L i L.length).length : Int) = 1 - 1
        case neg =>
          have hc : chk L i ⟨1, n, u⟩ = false := by rw [hc0, har, decide_eq_false hpc]; simp
          exact good_parts_1 kk m b _ i n u _ _ hs hlt hx3 h3 hin' (l10 true har) (l15 true) hdd hp (by rw [hpl]; simp only [Bool.not_eq_true', decide_eq_false_iff_not]; omega) (hK hc)
        case pos =>
          have hpp : (!decide ((((partsP L i L.length).map IN).length : Int) = 0)) = false := by rw [hpl]; simp only [Bool.not_eq_false', decide_eq_true_eq]; omega
          by_cases hna : 0 ≤ n ∧ n ≤ 99
          case neg =>
            have hnf : (decide (0 ≤ n) && decide (n ≤ 99)) = false := by
              cases h : (decide (0 ≤ n) && decide (n ≤ 99)) with
              | false => rfl
              | true => simp only [Bool.and_eq_true, decide_eq_true_eq] at h; exact (hna h).elim
            have hq : numP ⟨1, n, u⟩ = false := by unfold numP; simp only; rw [hnf]; rfl
            rw [hq] at hc0
            have hc : chk L i ⟨1, n, u⟩ = false := by rw [hc0]; simp
            rw [hnf] at hnum
            exact good_n_1 kk m b _ i n u _ _ hs hlt hx3 h3 hin' (l10 true har) (l15 true) hdd hp hpp hnum (hK hc)
          case pos =>
          have hnum' : den cfg kk 45 [.dat (I n), .dat (I 0), .dat (I 99)] [] [] = some ([.dat (B true)], [], []) := by
            rw [hnum, decide_eq_true hna.1, decide_eq_true hna.2]
            rfl
          have hq : numP ⟨1, n, u⟩ = true := by simp [numP, hna.1, hna.2]
          rw [hq] at hc0
          have hc : chk L i ⟨1, n, u⟩ = true := by rw [hc0, har, decide_eq_true hd, decide_eq_true hpc]; rfl
          exact good_go_1 kk m b _ i n u _ _ hs hlt hx3 h3 hin' (l10 true har) (l15 true) hdd hp hpp hnum' fun s' hs' => hn hc s' (by rw [hs', hw2]; rfl)
  · cases har : (decide ((i : Int) = 0) || aroundP L i ((i : Int) - 1) u) with
    | false =>
      have hc : chk L i ⟨2, n, u⟩ = false := by rw [hc0, har]; rfl
      exact good_ar_2 kk m b _ i n u _ hs hlt hx3 h3 hin' (l10 false har) (l15 false) (hK hc)
    | true =>
      by_cases hd : deepP L (i + 1) i ≤ 40
      case neg =>
        have hc : chk L i ⟨2, n, u⟩ = false := by rw [hc0, har, decide_eq_false hd]; rfl
        exact good_deep_2 kk m b _ i n u _ hs hlt hx3 h3 hin' (l10 true har) (l15 true) (decide_eq_true (by omega)) (hK hc)
      case pos =>
        have hdd : decide ((40 : Int) < ((deepP L (i + 1) i : Nat) : Int)) = false := decide_eq_false (by omega)
        by_cases hpc : ((partsP L i L.length).length : Int) = 2 - 1
        case neg =>
          have hc : chk L i ⟨2, n, u⟩ = false := by rw [hc0, har, decide_eq_false hpc]; simp
          exact good_parts_2 kk m b _ i n u _ _ hs hlt hx3 h3 hin' (l10 true har) (l15 true) hdd hp (by rw [hpl]; simp only [Bool.not_eq_true', decide_eq_false_iff_not]; omega) (hK hc)
        case pos =>
          have hpp : (!decide ((((partsP L i L.length).map IN).length : Int) = 1)) = false := by rw [hpl]; simp only [Bool.not_eq_false', decide_eq_true_eq]; omega
          by_cases hna : 0 ≤ n ∧ n ≤ 99
          case neg =>
            have hnf : (decide (0 ≤ n) && decide (n ≤ 99)) = false := by
              cases h : (decide (0 ≤ n) && decide (n ≤ 99)) with
              | false => rfl
              | true => simp only [Bool.and_eq_true, decide_eq_true_eq] at h; exact (hna h).elim
            have hq : numP ⟨2, n, u⟩ = false := by unfold numP; simp only; rw [hnf]; rfl
            rw [hq] at hc0
            have hc : chk L i ⟨2, n, u⟩ = false := by rw [hc0]; simp
            rw [hnf] at hnum
            exact good_n_2 kk m b _ i n u _ _ hs hlt hx3 h3 hin' (l10 true har) (l15 true) hdd hp hpp hnum (hK hc)
          case pos =>
          have hnum' : den cfg kk 45 [.dat (I n), .dat (I 0), .dat (I 99)] [] [] = some ([.dat (B true)], [], []) := by
            rw [hnum, decide_eq_true hna.1, decide_eq_true hna.2]
            rfl
          by_cases hnn : n = 0
          case neg =>
            have hq : numP ⟨2, n, u⟩ = false := by simp [numP, hnn]
            rw [hq] at hc0
            have hc : chk L i ⟨2, n, u⟩ = false := by rw [hc0]; simp
            exact good_num_2 kk m b _ i n u _ _ hs hlt hx3 h3 hin' (l10 true har) (l15 true) hdd hp hpp hnum' (by simp [hnn]) (hK hc)
          case pos =>
          have hq : numP ⟨2, n, u⟩ = true := by simp [numP, hnn]
          rw [hq] at hc0
          have hc : chk L i ⟨2, n, u⟩ = true := by rw [hc0, har, decide_eq_true hd, decide_eq_true hpc]; rfl
          exact good_go_2 kk m b _ i n u _ _ hs hlt hx3 h3 hin' (l10 true har) (l15 true) hdd hp hpp hnum' (by simp [hnn]) fun s' hs' => hn hc s' (by rw [hs', hw2]; rfl)
  · cases har : (decide ((i : Int) = 0) || aroundP L i ((i : Int) - 1) u) with
    | false =>
      have hc : chk L i ⟨3, n, u⟩ = false := by rw [hc0, har]; rfl
      exact good_ar_3 kk m b _ i n u _ hs hlt hx3 h3 hin' (l10 false har) (l15 false) (hK hc)
    | true =>
      by_cases hd : deepP L (i + 1) i ≤ 40
      case neg =>
        have hc : chk L i ⟨3, n, u⟩ = false := by rw [hc0, har, decide_eq_false hd]; rfl
        exact good_deep_3 kk m b _ i n u _ hs hlt hx3 h3 hin' (l10 true har) (l15 true) (decide_eq_true (by omega)) (hK hc)
      case pos =>
        have hdd : decide ((40 : Int) < ((deepP L (i + 1) i : Nat) : Int)) = false := decide_eq_false (by omega)
        by_cases hpc : ((partsP L i L.length).length : Int) = 3 - 1
        case neg =>
          have hc : chk L i ⟨3, n, u⟩ = false := by rw [hc0, har, decide_eq_false hpc]; simp
          exact good_parts_3 kk m b _ i n u _ _ hs hlt hx3 h3 hin' (l10 true har) (l15 true) hdd hp (by rw [hpl]; simp only [Bool.not_eq_true', decide_eq_false_iff_not]; omega) (hK hc)
        case pos =>
          have hpp : (!decide ((((partsP L i L.length).map IN).length : Int) = 2)) = false := by rw [hpl]; simp only [Bool.not_eq_false', decide_eq_true_eq]; omega
          by_cases hna : 0 ≤ n ∧ n ≤ 99
          case neg =>
            have hnf : (decide (0 ≤ n) && decide (n ≤ 99)) = false := by
              cases h : (decide (0 ≤ n) && decide (n ≤ 99)) with
              | false => rfl
              | true => simp only [Bool.and_eq_true, decide_eq_true_eq] at h; exact (hna h).elim
            have hq : numP ⟨3, n, u⟩ = false := by unfold numP; simp only; rw [hnf]; rfl
            rw [hq] at hc0
            have hc : chk L i ⟨3, n, u⟩ = false := by rw [hc0]; simp
            rw [hnf] at hnum
            exact good_n_3 kk m b _ i n u _ _ hs hlt hx3 h3 hin' (l10 true har) (l15 true) hdd hp hpp hnum (hK hc)
          case pos =>
          have hnum' : den cfg kk 45 [.dat (I n), .dat (I 0), .dat (I 99)] [] [] = some ([.dat (B true)], [], []) := by
            rw [hnum, decide_eq_true hna.1, decide_eq_true hna.2]
            rfl
          by_cases hnn : n = 0
          case neg =>
            have hq : numP ⟨3, n, u⟩ = false := by simp [numP, hnn]
            rw [hq] at hc0
            have hc : chk L i ⟨3, n, u⟩ = false := by rw [hc0]; simp
            exact good_num_3 kk m b _ i n u _ _ hs hlt hx3 h3 hin' (l10 true har) (l15 true) hdd hp hpp hnum' (by simp [hnn]) (hK hc)
          case pos =>
          have hq : numP ⟨3, n, u⟩ = true := by simp [numP, hnn]
          rw [hq] at hc0
          have hc : chk L i ⟨3, n, u⟩ = true := by rw [hc0, har, decide_eq_true hd, decide_eq_true hpc]; rfl
          exact good_go_3 kk m b _ i n u _ _ hs hlt hx3 h3 hin' (l10 true har) (l15 true) hdd hp hpp hnum' (by simp [hnn]) fun s' hs' => hn hc s' (by rw [hs', hw2]; rfl)
/-- 'GoodTerm'. -/
theorem ev_GoodTerm (L : List Nd) (b : Bool) (hL : L.length ≤ 1048576) : EvN 1000200 44 [.dat (.lst b (L.map Nd.d))] [] [] ([.dat (B (goodS L))], [], []) := by
  refine (ev_fn Go.Proofs.Try.f44 1000150 (by kernel_rfl) (by kernel_rfl) fun kk hkk => ?_).mono (by omega)
  have hlen : ((L.map Nd.d).length : Int) = L.length := by simp
  have hin := ev_l1In ((L.map Nd.d).length : Int) 1 150 kk (by omega)
  unfold goodS
  cases hr : (decide (1 ≤ (L.length : Int)) && decide ((L.length : Int) ≤ 150)) with
  | false =>
    rw [hlen, hr] at hin
    exact GoodTerm_few kk b _ (by rw [hlen]; exact hin)
  | true =>
    rw [hlen, hr] at hin
    have hL2 : L.length ≤ 150 := by
      simp only [Bool.and_eq_true, decide_eq_true_eq] at hr
      omega
    rw [Bool.true_and]
    have hupto : ∀ j : Nat, j ≤ L.length → (∀ q, q < j → chkAt L q = true) → UpTo L j := fun j hj hc q y hy hq => by
      have := hc q (by omega)
      unfold chkAt chk at this
      rw [hy] at this
      simp only [Bool.and_eq_true] at this
      obtain ⟨_, h2, h3⟩ := chk_shape this.1
      exact ⟨h2, by omega⟩
    cases hall : (List.range L.length).all (chkAt L) with
    | true =>
      have hch : ∀ q, q < L.length → chkAt L q = true := fun q hq => (List.all_eq_true.1 hall) q (List.mem_range.2 hq)
      refine GoodTerm_yes kk b _ (by rw [hlen]; exact hin) ?_
      refine loopAt_range (fun i => hd44 b (L.map Nd.d) i) L.length (by omega) (fun i hi m s K hs hn => ?_) (fun m s K hs hK => ?_) rfl
      · obtain ⟨x, hx⟩ : ∃ x, L[i]? = some x := ⟨_, List.getElem?_eq_getElem hi⟩
        refine good_round L b i x kk (by omega) (by omega) hx (hupto i (by omega) fun q hq => hch q (by omega)) m s K hs (fun _ => hn) fun h => ?_
        have := hch i hi
        unfold chkAt at this
        rw [hx] at this
        rw [show chk L i x = true from this] at h
        cases h
      · exact good_end kk m b _ _ hs (decide_eq_false (by omega)) hK
    | false =>
      obtain ⟨j, q, h1, h2, h3⟩ := first_bad (chkAt L) hall
      have hj : j < L.length := by
        have := (List.getElem?_eq_some_iff.1 h1).1
        simpa using this
      have hqj : q = j := by
        rw [List.getElem?_range hj] at h1
        exact (Option.some.inj h1).symm
      subst hqj
      have hch : ∀ i, i < q → chkAt L i = true := fun i hi => h3 i i hi (List.getElem?_range (by omega))
      refine GoodTerm_no kk b _ (by rw [hlen]; exact hin) ?_
      refine loopAt_range (fun i => hd44 b (L.map Nd.d) i) q (by omega) (fun i hi m s K hs hn => ?_) (fun m s K hs hK => ?_) rfl
      · obtain ⟨x, hx⟩ : ∃ x, L[i]? = some x := ⟨_, List.getElem?_eq_getElem (by omega)⟩
        refine good_round L b i x kk (by omega) (by omega) hx (hupto i (by omega) fun p hp => hch p (by omega)) m s K hs (fun _ => hn) fun h => ?_
        have := hch i hi
        unfold chkAt at this
        rw [hx] at this
        rw [show chk L i x = true from this] at h
        cases h
      · obtain ⟨x, hx⟩ : ∃ x, L[q]? = some x := ⟨_, List.getElem?_eq_getElem hj⟩
        refine good_round L b q x kk (by omega) (by omega) hx (hupto q (by omega) fun p hp => hch p hp) m s K hs (fun h => ?_) fun _ => hK
        unfold chkAt at h2
        rw [hx] at h2
        rw [show chk L q x = false from h2] at h
        cases h
end Go.Den
namespace Go.Den
open Go
set_option linter.unusedVariables false
theorem flat_get : ∀ (t : Pt) (at_ : Nat) (up : Int) (r : Nat) (z : Nd), (t.flat at_ up)[r]? = some z → (r = 0 ∧ z = ⟨t.kd, t.num, up⟩) ∨ (0 < r ∧ (at_ : Int) ≤ z.u ∧ z.u < at_ + r)
  | .var n, at_, up, 0, z, h => .inl ⟨rfl, by simpa [Pt.flat, Pt.kd, Pt.num] using h.symm⟩
  | .var n, at_, up, r + 1, z, h => by simp [Pt.flat] at h
  | .lam n t, at_, up, 0, z, h => .inl ⟨rfl, by simpa [Pt.flat, Pt.kd, Pt.num] using h.symm⟩
  | .lam n t, at_, up, r + 1, z, h => by
    have h' : (t.flat (at_ + 1) at_)[r]? = some z := by simpa [Pt.flat] using h
    rcases flat_get t _ _ r z h' with ⟨rfl, rfl⟩ | ⟨h1, h2, h3⟩
    · right; refine ⟨by omega, ?_, ?_⟩ <;> (simp only; omega)
    · right; refine ⟨by omega, by omega, by omega⟩
  | .app n a b, at_, up, 0, z, h => .inl ⟨rfl, by simpa [Pt.flat, Pt.kd, Pt.num] using h.symm⟩
  | .app n a b, at_, up, r + 1, z, h => by
    have h' : (a.flat (at_ + 1) at_ ++ b.flat (at_ + 1 + a.size) at_)[r]? = some z := by simpa [Pt.flat] using h
    rw [List.getElem?_append, a.flat_length] at h'
    split at h'
    · rcases flat_get a _ _ r z h' with ⟨rfl, rfl⟩ | ⟨h1, h2, h3⟩
      · right; refine ⟨by omega, ?_, ?_⟩ <;> (simp only; omega)
      · right; refine ⟨by omega, by omega, by omega⟩
    · rename_i hr
      rcases flat_get b _ _ _ z h' with ⟨h1, rfl⟩ | ⟨h1, h2, h3⟩
      · right; refine ⟨by omega, ?_, ?_⟩ <;> (simp only; omega)
      · right; refine ⟨by omega, by omega, by omega⟩
theorem seg_get {L rest : List Nd} {t : Pt} {at_ : Nat} {up : Int} (h : L.drop at_ = t.flat at_ up ++ rest) {q : Nat} (h1 : at_ ≤ q) (h2 : q < at_ + t.size) {z : Nd} (hz : L[q]? = some z) : (q = at_ ∧ z = ⟨t.kd, t.num, up⟩) ∨ (at_ < q ∧ (at_ : Int) ≤ z.u ∧ z.u < q) := by
  have e : L[q]? = (t.flat at_ up)[q - at_]? := by
    have : (L.drop at_)[q - at_]? = L[q]? := by rw [List.getElem?_drop, show at_ + (q - at_) = q by omega]
    rw [← this, h, List.getElem?_append_left (by rw [t.flat_length]; omega)]
  rw [e] at hz
  rcases flat_get t at_ up _ z hz with ⟨h3, h4⟩ | ⟨h3, h4, h5⟩
  · exact .inl ⟨by omega, h4⟩
  · exact .inr ⟨by omega, h4, by omega⟩
theorem seg_len {L rest : List Nd} {t : Pt} {at_ : Nat} {up : Int} (h : L.drop at_ = t.flat at_ up ++ rest) : at_ + t.size ≤ L.length := by
  have := congrArg List.length h
  have hp := t.size_pos
  simp only [List.length_drop, List.length_append, t.flat_length] at this
  omega
inductive Anc (L : List Nd) : Nat → Nat → Prop where
  | refl (q : Nat) : Anc L q q
  | up {a q b : Nat} {x : Nd} (hx : L[q]? = some x) (hu : x.u = (b : Int)) (h : Anc L a b) : Anc L a q
def UpAll (L : List Nd) : Prop := ∀ (j : Nat) (x : Nd), L[j]? = some x → -1 ≤ x.u ∧ x.u < j
theorem Anc.le {L : List Nd} (hU : UpAll L) {a q : Nat} (h : Anc L a q) : a ≤ q := by
  induction h with
  | refl => exact Nat.le_refl _
  | up hx hu h ih =>
    have := (hU _ _ hx).2
    omega
theorem Anc.trans {L : List Nd} {a b c : Nat} (h : Anc L a b) (k : Anc L b c) : Anc L a c := by
  induction k with
  | refl => exact h
  | up hx hu _ ih => exact .up hx hu ih
theorem around_anc {L : List Nd} : ∀ (f : Nat) (q : Nat) (u : Int), aroundP L f q u = true → ∃ a : Nat, u = a ∧ Anc L a q
  | 0, q, u, h => by cases h
  | f + 1, q, u, h => by
    simp only [aroundP] at h
    rw [if_pos (by omega)] at h
    split at h
    · rename_i he
      exact ⟨q, he.symm, .refl q⟩
    · rw [show ((q : Int)).toNat = q by simp] at h
      cases hx : L[q]? with
      | none => rw [hx] at h; cases h
      | some x =>
        rw [hx] at h
        simp only at h
        by_cases hn : 0 ≤ x.u
        · obtain ⟨b, hb⟩ : ∃ b : Nat, x.u = b := ⟨x.u.toNat, by omega⟩
          rw [hb] at h
          obtain ⟨a, h1, h2⟩ := around_anc f b u h
          exact ⟨a, h1, .up hx hb h2⟩
        · cases f with
          | zero => cases h
          | succ f => simp only [aroundP] at h; rw [if_neg hn] at h; cases h
theorem anc_around {L : List Nd} (hU : UpAll L) {a q : Nat} (h : Anc L a q) : ∀ f : Nat, q < f → aroundP L f q a = true := by
  induction h with
  | refl =>
    intro f hf
    obtain ⟨f, rfl⟩ : ∃ g, f = g + 1 := ⟨f - 1, by omega⟩
    simp only [aroundP]
    rw [if_pos (by omega)]
    simp
  | @up q b x hx hu h ih =>
    intro f hf
    obtain ⟨f, rfl⟩ : ∃ g, f = g + 1 := ⟨f - 1, by omega⟩
    have := (hU _ _ hx).2
    simp only [aroundP]
    rw [if_pos (by omega)]
    split
    · rfl
    · rw [show ((q : Int)).toNat = q by simp, hx]
      simp only
      rw [hu]
      exact ih f (by omega)
theorem deep_fuel {L : List Nd} (hU : UpAll L) : ∀ (q : Int) (f g : Nat), q < f → q < g → -1 ≤ q → deepP L f q = deepP L g q := by
  have key : ∀ (n : Nat) (q : Int) (f g : Nat), q < n → q < f → q < g → -1 ≤ q → deepP L f q = deepP L g q := by
    intro n
    induction n with
    | zero =>
      intro q f g h0 h1 h2 h3
      have e : ∀ f : Nat, deepP L f q = 0 := fun f => by
        cases f with
        | zero => rfl
        | succ f => simp only [deepP]; rw [if_neg (by omega)]
      rw [e, e]
    | succ n ih =>
      intro q f g h0 h1 h2 h3
      by_cases hq : 0 ≤ q
      · obtain ⟨f, rfl⟩ : ∃ k, f = k + 1 := ⟨f - 1, by omega⟩
        obtain ⟨g, rfl⟩ : ∃ k, g = k + 1 := ⟨g - 1, by omega⟩
        simp only [deepP]
        rw [if_pos hq, if_pos hq]
        cases hx : L[q.toNat]? with
        | none => rfl
        | some x =>
          have := hU _ _ hx
          simp only
          rw [ih x.u f g (by omega) (by omega) (by omega) (by omega)]
      · have e : ∀ f : Nat, deepP L f q = 0 := fun f => by
          cases f with
          | zero => rfl
          | succ f => simp only [deepP]; rw [if_neg hq]
        rw [e, e]
  intro q f g h1 h2 h3
  exact key (q.toNat + 1) q f g (by omega) h1 h2 h3
/-- How deep a place is. -/
def dep (L : List Nd) (q : Int) : Nat := deepP L (q.toNat + 1) q
theorem dep_up {L : List Nd} (hU : UpAll L) {q : Nat} {x : Nd} (hx : L[q]? = some x) : dep L q = dep L x.u + 1 := by
  have := hU _ _ hx
  unfold dep
  rw [show ((q : Int)).toNat = q by simp, show deepP L (q + 1) q = if 0 ≤ (q : Int) then (match L[((q : Int)).toNat]? with | some x => deepP L q x.u + 1 | none => 0) else 0 from rfl]
  rw [if_pos (by omega), show ((q : Int)).toNat = q by simp, hx]
  simp only
  rw [deep_fuel hU x.u q (x.u.toNat + 1) (by omega) (by omega) (by omega)]
theorem dep_neg (L : List Nd) : dep L (-1) = 0 := by
  unfold dep
  simp only [deepP]
  rw [if_neg (by omega)]
theorem parts_skip {L : List Nd} {k : Nat} : ∀ {a b : Nat}, a ≤ b → (∀ q, a ≤ q → q < b → upAt L q k = false) → partsP L k b = partsP L k a
  | a, 0, h, hq => by rw [show a = 0 by omega]
  | a, b + 1, h, hq => by
    by_cases e : a = b + 1
    · rw [e]
    · simp only [partsP]
      rw [if_neg (by rw [hq b (by omega) (by omega)]; exact fun h => by cases h.2)]
      exact parts_skip (by omega) fun q h1 h2 => hq q h1 (by omega)
theorem parts_hit {L : List Nd} {k p : Nat} (h : k < p) (hu : upAt L p k = true) : partsP L k (p + 1) = partsP L k p ++ [p] := by
  simp only [partsP]
  rw [if_pos ⟨h, hu⟩]
theorem mem_parts {L : List Nd} {k : Nat} : ∀ {n q : Nat}, q ∈ partsP L k n ↔ k < q ∧ q < n ∧ upAt L q k = true
  | 0, q => by simp [partsP]
  | n + 1, q => by
    simp only [partsP]
    split
    · rename_i h
      rw [List.mem_append, mem_parts, List.mem_singleton]
      constructor
      · rintro (h1 | rfl)
        · exact ⟨h1.1, by omega, h1.2.2⟩
        · exact ⟨h.1, by omega, h.2⟩
      · rintro ⟨h1, h2, h3⟩
        by_cases e : q = n
        · exact .inr e
        · exact .inl ⟨h1, by omega, h3⟩
    · rename_i h
      rw [mem_parts]
      constructor
      · rintro ⟨h1, h2, h3⟩
        exact ⟨h1, by omega, h3⟩
      · rintro ⟨h1, h2, h3⟩
        by_cases e : q = n
        · subst e; exact (h ⟨h1, h3⟩).elim
        · exact ⟨h1, by omega, h3⟩
theorem parts_sorted {L : List Nd} {k : Nat} : ∀ n, (partsP L k n).Pairwise (· < ·)
  | 0 => by simp [partsP]
  | n + 1 => by
    simp only [partsP]
    split
    · rw [List.pairwise_append]
      refine ⟨parts_sorted n, by simp, fun a ha c hc => ?_⟩
      rw [List.mem_singleton] at hc
      have := (mem_parts.1 ha).2.1
      omega
    · exact parts_sorted n
theorem upAt_iff {L : List Nd} {q k : Nat} {x : Nd} (hx : L[q]? = some x) : upAt L q k = true ↔ x.u = (k : Int) := by
  unfold upAt
  rw [hx]
  simp
structure Fine (L : List Nd) : Prop where
  up : UpAll L
  zero : ∀ (i : Nat) (x : Nd), L[i]? = some x → (x.u = -1 ↔ i = 0)
  around : ∀ (i : Nat) (x : Nd), L[i]? = some x → 0 < i → ∃ a : Nat, x.u = a ∧ Anc L a (i - 1)
  kind : ∀ (i : Nat) (x : Nd), L[i]? = some x → 1 ≤ x.k ∧ x.k ≤ 3
  parts : ∀ (i : Nat) (x : Nd), L[i]? = some x → ((partsP L i L.length).length : Int) = x.k - 1
theorem no_more {L : List Nd} (hF : Fine L) {i p : Nat} (hip : i < p) (hp : ∀ y, L[p]? = some y → y.u < i) : ∀ q, p ≤ q → q < L.length → ¬ Anc L i q := by
  intro q
  induction q with
  | zero => intro h1 h2 h3; omega
  | succ q ih =>
    intro h1 h2 h3
    have hne : i ≠ q + 1 := by omega
    obtain ⟨x, hx⟩ : ∃ x, L[q + 1]? = some x := ⟨_, List.getElem?_eq_getElem h2⟩
    have hup : ∃ b : Nat, x.u = b ∧ Anc L i b := by
      cases h3 with
      | refl => exact (hne rfl).elim
      | up hx' hu h => rw [hx] at hx'; cases hx'; exact ⟨_, hu, h⟩
    obtain ⟨b, hb, hab⟩ := hup
    have hle := hab.le hF.up
    by_cases e : p = q + 1
    · subst e
      have := hp x hx
      omega
    · obtain ⟨a, ha, hq⟩ := hF.around (q + 1) x hx (by omega)
      have : a = b := by omega
      subst this
      exact ih (by omega) (by omega) (hab.trans hq)
theorem no_parts {L : List Nd} (hF : Fine L) {i p : Nat} (hip : i < p) (hp : ∀ y, L[p]? = some y → y.u < i) : ∀ q, p ≤ q → q ∉ partsP L i L.length := fun q hq hm => by
  obtain ⟨h1, h2, h3⟩ := mem_parts.1 hm
  obtain ⟨x, hx⟩ : ∃ x, L[q]? = some x := ⟨_, List.getElem?_eq_getElem h2⟩
  exact no_more hF hip hp q hq h2 (.up hx ((upAt_iff hx).1 h3) (.refl i))
theorem two_of {α : Type} {l : List α} (h : l.length = 2) : ∃ a b, l = [a, b] := by
  match l, h with
  | [a, b], _ => exact ⟨a, b, rfl⟩
theorem tree_of {L : List Nd} (hF : Fine L) : ∀ (f i : Nat) (x : Nd), L[i]? = some x → L.length ≤ i + f → ∃ t j, parse L f i x.u = some (t, j) ∧ ∀ y, L[j]? = some y → y.u < i
  | 0, i, x, hx, hf => by
    have := (List.getElem?_eq_some_iff.1 hx).1
    omega
  | f + 1, i, x, hx, hf => by
    have hi := (List.getElem?_eq_some_iff.1 hx).1
    obtain ⟨hk1, hk3⟩ := hF.kind i x hx
    have hpl := hF.parts i x hx
    have hpar : parse L (f + 1) i x.u = (if x.k = 1 then some (.var x.n, i + 1)
        else if x.k = 2 then (parse L f (i + 1) i).map fun r => (.lam x.n r.1, r.2)
        else if x.k = 3 then (parse L f (i + 1) i).bind fun r => (parse L f r.2 i).map fun q => (.app x.n r.1 q.1, q.2)
        else none) := by simp only [parse, hx, Option.bind_some, if_true]
    rw [hpar]
    have hmem : ∀ q y, L[q]? = some y → i < q → y.u = (i : Int) → q ∈ partsP L i L.length := fun q y hy hq hu => mem_parts.2 ⟨hq, (List.getElem?_eq_some_iff.1 hy).1, (upAt_iff hy).2 hu⟩
    have hnext : ∀ y, L[i + 1]? = some y → y.u ≤ i := fun y hy => by have := (hF.up _ _ hy).2; omega
    rcases (show x.k = 1 ∨ x.k = 2 ∨ x.k = 3 by omega) with hk | hk | hk
    · rw [if_pos hk]
      have hnil : partsP L i L.length = [] := List.eq_nil_of_length_eq_zero (by omega)
      refine ⟨_, _, rfl, fun y hy => ?_⟩
      have h1 := hnext y hy
      have h2 : y.u ≠ (i : Int) := fun e => by
        have := hmem _ y hy (by omega) e
        rw [hnil] at this
        cases this
      omega
    · rw [if_neg (by omega), if_pos hk]
      obtain ⟨p1, hp1⟩ : ∃ p1, partsP L i L.length = [p1] := List.length_eq_one_iff.1 (by omega)
      have hin : p1 ∈ partsP L i L.length := by rw [hp1]; simp
      obtain ⟨ha, hb, hc⟩ := mem_parts.1 hin
      obtain ⟨y1, hy1⟩ : ∃ y, L[i + 1]? = some y := ⟨_, List.getElem?_eq_getElem (by omega)⟩
      have hy1u : y1.u = i := by
        have h1 := hnext y1 hy1
        by_cases e : y1.u = (i : Int)
        · exact e
        · exact (no_parts hF (i := i) (p := i + 1) (by omega) (fun y hy => by rw [hy1] at hy; cases hy; omega) p1 (by omega) hin).elim
      have hp1e : p1 = i + 1 := by
        have := hmem _ y1 hy1 (by omega) hy1u
        rw [hp1, List.mem_singleton] at this
        omega
      obtain ⟨t, j, hpa, hj⟩ := tree_of hF f (i + 1) y1 hy1 (by omega)
      rw [hy1u] at hpa
      obtain ⟨_, hj2, _⟩ := parse_sound L _ _ _ _ _ hpa
      have htp := t.size_pos
      refine ⟨.lam x.n t, j, by rw [hpa]; rfl, fun y hy => ?_⟩
      have h1 := hj y hy
      have h2 : y.u ≠ (i : Int) := fun e => by
        have := hmem _ y hy (by omega) e
        rw [hp1, List.mem_singleton] at this
        omega
      omega
    · rw [if_neg (by omega), if_neg (by omega), if_pos hk]
      obtain ⟨p1, p2, hp12⟩ : ∃ p1 p2, partsP L i L.length = [p1, p2] := two_of (by omega)
      have hlt : p1 < p2 := by
        have := parts_sorted (L := L) (k := i) L.length
        rw [hp12] at this
        simpa using this
      have hin1 : p1 ∈ partsP L i L.length := by rw [hp12]; simp
      have hin2 : p2 ∈ partsP L i L.length := by rw [hp12]; simp
      obtain ⟨ha1, hb1, hc1⟩ := mem_parts.1 hin1
      obtain ⟨ha2, hb2, hc2⟩ := mem_parts.1 hin2
      obtain ⟨y1, hy1⟩ : ∃ y, L[i + 1]? = some y := ⟨_, List.getElem?_eq_getElem (by omega)⟩
      have hy1u : y1.u = i := by
        have h1 := hnext y1 hy1
        by_cases e : y1.u = (i : Int)
        · exact e
        · exact (no_parts hF (i := i) (p := i + 1) (by omega) (fun y hy => by rw [hy1] at hy; cases hy; omega) p1 (by omega) hin1).elim
      have hp1e : p1 = i + 1 := by
        have := hmem _ y1 hy1 (by omega) hy1u
        rw [hp12] at this
        simp at this
        omega
      obtain ⟨t, j, hpa, hj⟩ := tree_of hF f (i + 1) y1 hy1 (by omega)
      rw [hy1u] at hpa
      obtain ⟨hseg, hj2, hjl⟩ := parse_sound L _ _ _ _ _ hpa
      have htp := t.size_pos
      obtain ⟨z2, hz2⟩ : ∃ z, L[p2]? = some z := ⟨_, List.getElem?_eq_getElem hb2⟩
      have hz2u := (upAt_iff hz2).1 hc2
      have hp2j : ¬ p2 < j := fun hlt2 => by
        rcases seg_get hseg (q := p2) (by omega) (by omega) hz2 with ⟨h, _⟩ | ⟨_, h, _⟩ <;> omega
      obtain ⟨y2, hy2⟩ : ∃ y, L[j]? = some y := ⟨_, List.getElem?_eq_getElem (by omega)⟩
      have hy2u : y2.u = i := by
        have h1 := hj y2 hy2
        by_cases e : y2.u = (i : Int)
        · exact e
        · exact (no_parts hF (i := i) (p := j) (by omega) (fun y hy => by rw [hy2] at hy; cases hy; omega) p2 (by omega) hin2).elim
      have hp2e : p2 = j := by
        have := hmem _ y2 hy2 (by omega) hy2u
        rw [hp12] at this
        simp at this
        omega
      obtain ⟨t2, j2, hpb, hj3⟩ := tree_of hF f j y2 hy2 (by omega)
      rw [hy2u] at hpb
      obtain ⟨hseg2, hj4, hj5⟩ := parse_sound L _ _ _ _ _ hpb
      have htp2 := t2.size_pos
      refine ⟨.app x.n t t2, j2, by rw [hpa]; simp only [Option.bind_some]; rw [hpb]; rfl, fun y hy => ?_⟩
      have h1 := hj3 y hy
      obtain ⟨b, hb, hanc⟩ := hF.around j2 y hy (by omega)
      have claim : ∀ q, j ≤ q → q < j2 → Anc L b q → j ≤ b ∨ Anc L b i := by
        intro q
        induction q using Nat.strongRecOn with
        | _ q ih =>
          intro h3 h4 h5
          obtain ⟨zq, hzq⟩ : ∃ z, L[q]? = some z := ⟨_, List.getElem?_eq_getElem (by omega)⟩
          cases h5 with
          | refl => exact .inl h3
          | @up _ c zq' hz hu h6 =>
            rw [hzq] at hz
            cases hz
            rcases seg_get hseg2 (q := q) h3 (by omega) hzq with ⟨h7, h8⟩ | ⟨h7, h8, h9⟩
            · right
              have : zq.u = (i : Int) := by rw [h8]
              have : c = i := by omega
              rw [this] at h6
              exact h6
            · exact ih c (by omega) (by omega) (by omega) h6
      rcases claim (j2 - 1) (by omega) (by omega) hanc with h3 | h3
      · omega
      · have h4 := h3.le hF.up
        have h5 : y.u ≠ (i : Int) := fun e => by
          have := hmem _ y hy (by omega) e
          rw [hp12] at this
          simp at this
          omega
        omega
end Go.Den
namespace Go.Den
open Go
set_option linter.unusedVariables false
theorem seg_root {L rest : List Nd} {t : Pt} {at_ : Nat} {up : Int} (h : L.drop at_ = t.flat at_ up ++ rest) : L[at_]? = some ⟨t.kd, t.num, up⟩ := by
  have e : (L.drop at_)[0]? = L[at_]? := by rw [List.getElem?_drop]; rfl
  rw [← e, h]
  cases t <;> rfl
theorem seg_lam {L rest : List Nd} {n : Int} {t : Pt} {at_ : Nat} {up : Int} (h : L.drop at_ = (Pt.lam n t).flat at_ up ++ rest) : L.drop (at_ + 1) = t.flat (at_ + 1) at_ ++ rest :=
  (get_drop (l := t.flat (at_ + 1) at_ ++ rest) (x := ⟨2, n, up⟩) (by rw [h]; rfl)).2
theorem seg_app {L rest : List Nd} {n : Int} {a b : Pt} {at_ : Nat} {up : Int} (h : L.drop at_ = (Pt.app n a b).flat at_ up ++ rest) :
    L.drop (at_ + 1) = a.flat (at_ + 1) at_ ++ (b.flat (at_ + 1 + a.size) at_ ++ rest) ∧ L.drop (at_ + 1 + a.size) = b.flat (at_ + 1 + a.size) at_ ++ rest := by
  have h1 := (get_drop (l := a.flat (at_ + 1) at_ ++ (b.flat (at_ + 1 + a.size) at_ ++ rest)) (x := ⟨3, n, up⟩) (by rw [h]; simp [Pt.flat])).2
  exact ⟨h1, drop_add h1 (a.flat_length _ _)⟩
theorem seg_anc {L rest : List Nd} {t : Pt} {at_ : Nat} {up : Int} (h : L.drop at_ = t.flat at_ up ++ rest) : ∀ q, at_ ≤ q → q < at_ + t.size → Anc L at_ q := by
  intro q
  induction q using Nat.strongRecOn with
  | _ q ih =>
    intro h1 h2
    have hl := seg_len h
    obtain ⟨z, hz⟩ : ∃ z, L[q]? = some z := ⟨_, List.getElem?_eq_getElem (by omega)⟩
    rcases seg_get h h1 h2 hz with ⟨rfl, _⟩ | ⟨h3, h4, h5⟩
    · exact .refl _
    · exact .up (b := z.u.toNat) hz (by omega) (ih _ (by omega) (by omega) (by omega))
def Pt.places : Pt → Nat → List Nat
  | .var _, _ => []
  | .lam _ _, at_ => [at_ + 1]
  | .app _ a _, at_ => [at_ + 1, at_ + 1 + a.size]
/-- Nobody behind a segment names a place in it. -/
def Apart (L : List Nd) (at_ n : Nat) : Prop := ∀ (q : Nat) (y : Nd), L[q]? = some y → at_ + n ≤ q → y.u < at_ ∨ (at_ + n : Int) ≤ y.u
theorem apart_lam {L rest : List Nd} {n : Int} {t : Pt} {at_ : Nat} {up : Int} (h3 : Apart L at_ (Pt.lam n t).size) : Apart L (at_ + 1) t.size := fun q y hy hq => by
  have := h3 q y hy (by simp only [Pt.size]; omega)
  simp only [Pt.size] at this
  omega
theorem apart_a {L rest : List Nd} {n : Int} {a b : Pt} {at_ : Nat} {up : Int} (h : L.drop at_ = (Pt.app n a b).flat at_ up ++ rest) (h3 : Apart L at_ (Pt.app n a b).size) : Apart L (at_ + 1) a.size := fun q y hy hq => by
  by_cases hb : q < at_ + 1 + a.size + b.size
  · rcases seg_get (seg_app h).2 (by omega) hb hy with ⟨_, rfl⟩ | ⟨_, h5, _⟩
    · left; simp only; omega
    · right; omega
  · have := h3 q y hy (by simp only [Pt.size]; omega)
    simp only [Pt.size] at this
    omega
theorem apart_b {L : List Nd} {n : Int} {a b : Pt} {at_ : Nat} (h3 : Apart L at_ (Pt.app n a b).size) : Apart L (at_ + 1 + a.size) b.size := fun q y hy hq => by
  have := h3 q y hy (by simp only [Pt.size]; omega)
  simp only [Pt.size] at this
  omega
theorem upAt_no {L : List Nd} {q k : Nat} (h : ∀ y, L[q]? = some y → y.u ≠ (k : Int)) : upAt L q k = false := by
  cases hy : L[q]? with
  | none => unfold upAt; rw [hy]
  | some y => cases hb : upAt L q k with
    | false => rfl
    | true => exact (h y hy ((upAt_iff hy).1 hb)).elim
theorem seg_parts {L rest : List Nd} {t : Pt} {at_ : Nat} {up : Int} (h : L.drop at_ = t.flat at_ up ++ rest) (h3 : Apart L at_ t.size) : partsP L at_ L.length = t.places at_ := by
  have hl := seg_len h
  have hlow := partsP_low L at_ (at_ + 1) (by omega)
  have hbeh : ∀ q, at_ + t.size ≤ q → upAt L q at_ = false := fun q hq => upAt_no fun y hy => by
    have := h3 q y hy hq
    have := t.size_pos
    omega
  cases t with
  | var n =>
    rw [parts_skip (a := at_ + 1) (by simp only [Pt.size] at hl; omega) fun q h1 _ => hbeh q (by simp only [Pt.size]; omega), hlow]
    rfl
  | lam n t =>
    have hs := seg_lam h
    have hp := t.size_pos
    simp only [Pt.size] at hl
    have hhit := parts_hit (L := L) (k := at_) (p := at_ + 1) (by omega) ((upAt_iff (seg_root hs)).2 rfl)
    rw [parts_skip (a := at_ + 1 + 1) (by omega) fun q h1 h2 => ?_, hhit, hlow]
    · rfl
    · by_cases hq : q < at_ + 1 + t.size
      · refine upAt_no fun y hy => ?_
        rcases seg_get hs (by omega) hq hy with ⟨h5, _⟩ | ⟨_, h5, _⟩ <;> omega
      · exact hbeh q (by simp only [Pt.size]; omega)
  | app n a b =>
    have hs := (seg_app h).1
    have hs2 := (seg_app h).2
    have hp := a.size_pos
    have hp2 := b.size_pos
    simp only [Pt.size] at hl
    have hhit := parts_hit (L := L) (k := at_) (p := at_ + 1) (by omega) ((upAt_iff (seg_root hs)).2 rfl)
    have hhit2 := parts_hit (L := L) (k := at_) (p := at_ + 1 + a.size) (by omega) ((upAt_iff (seg_root hs2)).2 rfl)
    rw [parts_skip (a := at_ + 1 + a.size + 1) (by omega) fun q h1 h2 => ?_, hhit2, parts_skip (a := at_ + 1 + 1) (by omega) fun q h1 h2 => ?_, hhit, hlow]
    · rfl
    · refine upAt_no fun y hy => ?_
      rcases seg_get hs (by omega) (by omega) hy with ⟨h5, _⟩ | ⟨_, h5, _⟩ <;> omega
    · by_cases hq : q < at_ + 1 + a.size + b.size
      · refine upAt_no fun y hy => ?_
        rcases seg_get hs2 (by omega) hq hy with ⟨h5, _⟩ | ⟨_, h5, _⟩ <;> omega
      · exact hbeh q (by simp only [Pt.size]; omega)
theorem places_length (t : Pt) (at_ : Nat) : ((t.places at_).length : Int) = t.kd - 1 := by cases t <;> rfl
theorem chk_iff {L : List Nd} {i : Nat} {x : Nd} : chk L i x = true ↔ shapeP L i x = true ∧ (1 ≤ x.k ∧ x.k ≤ 3) ∧ (i = 0 ∨ aroundP L i ((i : Int) - 1) x.u = true) ∧ dep L i ≤ 40 ∧ ((partsP L i L.length).length : Int) = x.k - 1 ∧ numP x = true := by
  unfold chk dep
  simp only [Bool.and_eq_true, Bool.or_eq_true, decide_eq_true_eq, show ((i : Int)).toNat = i by simp, show ((i : Int) = 0) = (i = 0) by simp]
theorem goodS_iff {L : List Nd} : goodS L = true ↔ (1 ≤ L.length ∧ L.length ≤ 150) ∧ ∀ i x, L[i]? = some x → chk L i x = true := by
  unfold goodS
  simp only [Bool.and_eq_true, decide_eq_true_eq, List.all_eq_true, List.mem_range]
  constructor
  · rintro ⟨⟨h1, h2⟩, h3⟩
    refine ⟨⟨by omega, by omega⟩, fun i x hx => ?_⟩
    have := h3 i (List.getElem?_eq_some_iff.1 hx).1
    unfold chkAt at this
    rw [hx] at this
    exact this
  · rintro ⟨⟨h1, h2⟩, h3⟩
    refine ⟨⟨by omega, by omega⟩, fun i hi => ?_⟩
    have hx := List.getElem?_eq_getElem hi
    unfold chkAt
    rw [hx]
    exact h3 i _ hx
theorem fine_of {L : List Nd} (h : goodS L = true) : Fine L := by
  obtain ⟨_, h⟩ := goodS_iff.1 h
  have hs : ∀ (i : Nat) (x : Nd), L[i]? = some x → ((i : Int) = 0 ↔ x.u = -1) ∧ -1 ≤ x.u ∧ x.u ≤ (i : Int) - 1 := fun i x hx => by
    have h1 := (chk_iff.1 (h i x hx)).1
    unfold shapeP at h1
    simp only [Bool.and_eq_true, decide_eq_true_eq, beq_iff_eq, decide_eq_decide] at h1
    exact h1
  refine ⟨fun i x hx => ?_, fun i x hx => ?_, fun i x hx hi => ?_, fun i x hx => (chk_iff.1 (h i x hx)).2.1, fun i x hx => (chk_iff.1 (h i x hx)).2.2.2.2.1⟩
  · have := hs i x hx
    omega
  · have := (hs i x hx).1
    omega
  · rcases (chk_iff.1 (h i x hx)).2.2.1 with h1 | h1
    · omega
    · rw [show (i : Int) - 1 = ((i - 1 : Nat) : Int) by omega] at h1
      exact around_anc _ _ _ h1
theorem nums_of : ∀ (t : Pt) (at_ : Nat) (up : Int), (∀ z ∈ t.flat at_ up, numP z = true) → t.nums = true
  | .var n, at_, up, h => by
    have := h ⟨1, n, up⟩ (by simp [Pt.flat])
    simpa [numP, Pt.nums] using this
  | .lam n t, at_, up, h => by
    have h1 := h ⟨2, n, up⟩ (by simp [Pt.flat])
    have h2 := nums_of t _ _ fun z hz => h z (by simp only [Pt.flat]; exact List.mem_cons_of_mem _ hz)
    simp [numP] at h1
    simp [Pt.nums, h2, h1.2]
  | .app n a b, at_, up, h => by
    have h1 := h ⟨3, n, up⟩ (by simp [Pt.flat])
    have h2 := nums_of a _ _ fun z hz => h z (by simp only [Pt.flat]; exact List.mem_cons_of_mem _ (List.mem_append_left _ hz))
    have h3 := nums_of b _ _ fun z hz => h z (by simp only [Pt.flat]; exact List.mem_cons_of_mem _ (List.mem_append_right _ hz))
    simp [numP] at h1
    simp [Pt.nums, h2, h3, h1.2]
theorem seg_dep {L : List Nd} (hU : UpAll L) : ∀ (t : Pt) (at_ : Nat) (up : Int) (rest : List Nd), L.drop at_ = t.flat at_ up ++ rest → ∃ q, at_ ≤ q ∧ q < at_ + t.size ∧ dep L q + 1 = dep L at_ + t.depth
  | .var n, at_, up, rest, h => ⟨at_, by omega, by simp [Pt.size], rfl⟩
  | .lam n t, at_, up, rest, h => by
    have hs := seg_lam h
    obtain ⟨q, h1, h2, h3⟩ := seg_dep hU t _ _ _ hs
    have := dep_up hU (seg_root hs)
    simp only at this
    exact ⟨q, by omega, by simp only [Pt.size]; omega, by simp only [Pt.depth]; omega⟩
  | .app n a b, at_, up, rest, h => by
    have hs := seg_app h
    have e1 := dep_up hU (seg_root hs.1)
    have e2 := dep_up hU (seg_root hs.2)
    simp only at e1 e2
    by_cases hd : b.depth ≤ a.depth
    · obtain ⟨q, h1, h2, h3⟩ := seg_dep hU a _ _ _ hs.1
      exact ⟨q, by omega, by simp only [Pt.size]; omega, by simp only [Pt.depth]; omega⟩
    · obtain ⟨q, h1, h2, h3⟩ := seg_dep hU b _ _ _ hs.2
      exact ⟨q, by omega, by simp only [Pt.size]; omega, by simp only [Pt.depth]; omega⟩
theorem tree_good {L : List Nd} (h : goodS L = true) : ∃ t : Pt, t.good = true ∧ L = t.flat 0 (-1) := by
  have hF := fine_of h
  obtain ⟨⟨hl1, hl2⟩, hc⟩ := goodS_iff.1 h
  obtain ⟨x, hx⟩ : ∃ x, L[0]? = some x := ⟨_, List.getElem?_eq_getElem (by omega)⟩
  obtain ⟨t, j, hp, hj⟩ := tree_of hF L.length 0 x hx (by omega)
  rw [(hF.zero 0 x hx).2 rfl] at hp
  obtain ⟨h1, h2, h3⟩ := parse_sound L _ _ _ _ _ hp
  have hpos := t.size_pos
  have hjl : j = L.length := by
    by_cases e : j = L.length
    · exact e
    · obtain ⟨y, hy⟩ : ∃ y, L[j]? = some y := ⟨_, List.getElem?_eq_getElem (by omega)⟩
      have h4 := hj y hy
      have h5 := (hF.up j y hy).1
      have := (hF.zero j y hy).1 (by omega)
      omega
  rw [hjl, List.drop_length, List.append_nil, List.drop_zero] at h1
  refine ⟨t, ?_, h1⟩
  have hd : L.drop 0 = t.flat 0 (-1) ++ [] := by rw [List.drop_zero, List.append_nil]; exact h1
  obtain ⟨q, _, h6, h7⟩ := seg_dep hF.up t 0 (-1) [] hd
  obtain ⟨z, hz⟩ : ∃ z, L[q]? = some z := ⟨_, List.getElem?_eq_getElem (by omega)⟩
  have h8 := (chk_iff.1 (hc q z hz)).2.2.2.1
  have h9 := dep_up hF.up (seg_root hd)
  unfold Pt.good
  simp only [Bool.and_eq_true, decide_eq_true_eq]
  refine ⟨by omega, by simp only [dep_neg] at h9; omega, nums_of t 0 (-1) fun w hw => ?_⟩
  rw [← h1] at hw
  obtain ⟨i, hi⟩ := List.getElem?_of_mem hw
  exact (chk_iff.1 (hc i w hi)).2.2.2.2.2
theorem root_chk {L rest : List Nd} (hU : UpAll L) {t : Pt} {at_ : Nat} {up : Int} (h : L.drop at_ = t.flat at_ up ++ rest)
    (h1 : (at_ = 0 ∧ up = -1) ∨ ∃ p : Nat, up = p ∧ 0 < at_ ∧ Anc L p (at_ - 1)) (h2 : dep L up + t.depth ≤ 40) (hn : t.nums = true) (h3 : Apart L at_ t.size) : chk L at_ ⟨t.kd, t.num, up⟩ = true := by
  have hr := seg_root h
  have hpos := t.depth_pos
  refine chk_iff.2 ⟨?_, ?_, ?_, ?_, ?_, ?_⟩
  · have := hU _ _ hr
    simp only at this
    unfold shapeP
    simp only [Bool.and_eq_true, decide_eq_true_eq, beq_iff_eq, decide_eq_decide]
    refine ⟨?_, by omega, by omega⟩
    rcases h1 with ⟨rfl, rfl⟩ | ⟨p, rfl, hp, _⟩ <;> omega
  · cases t <;> simp only [Pt.kd] <;> omega
  · rcases h1 with ⟨rfl, _⟩ | ⟨p, rfl, hp, ha⟩
    · exact .inl rfl
    · right
      rw [show (at_ : Int) - 1 = ((at_ - 1 : Nat) : Int) by omega]
      exact anc_around hU ha _ (by omega)
  · have := dep_up hU hr
    simp only at this
    omega
  · rw [seg_parts h h3]
    exact places_length t at_
  · cases t <;> simp [Pt.nums] at hn <;> simp [numP, Pt.kd, Pt.num, hn]
theorem seg_chk {L : List Nd} (hU : UpAll L) : ∀ (t : Pt) (at_ : Nat) (up : Int) (rest : List Nd), L.drop at_ = t.flat at_ up ++ rest →
    ((at_ = 0 ∧ up = -1) ∨ ∃ p : Nat, up = p ∧ 0 < at_ ∧ Anc L p (at_ - 1)) → dep L up + t.depth ≤ 40 → t.nums = true → Apart L at_ t.size → ∀ i x, at_ ≤ i → i < at_ + t.size → L[i]? = some x → chk L i x = true
  | .var n, at_, up, rest, h, h1, h2, hn, h3, i, x, hi, hi2, hx => by
    rcases seg_get h hi hi2 hx with ⟨rfl, rfl⟩ | ⟨h4, _, _⟩
    · exact root_chk hU h h1 h2 hn h3
    · simp only [Pt.size] at hi2; omega
  | .lam n t, at_, up, rest, h, h1, h2, hn, h3, i, x, hi, hi2, hx => by
    rcases seg_get h hi hi2 hx with ⟨rfl, rfl⟩ | ⟨h4, _, _⟩
    · exact root_chk hU h h1 h2 hn h3
    · have hd := dep_up hU (seg_root h)
      simp only [Pt.depth, Pt.size, Pt.nums, Bool.and_eq_true] at h2 hi2 hn hd
      exact seg_chk hU t (at_ + 1) at_ rest (seg_lam h) (.inr ⟨at_, rfl, by omega, .refl _⟩) (by omega) hn.2 (apart_lam (rest := rest) (up := up) h3) i x (by omega) (by omega) hx
  | .app n a b, at_, up, rest, h, h1, h2, hn, h3, i, x, hi, hi2, hx => by
    rcases seg_get h hi hi2 hx with ⟨rfl, rfl⟩ | ⟨h4, _, _⟩
    · exact root_chk hU h h1 h2 hn h3
    · have hd := dep_up hU (seg_root h)
      have hpa := a.size_pos
      have ha := seg_app h
      simp only [Pt.depth, Pt.size, Pt.nums, Bool.and_eq_true] at h2 hi2 hn hd
      by_cases hb : i < at_ + 1 + a.size
      · exact seg_chk hU a (at_ + 1) at_ _ ha.1 (.inr ⟨at_, rfl, by omega, .refl _⟩) (by omega) hn.2.1 (apart_a h h3) i x (by omega) (by omega) hx
      · refine seg_chk hU b (at_ + 1 + a.size) at_ rest ha.2 (.inr ⟨at_, rfl, by omega, ?_⟩) (by omega) hn.2.2 (apart_b h3) i x (by omega) (by omega) hx
        have h5 := seg_anc ha.1 (at_ + 1 + a.size - 1) (by omega) (by omega)
        exact Anc.trans (.up (seg_root ha.1) rfl (.refl _)) h5
theorem flat_up {t : Pt} : UpAll (t.flat 0 (-1)) := fun j x hx => by
  rcases flat_get t 0 (-1) j x hx with ⟨rfl, rfl⟩ | ⟨h1, h2, h3⟩
  · exact ⟨by simp, by simp⟩
  · omega
theorem flat_apart {t : Pt} : Apart (t.flat 0 (-1)) 0 t.size := fun q y hy hq => by
  have := (List.getElem?_eq_some_iff.1 hy).1
  rw [t.flat_length] at this
  omega
theorem flat_drop (t : Pt) : (t.flat 0 (-1)).drop 0 = t.flat 0 (-1) ++ [] := by rw [List.drop_zero, List.append_nil]
theorem good_tree {t : Pt} (h : t.good = true) : goodS (t.flat 0 (-1)) = true := by
  unfold Pt.good at h
  simp only [Bool.and_eq_true, decide_eq_true_eq] at h
  have hpos := t.size_pos
  refine goodS_iff.2 ⟨⟨by rw [t.flat_length]; omega, by rw [t.flat_length]; omega⟩, fun i x hx => ?_⟩
  have := (List.getElem?_eq_some_iff.1 hx).1
  rw [t.flat_length] at this
  exact seg_chk flat_up t 0 (-1) [] (flat_drop t) (.inl ⟨rfl, rfl⟩) (by rw [dep_neg]; omega) h.2.2 flat_apart i x (by omega) (by omega) hx
/-- What the reference holds for good is what the program reads as a term. -/
theorem goodS_term (L : List Nd) : goodS L = (termOfP L).isSome := by
  cases h : termOfP L with
  | some t =>
    obtain ⟨h1, h2⟩ := (termOfP_iff L t).1 h
    rw [h2]
    exact good_tree h1
  | none =>
    cases hg : goodS L with
    | false => rfl
    | true =>
      obtain ⟨t, h1, h2⟩ := tree_good hg
      rw [(termOfP_iff L t).2 ⟨h1, h2⟩] at h
      cases h
end Go.Den
namespace Go.Den
open Go
set_option linter.unusedVariables false
set_option maxRecDepth 100000
theorem kid_seg {L rest : List Nd} {t : Pt} {at_ : Nat} {up : Int} (h : L.drop at_ = t.flat at_ up ++ rest) (h3 : Apart L at_ t.size) {i : Nat} (hi : i < t.kids.length) :
    ∃ (x : Pt) (p : Nat) (r : List Nd), t.kids[i]? = some x ∧ x ∈ t.kids ∧ (t.places at_)[i]? = some p ∧ L.drop p = x.flat p at_ ++ r ∧ Apart L p x.size := by
  cases t with
  | var n => simp [Pt.kids] at hi
  | lam n t =>
    have : i = 0 := by simp [Pt.kids] at hi; omega
    subst this
    exact ⟨t, at_ + 1, rest, rfl, by simp [Pt.kids], rfl, seg_lam h, apart_lam (rest := rest) (up := up) h3⟩
  | app n a b =>
    match i, hi with
    | 0, _ => exact ⟨a, at_ + 1, _, rfl, by simp [Pt.kids], rfl, (seg_app h).1, apart_a h h3⟩
    | 1, _ => exact ⟨b, at_ + 1 + a.size, _, rfl, by simp [Pt.kids], rfl, (seg_app h).2, apart_b h3⟩
    | i + 2, hi => simp [Pt.kids] at hi; omega
theorem places_kids (t : Pt) (at_ : Nat) : (t.places at_).length = t.kids.length := by cases t <;> rfl
theorem ev_lcTree (L : List Nd) (b : Bool) (hL : L.length ≤ 1000000) (N : Nat) (hN : 1000012 ≤ N) : ∀ (d : Nat) (t : Pt) (at_ : Nat) (up : Int) (rest : List Nd), t.depth ≤ d → L.drop at_ = t.flat at_ up ++ rest → Apart L at_ t.size →
    EvN (d + N) 48 [.dat (.lst b (L.map Nd.d)), .dat (I at_)] [] [] ([.dat t.d], [], [])
  | 0, t, at_, up, rest, hd, h, h3 => by have := t.depth_pos; omega
  | d + 1, t, at_, up, rest, hd, h, h3 => by
    refine EvN.mono (ev_fn Go.Proofs.Try.f48 (d + N) (by kernel_rfl) (by kernel_rfl) fun kk hkk => ?_) (by omega)
    have hl := seg_len h
    have hp := t.size_pos
    have hr := nd_at (seg_root h)
    have hparts := ev_lcParts L b at_ hL (by omega) kk (by omega)
    rw [seg_parts h h3] at hparts
    have hle := t.kids_le
    have hpk := places_kids t at_
    rw [Pt.d_eq]
    refine lcTree kk b (L.map Nd.d) at_ t.kd t.num up ((t.places at_).map IN) (t.kids.map Pt.d) hr hr hparts ?_
    let st := fun i : Nat => hd48 b (L.map Nd.d) t.kd t.num ((t.places at_).map IN) i ((t.kids.take i).map Pt.d)
    refine loopAt_range st t.kids.length (by omega) (fun i hi m s K hs hn => ?_) (fun m s K hs hK => ?_) (by simp [st])
    · obtain ⟨x, p, r, h1, h2, h4, h5, h6⟩ := kid_seg h h3 hi
      have hx := Pt.kids_lt h2
      have hto : ((i : Int)).toNat = i := by simp
      have hev := ev_lcTree L b hL N hN d x p at_ r (by omega) h5 h6 kk (by omega)
      rw [Pt.d_eq] at hev
      refine lcTree_go kk m b _ t.kd t.num _ i p x.kd x.num _ _ hs (decide_eq_true (by simp; omega)) ⟨by omega, by simp; omega⟩ (by rw [hto, List.getElem?_map, h4]; rfl) hev (by simp; omega) fun s' hs' => hn s' ?_
      have hstep : (t.kids.take (i + 1)).map Pt.d = (t.kids.take i).map Pt.d ++ [T x.kd x.num (x.kids.map Pt.d)] := by
        rw [List.take_add_one, h1, List.map_append, ← Pt.d_eq]
        rfl
      rw [hs', w64_eq (n := (i : Int) + 1) (by omega)]
      simp only [st, hd48, hstep]
      rfl
    · have hs' : s.norm _ = hd48 b (L.map Nd.d) t.kd t.num ((t.places at_).map IN) t.kids.length ((t.kids.take t.kids.length).map Pt.d) := hs
      rw [List.take_length] at hs'
      exact lcTree_end kk m b _ t.kd t.num _ _ _ hs' (decide_eq_false (by simp; omega)) hK
theorem ev_tree {L : List Nd} {t : Pt} (b : Bool) (h : termOfP L = some t) : EvN 1000100 48 [.dat (.lst b (L.map Nd.d)), .dat (I 0)] [] [] ([.dat t.d], [], []) := by
  obtain ⟨h1, h2⟩ := (termOfP_iff L t).1 h
  have hg := good_facts h1
  subst h2
  exact (ev_lcTree _ b (by rw [t.flat_length]; omega) 1000012 (Nat.le_refl _) t.depth t 0 (-1) [] (Nat.le_refl _) (flat_drop t) flat_apart).mono (by omega)
theorem flat_inj {t s : Pt} (h : t.flat 0 (-1) = s.flat 0 (-1)) : t = s := by
  have h1 := parse_flat (t.flat 0 (-1)) t t.size 0 (-1) [] (flat_drop t) (Nat.le_refl _)
  have hsz : t.size = s.size := by rw [← t.flat_length 0 (-1), h, s.flat_length]
  have h2 := parse_flat (t.flat 0 (-1)) s t.size 0 (-1) [] (by rw [h]; exact flat_drop s) (by omega)
  rw [h1] at h2
  injection h2 with h2
  injection h2
theorem goodS_flat (t : Pt) : goodS (t.flat 0 (-1)) = t.good := by
  cases hg : t.good with
  | true => exact good_tree hg
  | false =>
    cases h : goodS (t.flat 0 (-1)) with
    | false => rfl
    | true =>
      obtain ⟨s, h1, h2⟩ := tree_good h
      rw [flat_inj h2, h1] at hg
      cases hg
theorem ev_lcTold (t : Pt) (hz : t.size ≤ 1000000) : EvN (t.depth + 1000210) 46 [.dat t.d] [] [] ([.own 50 ((if t.good = true then t.flat 0 (-1) else []).map Nd.d), .dat (B t.good)], [], []) := by
  refine ev_fn Go.Proofs.Try.f46 (t.depth + 1000209) (by kernel_rfl) (by kernel_rfl) fun kk hkk => ?_
  have h1 := ev_lcFlat t.depth t [] (-1) (Nat.le_refl _) (by simp) (by omega) kk (by omega)
  have hb := (flatS_facts t [] (-1) (by simp)).2
  have h2 := ev_GoodTerm (flatS t [] (-1)) true (by simp at hb; omega) kk (by omega)
  have hgood : goodS (flatS t [] (-1)) = t.good := by
    by_cases hs : t.size ≤ 150
    · rw [flatS_small hs, goodS_flat]
    · have h3 := flatS_big (t := t) (by omega)
      have : t.good = false := by
        cases hg : t.good with
        | false => rfl
        | true => exact (hs (good_facts hg).1).elim
      rw [this]
      cases hg : goodS (flatS t [] (-1)) with
      | false => rfl
      | true => have := (goodS_iff.1 hg).1.2; omega
  rw [hgood] at h2
  rw [Pt.d_eq] at h1 ⊢
  cases hg : t.good with
  | true =>
    rw [hg] at h2
    rw [flatS_small (good_facts hg).1] at h1 h2
    rw [if_pos rfl]
    exact lcTold_yes kk _ _ _ _ h1 h2
  | false =>
    rw [hg] at h2
    rw [if_neg (fun h => by cases h)]
    exact lcTold_no kk _ _ _ _ h1 h2
end Go.Den
namespace Go.Den
open Go
set_option linter.unusedVariables false
theorem wt_int {n : Nat} {d : Dat} {i : TI} {k : IntKind} (h : WT cfg.ty n d) (ht : cfg.ty n = some i) (hk : i.kind = .int k) : ∃ x : Int, d = .val (.int k x) ∧ (Lit.int k x).wf = true := by
  cases h with
  | @int _ i' k' x ht' hk' hw => rw [ht] at ht'; cases ht'; rw [hk] at hk'; cases hk'; exact ⟨x, rfl, hw⟩
  | bool ht' hk' => rw [ht] at ht'; cases ht'; rw [hk] at hk'; cases hk'
  | str ht' hk' => rw [ht] at ht'; cases ht'; rw [hk] at hk'; cases hk'
  | lst ht' hk' => rw [ht] at ht'; cases ht'; rw [hk] at hk'; cases hk'
  | agg ht' hk' => rw [ht] at ht'; cases ht'; rw [hk] at hk'; cases hk'
theorem wt_lst {n e : Nat} {d : Dat} {i : TI} (h : WT cfg.ty n d) (ht : cfg.ty n = some i) (hk : i.kind = .slice e) : ∃ es : List Dat, d = .lst false es ∧ es.length ≤ maxLen ∧ ∀ x ∈ es, WT cfg.ty e x := by
  cases h with
  | int ht' hk' => rw [ht] at ht'; cases ht'; rw [hk] at hk'; cases hk'
  | bool ht' hk' => rw [ht] at ht'; cases ht'; rw [hk] at hk'; cases hk'
  | str ht' hk' => rw [ht] at ht'; cases ht'; rw [hk] at hk'; cases hk'
  | @lst _ i' e' es ht' hk' hl hx => rw [ht] at ht'; cases ht'; rw [hk] at hk'; cases hk'; exact ⟨es, rfl, hl, hx⟩
  | agg ht' hk' => rw [ht] at ht'; cases ht'; rw [hk] at hk'; cases hk'
theorem wt_agg {n : Nat} {d : Dat} {i : TI} (h : WT cfg.ty n d) (ht : cfg.ty n = some i) (hk : i.kind = .struct) : ∃ cs : List Dat, d = .agg cs ∧ cs.length = i.fs.length ∧ ∀ (j : Nat) (f : Nat × Nat) (x : Dat), i.fs[j]? = some f → cs[j]? = some x → WT cfg.ty f.2 x := by
  cases h with
  | int ht' hk' => rw [ht] at ht'; cases ht'; rw [hk] at hk'; cases hk'
  | bool ht' hk' => rw [ht] at ht'; cases ht'; rw [hk] at hk'; cases hk'
  | str ht' hk' => rw [ht] at ht'; cases ht'; rw [hk] at hk'; cases hk'
  | lst ht' hk' => rw [ht] at ht'; cases ht'; rw [hk] at hk'; cases hk'
  | @agg _ i' cs ht' hk' hl hx => rw [ht] at ht'; cases ht'; exact ⟨cs, rfl, hl, hx⟩
theorem int_of {d : Dat} (h : WT cfg.ty 3 d) : ∃ n : Int, d = I n := by
  obtain ⟨n, h1, _⟩ := wt_int h (i := ⟨.int .i64, 1, 8, [], [.dat (.val (.int .i64 0))]⟩) (by kernel_rfl) rfl
  exact ⟨n, h1⟩
theorem nd_of {d : Dat} (h : WT cfg.ty 52 d) : ∃ x : Nd, d = x.d := by
  obtain ⟨cs, rfl, hl, hx⟩ := wt_agg h (i := ⟨.struct, 3, 24, [(0, 3), (1, 3), (2, 3)], [.dat (.val (.int .i64 0)), .dat (.val (.int .i64 0)), .dat (.val (.int .i64 0))]⟩) (by kernel_rfl) rfl
  match cs, hl, hx with
  | [a, b, c], _, hx =>
    obtain ⟨k, rfl⟩ := int_of (hx 0 (0, 3) a rfl rfl)
    obtain ⟨n, rfl⟩ := int_of (hx 1 (1, 3) b rfl rfl)
    obtain ⟨u, rfl⟩ := int_of (hx 2 (2, 3) c rfl rfl)
    exact ⟨⟨k, n, u⟩, rfl⟩
theorem nds_of : ∀ {es : List Dat}, (∀ x ∈ es, WT cfg.ty 52 x) → ∃ L : List Nd, es = L.map Nd.d
  | [], h => ⟨[], rfl⟩
  | d :: es, h => by
    obtain ⟨x, rfl⟩ := nd_of (h d (by simp))
    obtain ⟨L, rfl⟩ := nds_of fun y hy => h y (List.mem_cons_of_mem _ hy)
    exact ⟨x :: L, rfl⟩
theorem terms_of {d : Dat} (h : WT cfg.ty 22 d) : ∃ L : List Nd, d = .lst false (L.map Nd.d) ∧ L.length ≤ 9223372036854775807 := by
  obtain ⟨es, rfl, hl, hx⟩ := wt_lst h (i := ⟨.slice 52, 1, 24, [], [.own 52 []]⟩) (by kernel_rfl) rfl
  obtain ⟨L, rfl⟩ := nds_of hx
  rw [List.length_map] at hl
  exact ⟨L, rfl, hl⟩
theorem nds_clean : ∀ L : List Nd, Dat.cleans (L.map Nd.d) = true
  | [] => rfl
  | x :: L => by
    have := nds_clean L
    simp only [List.map_cons, Dat.cleans, this, Bool.and_true]
    rfl
end Go.Den
namespace Go.Den
open Go
set_option linter.unusedVariables false
set_option maxRecDepth 100000
theorem reduced (kk : Nat) (k n k1 n1 k2 n2 k3 n3 kr nr : Int) (d2 d3 dr r1 ps : List Dat) (h1 : ((0 : Int) ≤ 0 ∧ 0 < ((Dat.agg [I k1, I n1, Dat.lst false (T k2 n2 d2 :: r1)] :: T k3 n3 d3 :: ps).length : Int)) ∧ some (Dat.agg [I k1, I n1, Dat.lst false (T k2 n2 d2 :: r1)]) = some (Dat.agg [I k1, I n1, Dat.lst false (T k2 n2 d2 :: r1)])) (h2 : ((0 : Int) ≤ 0 ∧ 0 < ((T k2 n2 d2 :: r1).length : Int)) ∧ some (T k2 n2 d2) = some (T k2 n2 d2)) (h3 : ((0 : Int) ≤ 1 ∧ 1 < ((Dat.agg [I k1, I n1, Dat.lst false (T k2 n2 d2 :: r1)] :: T k3 n3 d3 :: ps).length : Int)) ∧ some (T k3 n3 d3) = some (T k3 n3 d3)) (h4 : den cfg kk 51 [D.dat (T k2 n2 d2), D.dat (I 0), D.dat (T k3 n3 d3)] [] [] = some ([D.dat (T kr nr dr)], [], [])) : runFn cfg kk (den cfg kk) 100 Go.Proofs.Try.f100 [.dat (T k n (T k1 n1 (T k2 n2 d2 :: r1) :: T k3 n3 d3 :: ps))] [] [] = some ([D.dat (T kr nr dr)], [], []) :=
  hrun_ok [(5, .at (T k1 n1 (T k2 n2 d2 :: r1))), (8, .at (T k2 n2 d2)), (12, .at (T k3 n3 d3)), (14, .ret [.dat (T kr nr dr)])] (ob h1 (ob h2 (ob h3 (ob h4 ob0)))) (by kernel_rfl)
theorem lcBeta_b (kk : Nat) (k n k1 n1 k2 n2 k3 n3 kr nr : Int) (d2 d3 dr r1 ps : List Dat) (b : Bool) (h1 : ((0 : Int) ≤ 0 ∧ 0 < ((Dat.agg [I k1, I n1, Dat.lst false (T k2 n2 d2 :: r1)] :: T k3 n3 d3 :: ps).length : Int)) ∧ some (Dat.agg [I k1, I n1, Dat.lst false (T k2 n2 d2 :: r1)]) = some (Dat.agg [I k1, I n1, Dat.lst false (T k2 n2 d2 :: r1)])) (h2 : ((0 : Int) ≤ 0 ∧ 0 < ((T k2 n2 d2 :: r1).length : Int)) ∧ some (T k2 n2 d2) = some (T k2 n2 d2)) (h3 : ((0 : Int) ≤ 1 ∧ 1 < ((Dat.agg [I k1, I n1, Dat.lst false (T k2 n2 d2 :: r1)] :: T k3 n3 d3 :: ps).length : Int)) ∧ some (T k3 n3 d3) = some (T k3 n3 d3)) (h4 : den cfg kk 47 [D.dat (T k2 n2 d2), D.dat (I 0), D.dat (T k3 n3 d3), D.dat (I 0)] [] [] = some ([D.dat (T kr nr dr)], [], [])) : runFn cfg kk (den cfg kk) 95 Go.Proofs.Try.f95 [.dat (Dat.agg [I k, I n, Dat.lst b (T k1 n1 (T k2 n2 d2 :: r1) :: T k3 n3 d3 :: ps)])] [] [] = some ([D.dat (T kr nr dr)], [], []) :=
  hrun_ok [(5, .at (T k1 n1 (T k2 n2 d2 :: r1))), (8, .at (T k2 n2 d2)), (12, .at (T k3 n3 d3)), (14, .ret [.dat (T kr nr dr)])] (ob h1 (ob h2 (ob h3 (ob h4 ob0)))) (by kernel_rfl)
theorem lcFine_b (kk : Nat) (b : Bool) (k n : Int) (ps out : List Dat) (r : Bool) (h1 : den cfg kk 46 [D.dat (Dat.agg [I k, I n, Dat.lst b ps])] [] [] = some ([D.own 50 out, D.dat (B r)], [], [])) : runFn cfg kk (den cfg kk) 84 Go.Proofs.Try.f84 [.dat (Dat.agg [I k, I n, Dat.lst b ps])] [] [] = some ([D.dat (B r)], [], []) :=
  hrun_ok [(7, .ret [.own 50 out, .dat (B r)])] (ob h1 ob0) (by kernel_rfl)
def hd89b (b : Bool) (out : List Dat) (at_ : Int) (ps : List Dat) (i : Int) : St := Nm [0, 7, 22, 23, 24] [.own 50 out, .dat (I at_), .dat (.lst b ps), .dat (I ps.length), .dat (I i)] [none, none, none, none, none] [] []
theorem lcFlat_go_b (kk m : Nat) {s : St} {K : X → St → Prop} (b : Bool) (out : List Dat) (at_ : Int) (ps : List Dat) (i kx nx : Int) (dx out' : List Dat) (hs : s.norm ((envOf cfg kk 89 Go.Proofs.Try.f89).live (firstRegion (lp Go.Proofs.Try.f89 4))) = hd89b b out at_ ps i) (h1 : decide (i < (ps.length : Int)) = true) (h2 : (0 ≤ i ∧ i < (ps.length : Int)) ∧ ps[i.toNat]? = some (T kx nx dx)) (h3 : decide ((out.length : Int) ≤ 150) = true) (h4 : den cfg kk 89 [D.own 50 out, D.dat (T kx nx dx), D.dat (I at_)] [] [] = some ([D.own 50 out'], [], [])) (hn : ∀ s : St, s.norm ((envOf cfg kk 89 Go.Proofs.Try.f89).live (firstRegion (lp Go.Proofs.Try.f89 4))) = Nm [0, 7, 22, 23, 24] [D.own 50 out', D.dat (I at_), D.dat (Dat.lst b ps), D.dat (I (ps.length : Int)), D.dat (I (w64 (i + 1)))] [none, none, none, none, none] [] [] → Rounds (envOf cfg kk 89 Go.Proofs.Try.f89) kk (lp Go.Proofs.Try.f89 4) m s K) : Rounds (envOf cfg kk 89 Go.Proofs.Try.f89) kk (lp Go.Proofs.Try.f89 4) (m + 1) s K :=
  rounds_go [(200025, .yes), (26, .at (T kx nx dx)), (200030, .yes), (34, .back [.own 50 out'] [] [])] hs (by kernel_rfl) (ob h1 (ob h2 (ob h3 (ob h4 (ob (rfl : false = false) ob0))))) (by kernel_rfl) hn
theorem lcFlat_skip_b (kk m : Nat) {s : St} {K : X → St → Prop} (b : Bool) (out : List Dat) (at_ : Int) (ps : List Dat) (i kx nx : Int) (dx : List Dat) (hs : s.norm ((envOf cfg kk 89 Go.Proofs.Try.f89).live (firstRegion (lp Go.Proofs.Try.f89 4))) = hd89b b out at_ ps i) (h1 : decide (i < (ps.length : Int)) = true) (h2 : (0 ≤ i ∧ i < (ps.length : Int)) ∧ ps[i.toNat]? = some (T kx nx dx)) (h3 : decide ((out.length : Int) ≤ 150) = false) (hn : ∀ s : St, s.norm ((envOf cfg kk 89 Go.Proofs.Try.f89).live (firstRegion (lp Go.Proofs.Try.f89 4))) = Nm [0, 7, 22, 23, 24] [D.own 50 out, D.dat (I at_), D.dat (Dat.lst b ps), D.dat (I (ps.length : Int)), D.dat (I (w64 (i + 1)))] [none, none, none, none, none] [] [] → Rounds (envOf cfg kk 89 Go.Proofs.Try.f89) kk (lp Go.Proofs.Try.f89 4) m s K) : Rounds (envOf cfg kk 89 Go.Proofs.Try.f89) kk (lp Go.Proofs.Try.f89 4) (m + 1) s K :=
  rounds_go [(200025, .yes), (26, .at (T kx nx dx)), (200030, .no)] hs (by kernel_rfl) (ob h1 (ob h2 (ob h3 ob0))) (by kernel_rfl) hn
theorem lcFlat_end_b (kk m : Nat) {s : St} {K : X → St → Prop} (b : Bool) (out : List Dat) (at_ : Int) (ps : List Dat) (i : Int) (hs : s.norm ((envOf cfg kk 89 Go.Proofs.Try.f89).live (firstRegion (lp Go.Proofs.Try.f89 4))) = hd89b b out at_ ps i) (h1 : decide (i < (ps.length : Int)) = false) (hK : K (X.exit 0) (Nm [0] [D.own 50 out] [none] [] [])) : Rounds (envOf cfg kk 89 Go.Proofs.Try.f89) kk (lp Go.Proofs.Try.f89 4) (m + 1) s K :=
  rounds_end [(200025, .no)] hs (by kernel_rfl) rfl (ob h1 ob0) (by kernel_rfl) hK
theorem lcFlat_b (kk : Nat) (b : Bool) (l : List Dat) (k n up : Int) (ps out : List Dat) (h1 : l.length + 1 ≤ 2147483648) (h3 : LoopAt cfg kk 89 Go.Proofs.Try.f89 4 (hd89b b (l ++ [N3 k n up]) ((l.length : Int)) ps 0) (X.exit 0) (Nm [0] [D.own 50 out] [none] [] [])) : runFn cfg kk (den cfg kk) 89 Go.Proofs.Try.f89 [.own 50 l, .dat (Dat.agg [I k, I n, Dat.lst b ps]), .dat (I up)] [] [] = some ([D.own 50 out], [], []) :=
  hrun_ok [(20, .ok), (300004, .loop (hd89b b (l ++ [N3 k n up]) l.length ps 0) (.exit 0) (Nm [0] [.own 50 out] [none] [] []))] (ob (obT h1) (ob (rfl : _ = hd89b b (l ++ [N3 k n up]) ((l.length : Int)) ps 0) (ob h3 ob0))) (by kernel_rfl)
theorem lcTold_b_false (kk : Nat) (b : Bool) (k n : Int) (ps out : List Dat) (h1 : den cfg kk 89 [D.own 50 [], D.dat (Dat.agg [I k, I n, Dat.lst b ps]), D.dat (I (-1))] [] [] = some ([D.own 50 out], [], [])) (h4 : den cfg kk 44 [D.dat (Dat.lst true out)] [] [] = some ([D.dat (B false)], [], [])) : runFn cfg kk (den cfg kk) 46 Go.Proofs.Try.f46 [.dat (Dat.agg [I k, I n, Dat.lst b ps])] [] [] = some ([D.own 50 [], D.dat (B false)], [], []) :=
  hrun_ok [(6, .back [.own 50 out] [] []), (8, .ret [.dat (B false)])] (ob h1 (ob (rfl : false = false) (ob (rfl : true = true) (ob h4 ob0)))) (by kernel_rfl)
theorem lcTold_b_true (kk : Nat) (b : Bool) (k n : Int) (ps out : List Dat) (h1 : den cfg kk 89 [D.own 50 [], D.dat (Dat.agg [I k, I n, Dat.lst b ps]), D.dat (I (-1))] [] [] = some ([D.own 50 out], [], [])) (h4 : den cfg kk 44 [D.dat (Dat.lst true out)] [] [] = some ([D.dat (B true)], [], [])) : runFn cfg kk (den cfg kk) 46 Go.Proofs.Try.f46 [.dat (Dat.agg [I k, I n, Dat.lst b ps])] [] [] = some ([D.own 50 out, D.dat (B true)], [], []) :=
  hrun_ok [(6, .back [.own 50 out] [] []), (8, .ret [.dat (B true)])] (ob h1 (ob (rfl : false = false) (ob (rfl : true = true) (ob h4 ob0)))) (by kernel_rfl)
end Go.Den
namespace Go.Den
open Go
set_option linter.unusedVariables false
set_option maxRecDepth 100000
/-- A term's data, with its list of parts lent or not. -/
def Pt.db (b : Bool) (t : Pt) : Dat := .agg [I t.kd, I t.num, .lst b (t.kids.map Pt.d)]
theorem Pt.d_db (t : Pt) : t.d = t.db false := t.d_eq
theorem ev_lcFlat_b (b : Bool) : ∀ (d : Nat) (t : Pt) (l : List Nd) (up : Int), t.depth ≤ d → l.length ≤ 150 → t.size ≤ 1000000000 →
    EvN (d + 5) 89 [.own 50 (l.map Nd.d), .dat (t.db b), .dat (I up)] [] [] ([.own 50 ((flatS t l up).map Nd.d)], [], [])
  | 0, t, l, up, hd, hl, hz => by have := t.depth_pos; omega
  | d + 1, t, l, up, hd, hl, hz => by
    refine ev_fn Go.Proofs.Try.f89 (d + 5) (by kernel_rfl) (by kernel_rfl) fun kk hkk => ?_
    have hle := t.kids_le
    have hsz := t.size_kids
    rw [flatS_kids]
    unfold Pt.db
    have hll : ((l.map Nd.d).length : Int) = l.length := by simp
    refine lcFlat_b kk b _ _ _ up _ _ (by simp; omega) ?_
    rw [hll]
    let acc := fun i : Nat => (t.kids.take i).foldl (stp l.length) (l ++ [⟨t.kd, t.num, up⟩])
    let st := fun i : Nat => hd89b b ((acc i).map Nd.d) l.length (t.kids.map Pt.d) i
    refine loopAt_range st t.kids.length (by omega) (fun i hi m s K hs hn => ?_) (fun m s K hs hK => ?_) (by simp [st, acc]; rfl)
    · obtain ⟨x, h1, h2, h3⟩ := kid_at hi
      have hx := Pt.kids_lt h2
      have hto : ((i : Int)).toNat = i := by simp
      have hal : (((acc i).map Nd.d).length : Int) = (acc i).length := by simp
      have hacc : acc (i + 1) = stp l.length (acc i) x := foldl_step h1 _ _
      by_cases hc : (acc i).length ≤ 150
      · have hev := ev_lcFlat d x (acc i) l.length (by omega) hc (by omega) kk (by omega)
        rw [Pt.d_eq] at hev
        refine lcFlat_go_b kk m b _ _ _ _ x.kd x.num _ _ hs (decide_eq_true (by simp; omega)) ⟨⟨by omega, by simp; omega⟩, by rw [hto]; exact h3⟩ (decide_eq_true (by omega)) hev fun s' hs' => hn s' ?_
        have : acc (i + 1) = flatS x (acc i) l.length := by rw [hacc]; unfold stp; rw [if_pos hc]
        rw [hs', w64_eq (n := (i : Int) + 1) (by omega), ← this]
        rfl
      · refine lcFlat_skip_b kk m b _ _ _ _ x.kd x.num _ hs (decide_eq_true (by simp; omega)) ⟨⟨by omega, by simp; omega⟩, by rw [hto]; exact h3⟩ (decide_eq_false (by omega)) fun s' hs' => hn s' ?_
        have : acc (i + 1) = acc i := by rw [hacc]; unfold stp; rw [if_neg hc]
        rw [hs', w64_eq (n := (i : Int) + 1) (by omega), ← this]
        rfl
    · refine lcFlat_end_b kk m b _ _ _ _ hs (decide_eq_false (by simp)) ?_
      have : acc t.kids.length = t.kids.foldl (stp l.length) (l ++ [⟨t.kd, t.num, up⟩]) := by simp only [acc, List.take_length]
      rw [this]
      exact hK
theorem ev_lcTold_b (b : Bool) (t : Pt) (hz : t.size ≤ 1000000) : EvN (t.depth + 1000210) 46 [.dat (t.db b)] [] [] ([.own 50 ((if t.good = true then t.flat 0 (-1) else []).map Nd.d), .dat (B t.good)], [], []) := by
  refine ev_fn Go.Proofs.Try.f46 (t.depth + 1000209) (by kernel_rfl) (by kernel_rfl) fun kk hkk => ?_
  have h1 := ev_lcFlat_b b t.depth t [] (-1) (Nat.le_refl _) (by simp) (by omega) kk (by omega)
  have hb := (flatS_facts t [] (-1) (by simp)).2
  have h2 := ev_GoodTerm (flatS t [] (-1)) true (by simp at hb; omega) kk (by omega)
  have hgood : goodS (flatS t [] (-1)) = t.good := by
    by_cases hs : t.size ≤ 150
    · rw [flatS_small hs, goodS_flat]
    · have h3 := flatS_big (t := t) (by omega)
      have : t.good = false := by
        cases hg : t.good with
        | false => rfl
        | true => exact (hs (good_facts hg).1).elim
      rw [this]
      cases hg : goodS (flatS t [] (-1)) with
      | false => rfl
      | true => have := (goodS_iff.1 hg).1.2; omega
  rw [hgood] at h2
  unfold Pt.db at h1 ⊢
  cases hg : t.good with
  | true =>
    rw [hg] at h2
    rw [flatS_small (good_facts hg).1] at h1 h2
    rw [if_pos rfl]
    exact lcTold_b_true kk b _ _ _ _ h1 h2
  | false =>
    rw [hg] at h2
    rw [if_neg (fun h => by cases h)]
    exact lcTold_b_false kk b _ _ _ _ h1 h2
/-- 'lcFine'. -/
theorem ev_lcFine (b : Bool) (t : Pt) (hz : t.size ≤ 1000000) : EvN (t.depth + 1000211) 84 [.dat (t.db b)] [] [] ([.dat (B t.good)], [], []) := by
  refine ev_fn Go.Proofs.Try.f84 (t.depth + 1000210) (by kernel_rfl) (by kernel_rfl) fun kk hkk => ?_
  have h := ev_lcTold_b b t hz kk (by omega)
  unfold Pt.db at h ⊢
  exact lcFine_b kk b _ _ _ _ _ h
end Go.Den
namespace Go.Den
open Go
set_option linter.unusedVariables false
set_option maxRecDepth 100000
def Pt.isRedex : Pt → Bool
  | .app _ a _ => decide (a.kd = 2)
  | _ => false
def Pt.beta : Pt → Pt
  | .app _ (.lam _ x) y => sub 0 y 0 x
  | t => t
theorem redex_app {t : Pt} (h : t.isRedex = true) : ∃ n n1 x y, t = .app n (.lam n1 x) y := by
  cases t with
  | var n => cases h
  | lam n x => cases h
  | app n a c =>
    have h : decide (a.kd = 2) = true := h
    cases a with
    | var m => exact absurd (of_decide_eq_true h) (by simp [Pt.kd])
    | lam m x => exact ⟨n, m, x, c, rfl⟩
    | app m x y => exact absurd (of_decide_eq_true h) (by simp [Pt.kd])
/-- What a redex is reduced to, when its parts are small. -/
theorem ev_lcBeta (b : Bool) (n n1 : Int) (x y : Pt) (hx : x.within 1000000) (hy : y.within 1000000) (hxd : x.depth ≤ 900) (hyd : y.depth ≤ 900) :
    EvN 2000 95 [.dat ((Pt.app n (.lam n1 x) y).db b)] [] [] ([.dat (sub 0 y 0 x).d], [], []) := by
  refine (ev_fn Go.Proofs.Try.f95 1900 (by kernel_rfl) (by kernel_rfl) fun kk hkk => ?_).mono (by omega)
  have h := ev_lcSubst 0 y (by omega) hy (by omega) x 0 (by omega) (by omega) hx kk (by omega)
  rw [Pt.d_eq x, Pt.d_eq y, Pt.d_eq (sub 0 y 0 x)] at h
  have := lcBeta_b kk 3 n 2 n1 x.kd x.num y.kd y.num (sub 0 y 0 x).kd (sub 0 y 0 x).num (x.kids.map Pt.d) (y.kids.map Pt.d) ((sub 0 y 0 x).kids.map Pt.d) [] [] b ⟨⟨by decide, by simp⟩, rfl⟩ ⟨⟨by decide, by simp⟩, rfl⟩ ⟨⟨by decide, by simp⟩, rfl⟩ h
  rw [← Pt.d_eq x, ← Pt.d_eq y, ← Pt.d_eq (sub 0 y 0 x)] at this
  exact this
theorem ev_reduced (n n1 : Int) (x y : Pt) (hx : x.within 1000000) (hy : y.within 1000000) (hxd : x.depth ≤ 900) (hyd : y.depth ≤ 900) :
    EvN 2000 100 [.dat (Pt.app n (.lam n1 x) y).d] [] [] ([.dat (sub 0 y 0 x).d], [], []) := by
  refine (ev_fn Go.Proofs.Try.f100 1900 (by kernel_rfl) (by kernel_rfl) fun kk hkk => ?_).mono (by omega)
  have h := ev_subst x y 0 (by omega) hx hy (by omega) (by omega) kk (by omega)
  rw [Pt.d_eq x, Pt.d_eq y, Pt.d_eq (sub 0 y 0 x)] at h
  have := reduced kk 3 n 2 n1 x.kd x.num y.kd y.num (sub 0 y 0 x).kd (sub 0 y 0 x).num (x.kids.map Pt.d) (y.kids.map Pt.d) ((sub 0 y 0 x).kids.map Pt.d) [] [] ⟨⟨by decide, by simp⟩, rfl⟩ ⟨⟨by decide, by simp⟩, rfl⟩ ⟨⟨by decide, by simp⟩, rfl⟩ h
  rw [← Pt.d_eq x, ← Pt.d_eq y, ← Pt.d_eq (sub 0 y 0 x)] at this
  exact this
/-- Good terms are small. -/
theorem good_small {t : Pt} (h : t.good = true) : t.size ≤ 150 ∧ t.depth ≤ 40 ∧ t.within 1000000 := by
  have := good_facts h
  exact ⟨this.1, this.2.1, within_mono (by omega) t (nums_within t this.2.2)⟩
end Go.Den
namespace Go.Den
open Go
set_option linter.unusedVariables false
set_option maxRecDepth 100000
def hd62 (kk0 k n : Int) (ps out : List Dat) (i : Int) : St := Nm [1, 4, 5, 21, 22, 23] [.dat (I kk0), .ptr (.loc 4) 0, .ptr (.loc 5) 0, .dat (.lst false ps), .dat (I ps.length), .dat (I i)] [none, some [.dat (I 0), .dat (I 0), .own 55 []], some [.dat (I k), .dat (I n), .own 55 out], none, none, none] [] []
theorem reduceAt_in (kk m : Nat) {s : St} {K : X → St → Prop} (kk0 k n : Int) (ps out : List Dat) (i : Int) (kx nx z : Int) (dx : List Dat) (ky ny : Int) (dy : List Dat) (hs : s.norm ((envOf cfg kk 62 Go.Proofs.Try.f62).live (firstRegion (lp Go.Proofs.Try.f62 6))) = hd62 kk0 k n ps out i) (h1 : decide (i < (ps.length : Int)) = true) (h2 : (0 ≤ i ∧ i < (ps.length : Int)) ∧ ps[i.toNat]? = some (T kx nx dx)) (h3 : den cfg kk 99 [D.dat (T kx nx dx)] [] [] = some ([D.dat (I z)], [], [])) (h4 : decide (0 ≤ kk0) = true) (h7 : decide (kk0 < z) = true) (h8 : den cfg kk 62 [D.dat (T kx nx dx), D.dat (I kk0)] [] [] = some ([D.dat (T ky ny dy)], [], [])) (h9 : out.length + 1 ≤ 2147483648) (hn : ∀ s : St, s.norm ((envOf cfg kk 62 Go.Proofs.Try.f62).live (firstRegion (lp Go.Proofs.Try.f62 6))) = Nm [1, 4, 5, 21, 22, 23] [D.dat (I (-1)), D.ptr (Ref.loc 4) 0, D.ptr (Ref.loc 5) 0, D.dat (Dat.lst false ps), D.dat (I (ps.length : Int)), D.dat (I (w64 (i + 1)))] [none, some [D.dat (I 0), D.dat (I 0), D.own 55 []], some [D.dat (I k), D.dat (I n), D.own 55 (out ++ [T ky ny dy])], none, none, none] [] [] → Rounds (envOf cfg kk 62 Go.Proofs.Try.f62) kk (lp Go.Proofs.Try.f62 6) m s K) : Rounds (envOf cfg kk 62 Go.Proofs.Try.f62) kk (lp Go.Proofs.Try.f62 6) (m + 1) s K :=
  rounds_go [(200024, .yes), (25, .at (T kx nx dx)), (28, .ret [.dat (I z)]), (200031, .yes), (200035, .yes), (40, .ret [.dat (T ky ny dy)]), (42, .ok)] hs (by kernel_rfl) (ob h1 (ob h2 (ob h3 (ob h4 (ob (rfl : true = true) (ob (rfl : true = true) (ob h7 (ob h8 (ob (obT h9) ob0))))))))) (by kernel_rfl) hn
theorem reduceAt_on (kk m : Nat) {s : St} {K : X → St → Prop} (kk0 k n : Int) (ps out : List Dat) (i : Int) (kx nx z : Int) (dx : List Dat) (hs : s.norm ((envOf cfg kk 62 Go.Proofs.Try.f62).live (firstRegion (lp Go.Proofs.Try.f62 6))) = hd62 kk0 k n ps out i) (h1 : decide (i < (ps.length : Int)) = true) (h2 : (0 ≤ i ∧ i < (ps.length : Int)) ∧ ps[i.toNat]? = some (T kx nx dx)) (h3 : den cfg kk 99 [D.dat (T kx nx dx)] [] [] = some ([D.dat (I z)], [], [])) (h4 : decide (0 ≤ kk0) = true) (h7 : decide (kk0 < z) = false) (h8 : out.length + 1 ≤ 2147483648) (hn : ∀ s : St, s.norm ((envOf cfg kk 62 Go.Proofs.Try.f62).live (firstRegion (lp Go.Proofs.Try.f62 6))) = Nm [1, 4, 5, 21, 22, 23] [D.dat (I (w64 (kk0 - z))), D.ptr (Ref.loc 4) 0, D.ptr (Ref.loc 5) 0, D.dat (Dat.lst false ps), D.dat (I (ps.length : Int)), D.dat (I (w64 (i + 1)))] [none, some [D.dat (I 0), D.dat (I 0), D.own 55 []], some [D.dat (I k), D.dat (I n), D.own 55 (out ++ [T kx nx dx])], none, none, none] [] [] → Rounds (envOf cfg kk 62 Go.Proofs.Try.f62) kk (lp Go.Proofs.Try.f62 6) m s K) : Rounds (envOf cfg kk 62 Go.Proofs.Try.f62) kk (lp Go.Proofs.Try.f62 6) (m + 1) s K :=
  rounds_go [(200024, .yes), (25, .at (T kx nx dx)), (28, .ret [.dat (I z)]), (200031, .yes), (200035, .no), (48, .ok)] hs (by kernel_rfl) (ob h1 (ob h2 (ob h3 (ob h4 (ob (rfl : true = true) (ob (rfl : true = true) (ob h7 (ob (obT h8) ob0)))))))) (by kernel_rfl) hn
theorem reduceAt_past (kk m : Nat) {s : St} {K : X → St → Prop} (kk0 k n : Int) (ps out : List Dat) (i : Int) (kx nx z : Int) (dx : List Dat) (hs : s.norm ((envOf cfg kk 62 Go.Proofs.Try.f62).live (firstRegion (lp Go.Proofs.Try.f62 6))) = hd62 kk0 k n ps out i) (h1 : decide (i < (ps.length : Int)) = true) (h2 : (0 ≤ i ∧ i < (ps.length : Int)) ∧ ps[i.toNat]? = some (T kx nx dx)) (h3 : den cfg kk 99 [D.dat (T kx nx dx)] [] [] = some ([D.dat (I z)], [], [])) (h4 : decide (0 ≤ kk0) = false) (h7 : out.length + 1 ≤ 2147483648) (hn : ∀ s : St, s.norm ((envOf cfg kk 62 Go.Proofs.Try.f62).live (firstRegion (lp Go.Proofs.Try.f62 6))) = Nm [1, 4, 5, 21, 22, 23] [D.dat (I (w64 (kk0 - z))), D.ptr (Ref.loc 4) 0, D.ptr (Ref.loc 5) 0, D.dat (Dat.lst false ps), D.dat (I (ps.length : Int)), D.dat (I (w64 (i + 1)))] [none, some [D.dat (I 0), D.dat (I 0), D.own 55 []], some [D.dat (I k), D.dat (I n), D.own 55 (out ++ [T kx nx dx])], none, none, none] [] [] → Rounds (envOf cfg kk 62 Go.Proofs.Try.f62) kk (lp Go.Proofs.Try.f62 6) m s K) : Rounds (envOf cfg kk 62 Go.Proofs.Try.f62) kk (lp Go.Proofs.Try.f62 6) (m + 1) s K :=
  rounds_go [(200024, .yes), (25, .at (T kx nx dx)), (28, .ret [.dat (I z)]), (200031, .no), (48, .ok)] hs (by kernel_rfl) (ob h1 (ob h2 (ob h3 (ob h4 (ob (rfl : false = false) (ob (rfl : false = false) (ob (obT h7) ob0))))))) (by kernel_rfl) hn
theorem reduceAt_end (kk m : Nat) {s : St} {K : X → St → Prop} (kk0 k n : Int) (ps out : List Dat) (i : Int) (hs : s.norm ((envOf cfg kk 62 Go.Proofs.Try.f62).live (firstRegion (lp Go.Proofs.Try.f62 6))) = hd62 kk0 k n ps out i) (h1 : decide (i < (ps.length : Int)) = false) (hK : K (X.exit 0) (Nm [4, 5] [D.ptr (Ref.loc 4) 0, D.ptr (Ref.loc 5) 0] [some [D.dat (I 0), D.dat (I 0), D.own 55 []], some [D.dat (I k), D.dat (I n), D.own 55 out]] [] [])) : Rounds (envOf cfg kk 62 Go.Proofs.Try.f62) kk (lp Go.Proofs.Try.f62 6) (m + 1) s K :=
  rounds_end [(200024, .no)] hs (by kernel_rfl) rfl (ob h1 ob0) (by kernel_rfl) hK
theorem reduceAt_here (kk : Nat) (kk0 k n kr nr : Int) (ps dr : List Dat) (h1 : decide (kk0 = 0) = true) (h2 : den cfg kk 100 [D.dat (T k n ps)] [] [] = some ([D.dat (T kr nr dr)], [], [])) : runFn cfg kk (den cfg kk) 62 Go.Proofs.Try.f62 [.dat (T k n ps), .dat (I kk0)] [] [] = some ([D.dat (T kr nr dr)], [], []) :=
  hrun_ok [(200010, .yes), (12, .ret [.dat (T kr nr dr)])] (ob h1 (ob h2 ob0)) (by kernel_rfl)
theorem reduceAt (kk : Nat) (kk0 k n : Int) (ps out : List Dat) (h1 : decide (kk0 = 0) = false) (h3 : LoopAt cfg kk 62 Go.Proofs.Try.f62 6 (hd62 (w64 (kk0 - 1)) k n ps [] 0) (X.exit 0) (Nm [4, 5] [D.ptr (Ref.loc 4) 0, D.ptr (Ref.loc 5) 0] [some [D.dat (I 0), D.dat (I 0), D.own 55 []], some [D.dat (I k), D.dat (I n), D.own 55 out]] [] [])) : runFn cfg kk (den cfg kk) 62 Go.Proofs.Try.f62 [.dat (T k n ps), .dat (I kk0)] [] [] = some ([D.dat (T k n out)], [], []) :=
  hrun_ok [(200010, .no), (300006, .loop (hd62 (w64 (kk0 - 1)) k n ps [] 0) (.exit 0) (Nm [4, 5] [.ptr (.loc 4) 0, .ptr (.loc 5) 0] [some [.dat (I 0), .dat (I 0), .own 55 []], some [.dat (I k), .dat (I n), .own 55 out]] [] []))] (ob h1 (ob (rfl : _ = hd62 (w64 (kk0 - 1)) k n ps [] 0) (ob h3 ob0))) (by kernel_rfl)
end Go.Den
namespace Go.Den
open Go
set_option linter.unusedVariables false
set_option maxRecDepth 100000
/-- Whether the node of a number is a redex. -/
def rxAt : Pt → Nat → Bool
  | t, 0 => t.isRedex
  | .var _, _ + 1 => false
  | .lam _ x, k + 1 => rxAt x k
  | .app _ a c, k + 1 => if k < a.size then rxAt a k else rxAt c (k - a.size)
theorem filter_range_succ (p : Nat → Bool) (i : Nat) : (List.range (i + 1)).filter p = (List.range i).filter p ++ (if p i = true then [i] else []) := by
  rw [List.range_succ, List.filter_append, List.filter_cons, List.filter_nil]
end Go.Den
namespace Go.Den
open Go
set_option linter.unusedVariables false
set_option maxRecDepth 100000
/-- A term with the redex of a number reduced. -/
def red : Pt → Nat → Pt
  | t, 0 => t.beta
  | .var n, _ + 1 => .var n
  | .lam n x, k + 1 => .lam n (red x k)
  | .app n a c, k + 1 => if k < a.size then .app n (red a k) c else .app n a (red c (k - a.size))
theorem red_kd (t : Pt) (k : Nat) : (red t (k + 1)).kd = t.kd ∧ (red t (k + 1)).num = t.num := by
  cases t with
  | var n => exact ⟨rfl, rfl⟩
  | lam n x => exact ⟨rfl, rfl⟩
  | app n a c => simp only [red]; split <;> exact ⟨rfl, rfl⟩
theorem red_size : ∀ (t : Pt) (k : Nat), rxAt t k = true → t.size ≤ 150 → (red t k).size ≤ t.size + 22500 ∧ (red t k).depth ≤ 2 * t.depth
  | .var n, 0, h, hz => by cases h
  | .var n, k + 1, h, hz => by cases h
  | .lam n x, 0, h, hz => by cases h
  | .lam n x, k + 1, h, hz => by
    simp only [Pt.size] at hz
    have := red_size x k h (by omega)
    simp only [red, Pt.size, Pt.depth]
    omega
  | .app n a c, 0, h, hz => by
    obtain ⟨n', n1, x, y, e⟩ := redex_app (t := .app n a c) h
    cases e
    simp only [Pt.size] at hz
    have h3 := sub_size 0 c x 0
    have hm : x.size * c.size ≤ 150 * 150 := Nat.mul_le_mul (by omega) (by omega)
    simp only [red, Pt.beta, Pt.size, Pt.depth]
    omega
  | .app n a c, k + 1, h, hz => by
    simp only [Pt.size] at hz
    simp only [rxAt] at h
    simp only [red]
    split
    · rename_i hk
      rw [if_pos hk] at h
      have := red_size a k h (by omega)
      simp only [Pt.size, Pt.depth]
      omega
    · rename_i hk
      rw [if_neg hk] at h
      have := red_size c _ h (by omega)
      simp only [Pt.size, Pt.depth]
      omega
/-- A part, on the way to a number. -/
def stepAt (r : List Pt × Int) (x : Pt) : List Pt × Int :=
  if 0 ≤ r.2 then (if r.2 < x.size then (r.1 ++ [red x r.2.toNat], -1) else (r.1 ++ [x], r.2 - x.size)) else (r.1 ++ [x], r.2)
def foldAt (t : Pt) (k : Int) (i : Nat) : List Pt × Int := (t.kids.take i).foldl stepAt ([], k)
theorem foldAt_succ {t x : Pt} {k : Int} {i : Nat} (h : t.kids[i]? = some x) : foldAt t k (i + 1) = stepAt (foldAt t k i) x := by
  unfold foldAt
  rw [List.take_add_one, h, List.foldl_append]
  rfl
theorem foldAt_len (t : Pt) (k : Int) : ∀ i, i ≤ t.kids.length → (foldAt t k i).1.length = i
  | 0, _ => rfl
  | i + 1, h => by
    have hx := List.getElem?_eq_getElem (l := t.kids) (i := i) (by omega)
    rw [foldAt_succ hx]
    have := foldAt_len t k i (by omega)
    unfold stepAt
    split
    · split <;> simp [this]
    · simp [this]
theorem foldAt_red {t : Pt} {j : Nat} (h : j + 1 < t.size) : foldAt t j t.kids.length = ((red t (j + 1)).kids, -1) := by
  unfold foldAt
  rw [List.take_length]
  cases t with
  | var n => simp only [Pt.size] at h; omega
  | lam n x =>
    simp only [Pt.size] at h
    simp only [Pt.kids, List.foldl_cons, List.foldl_nil, stepAt, red]
    rw [if_pos (by omega), if_pos (by omega)]
    simp
  | app n a c =>
    simp only [Pt.size] at h
    simp only [Pt.kids, List.foldl_cons, List.foldl_nil, red]
    by_cases hk : j < a.size
    · rw [if_pos hk]
      have e : stepAt ([], (j : Int)) a = ([red a j], -1) := by
        unfold stepAt
        simp only
        rw [if_pos (by omega), if_pos (by omega)]
        simp
      rw [e]
      unfold stepAt
      simp only
      rw [if_neg (by omega)]
      simp
    · rw [if_neg hk]
      have e : stepAt ([], (j : Int)) a = ([a], (j : Int) - a.size) := by
        unfold stepAt
        simp only
        rw [if_pos (by omega), if_neg (by omega)]
        simp
      rw [e]
      unfold stepAt
      simp only
      rw [if_pos (by omega), if_pos (by omega), show ((j : Int) - a.size).toNat = j - a.size by omega]
      simp
/-- Where a part is met with a number of its own, that is a redex of it. -/
theorem foldAt_rx {t x : Pt} {j i : Nat} (hr : j + 1 < t.size → rxAt t (j + 1) = true) (hx : t.kids[i]? = some x) (h0 : 0 ≤ (foldAt t j i).2) (h1 : (foldAt t j i).2 < x.size) : rxAt x (foldAt t j i).2.toNat = true := by
  cases t with
  | var n => simp [Pt.kids] at hx
  | lam n y =>
    match i, hx with
    | 0, hx =>
      simp [Pt.kids] at hx
      subst hx
      have e : (foldAt (.lam n y) j 0).2 = j := rfl
      rw [e] at h1 ⊢
      simp only [Pt.size] at hr
      exact hr (by omega)
    | i + 1, hx => simp [Pt.kids] at hx
  | app n a c =>
    match i, hx with
    | 0, hx =>
      simp [Pt.kids] at hx
      subst hx
      have e : (foldAt (.app n a c) j 0).2 = j := rfl
      rw [e] at h1 ⊢
      simp only [Pt.size] at hr
      have := hr (by omega)
      simp only [rxAt] at this
      rw [if_pos (by omega)] at this
      exact this
    | 1, hx =>
      simp [Pt.kids] at hx
      subst hx
      have e : (foldAt (.app n a c) j 1).2 = (stepAt ([], (j : Int)) a).2 := rfl
      rw [e] at h0 h1 ⊢
      by_cases hk : j < a.size
      · exfalso
        unfold stepAt at h0
        simp only at h0
        rw [if_pos (by omega), if_pos (by omega)] at h0
        simp at h0
      · have e2 : (stepAt ([], (j : Int)) a).2 = (j : Int) - a.size := by
          unfold stepAt
          simp only
          rw [if_pos (by omega), if_neg (by omega)]
        rw [e2] at h0 h1 ⊢
        simp only [Pt.size] at hr
        have := hr (by omega)
        simp only [rxAt] at this
        rw [if_neg hk] at this
        rw [show ((j : Int) - a.size).toNat = j - a.size by omega]
        exact this
    | i + 2, hx => simp [Pt.kids] at hx
/-- Small terms. -/
def small (t : Pt) : Prop := t.size ≤ 150 ∧ t.depth ≤ 40 ∧ t.within 1000000
theorem small_kid {t x : Pt} (h : small t) (hx : x ∈ t.kids) : small x := by
  have h1 := Pt.kids_lt hx
  refine ⟨by have := h.1; omega, by have := h.2.1; omega, ?_⟩
  have hw := h.2.2
  cases t with
  | var n => cases hx
  | lam n y =>
    simp only [Pt.kids, List.mem_singleton] at hx
    subst hx
    exact hw
  | app n a c =>
    simp only [Pt.kids, List.mem_cons, List.not_mem_nil, or_false] at hx
    rcases hx with rfl | rfl
    · exact hw.1
    · exact hw.2
theorem ev_reduceAt : ∀ (d : Nat) (t : Pt) (k : Nat), t.depth ≤ d → small t → rxAt t k = true → k < t.size → EvN (d + 2100) 62 [.dat t.d, .dat (I k)] [] [] ([.dat (red t k).d], [], [])
  | 0, t, k, hd, hs, hr, hk => by have := t.depth_pos; omega
  | d + 1, t, 0, hd, hs, hr, hk => by
    obtain ⟨n, n1, x, y, rfl⟩ := redex_app (t := t) (by cases t <;> exact hr)
    refine EvN.mono (ev_fn Go.Proofs.Try.f62 (d + 2100) (by kernel_rfl) (by kernel_rfl) fun kk hkk => ?_) (by omega)
    have h1 := hs.2.1
    simp only [Pt.depth] at h1
    have h := ev_reduced n n1 x y hs.2.2.1 hs.2.2.2 (by omega) (by omega) kk (by omega)
    have e : red (.app n (.lam n1 x) y) 0 = sub 0 y 0 x := rfl
    rw [e, Pt.d_eq (sub 0 y 0 x), Pt.d_eq (.app n (.lam n1 x) y)]
    rw [Pt.d_eq (sub 0 y 0 x), Pt.d_eq (.app n (.lam n1 x) y)] at h
    exact reduceAt_here kk 0 _ _ _ _ _ _ rfl h
  | d + 1, t, j + 1, hd, hs, hr, hk => by
    have hle := t.kids_le
    have hsz := hs.1
    have hw : w64 ((((j + 1 : Nat) : Int)) - 1) = (j : Int) := (w64_eq (by omega)).trans (by omega)
    -- the number goes on falling behind the part that has been reduced
    have hst : ∃ kf : Nat → Int, kf 0 = j ∧ ∀ i x, t.kids[i]? = some x → -1000 ≤ kf i ∧ kf i ≤ 1000 ∧
        ((0 ≤ kf i ∧ kf i < x.size ∧ (foldAt t j i).2 = kf i ∧ kf (i + 1) = -1) ∨ (0 ≤ kf i ∧ ¬ kf i < x.size ∧ (foldAt t j i).2 = kf i ∧ kf (i + 1) = kf i - x.size) ∨ (¬ 0 ≤ kf i ∧ ¬ 0 ≤ (foldAt t j i).2 ∧ kf (i + 1) = kf i - x.size)) := by
      cases t with
      | var n => exact ⟨fun _ => j, rfl, fun i x hx => by simp [Pt.kids] at hx⟩
      | lam n y =>
        simp only [Pt.size] at hk hsz
        refine ⟨fun i => if i = 0 then j else -1, rfl, fun i x hx => ?_⟩
        match i, hx with
        | 0, hx =>
          simp [Pt.kids] at hx
          subst hx
          refine ⟨by first | (simp; done) | (simp; omega), by first | (simp; done) | (simp; omega), .inl ⟨by simp, by first | (simp; done) | (simp; omega), rfl, rfl⟩⟩
        | i + 1, hx => simp [Pt.kids] at hx
      | app n a c =>
        simp only [Pt.size] at hk hsz
        by_cases hj : j < a.size
        · refine ⟨fun i => if i = 0 then j else if i = 1 then -1 else -1 - c.size, rfl, fun i x hx => ?_⟩
          match i, hx with
          | 0, hx =>
            simp [Pt.kids] at hx
            subst hx
            refine ⟨by first | (simp; done) | (simp; omega), by first | (simp; done) | (simp; omega), .inl ⟨by simp, by first | (simp; done) | (simp; omega), rfl, rfl⟩⟩
          | 1, hx =>
            simp [Pt.kids] at hx
            subst hx
            have e : (foldAt (.app n a c) j 1).2 = -1 := by
              have : foldAt (.app n a c) j 1 = stepAt ([], (j : Int)) a := rfl
              rw [this]
              unfold stepAt
              simp only
              rw [if_pos (by omega), if_pos (by omega)]
            refine ⟨by simp, by simp, .inr (.inr ⟨by simp, by rw [e]; decide, by simp⟩)⟩
          | i + 2, hx => simp [Pt.kids] at hx
        · refine ⟨fun i => if i = 0 then j else if i = 1 then (j : Int) - a.size else -1, rfl, fun i x hx => ?_⟩
          match i, hx with
          | 0, hx =>
            simp [Pt.kids] at hx
            subst hx
            refine ⟨by first | (simp; done) | (simp; omega), by first | (simp; done) | (simp; omega), .inr (.inl ⟨by simp, by first | (simp; done) | (simp; omega), rfl, by simp⟩)⟩
          | 1, hx =>
            simp [Pt.kids] at hx
            subst hx
            have e : (foldAt (.app n a c) j 1).2 = (j : Int) - a.size := by
              have : foldAt (.app n a c) j 1 = stepAt ([], (j : Int)) a := rfl
              rw [this]
              unfold stepAt
              simp only
              rw [if_pos (by omega), if_neg (by omega)]
            refine ⟨by first | (simp; done) | (simp; omega), by first | (simp; done) | (simp; omega), .inl ⟨by first | (simp; done) | (simp; omega), by first | (simp; done) | (simp; omega), by rw [e]; simp, by simp⟩⟩
          | i + 2, hx => simp [Pt.kids] at hx
    obtain ⟨kf, hk0, hkf⟩ := hst
    refine EvN.mono (ev_fn Go.Proofs.Try.f62 (d + 2100) (by kernel_rfl) (by kernel_rfl) fun kk hkk => ?_) (by omega)
    have hl : LoopAt cfg kk 62 Go.Proofs.Try.f62 6 (hd62 (w64 (((j + 1 : Nat) : Int) - 1)) t.kd t.num (t.kids.map Pt.d) [] 0) (X.exit 0) (Nm [4, 5] [.ptr (.loc 4) 0, .ptr (.loc 5) 0] [some [.dat (I 0), .dat (I 0), .own 55 []], some [.dat (I t.kd), .dat (I t.num), .own 55 ((red t (j + 1)).kids.map Pt.d)]] [] []) := by
      rw [hw]
      refine loopAt_range (fun i => hd62 (kf i) t.kd t.num (t.kids.map Pt.d) ((foldAt t j i).1.map Pt.d) i) t.kids.length (by omega) (fun i hi m s K hs' hn => ?_) (fun m s K hs' hK => ?_) ?_
      · obtain ⟨x, h1, h2, h3⟩ := kid_at hi
        have hx := Pt.kids_lt h2
        have hto : ((i : Int)).toNat = i := by simp
        have hlen := foldAt_len t j i (by omega)
        have hsuc := foldAt_succ (k := j) h1
        obtain ⟨b1, b2, hc⟩ := hkf i x h1
        have hsx := ev_size d x (by omega) (by omega) kk (by omega)
        rw [Pt.d_eq x] at hsx
        rcases hc with ⟨c1, c2, c3, c4⟩ | ⟨c1, c2, c3, c4⟩ | ⟨c1, c2, c4⟩
        · have hrx := foldAt_rx (fun _ => hr) h1 (by omega) (by omega)
          have ih := ev_reduceAt d x (kf i).toNat (by omega) (small_kid hs h2) (by rw [← c3]; exact hrx) (by omega) kk (by omega)
          rw [show (((kf i).toNat : Nat) : Int) = kf i by omega, Pt.d_eq x, Pt.d_eq (red x _)] at ih
          refine reduceAt_in kk m _ t.kd t.num _ _ _ x.kd x.num _ _ _ _ _ hs' (decide_eq_true (by simp; omega)) ⟨⟨by omega, by simp; omega⟩, by rw [hto]; exact h3⟩ hsx (decide_eq_true c1) (decide_eq_true c2) ih (by simp; omega) fun s' hs2 => hn s' ?_
          have hst : foldAt t j (i + 1) = ((foldAt t j i).1 ++ [red x (kf i).toNat], -1) := by
            rw [hsuc]
            unfold stepAt
            rw [c3, if_pos c1, if_pos c2]
          rw [hs2, w64_eq (n := (i : Int) + 1) (by omega)]
          simp only [hd62, hst, c4, List.map_append, List.map_cons, List.map_nil, ← Pt.d_eq]
          rfl
        · refine reduceAt_on kk m _ t.kd t.num _ _ _ x.kd x.num _ _ hs' (decide_eq_true (by simp; omega)) ⟨⟨by omega, by simp; omega⟩, by rw [hto]; exact h3⟩ hsx (decide_eq_true c1) (decide_eq_false c2) (by simp; omega) fun s' hs2 => hn s' ?_
          have hst : foldAt t j (i + 1) = ((foldAt t j i).1 ++ [x], kf i - x.size) := by
            rw [hsuc]
            unfold stepAt
            rw [c3, if_pos c1, if_neg c2]
          rw [hs2, w64_eq (n := (i : Int) + 1) (by omega), w64_eq (n := kf i - x.size) (by omega)]
          simp only [hd62, hst, c4, List.map_append, List.map_cons, List.map_nil, ← Pt.d_eq]
          rfl
        · refine reduceAt_past kk m _ t.kd t.num _ _ _ x.kd x.num _ _ hs' (decide_eq_true (by simp; omega)) ⟨⟨by omega, by simp; omega⟩, by rw [hto]; exact h3⟩ hsx (decide_eq_false c1) (by simp; omega) fun s' hs2 => hn s' ?_
          have hst : foldAt t j (i + 1) = ((foldAt t j i).1 ++ [x], (foldAt t j i).2) := by
            rw [hsuc]
            unfold stepAt
            rw [if_neg c2]
          rw [hs2, w64_eq (n := (i : Int) + 1) (by omega), w64_eq (n := kf i - x.size) (by omega)]
          simp only [hd62, hst, c4, List.map_append, List.map_cons, List.map_nil, ← Pt.d_eq]
          rfl
      · refine reduceAt_end kk m _ t.kd t.num _ _ _ hs' (decide_eq_false (by simp)) ?_
        rw [foldAt_red hk]
        exact hK
      · rw [hk0]
        rfl
    have := reduceAt kk _ t.kd t.num _ _ (decide_eq_false (by omega)) hl
    rw [← Pt.d_eq] at this
    rw [this, Pt.d_eq (red t (j + 1)), (red_kd t j).1, (red_kd t j).2]
end Go.Den
namespace Go.Den
open Go
set_option linter.unusedVariables false
set_option maxRecDepth 100000
theorem isFuel_n (kk : Nat) (x : Int) (h1 : decide (0 ≤ x) = false) : runFn cfg kk (den cfg kk) 101 Go.Proofs.Try.f101 [.dat (I x)] [] [] = some ([D.dat (B false)], [], []) :=
  hrun_ok [(200005, .no)] (ob h1 (ob (rfl : false = false) ob0)) (by kernel_rfl)
theorem isFuel_y (kk : Nat) (x : Int) (h1 : decide (0 ≤ x) = true) : runFn cfg kk (den cfg kk) 101 Go.Proofs.Try.f101 [.dat (I x)] [] [] = some ([D.dat (B (decide (x ≤ 1000)))], [], []) :=
  hrun_ok [(200005, .yes)] (ob h1 (ob (rfl : true = true) ob0)) (by kernel_rfl)
end Go.Den
namespace Go.Den
open Go
set_option linter.unusedVariables false
set_option maxRecDepth 100000
/-- A term reduced again and again, where 'nx' says; with so much fuel. -/
def goOnP (nx : Pt → Option Nat) : Nat → Pt → Option (Pt × Nat)
  | 0, t => match nx t with | none => some (t, 0) | some _ => none
  | f + 1, t => match nx t with | none => some (t, 0) | some r => if (red t r).good = true then (goOnP nx f (red t r)).map fun q => (q.1, q.2 + 1) else none
theorem goOnP_good {nx : Pt → Option Nat} : ∀ {f : Nat} {t : Pt} {q : Pt × Nat}, t.good = true → goOnP nx f t = some q → q.1.good = true ∧ q.2 ≤ f
  | 0, t, q, hg, h => by
    unfold goOnP at h
    split at h
    · cases h; exact ⟨hg, Nat.le_refl _⟩
    · cases h
  | f + 1, t, q, hg, h => by
    unfold goOnP at h
    split at h
    · cases h; exact ⟨hg, by omega⟩
    · split at h
      · rename_i hr
        obtain ⟨p, hp, rfl⟩ := Option.map_eq_some_iff.1 h
        have := goOnP_good hr hp
        exact ⟨this.1, by simp only; omega⟩
      · cases h
/-- What the reference's loop leaves. -/
def outS (made : Nat) : Option (Pt × Nat) → St
  | some q => Nm [4, 5, 6] [.own 50 ((q.1.flat 0 (-1)).map Nd.d), .dat (I ((made + q.2 : Nat) : Int)), .dat (B true)] [none, none, none] [] []
  | none => Nm [4, 5, 6] [.own 50 [], .dat (I 0), .dat (B false)] [none, none, none] [] []
/-- What both sides come to. -/
def goneN (nx : Pt → Option Nat) (L : List Nd) (v : Int) : List Nd × Nat × Bool :=
  match termOfP L with
  | some t => if 0 ≤ v ∧ v ≤ 1000 then (match goOnP nx v.toNat t with | some q => (q.1.flat 0 (-1), q.2, true) | none => ([], 0, false)) else ([], 0, false)
  | none => ([], 0, false)
theorem goneN_len (nx : Pt → Option Nat) (L : List Nd) (v : Int) : (goneN nx L v).1.length ≤ 150 := by
  unfold goneN
  split
  · rename_i t ht
    split
    · split
      · rename_i q hq
        rw [Pt.flat_length]
        exact (good_small (goOnP_good ((termOfP_iff L t).1 ht).1 hq).1).1
      · simp
    · simp
  · simp
end Go.Den
namespace Go.Den
open Go
set_option linter.unusedVariables false
set_option maxRecDepth 100000
/-- What the program's loop leaves. -/
def outI (made : Nat) : Option (Pt × Nat) → St
  | some q => Nm [6, 7, 8] [.ptr (.loc 6) 0, .dat (I ((made + q.2 : Nat) : Int)), .dat (B true)] [some [.dat (I q.1.kd), .dat (I q.1.num), .dat (.lst false (q.1.kids.map Pt.d))], none, none] [] []
  | none => Nm [6, 7, 8] [.ptr (.loc 6) 0, .dat (I 0), .dat (B false)] [some [.dat (I 0), .dat (I 0), .own 55 []], none, none] [] []
/-- The number that a function value tells: of a redex, or less than 0. -/
def nxI : Option Nat → Int → Prop
  | some r, x => x = r
  | none, x => x < 0
theorem ev_isFuel (v : Int) : EvN 1 101 [.dat (I v)] [] [] ([.dat (B (decide (0 ≤ v) && decide (v ≤ 1000)))], [], []) := by
  refine ev_fn Go.Proofs.Try.f101 0 (by kernel_rfl) (by kernel_rfl) fun kk _ => ?_
  by_cases h : 0 ≤ v
  · rw [isFuel_y kk v (decide_eq_true h), decide_eq_true h, Bool.true_and]
  · rw [isFuel_n kk v (decide_eq_false h), decide_eq_false h, Bool.false_and]
end Go.Den
namespace Go.Den
open Go
set_option linter.unusedVariables false
set_option maxRecDepth 100000
def hd120 (k n u : Int) (ps bs : List Dat) (i : Int) : St := Nm [1, 2, 3, 24, 25, 26] [.dat (I u), .bor (.lent 0) none, .ptr (.loc 3) 0, .dat (.lst false ps), .dat (I ps.length), .dat (I i)] [none, none, some [.dat (I k), .dat (I n), .dat (.lst false ps)], none, none, none] [] [some (4, bs)]
theorem lcFree_lam (kk m : Nat) {s : St} {K : X → St → Prop} (n u : Int) (ps bs bs' : List Dat) (i : Int) (kx nx : Int) (dx : List Dat) (hs : s.norm ((envOf cfg kk 120 Go.Proofs.Try.f120).live (firstRegion (lp Go.Proofs.Try.f120 4))) = hd120 2 n u ps bs i) (h1 : decide (i < (ps.length : Int)) = true) (h2 : (0 ≤ i ∧ i < (ps.length : Int)) ∧ ps[i.toNat]? = some (T kx nx dx)) (h3 : den cfg kk 120 [D.dat (T kx nx dx), D.dat (I (w64 (u + 1))), D.bor (Pl.lent 0) none] [] [some (4, bs)] = some ([], [], [some (4, bs')])) (hn : ∀ s : St, s.norm ((envOf cfg kk 120 Go.Proofs.Try.f120).live (firstRegion (lp Go.Proofs.Try.f120 4))) = Nm [1, 2, 3, 24, 25, 26] [D.dat (I u), D.bor (Pl.lent 0) none, D.ptr (Ref.loc 3) 0, D.dat (Dat.lst false ps), D.dat (I (ps.length : Int)), D.dat (I (w64 (i + 1)))] [none, none, some [D.dat (I 2), D.dat (I n), D.dat (Dat.lst false ps)], none, none, none] [] [some (4, bs')] → Rounds (envOf cfg kk 120 Go.Proofs.Try.f120) kk (lp Go.Proofs.Try.f120 4) m s K) : Rounds (envOf cfg kk 120 Go.Proofs.Try.f120) kk (lp Go.Proofs.Try.f120 4) (m + 1) s K :=
  rounds_go [(200027, .yes), (28, .at (T kx nx dx)), (37, .back [] [] [some (4, bs')])] hs (by kernel_rfl) (ob h1 (ob h2 (ob h3 (ob (rfl : false = false) ob0)))) (by kernel_rfl) hn
theorem lcFree_app (kk m : Nat) {s : St} {K : X → St → Prop} (n u : Int) (ps bs bs' : List Dat) (i : Int) (kx nx : Int) (dx : List Dat) (hs : s.norm ((envOf cfg kk 120 Go.Proofs.Try.f120).live (firstRegion (lp Go.Proofs.Try.f120 4))) = hd120 3 n u ps bs i) (h1 : decide (i < (ps.length : Int)) = true) (h2 : (0 ≤ i ∧ i < (ps.length : Int)) ∧ ps[i.toNat]? = some (T kx nx dx)) (h3 : den cfg kk 120 [D.dat (T kx nx dx), D.dat (I u), D.bor (Pl.lent 0) none] [] [some (4, bs)] = some ([], [], [some (4, bs')])) (hn : ∀ s : St, s.norm ((envOf cfg kk 120 Go.Proofs.Try.f120).live (firstRegion (lp Go.Proofs.Try.f120 4))) = Nm [1, 2, 3, 24, 25, 26] [D.dat (I u), D.bor (Pl.lent 0) none, D.ptr (Ref.loc 3) 0, D.dat (Dat.lst false ps), D.dat (I (ps.length : Int)), D.dat (I (w64 (i + 1)))] [none, none, some [D.dat (I 3), D.dat (I n), D.dat (Dat.lst false ps)], none, none, none] [] [some (4, bs')] → Rounds (envOf cfg kk 120 Go.Proofs.Try.f120) kk (lp Go.Proofs.Try.f120 4) m s K) : Rounds (envOf cfg kk 120 Go.Proofs.Try.f120) kk (lp Go.Proofs.Try.f120 4) (m + 1) s K :=
  rounds_go [(200027, .yes), (28, .at (T kx nx dx)), (41, .back [] [] [some (4, bs')])] hs (by kernel_rfl) (ob h1 (ob h2 (ob h3 (ob (rfl : false = false) ob0)))) (by kernel_rfl) hn
theorem lcFree_end (kk m : Nat) {s : St} {K : X → St → Prop} (k n u : Int) (ps bs : List Dat) (i : Int) (hs : s.norm ((envOf cfg kk 120 Go.Proofs.Try.f120).live (firstRegion (lp Go.Proofs.Try.f120 4))) = hd120 k n u ps bs i) (h1 : decide (i < (ps.length : Int)) = false) (hK : K (X.exit 0) (Nm [] [] [] [] [some (4, bs)])) : Rounds (envOf cfg kk 120 Go.Proofs.Try.f120) kk (lp Go.Proofs.Try.f120 4) (m + 1) s K :=
  rounds_end [(200027, .no)] hs (by kernel_rfl) rfl (ob h1 ob0) (by kernel_rfl) hK
theorem lcFree_hit (kk : Nat) (n u : Int) (ps bs bs' : List Dat) (v : Bool) (h1 : decide (u ≤ n) = true) (h2 : 0 ≤ w64 (n - u) ∧ w64 (n - u) < (bs.length : Int)) (h3 : bs[(w64 (n - u)).toNat]? = some (B v)) (h5 : LoopAt cfg kk 120 Go.Proofs.Try.f120 4 (hd120 1 n u ps (bs.set (w64 (n - u)).toNat (B true)) 0) (X.exit 0) (Nm [] [] [] [] [some (4, bs')])) : runFn cfg kk (den cfg kk) 120 Go.Proofs.Try.f120 [.dat (T 1 n ps), .dat (I u), .bor (.lent 0) none] [] [some (4, bs)] = some ([], [], [some (4, bs')]) :=
  hrun_ok [(200016, .yes), (22, .ok), (100022, .at (B v)), (300004, .loop (hd120 1 n u ps (bs.set (w64 (n - u)).toNat (B true)) 0) (.exit 0) (Nm [] [] [] [] [some (4, bs')]))] (ob h1 (ob h2 (ob h3 (ob (rfl : _ = hd120 1 n u ps (bs.set (w64 (n - u)).toNat (B true)) 0) (ob h5 ob0))))) (by kernel_rfl)
theorem lcFree_miss (kk : Nat) (n u : Int) (ps bs bs' : List Dat) (h1 : decide (u ≤ n) = false) (h3 : LoopAt cfg kk 120 Go.Proofs.Try.f120 4 (hd120 1 n u ps bs 0) (X.exit 0) (Nm [] [] [] [] [some (4, bs')])) : runFn cfg kk (den cfg kk) 120 Go.Proofs.Try.f120 [.dat (T 1 n ps), .dat (I u), .bor (.lent 0) none] [] [some (4, bs)] = some ([], [], [some (4, bs')]) :=
  hrun_ok [(200016, .no), (300004, .loop (hd120 1 n u ps (bs) 0) (.exit 0) (Nm [] [] [] [] [some (4, bs')]))] (ob h1 (ob (rfl : _ = hd120 1 n u ps bs 0) (ob h3 ob0))) (by kernel_rfl)
theorem lcFree_2 (kk : Nat) (n u : Int) (ps bs bs' : List Dat) (h2 : LoopAt cfg kk 120 Go.Proofs.Try.f120 4 (hd120 2 n u ps bs 0) (X.exit 0) (Nm [] [] [] [] [some (4, bs')])) : runFn cfg kk (den cfg kk) 120 Go.Proofs.Try.f120 [.dat (T 2 n ps), .dat (I u), .bor (.lent 0) none] [] [some (4, bs)] = some ([], [], [some (4, bs')]) :=
  hrun_ok [(300004, .loop (hd120 2 n u ps (bs) 0) (.exit 0) (Nm [] [] [] [] [some (4, bs')]))] (ob (rfl : _ = hd120 2 n u ps bs 0) (ob h2 ob0)) (by kernel_rfl)
theorem lcFree_3 (kk : Nat) (n u : Int) (ps bs bs' : List Dat) (h2 : LoopAt cfg kk 120 Go.Proofs.Try.f120 4 (hd120 3 n u ps bs 0) (X.exit 0) (Nm [] [] [] [] [some (4, bs')])) : runFn cfg kk (den cfg kk) 120 Go.Proofs.Try.f120 [.dat (T 3 n ps), .dat (I u), .bor (.lent 0) none] [] [some (4, bs)] = some ([], [], [some (4, bs')]) :=
  hrun_ok [(300004, .loop (hd120 3 n u ps (bs) 0) (.exit 0) (Nm [] [] [] [] [some (4, bs')]))] (ob (rfl : _ = hd120 3 n u ps bs 0) (ob h2 ob0)) (by kernel_rfl)
def hd115 (bs out : List Dat) (i : Int) : St := Nm [4, 5, 16, 17, 18] [.own 4 bs, .own 3 out, .bor (.slot 4 []) none, .dat (I bs.length), .dat (I i)] [none, none, none, none, none] [] []
theorem FreeIn_hit (kk m : Nat) {s : St} {K : X → St → Prop} (bs out : List Dat) (i : Int) (hs : s.norm ((envOf cfg kk 115 Go.Proofs.Try.f115).live (firstRegion (lp Go.Proofs.Try.f115 7))) = hd115 bs out i) (h1 : decide (i < (bs.length : Int)) = true) (h2 : 0 ≤ i ∧ i < (bs.length : Int)) (h3 : bs[i.toNat]? = some (B true)) (h4 : out.length + 1 ≤ 2147483648) (hn : ∀ s : St, s.norm ((envOf cfg kk 115 Go.Proofs.Try.f115).live (firstRegion (lp Go.Proofs.Try.f115 7))) = Nm [4, 5, 16, 17, 18] [D.own 4 bs, D.own 3 (out ++ [I i]), D.bor (Pl.slot 4 []) none, D.dat (I (bs.length : Int)), D.dat (I (w64 (i + 1)))] [none, none, none, none, none] [] [] → Rounds (envOf cfg kk 115 Go.Proofs.Try.f115) kk (lp Go.Proofs.Try.f115 7) m s K) : Rounds (envOf cfg kk 115 Go.Proofs.Try.f115) kk (lp Go.Proofs.Try.f115 7) (m + 1) s K :=
  rounds_go [(200019, .yes), (21, .ok), (22, .at (B true)), (27, .ok)] hs (by kernel_rfl) (ob h1 (ob h2 (ob h3 (ob (obT h4) ob0)))) (by kernel_rfl) hn
theorem FreeIn_miss (kk m : Nat) {s : St} {K : X → St → Prop} (bs out : List Dat) (i : Int) (hs : s.norm ((envOf cfg kk 115 Go.Proofs.Try.f115).live (firstRegion (lp Go.Proofs.Try.f115 7))) = hd115 bs out i) (h1 : decide (i < (bs.length : Int)) = true) (h2 : 0 ≤ i ∧ i < (bs.length : Int)) (h3 : bs[i.toNat]? = some (B false)) (hn : ∀ s : St, s.norm ((envOf cfg kk 115 Go.Proofs.Try.f115).live (firstRegion (lp Go.Proofs.Try.f115 7))) = Nm [4, 5, 16, 17, 18] [D.own 4 bs, D.own 3 out, D.bor (Pl.slot 4 []) none, D.dat (I (bs.length : Int)), D.dat (I (w64 (i + 1)))] [none, none, none, none, none] [] [] → Rounds (envOf cfg kk 115 Go.Proofs.Try.f115) kk (lp Go.Proofs.Try.f115 7) m s K) : Rounds (envOf cfg kk 115 Go.Proofs.Try.f115) kk (lp Go.Proofs.Try.f115 7) (m + 1) s K :=
  rounds_go [(200019, .yes), (21, .ok), (22, .at (B false))] hs (by kernel_rfl) (ob h1 (ob h2 (ob h3 ob0))) (by kernel_rfl) hn
theorem FreeIn_end (kk m : Nat) {s : St} {K : X → St → Prop} (bs out : List Dat) (i : Int) (hs : s.norm ((envOf cfg kk 115 Go.Proofs.Try.f115).live (firstRegion (lp Go.Proofs.Try.f115 7))) = hd115 bs out i) (h1 : decide (i < (bs.length : Int)) = false) (hK : K (X.exit 0) (Nm [5] [D.own 3 out] [none] [] [])) : Rounds (envOf cfg kk 115 Go.Proofs.Try.f115) kk (lp Go.Proofs.Try.f115 7) (m + 1) s K :=
  rounds_end [(200019, .no)] hs (by kernel_rfl) rfl (ob h1 ob0) (by kernel_rfl) hK
theorem FreeIn_no (kk : Nat) (b : Bool) (es : List Dat) (h1 : den cfg kk 44 [D.dat (Dat.lst b es)] [] [] = some ([D.dat (B false)], [], [])) : runFn cfg kk (den cfg kk) 115 Go.Proofs.Try.f115 [.dat (Dat.lst b es)] [] [] = some ([D.own 3 [], D.dat (B false)], [], []) :=
  hrun_ok [(9, .ret [.dat (B false)])] (ob h1 ob0) (by kernel_rfl)
theorem FreeIn_go (kk : Nat) (b : Bool) (es : List Dat) (bs out : List Dat) (k n : Int) (d : List Dat) (h1 : den cfg kk 44 [D.dat (Dat.lst b es)] [] [] = some ([D.dat (B true)], [], [])) (h2 : den cfg kk 48 [D.dat (Dat.lst b es), D.dat (I 0)] [] [] = some ([D.dat (T k n d)], [], [])) (h3 : den cfg kk 120 [D.dat (T k n d), D.dat (I 0), D.bor (Pl.lent 0) none] [] [some (4, [B false, B false, B false, B false, B false, B false, B false, B false, B false, B false, B false, B false, B false, B false, B false, B false, B false, B false, B false, B false, B false, B false, B false, B false, B false, B false, B false, B false, B false, B false, B false, B false, B false, B false, B false, B false, B false, B false, B false, B false, B false, B false, B false, B false, B false, B false, B false, B false, B false, B false, B false, B false, B false, B false, B false, B false, B false, B false, B false, B false, B false, B false, B false, B false, B false, B false, B false, B false, B false, B false, B false, B false, B false, B false, B false, B false, B false, B false, B false, B false, B false, B false, B false, B false, B false, B false, B false, B false, B false, B false, B false, B false, B false, B false, B false, B false, B false, B false, B false, B false])] = some ([], [], [some (4, bs)])) (h6 : LoopAt cfg kk 115 Go.Proofs.Try.f115 7 (hd115 bs [] 0) (X.exit 0) (Nm [5] [D.own 3 out] [none] [] [])) : runFn cfg kk (den cfg kk) 115 Go.Proofs.Try.f115 [.dat (Dat.lst b es)] [] [] = some ([D.own 3 out, D.dat (B true)], [], []) :=
  hrun_ok [(9, .ret [.dat (B true)]), (13, .ret [.dat (T k n d)]), (15, .back [] [] [some (4, bs)]), (300007, .loop (hd115 bs [] 0) (.exit 0) (Nm [5] [.own 3 out] [none] [] []))] (ob h1 (ob h2 (ob h3 (ob (rfl : false = false) (ob (rfl : _ = hd115 bs [] 0) (ob h6 ob0)))))) (by kernel_rfl)
theorem leClosed_no (kk : Nat) (b : Bool) (es : List Dat) (rs : List Dat) (h1 : den cfg kk 115 [D.dat (Dat.lst b es)] [] [] = some ([D.own 3 rs, D.dat (B false)], [], [])) : runFn cfg kk (den cfg kk) 103 Go.Proofs.Try.f103 [.dat (Dat.lst b es)] [] [] = some ([D.dat (B false)], [], []) :=
  hrun_ok [(7, .ret [.own 3 rs, .dat (B false)])] (ob h1 ob0) (by kernel_rfl)
theorem leClosed_y (kk : Nat) (b : Bool) (es : List Dat) (rs : List Dat) (h1 : den cfg kk 115 [D.dat (Dat.lst b es)] [] [] = some ([D.own 3 rs, D.dat (B true)], [], [])) : runFn cfg kk (den cfg kk) 103 Go.Proofs.Try.f103 [.dat (Dat.lst b es)] [] [] = some ([D.dat (B (decide ((rs.length : Int) = 0)))], [], []) :=
  hrun_ok [(7, .ret [.own 3 rs, .dat (B true)])] (ob h1 ob0) (by kernel_rfl)
theorem lfClosed (kk : Nat) (b : Bool) (es : List Dat) (r : Bool) (h1 : den cfg kk 103 [D.dat (Dat.lst b es)] [] [] = some ([D.dat (B r)], [], [])) : runFn cfg kk (den cfg kk) 66 Go.Proofs.Try.f66 [.dat (Dat.lst b es)] [] [] = some ([D.dat (B r)], [], []) :=
  hrun_ok [(4, .ret [.dat (B r)])] (ob h1 ob0) (by kernel_rfl)
def hd105 (a : Int) (ps out : List Dat) (i : Int) : St := Nm [1, 2, 29, 30, 31] [.dat (I a), .fn 106 [.up 0], .dat (.lst false ps), .dat (I ps.length), .dat (I i)] [none, none, none, none, none] [[.own 3 out]] []
theorem free_go (kk m : Nat) {s : St} {K : X → St → Prop} (a : Int) (ps out : List Dat) (i : Int) (out' : List Dat) (kx nx : Int) (dx : List Dat) (hs : s.norm ((envOf cfg kk 105 Go.Proofs.Try.f105).live (firstRegion (lp Go.Proofs.Try.f105 6))) = hd105 a ps out i) (h1 : decide (i < (ps.length : Int)) = true) (h2 : (0 ≤ i ∧ i < (ps.length : Int)) ∧ ps[i.toNat]? = some (T kx nx dx)) (h3 : den cfg kk 105 [D.dat (T kx nx dx), D.dat (I a), D.fn 106 [Ref.up 0]] [[D.own 3 out]] [] = some ([], [[D.own 3 out']], [])) (hn : ∀ s : St, s.norm ((envOf cfg kk 105 Go.Proofs.Try.f105).live (firstRegion (lp Go.Proofs.Try.f105 6))) = Nm [1, 2, 29, 30, 31] [D.dat (I a), D.fn 106 [Ref.up 0], D.dat (Dat.lst false ps), D.dat (I (ps.length : Int)), D.dat (I (w64 (i + 1)))] [none, none, none, none, none] [[D.own 3 out']] [] → Rounds (envOf cfg kk 105 Go.Proofs.Try.f105) kk (lp Go.Proofs.Try.f105 6) m s K) : Rounds (envOf cfg kk 105 Go.Proofs.Try.f105) kk (lp Go.Proofs.Try.f105 6) (m + 1) s K :=
  rounds_go [(200032, .yes), (33, .at (T kx nx dx)), (38, .back [] [[.own 3 out']] [])] hs (by kernel_rfl) (ob h1 (ob h2 (ob h3 (ob (rfl : false = false) ob0)))) (by kernel_rfl) hn
theorem free_end (kk m : Nat) {s : St} {K : X → St → Prop} (a : Int) (ps out : List Dat) (i : Int) (hs : s.norm ((envOf cfg kk 105 Go.Proofs.Try.f105).live (firstRegion (lp Go.Proofs.Try.f105 6))) = hd105 a ps out i) (h1 : decide (i < (ps.length : Int)) = false) (hK : K (X.exit 0) (Nm [] [] [] [[D.own 3 out]] [])) : Rounds (envOf cfg kk 105 Go.Proofs.Try.f105) kk (lp Go.Proofs.Try.f105 6) (m + 1) s K :=
  rounds_end [(200032, .no)] hs (by kernel_rfl) rfl (ob h1 ob0) (by kernel_rfl) hK
theorem free_hit (kk : Nat) (n a : Int) (ps out out1 out2 : List Dat) (h1 : decide (a ≤ n) = true) (h2 : den cfg kk 106 [D.dat (I (w64 (n - a))), D.ptr (Ref.up 0) 0] [[D.own 3 out]] [] = some ([], [[D.own 3 out1]], [])) (h5 : LoopAt cfg kk 105 Go.Proofs.Try.f105 6 (hd105 a ps out1 0) (X.exit 0) (Nm [] [] [] [[D.own 3 out2]] [])) : runFn cfg kk (den cfg kk) 105 Go.Proofs.Try.f105 [.dat (T 1 n ps), .dat (I a), .fn 106 [.up 0]] [[.own 3 out]] [] = some ([], [[D.own 3 out2]], []) :=
  hrun_ok [(200016, .yes), (22, .back [] [[.own 3 out1]] []), (300006, .loop (hd105 a ps out1 0) (.exit 0) (Nm [] [] [] [[.own 3 out2]] []))] (ob h1 (ob h2 (ob (rfl : false = false) (ob (rfl : _ = hd105 a ps out1 0) (ob h5 ob0))))) (by kernel_rfl)
theorem free_miss (kk : Nat) (n a : Int) (ps out out2 : List Dat) (h1 : decide (a ≤ n) = false) (h3 : LoopAt cfg kk 105 Go.Proofs.Try.f105 6 (hd105 a ps out 0) (X.exit 0) (Nm [] [] [] [[D.own 3 out2]] [])) : runFn cfg kk (den cfg kk) 105 Go.Proofs.Try.f105 [.dat (T 1 n ps), .dat (I a), .fn 106 [.up 0]] [[.own 3 out]] [] = some ([], [[D.own 3 out2]], []) :=
  hrun_ok [(200016, .no), (300006, .loop (hd105 a ps out 0) (.exit 0) (Nm [] [] [] [[.own 3 out2]] []))] (ob h1 (ob (rfl : _ = hd105 a ps out 0) (ob h3 ob0))) (by kernel_rfl)
theorem free_lam (kk : Nat) (n a : Int) (ps out out2 : List Dat) (h2 : LoopAt cfg kk 105 Go.Proofs.Try.f105 6 (hd105 (w64 (a + 1)) ps out 0) (X.exit 0) (Nm [] [] [] [[D.own 3 out2]] [])) : runFn cfg kk (den cfg kk) 105 Go.Proofs.Try.f105 [.dat (T 2 n ps), .dat (I a), .fn 106 [.up 0]] [[.own 3 out]] [] = some ([], [[D.own 3 out2]], []) :=
  hrun_ok [(300006, .loop (hd105 (w64 (a + 1)) ps out 0) (.exit 0) (Nm [] [] [] [[.own 3 out2]] []))] (ob (rfl : _ = hd105 (w64 (a + 1)) ps out 0) (ob h2 ob0)) (by kernel_rfl)
theorem free_app (kk : Nat) (n a : Int) (ps out out2 : List Dat) (h2 : LoopAt cfg kk 105 Go.Proofs.Try.f105 6 (hd105 a ps out 0) (X.exit 0) (Nm [] [] [] [[D.own 3 out2]] [])) : runFn cfg kk (den cfg kk) 105 Go.Proofs.Try.f105 [.dat (T 3 n ps), .dat (I a), .fn 106 [.up 0]] [[.own 3 out]] [] = some ([], [[D.own 3 out2]], []) :=
  hrun_ok [(300006, .loop (hd105 a ps out 0) (.exit 0) (Nm [] [] [] [[.own 3 out2]] []))] (ob (rfl : _ = hd105 a ps out 0) (ob h2 ob0)) (by kernel_rfl)
theorem freeIn1 (kk : Nat) (x : Int) (out : List Dat) (h1 : out.length + 1 ≤ 2147483648) : runFn cfg kk (den cfg kk) 106 Go.Proofs.Try.f106 [.dat (I x), .ptr (.up 0) 0] [[.own 3 out]] [] = some ([], [[D.own 3 (out ++ [I x])]], []) :=
  hrun_ok [(6, .ok)] (ob (obT h1) ob0) (by kernel_rfl)
theorem freeIn (kk : Nat) (k n : Int) (d : List Dat) (out srt cmp : List Dat) (h1 : den cfg kk 105 [D.dat (T k n d), D.dat (I 0), D.fn 106 [Ref.up 0]] [[D.own 3 []]] [] = some ([], [[D.own 3 out]], [])) (h3 : den cfg kk 107 [D.bor (Pl.lent 0) none] [] [some (3, out)] = some ([], [], [some (3, srt)])) (h5 : den cfg kk 108 [D.own 3 srt] [] [] = some ([D.own 3 cmp], [], [])) : runFn cfg kk (den cfg kk) 72 Go.Proofs.Try.f72 [.dat (T k n d)] [] [] = some ([D.own 3 cmp], [], []) :=
  hrun_ok [(7, .back [] [[.own 3 out]] []), (9, .back [] [] [some (3, srt)]), (11, .back [.own 3 cmp] [] [])] (ob h1 (ob (rfl : false = false) (ob h3 (ob (rfl : false = false) (ob h5 (ob (rfl : false = false) ob0)))))) (by kernel_rfl)
theorem closedOf_no (kk : Nat) (b : Bool) (es : List Dat) (k n : Int) (d : List Dat) (h1 : den cfg kk 50 [D.dat (Dat.lst b es)] [] [] = some ([D.dat (T k n d), D.dat (B false)], [], [])) : runFn cfg kk (den cfg kk) 67 Go.Proofs.Try.f67 [.dat (Dat.lst b es)] [] [] = some ([D.dat (T k n d), D.dat (B false)], [], []) :=
  hrun_ok [(8, .ret [.dat (T k n d), .dat (B false)])] (ob h1 ob0) (by kernel_rfl)
theorem closedOf_y (kk : Nat) (b : Bool) (es : List Dat) (rs : List Dat) (k n : Int) (d : List Dat) (h1 : den cfg kk 50 [D.dat (Dat.lst b es)] [] [] = some ([D.dat (T k n d), D.dat (B true)], [], [])) (h2 : den cfg kk 72 [D.dat (T k n d)] [] [] = some ([D.own 3 rs], [], [])) : runFn cfg kk (den cfg kk) 67 Go.Proofs.Try.f67 [.dat (Dat.lst b es)] [] [] = some ([D.dat (T k n d), D.dat (B (decide ((rs.length : Int) = 0)))], [], []) :=
  hrun_ok [(8, .ret [.dat (T k n d), .dat (B true)]), (15, .ret [.own 3 rs])] (ob h1 (ob h2 ob0)) (by kernel_rfl)
end Go.Den
namespace Go.Den
open Go
set_option linter.unusedVariables false
set_option maxRecDepth 100000
/-- A loop over a term's parts. -/
theorem kids_loop {kk f : Nat} {fn : Func} {r : Nat} {x : X} {s' s0 : St} (t : Pt) (hk : 5 ≤ kk) (st : Nat → St)
    (hgo : ∀ (i : Nat) (y : Pt), t.kids[i]? = some y → y ∈ t.kids → decide ((i : Int) < ((t.kids.map Pt.d).length : Int)) = true → ((0 ≤ (i : Int) ∧ (i : Int) < ((t.kids.map Pt.d).length : Int)) ∧ (t.kids.map Pt.d)[(i : Int).toNat]? = some (T y.kd y.num (y.kids.map Pt.d))) → w64 ((i : Int) + 1) = ((i + 1 : Nat) : Int) →
      ∀ (m : Nat) (s : St) (K : X → St → Prop), s.norm ((envOf cfg kk f fn).live (firstRegion (lp fn r))) = st i → (∀ s : St, s.norm ((envOf cfg kk f fn).live (firstRegion (lp fn r))) = st (i + 1) → Rounds (envOf cfg kk f fn) kk (lp fn r) m s K) → Rounds (envOf cfg kk f fn) kk (lp fn r) (m + 1) s K)
    (hend : decide ((t.kids.length : Int) < ((t.kids.map Pt.d).length : Int)) = false → ∀ (m : Nat) (s : St) (K : X → St → Prop), s.norm ((envOf cfg kk f fn).live (firstRegion (lp fn r))) = st t.kids.length → K x s' → Rounds (envOf cfg kk f fn) kk (lp fn r) (m + 1) s K) (h0 : s0 = st 0) : LoopAt cfg kk f fn r s0 x s' := by
  have hle := t.kids_le
  refine loopAt_range st t.kids.length (by omega) (fun i hi m s K hs hn => ?_) (hend (decide_eq_false (by simp))) h0
  obtain ⟨y, h1, h2, h3⟩ := kid_at hi
  have hto : ((i : Int)).toNat = i := by simp
  exact hgo i y h1 h2 (decide_eq_true (by simp; omega)) ⟨⟨by omega, by simp; omega⟩, by rw [hto]; exact h3⟩ (by rw [w64_eq (by omega)]; rfl) m s K hs hn
theorem takeF_step {α β : Type} {ks : List α} {i : Nat} {x : α} (h : ks[i]? = some x) (g : α → List β) : (ks.take (i + 1)).flatMap g = (ks.take i).flatMap g ++ g x := by
  rw [List.take_add_one, h]
  simp
/-- The indices of the free variables, as they stand. -/
def fv : Pt → Int → List Int
  | .var n, a => if a ≤ n then [n - a] else []
  | .lam _ t, a => fv t (a + 1)
  | .app _ x y, a => fv x a ++ fv y a
def Pt.under (t : Pt) (a : Int) : Int := match t with | .lam _ _ => a + 1 | _ => a
theorem fv_kids (t : Pt) (a : Int) (h : ∀ n, t ≠ .var n) : fv t a = t.kids.flatMap fun x => fv x (t.under a) := by
  cases t with
  | var n => exact (h n rfl).elim
  | lam n x => simp [fv, Pt.kids, Pt.under]
  | app n x y => simp [fv, Pt.kids, Pt.under]
theorem fv_range : ∀ (t : Pt) (a : Int), t.nums = true → 0 ≤ a → ∀ z ∈ fv t a, 0 ≤ z ∧ z ≤ 99
  | .var n, a, h, ha, z, hz => by
    have h' : 0 ≤ n ∧ n ≤ 99 := by simpa [Pt.nums] using h
    simp only [fv] at hz
    split at hz
    · simp only [List.mem_singleton] at hz; omega
    · cases hz
  | .lam n t, a, h, ha, z, hz => by
    have h' : n = 0 ∧ t.nums = true := by simpa [Pt.nums] using h
    exact fv_range t (a + 1) h'.2 (by omega) z hz
  | .app n x y, a, h, ha, z, hz => by
    have h' : n = 0 ∧ x.nums = true ∧ y.nums = true := by simpa [Pt.nums] using h
    simp only [fv, List.mem_append] at hz
    rcases hz with hz | hz
    · exact fv_range x a h'.2.1 ha z hz
    · exact fv_range y a h'.2.2 ha z hz
theorem fv_length : ∀ (t : Pt) (a : Int), (fv t a).length ≤ t.size
  | .var n, a => by simp only [fv, Pt.size]; split <;> simp
  | .lam n t, a => by have := fv_length t (a + 1); simp only [fv, Pt.size]; omega
  | .app n x y, a => by have h1 := fv_length x a; have h2 := fv_length y a; simp only [fv, Pt.size, List.length_append]; omega
theorem nums_kids {t x : Pt} (h : t.nums = true) (hx : x ∈ t.kids) : x.nums = true := by
  rw [Pt.nums_kids] at h
  simp only [Bool.and_eq_true, List.all_eq_true] at h
  exact h.2 x hx
def setB (bs : List Bool) (zs : List Int) : List Bool := zs.foldl (fun bs z => bs.set z.toNat true) bs
theorem setB_length (zs : List Int) : ∀ bs, (setB bs zs).length = bs.length := by
  induction zs with
  | nil => intro bs; rfl
  | cons z zs ih => intro bs; simp only [setB, List.foldl_cons] at ih ⊢; rw [ih]; simp
theorem setB_append (bs : List Bool) (a b : List Int) : setB bs (a ++ b) = setB (setB bs a) b := by simp [setB]
theorem setB_get (zs : List Int) : ∀ (bs : List Bool) (i : Nat), i < bs.length → (∀ z ∈ zs, 0 ≤ z) → (setB bs zs)[i]? = some (bs.getD i false || zs.contains (i : Int)) := by
  induction zs with
  | nil => intro bs i hi _; simp [setB, hi]
  | cons z zs ih =>
    intro bs i hi hz
    have h0 : 0 ≤ z := hz z (by simp)
    have := ih (bs.set z.toNat true) i (by simpa using hi) (fun y hy => hz y (by simp [hy]))
    simp only [setB, List.foldl_cons] at this ⊢
    rw [this]
    congr 1
    simp only [List.getD_eq_getElem?_getD, List.getElem?_set, List.contains_cons]
    by_cases he : z.toNat = i
    · have e2 : ((i : Int) == z) = true := by simp; omega
      rw [if_pos he, if_pos (by omega), e2]
      simp
    · have e2 : ((i : Int) == z) = false := by simp; omega
      rw [if_neg he, e2]
      simp
theorem ev_lcFree : ∀ (d : Nat) (t : Pt) (u : Int) (bs : List Bool), t.depth ≤ d → t.nums = true → 0 ≤ u → u + t.depth ≤ 1000 → bs.length = 100 →
    EvN (d + 10) 120 [.dat t.d, .dat (I u), .bor (.lent 0) none] [] [some (4, bs.map B)] ([], [], [some (4, (setB bs (fv t u)).map B)])
  | 0, t, u, bs, hd, _, _, _, _ => by have := t.depth_pos; omega
  | d + 1, t, u, bs, hd, hn, hu, hud, hb => by
    refine ev_fn Go.Proofs.Try.f120 (d + 10) (by kernel_rfl) (by kernel_rfl) fun kk hkk => ?_
    have hloop : ∀ (bs : List Bool), bs.length = 100 → (∀ n, t ≠ .var n) → LoopAt cfg kk 120 Go.Proofs.Try.f120 4 (hd120 t.kd t.num u (t.kids.map Pt.d) (bs.map B) 0) (X.exit 0) (Nm [] [] [] [] [some (4, (setB bs (fv t u)).map B)]) := by
      intro bs hb hv
      refine kids_loop t (by omega) (fun i => hd120 t.kd t.num u (t.kids.map Pt.d) ((setB bs ((t.kids.take i).flatMap fun x => fv x (t.under u))).map B) i) (fun i y hy hmem h1 h2 h3 m s K hs hn' => ?_) (fun h1 m s K hs hK => ?_) (by simp [setB])
      · have hlt := Pt.kids_lt hmem
        have hu2 : t.under u ≤ u + 1 ∧ u ≤ t.under u := by cases t <;> simp [Pt.under] <;> omega
        have hr := ev_lcFree d y (t.under u) (setB bs ((t.kids.take i).flatMap fun x => fv x (t.under u))) (by omega) (nums_kids hn hmem) (by omega) (by omega) (by rw [setB_length]; exact hb) kk (by omega)
        rw [Pt.d_eq y] at hr
        have hgo : ∀ s : St, s.norm ((envOf cfg kk 120 Go.Proofs.Try.f120).live (firstRegion (lp Go.Proofs.Try.f120 4))) = hd120 t.kd t.num u (t.kids.map Pt.d) ((setB (setB bs ((t.kids.take i).flatMap fun x => fv x (t.under u))) (fv y (t.under u))).map B) (w64 ((i : Int) + 1)) → Rounds (envOf cfg kk 120 Go.Proofs.Try.f120) kk (lp Go.Proofs.Try.f120 4) m s K := by
          intro s' hs'
          refine hn' s' ?_
          rw [hs', h3, ← setB_append, ← takeF_step hy]
        cases t with
        | var n => exact (hv n rfl).elim
        | lam n x =>
          have e : w64 (u + 1) = u + 1 := w64_eq (by simp only [Pt.depth] at hud; omega)
          refine lcFree_lam kk m n u _ _ _ _ _ _ _ hs h1 h2 ?_ hgo
          rw [e]
          exact hr
        | app n x z => exact lcFree_app kk m n u _ _ _ _ _ _ _ hs h1 h2 hr hgo
      · refine lcFree_end kk m _ _ _ _ _ _ hs h1 ?_
        rw [List.take_length, ← fv_kids t u hv]
        exact hK
    cases t with
    | var n =>
      have hn' : 0 ≤ n ∧ n ≤ 99 := by simpa [Pt.nums] using hn
      have hend : ∀ L : List Dat, LoopAt cfg kk 120 Go.Proofs.Try.f120 4 (hd120 1 n u [] L 0) (X.exit 0) (Nm [] [] [] [] [some (4, L)]) := fun L =>
        kids_loop (.var n) (by omega) (fun i => hd120 1 n u [] L i) (fun i y hy => by simp [Pt.kids] at hy) (fun h1 m s K hs hK => lcFree_end kk m _ _ _ _ _ _ hs h1 hK) rfl
      by_cases h : u ≤ n
      · have e : w64 (n - u) = n - u := w64_eq (by omega)
        have hget : (bs.map B)[(n - u).toNat]? = some (B (bs.getD (n - u).toNat false)) := by
          rw [List.getElem?_map, List.getElem?_eq_getElem (by omega), List.getD_eq_getElem?_getD, List.getElem?_eq_getElem (by omega)]
          rfl
        have hfv : fv (.var n) u = [n - u] := by simp only [fv]; rw [if_pos h]
        have hset : (setB bs (fv (.var n) u)).map B = (bs.map B).set (n - u).toNat (B true) := by
          rw [hfv]
          simp [setB, List.map_set]
        rw [hset]
        have := lcFree_hit kk n u [] (bs.map B) ((bs.map B).set (n - u).toNat (B true)) (bs.getD (n - u).toNat false) (decide_eq_true h) (by rw [e]; simp; omega) (by rw [e]; exact hget) (by rw [e]; exact hend _)
        exact this
      · have hfv : fv (.var n) u = [] := by simp only [fv]; rw [if_neg h]
        rw [hfv]
        exact lcFree_miss kk n u [] _ _ (decide_eq_false h) (hend _)
    | lam n x => exact lcFree_2 kk n u _ _ _ (hloop bs hb (fun _ h => by cases h))
    | app n x y => exact lcFree_3 kk n u _ _ _ (hloop bs hb (fun _ h => by cases h))
/-- The indices that are marked. -/
def hasL (bs : List Bool) (n : Nat) : List Nat := (List.range n).filter fun i => bs.getD i false
theorem ev_FreeIn (L : List Nd) (b : Bool) (hL : L.length ≤ 1048576) :
    (∀ t, termOfP L = some t → EvN 1000300 115 [.dat (.lst b (L.map Nd.d))] [] [] ([.own 3 ((hasL (setB (List.replicate 100 false) (fv t 0)) 100).map IN), .dat (B true)], [], [])) ∧
    (termOfP L = none → EvN 1000300 115 [.dat (.lst b (L.map Nd.d))] [] [] ([.own 3 [], .dat (B false)], [], [])) := by
  refine ⟨fun t ht => ?_, fun ht => ?_⟩
  · refine (ev_fn Go.Proofs.Try.f115 1000250 (by kernel_rfl) (by kernel_rfl) fun kk hkk => ?_).mono (by omega)
    have g := ev_GoodTerm L b hL kk (by omega)
    rw [goodS_term, ht] at g
    have hg := ((termOfP_iff L t).1 ht).1
    have hsm := good_small hg
    have hnum := (good_facts hg).2.2
    have a2 := ev_tree b ht kk (by omega)
    have a3 := ev_lcFree 40 t 0 (List.replicate 100 false) hsm.2.1 hnum (by omega) (by have := hsm.2.1; omega) (by simp) kk (by omega)
    rw [Pt.d_eq] at a2 a3
    refine FreeIn_go kk b _ _ _ _ _ _ g a2 a3 ?_
    have hbl : (setB (List.replicate 100 false) (fv t 0)).length = 100 := by rw [setB_length]; simp
    generalize setB (List.replicate 100 false) (fv t 0) = bs at hbl
    have hml : (bs.map B).length = 100 := by simpa using hbl
    refine loopAt_range (fun i => hd115 (bs.map B) ((hasL bs i).map IN) i) 100 (by omega) (fun i hi m s K hs hn => ?_) (fun m s K hs hK => ?_) (by simp [hasL])
    · have hto : ((i : Int)).toNat = i := by simp
      have hget : (bs.map B)[i]? = some (B (bs.getD i false)) := by
        rw [List.getElem?_map, List.getElem?_eq_getElem (by omega), List.getD_eq_getElem?_getD, List.getElem?_eq_getElem (by omega)]
        rfl
      have hst : hasL bs (i + 1) = hasL bs i ++ (if bs.getD i false = true then [i] else []) := filter_range_succ _ i
      have hlen : (hasL bs i).length ≤ i := Nat.le_trans (List.length_filter_le _ _) (by simp)
      cases hv : bs.getD i false with
      | true =>
        refine FreeIn_hit kk m _ _ _ hs (decide_eq_true (by omega)) ⟨by omega, by omega⟩ (by rw [hto, hget, hv]) (by simp; omega) fun s' hs' => hn s' ?_
        rw [hs', w64_eq (by omega), hst, hv]
        simp only [if_true, List.map_append]
        rfl
      | false =>
        refine FreeIn_miss kk m _ _ _ hs (decide_eq_true (by omega)) ⟨by omega, by omega⟩ (by rw [hto, hget, hv]) fun s' hs' => hn s' ?_
        rw [hs', w64_eq (by omega), hst, hv]
        simp only [Bool.false_eq_true, if_false, List.append_nil]
        rfl
    · exact FreeIn_end kk m _ _ _ hs (decide_eq_false (by rw [hml]; decide)) hK
  · refine (ev_fn Go.Proofs.Try.f115 1000250 (by kernel_rfl) (by kernel_rfl) fun kk hkk => ?_).mono (by omega)
    have g := ev_GoodTerm L b hL kk (by omega)
    rw [goodS_term, ht] at g
    exact FreeIn_no kk b _ g
/-- A term of no free variable. -/
def closedP (t : Pt) : Bool := (fv t 0).isEmpty
theorem hasL_fv (t : Pt) (h : t.nums = true) (i : Nat) : i ∈ hasL (setB (List.replicate 100 false) (fv t 0)) 100 ↔ (i : Int) ∈ fv t 0 := by
  have hr := fv_range t 0 h (by omega)
  unfold hasL
  have hrep : ∀ n : Nat, (List.replicate n false).getD i false = false := fun n => by
    rw [List.getD_eq_getElem?_getD, List.getElem?_replicate]
    split <;> rfl
  rw [List.mem_filter, List.mem_range, List.getD_eq_getElem?_getD]
  constructor
  · rintro ⟨h1, h2⟩
    rw [setB_get _ _ i (by simpa using h1) (fun z hz => (hr z hz).1), hrep] at h2
    simpa using h2
  · intro hm
    have hb := hr _ hm
    have hi : i < 100 := by omega
    refine ⟨hi, ?_⟩
    rw [setB_get _ _ i (by simpa using hi) (fun z hz => (hr z hz).1)]
    simp [hm]
theorem hasL_empty (t : Pt) (h : t.nums = true) : decide ((((hasL (setB (List.replicate 100 false) (fv t 0)) 100).map IN).length : Int) = 0) = closedP t := by
  have hr := fv_range t 0 h (by omega)
  have hm := hasL_fv t h
  generalize hasL (setB (List.replicate 100 false) (fv t 0)) 100 = hs at hm
  unfold closedP
  cases hf : fv t 0 with
  | nil =>
    rw [hf] at hm
    have : hs = [] := List.eq_nil_iff_forall_not_mem.2 fun i hi => by have := (hm i).1 hi; simp at this
    rw [this]
    rfl
  | cons z zs =>
    rw [hf] at hm hr
    have hz := hr z (by simp)
    have : z.toNat ∈ hs := (hm z.toNat).2 (by rw [Int.toNat_of_nonneg hz.1]; simp)
    have hne : hs ≠ [] := List.ne_nil_of_mem this
    have : hs.length ≠ 0 := fun h => hne (List.eq_nil_of_length_eq_zero h)
    simp only [List.isEmpty_cons]
    exact decide_eq_false (by simp; omega)
/-- The closed term that nodes tell. -/
def closedOfP (L : List Nd) : Option Pt := (termOfP L).bind fun t => if closedP t = true then some t else none
theorem closedOfP_some {L : List Nd} {t : Pt} (h : closedOfP L = some t) : termOfP L = some t ∧ closedP t = true := by
  unfold closedOfP at h
  rw [Option.bind_eq_some_iff] at h
  obtain ⟨a, h1, h2⟩ := h
  split at h2
  · cases h2; exact ⟨h1, by assumption⟩
  · cases h2
theorem ev_lfClosed (L : List Nd) (b : Bool) (hL : L.length ≤ 1048576) : EvN 1000400 66 [.dat (.lst b (L.map Nd.d))] [] [] ([.dat (B (closedOfP L).isSome)], [], []) := by
  refine (ev_fn Go.Proofs.Try.f66 1000350 (by kernel_rfl) (by kernel_rfl) fun k1 hk1 => ?_).mono (by omega)
  refine lfClosed k1 b _ _ ?_
  refine (ev_fn Go.Proofs.Try.f103 1000320 (by kernel_rfl) (by kernel_rfl) fun kk hkk => ?_) k1 (by omega)
  obtain ⟨h1, h2⟩ := ev_FreeIn L b hL
  unfold closedOfP
  cases ht : termOfP L with
  | none => exact leClosed_no kk b _ _ (h2 ht kk (by omega))
  | some t =>
    have := leClosed_y kk b _ _ (h1 t ht kk (by omega))
    rw [hasL_empty t (good_facts ((termOfP_iff L t).1 ht).1).2.2] at this
    rw [this]
    simp only [Option.bind_some]
    cases closedP t <;> rfl
theorem ev_free : ∀ (d : Nat) (t : Pt) (a : Int) (out : List Int), t.depth ≤ d → t.within 1000000 → 0 ≤ a → a + t.depth ≤ 1000000 → out.length + t.size ≤ 1000000 →
    EvN (d + 10) 105 [.dat t.d, .dat (I a), .fn 106 [.up 0]] [[.own 3 (out.map I)]] [] ([], [[.own 3 ((out ++ fv t a).map I)]], [])
  | 0, t, a, out, hd, _, _, _, _ => by have := t.depth_pos; omega
  | d + 1, t, a, out, hd, hw, ha, had, ho => by
    refine ev_fn Go.Proofs.Try.f105 (d + 10) (by kernel_rfl) (by kernel_rfl) fun kk hkk => ?_
    have hwk : ∀ x ∈ t.kids, x.within 1000000 := by
      intro x hx
      cases t with
      | var n => cases hx
      | lam n y => simp only [Pt.kids, List.mem_singleton] at hx; subst hx; exact hw
      | app n y z =>
        have hw : y.within 1000000 ∧ z.within 1000000 := hw
        simp only [Pt.kids, List.mem_cons, List.not_mem_nil, or_false] at hx
        rcases hx with rfl | rfl
        · exact hw.1
        · exact hw.2
    have hloop : (∀ n, t ≠ .var n) → LoopAt cfg kk 105 Go.Proofs.Try.f105 6 (hd105 (t.under a) (t.kids.map Pt.d) (out.map I) 0) (X.exit 0) (Nm [] [] [] [[.own 3 ((out ++ fv t a).map I)]] []) := by
      intro hv
      refine kids_loop t (by omega) (fun i => hd105 (t.under a) (t.kids.map Pt.d) ((out ++ (t.kids.take i).flatMap fun x => fv x (t.under a)).map I) i) (fun i y hy hmem h1 h2 h3 m s K hs hn' => ?_) (fun h1 m s K hs hK => ?_) (by simp)
      · have hlt := Pt.kids_lt hmem
        have hu2 : t.under a ≤ a + 1 ∧ a ≤ t.under a := by cases t <;> simp [Pt.under] <;> omega
        have hsz : ((t.kids.take i).flatMap fun x => fv x (t.under a)).length + y.size ≤ t.size := by
          have h5 : ∀ ks : List Pt, (ks.flatMap fun x => fv x (t.under a)).length ≤ (ks.map Pt.size).sum := fun ks => by
            induction ks with
            | nil => simp
            | cons k ks ih => have := fv_length k (t.under a); simp only [List.flatMap_cons, List.length_append, List.map_cons, List.sum_cons]; omega
          have h6 := h5 (t.kids.take i)
          have h7 := sum_le (ks := t.kids) (i + 1)
          rw [List.take_add_one, hy] at h7
          simp only [List.map_append, List.sum_append, Option.toList_some, List.map_cons, List.map_nil, List.sum_cons, List.sum_nil] at h7
          have := t.size_kids
          omega
        have hr := ev_free d y (t.under a) (out ++ (t.kids.take i).flatMap fun x => fv x (t.under a)) (by omega) (hwk y hmem) (by omega) (by omega) (by simp only [List.length_append]; omega) kk (by omega)
        rw [Pt.d_eq y] at hr
        refine free_go kk m _ _ _ _ _ _ _ _ hs h1 h2 hr fun s' hs' => hn' s' ?_
        rw [hs', h3, takeF_step hy, List.append_assoc]
        rfl
      · refine free_end kk m _ _ _ _ hs h1 ?_
        rw [List.take_length, ← fv_kids t a hv]
        exact hK
    cases t with
    | var n =>
      have hw : -1000000 ≤ n ∧ n ≤ 1000000 := hw
      have hend : ∀ L : List Dat, LoopAt cfg kk 105 Go.Proofs.Try.f105 6 (hd105 a [] L 0) (X.exit 0) (Nm [] [] [] [[.own 3 L]] []) := fun L =>
        kids_loop (.var n) (by omega) (fun i => hd105 a [] L i) (fun i y hy => by simp [Pt.kids] at hy) (fun h1 m s K hs hK => free_end kk m _ _ _ _ hs h1 hK) rfl
      simp only [Pt.depth] at had
      simp only [Pt.size] at ho
      by_cases h : a ≤ n
      · have e : w64 (n - a) = n - a := w64_eq (by omega)
        have hfv : fv (.var n) a = [n - a] := by simp only [fv]; rw [if_pos h]
        rw [hfv]
        refine free_hit kk n a [] _ _ _ (decide_eq_true h) ?_ (hend _)
        rw [e]
        refine (ev_fn Go.Proofs.Try.f106 0 (by kernel_rfl) (by kernel_rfl) fun k2 _ => ?_) kk (by omega)
        have := freeIn1 k2 (n - a) (out.map I) (by simp; omega)
        rw [this]
        simp
      · have hfv : fv (.var n) a = [] := by simp only [fv]; rw [if_neg h]
        rw [hfv, List.append_nil]
        exact free_miss kk n a [] _ _ (decide_eq_false h) (hend _)
    | lam n x =>
      have e : w64 (a + 1) = a + 1 := w64_eq (by simp only [Pt.depth] at had; omega)
      have := hloop (fun _ h => by cases h)
      refine free_lam kk n a _ _ _ ?_
      rw [e]
      exact this
    | app n x y => exact free_app kk n a _ _ _ (hloop (fun _ h => by cases h))
/-- The free variables, sorted, each once. -/
def freeL (t : Pt) : List Int := Lib.compact ((fv t 0).mergeSort fun x y => decide (x ≤ y))
theorem den_ext {f k : Nat} {g : List D → List (List D) → List (Option Row) → Option (List D × List (List D) × List (Option Row))} (h : cfg.ext f = some g) (args : List D) (u : List (List D)) (l : List (Option Row)) : den cfg (k + 1) f args u l = g args u l := by
  simp only [den, h]
theorem ev_Sort (zs : List Int) (h : zs.length ≤ 1000000) : EvN 1 107 [.bor (.lent 0) none] [] [some (3, zs.map I)] ([], [], [some (3, (zs.mergeSort fun x y => decide (x ≤ y)).map I)]) := fun k hk => by
  obtain ⟨m, rfl⟩ : ∃ m, k = m + 1 := ⟨k - 1, by omega⟩
  rw [den_ext (g := extSort 3) (by kernel_rfl)]
  have e : intsOf (zs.map I) = some zs := intsOf_map zs
  have e2 : Nat.ble (zs.map I).length 1000000 = true := Nat.ble_eq_true_of_le (by simpa using h)
  show (match Nat.ble (zs.map I).length 1000000 with | true => sortI (zs.map I) | false => none).map (fun es' => (([], [], [some (3, es')]) : List D × List (List D) × List (Option Row))) = _
  rw [e2]
  simp only [sortI, e, Option.map_some]
  rfl
theorem ev_Compact (zs : List Int) (h : zs.length ≤ 1000000) : EvN 1 108 [.own 3 (zs.map I)] [] [] ([.own 3 ((Lib.compact zs).map I)], [], []) := fun k hk => by
  obtain ⟨m, rfl⟩ : ∃ m, k = m + 1 := ⟨k - 1, by omega⟩
  rw [den_ext (g := extComp 3) (by kernel_rfl)]
  have e : intsOf (zs.map I) = some zs := intsOf_map zs
  have e2 : Nat.ble (zs.map I).length 1000000 = true := Nat.ble_eq_true_of_le (by simpa using h)
  show (match Nat.ble (zs.map I).length 1000000 with | true => compI (zs.map I) | false => none).map (fun es' => (([.own 3 es'], [], []) : List D × List (List D) × List (Option Row))) = _
  rw [e2]
  simp only [compI, e, Option.map_some]
  rfl
theorem ev_freeIn (t : Pt) (hg : t.good = true) : EvN 100 72 [.dat t.d] [] [] ([.own 3 ((freeL t).map I)], [], []) := by
  refine (ev_fn Go.Proofs.Try.f72 80 (by kernel_rfl) (by kernel_rfl) fun kk hkk => ?_).mono (by omega)
  have hsm := good_small hg
  have hl := fv_length t 0
  have a1 := ev_free 40 t 0 [] hsm.2.1 hsm.2.2 (by omega) (by have := hsm.2.1; omega) (by simpa using (show t.size ≤ 1000000 by omega)) kk (by omega)
  have a2 := ev_Sort (fv t 0) (by omega) kk (by omega)
  have a3 := ev_Compact ((fv t 0).mergeSort fun x y => decide (x ≤ y)) (by simp; omega) kk (by omega)
  rw [Pt.d_eq] at a1 ⊢
  simp only [List.nil_append] at a1
  exact freeIn kk _ _ _ _ _ _ a1 a2 a3
theorem compact_mem (zs : List Int) (x : Int) : x ∈ Lib.compact zs ↔ x ∈ zs := by
  unfold Lib.compact Lib.compactUpTo
  simp only [List.mem_map, List.mem_filter, List.mem_range]
  constructor
  · rintro ⟨j, ⟨h1, _⟩, rfl⟩
    have : (zs.toArray[j]!) = zs[j] := by simp [h1]
    rw [this]
    exact List.getElem_mem h1
  · intro hx
    obtain ⟨j, hj, rfl⟩ := List.getElem_of_mem hx
    have key : ∀ j, (hj : j < zs.length) → ∃ i, (i < zs.length ∧ Lib.keeps zs.toArray i = true) ∧ zs.toArray[i]! = zs[j] := by
      intro j
      induction j with
      | zero => intro hj; exact ⟨0, ⟨hj, by simp [Lib.keeps]⟩, by simp [hj]⟩
      | succ j ih =>
        intro hj
        cases hk : Lib.keeps zs.toArray (j + 1) with
        | true => exact ⟨j + 1, ⟨hj, hk⟩, by simp [hj]⟩
        | false =>
          have h2 : zs[j + 1] = zs[j] := by
            simp [Lib.keeps] at hk
            have e1 : zs.toArray[j + 1]! = zs[j + 1] := by simp [hj]
            have e2 : zs.toArray[j]! = zs[j] := by simp [show j < zs.length by omega]
            first
              | (rw [← e1, ← e2]; simpa using hk)
              | (simp at hk; simpa using hk)
          obtain ⟨i, hi, he⟩ := ih (by omega)
          exact ⟨i, hi, by rw [he, h2]⟩
    obtain ⟨i, hi, he⟩ := key j hj
    exact ⟨i, hi, he⟩
theorem freeL_mem (t : Pt) (x : Int) : x ∈ freeL t ↔ x ∈ fv t 0 := by
  unfold freeL
  rw [compact_mem]
  simp
theorem freeL_empty (t : Pt) : decide ((((freeL t).map I).length : Int) = 0) = closedP t := by
  have hm := freeL_mem t
  unfold closedP
  generalize freeL t = hs at hm
  cases hf : fv t 0 with
  | nil =>
    rw [hf] at hm
    have : hs = [] := List.eq_nil_iff_forall_not_mem.2 fun i hi => by have := (hm i).1 hi; simp at this
    rw [this]
    rfl
  | cons z zs =>
    rw [hf] at hm
    have : z ∈ hs := (hm z).2 (by simp)
    have hne : hs.length ≠ 0 := fun h => by rw [List.eq_nil_of_length_eq_zero h] at this; cases this
    simp only [List.isEmpty_cons]
    exact decide_eq_false (by rw [List.length_map]; omega)
theorem ev_closedOf (L : List Nd) (b : Bool) (hL : L.length ≤ 1048576) :
    (∀ t, termOfP L = some t → EvN 2000 67 [.dat (.lst b (L.map Nd.d))] [] [] ([.dat t.d, .dat (B (closedP t))], [], [])) ∧
    (termOfP L = none → ∃ (k n : Int) (ds : List Dat), EvN 2000 67 [.dat (.lst b (L.map Nd.d))] [] [] ([.dat (T k n ds), .dat (B false)], [], [])) := by
  obtain ⟨hy, hn⟩ := ev_termOf L b hL
  refine ⟨fun t ht => ?_, fun ht => ?_⟩
  · refine (ev_fn Go.Proofs.Try.f67 1500 (by kernel_rfl) (by kernel_rfl) fun kk hkk => ?_).mono (by omega)
    have a1 := hy t ht kk (by omega)
    have a2 := ev_freeIn t ((termOfP_iff L t).1 ht).1 kk (by omega)
    rw [← freeL_empty t]
    rw [Pt.d_eq] at a1 a2 ⊢
    exact closedOf_y kk b _ _ _ _ _ a1 a2
  · obtain ⟨k, n, ds, e⟩ := hn ht
    exact ⟨k, n, ds, (ev_fn Go.Proofs.Try.f67 1500 (by kernel_rfl) (by kernel_rfl) fun kk hkk => closedOf_no kk b _ _ _ _ (e kk (by omega))).mono (by omega)⟩
/-- What 'closedOf' tells, either way. -/
theorem ev_closedOf_any (L : List Nd) (b : Bool) (hL : L.length ≤ 1048576) : ∃ (k n : Int) (ds : List Dat), EvN 2000 67 [.dat (.lst b (L.map Nd.d))] [] [] ([.dat (T k n ds), .dat (B (closedOfP L).isSome)], [], []) ∧ ∀ t, closedOfP L = some t → T k n ds = t.d := by
  obtain ⟨hy, hn⟩ := ev_closedOf L b hL
  cases ht : termOfP L with
  | none =>
    obtain ⟨k, n, ds, e⟩ := hn ht
    have hc : closedOfP L = none := by unfold closedOfP; rw [ht]; rfl
    exact ⟨k, n, ds, by rw [hc]; exact e, fun t h => by rw [hc] at h; cases h⟩
  | some t =>
    have e := hy t ht
    rw [Pt.d_eq] at e
    have hc : (closedOfP L).isSome = closedP t := by
      unfold closedOfP
      rw [ht]
      simp only [Option.bind_some]
      cases closedP t <;> rfl
    refine ⟨_, _, _, by rw [hc]; exact e, fun t' h => ?_⟩
    have := (closedOfP_some h).1
    rw [ht] at this
    cases this
    exact (Pt.d_eq t).symm
end Go.Den
namespace Go.Den
open Go
set_option linter.unusedVariables false
set_option maxRecDepth 100000
/-- What a good term's nodes are, if it is good. -/
def told (t : Pt) : List Nd × Bool := (if t.good = true then t.flat 0 (-1) else [], t.good)
theorem closedOfP_good {L : List Nd} {t : Pt} (h : closedOfP L = some t) : t.good = true := ((termOfP_iff L t).1 (closedOfP_some h).1).1
end Go.Den
namespace Go.Den
open Go
set_option linter.unusedVariables false
set_option maxRecDepth 100000
theorem nextIn_no2 (kk : Nat) (n : Int) (ps : List Dat) (v : Bool)  : runFn cfg kk (den cfg kk) 111 Go.Proofs.Try.f111 [.dat (T 2 n ps), .dat (B v)] [] [] = some ([D.dat (I (-1))], [], []) :=
  hrun_ok [] ob0 (by kernel_rfl)
theorem nextIn_l (kk : Nat) (n z : Int) (ps : List Dat) (v : Bool) (kx nx : Int) (dx : List Dat) (h1 : ((0 : Int) ≤ 0 ∧ 0 < ((T kx nx dx :: ps).length : Int)) ∧ some (T kx nx dx) = some (T kx nx dx)) (h2 : (!decide (kx = 2)) = true) (h3 : ((0 : Int) ≤ 0 ∧ 0 < ((T kx nx dx :: ps).length : Int)) ∧ some (T kx nx dx) = some (T kx nx dx)) (h4 : den cfg kk 111 [D.dat (T kx nx dx), D.dat (B v)] [] [] = some ([D.dat (I z)], [], [])) : runFn cfg kk (den cfg kk) 111 Go.Proofs.Try.f111 [.dat (T 3 n (T kx nx dx :: ps)), .dat (B v)] [] [] = some ([D.dat (I (w64 (1 + z)))], [], []) :=
  hrun_ok [(12, .at (T kx nx dx)), (200009, .yes), (18, .at (T kx nx dx)), (21, .ret [.dat (I z)])] (ob h1 (ob h2 (ob h3 (ob h4 ob0)))) (by kernel_rfl)
theorem nextIn_name (kk : Nat) (n : Int) (ps : List Dat) (kx nx : Int) (dx : List Dat) (h1 : ((0 : Int) ≤ 0 ∧ 0 < ((T kx nx dx :: ps).length : Int)) ∧ some (T kx nx dx) = some (T kx nx dx)) (h2 : (!decide (kx = 2)) = false) : runFn cfg kk (den cfg kk) 111 Go.Proofs.Try.f111 [.dat (T 3 n (T kx nx dx :: ps)), .dat (B false)] [] [] = some ([D.dat (I 0)], [], []) :=
  hrun_ok [(12, .at (T kx nx dx)), (200009, .no)] (ob h1 (ob h2 ob0)) (by kernel_rfl)
theorem nextIn_r (kk : Nat) (n z z2 : Int) (ps : List Dat) (kx nx : Int) (dx : List Dat) (ky ny : Int) (dy : List Dat) (h1 : ((0 : Int) ≤ 0 ∧ 0 < ((T kx nx dx :: T ky ny dy :: ps).length : Int)) ∧ some (T kx nx dx) = some (T kx nx dx)) (h2 : (!decide (kx = 2)) = false) (h3 : ((0 : Int) ≤ 1 ∧ 1 < ((T kx nx dx :: T ky ny dy :: ps).length : Int)) ∧ some (T ky ny dy) = some (T ky ny dy)) (h4 : (!decide (ky = 2)) = true) (h5 : ((0 : Int) ≤ 0 ∧ 0 < ((T kx nx dx :: T ky ny dy :: ps).length : Int)) ∧ some (T kx nx dx) = some (T kx nx dx)) (h6 : ((0 : Int) ≤ 1 ∧ 1 < ((T kx nx dx :: T ky ny dy :: ps).length : Int)) ∧ some (T ky ny dy) = some (T ky ny dy)) (h7 : den cfg kk 99 [D.dat (T kx nx dx)] [] [] = some ([D.dat (I z)], [], [])) (h8 : den cfg kk 111 [D.dat (T ky ny dy), D.dat (B true)] [] [] = some ([D.dat (I z2)], [], [])) : runFn cfg kk (den cfg kk) 111 Go.Proofs.Try.f111 [.dat (T 3 n (T kx nx dx :: T ky ny dy :: ps)), .dat (B true)] [] [] = some ([D.dat (I (w64 (w64 (1 + z) + z2)))], [], []) :=
  hrun_ok [(12, .at (T kx nx dx)), (200009, .no), (28, .at (T ky ny dy)), (200023, .yes), (35, .at (T kx nx dx)), (37, .ret [.dat (I z)]), (41, .at (T ky ny dy)), (44, .ret [.dat (I z2)])] (ob h1 (ob h2 (ob h3 (ob h4 (ob h5 (ob h6 (ob h7 (ob h8 ob0)))))))) (by kernel_rfl)
theorem nextIn_here (kk : Nat) (n : Int) (ps : List Dat) (kx nx : Int) (dx : List Dat) (ky ny : Int) (dy : List Dat) (h1 : ((0 : Int) ≤ 0 ∧ 0 < ((T kx nx dx :: T ky ny dy :: ps).length : Int)) ∧ some (T kx nx dx) = some (T kx nx dx)) (h2 : (!decide (kx = 2)) = false) (h3 : ((0 : Int) ≤ 1 ∧ 1 < ((T kx nx dx :: T ky ny dy :: ps).length : Int)) ∧ some (T ky ny dy) = some (T ky ny dy)) (h4 : (!decide (ky = 2)) = false) : runFn cfg kk (den cfg kk) 111 Go.Proofs.Try.f111 [.dat (T 3 n (T kx nx dx :: T ky ny dy :: ps)), .dat (B true)] [] [] = some ([D.dat (I 0)], [], []) :=
  hrun_ok [(12, .at (T kx nx dx)), (200009, .no), (28, .at (T ky ny dy)), (200023, .no)] (ob h1 (ob h2 (ob h3 (ob h4 ob0)))) (by kernel_rfl)
theorem next_n (kk : Nat) (z : Int) (k n : Int) (d : List Dat) (h1 : den cfg kk 111 [D.dat (T k n d), D.dat (B false)] [] [] = some ([D.dat (I z)], [], [])) : runFn cfg kk (den cfg kk) 81 Go.Proofs.Try.f81 [.dat (T k n d)] [] [] = some ([D.dat (I z)], [], []) :=
  hrun_ok [(4, .ret [.dat (I z)])] (ob h1 ob0) (by kernel_rfl)
theorem lfStep_no2 (kk : Nat) (n : Int) (ps : List Dat) (v : Bool)  : runFn cfg kk (den cfg kk) 112 Go.Proofs.Try.f112 [.dat (T 2 n ps), .dat (B v)] [] [] = some ([D.dat (T 2 n ps), D.dat (B false)], [], []) :=
  hrun_ok [] ob0 (by kernel_rfl)
theorem lfStep_fst (kk : Nat) (n : Int) (ps : List Dat) (kx nx : Int) (dx : List Dat) (ky ny : Int) (dy : List Dat) (k1 n1 : Int) (d1 : List Dat) (v : Bool) (k2 n2 : Int) (d2 : List Dat) (h1 : ((0 : Int) ≤ 0 ∧ 0 < ((T kx nx dx :: T ky ny dy :: ps).length : Int)) ∧ some (T kx nx dx) = some (T kx nx dx)) (h2 : ((0 : Int) ≤ 1 ∧ 1 < ((T kx nx dx :: T ky ny dy :: ps).length : Int)) ∧ some (T ky ny dy) = some (T ky ny dy)) (h3 : den cfg kk 112 [D.dat (T kx nx dx), D.dat (B v)] [] [] = some ([D.dat (T k1 n1 d1), D.dat (B true)], [], [])) (h4 : den cfg kk 68 [D.dat (T k1 n1 d1), D.dat (T ky ny dy)] [] [] = some ([D.dat (T k2 n2 d2)], [], [])) : runFn cfg kk (den cfg kk) 112 Go.Proofs.Try.f112 [.dat (T 3 n (T kx nx dx :: T ky ny dy :: ps)), .dat (B v)] [] [] = some ([D.dat (T k2 n2 d2), D.dat (B true)], [], []) :=
  hrun_ok [(18, .at (T kx nx dx)), (22, .at (T ky ny dy)), (27, .ret [.dat (T k1 n1 d1), .dat (B true)]), (33, .ret [.dat (T k2 n2 d2)])] (ob h1 (ob h2 (ob h3 (ob h4 ob0)))) (by kernel_rfl)
theorem lfStep_name (kk : Nat) (n : Int) (ps : List Dat) (kx nx : Int) (dx : List Dat) (ky ny : Int) (dy : List Dat) (k1 n1 : Int) (d1 : List Dat) (k2 n2 : Int) (d2 : List Dat) (h1 : ((0 : Int) ≤ 0 ∧ 0 < ((T kx nx dx :: T ky ny dy :: ps).length : Int)) ∧ some (T kx nx dx) = some (T kx nx dx)) (h2 : ((0 : Int) ≤ 1 ∧ 1 < ((T kx nx dx :: T ky ny dy :: ps).length : Int)) ∧ some (T ky ny dy) = some (T ky ny dy)) (h3 : den cfg kk 112 [D.dat (T kx nx dx), D.dat (B false)] [] [] = some ([D.dat (T k1 n1 d1), D.dat (B false)], [], [])) (h4 : den cfg kk 95 [D.dat (Dat.agg [I 3, I n, Dat.lst false (T kx nx dx :: T ky ny dy :: ps)])] [] [] = some ([D.dat (T k2 n2 d2)], [], [])) : runFn cfg kk (den cfg kk) 112 Go.Proofs.Try.f112 [.dat (T 3 n (T kx nx dx :: T ky ny dy :: ps)), .dat (B false)] [] [] = some ([D.dat (T k2 n2 d2), D.dat (B true)], [], []) :=
  hrun_ok [(18, .at (T kx nx dx)), (22, .at (T ky ny dy)), (27, .ret [.dat (T k1 n1 d1), .dat (B false)]), (46, .ret [.dat (T k2 n2 d2)])] (ob h1 (ob h2 (ob h3 (ob h4 ob0)))) (by kernel_rfl)
theorem lfStep_snd (kk : Nat) (n : Int) (ps : List Dat) (kx nx : Int) (dx : List Dat) (ky ny : Int) (dy : List Dat) (k1 n1 : Int) (d1 : List Dat) (k2 n2 : Int) (d2 : List Dat) (k3 n3 : Int) (d3 : List Dat) (h1 : ((0 : Int) ≤ 0 ∧ 0 < ((T kx nx dx :: T ky ny dy :: ps).length : Int)) ∧ some (T kx nx dx) = some (T kx nx dx)) (h2 : ((0 : Int) ≤ 1 ∧ 1 < ((T kx nx dx :: T ky ny dy :: ps).length : Int)) ∧ some (T ky ny dy) = some (T ky ny dy)) (h3 : den cfg kk 112 [D.dat (T kx nx dx), D.dat (B true)] [] [] = some ([D.dat (T k1 n1 d1), D.dat (B false)], [], [])) (h4 : den cfg kk 112 [D.dat (T ky ny dy), D.dat (B true)] [] [] = some ([D.dat (T k2 n2 d2), D.dat (B true)], [], [])) (h5 : den cfg kk 68 [D.dat (T kx nx dx), D.dat (T k2 n2 d2)] [] [] = some ([D.dat (T k3 n3 d3)], [], [])) : runFn cfg kk (den cfg kk) 112 Go.Proofs.Try.f112 [.dat (T 3 n (T kx nx dx :: T ky ny dy :: ps)), .dat (B true)] [] [] = some ([D.dat (T k3 n3 d3), D.dat (B true)], [], []) :=
  hrun_ok [(18, .at (T kx nx dx)), (22, .at (T ky ny dy)), (27, .ret [.dat (T k1 n1 d1), .dat (B false)]), (38, .ret [.dat (T k2 n2 d2), .dat (B true)]), (44, .ret [.dat (T k3 n3 d3)])] (ob h1 (ob h2 (ob h3 (ob h4 (ob h5 ob0))))) (by kernel_rfl)
theorem lfStep_val (kk : Nat) (n : Int) (ps : List Dat) (kx nx : Int) (dx : List Dat) (ky ny : Int) (dy : List Dat) (k1 n1 : Int) (d1 : List Dat) (k2 n2 : Int) (d2 : List Dat) (k3 n3 : Int) (d3 : List Dat) (h1 : ((0 : Int) ≤ 0 ∧ 0 < ((T kx nx dx :: T ky ny dy :: ps).length : Int)) ∧ some (T kx nx dx) = some (T kx nx dx)) (h2 : ((0 : Int) ≤ 1 ∧ 1 < ((T kx nx dx :: T ky ny dy :: ps).length : Int)) ∧ some (T ky ny dy) = some (T ky ny dy)) (h3 : den cfg kk 112 [D.dat (T kx nx dx), D.dat (B true)] [] [] = some ([D.dat (T k1 n1 d1), D.dat (B false)], [], [])) (h4 : den cfg kk 112 [D.dat (T ky ny dy), D.dat (B true)] [] [] = some ([D.dat (T k2 n2 d2), D.dat (B false)], [], [])) (h5 : den cfg kk 95 [D.dat (Dat.agg [I 3, I n, Dat.lst false (T kx nx dx :: T ky ny dy :: ps)])] [] [] = some ([D.dat (T k3 n3 d3)], [], [])) : runFn cfg kk (den cfg kk) 112 Go.Proofs.Try.f112 [.dat (T 3 n (T kx nx dx :: T ky ny dy :: ps)), .dat (B true)] [] [] = some ([D.dat (T k3 n3 d3), D.dat (B true)], [], []) :=
  hrun_ok [(18, .at (T kx nx dx)), (22, .at (T ky ny dy)), (27, .ret [.dat (T k1 n1 d1), .dat (B false)]), (38, .ret [.dat (T k2 n2 d2), .dat (B false)]), (46, .ret [.dat (T k3 n3 d3)])] (ob h1 (ob h2 (ob h3 (ob h4 (ob h5 ob0))))) (by kernel_rfl)
def hd85 (fuel k n i : Int) (ps : List Dat) (v : Bool) : St := Nm [1, 2, 3, 6, 9] [.dat (I fuel), .dat (B v), .ptr (.loc 3) 0, .ptr (.loc 6) 0, .dat (I i)] [none, none, some [.dat (I k), .dat (I n), .dat (.lst false ps)], some [.dat (I 0), .dat (I 0), .own 46 []], none] [] []
theorem lfRun_done (kk m : Nat) {s : St} {K : X → St → Prop} (fuel k n i : Int) (ps : List Dat) (v : Bool) (k2 n2 : Int) (d2 : List Dat) (hs : s.norm ((envOf cfg kk 85 Go.Proofs.Try.f85).live (firstRegion (lp Go.Proofs.Try.f85 3))) = hd85 fuel k n i ps v) (h1 : den cfg kk 112 [D.dat (T k n ps), D.dat (B v)] [] [] = some ([D.dat (T k2 n2 d2), D.dat (B false)], [], [])) (hK : K (X.ret) (Nm [6, 7, 8] [D.ptr (Ref.loc 6) 0, D.dat (I i), D.dat (B true)] [some [D.dat (I k), D.dat (I n), D.dat (Dat.lst false ps)], none, none] [] [])) : Rounds (envOf cfg kk 85 Go.Proofs.Try.f85) kk (lp Go.Proofs.Try.f85 3) (m + 1) s K :=
  rounds_end [(17, .ret [.dat (T k2 n2 d2), .dat (B false)])] hs (by kernel_rfl) rfl (ob h1 ob0) (by kernel_rfl) hK
theorem lfRun_stop (kk m : Nat) {s : St} {K : X → St → Prop} (fuel k n i : Int) (ps : List Dat) (v : Bool) (k2 n2 : Int) (d2 : List Dat) (hs : s.norm ((envOf cfg kk 85 Go.Proofs.Try.f85).live (firstRegion (lp Go.Proofs.Try.f85 3))) = hd85 fuel k n i ps v) (h1 : den cfg kk 112 [D.dat (T k n ps), D.dat (B v)] [] [] = some ([D.dat (T k2 n2 d2), D.dat (B true)], [], [])) (h2 : decide (i = fuel) = true) (hK : K (X.ret) (Nm [6, 7, 8] [D.ptr (Ref.loc 6) 0, D.dat (I 0), D.dat (B false)] [some [D.dat (I k), D.dat (I n), D.dat (Dat.lst false ps)], none, none] [] [])) : Rounds (envOf cfg kk 85 Go.Proofs.Try.f85) kk (lp Go.Proofs.Try.f85 3) (m + 1) s K :=
  rounds_end [(17, .ret [.dat (T k2 n2 d2), .dat (B true)]), (200027, .yes)] hs (by kernel_rfl) rfl (ob h1 (ob h2 (ob (rfl : true = true) (ob (rfl : true = true) ob0)))) (by kernel_rfl) hK
theorem lfRun_bad (kk m : Nat) {s : St} {K : X → St → Prop} (fuel k n i : Int) (ps : List Dat) (v : Bool) (k2 n2 : Int) (d2 : List Dat) (hs : s.norm ((envOf cfg kk 85 Go.Proofs.Try.f85).live (firstRegion (lp Go.Proofs.Try.f85 3))) = hd85 fuel k n i ps v) (h1 : den cfg kk 112 [D.dat (T k n ps), D.dat (B v)] [] [] = some ([D.dat (T k2 n2 d2), D.dat (B true)], [], [])) (h2 : decide (i = fuel) = false) (h4 : den cfg kk 84 [D.dat (T k2 n2 d2)] [] [] = some ([D.dat (B false)], [], [])) (hK : K (X.ret) (Nm [6, 7, 8] [D.ptr (Ref.loc 6) 0, D.dat (I 0), D.dat (B false)] [some [D.dat (I k), D.dat (I n), D.dat (Dat.lst false ps)], none, none] [] [])) : Rounds (envOf cfg kk 85 Go.Proofs.Try.f85) kk (lp Go.Proofs.Try.f85 3) (m + 1) s K :=
  rounds_end [(17, .ret [.dat (T k2 n2 d2), .dat (B true)]), (200027, .no), (29, .ret [.dat (B false)])] hs (by kernel_rfl) rfl (ob h1 (ob h2 (ob (rfl : false = false) (ob h4 (ob (rfl : false = false) ob0))))) (by kernel_rfl) hK
theorem lfRun_go (kk m : Nat) {s : St} {K : X → St → Prop} (fuel k n i : Int) (ps : List Dat) (v : Bool) (k2 n2 : Int) (d2 : List Dat) (hs : s.norm ((envOf cfg kk 85 Go.Proofs.Try.f85).live (firstRegion (lp Go.Proofs.Try.f85 3))) = hd85 fuel k n i ps v) (h1 : den cfg kk 112 [D.dat (T k n ps), D.dat (B v)] [] [] = some ([D.dat (T k2 n2 d2), D.dat (B true)], [], [])) (h2 : decide (i = fuel) = false) (h4 : den cfg kk 84 [D.dat (T k2 n2 d2)] [] [] = some ([D.dat (B true)], [], [])) (hn : ∀ s : St, s.norm ((envOf cfg kk 85 Go.Proofs.Try.f85).live (firstRegion (lp Go.Proofs.Try.f85 3))) = Nm [1, 2, 3, 6, 9] [D.dat (I fuel), D.dat (B v), D.ptr (Ref.loc 3) 0, D.ptr (Ref.loc 6) 0, D.dat (I (w64 (i + 1)))] [none, none, some [D.dat (I k2), D.dat (I n2), D.dat (Dat.lst false d2)], some [D.dat (I 0), D.dat (I 0), D.own 46 []], none] [] [] → Rounds (envOf cfg kk 85 Go.Proofs.Try.f85) kk (lp Go.Proofs.Try.f85 3) m s K) : Rounds (envOf cfg kk 85 Go.Proofs.Try.f85) kk (lp Go.Proofs.Try.f85 3) (m + 1) s K :=
  rounds_go [(17, .ret [.dat (T k2 n2 d2), .dat (B true)]), (200027, .no), (29, .ret [.dat (B true)])] hs (by kernel_rfl) (ob h1 (ob h2 (ob (rfl : false = false) (ob h4 (ob (rfl : false = false) ob0))))) (by kernel_rfl) hn
theorem lfRun (kk : Nat) (fuel c : Int) (v r : Bool) (k n : Int) (d : List Dat) (k2 n2 : Int) (d2 : List Dat) (h2 : LoopAt cfg kk 85 Go.Proofs.Try.f85 3 (hd85 fuel k n 0 d v) X.ret (Nm [6, 7, 8] [D.ptr (Ref.loc 6) 0, D.dat (I c), D.dat (B r)] [some [D.dat (I k2), D.dat (I n2), D.dat (Dat.lst false d2)], none, none] [] [])) : runFn cfg kk (den cfg kk) 85 Go.Proofs.Try.f85 [.dat (T k n d), .dat (I fuel), .dat (B v)] [] [] = some ([D.dat (T k2 n2 d2), D.dat (I c), D.dat (B r)], [], []) :=
  hrun_ok [(300003, .loop (hd85 fuel k n 0 d v) .ret (Nm [6, 7, 8] [.ptr (.loc 6) 0, .dat (I c), .dat (B r)] [some [.dat (I k2), .dat (I n2), .dat (.lst false d2)], none, none] [] []))] (ob (rfl : _ = hd85 fuel k n 0 d v) (ob h2 ob0)) (by kernel_rfl)
theorem lfTold_no1 (kk : Nat) (b : Bool) (es : List Dat) (fuel : Int) (v : Bool) (h1 : den cfg kk 66 [D.dat (Dat.lst b es)] [] [] = some ([D.dat (B false)], [], [])) : runFn cfg kk (den cfg kk) 79 Go.Proofs.Try.f79 [.dat (Dat.lst b es), .dat (I fuel), .dat (B v)] [] [] = some ([D.own 50 [], D.dat (I 0), D.dat (B false)], [], []) :=
  hrun_ok [(15, .ret [.dat (B false)])] (ob h1 ob0) (by kernel_rfl)
theorem lfTold_no2 (kk : Nat) (b : Bool) (es : List Dat) (fuel : Int) (v : Bool) (h1 : den cfg kk 66 [D.dat (Dat.lst b es)] [] [] = some ([D.dat (B true)], [], [])) (h2 : den cfg kk 45 [D.dat (I fuel), D.dat (I 0), D.dat (I 1000)] [] [] = some ([D.dat (B false)], [], [])) : runFn cfg kk (den cfg kk) 79 Go.Proofs.Try.f79 [.dat (Dat.lst b es), .dat (I fuel), .dat (B v)] [] [] = some ([D.own 50 [], D.dat (I 0), D.dat (B false)], [], []) :=
  hrun_ok [(15, .ret [.dat (B true)]), (19, .ret [.dat (B false)])] (ob h1 (ob h2 ob0)) (by kernel_rfl)
theorem lfTold_no3 (kk : Nat) (b : Bool) (es : List Dat) (fuel : Int) (v : Bool) (c : Int) (k n : Int) (d : List Dat) (k2 n2 : Int) (d2 : List Dat) (h1 : den cfg kk 66 [D.dat (Dat.lst b es)] [] [] = some ([D.dat (B true)], [], [])) (h2 : den cfg kk 45 [D.dat (I fuel), D.dat (I 0), D.dat (I 1000)] [] [] = some ([D.dat (B true)], [], [])) (h3 : den cfg kk 48 [D.dat (Dat.lst b es), D.dat (I 0)] [] [] = some ([D.dat (T k n d)], [], [])) (h4 : den cfg kk 85 [D.dat (T k n d), D.dat (I fuel), D.dat (B v)] [] [] = some ([D.dat (T k2 n2 d2), D.dat (I c), D.dat (B false)], [], [])) : runFn cfg kk (den cfg kk) 79 Go.Proofs.Try.f79 [.dat (Dat.lst b es), .dat (I fuel), .dat (B v)] [] [] = some ([D.own 50 [], D.dat (I 0), D.dat (B false)], [], []) :=
  hrun_ok [(15, .ret [.dat (B true)]), (19, .ret [.dat (B true)]), (24, .ret [.dat (T k n d)]), (27, .ret [.dat (T k2 n2 d2), .dat (I c), .dat (B false)])] (ob h1 (ob h2 (ob h3 (ob h4 ob0)))) (by kernel_rfl)
theorem lfTold_go (kk : Nat) (b : Bool) (es : List Dat) (fuel : Int) (v : Bool) (c : Int) (out : List Dat) (g : Bool) (k n : Int) (d : List Dat) (k2 n2 : Int) (d2 : List Dat) (h1 : den cfg kk 66 [D.dat (Dat.lst b es)] [] [] = some ([D.dat (B true)], [], [])) (h2 : den cfg kk 45 [D.dat (I fuel), D.dat (I 0), D.dat (I 1000)] [] [] = some ([D.dat (B true)], [], [])) (h3 : den cfg kk 48 [D.dat (Dat.lst b es), D.dat (I 0)] [] [] = some ([D.dat (T k n d)], [], [])) (h4 : den cfg kk 85 [D.dat (T k n d), D.dat (I fuel), D.dat (B v)] [] [] = some ([D.dat (T k2 n2 d2), D.dat (I c), D.dat (B true)], [], [])) (h5 : den cfg kk 46 [D.dat (T k2 n2 d2)] [] [] = some ([D.own 50 out, D.dat (B g)], [], [])) : runFn cfg kk (den cfg kk) 79 Go.Proofs.Try.f79 [.dat (Dat.lst b es), .dat (I fuel), .dat (B v)] [] [] = some ([D.own 50 out, D.dat (I c), D.dat (B true)], [], []) :=
  hrun_ok [(15, .ret [.dat (B true)]), (19, .ret [.dat (B true)]), (24, .ret [.dat (T k n d)]), (27, .ret [.dat (T k2 n2 d2), .dat (I c), .dat (B true)]), (35, .ret [.own 50 out, .dat (B g)])] (ob h1 (ob h2 (ob h3 (ob h4 (ob h5 ob0))))) (by kernel_rfl)
theorem sRun_n (kk : Nat) (b : Bool) (es : List Dat) (fuel : Int) (out : List Dat) (c : Int) (r : Bool) (h1 : den cfg kk 79 [D.dat (Dat.lst b es), D.dat (I fuel), D.dat (B false)] [] [] = some ([D.own 50 out, D.dat (I c), D.dat (B r)], [], [])) : runFn cfg kk (den cfg kk) 38 Go.Proofs.Try.f38 [.dat (Dat.lst b es), .dat (I fuel)] [] [] = some ([D.own 50 out, D.dat (I c), D.dat (B r)], [], []) :=
  hrun_ok [(9, .ret [.own 50 out, .dat (I c), .dat (B r)])] (ob h1 ob0) (by kernel_rfl)
theorem iRun_n (kk : Nat) (b : Bool) (es : List Dat) (fuel : Int) (out : List Dat) (c : Int) (r : Bool) (h1 : den cfg kk 80 [D.dat (Dat.lst b es), D.dat (I fuel), D.fn 81 []] [] [] = some ([D.own 50 out, D.dat (I c), D.dat (B r)], [], [])) : runFn cfg kk (den cfg kk) 39 Go.Proofs.Try.f39 [.dat (Dat.lst b es), .dat (I fuel)] [] [] = some ([D.own 50 out, D.dat (I c), D.dat (B r)], [], []) :=
  hrun_ok [(9, .back [.own 50 out, .dat (I c), .dat (B r)] [] [])] (ob h1 (ob (rfl : false = false) ob0)) (by kernel_rfl)
theorem closedOn_no_n (kk : Nat) (b : Bool) (es : List Dat) (fuel : Int) (k n : Int) (d : List Dat) (h1 : den cfg kk 67 [D.dat (Dat.lst b es)] [] [] = some ([D.dat (T k n d), D.dat (B false)], [], [])) : runFn cfg kk (den cfg kk) 80 Go.Proofs.Try.f80 [.dat (Dat.lst b es), .dat (I fuel), .fn 81 []] [] [] = some ([D.own 50 [], D.dat (I 0), D.dat (B false)], [], []) :=
  hrun_ok [(13, .ret [.dat (T k n d), .dat (B false)])] (ob h1 ob0) (by kernel_rfl)
theorem closedOn_go_n (kk : Nat) (b : Bool) (es : List Dat) (fuel : Int) (out : List Dat) (c : Int) (r : Bool) (k n : Int) (d : List Dat) (h1 : den cfg kk 67 [D.dat (Dat.lst b es)] [] [] = some ([D.dat (T k n d), D.dat (B true)], [], [])) (h2 : den cfg kk 64 [D.dat (Dat.lst b es), D.dat (I fuel), D.fn 81 []] [] [] = some ([D.own 50 out, D.dat (I c), D.dat (B r)], [], [])) : runFn cfg kk (den cfg kk) 80 Go.Proofs.Try.f80 [.dat (Dat.lst b es), .dat (I fuel), .fn 81 []] [] [] = some ([D.own 50 out, D.dat (I c), D.dat (B r)], [], []) :=
  hrun_ok [(13, .ret [.dat (T k n d), .dat (B true)]), (21, .back [.own 50 out, .dat (I c), .dat (B r)] [] [])] (ob h1 (ob h2 (ob (rfl : false = false) ob0))) (by kernel_rfl)
theorem goneOn_no2_n (kk : Nat) (b : Bool) (es : List Dat) (fuel : Int) (k n : Int) (d : List Dat) (h1 : den cfg kk 50 [D.dat (Dat.lst b es)] [] [] = some ([D.dat (T k n d), D.dat (B true)], [], [])) (h2 : den cfg kk 101 [D.dat (I fuel)] [] [] = some ([D.dat (B false)], [], [])) : runFn cfg kk (den cfg kk) 64 Go.Proofs.Try.f64 [.dat (Dat.lst b es), .dat (I fuel), .fn 81 []] [] [] = some ([D.own 50 [], D.dat (I 0), D.dat (B false)], [], []) :=
  hrun_ok [(15, .ret [.dat (T k n d), .dat (B true)]), (22, .ret [.dat (B false)])] (ob h1 (ob h2 ob0)) (by kernel_rfl)
theorem goneOn_no3_n (kk : Nat) (b : Bool) (es : List Dat) (fuel : Int) (k n k2 n2 c : Int) (d d2 : List Dat) (h1 : den cfg kk 50 [D.dat (Dat.lst b es)] [] [] = some ([D.dat (T k n d), D.dat (B true)], [], [])) (h2 : den cfg kk 101 [D.dat (I fuel)] [] [] = some ([D.dat (B true)], [], [])) (h3 : den cfg kk 102 [D.dat (T k n d), D.dat (I fuel), D.fn 81 []] [] [] = some ([D.dat (T k2 n2 d2), D.dat (I c), D.dat (B false)], [], [])) : runFn cfg kk (den cfg kk) 64 Go.Proofs.Try.f64 [.dat (Dat.lst b es), .dat (I fuel), .fn 81 []] [] [] = some ([D.own 50 [], D.dat (I 0), D.dat (B false)], [], []) :=
  hrun_ok [(15, .ret [.dat (T k n d), .dat (B true)]), (22, .ret [.dat (B true)]), (29, .back [.dat (T k2 n2 d2), .dat (I c), .dat (B false)] [] [])] (ob h1 (ob h2 (ob h3 (ob (rfl : false = false) ob0)))) (by kernel_rfl)
theorem goneOn_go_n (kk : Nat) (b : Bool) (es : List Dat) (fuel : Int) (k n k2 n2 c : Int) (d d2 out : List Dat) (h1 : den cfg kk 50 [D.dat (Dat.lst b es)] [] [] = some ([D.dat (T k n d), D.dat (B true)], [], [])) (h2 : den cfg kk 101 [D.dat (I fuel)] [] [] = some ([D.dat (B true)], [], [])) (h3 : den cfg kk 102 [D.dat (T k n d), D.dat (I fuel), D.fn 81 []] [] [] = some ([D.dat (T k2 n2 d2), D.dat (I c), D.dat (B true)], [], [])) (h5 : den cfg kk 56 [D.dat (T k2 n2 d2)] [] [] = some ([D.own 50 out], [], [])) : runFn cfg kk (den cfg kk) 64 Go.Proofs.Try.f64 [.dat (Dat.lst b es), .dat (I fuel), .fn 81 []] [] [] = some ([D.own 50 out, D.dat (I c), D.dat (B true)], [], []) :=
  hrun_ok [(15, .ret [.dat (T k n d), .dat (B true)]), (22, .ret [.dat (B true)]), (29, .back [.dat (T k2 n2 d2), .dat (I c), .dat (B true)] [] []), (36, .ret [.own 50 out])] (ob h1 (ob h2 (ob h3 (ob (rfl : false = false) (ob h5 ob0))))) (by kernel_rfl)
def hd102n (fuel k n : Int) (ps : List Dat) (made : Int) : St := Nm [1, 2, 3, 6, 9] [.dat (I fuel), .fn 81 [], .ptr (.loc 3) 0, .ptr (.loc 6) 0, .dat (I made)] [none, none, some [.dat (I k), .dat (I n), .dat (.lst false ps)], some [.dat (I 0), .dat (I 0), .own 55 []], none] [] []
theorem goOn_done_n (kk m : Nat) {s : St} {K : X → St → Prop} (fuel k n : Int) (ps : List Dat) (made : Int) (x : Int) (hs : s.norm ((envOf cfg kk 102 Go.Proofs.Try.f102).live (firstRegion (lp Go.Proofs.Try.f102 3))) = hd102n fuel k n ps made) (h1 : den cfg kk 81 [D.dat (T k n ps)] [] [] = some ([D.dat (I x)], [], [])) (h2 : decide (x < 0) = true) (hK : K (X.ret) (Nm [6, 7, 8] [D.ptr (Ref.loc 6) 0, D.dat (I made), D.dat (B true)] [some [D.dat (I k), D.dat (I n), D.dat (Dat.lst false ps)], none, none] [] [])) : Rounds (envOf cfg kk 102 Go.Proofs.Try.f102) kk (lp Go.Proofs.Try.f102 3) (m + 1) s K :=
  rounds_end [(15, .ret [.dat (I x)]), (200016, .yes)] hs (by kernel_rfl) rfl (ob h1 (ob h2 ob0)) (by kernel_rfl) hK
theorem goOn_stop_n (kk m : Nat) {s : St} {K : X → St → Prop} (fuel k n : Int) (ps : List Dat) (made : Int) (x : Int) (hs : s.norm ((envOf cfg kk 102 Go.Proofs.Try.f102).live (firstRegion (lp Go.Proofs.Try.f102 3))) = hd102n fuel k n ps made) (h1 : den cfg kk 81 [D.dat (T k n ps)] [] [] = some ([D.dat (I x)], [], [])) (h2 : decide (x < 0) = false) (h3 : decide (made = fuel) = true) (hK : K (X.ret) (Nm [6, 7, 8] [D.ptr (Ref.loc 6) 0, D.dat (I 0), D.dat (B false)] [some [D.dat (I 0), D.dat (I 0), D.own 55 []], none, none] [] [])) : Rounds (envOf cfg kk 102 Go.Proofs.Try.f102) kk (lp Go.Proofs.Try.f102 3) (m + 1) s K :=
  rounds_end [(15, .ret [.dat (I x)]), (200016, .no), (200021, .yes)] hs (by kernel_rfl) rfl (ob h1 (ob h2 (ob h3 ob0))) (by kernel_rfl) hK
theorem goOn_bad_n (kk m : Nat) {s : St} {K : X → St → Prop} (fuel k n : Int) (ps : List Dat) (made : Int) (x k2 n2 : Int) (d2 : List Dat) (hs : s.norm ((envOf cfg kk 102 Go.Proofs.Try.f102).live (firstRegion (lp Go.Proofs.Try.f102 3))) = hd102n fuel k n ps made) (h1 : den cfg kk 81 [D.dat (T k n ps)] [] [] = some ([D.dat (I x)], [], [])) (h2 : decide (x < 0) = false) (h3 : decide (made = fuel) = false) (h4 : den cfg kk 62 [D.dat (T k n ps), D.dat (I x)] [] [] = some ([D.dat (T k2 n2 d2)], [], [])) (h5 : den cfg kk 91 [D.dat (T k2 n2 d2)] [] [] = some ([D.dat (B false)], [], [])) (hK : K (X.ret) (Nm [6, 7, 8] [D.ptr (Ref.loc 6) 0, D.dat (I 0), D.dat (B false)] [some [D.dat (I 0), D.dat (I 0), D.own 55 []], none, none] [] [])) : Rounds (envOf cfg kk 102 Go.Proofs.Try.f102) kk (lp Go.Proofs.Try.f102 3) (m + 1) s K :=
  rounds_end [(15, .ret [.dat (I x)]), (200016, .no), (200021, .no), (28, .ret [.dat (T k2 n2 d2)]), (30, .ret [.dat (B false)])] hs (by kernel_rfl) rfl (ob h1 (ob h2 (ob h3 (ob h4 (ob h5 ob0))))) (by kernel_rfl) hK
theorem goOn_go_n (kk m : Nat) {s : St} {K : X → St → Prop} (fuel k n : Int) (ps : List Dat) (made : Int) (x k2 n2 : Int) (d2 : List Dat) (hs : s.norm ((envOf cfg kk 102 Go.Proofs.Try.f102).live (firstRegion (lp Go.Proofs.Try.f102 3))) = hd102n fuel k n ps made) (h1 : den cfg kk 81 [D.dat (T k n ps)] [] [] = some ([D.dat (I x)], [], [])) (h2 : decide (x < 0) = false) (h3 : decide (made = fuel) = false) (h4 : den cfg kk 62 [D.dat (T k n ps), D.dat (I x)] [] [] = some ([D.dat (T k2 n2 d2)], [], [])) (h5 : den cfg kk 91 [D.dat (T k2 n2 d2)] [] [] = some ([D.dat (B true)], [], [])) (hn : ∀ s : St, s.norm ((envOf cfg kk 102 Go.Proofs.Try.f102).live (firstRegion (lp Go.Proofs.Try.f102 3))) = Nm [1, 2, 3, 6, 9] [D.dat (I fuel), D.fn 81 [], D.ptr (Ref.loc 3) 0, D.ptr (Ref.loc 6) 0, D.dat (I (w64 (made + 1)))] [none, none, some [D.dat (I k2), D.dat (I n2), D.dat (Dat.lst false d2)], some [D.dat (I 0), D.dat (I 0), D.own 55 []], none] [] [] → Rounds (envOf cfg kk 102 Go.Proofs.Try.f102) kk (lp Go.Proofs.Try.f102 3) m s K) : Rounds (envOf cfg kk 102 Go.Proofs.Try.f102) kk (lp Go.Proofs.Try.f102 3) (m + 1) s K :=
  rounds_go [(15, .ret [.dat (I x)]), (200016, .no), (200021, .no), (28, .ret [.dat (T k2 n2 d2)]), (30, .ret [.dat (B true)])] hs (by kernel_rfl) (ob h1 (ob h2 (ob h3 (ob h4 (ob h5 ob0))))) (by kernel_rfl) hn
theorem goOn_y_n (kk : Nat) (fuel k n c k2 n2 : Int) (ps d2 : List Dat) (r : Bool) (h2 : LoopAt cfg kk 102 Go.Proofs.Try.f102 3 (hd102n fuel k n ps 0) X.ret (Nm [6, 7, 8] [D.ptr (Ref.loc 6) 0, D.dat (I c), D.dat (B r)] [some [D.dat (I k2), D.dat (I n2), D.dat (Dat.lst false d2)], none, none] [] [])) : runFn cfg kk (den cfg kk) 102 Go.Proofs.Try.f102 [.dat (T k n ps), .dat (I fuel), .fn 81 []] [] [] = some ([D.dat (T k2 n2 d2), D.dat (I c), D.dat (B r)], [], []) :=
  hrun_ok [(300003, .loop (hd102n fuel k n ps 0) .ret (Nm [6, 7, 8] [.ptr (.loc 6) 0, .dat (I c), .dat (B r)] [some [.dat (I k2), .dat (I n2), .dat (.lst false d2)], none, none] [] []))] (ob (rfl : _ = hd102n fuel k n ps 0) (ob h2 ob0)) (by kernel_rfl)
theorem goOn_n_n (kk : Nat) (fuel k n c : Int) (ps : List Dat) (r : Bool) (h2 : LoopAt cfg kk 102 Go.Proofs.Try.f102 3 (hd102n fuel k n ps 0) X.ret (Nm [6, 7, 8] [D.ptr (Ref.loc 6) 0, D.dat (I c), D.dat (B r)] [some [D.dat (I 0), D.dat (I 0), D.own 55 []], none, none] [] [])) : runFn cfg kk (den cfg kk) 102 Go.Proofs.Try.f102 [.dat (T k n ps), .dat (I fuel), .fn 81 []] [] [] = some ([D.dat (T 0 0 []), D.dat (I c), D.dat (B r)], [], []) :=
  hrun_ok [(300003, .loop (hd102n fuel k n ps 0) .ret (Nm [6, 7, 8] [.ptr (.loc 6) 0, .dat (I c), .dat (B r)] [some [.dat (I 0), .dat (I 0), .own 55 []], none, none] [] []))] (ob (rfl : _ = hd102n fuel k n ps 0) (ob h2 ob0)) (by kernel_rfl)
theorem hdt_true (kk : Nat) (v1 : Int) (as_ : List Dat) (l1 : Int) (xs : List Dat) (ws : List Dat) (c1 : Int) (xs' : List Dat) (k1 : Int) (ws' : List Dat) (k2 : Int) (q1 : Int) (q2 : Int) (h1 : den cfg kk 15 [D.dat (Dat.lst false as_), D.dat (I 1048576)] [] [] = some ([D.dat (I l1)], [], [])) (h2 : decide (l1 < 0) = false) (h3 : den cfg kk 17 [D.dat (Dat.lst false as_)] [] [] = some ([D.own 50 xs], [], [])) (h4 : D.cleans [D.own 50 ws, D.dat (I c1), D.dat (B true)] = true) (h5 : den cfg kk 38 [D.dat (Dat.lst true xs), D.dat (I v1)] [] [] = some ([D.own 50 ws, D.dat (I c1), D.dat (B true)], [], [])) (h6 : den cfg kk 17 [D.dat (Dat.lst false as_)] [] [] = some ([D.own 50 xs], [], [])) (h7 : D.cleans [D.own 50 ws, D.dat (I c1), D.dat (B true)] = true) (h8 : den cfg kk 39 [D.dat (Dat.lst true xs), D.dat (I v1)] [] [] = some ([D.own 50 ws, D.dat (I c1), D.dat (B true)], [], [])) (h10 : den cfg kk 19 [D.dat (Dat.lst true ws), D.dat (Dat.lst true ws)] [] [] = some ([D.dat (B true)], [], [])) (h14 : (!decide (c1 = c1)) = false) (h18 : den cfg kk 17 [D.dat (Dat.lst false as_)] [] [] = some ([D.own 50 xs], [], [])) (h20 : den cfg kk 19 [D.dat (Dat.lst true xs), D.dat (Dat.lst true xs)] [] [] = some ([D.dat (B true)], [], [])) (h22 : den cfg kk 20 [D.bor (Pl.lent 0) none, D.dat (I 1)] [] [some (50, xs)] = some ([D.dat (I k1)], [], [some (50, xs')])) (h24 : decide (k1 < 0) = false) (h28 : den cfg kk 19 [D.dat (Dat.lst true ws), D.dat (Dat.lst true ws)] [] [] = some ([D.dat (B true)], [], [])) (h33 : (!decide (c1 = c1)) = false) (h37 : den cfg kk 20 [D.bor (Pl.lent 0) none, D.dat (I 1)] [] [some (50, ws)] = some ([D.dat (I k2)], [], [some (50, ws')])) (h40 : den cfg kk 21 [D.dat (Dat.lst true ws'), D.dat (I 1)] [] [] = some ([D.dat (I q1)], [], [])) (h41 : decide (q1 < 0) = false) (h42 : (!decide (q1 = k2)) = false) (h43 : den cfg kk 17 [D.dat (Dat.lst false as_)] [] [] = some ([D.own 50 xs], [], [])) (h44 : D.cleans [D.own 50 ws, D.dat (I c1), D.dat (B true)] = true) (h45 : den cfg kk 39 [D.dat (Dat.lst true xs), D.dat (I v1)] [] [] = some ([D.own 50 ws, D.dat (I c1), D.dat (B true)], [], [])) (h47 : den cfg kk 19 [D.dat (Dat.lst true ws), D.dat (Dat.lst true ws)] [] [] = some ([D.dat (B true)], [], [])) (h51 : (!decide (c1 = c1)) = false) (h56 : den cfg kk 21 [D.dat (Dat.lst true ws'), D.dat (I 1)] [] [] = some ([D.dat (I q2)], [], [])) (h57 : decide (q2 < 0) = false) (h58 : (!decide (q2 = k2)) = false) : runFn cfg kk (den cfg kk) 12 Go.Proofs.Try.f12 [.dat (Dat.lst false as_), .dat (I v1)] [] [] = some ([D.dat (B true)], [], []) :=
  hrun_ok [(21, .ret [.dat (I l1)]), (200023, .no), (26, .ret [.own 50 xs]), (28, .ret [.own 50 ws, .dat (I c1), .dat (B true)]), (33, .ret [.own 50 xs]), (37, .ret [.own 50 ws, .dat (I c1), .dat (B true)]), (43, .ret [.dat (B true)]), (200045, .no), (200050, .no), (200054, .no), (57, .ret [.own 50 xs]), (58, .ret [.dat (B true)]), (200059, .no), (62, .back [.dat (I k1)] [] [some (50, xs')]), (200065, .no), (68, .ret [.dat (B true)]), (200071, .no), (200076, .no), (200080, .no), (83, .back [.dat (I k2)] [] [some (50, ws')]), (86, .ret [.dat (I q1)]), (200088, .no), (200091, .no), (94, .ret [.own 50 xs]), (96, .ret [.own 50 ws, .dat (I c1), .dat (B true)]), (102, .ret [.dat (B true)]), (200104, .no), (200109, .no), (200113, .no), (116, .ret [.dat (I q2)]), (200118, .no), (200121, .no)] (ob h1 (ob h2 (ob h3 (ob h4 (ob h5 (ob h6 (ob h7 (ob h8 (ob (rfl : true = true) (ob h10 (ob (rfl : false = false) (ob (rfl : false = false) (ob (rfl : false = false) (ob h14 (ob (rfl : false = false) (ob (rfl : false = false) (ob (rfl : false = false) (ob h18 (ob (rfl : true = true) (ob h20 (ob (rfl : false = false) (ob h22 (ob (rfl : false = false) (ob h24 (ob (rfl : false = false) (ob (rfl : false = false) (ob (rfl : true = true) (ob h28 (ob (rfl : false = false) (ob (rfl : false = false) (ob (rfl : false = false) (ob (rfl : false = false) (ob h33 (ob (rfl : false = false) (ob (rfl : false = false) (ob (rfl : false = false) (ob h37 (ob (rfl : false = false) (ob (rfl : true = true) (ob h40 (ob h41 (ob h42 (ob h43 (ob h44 (ob h45 (ob (rfl : true = true) (ob h47 (ob (rfl : false = false) (ob (rfl : false = false) (ob (rfl : false = false) (ob h51 (ob (rfl : false = false) (ob (rfl : false = false) (ob (rfl : false = false) (ob (rfl : true = true) (ob h56 (ob h57 (ob h58 ob0)))))))))))))))))))))))))))))))))))))))))))))))))))))))))) (by kernel_rfl)
theorem hdt_false (kk : Nat) (v1 : Int) (as_ : List Dat) (l1 : Int) (xs : List Dat) (ws : List Dat) (c1 : Int) (xs' : List Dat) (k1 : Int) (ws' : List Dat) (k2 : Int) (q1 : Int) (q2 : Int) (h1 : den cfg kk 15 [D.dat (Dat.lst false as_), D.dat (I 1048576)] [] [] = some ([D.dat (I l1)], [], [])) (h2 : decide (l1 < 0) = false) (h3 : den cfg kk 17 [D.dat (Dat.lst false as_)] [] [] = some ([D.own 50 xs], [], [])) (h4 : D.cleans [D.own 50 ws, D.dat (I c1), D.dat (B false)] = true) (h5 : den cfg kk 38 [D.dat (Dat.lst true xs), D.dat (I v1)] [] [] = some ([D.own 50 ws, D.dat (I c1), D.dat (B false)], [], [])) (h6 : den cfg kk 17 [D.dat (Dat.lst false as_)] [] [] = some ([D.own 50 xs], [], [])) (h7 : D.cleans [D.own 50 ws, D.dat (I c1), D.dat (B false)] = true) (h8 : den cfg kk 39 [D.dat (Dat.lst true xs), D.dat (I v1)] [] [] = some ([D.own 50 ws, D.dat (I c1), D.dat (B false)], [], [])) (h10 : den cfg kk 19 [D.dat (Dat.lst true ws), D.dat (Dat.lst true ws)] [] [] = some ([D.dat (B true)], [], [])) (h14 : (!decide (c1 = c1)) = false) (h18 : den cfg kk 17 [D.dat (Dat.lst false as_)] [] [] = some ([D.own 50 xs], [], [])) (h20 : den cfg kk 19 [D.dat (Dat.lst true xs), D.dat (Dat.lst true xs)] [] [] = some ([D.dat (B true)], [], [])) (h22 : den cfg kk 20 [D.bor (Pl.lent 0) none, D.dat (I 1)] [] [some (50, xs)] = some ([D.dat (I k1)], [], [some (50, xs')])) (h24 : decide (k1 < 0) = false) (h28 : den cfg kk 19 [D.dat (Dat.lst true ws), D.dat (Dat.lst true ws)] [] [] = some ([D.dat (B true)], [], [])) (h33 : (!decide (c1 = c1)) = false) (h37 : den cfg kk 20 [D.bor (Pl.lent 0) none, D.dat (I 1)] [] [some (50, ws)] = some ([D.dat (I k2)], [], [some (50, ws')])) (h40 : den cfg kk 21 [D.dat (Dat.lst true ws'), D.dat (I 1)] [] [] = some ([D.dat (I q1)], [], [])) (h41 : decide (q1 < 0) = false) (h42 : (!decide (q1 = k2)) = false) (h43 : den cfg kk 17 [D.dat (Dat.lst false as_)] [] [] = some ([D.own 50 xs], [], [])) (h44 : D.cleans [D.own 50 ws, D.dat (I c1), D.dat (B false)] = true) (h45 : den cfg kk 39 [D.dat (Dat.lst true xs), D.dat (I v1)] [] [] = some ([D.own 50 ws, D.dat (I c1), D.dat (B false)], [], [])) (h47 : den cfg kk 19 [D.dat (Dat.lst true ws), D.dat (Dat.lst true ws)] [] [] = some ([D.dat (B true)], [], [])) (h51 : (!decide (c1 = c1)) = false) (h56 : den cfg kk 21 [D.dat (Dat.lst true ws'), D.dat (I 1)] [] [] = some ([D.dat (I q2)], [], [])) (h57 : decide (q2 < 0) = false) (h58 : (!decide (q2 = k2)) = false) : runFn cfg kk (den cfg kk) 12 Go.Proofs.Try.f12 [.dat (Dat.lst false as_), .dat (I v1)] [] [] = some ([D.dat (B true)], [], []) :=
  hrun_ok [(21, .ret [.dat (I l1)]), (200023, .no), (26, .ret [.own 50 xs]), (28, .ret [.own 50 ws, .dat (I c1), .dat (B false)]), (33, .ret [.own 50 xs]), (37, .ret [.own 50 ws, .dat (I c1), .dat (B false)]), (43, .ret [.dat (B true)]), (200045, .no), (200050, .no), (200054, .no), (57, .ret [.own 50 xs]), (58, .ret [.dat (B true)]), (200059, .no), (62, .back [.dat (I k1)] [] [some (50, xs')]), (200065, .no), (68, .ret [.dat (B true)]), (200071, .no), (200076, .no), (200080, .no), (83, .back [.dat (I k2)] [] [some (50, ws')]), (86, .ret [.dat (I q1)]), (200088, .no), (200091, .no), (94, .ret [.own 50 xs]), (96, .ret [.own 50 ws, .dat (I c1), .dat (B false)]), (102, .ret [.dat (B true)]), (200104, .no), (200109, .no), (200113, .no), (116, .ret [.dat (I q2)]), (200118, .no), (200121, .no)] (ob h1 (ob h2 (ob h3 (ob h4 (ob h5 (ob h6 (ob h7 (ob h8 (ob (rfl : true = true) (ob h10 (ob (rfl : false = false) (ob (rfl : false = false) (ob (rfl : false = false) (ob h14 (ob (rfl : false = false) (ob (rfl : false = false) (ob (rfl : false = false) (ob h18 (ob (rfl : true = true) (ob h20 (ob (rfl : false = false) (ob h22 (ob (rfl : false = false) (ob h24 (ob (rfl : false = false) (ob (rfl : false = false) (ob (rfl : true = true) (ob h28 (ob (rfl : false = false) (ob (rfl : false = false) (ob (rfl : false = false) (ob (rfl : false = false) (ob h33 (ob (rfl : false = false) (ob (rfl : false = false) (ob (rfl : false = false) (ob h37 (ob (rfl : false = false) (ob (rfl : true = true) (ob h40 (ob h41 (ob h42 (ob h43 (ob h44 (ob h45 (ob (rfl : true = true) (ob h47 (ob (rfl : false = false) (ob (rfl : false = false) (ob (rfl : false = false) (ob h51 (ob (rfl : false = false) (ob (rfl : false = false) (ob (rfl : false = false) (ob (rfl : true = true) (ob h56 (ob h57 (ob h58 ob0)))))))))))))))))))))))))))))))))))))))))))))))))))))))))) (by kernel_rfl)
theorem hdt_small1 (kk : Nat) (v1 : Int) (as_ : List Dat) (l1 : Int) (h1 : den cfg kk 15 [D.dat (Dat.lst false as_), D.dat (I 1048576)] [] [] = some ([D.dat (I l1)], [], [])) (h2 : decide (l1 < 0) = true) : runFn cfg kk (den cfg kk) 12 Go.Proofs.Try.f12 [.dat (Dat.lst false as_), .dat (I v1)] [] [] = some ([D.dat (B true)], [], []) :=
  hrun_ok [(21, .ret [.dat (I l1)]), (200023, .yes)] (ob h1 (ob h2 ob0)) (by kernel_rfl)
end Go.Den
