/- Merged out of: W6 W7 W8 W9 W10 W11 W12 W13 V1 V2 WC WG (prune.py, a program of this work's). -/
import Derived.Test.YtjmljfpnofjkeaaGreatDoorZi5
import Derived.Test.YtjmljfpnofjkeaaGreatDoorZi4
import Derived.KernelRfl
set_option linter.unusedVariables false
set_option linter.unusedSimpArgs false
set_option linter.unnecessarySimpa false
namespace Go.Den
open Go
set_option linter.unusedVariables false
set_option maxRecDepth 100000
def flatL : List Pt → Nat → Nat → List Nd
  | [], _, _ => []
  | t :: ts, pos, at_ => t.flat pos at_ ++ flatL ts (pos + t.size) at_
theorem Pt.flat_kids (t : Pt) (at_ : Nat) (up : Int) : t.flat at_ up = ⟨t.kd, t.num, up⟩ :: flatL t.kids (at_ + 1) at_ := by
  cases t <;> simp [Pt.flat, Pt.kids, flatL, Pt.kd, Pt.num]
theorem flatL_append : ∀ (a b : List Pt) (pos at_ : Nat), flatL (a ++ b) pos at_ = flatL a pos at_ ++ flatL b (pos + (flatL a pos at_).length) at_
  | [], b, pos, at_ => by simp [flatL]
  | t :: a, b, pos, at_ => by
    simp only [List.cons_append, flatL, flatL_append a b, List.length_append, Pt.flat_length, List.append_assoc]
    rw [Nat.add_assoc]
theorem flatL_length : ∀ (ks : List Pt) (pos at_ : Nat), (flatL ks pos at_).length = (ks.map Pt.size).sum
  | [], pos, at_ => rfl
  | t :: ks, pos, at_ => by simp [flatL, Pt.flat_length, flatL_length ks]
theorem flatL_step {ks : List Pt} {i : Nat} {x : Pt} (h : ks[i]? = some x) (pos at_ : Nat) : flatL (ks.take (i + 1)) pos at_ = flatL (ks.take i) pos at_ ++ x.flat (pos + (flatL (ks.take i) pos at_).length) at_ := by
  rw [List.take_add_one, h, flatL_append]
  simp [flatL]
theorem ev_nodes1 : ∀ (d : Nat) (t : Pt) (out : List Nd) (up : Int), t.depth ≤ d → out.length + t.size ≤ 1000000000 →
    EvN (d + 5) 77 [.dat t.d, .dat (I up), .ptr (.up 1) 0, .ptr (.up 0) 0] [[.fn 77 [.up 1, .up 0]], [.own 60 (out.map Nd.d)]] [] ([], [[.fn 77 [.up 1, .up 0]], [.own 60 ((out ++ t.flat out.length up).map Nd.d)]], [])
  | 0, t, out, up, hd, hz => by have := t.depth_pos; omega
  | d + 1, t, out, up, hd, hz => by
    refine ev_fn Go.Proofs.Tryz.f77 (d + 5) (by kernel_rfl) (by kernel_rfl) fun kk hkk => ?_
    have hpos := t.size_pos
    have hle := t.kids_le
    have hsz := t.size_kids
    rw [Pt.d_eq, Pt.flat_kids]
    refine nodes1 kk _ _ up _ _ _ (by simp; omega) ?_
    let acc := fun i : Nat => out ++ ⟨t.kd, t.num, up⟩ :: flatL (t.kids.take i) (out.length + 1) out.length
    let st := fun i : Nat => hd97 ((acc i).map Nd.d) (t.kids.map Pt.d) out.length i
    have hlen : ∀ i, (acc i).length = out.length + 1 + (flatL (t.kids.take i) (out.length + 1) out.length).length := fun i => by simp [acc]; omega
    refine loopAt_range st t.kids.length (by omega) (fun i hi m s K hs hn => ?_) (fun m s K hs hK => ?_) (by simp [st, acc, flatL]; rfl)
    · obtain ⟨x, h1, h2, h3⟩ := kid_at hi
      have hx := Pt.kids_lt h2
      have hb := sum_le (ks := t.kids) i
      have hb2 := sum_le (ks := t.kids) (i + 1)
      have hstep : ((t.kids.take (i + 1)).map Pt.size).sum = ((t.kids.take i).map Pt.size).sum + x.size := by
        rw [List.take_add_one, h1]
        simp
      have hl := hlen i
      rw [flatL_length] at hl
      have hev := ev_nodes1 d x (acc i) out.length (by omega) (by omega) kk (by omega)
      rw [Pt.d_eq] at hev
      have hto : ((i : Int)).toNat = i := by simp
      refine nodes1_go kk m _ _ _ _ _ x.kd x.num _ hs (decide_eq_true (by simp; omega)) ⟨⟨by omega, by simp; omega⟩, by rw [hto]; exact h3⟩ hev fun s' hs' => hn s' ?_
      have hacc : acc i ++ x.flat (acc i).length out.length = acc (i + 1) := by
        have e := flatL_step h1 (out.length + 1) out.length
        simp only [acc] at hlen ⊢
        rw [e, hlen i]
        simp
      rw [hs', w64_eq (n := (i : Int) + 1) (by omega), hacc]
      rfl
    · refine nodes1_end kk m _ _ _ _ hs (decide_eq_false (by simp)) ?_
      have : acc t.kids.length = out ++ ⟨t.kd, t.num, up⟩ :: flatL t.kids (out.length + 1) out.length := by simp only [acc, List.take_length]
      rw [this]
      exact hK
theorem ev_nodes (t : Pt) (hz : t.size ≤ 1000000000) : EvN (t.depth + 6) 43 [.dat t.d] [] [] ([.own 60 ((t.flat 0 (-1)).map Nd.d)], [], []) := by
  refine ev_fn Go.Proofs.Tryz.f43 (t.depth + 5) (by kernel_rfl) (by kernel_rfl) fun kk hkk => ?_
  have := ev_nodes1 t.depth t [] (-1) (Nat.le_refl _) (by simpa using hz) kk (by omega)
  rw [Pt.d_eq] at this ⊢
  exact nodes kk _ _ _ _ this
theorem ev_goodNodes (t : Pt) (hz : t.size ≤ 1000000000) : EvN (4 * t.depth + 10) 25 [.dat t.d] [] [] ([.own 60 ((if t.good = true then t.flat 0 (-1) else []).map Nd.d), .dat (B t.good)], [], []) := by
  refine ev_fn Go.Proofs.Tryz.f25 (4 * t.depth + 9) (by kernel_rfl) (by kernel_rfl) fun kk hkk => ?_
  have h1 := ev_good t (by omega) t.depth (Nat.le_refl _) kk (by omega)
  have h2 := ev_nodes t hz kk (by omega)
  rw [Pt.d_eq] at h1 h2 ⊢
  cases hg : t.good with
  | true =>
    rw [hg] at h1
    rw [if_pos rfl]
    exact goodNodes_yes kk _ _ _ _ h1 h2
  | false =>
    rw [hg] at h1
    rw [if_neg (fun h => by cases h)]
    exact goodNodes_no kk _ _ _ h1
/-- 'termOf'. -/
theorem ev_termOf (L : List Nd) (b : Bool) (hL : L.length ≤ 1048576) :
    (∀ t, termOfP L = some t → EvN 1000 19 [.dat (.lst b (L.map Nd.d))] [] [] ([.dat t.d, .dat (B true)], [], [])) ∧
    (termOfP L = none → ∃ (k n : Int) (ds : List Dat), EvN 1000 19 [.dat (.lst b (L.map Nd.d))] [] [] ([.dat (T k n ds), .dat (B false)], [], [])) := by
  have hlen : ((L.map Nd.d).length : Int) = L.length := by simp
  by_cases h1 : L.length < 1
  · have hn : termOfP L = none := by unfold termOfP; rw [if_neg (by omega)]
    rw [hn]
    refine ⟨fun t h => (by cases h), fun _ => ⟨0, 0, [], ?_⟩⟩
    exact (ev_fn Go.Proofs.Tryz.f19 0 (by kernel_rfl) (by kernel_rfl) fun kk _ => termOf_few kk b _ (decide_eq_true (by omega))).mono (by omega)
  · by_cases h2 : 150 < L.length
    · have hn : termOfP L = none := by unfold termOfP; rw [if_neg (by omega)]
      rw [hn]
      refine ⟨fun t h => (by cases h), fun _ => ⟨0, 0, [], ?_⟩⟩
      exact (ev_fn Go.Proofs.Tryz.f19 0 (by kernel_rfl) (by kernel_rfl) fun kk _ => termOf_many kk b _ (decide_eq_false (by omega)) (decide_eq_true (by omega))).mono (by omega)
    · have e1 : decide (((L.map Nd.d).length : Int) < 1) = false := decide_eq_false (by omega)
      have e2 : decide (150 < ((L.map Nd.d).length : Int)) = false := decide_eq_false (by omega)
      obtain ⟨hy, hn⟩ := ev_termAt L b (by omega) (L.length + 1) 0 (-1) (by omega) (by omega)
      have hdef : termOfP L = (parse L (L.length + 1) 0 (-1)).bind fun r => if r.2 = L.length ∧ r.1.good = true then some r.1 else none := by unfold termOfP; rw [if_pos (by omega)]
      rw [hdef]
      cases hp : parse L (L.length + 1) 0 (-1) with
      | none =>
        refine ⟨fun t h => (by cases h), fun _ => ?_⟩
        obtain ⟨k, n, v, ds, hev⟩ := hn hp
        exact ⟨k, n, ds, (ev_fn Go.Proofs.Tryz.f19 (L.length + 11) (by kernel_rfl) (by kernel_rfl) fun kk hkk => termOf_bad kk b _ k n v ds e1 e2 (hev kk (by omega))).mono (by omega)⟩
      | some r =>
        obtain ⟨t, nx⟩ := r
        have hev := hy t nx hp
        obtain ⟨hs1, hs2, hs3⟩ := parse_sound L _ _ _ _ _ hp
        simp only [Option.bind_some]
        by_cases hnx : nx = L.length
        · have hsz : t.size ≤ 150 := by omega
          have hdl := t.depth_le
          have hg := ev_good t (by omega) 150 (by omega)
          have hgo : ∀ kk, 900 ≤ kk → runFn cfg kk (den cfg kk) 19 Go.Proofs.Tryz.f19 [.dat (.lst b (L.map Nd.d))] [] [] = some ([.dat t.d, .dat (B t.good)], [], []) := fun kk hkk => by
            have a1 := hev kk (by omega)
            have a2 := hg kk (by omega)
            rw [Pt.d_eq] at a1 a2 ⊢
            exact termOf_go kk b _ _ _ _ _ _ e1 e2 a1 (decide_eq_true (by omega)) a2
          cases hgd : t.good with
          | true =>
            rw [if_pos ⟨hnx, rfl⟩]
            refine ⟨fun t' h => ?_, fun h => (by cases h)⟩
            cases h
            rw [hgd] at hgo
            exact (ev_fn Go.Proofs.Tryz.f19 900 (by kernel_rfl) (by kernel_rfl) hgo).mono (by omega)
          | false =>
            rw [if_neg (fun h => by cases h.2)]
            refine ⟨fun t h => (by cases h), fun _ => ⟨t.kd, t.num, t.kids.map Pt.d, ?_⟩⟩
            rw [hgd, Pt.d_eq] at hgo
            exact (ev_fn Go.Proofs.Tryz.f19 900 (by kernel_rfl) (by kernel_rfl) hgo).mono (by omega)
        · rw [if_neg (fun h => hnx h.1)]
          refine ⟨fun t h => (by cases h), fun _ => ⟨t.kd, t.num, t.kids.map Pt.d, ?_⟩⟩
          refine (ev_fn Go.Proofs.Tryz.f19 (L.length + 11) (by kernel_rfl) (by kernel_rfl) fun kk hkk => ?_).mono (by omega)
          have a1 := hev kk (by omega)
          rw [Pt.d_eq] at a1
          exact termOf_more kk b _ _ _ _ _ e1 e2 a1 (decide_eq_false (by omega))
theorem sh_size (b : Int) : ∀ (t : Pt) (g : Int), (sh b g t).size = t.size ∧ (sh b g t).depth = t.depth
  | .var n, g => by simp only [sh]; split <;> exact ⟨rfl, rfl⟩
  | .lam n t, g => by simp [sh, Pt.size, Pt.depth, sh_size b t]
  | .app n x y, g => by simp [sh, Pt.size, Pt.depth, sh_size b x, sh_size b y]
theorem good_facts {t : Pt} (h : t.good = true) : t.size ≤ 150 ∧ t.depth ≤ 40 ∧ t.nums = true := by
  unfold Pt.good at h
  simp only [Bool.and_eq_true, decide_eq_true_eq] at h
  exact h
theorem within_mono {M N : Int} (h : M ≤ N) : ∀ t : Pt, t.within M → t.within N
  | .var n, hw => by
    have hw : -M ≤ n ∧ n ≤ M := hw
    show -N ≤ n ∧ n ≤ N
    omega
  | .lam _ t, hw => within_mono h t hw
  | .app _ a b, hw => ⟨within_mono h a hw.1, within_mono h b hw.2⟩
end Go.Den
namespace Go.Den
open Go
set_option linter.unusedVariables false
set_option maxRecDepth 100000
theorem ev_l1In (x lo hi : Int) : EvN 1 30 [.dat (I x), .dat (I lo), .dat (I hi)] [] [] ([.dat (B (decide (lo ≤ x) && decide (x ≤ hi)))], [], []) := by
  refine ev_fn Go.Proofs.Tryz.f30 0 (by kernel_rfl) (by kernel_rfl) fun kk _ => ?_
  by_cases h : lo ≤ x
  · rw [l1In_yes kk x lo hi (decide_eq_true h)]
    simp [h]
  · rw [l1In_no kk x lo hi (decide_eq_false h)]
    simp [h]
theorem ev_lcVar (n : Int) : EvN 1 64 [.dat (I n)] [] [] ([.dat (T 1 n [])], [], []) := ev_fn Go.Proofs.Tryz.f64 0 (by kernel_rfl) (by kernel_rfl) fun kk _ => lcVar kk n
theorem ev_lcLam (t : Pt) : EvN 1 65 [.dat t.d] [] [] ([.dat (Pt.lam 0 t).d], [], []) := by
  refine ev_fn Go.Proofs.Tryz.f65 0 (by kernel_rfl) (by kernel_rfl) fun kk _ => ?_
  rw [show (Pt.lam 0 t).d = T 2 0 [t.d] from rfl, Pt.d_eq t]
  exact lcLam kk t.kd t.num (t.kids.map Pt.d)
theorem ev_lcApp (a b : Pt) : EvN 1 35 [.dat a.d, .dat b.d] [] [] ([.dat (Pt.app 0 a b).d], [], []) := by
  refine ev_fn Go.Proofs.Tryz.f35 0 (by kernel_rfl) (by kernel_rfl) fun kk _ => ?_
  rw [show (Pt.app 0 a b).d = T 3 0 [a.d, b.d] from rfl, Pt.d_eq a, Pt.d_eq b]
  exact lcApp kk a.kd a.num b.kd b.num (a.kids.map Pt.d) (b.kids.map Pt.d)
def flatS : Pt → List Nd → Int → List Nd
  | .var n, l, up => l ++ [⟨1, n, up⟩]
  | .lam n t, l, up => if l.length + 1 ≤ 150 then flatS t (l ++ [⟨2, n, up⟩]) l.length else l ++ [⟨2, n, up⟩]
  | .app n a b, l, up =>
    let l2 := if l.length + 1 ≤ 150 then flatS a (l ++ [⟨3, n, up⟩]) l.length else l ++ [⟨3, n, up⟩]
    if l2.length ≤ 150 then flatS b l2 l.length else l2
theorem flatS_facts : ∀ (t : Pt) (l : List Nd) (up : Int), l.length ≤ 150 → (flatS t l up = l ++ t.flat l.length up ∨ 150 < (flatS t l up).length) ∧ (flatS t l up).length ≤ l.length + t.size
  | .var n, l, up, h => ⟨.inl rfl, by simp [flatS, Pt.size]⟩
  | .lam n t, l, up, h => by
    simp only [flatS, Pt.size]
    split
    · rename_i h1
      obtain ⟨h2, h3⟩ := flatS_facts t (l ++ [⟨2, n, up⟩]) l.length (by simpa using h1)
      simp only [List.length_append, List.length_cons, List.length_nil] at h2 h3
      refine ⟨?_, by omega⟩
      rcases h2 with h2 | h2
      · left
        rw [h2]
        simp [Pt.flat]
      · exact .inr h2
    · refine ⟨.inr (by first | (simp; omega) | (simp; done)), by first | (simp; omega) | (simp; done)⟩
  | .app n a b, l, up, h => by
    simp only [flatS, Pt.size]
    split
    · rename_i h1
      obtain ⟨h2, h3⟩ := flatS_facts a (l ++ [⟨3, n, up⟩]) l.length (by simpa using h1)
      simp only [List.length_append, List.length_cons, List.length_nil] at h2 h3
      generalize hr : flatS a (l ++ [⟨3, n, up⟩]) l.length = r at *
      split
      · rename_i h4
        obtain ⟨h5, h6⟩ := flatS_facts b r l.length h4
        refine ⟨?_, by omega⟩
        rcases h5 with h5 | h5
        · rcases h2 with h2 | h2
          · left
            have hrl : r.length = l.length + 1 + a.size := by rw [h2]; simp [Pt.flat_length]; omega
            rw [h5, hrl, h2]
            simp [Pt.flat]
          · omega
        · exact .inr h5
      · refine ⟨.inr (by omega), by omega⟩
    · rename_i h1
      have hb := b.size_pos
      rw [if_neg (by first | (simp; omega) | (simp; done))]
      exact ⟨.inr (by first | (simp; omega) | (simp; done)), by first | (simp; omega) | (simp; done)⟩
theorem flatS_small {t : Pt} (h : t.size ≤ 150) : flatS t [] (-1) = t.flat 0 (-1) := by
  obtain ⟨h1, h2⟩ := flatS_facts t [] (-1) (by simp)
  rcases h1 with h1 | h1
  · exact h1
  · simp at h2; omega
theorem flatS_big {t : Pt} (h : 150 < t.size) : 150 < (flatS t [] (-1)).length := by
  obtain ⟨h1, h2⟩ := flatS_facts t [] (-1) (by simp)
  rcases h1 with h1 | h1
  · rw [h1]
    simp [Pt.flat_length]
    exact h
  · exact h1
end Go.Den
namespace Go.Den
open Go
set_option linter.unusedVariables false
set_option maxRecDepth 100000
def stp (k : Nat) (l : List Nd) (x : Pt) : List Nd := if l.length ≤ 150 then flatS x l k else l
theorem flatS_kids (t : Pt) (l : List Nd) (up : Int) : flatS t l up = t.kids.foldl (stp l.length) (l ++ [⟨t.kd, t.num, up⟩]) := by
  cases t <;> simp [flatS, Pt.kids, stp, Pt.kd, Pt.num]
theorem foldl_step {ks : List Pt} {i : Nat} {x : Pt} (h : ks[i]? = some x) (k : Nat) (l : List Nd) : (ks.take (i + 1)).foldl (stp k) l = stp k ((ks.take i).foldl (stp k) l) x := by
  rw [List.take_add_one, h, List.foldl_append]
  rfl
theorem ev_lcFlat : ∀ (d : Nat) (t : Pt) (l : List Nd) (up : Int), t.depth ≤ d → l.length ≤ 150 → t.size ≤ 1000000000 →
    EvN (d + 5) 37 [.own 60 (l.map Nd.d), .dat t.d, .dat (I up)] [] [] ([.own 60 ((flatS t l up).map Nd.d)], [], [])
  | 0, t, l, up, hd, hl, hz => by have := t.depth_pos; omega
  | d + 1, t, l, up, hd, hl, hz => by
    refine ev_fn Go.Proofs.Tryz.f37 (d + 5) (by kernel_rfl) (by kernel_rfl) fun kk hkk => ?_
    have hle := t.kids_le
    have hsz := t.size_kids
    rw [Pt.d_eq, flatS_kids]
    have hll : ((l.map Nd.d).length : Int) = l.length := by simp
    refine lcFlat kk _ _ _ up _ _ (by simp; omega) ?_
    rw [hll]
    let acc := fun i : Nat => (t.kids.take i).foldl (stp l.length) (l ++ [⟨t.kd, t.num, up⟩])
    let st := fun i : Nat => hd89 ((acc i).map Nd.d) l.length (t.kids.map Pt.d) i
    refine loopAt_range st t.kids.length (by omega) (fun i hi m s K hs hn => ?_) (fun m s K hs hK => ?_) (by simp [st, acc]; rfl)
    · obtain ⟨x, h1, h2, h3⟩ := kid_at hi
      have hx := Pt.kids_lt h2
      have hto : ((i : Int)).toNat = i := by simp
      have hal : (((acc i).map Nd.d).length : Int) = (acc i).length := by simp
      have hacc : acc (i + 1) = stp l.length (acc i) x := foldl_step h1 _ _
      by_cases hc : (acc i).length ≤ 150
      · have hev := ev_lcFlat d x (acc i) l.length (by omega) hc (by omega) kk (by omega)
        rw [Pt.d_eq] at hev
        refine lcFlat_go kk m _ _ _ _ x.kd x.num _ _ hs (decide_eq_true (by simp; omega)) ⟨⟨by omega, by simp; omega⟩, by rw [hto]; exact h3⟩ (decide_eq_true (by omega)) hev fun s' hs' => hn s' ?_
        have : acc (i + 1) = flatS x (acc i) l.length := by rw [hacc]; unfold stp; rw [if_pos hc]
        rw [hs', w64_eq (n := (i : Int) + 1) (by omega), ← this]
        rfl
      · refine lcFlat_skip kk m _ _ _ _ x.kd x.num _ hs (decide_eq_true (by simp; omega)) ⟨⟨by omega, by simp; omega⟩, by rw [hto]; exact h3⟩ (decide_eq_false (by omega)) fun s' hs' => hn s' ?_
        have : acc (i + 1) = acc i := by rw [hacc]; unfold stp; rw [if_neg hc]
        rw [hs', w64_eq (n := (i : Int) + 1) (by omega), ← this]
        rfl
    · refine lcFlat_end kk m _ _ _ _ hs (decide_eq_false (by simp)) ?_
      have : acc t.kids.length = t.kids.foldl (stp l.length) (l ++ [⟨t.kd, t.num, up⟩]) := by simp only [acc, List.take_length]
      rw [this]
      exact hK
def upAt (L : List Nd) (q : Nat) (k : Nat) : Bool := match L[q]? with | some x => decide (x.u = (k : Int)) | none => false
def partsP (L : List Nd) (k : Nat) : Nat → List Nat
  | 0 => []
  | n + 1 => if k < n ∧ upAt L n k = true then partsP L k n ++ [n] else partsP L k n
theorem partsP_low (L : List Nd) (k : Nat) : ∀ n, n ≤ k + 1 → partsP L k n = []
  | 0, _ => rfl
  | n + 1, h => by
    simp only [partsP]
    rw [if_neg (by omega)]
    exact partsP_low L k n (by omega)
theorem partsP_length (L : List Nd) (k : Nat) : ∀ n, (partsP L k n).length ≤ n
  | 0 => Nat.le_refl _
  | n + 1 => by
    have := partsP_length L k n
    simp only [partsP]
    split
    · simp; omega
    · omega
def IN (q : Nat) : Dat := I (q : Int)
theorem ev_lcParts (L : List Nd) (b : Bool) (k : Nat) (hL : L.length ≤ 1000000) (hk : k < L.length) : EvN 1000010 50 [.dat (.lst b (L.map Nd.d)), .dat (I k)] [] [] ([.own 3 ((partsP L k L.length).map IN)], [], []) := by
  refine ev_fn Go.Proofs.Tryz.f50 1000009 (by kernel_rfl) (by kernel_rfl) fun kk hkk => ?_
  refine lcParts kk b _ k _ ?_
  have hlen : (L.map Nd.d).length = L.length := by simp
  have hw : w64 ((k : Int) + 1) = ((k + 1 : Nat) : Int) := (w64_eq (by omega)).trans (by omega)
  rw [hw]
  let st := fun i : Nat => hd88 b (L.map Nd.d) k ((k + 1 + i : Nat) : Int) ((partsP L k (k + 1 + i)).map IN)
  refine loopAt_range st (L.length - (k + 1)) (by omega) (fun i hi m s K hs hn => ?_) (fun m s K hs hK => ?_) (by simp [st, partsP_low])
  · obtain ⟨x, hx⟩ : ∃ x, L[k + 1 + i]? = some x := ⟨_, List.getElem?_eq_getElem (by omega)⟩
    have hx3 := nd_at hx
    have hpl := partsP_length L k (k + 1 + i)
    have hwi : w64 (((k + 1 + i : Nat) : Int) + 1) = ((k + 1 + (i + 1) : Nat) : Int) := (w64_eq (by omega)).trans (by omega)
    by_cases hu : x.u = (k : Int)
    · refine lcParts_in kk m b _ k _ x.k x.n x.u _ hs (decide_eq_true (by omega)) hx3 (decide_eq_true hu) (by simp; omega) fun s' hs' => hn s' ?_
      have : partsP L k (k + 1 + (i + 1)) = partsP L k (k + 1 + i) ++ [k + 1 + i] := by
        show partsP L k (k + 1 + i + 1) = _
        simp only [partsP]
        rw [if_pos ⟨by omega, by simp [upAt, hx, hu]⟩]
      rw [hs', hwi]
      simp only [st, hd88, this, List.map_append]
      rfl
    · refine lcParts_no kk m b _ k _ x.k x.n x.u _ hs (decide_eq_true (by omega)) hx3 (decide_eq_false hu) fun s' hs' => hn s' ?_
      have : partsP L k (k + 1 + (i + 1)) = partsP L k (k + 1 + i) := by
        show partsP L k (k + 1 + i + 1) = _
        simp only [partsP]
        rw [if_neg (by simp [upAt, hx, hu])]
      rw [hs', hwi]
      simp only [st, hd88, this]
  · have hs' : s.norm _ = hd88 b (L.map Nd.d) k ((k + 1 + (L.length - (k + 1)) : Nat) : Int) ((partsP L k (k + 1 + (L.length - (k + 1)))).map IN) := hs
    rw [show k + 1 + (L.length - (k + 1)) = L.length by omega] at hs'
    exact lcParts_end kk m b _ k _ _ hs' (decide_eq_false (by omega)) hK
def aroundP (L : List Nd) : Nat → Int → Int → Bool
  | 0, _, _ => false
  | f + 1, at_, u => if 0 ≤ at_ then (if at_ = u then true else match L[at_.toNat]? with | some x => aroundP L f x.u u | none => false) else false
def deepP (L : List Nd) : Nat → Int → Nat
  | 0, _ => 0
  | f + 1, at_ => if 0 ≤ at_ then (match L[at_.toNat]? with | some x => deepP L f x.u + 1 | none => 0) else 0
/-- Up to a place every node's parent stands before it. -/
def UpTo (L : List Nd) (m : Int) : Prop := ∀ (j : Nat) (x : Nd), L[j]? = some x → (j : Int) < m → -1 ≤ x.u ∧ x.u < j
theorem around_loop (L : List Nd) (b : Bool) (i : Int) (k n u : Int) (kk : Nat) (hL : UpTo L i) (hi : i ≤ L.length) (hLb : L.length ≤ 1000000) : ∀ (f : Nat) (at_ : Int) (ar : Bool) (m : Nat) (s : St) (K : X → St → Prop), at_ < f → -1 ≤ at_ → at_ < i → f < m →
    s.norm ((envOf cfg kk 21 Go.Proofs.Tryz.f21).live (firstRegion (lp Go.Proofs.Tryz.f21 10))) = hd44a b (L.map Nd.d) i k n u ar at_ → K (.exit 2) (out44a b (L.map Nd.d) i k n u (ar || aroundP L f at_ u)) → Rounds (envOf cfg kk 21 Go.Proofs.Tryz.f21) kk (lp Go.Proofs.Tryz.f21 10) m s K
  | f, at_, true, m, s, K, h1, h2, h3, h4, hs, hK => by
    obtain ⟨m, rfl⟩ : ∃ j, m = j + 1 := ⟨m - 1, by omega⟩
    by_cases h : 0 ≤ at_
    · exact around_yes kk m b _ i k n u at_ hs (decide_eq_true h) hK
    · exact around_out kk m b _ i k n u at_ true hs (decide_eq_false h) hK
  | 0, at_, false, m, s, K, h1, h2, h3, h4, hs, hK => by
    obtain ⟨m, rfl⟩ : ∃ j, m = j + 1 := ⟨m - 1, by omega⟩
    exact around_out kk m b _ i k n u at_ false hs (decide_eq_false (by omega)) hK
  | f + 1, at_, false, m, s, K, h1, h2, h3, h4, hs, hK => by
    obtain ⟨m, rfl⟩ : ∃ j, m = j + 1 := ⟨m - 1, by omega⟩
    by_cases h : 0 ≤ at_
    · obtain ⟨a, rfl⟩ : ∃ a : Nat, at_ = a := ⟨at_.toNat, by omega⟩
      obtain ⟨x, hx⟩ : ∃ x, L[a]? = some x := ⟨_, List.getElem?_eq_getElem (by omega)⟩
      obtain ⟨hu1, hu2⟩ := hL a x hx (by omega)
      refine around_go kk m b _ i k n u a x.k x.n x.u hs (decide_eq_true h) (nd_at hx) fun s' hs' => ?_
      refine around_loop L b i k n u kk hL hi hLb f x.u (decide ((a : Int) = u)) m s' K (by omega) (by omega) (by omega) (by omega) hs' ?_
      have : (decide ((a : Int) = u) || aroundP L f x.u u) = (false || aroundP L (f + 1) a u) := by
        simp only [aroundP]
        rw [if_pos h]
        by_cases he : (a : Int) = u
        · simp [he]
        · simp [he, hx]
      rw [this]
      exact hK
    · refine around_out kk m b _ i k n u at_ false hs (decide_eq_false h) ?_
      have : (false || aroundP L (f + 1) at_ u) = false := by simp only [aroundP]; rw [if_neg h]; rfl
      rw [this] at hK
      exact hK
theorem deep_loop (L : List Nd) (b : Bool) (i : Int) (k n u : Int) (ar : Bool) (kk : Nat) (top : Int) (hL : UpTo L (top + 1)) (hi : top < L.length) (hLb : L.length ≤ 1000000) : ∀ (f : Nat) (at_ : Int) (deep : Int) (m : Nat) (s : St) (K : X → St → Prop), at_ < f → -1 ≤ at_ → at_ ≤ top → f < m → 0 ≤ deep → deep + f ≤ 10000000 →
    s.norm ((envOf cfg kk 21 Go.Proofs.Tryz.f21).live (firstRegion (lp Go.Proofs.Tryz.f21 15))) = hd44b b (L.map Nd.d) i k n u ar deep at_ → K (.exit 4) (out44b b (L.map Nd.d) i k n u ar (deep + deepP L f at_)) → Rounds (envOf cfg kk 21 Go.Proofs.Tryz.f21) kk (lp Go.Proofs.Tryz.f21 15) m s K
  | 0, at_, deep, m, s, K, h1, h2, h3, h4, h5, h6, hs, hK => by
    obtain ⟨m, rfl⟩ : ∃ j, m = j + 1 := ⟨m - 1, by omega⟩
    refine deep_out kk m b _ i k n u ar deep at_ hs (decide_eq_false (by omega)) ?_
    have : deep + (deepP L 0 at_ : Int) = deep := by simp [deepP]
    rw [this] at hK
    exact hK
  | f + 1, at_, deep, m, s, K, h1, h2, h3, h4, h5, h6, hs, hK => by
    obtain ⟨m, rfl⟩ : ∃ j, m = j + 1 := ⟨m - 1, by omega⟩
    by_cases h : 0 ≤ at_
    · obtain ⟨a, rfl⟩ : ∃ a : Nat, at_ = a := ⟨at_.toNat, by omega⟩
      obtain ⟨x, hx⟩ : ∃ x, L[a]? = some x := ⟨_, List.getElem?_eq_getElem (by omega)⟩
      obtain ⟨hu1, hu2⟩ := hL a x hx (by omega)
      have hw : w64 (deep + 1) = deep + 1 := w64_eq (by omega)
      refine deep_go kk m b _ i k n u ar deep a x.k x.n x.u hs (decide_eq_true h) (nd_at hx) fun s' hs' => ?_
      rw [hw] at hs'
      refine deep_loop L b i k n u ar kk top hL hi hLb f x.u (deep + 1) m s' K (by omega) (by omega) (by omega) (by omega) (by omega) (by omega) hs' ?_
      have : deep + 1 + (deepP L f x.u : Int) = deep + (deepP L (f + 1) a : Int) := by
        simp only [deepP]
        rw [if_pos h]
        simp [hx]
        omega
      rw [this]
      exact hK
    · refine deep_out kk m b _ i k n u ar deep at_ hs (decide_eq_false h) ?_
      have : deep + (deepP L (f + 1) at_ : Int) = deep := by simp only [deepP]; rw [if_neg h]; simp
      rw [this] at hK
      exact hK
end Go.Den
namespace Go.Den
open Go
set_option linter.unusedVariables false
set_option maxRecDepth 100000
def shapeP (L : List Nd) (i : Nat) (x : Nd) : Bool := (decide ((i : Int) = 0) == decide (x.u = -1)) && (decide (-1 ≤ x.u) && decide (x.u ≤ (i : Int) - 1))
def numP (x : Nd) : Bool := (decide (0 ≤ x.n) && decide (x.n ≤ 99)) && (decide (x.k = 1) || decide (x.n = 0))
/-- What is asked of a node. -/
def chk (L : List Nd) (i : Nat) (x : Nd) : Bool :=
  shapeP L i x && ((decide (1 ≤ x.k) && decide (x.k ≤ 3)) && ((decide ((i : Int) = 0) || aroundP L i ((i : Int) - 1) x.u) && (decide (deepP L (i + 1) i ≤ 40) && (decide (((partsP L i L.length).length : Int) = x.k - 1) && numP x))))
def chkAt (L : List Nd) (i : Nat) : Bool := match L[i]? with | some x => chk L i x | none => false
def goodS (L : List Nd) : Bool := (decide (1 ≤ (L.length : Int)) && decide ((L.length : Int) ≤ 150)) && (List.range L.length).all (chkAt L)
theorem chk_shape {L : List Nd} {i : Nat} {x : Nd} (h : shapeP L i x = true) : ((!decide ((i : Int) = 0) == decide (x.u = -1)) = false) ∧ -1 ≤ x.u ∧ x.u ≤ (i : Int) - 1 := by
  unfold shapeP at h
  simp only [Bool.and_eq_true, decide_eq_true_eq] at h
  exact ⟨by rw [h.1]; rfl, h.2.1, h.2.2⟩
theorem upto_next (L : List Nd) (i : Nat) (x : Nd) (kk : Nat) (hk : 1000100 ≤ kk) (hlen : L.length ≤ 1000) (hx : L[i]? = some x) (hup : UpTo L i) (h : shapeP L i x = true) : UpTo L ((i : Int) + 1) := fun j y hy hj => by
  by_cases e : j = i
  · subst e
    rw [hx] at hy
    cases hy
    obtain ⟨_, h2, h3⟩ := chk_shape h
    exact ⟨h2, by omega⟩
  · exact hup j y hy (by omega)
theorem loop10 (L : List Nd) (b : Bool) (i : Nat) (x : Nd) (kk : Nat) (hk : 1000100 ≤ kk) (hlen : L.length ≤ 1000) (hx : L[i]? = some x) (hup : UpTo L i) (r : Bool) (h : (decide ((i : Int) = 0) || aroundP L i ((i : Int) - 1) x.u) = r) : LoopAt cfg kk 21 Go.Proofs.Tryz.f21 10 (hd44a b (L.map Nd.d) i x.k x.n x.u (decide ((i : Int) = 0)) (w64 ((i : Int) - 1))) (X.exit 2) (out44a b (L.map Nd.d) i x.k x.n x.u r) := by
  have hi := (List.getElem?_eq_some_iff.1 hx).1
  rw [w64_eq (n := (i : Int) - 1) (by omega)]
  exact loopOb_of fun s hs => around_loop L b i x.k x.n x.u kk hup (by omega) (by omega) i _ _ kk s _ (by omega) (by omega) (by omega) (by omega) hs ⟨rfl, by rw [h]⟩
theorem loop15 (L : List Nd) (b : Bool) (i : Nat) (x : Nd) (kk : Nat) (hk : 1000100 ≤ kk) (hlen : L.length ≤ 1000) (hx : L[i]? = some x) (hup : UpTo L i) (hs : shapeP L i x = true) (r : Bool) : LoopAt cfg kk 21 Go.Proofs.Tryz.f21 15 (hd44b b (L.map Nd.d) i x.k x.n x.u r 0 i) (X.exit 4) (out44b b (L.map Nd.d) i x.k x.n x.u r (deepP L (i + 1) i : Nat)) := by
  have hi := (List.getElem?_eq_some_iff.1 hx).1
  have hu := upto_next L i x kk hk hlen hx hup hs
  exact loopOb_of fun s hs => deep_loop L b i x.k x.n x.u r kk i hu (by omega) (by omega) (i + 1) i 0 kk s _ (by omega) (by omega) (by omega) (by omega) (by omega) (by omega) hs ⟨rfl, by rw [Int.zero_add]⟩
theorem parts_len (L : List Nd) (b : Bool) (i : Nat) (x : Nd) (kk : Nat) (hk : 1000100 ≤ kk) (hlen : L.length ≤ 1000) (hx : L[i]? = some x) (hup : UpTo L i) : den cfg kk 50 [.dat (.lst b (L.map Nd.d)), .dat (I i)] [] [] = some ([.own 3 ((partsP L i L.length).map IN)], [], []) := by
  have hi := (List.getElem?_eq_some_iff.1 hx).1
  exact ev_lcParts L b i (by omega) hi kk (by omega)
/-- A round: the node is good, or it is told that it is not. -/
theorem good_round (L : List Nd) (b : Bool) (i : Nat) (x : Nd) (kk : Nat) (hk : 1000100 ≤ kk) (hlen : L.length ≤ 1000) (hx : L[i]? = some x) (hup : UpTo L i) (m : Nat) (s : St) (K : X → St → Prop)
    (hs : s.norm ((envOf cfg kk 21 Go.Proofs.Tryz.f21).live (firstRegion (lp Go.Proofs.Tryz.f21 4))) = hd44 b (L.map Nd.d) i)
    (hn : chk L i x = true → ∀ s : St, s.norm ((envOf cfg kk 21 Go.Proofs.Tryz.f21).live (firstRegion (lp Go.Proofs.Tryz.f21 4))) = hd44 b (L.map Nd.d) ((i + 1 : Nat) : Int) → Rounds (envOf cfg kk 21 Go.Proofs.Tryz.f21) kk (lp Go.Proofs.Tryz.f21 4) m s K)
    (hK : chk L i x = false → K .ret (Nm [2] [.dat (B false)] [none] [] [])) : Rounds (envOf cfg kk 21 Go.Proofs.Tryz.f21) kk (lp Go.Proofs.Tryz.f21 4) (m + 1) s K := by
  have hi := (List.getElem?_eq_some_iff.1 hx).1
  have hx3 := nd_at hx
  have hlt : decide ((i : Int) < ((L.map Nd.d).length : Int)) = true := decide_eq_true hx3.1.2
  have hw : w64 ((i : Int) - 1) = (i : Int) - 1 := w64_eq (by omega)
  have hw2 : w64 ((i : Int) + 1) = ((i + 1 : Nat) : Int) := (w64_eq (by omega)).trans (by omega)
  have hin := ev_l1In x.u (-1) ((i : Int) - 1) kk (by omega)
  have hnum := ev_l1In x.n 0 99 kk (by omega)
  cases hsh : shapeP L i x with
  | false =>
    have hc : chk L i x = false := by unfold chk; rw [hsh]; rfl
    have hK' := hK hc
    cases h0 : (decide ((i : Int) = 0) == decide (x.u = -1)) with
    | false => exact good_up kk m b _ i x.n x.u x.k hs hlt hx3 (by rw [h0]; rfl) hK'
    | true =>
      have h1 : (decide (-1 ≤ x.u) && decide (x.u ≤ (i : Int) - 1)) = false := by unfold shapeP at hsh; rw [h0, Bool.true_and] at hsh; exact hsh
      rw [h1] at hin
      exact good_in kk m b _ i x.n x.u x.k hs hlt hx3 (by rw [h0]; rfl) (by rw [hw]; exact hin) hK'
  | true =>
  obtain ⟨h3, h4, h5⟩ := chk_shape hsh
  have hin' : den cfg kk 30 [.dat (I x.u), .dat (I (-1)), .dat (I (w64 ((i : Int) - 1)))] [] [] = some ([.dat (B true)], [], []) := by
    rw [hw, hin, decide_eq_true h4, decide_eq_true h5]
    rfl
  have l10 := loop10 L b i x kk hk hlen hx hup
  have l15 := loop15 L b i x kk hk hlen hx hup hsh
  have hp := parts_len L b i x kk hk hlen hx hup
  have hpl : (((partsP L i L.length).map IN).length : Int) = (partsP L i L.length).length := by simp
  have hc0 : chk L i x = ((decide (1 ≤ x.k) && decide (x.k ≤ 3)) && ((decide ((i : Int) = 0) || aroundP L i ((i : Int) - 1) x.u) && (decide (deepP L (i + 1) i ≤ 40) && (decide (((partsP L i L.length).length : Int) = x.k - 1) && numP x)))) := by
    unfold chk
    rw [hsh, Bool.true_and]
  by_cases hkd : 1 ≤ x.k ∧ x.k ≤ 3
  case neg =>
    have hc : chk L i x = false := by
      rw [hc0]
      have : (decide (1 ≤ x.k) && decide (x.k ≤ 3)) = false := by
        cases h : (decide (1 ≤ x.k) && decide (x.k ≤ 3)) with
        | false => rfl
        | true => simp only [Bool.and_eq_true, decide_eq_true_eq] at h; exact (hkd h).elim
      rw [this]; rfl
    exact good_kind kk m b _ i x.n x.u x.k _ _ hs hlt hx3 h3 hin' (l10 _ rfl) (l15 _) (decide_eq_false (by omega)) (decide_eq_false (by omega)) (decide_eq_false (by omega)) (hK hc)
  case pos =>
  have hkb : (decide (1 ≤ x.k) && decide (x.k ≤ 3)) = true := by rw [decide_eq_true hkd.1, decide_eq_true hkd.2]; rfl
  rw [hkb, Bool.true_and] at hc0
  obtain ⟨k, n, u⟩ := x
  simp only at *
  rcases (show k = 1 ∨ k = 2 ∨ k = 3 by omega) with rfl | rfl | rfl
  · cases har : (decide ((i : Int) = 0) || aroundP L i ((i : Int) - 1) u) with
    | false =>
      have hc : chk L i ⟨1, n, u⟩ = false := by rw [hc0, har]; rfl
      exact good_ar_1 kk m b _ i n u _ hs hlt hx3 h3 hin' (l10 false har) (l15 false) (hK hc)
    | true =>
      by_cases hd : deepP L (i + 1) i ≤ 40
      case neg =>
        have hc : chk L i ⟨1, n, u⟩ = false := by rw [hc0, har, decide_eq_false hd]; rfl
        exact good_deep_1 kk m b _ i n u _ hs hlt hx3 h3 hin' (l10 true har) (l15 true) (decide_eq_true (by omega)) (hK hc)
      case pos =>
        have hdd : decide ((40 : Int) < ((deepP L (i + 1) i : Nat) : Int)) = false := decide_eq_false (by omega)
        by_cases hpc : ((partsP L i L.length).length : Int) = 1 - 1
        case neg =>
          have hc : chk L i ⟨1, n, u⟩ = false := by rw [hc0, har, decide_eq_false hpc]; simp
          exact good_parts_1 kk m b _ i n u _ _ hs hlt hx3 h3 hin' (l10 true har) (l15 true) hdd hp (by rw [hpl]; simp only [Bool.not_eq_true', decide_eq_false_iff_not]; omega) (hK hc)
        case pos =>
          have hpp : (!decide ((((partsP L i L.length).map IN).length : Int) = 0)) = false := by rw [hpl]; simp only [Bool.not_eq_false', decide_eq_true_eq]; omega
          by_cases hna : 0 ≤ n ∧ n ≤ 99
          case neg =>
            have hnf : (decide (0 ≤ n) && decide (n ≤ 99)) = false := by
              cases h : (decide (0 ≤ n) && decide (n ≤ 99)) with
              | false => rfl
              | true => simp only [Bool.and_eq_true, decide_eq_true_eq] at h; exact (hna h).elim
            have hq : numP ⟨1, n, u⟩ = false := by unfold numP; simp only; rw [hnf]; rfl
            rw [hq] at hc0
            have hc : chk L i ⟨1, n, u⟩ = false := by rw [hc0]; simp
            rw [hnf] at hnum
            exact good_n_1 kk m b _ i n u _ _ hs hlt hx3 h3 hin' (l10 true har) (l15 true) hdd hp hpp hnum (hK hc)
          case pos =>
          have hnum' : den cfg kk 30 [.dat (I n), .dat (I 0), .dat (I 99)] [] [] = some ([.dat (B true)], [], []) := by
            rw [hnum, decide_eq_true hna.1, decide_eq_true hna.2]
            rfl
          have hq : numP ⟨1, n, u⟩ = true := by simp [numP, hna.1, hna.2]
          rw [hq] at hc0
          have hc : chk L i ⟨1, n, u⟩ = true := by rw [hc0, har, decide_eq_true hd, decide_eq_true hpc]; rfl
          exact good_go_1 kk m b _ i n u _ _ hs hlt hx3 h3 hin' (l10 true har) (l15 true) hdd hp hpp hnum' fun s' hs' => hn hc s' (by rw [hs', hw2]; rfl)
  · cases har : (decide ((i : Int) = 0) || aroundP L i ((i : Int) - 1) u) with
    | false =>
      have hc : chk L i ⟨2, n, u⟩ = false := by rw [hc0, har]; rfl
      exact good_ar_2 kk m b _ i n u _ hs hlt hx3 h3 hin' (l10 false har) (l15 false) (hK hc)
    | true =>
      by_cases hd : deepP L (i + 1) i ≤ 40
      case neg =>
        have hc : chk L i ⟨2, n, u⟩ = false := by rw [hc0, har, decide_eq_false hd]; rfl
        exact good_deep_2 kk m b _ i n u _ hs hlt hx3 h3 hin' (l10 true har) (l15 true) (decide_eq_true (by omega)) (hK hc)
      case pos =>
        have hdd : decide ((40 : Int) < ((deepP L (i + 1) i : Nat) : Int)) = false := decide_eq_false (by omega)
        by_cases hpc : ((partsP L i L.length).length : Int) = 2 - 1
        case neg =>
          have hc : chk L i ⟨2, n, u⟩ = false := by rw [hc0, har, decide_eq_false hpc]; simp
          exact good_parts_2 kk m b _ i n u _ _ hs hlt hx3 h3 hin' (l10 true har) (l15 true) hdd hp (by rw [hpl]; simp only [Bool.not_eq_true', decide_eq_false_iff_not]; omega) (hK hc)
        case pos =>
          have hpp : (!decide ((((partsP L i L.length).map IN).length : Int) = 1)) = false := by rw [hpl]; simp only [Bool.not_eq_false', decide_eq_true_eq]; omega
          by_cases hna : 0 ≤ n ∧ n ≤ 99
          case neg =>
            have hnf : (decide (0 ≤ n) && decide (n ≤ 99)) = false := by
              cases h : (decide (0 ≤ n) && decide (n ≤ 99)) with
              | false => rfl
              | true => simp only [Bool.and_eq_true, decide_eq_true_eq] at h; exact (hna h).elim
            have hq : numP ⟨2, n, u⟩ = false := by unfold numP; simp only; rw [hnf]; rfl
            rw [hq] at hc0
            have hc : chk L i ⟨2, n, u⟩ = false := by rw [hc0]; simp
            rw [hnf] at hnum
            exact good_n_2 kk m b _ i n u _ _ hs hlt hx3 h3 hin' (l10 true har) (l15 true) hdd hp hpp hnum (hK hc)
          case pos =>
          have hnum' : den cfg kk 30 [.dat (I n), .dat (I 0), .dat (I 99)] [] [] = some ([.dat (B true)], [], []) := by
            rw [hnum, decide_eq_true hna.1, decide_eq_true hna.2]
            rfl
          by_cases hnn : n = 0
          case neg =>
            have hq : numP ⟨2, n, u⟩ = false := by simp [numP, hnn]
            rw [hq] at hc0
            have hc : chk L i ⟨2, n, u⟩ = false := by rw [hc0]; simp
            exact good_num_2 kk m b _ i n u _ _ hs hlt hx3 h3 hin' (l10 true har) (l15 true) hdd hp hpp hnum' (by simp [hnn]) (hK hc)
          case pos =>
          have hq : numP ⟨2, n, u⟩ = true := by simp [numP, hnn]
          rw [hq] at hc0
          have hc : chk L i ⟨2, n, u⟩ = true := by rw [hc0, har, decide_eq_true hd, decide_eq_true hpc]; rfl
          exact good_go_2 kk m b _ i n u _ _ hs hlt hx3 h3 hin' (l10 true har) (l15 true) hdd hp hpp hnum' (by simp [hnn]) fun s' hs' => hn hc s' (by rw [hs', hw2]; rfl)
  · cases har : (decide ((i : Int) = 0) || aroundP L i ((i : Int) - 1) u) with
    | false =>
      have hc : chk L i ⟨3, n, u⟩ = false := by rw [hc0, har]; rfl
      exact good_ar_3 kk m b _ i n u _ hs hlt hx3 h3 hin' (l10 false har) (l15 false) (hK hc)
    | true =>
      by_cases hd : deepP L (i + 1) i ≤ 40
      case neg =>
        have hc : chk L i ⟨3, n, u⟩ = false := by rw [hc0, har, decide_eq_false hd]; rfl
        exact good_deep_3 kk m b _ i n u _ hs hlt hx3 h3 hin' (l10 true har) (l15 true) (decide_eq_true (by omega)) (hK hc)
      case pos =>
        have hdd : decide ((40 : Int) < ((deepP L (i + 1) i : Nat) : Int)) = false := decide_eq_false (by omega)
        by_cases hpc : ((partsP L i L.length).length : Int) = 3 - 1
        case neg =>
          have hc : chk L i ⟨3, n, u⟩ = false := by rw [hc0, har, decide_eq_false hpc]; simp
          exact good_parts_3 kk m b _ i n u _ _ hs hlt hx3 h3 hin' (l10 true har) (l15 true) hdd hp (by rw [hpl]; simp only [Bool.not_eq_true', decide_eq_false_iff_not]; omega) (hK hc)
        case pos =>
          have hpp : (!decide ((((partsP L i L.length).map IN).length : Int) = 2)) = false := by rw [hpl]; simp only [Bool.not_eq_false', decide_eq_true_eq]; omega
          by_cases hna : 0 ≤ n ∧ n ≤ 99
          case neg =>
            have hnf : (decide (0 ≤ n) && decide (n ≤ 99)) = false := by
              cases h : (decide (0 ≤ n) && decide (n ≤ 99)) with
              | false => rfl
              | true => simp only [Bool.and_eq_true, decide_eq_true_eq] at h; exact (hna h).elim
            have hq : numP ⟨3, n, u⟩ = false := by unfold numP; simp only; rw [hnf]; rfl
            rw [hq] at hc0
            have hc : chk L i ⟨3, n, u⟩ = false := by rw [hc0]; simp
            rw [hnf] at hnum
            exact good_n_3 kk m b _ i n u _ _ hs hlt hx3 h3 hin' (l10 true har) (l15 true) hdd hp hpp hnum (hK hc)
          case pos =>
          have hnum' : den cfg kk 30 [.dat (I n), .dat (I 0), .dat (I 99)] [] [] = some ([.dat (B true)], [], []) := by
            rw [hnum, decide_eq_true hna.1, decide_eq_true hna.2]
            rfl
          by_cases hnn : n = 0
          case neg =>
            have hq : numP ⟨3, n, u⟩ = false := by simp [numP, hnn]
            rw [hq] at hc0
            have hc : chk L i ⟨3, n, u⟩ = false := by rw [hc0]; simp
            exact good_num_3 kk m b _ i n u _ _ hs hlt hx3 h3 hin' (l10 true har) (l15 true) hdd hp hpp hnum' (by simp [hnn]) (hK hc)
          case pos =>
          have hq : numP ⟨3, n, u⟩ = true := by simp [numP, hnn]
          rw [hq] at hc0
          have hc : chk L i ⟨3, n, u⟩ = true := by rw [hc0, har, decide_eq_true hd, decide_eq_true hpc]; rfl
          exact good_go_3 kk m b _ i n u _ _ hs hlt hx3 h3 hin' (l10 true har) (l15 true) hdd hp hpp hnum' (by simp [hnn]) fun s' hs' => hn hc s' (by rw [hs', hw2]; rfl)
/-- 'GoodTerm'. -/
theorem ev_GoodTerm (L : List Nd) (b : Bool) (hL : L.length ≤ 1048576) : EvN 1000200 21 [.dat (.lst b (L.map Nd.d))] [] [] ([.dat (B (goodS L))], [], []) := by
  refine (ev_fn Go.Proofs.Tryz.f21 1000150 (by kernel_rfl) (by kernel_rfl) fun kk hkk => ?_).mono (by omega)
  have hlen : ((L.map Nd.d).length : Int) = L.length := by simp
  have hin := ev_l1In ((L.map Nd.d).length : Int) 1 150 kk (by omega)
  unfold goodS
  cases hr : (decide (1 ≤ (L.length : Int)) && decide ((L.length : Int) ≤ 150)) with
  | false =>
    rw [hlen, hr] at hin
    exact GoodTerm_few kk b _ (by rw [hlen]; exact hin)
  | true =>
    rw [hlen, hr] at hin
    have hL2 : L.length ≤ 150 := by
      simp only [Bool.and_eq_true, decide_eq_true_eq] at hr
      omega
    rw [Bool.true_and]
    have hupto : ∀ j : Nat, j ≤ L.length → (∀ q, q < j → chkAt L q = true) → UpTo L j := fun j hj hc q y hy hq => by
      have := hc q (by omega)
      unfold chkAt chk at this
      rw [hy] at this
      simp only [Bool.and_eq_true] at this
      obtain ⟨_, h2, h3⟩ := chk_shape this.1
      exact ⟨h2, by omega⟩
    cases hall : (List.range L.length).all (chkAt L) with
    | true =>
      have hch : ∀ q, q < L.length → chkAt L q = true := fun q hq => (List.all_eq_true.1 hall) q (List.mem_range.2 hq)
      refine GoodTerm_yes kk b _ (by rw [hlen]; exact hin) ?_
      refine loopAt_range (fun i => hd44 b (L.map Nd.d) i) L.length (by omega) (fun i hi m s K hs hn => ?_) (fun m s K hs hK => ?_) rfl
      · obtain ⟨x, hx⟩ : ∃ x, L[i]? = some x := ⟨_, List.getElem?_eq_getElem hi⟩
        refine good_round L b i x kk (by omega) (by omega) hx (hupto i (by omega) fun q hq => hch q (by omega)) m s K hs (fun _ => hn) fun h => ?_
        have := hch i hi
        unfold chkAt at this
        rw [hx] at this
        rw [show chk L i x = true from this] at h
        cases h
      · exact good_end kk m b _ _ hs (decide_eq_false (by omega)) hK
    | false =>
      obtain ⟨j, q, h1, h2, h3⟩ := first_bad (chkAt L) hall
      have hj : j < L.length := by
        have := (List.getElem?_eq_some_iff.1 h1).1
        simpa using this
      have hqj : q = j := by
        rw [List.getElem?_range hj] at h1
        exact (Option.some.inj h1).symm
      subst hqj
      have hch : ∀ i, i < q → chkAt L i = true := fun i hi => h3 i i hi (List.getElem?_range (by omega))
      refine GoodTerm_no kk b _ (by rw [hlen]; exact hin) ?_
      refine loopAt_range (fun i => hd44 b (L.map Nd.d) i) q (by omega) (fun i hi m s K hs hn => ?_) (fun m s K hs hK => ?_) rfl
      · obtain ⟨x, hx⟩ : ∃ x, L[i]? = some x := ⟨_, List.getElem?_eq_getElem (by omega)⟩
        refine good_round L b i x kk (by omega) (by omega) hx (hupto i (by omega) fun p hp => hch p (by omega)) m s K hs (fun _ => hn) fun h => ?_
        have := hch i hi
        unfold chkAt at this
        rw [hx] at this
        rw [show chk L i x = true from this] at h
        cases h
      · obtain ⟨x, hx⟩ : ∃ x, L[q]? = some x := ⟨_, List.getElem?_eq_getElem hj⟩
        refine good_round L b q x kk (by omega) (by omega) hx (hupto q (by omega) fun p hp => hch p hp) m s K hs (fun h => ?_) fun _ => hK
        unfold chkAt at h2
        rw [hx] at h2
        rw [show chk L q x = false from h2] at h
        cases h
end Go.Den
namespace Go.Den
open Go
set_option linter.unusedVariables false
theorem flat_get : ∀ (t : Pt) (at_ : Nat) (up : Int) (r : Nat) (z : Nd), (t.flat at_ up)[r]? = some z → (r = 0 ∧ z = ⟨t.kd, t.num, up⟩) ∨ (0 < r ∧ (at_ : Int) ≤ z.u ∧ z.u < at_ + r)
  | .var n, at_, up, 0, z, h => .inl ⟨rfl, by simpa [Pt.flat, Pt.kd, Pt.num] using h.symm⟩
  | .var n, at_, up, r + 1, z, h => by simp [Pt.flat] at h
  | .lam n t, at_, up, 0, z, h => .inl ⟨rfl, by simpa [Pt.flat, Pt.kd, Pt.num] using h.symm⟩
  | .lam n t, at_, up, r + 1, z, h => by
    have h' : (t.flat (at_ + 1) at_)[r]? = some z := by simpa [Pt.flat] using h
    rcases flat_get t _ _ r z h' with ⟨rfl, rfl⟩ | ⟨h1, h2, h3⟩
    · right; refine ⟨by omega, ?_, ?_⟩ <;> (simp only; omega)
    · right; refine ⟨by omega, by omega, by omega⟩
  | .app n a b, at_, up, 0, z, h => .inl ⟨rfl, by simpa [Pt.flat, Pt.kd, Pt.num] using h.symm⟩
  | .app n a b, at_, up, r + 1, z, h => by
    have h' : (a.flat (at_ + 1) at_ ++ b.flat (at_ + 1 + a.size) at_)[r]? = some z := by simpa [Pt.flat] using h
    rw [List.getElem?_append, a.flat_length] at h'
    split at h'
    · rcases flat_get a _ _ r z h' with ⟨rfl, rfl⟩ | ⟨h1, h2, h3⟩
      · right; refine ⟨by omega, ?_, ?_⟩ <;> (simp only; omega)
      · right; refine ⟨by omega, by omega, by omega⟩
    · rename_i hr
      rcases flat_get b _ _ _ z h' with ⟨h1, rfl⟩ | ⟨h1, h2, h3⟩
      · right; refine ⟨by omega, ?_, ?_⟩ <;> (simp only; omega)
      · right; refine ⟨by omega, by omega, by omega⟩
theorem seg_get {L rest : List Nd} {t : Pt} {at_ : Nat} {up : Int} (h : L.drop at_ = t.flat at_ up ++ rest) {q : Nat} (h1 : at_ ≤ q) (h2 : q < at_ + t.size) {z : Nd} (hz : L[q]? = some z) : (q = at_ ∧ z = ⟨t.kd, t.num, up⟩) ∨ (at_ < q ∧ (at_ : Int) ≤ z.u ∧ z.u < q) := by
  have e : L[q]? = (t.flat at_ up)[q - at_]? := by
    have : (L.drop at_)[q - at_]? = L[q]? := by rw [List.getElem?_drop, show at_ + (q - at_) = q by omega]
    rw [← this, h, List.getElem?_append_left (by rw [t.flat_length]; omega)]
  rw [e] at hz
  rcases flat_get t at_ up _ z hz with ⟨h3, h4⟩ | ⟨h3, h4, h5⟩
  · exact .inl ⟨by omega, h4⟩
  · exact .inr ⟨by omega, h4, by omega⟩
theorem seg_len {L rest : List Nd} {t : Pt} {at_ : Nat} {up : Int} (h : L.drop at_ = t.flat at_ up ++ rest) : at_ + t.size ≤ L.length := by
  have := congrArg List.length h
  have hp := t.size_pos
  simp only [List.length_drop, List.length_append, t.flat_length] at this
  omega
inductive Anc (L : List Nd) : Nat → Nat → Prop where
  | refl (q : Nat) : Anc L q q
  | up {a q b : Nat} {x : Nd} (hx : L[q]? = some x) (hu : x.u = (b : Int)) (h : Anc L a b) : Anc L a q
def UpAll (L : List Nd) : Prop := ∀ (j : Nat) (x : Nd), L[j]? = some x → -1 ≤ x.u ∧ x.u < j
theorem Anc.le {L : List Nd} (hU : UpAll L) {a q : Nat} (h : Anc L a q) : a ≤ q := by
  induction h with
  | refl => exact Nat.le_refl _
  | up hx hu h ih =>
    have := (hU _ _ hx).2
    omega
theorem Anc.trans {L : List Nd} {a b c : Nat} (h : Anc L a b) (k : Anc L b c) : Anc L a c := by
  induction k with
  | refl => exact h
  | up hx hu _ ih => exact .up hx hu ih
theorem around_anc {L : List Nd} : ∀ (f : Nat) (q : Nat) (u : Int), aroundP L f q u = true → ∃ a : Nat, u = a ∧ Anc L a q
  | 0, q, u, h => by cases h
  | f + 1, q, u, h => by
    simp only [aroundP] at h
    rw [if_pos (by omega)] at h
    split at h
    · rename_i he
      exact ⟨q, he.symm, .refl q⟩
    · rw [show ((q : Int)).toNat = q by simp] at h
      cases hx : L[q]? with
      | none => rw [hx] at h; cases h
      | some x =>
        rw [hx] at h
        simp only at h
        by_cases hn : 0 ≤ x.u
        · obtain ⟨b, hb⟩ : ∃ b : Nat, x.u = b := ⟨x.u.toNat, by omega⟩
          rw [hb] at h
          obtain ⟨a, h1, h2⟩ := around_anc f b u h
          exact ⟨a, h1, .up hx hb h2⟩
        · cases f with
          | zero => cases h
          | succ f => simp only [aroundP] at h; rw [if_neg hn] at h; cases h
theorem anc_around {L : List Nd} (hU : UpAll L) {a q : Nat} (h : Anc L a q) : ∀ f : Nat, q < f → aroundP L f q a = true := by
  induction h with
  | refl =>
    intro f hf
    obtain ⟨f, rfl⟩ : ∃ g, f = g + 1 := ⟨f - 1, by omega⟩
    simp only [aroundP]
    rw [if_pos (by omega)]
    simp
  | @up q b x hx hu h ih =>
    intro f hf
    obtain ⟨f, rfl⟩ : ∃ g, f = g + 1 := ⟨f - 1, by omega⟩
    have := (hU _ _ hx).2
    simp only [aroundP]
    rw [if_pos (by omega)]
    split
    · rfl
    · rw [show ((q : Int)).toNat = q by simp, hx]
      simp only
      rw [hu]
      exact ih f (by omega)
theorem deep_fuel {L : List Nd} (hU : UpAll L) : ∀ (q : Int) (f g : Nat), q < f → q < g → -1 ≤ q → deepP L f q = deepP L g q := by
  have key : ∀ (n : Nat) (q : Int) (f g : Nat), q < n → q < f → q < g → -1 ≤ q → deepP L f q = deepP L g q := by
    intro n
    induction n with
    | zero =>
      intro q f g h0 h1 h2 h3
      have e : ∀ f : Nat, deepP L f q = 0 := fun f => by
        cases f with
        | zero => rfl
        | succ f => simp only [deepP]; rw [if_neg (by omega)]
      rw [e, e]
    | succ n ih =>
      intro q f g h0 h1 h2 h3
      by_cases hq : 0 ≤ q
      · obtain ⟨f, rfl⟩ : ∃ k, f = k + 1 := ⟨f - 1, by omega⟩
        obtain ⟨g, rfl⟩ : ∃ k, g = k + 1 := ⟨g - 1, by omega⟩
        simp only [deepP]
        rw [if_pos hq, if_pos hq]
        cases hx : L[q.toNat]? with
        | none => rfl
        | some x =>
          have := hU _ _ hx
          simp only
          rw [ih x.u f g (by omega) (by omega) (by omega) (by omega)]
      · have e : ∀ f : Nat, deepP L f q = 0 := fun f => by
          cases f with
          | zero => rfl
          | succ f => simp only [deepP]; rw [if_neg hq]
        rw [e, e]
  intro q f g h1 h2 h3
  exact key (q.toNat + 1) q f g (by omega) h1 h2 h3
/-- How deep a place is. -/
def dep (L : List Nd) (q : Int) : Nat := deepP L (q.toNat + 1) q
theorem dep_up {L : List Nd} (hU : UpAll L) {q : Nat} {x : Nd} (hx : L[q]? = some x) : dep L q = dep L x.u + 1 := by
  have := hU _ _ hx
  unfold dep
  rw [show ((q : Int)).toNat = q by simp, show deepP L (q + 1) q = if 0 ≤ (q : Int) then (match L[((q : Int)).toNat]? with | some x => deepP L q x.u + 1 | none => 0) else 0 from rfl]
  rw [if_pos (by omega), show ((q : Int)).toNat = q by simp, hx]
  simp only
  rw [deep_fuel hU x.u q (x.u.toNat + 1) (by omega) (by omega) (by omega)]
theorem dep_neg (L : List Nd) : dep L (-1) = 0 := by
  unfold dep
  simp only [deepP]
  rw [if_neg (by omega)]
theorem parts_skip {L : List Nd} {k : Nat} : ∀ {a b : Nat}, a ≤ b → (∀ q, a ≤ q → q < b → upAt L q k = false) → partsP L k b = partsP L k a
  | a, 0, h, hq => by rw [show a = 0 by omega]
  | a, b + 1, h, hq => by
    by_cases e : a = b + 1
    · rw [e]
    · simp only [partsP]
      rw [if_neg (by rw [hq b (by omega) (by omega)]; exact fun h => by cases h.2)]
      exact parts_skip (by omega) fun q h1 h2 => hq q h1 (by omega)
theorem parts_hit {L : List Nd} {k p : Nat} (h : k < p) (hu : upAt L p k = true) : partsP L k (p + 1) = partsP L k p ++ [p] := by
  simp only [partsP]
  rw [if_pos ⟨h, hu⟩]
theorem mem_parts {L : List Nd} {k : Nat} : ∀ {n q : Nat}, q ∈ partsP L k n ↔ k < q ∧ q < n ∧ upAt L q k = true
  | 0, q => by simp [partsP]
  | n + 1, q => by
    simp only [partsP]
    split
    · rename_i h
      rw [List.mem_append, mem_parts, List.mem_singleton]
      constructor
      · rintro (h1 | rfl)
        · exact ⟨h1.1, by omega, h1.2.2⟩
        · exact ⟨h.1, by omega, h.2⟩
      · rintro ⟨h1, h2, h3⟩
        by_cases e : q = n
        · exact .inr e
        · exact .inl ⟨h1, by omega, h3⟩
    · rename_i h
      rw [mem_parts]
      constructor
      · rintro ⟨h1, h2, h3⟩
        exact ⟨h1, by omega, h3⟩
      · rintro ⟨h1, h2, h3⟩
        by_cases e : q = n
        · subst e; exact (h ⟨h1, h3⟩).elim
        · exact ⟨h1, by omega, h3⟩
theorem parts_sorted {L : List Nd} {k : Nat} : ∀ n, (partsP L k n).Pairwise (· < ·)
  | 0 => by simp [partsP]
  | n + 1 => by
    simp only [partsP]
    split
    · rw [List.pairwise_append]
      refine ⟨parts_sorted n, by simp, fun a ha c hc => ?_⟩
      rw [List.mem_singleton] at hc
      have := (mem_parts.1 ha).2.1
      omega
    · exact parts_sorted n
theorem upAt_iff {L : List Nd} {q k : Nat} {x : Nd} (hx : L[q]? = some x) : upAt L q k = true ↔ x.u = (k : Int) := by
  unfold upAt
  rw [hx]
  simp
structure Fine (L : List Nd) : Prop where
  up : UpAll L
  zero : ∀ (i : Nat) (x : Nd), L[i]? = some x → (x.u = -1 ↔ i = 0)
  around : ∀ (i : Nat) (x : Nd), L[i]? = some x → 0 < i → ∃ a : Nat, x.u = a ∧ Anc L a (i - 1)
  kind : ∀ (i : Nat) (x : Nd), L[i]? = some x → 1 ≤ x.k ∧ x.k ≤ 3
  parts : ∀ (i : Nat) (x : Nd), L[i]? = some x → ((partsP L i L.length).length : Int) = x.k - 1
theorem no_more {L : List Nd} (hF : Fine L) {i p : Nat} (hip : i < p) (hp : ∀ y, L[p]? = some y → y.u < i) : ∀ q, p ≤ q → q < L.length → ¬ Anc L i q := by
  intro q
  induction q with
  | zero => intro h1 h2 h3; omega
  | succ q ih =>
    intro h1 h2 h3
    have hne : i ≠ q + 1 := by omega
    obtain ⟨x, hx⟩ : ∃ x, L[q + 1]? = some x := ⟨_, List.getElem?_eq_getElem h2⟩
    have hup : ∃ b : Nat, x.u = b ∧ Anc L i b := by
      cases h3 with
      | refl => exact (hne rfl).elim
      | up hx' hu h => rw [hx] at hx'; cases hx'; exact ⟨_, hu, h⟩
    obtain ⟨b, hb, hab⟩ := hup
    have hle := hab.le hF.up
    by_cases e : p = q + 1
    · subst e
      have := hp x hx
      omega
    · obtain ⟨a, ha, hq⟩ := hF.around (q + 1) x hx (by omega)
      have : a = b := by omega
      subst this
      exact ih (by omega) (by omega) (hab.trans hq)
theorem no_parts {L : List Nd} (hF : Fine L) {i p : Nat} (hip : i < p) (hp : ∀ y, L[p]? = some y → y.u < i) : ∀ q, p ≤ q → q ∉ partsP L i L.length := fun q hq hm => by
  obtain ⟨h1, h2, h3⟩ := mem_parts.1 hm
  obtain ⟨x, hx⟩ : ∃ x, L[q]? = some x := ⟨_, List.getElem?_eq_getElem h2⟩
  exact no_more hF hip hp q hq h2 (.up hx ((upAt_iff hx).1 h3) (.refl i))
theorem two_of {α : Type} {l : List α} (h : l.length = 2) : ∃ a b, l = [a, b] := by
  match l, h with
  | [a, b], _ => exact ⟨a, b, rfl⟩
theorem tree_of {L : List Nd} (hF : Fine L) : ∀ (f i : Nat) (x : Nd), L[i]? = some x → L.length ≤ i + f → ∃ t j, parse L f i x.u = some (t, j) ∧ ∀ y, L[j]? = some y → y.u < i
  | 0, i, x, hx, hf => by
    have := (List.getElem?_eq_some_iff.1 hx).1
    omega
  | f + 1, i, x, hx, hf => by
    have hi := (List.getElem?_eq_some_iff.1 hx).1
    obtain ⟨hk1, hk3⟩ := hF.kind i x hx
    have hpl := hF.parts i x hx
    have hpar : parse L (f + 1) i x.u = (if x.k = 1 then some (.var x.n, i + 1)
        else if x.k = 2 then (parse L f (i + 1) i).map fun r => (.lam x.n r.1, r.2)
        else if x.k = 3 then (parse L f (i + 1) i).bind fun r => (parse L f r.2 i).map fun q => (.app x.n r.1 q.1, q.2)
        else none) := by simp only [parse, hx, Option.bind_some, if_true]
    rw [hpar]
    have hmem : ∀ q y, L[q]? = some y → i < q → y.u = (i : Int) → q ∈ partsP L i L.length := fun q y hy hq hu => mem_parts.2 ⟨hq, (List.getElem?_eq_some_iff.1 hy).1, (upAt_iff hy).2 hu⟩
    have hnext : ∀ y, L[i + 1]? = some y → y.u ≤ i := fun y hy => by have := (hF.up _ _ hy).2; omega
    rcases (show x.k = 1 ∨ x.k = 2 ∨ x.k = 3 by omega) with hk | hk | hk
    · rw [if_pos hk]
      have hnil : partsP L i L.length = [] := List.eq_nil_of_length_eq_zero (by omega)
      refine ⟨_, _, rfl, fun y hy => ?_⟩
      have h1 := hnext y hy
      have h2 : y.u ≠ (i : Int) := fun e => by
        have := hmem _ y hy (by omega) e
        rw [hnil] at this
        cases this
      omega
    · rw [if_neg (by omega), if_pos hk]
      obtain ⟨p1, hp1⟩ : ∃ p1, partsP L i L.length = [p1] := List.length_eq_one_iff.1 (by omega)
      have hin : p1 ∈ partsP L i L.length := by rw [hp1]; simp
      obtain ⟨ha, hb, hc⟩ := mem_parts.1 hin
      obtain ⟨y1, hy1⟩ : ∃ y, L[i + 1]? = some y := ⟨_, List.getElem?_eq_getElem (by omega)⟩
      have hy1u : y1.u = i := by
        have h1 := hnext y1 hy1
        by_cases e : y1.u = (i : Int)
        · exact e
        · exact (no_parts hF (i := i) (p := i + 1) (by omega) (fun y hy => by rw [hy1] at hy; cases hy; omega) p1 (by omega) hin).elim
      have hp1e : p1 = i + 1 := by
        have := hmem _ y1 hy1 (by omega) hy1u
        rw [hp1, List.mem_singleton] at this
        omega
      obtain ⟨t, j, hpa, hj⟩ := tree_of hF f (i + 1) y1 hy1 (by omega)
      rw [hy1u] at hpa
      obtain ⟨_, hj2, _⟩ := parse_sound L _ _ _ _ _ hpa
      have htp := t.size_pos
      refine ⟨.lam x.n t, j, by rw [hpa]; rfl, fun y hy => ?_⟩
      have h1 := hj y hy
      have h2 : y.u ≠ (i : Int) := fun e => by
        have := hmem _ y hy (by omega) e
        rw [hp1, List.mem_singleton] at this
        omega
      omega
    · rw [if_neg (by omega), if_neg (by omega), if_pos hk]
      obtain ⟨p1, p2, hp12⟩ : ∃ p1 p2, partsP L i L.length = [p1, p2] := two_of (by omega)
      have hlt : p1 < p2 := by
        have := parts_sorted (L := L) (k := i) L.length
        rw [hp12] at this
        simpa using this
      have hin1 : p1 ∈ partsP L i L.length := by rw [hp12]; simp
      have hin2 : p2 ∈ partsP L i L.length := by rw [hp12]; simp
      obtain ⟨ha1, hb1, hc1⟩ := mem_parts.1 hin1
      obtain ⟨ha2, hb2, hc2⟩ := mem_parts.1 hin2
      obtain ⟨y1, hy1⟩ : ∃ y, L[i + 1]? = some y := ⟨_, List.getElem?_eq_getElem (by omega)⟩
      have hy1u : y1.u = i := by
        have h1 := hnext y1 hy1
        by_cases e : y1.u = (i : Int)
        · exact e
        · exact (no_parts hF (i := i) (p := i + 1) (by omega) (fun y hy => by rw [hy1] at hy; cases hy; omega) p1 (by omega) hin1).elim
      have hp1e : p1 = i + 1 := by
        have := hmem _ y1 hy1 (by omega) hy1u
        rw [hp12] at this
        simp at this
        omega
      obtain ⟨t, j, hpa, hj⟩ := tree_of hF f (i + 1) y1 hy1 (by omega)
      rw [hy1u] at hpa
      obtain ⟨hseg, hj2, hjl⟩ := parse_sound L _ _ _ _ _ hpa
      have htp := t.size_pos
      obtain ⟨z2, hz2⟩ : ∃ z, L[p2]? = some z := ⟨_, List.getElem?_eq_getElem hb2⟩
      have hz2u := (upAt_iff hz2).1 hc2
      have hp2j : ¬ p2 < j := fun hlt2 => by
        rcases seg_get hseg (q := p2) (by omega) (by omega) hz2 with ⟨h, _⟩ | ⟨_, h, _⟩ <;> omega
      obtain ⟨y2, hy2⟩ : ∃ y, L[j]? = some y := ⟨_, List.getElem?_eq_getElem (by omega)⟩
      have hy2u : y2.u = i := by
        have h1 := hj y2 hy2
        by_cases e : y2.u = (i : Int)
        · exact e
        · exact (no_parts hF (i := i) (p := j) (by omega) (fun y hy => by rw [hy2] at hy; cases hy; omega) p2 (by omega) hin2).elim
      have hp2e : p2 = j := by
        have := hmem _ y2 hy2 (by omega) hy2u
        rw [hp12] at this
        simp at this
        omega
      obtain ⟨t2, j2, hpb, hj3⟩ := tree_of hF f j y2 hy2 (by omega)
      rw [hy2u] at hpb
      obtain ⟨hseg2, hj4, hj5⟩ := parse_sound L _ _ _ _ _ hpb
      have htp2 := t2.size_pos
      refine ⟨.app x.n t t2, j2, by rw [hpa]; simp only [Option.bind_some]; rw [hpb]; rfl, fun y hy => ?_⟩
      have h1 := hj3 y hy
      obtain ⟨b, hb, hanc⟩ := hF.around j2 y hy (by omega)
      have claim : ∀ q, j ≤ q → q < j2 → Anc L b q → j ≤ b ∨ Anc L b i := by
        intro q
        induction q using Nat.strongRecOn with
        | _ q ih =>
          intro h3 h4 h5
          obtain ⟨zq, hzq⟩ : ∃ z, L[q]? = some z := ⟨_, List.getElem?_eq_getElem (by omega)⟩
          cases h5 with
          | refl => exact .inl h3
          | @up _ c zq' hz hu h6 =>
            rw [hzq] at hz
            cases hz
            rcases seg_get hseg2 (q := q) h3 (by omega) hzq with ⟨h7, h8⟩ | ⟨h7, h8, h9⟩
            · right
              have : zq.u = (i : Int) := by rw [h8]
              have : c = i := by omega
              rw [this] at h6
              exact h6
            · exact ih c (by omega) (by omega) (by omega) h6
      rcases claim (j2 - 1) (by omega) (by omega) hanc with h3 | h3
      · omega
      · have h4 := h3.le hF.up
        have h5 : y.u ≠ (i : Int) := fun e => by
          have := hmem _ y hy (by omega) e
          rw [hp12] at this
          simp at this
          omega
        omega
end Go.Den
namespace Go.Den
open Go
set_option linter.unusedVariables false
theorem seg_root {L rest : List Nd} {t : Pt} {at_ : Nat} {up : Int} (h : L.drop at_ = t.flat at_ up ++ rest) : L[at_]? = some ⟨t.kd, t.num, up⟩ := by
  have e : (L.drop at_)[0]? = L[at_]? := by rw [List.getElem?_drop]; rfl
  rw [← e, h]
  cases t <;> rfl
theorem seg_lam {L rest : List Nd} {n : Int} {t : Pt} {at_ : Nat} {up : Int} (h : L.drop at_ = (Pt.lam n t).flat at_ up ++ rest) : L.drop (at_ + 1) = t.flat (at_ + 1) at_ ++ rest :=
  (get_drop (l := t.flat (at_ + 1) at_ ++ rest) (x := ⟨2, n, up⟩) (by rw [h]; rfl)).2
theorem seg_app {L rest : List Nd} {n : Int} {a b : Pt} {at_ : Nat} {up : Int} (h : L.drop at_ = (Pt.app n a b).flat at_ up ++ rest) :
    L.drop (at_ + 1) = a.flat (at_ + 1) at_ ++ (b.flat (at_ + 1 + a.size) at_ ++ rest) ∧ L.drop (at_ + 1 + a.size) = b.flat (at_ + 1 + a.size) at_ ++ rest := by
  have h1 := (get_drop (l := a.flat (at_ + 1) at_ ++ (b.flat (at_ + 1 + a.size) at_ ++ rest)) (x := ⟨3, n, up⟩) (by rw [h]; simp [Pt.flat])).2
  exact ⟨h1, drop_add h1 (a.flat_length _ _)⟩
theorem seg_anc {L rest : List Nd} {t : Pt} {at_ : Nat} {up : Int} (h : L.drop at_ = t.flat at_ up ++ rest) : ∀ q, at_ ≤ q → q < at_ + t.size → Anc L at_ q := by
  intro q
  induction q using Nat.strongRecOn with
  | _ q ih =>
    intro h1 h2
    have hl := seg_len h
    obtain ⟨z, hz⟩ : ∃ z, L[q]? = some z := ⟨_, List.getElem?_eq_getElem (by omega)⟩
    rcases seg_get h h1 h2 hz with ⟨rfl, _⟩ | ⟨h3, h4, h5⟩
    · exact .refl _
    · exact .up (b := z.u.toNat) hz (by omega) (ih _ (by omega) (by omega) (by omega))
def Pt.places : Pt → Nat → List Nat
  | .var _, _ => []
  | .lam _ _, at_ => [at_ + 1]
  | .app _ a _, at_ => [at_ + 1, at_ + 1 + a.size]
/-- Nobody behind a segment names a place in it. -/
def Apart (L : List Nd) (at_ n : Nat) : Prop := ∀ (q : Nat) (y : Nd), L[q]? = some y → at_ + n ≤ q → y.u < at_ ∨ (at_ + n : Int) ≤ y.u
theorem apart_lam {L rest : List Nd} {n : Int} {t : Pt} {at_ : Nat} {up : Int} (h3 : Apart L at_ (Pt.lam n t).size) : Apart L (at_ + 1) t.size := fun q y hy hq => by
  have := h3 q y hy (by simp only [Pt.size]; omega)
  simp only [Pt.size] at this
  omega
theorem apart_a {L rest : List Nd} {n : Int} {a b : Pt} {at_ : Nat} {up : Int} (h : L.drop at_ = (Pt.app n a b).flat at_ up ++ rest) (h3 : Apart L at_ (Pt.app n a b).size) : Apart L (at_ + 1) a.size := fun q y hy hq => by
  by_cases hb : q < at_ + 1 + a.size + b.size
  · rcases seg_get (seg_app h).2 (by omega) hb hy with ⟨_, rfl⟩ | ⟨_, h5, _⟩
    · left; simp only; omega
    · right; omega
  · have := h3 q y hy (by simp only [Pt.size]; omega)
    simp only [Pt.size] at this
    omega
theorem apart_b {L : List Nd} {n : Int} {a b : Pt} {at_ : Nat} (h3 : Apart L at_ (Pt.app n a b).size) : Apart L (at_ + 1 + a.size) b.size := fun q y hy hq => by
  have := h3 q y hy (by simp only [Pt.size]; omega)
  simp only [Pt.size] at this
  omega
theorem upAt_no {L : List Nd} {q k : Nat} (h : ∀ y, L[q]? = some y → y.u ≠ (k : Int)) : upAt L q k = false := by
  cases hy : L[q]? with
  | none => unfold upAt; rw [hy]
  | some y => cases hb : upAt L q k with
    | false => rfl
    | true => exact (h y hy ((upAt_iff hy).1 hb)).elim
theorem seg_parts {L rest : List Nd} {t : Pt} {at_ : Nat} {up : Int} (h : L.drop at_ = t.flat at_ up ++ rest) (h3 : Apart L at_ t.size) : partsP L at_ L.length = t.places at_ := by
  have hl := seg_len h
  have hlow := partsP_low L at_ (at_ + 1) (by omega)
  have hbeh : ∀ q, at_ + t.size ≤ q → upAt L q at_ = false := fun q hq => upAt_no fun y hy => by
    have := h3 q y hy hq
    have := t.size_pos
    omega
  cases t with
  | var n =>
    rw [parts_skip (a := at_ + 1) (by simp only [Pt.size] at hl; omega) fun q h1 _ => hbeh q (by simp only [Pt.size]; omega), hlow]
    rfl
  | lam n t =>
    have hs := seg_lam h
    have hp := t.size_pos
    simp only [Pt.size] at hl
    have hhit := parts_hit (L := L) (k := at_) (p := at_ + 1) (by omega) ((upAt_iff (seg_root hs)).2 rfl)
    rw [parts_skip (a := at_ + 1 + 1) (by omega) fun q h1 h2 => ?_, hhit, hlow]
    · rfl
    · by_cases hq : q < at_ + 1 + t.size
      · refine upAt_no fun y hy => ?_
        rcases seg_get hs (by omega) hq hy with ⟨h5, _⟩ | ⟨_, h5, _⟩ <;> omega
      · exact hbeh q (by simp only [Pt.size]; omega)
  | app n a b =>
    have hs := (seg_app h).1
    have hs2 := (seg_app h).2
    have hp := a.size_pos
    have hp2 := b.size_pos
    simp only [Pt.size] at hl
    have hhit := parts_hit (L := L) (k := at_) (p := at_ + 1) (by omega) ((upAt_iff (seg_root hs)).2 rfl)
    have hhit2 := parts_hit (L := L) (k := at_) (p := at_ + 1 + a.size) (by omega) ((upAt_iff (seg_root hs2)).2 rfl)
    rw [parts_skip (a := at_ + 1 + a.size + 1) (by omega) fun q h1 h2 => ?_, hhit2, parts_skip (a := at_ + 1 + 1) (by omega) fun q h1 h2 => ?_, hhit, hlow]
    · rfl
    · refine upAt_no fun y hy => ?_
      rcases seg_get hs (by omega) (by omega) hy with ⟨h5, _⟩ | ⟨_, h5, _⟩ <;> omega
    · by_cases hq : q < at_ + 1 + a.size + b.size
      · refine upAt_no fun y hy => ?_
        rcases seg_get hs2 (by omega) hq hy with ⟨h5, _⟩ | ⟨_, h5, _⟩ <;> omega
      · exact hbeh q (by simp only [Pt.size]; omega)
theorem places_length (t : Pt) (at_ : Nat) : ((t.places at_).length : Int) = t.kd - 1 := by cases t <;> rfl
theorem chk_iff {L : List Nd} {i : Nat} {x : Nd} : chk L i x = true ↔ shapeP L i x = true ∧ (1 ≤ x.k ∧ x.k ≤ 3) ∧ (i = 0 ∨ aroundP L i ((i : Int) - 1) x.u = true) ∧ dep L i ≤ 40 ∧ ((partsP L i L.length).length : Int) = x.k - 1 ∧ numP x = true := by
  unfold chk dep
  simp only [Bool.and_eq_true, Bool.or_eq_true, decide_eq_true_eq, show ((i : Int)).toNat = i by simp, show ((i : Int) = 0) = (i = 0) by simp]
theorem goodS_iff {L : List Nd} : goodS L = true ↔ (1 ≤ L.length ∧ L.length ≤ 150) ∧ ∀ i x, L[i]? = some x → chk L i x = true := by
  unfold goodS
  simp only [Bool.and_eq_true, decide_eq_true_eq, List.all_eq_true, List.mem_range]
  constructor
  · rintro ⟨⟨h1, h2⟩, h3⟩
    refine ⟨⟨by omega, by omega⟩, fun i x hx => ?_⟩
    have := h3 i (List.getElem?_eq_some_iff.1 hx).1
    unfold chkAt at this
    rw [hx] at this
    exact this
  · rintro ⟨⟨h1, h2⟩, h3⟩
    refine ⟨⟨by omega, by omega⟩, fun i hi => ?_⟩
    have hx := List.getElem?_eq_getElem hi
    unfold chkAt
    rw [hx]
    exact h3 i _ hx
theorem fine_of {L : List Nd} (h : goodS L = true) : Fine L := by
  obtain ⟨_, h⟩ := goodS_iff.1 h
  have hs : ∀ (i : Nat) (x : Nd), L[i]? = some x → ((i : Int) = 0 ↔ x.u = -1) ∧ -1 ≤ x.u ∧ x.u ≤ (i : Int) - 1 := fun i x hx => by
    have h1 := (chk_iff.1 (h i x hx)).1
    unfold shapeP at h1
    simp only [Bool.and_eq_true, decide_eq_true_eq, beq_iff_eq, decide_eq_decide] at h1
    exact h1
  refine ⟨fun i x hx => ?_, fun i x hx => ?_, fun i x hx hi => ?_, fun i x hx => (chk_iff.1 (h i x hx)).2.1, fun i x hx => (chk_iff.1 (h i x hx)).2.2.2.2.1⟩
  · have := hs i x hx
    omega
  · have := (hs i x hx).1
    omega
  · rcases (chk_iff.1 (h i x hx)).2.2.1 with h1 | h1
    · omega
    · rw [show (i : Int) - 1 = ((i - 1 : Nat) : Int) by omega] at h1
      exact around_anc _ _ _ h1
theorem nums_of : ∀ (t : Pt) (at_ : Nat) (up : Int), (∀ z ∈ t.flat at_ up, numP z = true) → t.nums = true
  | .var n, at_, up, h => by
    have := h ⟨1, n, up⟩ (by simp [Pt.flat])
    simpa [numP, Pt.nums] using this
  | .lam n t, at_, up, h => by
    have h1 := h ⟨2, n, up⟩ (by simp [Pt.flat])
    have h2 := nums_of t _ _ fun z hz => h z (by simp only [Pt.flat]; exact List.mem_cons_of_mem _ hz)
    simp [numP] at h1
    simp [Pt.nums, h2, h1.2]
  | .app n a b, at_, up, h => by
    have h1 := h ⟨3, n, up⟩ (by simp [Pt.flat])
    have h2 := nums_of a _ _ fun z hz => h z (by simp only [Pt.flat]; exact List.mem_cons_of_mem _ (List.mem_append_left _ hz))
    have h3 := nums_of b _ _ fun z hz => h z (by simp only [Pt.flat]; exact List.mem_cons_of_mem _ (List.mem_append_right _ hz))
    simp [numP] at h1
    simp [Pt.nums, h2, h3, h1.2]
theorem seg_dep {L : List Nd} (hU : UpAll L) : ∀ (t : Pt) (at_ : Nat) (up : Int) (rest : List Nd), L.drop at_ = t.flat at_ up ++ rest → ∃ q, at_ ≤ q ∧ q < at_ + t.size ∧ dep L q + 1 = dep L at_ + t.depth
  | .var n, at_, up, rest, h => ⟨at_, by omega, by simp [Pt.size], rfl⟩
  | .lam n t, at_, up, rest, h => by
    have hs := seg_lam h
    obtain ⟨q, h1, h2, h3⟩ := seg_dep hU t _ _ _ hs
    have := dep_up hU (seg_root hs)
    simp only at this
    exact ⟨q, by omega, by simp only [Pt.size]; omega, by simp only [Pt.depth]; omega⟩
  | .app n a b, at_, up, rest, h => by
    have hs := seg_app h
    have e1 := dep_up hU (seg_root hs.1)
    have e2 := dep_up hU (seg_root hs.2)
    simp only at e1 e2
    by_cases hd : b.depth ≤ a.depth
    · obtain ⟨q, h1, h2, h3⟩ := seg_dep hU a _ _ _ hs.1
      exact ⟨q, by omega, by simp only [Pt.size]; omega, by simp only [Pt.depth]; omega⟩
    · obtain ⟨q, h1, h2, h3⟩ := seg_dep hU b _ _ _ hs.2
      exact ⟨q, by omega, by simp only [Pt.size]; omega, by simp only [Pt.depth]; omega⟩
theorem tree_good {L : List Nd} (h : goodS L = true) : ∃ t : Pt, t.good = true ∧ L = t.flat 0 (-1) := by
  have hF := fine_of h
  obtain ⟨⟨hl1, hl2⟩, hc⟩ := goodS_iff.1 h
  obtain ⟨x, hx⟩ : ∃ x, L[0]? = some x := ⟨_, List.getElem?_eq_getElem (by omega)⟩
  obtain ⟨t, j, hp, hj⟩ := tree_of hF L.length 0 x hx (by omega)
  rw [(hF.zero 0 x hx).2 rfl] at hp
  obtain ⟨h1, h2, h3⟩ := parse_sound L _ _ _ _ _ hp
  have hpos := t.size_pos
  have hjl : j = L.length := by
    by_cases e : j = L.length
    · exact e
    · obtain ⟨y, hy⟩ : ∃ y, L[j]? = some y := ⟨_, List.getElem?_eq_getElem (by omega)⟩
      have h4 := hj y hy
      have h5 := (hF.up j y hy).1
      have := (hF.zero j y hy).1 (by omega)
      omega
  rw [hjl, List.drop_length, List.append_nil, List.drop_zero] at h1
  refine ⟨t, ?_, h1⟩
  have hd : L.drop 0 = t.flat 0 (-1) ++ [] := by rw [List.drop_zero, List.append_nil]; exact h1
  obtain ⟨q, _, h6, h7⟩ := seg_dep hF.up t 0 (-1) [] hd
  obtain ⟨z, hz⟩ : ∃ z, L[q]? = some z := ⟨_, List.getElem?_eq_getElem (by omega)⟩
  have h8 := (chk_iff.1 (hc q z hz)).2.2.2.1
  have h9 := dep_up hF.up (seg_root hd)
  unfold Pt.good
  simp only [Bool.and_eq_true, decide_eq_true_eq]
  refine ⟨by omega, by simp only [dep_neg] at h9; omega, nums_of t 0 (-1) fun w hw => ?_⟩
  rw [← h1] at hw
  obtain ⟨i, hi⟩ := List.getElem?_of_mem hw
  exact (chk_iff.1 (hc i w hi)).2.2.2.2.2
theorem root_chk {L rest : List Nd} (hU : UpAll L) {t : Pt} {at_ : Nat} {up : Int} (h : L.drop at_ = t.flat at_ up ++ rest)
    (h1 : (at_ = 0 ∧ up = -1) ∨ ∃ p : Nat, up = p ∧ 0 < at_ ∧ Anc L p (at_ - 1)) (h2 : dep L up + t.depth ≤ 40) (hn : t.nums = true) (h3 : Apart L at_ t.size) : chk L at_ ⟨t.kd, t.num, up⟩ = true := by
  have hr := seg_root h
  have hpos := t.depth_pos
  refine chk_iff.2 ⟨?_, ?_, ?_, ?_, ?_, ?_⟩
  · have := hU _ _ hr
    simp only at this
    unfold shapeP
    simp only [Bool.and_eq_true, decide_eq_true_eq, beq_iff_eq, decide_eq_decide]
    refine ⟨?_, by omega, by omega⟩
    rcases h1 with ⟨rfl, rfl⟩ | ⟨p, rfl, hp, _⟩ <;> omega
  · cases t <;> simp only [Pt.kd] <;> omega
  · rcases h1 with ⟨rfl, _⟩ | ⟨p, rfl, hp, ha⟩
    · exact .inl rfl
    · right
      rw [show (at_ : Int) - 1 = ((at_ - 1 : Nat) : Int) by omega]
      exact anc_around hU ha _ (by omega)
  · have := dep_up hU hr
    simp only at this
    omega
  · rw [seg_parts h h3]
    exact places_length t at_
  · cases t <;> simp [Pt.nums] at hn <;> simp [numP, Pt.kd, Pt.num, hn]
theorem seg_chk {L : List Nd} (hU : UpAll L) : ∀ (t : Pt) (at_ : Nat) (up : Int) (rest : List Nd), L.drop at_ = t.flat at_ up ++ rest →
    ((at_ = 0 ∧ up = -1) ∨ ∃ p : Nat, up = p ∧ 0 < at_ ∧ Anc L p (at_ - 1)) → dep L up + t.depth ≤ 40 → t.nums = true → Apart L at_ t.size → ∀ i x, at_ ≤ i → i < at_ + t.size → L[i]? = some x → chk L i x = true
  | .var n, at_, up, rest, h, h1, h2, hn, h3, i, x, hi, hi2, hx => by
    rcases seg_get h hi hi2 hx with ⟨rfl, rfl⟩ | ⟨h4, _, _⟩
    · exact root_chk hU h h1 h2 hn h3
    · simp only [Pt.size] at hi2; omega
  | .lam n t, at_, up, rest, h, h1, h2, hn, h3, i, x, hi, hi2, hx => by
    rcases seg_get h hi hi2 hx with ⟨rfl, rfl⟩ | ⟨h4, _, _⟩
    · exact root_chk hU h h1 h2 hn h3
    · have hd := dep_up hU (seg_root h)
      simp only [Pt.depth, Pt.size, Pt.nums, Bool.and_eq_true] at h2 hi2 hn hd
      exact seg_chk hU t (at_ + 1) at_ rest (seg_lam h) (.inr ⟨at_, rfl, by omega, .refl _⟩) (by omega) hn.2 (apart_lam (rest := rest) (up := up) h3) i x (by omega) (by omega) hx
  | .app n a b, at_, up, rest, h, h1, h2, hn, h3, i, x, hi, hi2, hx => by
    rcases seg_get h hi hi2 hx with ⟨rfl, rfl⟩ | ⟨h4, _, _⟩
    · exact root_chk hU h h1 h2 hn h3
    · have hd := dep_up hU (seg_root h)
      have hpa := a.size_pos
      have ha := seg_app h
      simp only [Pt.depth, Pt.size, Pt.nums, Bool.and_eq_true] at h2 hi2 hn hd
      by_cases hb : i < at_ + 1 + a.size
      · exact seg_chk hU a (at_ + 1) at_ _ ha.1 (.inr ⟨at_, rfl, by omega, .refl _⟩) (by omega) hn.2.1 (apart_a h h3) i x (by omega) (by omega) hx
      · refine seg_chk hU b (at_ + 1 + a.size) at_ rest ha.2 (.inr ⟨at_, rfl, by omega, ?_⟩) (by omega) hn.2.2 (apart_b h3) i x (by omega) (by omega) hx
        have h5 := seg_anc ha.1 (at_ + 1 + a.size - 1) (by omega) (by omega)
        exact Anc.trans (.up (seg_root ha.1) rfl (.refl _)) h5
theorem flat_up {t : Pt} : UpAll (t.flat 0 (-1)) := fun j x hx => by
  rcases flat_get t 0 (-1) j x hx with ⟨rfl, rfl⟩ | ⟨h1, h2, h3⟩
  · exact ⟨by simp, by simp⟩
  · omega
theorem flat_apart {t : Pt} : Apart (t.flat 0 (-1)) 0 t.size := fun q y hy hq => by
  have := (List.getElem?_eq_some_iff.1 hy).1
  rw [t.flat_length] at this
  omega
theorem flat_drop (t : Pt) : (t.flat 0 (-1)).drop 0 = t.flat 0 (-1) ++ [] := by rw [List.drop_zero, List.append_nil]
theorem good_tree {t : Pt} (h : t.good = true) : goodS (t.flat 0 (-1)) = true := by
  unfold Pt.good at h
  simp only [Bool.and_eq_true, decide_eq_true_eq] at h
  have hpos := t.size_pos
  refine goodS_iff.2 ⟨⟨by rw [t.flat_length]; omega, by rw [t.flat_length]; omega⟩, fun i x hx => ?_⟩
  have := (List.getElem?_eq_some_iff.1 hx).1
  rw [t.flat_length] at this
  exact seg_chk flat_up t 0 (-1) [] (flat_drop t) (.inl ⟨rfl, rfl⟩) (by rw [dep_neg]; omega) h.2.2 flat_apart i x (by omega) (by omega) hx
/-- What the reference holds for good is what the program reads as a term. -/
theorem goodS_term (L : List Nd) : goodS L = (termOfP L).isSome := by
  cases h : termOfP L with
  | some t =>
    obtain ⟨h1, h2⟩ := (termOfP_iff L t).1 h
    rw [h2]
    exact good_tree h1
  | none =>
    cases hg : goodS L with
    | false => rfl
    | true =>
      obtain ⟨t, h1, h2⟩ := tree_good hg
      rw [(termOfP_iff L t).2 ⟨h1, h2⟩] at h
      cases h
end Go.Den
namespace Go.Den
open Go
set_option linter.unusedVariables false
set_option maxRecDepth 100000
theorem kid_seg {L rest : List Nd} {t : Pt} {at_ : Nat} {up : Int} (h : L.drop at_ = t.flat at_ up ++ rest) (h3 : Apart L at_ t.size) {i : Nat} (hi : i < t.kids.length) :
    ∃ (x : Pt) (p : Nat) (r : List Nd), t.kids[i]? = some x ∧ x ∈ t.kids ∧ (t.places at_)[i]? = some p ∧ L.drop p = x.flat p at_ ++ r ∧ Apart L p x.size := by
  cases t with
  | var n => simp [Pt.kids] at hi
  | lam n t =>
    have : i = 0 := by simp [Pt.kids] at hi; omega
    subst this
    exact ⟨t, at_ + 1, rest, rfl, by simp [Pt.kids], rfl, seg_lam h, apart_lam (rest := rest) (up := up) h3⟩
  | app n a b =>
    match i, hi with
    | 0, _ => exact ⟨a, at_ + 1, _, rfl, by simp [Pt.kids], rfl, (seg_app h).1, apart_a h h3⟩
    | 1, _ => exact ⟨b, at_ + 1 + a.size, _, rfl, by simp [Pt.kids], rfl, (seg_app h).2, apart_b h3⟩
    | i + 2, hi => simp [Pt.kids] at hi; omega
theorem places_kids (t : Pt) (at_ : Nat) : (t.places at_).length = t.kids.length := by cases t <;> rfl
theorem ev_lcTree (L : List Nd) (b : Bool) (hL : L.length ≤ 1000000) (N : Nat) (hN : 1000012 ≤ N) : ∀ (d : Nat) (t : Pt) (at_ : Nat) (up : Int) (rest : List Nd), t.depth ≤ d → L.drop at_ = t.flat at_ up ++ rest → Apart L at_ t.size →
    EvN (d + N) 23 [.dat (.lst b (L.map Nd.d)), .dat (I at_)] [] [] ([.dat t.d], [], [])
  | 0, t, at_, up, rest, hd, h, h3 => by have := t.depth_pos; omega
  | d + 1, t, at_, up, rest, hd, h, h3 => by
    refine EvN.mono (ev_fn Go.Proofs.Tryz.f23 (d + N) (by kernel_rfl) (by kernel_rfl) fun kk hkk => ?_) (by omega)
    have hl := seg_len h
    have hp := t.size_pos
    have hr := nd_at (seg_root h)
    have hparts := ev_lcParts L b at_ hL (by omega) kk (by omega)
    rw [seg_parts h h3] at hparts
    have hle := t.kids_le
    have hpk := places_kids t at_
    rw [Pt.d_eq]
    refine lcTree kk b (L.map Nd.d) at_ t.kd t.num up ((t.places at_).map IN) (t.kids.map Pt.d) hr hr hparts ?_
    let st := fun i : Nat => hd48 b (L.map Nd.d) t.kd t.num ((t.places at_).map IN) i ((t.kids.take i).map Pt.d)
    refine loopAt_range st t.kids.length (by omega) (fun i hi m s K hs hn => ?_) (fun m s K hs hK => ?_) (by simp [st])
    · obtain ⟨x, p, r, h1, h2, h4, h5, h6⟩ := kid_seg h h3 hi
      have hx := Pt.kids_lt h2
      have hto : ((i : Int)).toNat = i := by simp
      have hev := ev_lcTree L b hL N hN d x p at_ r (by omega) h5 h6 kk (by omega)
      rw [Pt.d_eq] at hev
      refine lcTree_go kk m b _ t.kd t.num _ i p x.kd x.num _ _ hs (decide_eq_true (by simp; omega)) ⟨by omega, by simp; omega⟩ (by rw [hto, List.getElem?_map, h4]; rfl) hev (by simp; omega) fun s' hs' => hn s' ?_
      have hstep : (t.kids.take (i + 1)).map Pt.d = (t.kids.take i).map Pt.d ++ [T x.kd x.num (x.kids.map Pt.d)] := by
        rw [List.take_add_one, h1, List.map_append, ← Pt.d_eq]
        rfl
      rw [hs', w64_eq (n := (i : Int) + 1) (by omega)]
      simp only [st, hd48, hstep]
      rfl
    · have hs' : s.norm _ = hd48 b (L.map Nd.d) t.kd t.num ((t.places at_).map IN) t.kids.length ((t.kids.take t.kids.length).map Pt.d) := hs
      rw [List.take_length] at hs'
      exact lcTree_end kk m b _ t.kd t.num _ _ _ hs' (decide_eq_false (by simp; omega)) hK
theorem ev_tree {L : List Nd} {t : Pt} (b : Bool) (h : termOfP L = some t) : EvN 1000100 23 [.dat (.lst b (L.map Nd.d)), .dat (I 0)] [] [] ([.dat t.d], [], []) := by
  obtain ⟨h1, h2⟩ := (termOfP_iff L t).1 h
  have hg := good_facts h1
  subst h2
  exact (ev_lcTree _ b (by rw [t.flat_length]; omega) 1000012 (Nat.le_refl _) t.depth t 0 (-1) [] (Nat.le_refl _) (flat_drop t) flat_apart).mono (by omega)
theorem flat_inj {t s : Pt} (h : t.flat 0 (-1) = s.flat 0 (-1)) : t = s := by
  have h1 := parse_flat (t.flat 0 (-1)) t t.size 0 (-1) [] (flat_drop t) (Nat.le_refl _)
  have hsz : t.size = s.size := by rw [← t.flat_length 0 (-1), h, s.flat_length]
  have h2 := parse_flat (t.flat 0 (-1)) s t.size 0 (-1) [] (by rw [h]; exact flat_drop s) (by omega)
  rw [h1] at h2
  injection h2 with h2
  injection h2
theorem goodS_flat (t : Pt) : goodS (t.flat 0 (-1)) = t.good := by
  cases hg : t.good with
  | true => exact good_tree hg
  | false =>
    cases h : goodS (t.flat 0 (-1)) with
    | false => rfl
    | true =>
      obtain ⟨s, h1, h2⟩ := tree_good h
      rw [flat_inj h2, h1] at hg
      cases hg
theorem ev_lcTold (t : Pt) (hz : t.size ≤ 1000000) : EvN (t.depth + 1000210) 32 [.dat t.d] [] [] ([.own 60 ((if t.good = true then t.flat 0 (-1) else []).map Nd.d), .dat (B t.good)], [], []) := by
  refine ev_fn Go.Proofs.Tryz.f32 (t.depth + 1000209) (by kernel_rfl) (by kernel_rfl) fun kk hkk => ?_
  have h1 := ev_lcFlat t.depth t [] (-1) (Nat.le_refl _) (by simp) (by omega) kk (by omega)
  have hb := (flatS_facts t [] (-1) (by simp)).2
  have h2 := ev_GoodTerm (flatS t [] (-1)) true (by simp at hb; omega) kk (by omega)
  have hgood : goodS (flatS t [] (-1)) = t.good := by
    by_cases hs : t.size ≤ 150
    · rw [flatS_small hs, goodS_flat]
    · have h3 := flatS_big (t := t) (by omega)
      have : t.good = false := by
        cases hg : t.good with
        | false => rfl
        | true => exact (hs (good_facts hg).1).elim
      rw [this]
      cases hg : goodS (flatS t [] (-1)) with
      | false => rfl
      | true => have := (goodS_iff.1 hg).1.2; omega
  rw [hgood] at h2
  rw [Pt.d_eq] at h1 ⊢
  cases hg : t.good with
  | true =>
    rw [hg] at h2
    rw [flatS_small (good_facts hg).1] at h1 h2
    rw [if_pos rfl]
    exact lcTold_yes kk _ _ _ _ h1 h2
  | false =>
    rw [hg] at h2
    rw [if_neg (fun h => by cases h)]
    exact lcTold_no kk _ _ _ _ h1 h2
end Go.Den
namespace Go.Den
open Go
set_option linter.unusedVariables false
theorem wt_int {n : Nat} {d : Dat} {i : TI} {k : IntKind} (h : WT cfg.ty n d) (ht : cfg.ty n = some i) (hk : i.kind = .int k) : ∃ x : Int, d = .val (.int k x) ∧ (Lit.int k x).wf = true := by
  cases h with
  | @int _ i' k' x ht' hk' hw => rw [ht] at ht'; cases ht'; rw [hk] at hk'; cases hk'; exact ⟨x, rfl, hw⟩
  | bool ht' hk' => rw [ht] at ht'; cases ht'; rw [hk] at hk'; cases hk'
  | str ht' hk' => rw [ht] at ht'; cases ht'; rw [hk] at hk'; cases hk'
  | lst ht' hk' => rw [ht] at ht'; cases ht'; rw [hk] at hk'; cases hk'
  | agg ht' hk' => rw [ht] at ht'; cases ht'; rw [hk] at hk'; cases hk'
theorem wt_lst {n e : Nat} {d : Dat} {i : TI} (h : WT cfg.ty n d) (ht : cfg.ty n = some i) (hk : i.kind = .slice e) : ∃ es : List Dat, d = .lst false es ∧ es.length ≤ maxLen ∧ ∀ x ∈ es, WT cfg.ty e x := by
  cases h with
  | int ht' hk' => rw [ht] at ht'; cases ht'; rw [hk] at hk'; cases hk'
  | bool ht' hk' => rw [ht] at ht'; cases ht'; rw [hk] at hk'; cases hk'
  | str ht' hk' => rw [ht] at ht'; cases ht'; rw [hk] at hk'; cases hk'
  | @lst _ i' e' es ht' hk' hl hx => rw [ht] at ht'; cases ht'; rw [hk] at hk'; cases hk'; exact ⟨es, rfl, hl, hx⟩
  | agg ht' hk' => rw [ht] at ht'; cases ht'; rw [hk] at hk'; cases hk'
theorem nds_clean : ∀ L : List Nd, Dat.cleans (L.map Nd.d) = true
  | [] => rfl
  | x :: L => by
    have := nds_clean L
    simp only [List.map_cons, Dat.cleans, this, Bool.and_true]
    rfl
theorem own_clean (L : List Nd) (r : Bool) : D.cleans [.own 60 (L.map Nd.d), .dat (B r)] = true := by
  simp only [D.cleans, D.clean, nds_clean]
  rfl
end Go.Den
namespace Go.Den
open Go
set_option linter.unusedVariables false
set_option maxRecDepth 100000
theorem next_in (kk : Nat) (cs : List Dat) (p s : Int) (x : Int) (h1 : decide (p < (cs.length : Int)) = true) (h2 : (0 ≤ p ∧ p < (cs.length : Int)) ∧ cs[p.toNat]? = some (Dat.val (Value.int IntKind.u8 x))) (h3 : decide (w64 (p + 1) ≤ (cs.length : Int)) = true) : runFn cfg kk (den cfg kk) 46 Go.Proofs.Tryz.f46 [.ptr (.up 0) 0] [[.dat (.lst false cs), .dat (I p), .dat (U64 s)]] [] = some ([D.dat (I (w64 x))], [[D.dat (Dat.lst false cs), D.dat (I (w64 (p + 1))), D.dat (Dat.val (Value.int IntKind.u64 (IntKind.u64.wrap (IntKind.u64.wrap (IntKind.u64.wrap (s * 6364136223846793005) + IntKind.u64.wrap (w64 x)) + 1442695040888963407))))]], []) :=
  hrun_ok [(200013, .yes), (22, .at (Y8 x)), (200053, .yes)] (ob h1 (ob h2 (ob h3 ob0))) (by kernel_rfl)
theorem next_out (kk : Nat) (cs : List Dat) (p s : Int) (h1 : decide (p < (cs.length : Int)) = false) (h2 : decide (w64 (p + 1) ≤ (cs.length : Int)) = false) : runFn cfg kk (den cfg kk) 46 Go.Proofs.Tryz.f46 [.ptr (.up 0) 0] [[.dat (.lst false cs), .dat (I p), .dat (U64 s)]] [] = some ([D.dat (Dat.val (Value.int IntKind.i64 (w64 (IntKind.u64.wrap ((BitVec.ofInt IntKind.u64.bits ((IntKind.u64.wrap (IntKind.u64.wrap (IntKind.u64.wrap (s * 6364136223846793005) + IntKind.u64.wrap 0) + 1442695040888963407)).fdiv (2 ^ min (Int.toNat 40) IntKind.u64.bits)) &&& BitVec.ofInt IntKind.u64.bits 255).toNat : Int)))))], [[D.dat (Dat.lst false cs), D.dat (I (w64 (p + 1))), D.dat (Dat.val (Value.int IntKind.u64 (IntKind.u64.wrap (IntKind.u64.wrap (IntKind.u64.wrap (s * 6364136223846793005) + IntKind.u64.wrap 0) + 1442695040888963407))))]], []) :=
  hrun_ok [(200013, .no), (200053, .no)] (ob h1 (ob h2 ob0)) (by kernel_rfl)
theorem pick_0 (kk : Nat) (cs : List Dat) (p s : Int) (n : Int) (h1 : decide (n ≤ 1) = true) : runFn cfg kk (den cfg kk) 18 Go.Proofs.Tryz.f18 [.ptr (.up 0) 0, .dat (I n)] [[.dat (.lst false cs), .dat (I p), .dat (U64 s)]] [] = some ([D.dat (I 0)], [[D.dat (Dat.lst false cs), D.dat (I p), D.dat (Dat.val (Value.int IntKind.u64 s))]], []) :=
  hrun_ok [(200007, .yes)] (ob h1 ob0) (by kernel_rfl)
theorem pick_1 (kk : Nat) (cs : List Dat) (p s : Int) (p1 s1 : Int) (n z : Int) (h1 : decide (n ≤ 1) = false) (h2 : den cfg kk 46 [D.ptr (Ref.up 0) 0] [[D.dat (Dat.lst false cs), D.dat (I p), D.dat (Dat.val (Value.int IntKind.u64 s))]] [] = some ([D.dat (I z)], [[D.dat (Dat.lst false cs), D.dat (I p1), D.dat (Dat.val (Value.int IntKind.u64 s1))]], [])) (h4 : decide (200 < n) = false) (h5 : n ≠ 0) : runFn cfg kk (den cfg kk) 18 Go.Proofs.Tryz.f18 [.ptr (.up 0) 0, .dat (I n)] [[.dat (.lst false cs), .dat (I p), .dat (U64 s)]] [] = some ([D.dat (I (z.tmod n))], [[D.dat (Dat.lst false cs), D.dat (I p1), D.dat (Dat.val (Value.int IntKind.u64 s1))]], []) :=
  hrun_ok [(200007, .no), (9, .back [.dat (I z)] [[.dat (.lst false cs), .dat (I p1), .dat (U64 s1)]] []), (200011, .no), (19, .ok)] (ob h1 (ob h2 (ob (rfl : false = false) (ob h4 (ob h5 ob0))))) (by kernel_rfl)
theorem pick_2 (kk : Nat) (cs : List Dat) (p s : Int) (p1 s1 : Int) (p2 s2 : Int) (n z w : Int) (h1 : decide (n ≤ 1) = false) (h2 : den cfg kk 46 [D.ptr (Ref.up 0) 0] [[D.dat (Dat.lst false cs), D.dat (I p), D.dat (Dat.val (Value.int IntKind.u64 s))]] [] = some ([D.dat (I z)], [[D.dat (Dat.lst false cs), D.dat (I p1), D.dat (Dat.val (Value.int IntKind.u64 s1))]], [])) (h4 : decide (200 < n) = true) (h5 : den cfg kk 46 [D.ptr (Ref.up 0) 0] [[D.dat (Dat.lst false cs), D.dat (I p1), D.dat (Dat.val (Value.int IntKind.u64 s1))]] [] = some ([D.dat (I w)], [[D.dat (Dat.lst false cs), D.dat (I p2), D.dat (Dat.val (Value.int IntKind.u64 s2))]], [])) (h7 : n ≠ 0) : runFn cfg kk (den cfg kk) 18 Go.Proofs.Tryz.f18 [.ptr (.up 0) 0, .dat (I n)] [[.dat (.lst false cs), .dat (I p), .dat (U64 s)]] [] = some ([D.dat (Dat.val (Value.int IntKind.i64 ((w64 (w64 (z * 256) + w)).tmod n)))], [[D.dat (Dat.lst false cs), D.dat (I p2), D.dat (Dat.val (Value.int IntKind.u64 s2))]], []) :=
  hrun_ok [(200007, .no), (9, .back [.dat (I z)] [[.dat (.lst false cs), .dat (I p1), .dat (U64 s1)]] []), (200011, .yes), (15, .back [.dat (I w)] [[.dat (.lst false cs), .dat (I p2), .dat (U64 s2)]] []), (19, .ok)] (ob h1 (ob h2 (ob (rfl : false = false) (ob h4 (ob h5 (ob (rfl : false = false) (ob h7 ob0))))))) (by kernel_rfl)
theorem one_ (kk : Nat) (cs : List Dat) (p s : Int) (p1 s1 : Int) (n z : Int) (h1 : den cfg kk 18 [D.ptr (Ref.up 0) 0, D.dat (I n)] [[D.dat (Dat.lst false cs), D.dat (I p), D.dat (Dat.val (Value.int IntKind.u64 s))]] [] = some ([D.dat (I z)], [[D.dat (Dat.lst false cs), D.dat (I p1), D.dat (Dat.val (Value.int IntKind.u64 s1))]], [])) : runFn cfg kk (den cfg kk) 34 Go.Proofs.Tryz.f34 [.ptr (.up 0) 0, .dat (I n)] [[.dat (.lst false cs), .dat (I p), .dat (U64 s)]] [] = some ([D.dat (B (decide (z = 0)))], [[D.dat (Dat.lst false cs), D.dat (I p1), D.dat (Dat.val (Value.int IntKind.u64 s1))]], []) :=
  hrun_ok [(7, .back [.dat (I z)] [[.dat (.lst false cs), .dat (I p1), .dat (U64 s1)]] [])] (ob h1 (ob (rfl : false = false) ob0)) (by kernel_rfl)
theorem among (kk : Nat) (cs : List Dat) (p s : Int) (p1 s1 : Int) (b : Bool) (es : List Dat) (z v : Int) (h1 : den cfg kk 18 [D.ptr (Ref.up 0) 0, D.dat (I (es.length : Int))] [[D.dat (Dat.lst false cs), D.dat (I p), D.dat (Dat.val (Value.int IntKind.u64 s))]] [] = some ([D.dat (I z)], [[D.dat (Dat.lst false cs), D.dat (I p1), D.dat (Dat.val (Value.int IntKind.u64 s1))]], [])) (h3 : (0 ≤ z ∧ z < (es.length : Int)) ∧ es[z.toNat]? = some (I v)) : runFn cfg kk (den cfg kk) 45 Go.Proofs.Tryz.f45 [.ptr (.up 0) 0, .dat (Dat.lst b es)] [[.dat (.lst false cs), .dat (I p), .dat (U64 s)]] [] = some ([D.dat (I v)], [[D.dat (Dat.lst false cs), D.dat (I p1), D.dat (Dat.val (Value.int IntKind.u64 s1))]], []) :=
  hrun_ok [(9, .back [.dat (I z)] [[.dat (.lst false cs), .dat (I p1), .dat (U64 s1)]] []), (10, .at (I v))] (ob h1 (ob (rfl : false = false) (ob h3 ob0))) (by kernel_rfl)
theorem of_ (kk : Nat) (cs : List Dat) (p s : Int) (p1 s1 : Int) (b : Bool) (es : List Dat) (z : Int) (v : ByteArray) (h1 : den cfg kk 18 [D.ptr (Ref.up 0) 0, D.dat (I (es.length : Int))] [[D.dat (Dat.lst false cs), D.dat (I p), D.dat (Dat.val (Value.int IntKind.u64 s))]] [] = some ([D.dat (I z)], [[D.dat (Dat.lst false cs), D.dat (I p1), D.dat (Dat.val (Value.int IntKind.u64 s1))]], [])) (h3 : (0 ≤ z ∧ z < (es.length : Int)) ∧ es[z.toNat]? = some (Dat.val (Value.string v))) : runFn cfg kk (den cfg kk) 66 Go.Proofs.Tryz.f66 [.ptr (.up 0) 0, .dat (Dat.lst b es)] [[.dat (.lst false cs), .dat (I p), .dat (U64 s)]] [] = some ([D.dat (Dat.val (Value.string v))], [[D.dat (Dat.lst false cs), D.dat (I p1), D.dat (Dat.val (Value.int IntKind.u64 s1))]], []) :=
  hrun_ok [(9, .back [.dat (I z)] [[.dat (.lst false cs), .dat (I p1), .dat (U64 s1)]] []), (10, .at (S v))] (ob h1 (ob (rfl : false = false) (ob h3 ob0))) (by kernel_rfl)
theorem term_d_a (kk : Nat) (cs : List Dat) (u d : Int) (p s : Int) (p1 s1 : Int) (z : Int) (w : Int) (p2 s2 : Int) (k1 n1 : Int) (d1 : List Dat) (h1 : den cfg kk 18 [D.ptr (Ref.up 0) 0, D.dat (I 6)] [[D.dat (Dat.lst false cs), D.dat (I p), D.dat (Dat.val (Value.int IntKind.u64 s))]] [] = some ([D.dat (I z)], [[D.dat (Dat.lst false cs), D.dat (I p1), D.dat (Dat.val (Value.int IntKind.u64 s1))]], [])) (h3 : decide (d = 0) = true) (h4 : decide (0 < u) = false) (h7 : den cfg kk 18 [D.ptr (Ref.up 0) 0, D.dat (I 3)] [[D.dat (Dat.lst false cs), D.dat (I p1), D.dat (Dat.val (Value.int IntKind.u64 s1))]] [] = some ([D.dat (I w)], [[D.dat (Dat.lst false cs), D.dat (I p2), D.dat (Dat.val (Value.int IntKind.u64 s2))]], [])) (h9 : den cfg kk 64 [D.dat (I (w64 (u + w)))] [] [] = some ([D.dat (T k1 n1 d1)], [], [])) : runFn cfg kk (den cfg kk) 33 Go.Proofs.Tryz.f33 [.ptr (.up 0) 0, .dat (I u), .dat (I d)] [[.dat (.lst false cs), .dat (I p), .dat (U64 s)]] [] = some ([D.dat (T k1 n1 d1)], [[D.dat (Dat.lst false cs), D.dat (I p2), D.dat (Dat.val (Value.int IntKind.u64 s2))]], []) :=
  hrun_ok [(9, .back [.dat (I z)] [[.dat (.lst false cs), .dat (I p1), .dat (U64 s1)]] []), (200011, .yes), (200018, .no), (29, .back [.dat (I w)] [[.dat (.lst false cs), .dat (I p2), .dat (U64 s2)]] []), (31, .ret [.dat (T k1 n1 d1)])] (ob h1 (ob (rfl : false = false) (ob h3 (ob h4 (ob (rfl : false = false) (ob (rfl : false = false) (ob h7 (ob (rfl : false = false) (ob h9 ob0))))))))) (by kernel_rfl)
theorem term_d_b (kk : Nat) (cs : List Dat) (u d : Int) (p s : Int) (p1 s1 : Int) (z : Int) (w : Int) (p2 s2 : Int) (p3 s3 : Int) (k1 n1 : Int) (d1 : List Dat) (h1 : den cfg kk 18 [D.ptr (Ref.up 0) 0, D.dat (I 6)] [[D.dat (Dat.lst false cs), D.dat (I p), D.dat (Dat.val (Value.int IntKind.u64 s))]] [] = some ([D.dat (I z)], [[D.dat (Dat.lst false cs), D.dat (I p1), D.dat (Dat.val (Value.int IntKind.u64 s1))]], [])) (h3 : decide (d = 0) = true) (h4 : decide (0 < u) = true) (h6 : den cfg kk 34 [D.ptr (Ref.up 0) 0, D.dat (I 6)] [[D.dat (Dat.lst false cs), D.dat (I p1), D.dat (Dat.val (Value.int IntKind.u64 s1))]] [] = some ([D.dat (B true)], [[D.dat (Dat.lst false cs), D.dat (I p2), D.dat (Dat.val (Value.int IntKind.u64 s2))]], [])) (h9 : den cfg kk 18 [D.ptr (Ref.up 0) 0, D.dat (I 3)] [[D.dat (Dat.lst false cs), D.dat (I p2), D.dat (Dat.val (Value.int IntKind.u64 s2))]] [] = some ([D.dat (I w)], [[D.dat (Dat.lst false cs), D.dat (I p3), D.dat (Dat.val (Value.int IntKind.u64 s3))]], [])) (h11 : den cfg kk 64 [D.dat (I (w64 (u + w)))] [] [] = some ([D.dat (T k1 n1 d1)], [], [])) : runFn cfg kk (den cfg kk) 33 Go.Proofs.Tryz.f33 [.ptr (.up 0) 0, .dat (I u), .dat (I d)] [[.dat (.lst false cs), .dat (I p), .dat (U64 s)]] [] = some ([D.dat (T k1 n1 d1)], [[D.dat (Dat.lst false cs), D.dat (I p3), D.dat (Dat.val (Value.int IntKind.u64 s3))]], []) :=
  hrun_ok [(9, .back [.dat (I z)] [[.dat (.lst false cs), .dat (I p1), .dat (U64 s1)]] []), (200011, .yes), (200018, .yes), (20, .back [.dat (B true)] [[.dat (.lst false cs), .dat (I p2), .dat (U64 s2)]] []), (29, .back [.dat (I w)] [[.dat (.lst false cs), .dat (I p3), .dat (U64 s3)]] []), (31, .ret [.dat (T k1 n1 d1)])] (ob h1 (ob (rfl : false = false) (ob h3 (ob h4 (ob (rfl : true = true) (ob h6 (ob (rfl : false = false) (ob (rfl : true = true) (ob h9 (ob (rfl : false = false) (ob h11 ob0))))))))))) (by kernel_rfl)
theorem term_d_c (kk : Nat) (cs : List Dat) (u d : Int) (p s : Int) (p1 s1 : Int) (z : Int) (w : Int) (p2 s2 : Int) (p3 s3 : Int) (k1 n1 : Int) (d1 : List Dat) (h1 : den cfg kk 18 [D.ptr (Ref.up 0) 0, D.dat (I 6)] [[D.dat (Dat.lst false cs), D.dat (I p), D.dat (Dat.val (Value.int IntKind.u64 s))]] [] = some ([D.dat (I z)], [[D.dat (Dat.lst false cs), D.dat (I p1), D.dat (Dat.val (Value.int IntKind.u64 s1))]], [])) (h3 : decide (d = 0) = true) (h4 : decide (0 < u) = true) (h6 : den cfg kk 34 [D.ptr (Ref.up 0) 0, D.dat (I 6)] [[D.dat (Dat.lst false cs), D.dat (I p1), D.dat (Dat.val (Value.int IntKind.u64 s1))]] [] = some ([D.dat (B false)], [[D.dat (Dat.lst false cs), D.dat (I p2), D.dat (Dat.val (Value.int IntKind.u64 s2))]], [])) (h9 : den cfg kk 18 [D.ptr (Ref.up 0) 0, D.dat (I u)] [[D.dat (Dat.lst false cs), D.dat (I p2), D.dat (Dat.val (Value.int IntKind.u64 s2))]] [] = some ([D.dat (I w)], [[D.dat (Dat.lst false cs), D.dat (I p3), D.dat (Dat.val (Value.int IntKind.u64 s3))]], [])) (h11 : den cfg kk 64 [D.dat (I w)] [] [] = some ([D.dat (T k1 n1 d1)], [], [])) : runFn cfg kk (den cfg kk) 33 Go.Proofs.Tryz.f33 [.ptr (.up 0) 0, .dat (I u), .dat (I d)] [[.dat (.lst false cs), .dat (I p), .dat (U64 s)]] [] = some ([D.dat (T k1 n1 d1)], [[D.dat (Dat.lst false cs), D.dat (I p3), D.dat (Dat.val (Value.int IntKind.u64 s3))]], []) :=
  hrun_ok [(9, .back [.dat (I z)] [[.dat (.lst false cs), .dat (I p1), .dat (U64 s1)]] []), (200011, .yes), (200018, .yes), (20, .back [.dat (B false)] [[.dat (.lst false cs), .dat (I p2), .dat (U64 s2)]] []), (25, .back [.dat (I w)] [[.dat (.lst false cs), .dat (I p3), .dat (U64 s3)]] []), (26, .ret [.dat (T k1 n1 d1)])] (ob h1 (ob (rfl : false = false) (ob h3 (ob h4 (ob (rfl : true = true) (ob h6 (ob (rfl : false = false) (ob (rfl : true = true) (ob h9 (ob (rfl : false = false) (ob h11 ob0))))))))))) (by kernel_rfl)
theorem term_0_a (kk : Nat) (cs : List Dat) (u d : Int) (p s : Int) (p1 s1 : Int) (w : Int) (p2 s2 : Int) (k1 n1 : Int) (d1 : List Dat) (h1 : den cfg kk 18 [D.ptr (Ref.up 0) 0, D.dat (I 6)] [[D.dat (Dat.lst false cs), D.dat (I p), D.dat (Dat.val (Value.int IntKind.u64 s))]] [] = some ([D.dat (I 0)], [[D.dat (Dat.lst false cs), D.dat (I p1), D.dat (Dat.val (Value.int IntKind.u64 s1))]], [])) (h3 : decide (d = 0) = false) (h4 : decide (0 < u) = false) (h7 : den cfg kk 18 [D.ptr (Ref.up 0) 0, D.dat (I 3)] [[D.dat (Dat.lst false cs), D.dat (I p1), D.dat (Dat.val (Value.int IntKind.u64 s1))]] [] = some ([D.dat (I w)], [[D.dat (Dat.lst false cs), D.dat (I p2), D.dat (Dat.val (Value.int IntKind.u64 s2))]], [])) (h9 : den cfg kk 64 [D.dat (I (w64 (u + w)))] [] [] = some ([D.dat (T k1 n1 d1)], [], [])) : runFn cfg kk (den cfg kk) 33 Go.Proofs.Tryz.f33 [.ptr (.up 0) 0, .dat (I u), .dat (I d)] [[.dat (.lst false cs), .dat (I p), .dat (U64 s)]] [] = some ([D.dat (T k1 n1 d1)], [[D.dat (Dat.lst false cs), D.dat (I p2), D.dat (Dat.val (Value.int IntKind.u64 s2))]], []) :=
  hrun_ok [(9, .back [.dat (I 0)] [[.dat (.lst false cs), .dat (I p1), .dat (U64 s1)]] []), (200011, .no), (200018, .no), (29, .back [.dat (I w)] [[.dat (.lst false cs), .dat (I p2), .dat (U64 s2)]] []), (31, .ret [.dat (T k1 n1 d1)])] (ob h1 (ob (rfl : false = false) (ob h3 (ob h4 (ob (rfl : false = false) (ob (rfl : false = false) (ob h7 (ob (rfl : false = false) (ob h9 ob0))))))))) (by kernel_rfl)
theorem term_0_b (kk : Nat) (cs : List Dat) (u d : Int) (p s : Int) (p1 s1 : Int) (w : Int) (p2 s2 : Int) (p3 s3 : Int) (k1 n1 : Int) (d1 : List Dat) (h1 : den cfg kk 18 [D.ptr (Ref.up 0) 0, D.dat (I 6)] [[D.dat (Dat.lst false cs), D.dat (I p), D.dat (Dat.val (Value.int IntKind.u64 s))]] [] = some ([D.dat (I 0)], [[D.dat (Dat.lst false cs), D.dat (I p1), D.dat (Dat.val (Value.int IntKind.u64 s1))]], [])) (h3 : decide (d = 0) = false) (h4 : decide (0 < u) = true) (h6 : den cfg kk 34 [D.ptr (Ref.up 0) 0, D.dat (I 6)] [[D.dat (Dat.lst false cs), D.dat (I p1), D.dat (Dat.val (Value.int IntKind.u64 s1))]] [] = some ([D.dat (B true)], [[D.dat (Dat.lst false cs), D.dat (I p2), D.dat (Dat.val (Value.int IntKind.u64 s2))]], [])) (h9 : den cfg kk 18 [D.ptr (Ref.up 0) 0, D.dat (I 3)] [[D.dat (Dat.lst false cs), D.dat (I p2), D.dat (Dat.val (Value.int IntKind.u64 s2))]] [] = some ([D.dat (I w)], [[D.dat (Dat.lst false cs), D.dat (I p3), D.dat (Dat.val (Value.int IntKind.u64 s3))]], [])) (h11 : den cfg kk 64 [D.dat (I (w64 (u + w)))] [] [] = some ([D.dat (T k1 n1 d1)], [], [])) : runFn cfg kk (den cfg kk) 33 Go.Proofs.Tryz.f33 [.ptr (.up 0) 0, .dat (I u), .dat (I d)] [[.dat (.lst false cs), .dat (I p), .dat (U64 s)]] [] = some ([D.dat (T k1 n1 d1)], [[D.dat (Dat.lst false cs), D.dat (I p3), D.dat (Dat.val (Value.int IntKind.u64 s3))]], []) :=
  hrun_ok [(9, .back [.dat (I 0)] [[.dat (.lst false cs), .dat (I p1), .dat (U64 s1)]] []), (200011, .no), (200018, .yes), (20, .back [.dat (B true)] [[.dat (.lst false cs), .dat (I p2), .dat (U64 s2)]] []), (29, .back [.dat (I w)] [[.dat (.lst false cs), .dat (I p3), .dat (U64 s3)]] []), (31, .ret [.dat (T k1 n1 d1)])] (ob h1 (ob (rfl : false = false) (ob h3 (ob h4 (ob (rfl : true = true) (ob h6 (ob (rfl : false = false) (ob (rfl : true = true) (ob h9 (ob (rfl : false = false) (ob h11 ob0))))))))))) (by kernel_rfl)
theorem term_0_c (kk : Nat) (cs : List Dat) (u d : Int) (p s : Int) (p1 s1 : Int) (w : Int) (p2 s2 : Int) (p3 s3 : Int) (k1 n1 : Int) (d1 : List Dat) (h1 : den cfg kk 18 [D.ptr (Ref.up 0) 0, D.dat (I 6)] [[D.dat (Dat.lst false cs), D.dat (I p), D.dat (Dat.val (Value.int IntKind.u64 s))]] [] = some ([D.dat (I 0)], [[D.dat (Dat.lst false cs), D.dat (I p1), D.dat (Dat.val (Value.int IntKind.u64 s1))]], [])) (h3 : decide (d = 0) = false) (h4 : decide (0 < u) = true) (h6 : den cfg kk 34 [D.ptr (Ref.up 0) 0, D.dat (I 6)] [[D.dat (Dat.lst false cs), D.dat (I p1), D.dat (Dat.val (Value.int IntKind.u64 s1))]] [] = some ([D.dat (B false)], [[D.dat (Dat.lst false cs), D.dat (I p2), D.dat (Dat.val (Value.int IntKind.u64 s2))]], [])) (h9 : den cfg kk 18 [D.ptr (Ref.up 0) 0, D.dat (I u)] [[D.dat (Dat.lst false cs), D.dat (I p2), D.dat (Dat.val (Value.int IntKind.u64 s2))]] [] = some ([D.dat (I w)], [[D.dat (Dat.lst false cs), D.dat (I p3), D.dat (Dat.val (Value.int IntKind.u64 s3))]], [])) (h11 : den cfg kk 64 [D.dat (I w)] [] [] = some ([D.dat (T k1 n1 d1)], [], [])) : runFn cfg kk (den cfg kk) 33 Go.Proofs.Tryz.f33 [.ptr (.up 0) 0, .dat (I u), .dat (I d)] [[.dat (.lst false cs), .dat (I p), .dat (U64 s)]] [] = some ([D.dat (T k1 n1 d1)], [[D.dat (Dat.lst false cs), D.dat (I p3), D.dat (Dat.val (Value.int IntKind.u64 s3))]], []) :=
  hrun_ok [(9, .back [.dat (I 0)] [[.dat (.lst false cs), .dat (I p1), .dat (U64 s1)]] []), (200011, .no), (200018, .yes), (20, .back [.dat (B false)] [[.dat (.lst false cs), .dat (I p2), .dat (U64 s2)]] []), (25, .back [.dat (I w)] [[.dat (.lst false cs), .dat (I p3), .dat (U64 s3)]] []), (26, .ret [.dat (T k1 n1 d1)])] (ob h1 (ob (rfl : false = false) (ob h3 (ob h4 (ob (rfl : true = true) (ob h6 (ob (rfl : false = false) (ob (rfl : true = true) (ob h9 (ob (rfl : false = false) (ob h11 ob0))))))))))) (by kernel_rfl)
theorem term_1_a (kk : Nat) (cs : List Dat) (u d : Int) (p s : Int) (p1 s1 : Int) (w : Int) (p2 s2 : Int) (k1 n1 : Int) (d1 : List Dat) (h1 : den cfg kk 18 [D.ptr (Ref.up 0) 0, D.dat (I 6)] [[D.dat (Dat.lst false cs), D.dat (I p), D.dat (Dat.val (Value.int IntKind.u64 s))]] [] = some ([D.dat (I 1)], [[D.dat (Dat.lst false cs), D.dat (I p1), D.dat (Dat.val (Value.int IntKind.u64 s1))]], [])) (h3 : decide (d = 0) = false) (h4 : decide (0 < u) = false) (h7 : den cfg kk 18 [D.ptr (Ref.up 0) 0, D.dat (I 3)] [[D.dat (Dat.lst false cs), D.dat (I p1), D.dat (Dat.val (Value.int IntKind.u64 s1))]] [] = some ([D.dat (I w)], [[D.dat (Dat.lst false cs), D.dat (I p2), D.dat (Dat.val (Value.int IntKind.u64 s2))]], [])) (h9 : den cfg kk 64 [D.dat (I (w64 (u + w)))] [] [] = some ([D.dat (T k1 n1 d1)], [], [])) : runFn cfg kk (den cfg kk) 33 Go.Proofs.Tryz.f33 [.ptr (.up 0) 0, .dat (I u), .dat (I d)] [[.dat (.lst false cs), .dat (I p), .dat (U64 s)]] [] = some ([D.dat (T k1 n1 d1)], [[D.dat (Dat.lst false cs), D.dat (I p2), D.dat (Dat.val (Value.int IntKind.u64 s2))]], []) :=
  hrun_ok [(9, .back [.dat (I 1)] [[.dat (.lst false cs), .dat (I p1), .dat (U64 s1)]] []), (200011, .no), (200018, .no), (29, .back [.dat (I w)] [[.dat (.lst false cs), .dat (I p2), .dat (U64 s2)]] []), (31, .ret [.dat (T k1 n1 d1)])] (ob h1 (ob (rfl : false = false) (ob h3 (ob h4 (ob (rfl : false = false) (ob (rfl : false = false) (ob h7 (ob (rfl : false = false) (ob h9 ob0))))))))) (by kernel_rfl)
theorem term_1_b (kk : Nat) (cs : List Dat) (u d : Int) (p s : Int) (p1 s1 : Int) (w : Int) (p2 s2 : Int) (p3 s3 : Int) (k1 n1 : Int) (d1 : List Dat) (h1 : den cfg kk 18 [D.ptr (Ref.up 0) 0, D.dat (I 6)] [[D.dat (Dat.lst false cs), D.dat (I p), D.dat (Dat.val (Value.int IntKind.u64 s))]] [] = some ([D.dat (I 1)], [[D.dat (Dat.lst false cs), D.dat (I p1), D.dat (Dat.val (Value.int IntKind.u64 s1))]], [])) (h3 : decide (d = 0) = false) (h4 : decide (0 < u) = true) (h6 : den cfg kk 34 [D.ptr (Ref.up 0) 0, D.dat (I 6)] [[D.dat (Dat.lst false cs), D.dat (I p1), D.dat (Dat.val (Value.int IntKind.u64 s1))]] [] = some ([D.dat (B true)], [[D.dat (Dat.lst false cs), D.dat (I p2), D.dat (Dat.val (Value.int IntKind.u64 s2))]], [])) (h9 : den cfg kk 18 [D.ptr (Ref.up 0) 0, D.dat (I 3)] [[D.dat (Dat.lst false cs), D.dat (I p2), D.dat (Dat.val (Value.int IntKind.u64 s2))]] [] = some ([D.dat (I w)], [[D.dat (Dat.lst false cs), D.dat (I p3), D.dat (Dat.val (Value.int IntKind.u64 s3))]], [])) (h11 : den cfg kk 64 [D.dat (I (w64 (u + w)))] [] [] = some ([D.dat (T k1 n1 d1)], [], [])) : runFn cfg kk (den cfg kk) 33 Go.Proofs.Tryz.f33 [.ptr (.up 0) 0, .dat (I u), .dat (I d)] [[.dat (.lst false cs), .dat (I p), .dat (U64 s)]] [] = some ([D.dat (T k1 n1 d1)], [[D.dat (Dat.lst false cs), D.dat (I p3), D.dat (Dat.val (Value.int IntKind.u64 s3))]], []) :=
  hrun_ok [(9, .back [.dat (I 1)] [[.dat (.lst false cs), .dat (I p1), .dat (U64 s1)]] []), (200011, .no), (200018, .yes), (20, .back [.dat (B true)] [[.dat (.lst false cs), .dat (I p2), .dat (U64 s2)]] []), (29, .back [.dat (I w)] [[.dat (.lst false cs), .dat (I p3), .dat (U64 s3)]] []), (31, .ret [.dat (T k1 n1 d1)])] (ob h1 (ob (rfl : false = false) (ob h3 (ob h4 (ob (rfl : true = true) (ob h6 (ob (rfl : false = false) (ob (rfl : true = true) (ob h9 (ob (rfl : false = false) (ob h11 ob0))))))))))) (by kernel_rfl)
theorem term_1_c (kk : Nat) (cs : List Dat) (u d : Int) (p s : Int) (p1 s1 : Int) (w : Int) (p2 s2 : Int) (p3 s3 : Int) (k1 n1 : Int) (d1 : List Dat) (h1 : den cfg kk 18 [D.ptr (Ref.up 0) 0, D.dat (I 6)] [[D.dat (Dat.lst false cs), D.dat (I p), D.dat (Dat.val (Value.int IntKind.u64 s))]] [] = some ([D.dat (I 1)], [[D.dat (Dat.lst false cs), D.dat (I p1), D.dat (Dat.val (Value.int IntKind.u64 s1))]], [])) (h3 : decide (d = 0) = false) (h4 : decide (0 < u) = true) (h6 : den cfg kk 34 [D.ptr (Ref.up 0) 0, D.dat (I 6)] [[D.dat (Dat.lst false cs), D.dat (I p1), D.dat (Dat.val (Value.int IntKind.u64 s1))]] [] = some ([D.dat (B false)], [[D.dat (Dat.lst false cs), D.dat (I p2), D.dat (Dat.val (Value.int IntKind.u64 s2))]], [])) (h9 : den cfg kk 18 [D.ptr (Ref.up 0) 0, D.dat (I u)] [[D.dat (Dat.lst false cs), D.dat (I p2), D.dat (Dat.val (Value.int IntKind.u64 s2))]] [] = some ([D.dat (I w)], [[D.dat (Dat.lst false cs), D.dat (I p3), D.dat (Dat.val (Value.int IntKind.u64 s3))]], [])) (h11 : den cfg kk 64 [D.dat (I w)] [] [] = some ([D.dat (T k1 n1 d1)], [], [])) : runFn cfg kk (den cfg kk) 33 Go.Proofs.Tryz.f33 [.ptr (.up 0) 0, .dat (I u), .dat (I d)] [[.dat (.lst false cs), .dat (I p), .dat (U64 s)]] [] = some ([D.dat (T k1 n1 d1)], [[D.dat (Dat.lst false cs), D.dat (I p3), D.dat (Dat.val (Value.int IntKind.u64 s3))]], []) :=
  hrun_ok [(9, .back [.dat (I 1)] [[.dat (.lst false cs), .dat (I p1), .dat (U64 s1)]] []), (200011, .no), (200018, .yes), (20, .back [.dat (B false)] [[.dat (.lst false cs), .dat (I p2), .dat (U64 s2)]] []), (25, .back [.dat (I w)] [[.dat (.lst false cs), .dat (I p3), .dat (U64 s3)]] []), (26, .ret [.dat (T k1 n1 d1)])] (ob h1 (ob (rfl : false = false) (ob h3 (ob h4 (ob (rfl : true = true) (ob h6 (ob (rfl : false = false) (ob (rfl : true = true) (ob h9 (ob (rfl : false = false) (ob h11 ob0))))))))))) (by kernel_rfl)
theorem term_2 (kk : Nat) (cs : List Dat) (u d : Int) (p s : Int) (p1 s1 : Int) (p2 s2 : Int) (k1 n1 : Int) (d1 : List Dat) (k2 n2 : Int) (d2 : List Dat) (h1 : den cfg kk 18 [D.ptr (Ref.up 0) 0, D.dat (I 6)] [[D.dat (Dat.lst false cs), D.dat (I p), D.dat (Dat.val (Value.int IntKind.u64 s))]] [] = some ([D.dat (I 2)], [[D.dat (Dat.lst false cs), D.dat (I p1), D.dat (Dat.val (Value.int IntKind.u64 s1))]], [])) (h3 : decide (d = 0) = false) (h4 : den cfg kk 33 [D.ptr (Ref.up 0) 0, D.dat (I (w64 (u + 1))), D.dat (I (w64 (d - 1)))] [[D.dat (Dat.lst false cs), D.dat (I p1), D.dat (Dat.val (Value.int IntKind.u64 s1))]] [] = some ([D.dat (T k1 n1 d1)], [[D.dat (Dat.lst false cs), D.dat (I p2), D.dat (Dat.val (Value.int IntKind.u64 s2))]], [])) (h6 : den cfg kk 65 [D.dat (T k1 n1 d1)] [] [] = some ([D.dat (T k2 n2 d2)], [], [])) : runFn cfg kk (den cfg kk) 33 Go.Proofs.Tryz.f33 [.ptr (.up 0) 0, .dat (I u), .dat (I d)] [[.dat (.lst false cs), .dat (I p), .dat (U64 s)]] [] = some ([D.dat (T k2 n2 d2)], [[D.dat (Dat.lst false cs), D.dat (I p2), D.dat (Dat.val (Value.int IntKind.u64 s2))]], []) :=
  hrun_ok [(9, .back [.dat (I 2)] [[.dat (.lst false cs), .dat (I p1), .dat (U64 s1)]] []), (200011, .no), (40, .back [.dat (T k1 n1 d1)] [[.dat (.lst false cs), .dat (I p2), .dat (U64 s2)]] []), (41, .ret [.dat (T k2 n2 d2)])] (ob h1 (ob (rfl : false = false) (ob h3 (ob h4 (ob (rfl : false = false) (ob h6 ob0)))))) (by kernel_rfl)
theorem term_3 (kk : Nat) (cs : List Dat) (u d : Int) (p s : Int) (p1 s1 : Int) (p2 s2 : Int) (k1 n1 : Int) (d1 : List Dat) (k2 n2 : Int) (d2 : List Dat) (h1 : den cfg kk 18 [D.ptr (Ref.up 0) 0, D.dat (I 6)] [[D.dat (Dat.lst false cs), D.dat (I p), D.dat (Dat.val (Value.int IntKind.u64 s))]] [] = some ([D.dat (I 3)], [[D.dat (Dat.lst false cs), D.dat (I p1), D.dat (Dat.val (Value.int IntKind.u64 s1))]], [])) (h3 : decide (d = 0) = false) (h4 : den cfg kk 33 [D.ptr (Ref.up 0) 0, D.dat (I (w64 (u + 1))), D.dat (I (w64 (d - 1)))] [[D.dat (Dat.lst false cs), D.dat (I p1), D.dat (Dat.val (Value.int IntKind.u64 s1))]] [] = some ([D.dat (T k1 n1 d1)], [[D.dat (Dat.lst false cs), D.dat (I p2), D.dat (Dat.val (Value.int IntKind.u64 s2))]], [])) (h6 : den cfg kk 65 [D.dat (T k1 n1 d1)] [] [] = some ([D.dat (T k2 n2 d2)], [], [])) : runFn cfg kk (den cfg kk) 33 Go.Proofs.Tryz.f33 [.ptr (.up 0) 0, .dat (I u), .dat (I d)] [[.dat (.lst false cs), .dat (I p), .dat (U64 s)]] [] = some ([D.dat (T k2 n2 d2)], [[D.dat (Dat.lst false cs), D.dat (I p2), D.dat (Dat.val (Value.int IntKind.u64 s2))]], []) :=
  hrun_ok [(9, .back [.dat (I 3)] [[.dat (.lst false cs), .dat (I p1), .dat (U64 s1)]] []), (200011, .no), (40, .back [.dat (T k1 n1 d1)] [[.dat (.lst false cs), .dat (I p2), .dat (U64 s2)]] []), (41, .ret [.dat (T k2 n2 d2)])] (ob h1 (ob (rfl : false = false) (ob h3 (ob h4 (ob (rfl : false = false) (ob h6 ob0)))))) (by kernel_rfl)
theorem term_4 (kk : Nat) (cs : List Dat) (u d : Int) (p s : Int) (p1 s1 : Int) (p2 s2 : Int) (p3 s3 : Int) (k1 n1 : Int) (d1 : List Dat) (k2 n2 : Int) (d2 : List Dat) (k3 n3 : Int) (d3 : List Dat) (k4 n4 : Int) (d4 : List Dat) (h1 : den cfg kk 18 [D.ptr (Ref.up 0) 0, D.dat (I 6)] [[D.dat (Dat.lst false cs), D.dat (I p), D.dat (Dat.val (Value.int IntKind.u64 s))]] [] = some ([D.dat (I 4)], [[D.dat (Dat.lst false cs), D.dat (I p1), D.dat (Dat.val (Value.int IntKind.u64 s1))]], [])) (h3 : decide (d = 0) = false) (h4 : den cfg kk 33 [D.ptr (Ref.up 0) 0, D.dat (I (w64 (u + 1))), D.dat (I (w64 (d - 1)))] [[D.dat (Dat.lst false cs), D.dat (I p1), D.dat (Dat.val (Value.int IntKind.u64 s1))]] [] = some ([D.dat (T k1 n1 d1)], [[D.dat (Dat.lst false cs), D.dat (I p2), D.dat (Dat.val (Value.int IntKind.u64 s2))]], [])) (h6 : den cfg kk 65 [D.dat (T k1 n1 d1)] [] [] = some ([D.dat (T k2 n2 d2)], [], [])) (h7 : den cfg kk 33 [D.ptr (Ref.up 0) 0, D.dat (I u), D.dat (I (w64 (d - 1)))] [[D.dat (Dat.lst false cs), D.dat (I p2), D.dat (Dat.val (Value.int IntKind.u64 s2))]] [] = some ([D.dat (T k3 n3 d3)], [[D.dat (Dat.lst false cs), D.dat (I p3), D.dat (Dat.val (Value.int IntKind.u64 s3))]], [])) (h9 : den cfg kk 35 [D.dat (T k2 n2 d2), D.dat (T k3 n3 d3)] [] [] = some ([D.dat (T k4 n4 d4)], [], [])) : runFn cfg kk (den cfg kk) 33 Go.Proofs.Tryz.f33 [.ptr (.up 0) 0, .dat (I u), .dat (I d)] [[.dat (.lst false cs), .dat (I p), .dat (U64 s)]] [] = some ([D.dat (T k4 n4 d4)], [[D.dat (Dat.lst false cs), D.dat (I p3), D.dat (Dat.val (Value.int IntKind.u64 s3))]], []) :=
  hrun_ok [(9, .back [.dat (I 4)] [[.dat (.lst false cs), .dat (I p1), .dat (U64 s1)]] []), (200011, .no), (49, .back [.dat (T k1 n1 d1)] [[.dat (.lst false cs), .dat (I p2), .dat (U64 s2)]] []), (50, .ret [.dat (T k2 n2 d2)]), (55, .back [.dat (T k3 n3 d3)] [[.dat (.lst false cs), .dat (I p3), .dat (U64 s3)]] []), (56, .ret [.dat (T k4 n4 d4)])] (ob h1 (ob (rfl : false = false) (ob h3 (ob h4 (ob (rfl : false = false) (ob h6 (ob h7 (ob (rfl : false = false) (ob h9 ob0))))))))) (by kernel_rfl)
theorem term_5 (kk : Nat) (cs : List Dat) (u d : Int) (p s : Int) (p1 s1 : Int) (p2 s2 : Int) (p3 s3 : Int) (k1 n1 : Int) (d1 : List Dat) (k2 n2 : Int) (d2 : List Dat) (k3 n3 : Int) (d3 : List Dat) (h1 : den cfg kk 18 [D.ptr (Ref.up 0) 0, D.dat (I 6)] [[D.dat (Dat.lst false cs), D.dat (I p), D.dat (Dat.val (Value.int IntKind.u64 s))]] [] = some ([D.dat (I 5)], [[D.dat (Dat.lst false cs), D.dat (I p1), D.dat (Dat.val (Value.int IntKind.u64 s1))]], [])) (h3 : decide (d = 0) = false) (h4 : den cfg kk 33 [D.ptr (Ref.up 0) 0, D.dat (I u), D.dat (I (w64 (d - 1)))] [[D.dat (Dat.lst false cs), D.dat (I p1), D.dat (Dat.val (Value.int IntKind.u64 s1))]] [] = some ([D.dat (T k1 n1 d1)], [[D.dat (Dat.lst false cs), D.dat (I p2), D.dat (Dat.val (Value.int IntKind.u64 s2))]], [])) (h6 : den cfg kk 33 [D.ptr (Ref.up 0) 0, D.dat (I u), D.dat (I (w64 (d - 1)))] [[D.dat (Dat.lst false cs), D.dat (I p2), D.dat (Dat.val (Value.int IntKind.u64 s2))]] [] = some ([D.dat (T k2 n2 d2)], [[D.dat (Dat.lst false cs), D.dat (I p3), D.dat (Dat.val (Value.int IntKind.u64 s3))]], [])) (h8 : den cfg kk 35 [D.dat (T k1 n1 d1), D.dat (T k2 n2 d2)] [] [] = some ([D.dat (T k3 n3 d3)], [], [])) : runFn cfg kk (den cfg kk) 33 Go.Proofs.Tryz.f33 [.ptr (.up 0) 0, .dat (I u), .dat (I d)] [[.dat (.lst false cs), .dat (I p), .dat (U64 s)]] [] = some ([D.dat (T k3 n3 d3)], [[D.dat (Dat.lst false cs), D.dat (I p3), D.dat (Dat.val (Value.int IntKind.u64 s3))]], []) :=
  hrun_ok [(9, .back [.dat (I 5)] [[.dat (.lst false cs), .dat (I p1), .dat (U64 s1)]] []), (200011, .no), (61, .back [.dat (T k1 n1 d1)] [[.dat (.lst false cs), .dat (I p2), .dat (U64 s2)]] []), (66, .back [.dat (T k2 n2 d2)] [[.dat (.lst false cs), .dat (I p3), .dat (U64 s3)]] []), (67, .ret [.dat (T k3 n3 d3)])] (ob h1 (ob (rfl : false = false) (ob h3 (ob h4 (ob (rfl : false = false) (ob h6 (ob (rfl : false = false) (ob h8 ob0)))))))) (by kernel_rfl)
theorem known (kk : Nat) (cs : List Dat) (p s : Int) (p1 s1 : Int) (c : ByteArray) (n : Int) (k1 n1 : Int) (d1 : List Dat) (h1 : den cfg kk 66 [D.ptr (Ref.up 0) 0, D.dat (Dat.lst true [Dat.val (Value.string { data := #[92, 48] }), Dat.val (Value.string { data := #[92, 92, 49] }), Dat.val (Value.string { data := #[92, 92, 92, 40, 40, 50, 32, 48, 41, 32, 40, 49, 32, 48, 41, 41] }), Dat.val (Value.string { data := #[92, 92, 40, 49, 32, 40, 49, 32, 48, 41, 41] }), Dat.val (Value.string { data := #[40, 92, 40, 48, 32, 48, 41, 32, 92, 40, 48, 32, 48, 41, 41] }), Dat.val (Value.string { data := #[92, 40, 92, 40, 49, 32, 40, 48, 32, 48, 41, 41, 32, 92, 40, 49, 32, 40, 48, 32, 48, 41, 41, 41] }), Dat.val (Value.string { data := #[92, 92, 40, 48, 32, 49, 41] }), Dat.val (Value.string { data := #[40, 40, 92, 92, 40, 49, 32, 40, 49, 32, 48, 41, 41, 32, 92, 92, 40, 49, 32, 40, 49, 32, 48, 41, 41, 41, 32, 92, 48, 41] })])] [[D.dat (Dat.lst false cs), D.dat (I p), D.dat (Dat.val (Value.int IntKind.u64 s))]] [] = some ([D.dat (Dat.val (Value.string c))], [[D.dat (Dat.lst false cs), D.dat (I p1), D.dat (Dat.val (Value.int IntKind.u64 s1))]], [])) (h2 : (true && !(true && (true && cleanBoxes [[D.dat (Dat.lst false cs), D.dat (I p1), D.dat (Dat.val (Value.int IntKind.u64 s1))]])) || false) = false) (h3 : den cfg kk 67 [D.dat (Dat.val (Value.string c)), D.dat (I 1)] [] [] = some ([D.dat (T k1 n1 d1), D.dat (I n)], [], [])) : runFn cfg kk (den cfg kk) 36 Go.Proofs.Tryz.f36 [.ptr (.up 0) 0] [[.dat (.lst false cs), .dat (I p), .dat (U64 s)]] [] = some ([D.dat (T k1 n1 d1)], [[D.dat (Dat.lst false cs), D.dat (I p1), D.dat (Dat.val (Value.int IntKind.u64 s1))]], []) :=
  hrun_ok [(8, .back [.dat (S c)] [[.dat (.lst false cs), .dat (I p1), .dat (U64 s1)]] []), (11, .ret [.dat (T k1 n1 d1), .dat (I n)])] (ob h1 (ob h2 (ob h3 ob0))) (by kernel_rfl)
theorem terms_a0 (kk : Nat) (cs : List Dat) (p s : Int) (p1 s1 : Int) (p2 s2 : Int) (p3 s3 : Int) (p4 s4 : Int) (p5 s5 : Int) (p6 s6 : Int) (p7 s7 : Int) (z q w v a b c : Int) (out : List Dat) (k1 n1 : Int) (d1 : List Dat) (k2 n2 : Int) (d2 : List Dat) (k3 n3 : Int) (d3 : List Dat) (k4 n4 : Int) (d4 : List Dat) (h1 : den cfg kk 18 [D.ptr (Ref.up 0) 0, D.dat (I 4)] [[D.dat (Dat.lst false cs), D.dat (I p), D.dat (Dat.val (Value.int IntKind.u64 s))]] [] = some ([D.dat (I z)], [[D.dat (Dat.lst false cs), D.dat (I p1), D.dat (Dat.val (Value.int IntKind.u64 s1))]], [])) (h3 : den cfg kk 33 [D.ptr (Ref.up 0) 0, D.dat (I 0), D.dat (I (w64 (1 + z)))] [[D.dat (Dat.lst false cs), D.dat (I p1), D.dat (Dat.val (Value.int IntKind.u64 s1))]] [] = some ([D.dat (T k1 n1 d1)], [[D.dat (Dat.lst false cs), D.dat (I p2), D.dat (Dat.val (Value.int IntKind.u64 s2))]], [])) (h5 : den cfg kk 18 [D.ptr (Ref.up 0) 0, D.dat (I 5)] [[D.dat (Dat.lst false cs), D.dat (I p2), D.dat (Dat.val (Value.int IntKind.u64 s2))]] [] = some ([D.dat (I q)], [[D.dat (Dat.lst false cs), D.dat (I p3), D.dat (Dat.val (Value.int IntKind.u64 s3))]], [])) (h7 : decide (q = 0) = true) (h8 : den cfg kk 36 [D.ptr (Ref.up 0) 0] [[D.dat (Dat.lst false cs), D.dat (I p3), D.dat (Dat.val (Value.int IntKind.u64 s3))]] [] = some ([D.dat (T k2 n2 d2)], [[D.dat (Dat.lst false cs), D.dat (I p4), D.dat (Dat.val (Value.int IntKind.u64 s4))]], [])) (h10 : den cfg kk 36 [D.ptr (Ref.up 0) 0] [[D.dat (Dat.lst false cs), D.dat (I p4), D.dat (Dat.val (Value.int IntKind.u64 s4))]] [] = some ([D.dat (T k3 n3 d3)], [[D.dat (Dat.lst false cs), D.dat (I p5), D.dat (Dat.val (Value.int IntKind.u64 s5))]], [])) (h12 : den cfg kk 35 [D.dat (T k2 n2 d2), D.dat (T k3 n3 d3)] [] [] = some ([D.dat (T k4 n4 d4)], [], [])) (h13 : den cfg kk 37 [D.own 60 [], D.dat (T k4 n4 d4), D.dat (I (-1))] [] [] = some ([D.own 60 out], [], [])) (h15 : den cfg kk 18 [D.ptr (Ref.up 0) 0, D.dat (I 40)] [[D.dat (Dat.lst false cs), D.dat (I p5), D.dat (Dat.val (Value.int IntKind.u64 s5))]] [] = some ([D.dat (I w)], [[D.dat (Dat.lst false cs), D.dat (I p6), D.dat (Dat.val (Value.int IntKind.u64 s6))]], [])) (h17 : decide (w = 0) = true) (h18 : den cfg kk 45 [D.ptr (Ref.up 0) 0, D.dat (Dat.lst true [I (-1), I 99, I 100])] [[D.dat (Dat.lst false cs), D.dat (I p6), D.dat (Dat.val (Value.int IntKind.u64 s6))]] [] = some ([D.dat (I v)], [[D.dat (Dat.lst false cs), D.dat (I p7), D.dat (Dat.val (Value.int IntKind.u64 s7))]], [])) (h19 : (true && !(true && (true && cleanBoxes [[D.dat (Dat.lst false cs), D.dat (I p7), D.dat (Dat.val (Value.int IntKind.u64 s7))]])) || false) = false) (h20 : 0 ≤ w64 ((out.length : Int) - 1) ∧ w64 ((out.length : Int) - 1) < (out.length : Int)) (h21 : out[(w64 ((out.length : Int) - 1)).toNat]? = some (N3 a b c)) : runFn cfg kk (den cfg kk) 17 Go.Proofs.Tryz.f17 [.ptr (.up 0) 0] [[.dat (.lst false cs), .dat (I p), .dat (U64 s)]] [] = some ([D.own 60 (out.set (w64 ((out.length : Int) - 1)).toNat (N3 a v c))], [[D.dat (Dat.lst false cs), D.dat (I p7), D.dat (Dat.val (Value.int IntKind.u64 s7))]], []) :=
  hrun_ok [(7, .back [.dat (I z)] [[.dat (.lst false cs), .dat (I p1), .dat (U64 s1)]] []), (9, .back [.dat (T k1 n1 d1)] [[.dat (.lst false cs), .dat (I p2), .dat (U64 s2)]] []), (11, .back [.dat (I q)] [[.dat (.lst false cs), .dat (I p3), .dat (U64 s3)]] []), (200012, .yes), (15, .back [.dat (T k2 n2 d2)] [[.dat (.lst false cs), .dat (I p4), .dat (U64 s4)]] []), (17, .back [.dat (T k3 n3 d3)] [[.dat (.lst false cs), .dat (I p5), .dat (U64 s5)]] []), (18, .ret [.dat (T k4 n4 d4)]), (26, .back [.own 60 out] [] []), (28, .back [.dat (I w)] [[.dat (.lst false cs), .dat (I p6), .dat (U64 s6)]] []), (200029, .yes), (37, .back [.dat (I v)] [[.dat (.lst false cs), .dat (I p7), .dat (U64 s7)]] []), (38, .ok), (100039, .at (N3 a b c))] (ob h1 (ob (rfl : false = false) (ob h3 (ob (rfl : false = false) (ob h5 (ob (rfl : false = false) (ob h7 (ob h8 (ob (rfl : false = false) (ob h10 (ob (rfl : false = false) (ob h12 (ob h13 (ob (rfl : false = false) (ob h15 (ob (rfl : false = false) (ob h17 (ob h18 (ob h19 (ob h20 (ob h21 ob0))))))))))))))))))))) (by kernel_rfl)
theorem terms_a1 (kk : Nat) (cs : List Dat) (p s : Int) (p1 s1 : Int) (p2 s2 : Int) (p3 s3 : Int) (p4 s4 : Int) (p5 s5 : Int) (p6 s6 : Int) (p7 s7 : Int) (z q w v a b c : Int) (out : List Dat) (k1 n1 : Int) (d1 : List Dat) (k2 n2 : Int) (d2 : List Dat) (k3 n3 : Int) (d3 : List Dat) (k4 n4 : Int) (d4 : List Dat) (h1 : den cfg kk 18 [D.ptr (Ref.up 0) 0, D.dat (I 4)] [[D.dat (Dat.lst false cs), D.dat (I p), D.dat (Dat.val (Value.int IntKind.u64 s))]] [] = some ([D.dat (I z)], [[D.dat (Dat.lst false cs), D.dat (I p1), D.dat (Dat.val (Value.int IntKind.u64 s1))]], [])) (h3 : den cfg kk 33 [D.ptr (Ref.up 0) 0, D.dat (I 0), D.dat (I (w64 (1 + z)))] [[D.dat (Dat.lst false cs), D.dat (I p1), D.dat (Dat.val (Value.int IntKind.u64 s1))]] [] = some ([D.dat (T k1 n1 d1)], [[D.dat (Dat.lst false cs), D.dat (I p2), D.dat (Dat.val (Value.int IntKind.u64 s2))]], [])) (h5 : den cfg kk 18 [D.ptr (Ref.up 0) 0, D.dat (I 5)] [[D.dat (Dat.lst false cs), D.dat (I p2), D.dat (Dat.val (Value.int IntKind.u64 s2))]] [] = some ([D.dat (I q)], [[D.dat (Dat.lst false cs), D.dat (I p3), D.dat (Dat.val (Value.int IntKind.u64 s3))]], [])) (h7 : decide (q = 0) = true) (h8 : den cfg kk 36 [D.ptr (Ref.up 0) 0] [[D.dat (Dat.lst false cs), D.dat (I p3), D.dat (Dat.val (Value.int IntKind.u64 s3))]] [] = some ([D.dat (T k2 n2 d2)], [[D.dat (Dat.lst false cs), D.dat (I p4), D.dat (Dat.val (Value.int IntKind.u64 s4))]], [])) (h10 : den cfg kk 36 [D.ptr (Ref.up 0) 0] [[D.dat (Dat.lst false cs), D.dat (I p4), D.dat (Dat.val (Value.int IntKind.u64 s4))]] [] = some ([D.dat (T k3 n3 d3)], [[D.dat (Dat.lst false cs), D.dat (I p5), D.dat (Dat.val (Value.int IntKind.u64 s5))]], [])) (h12 : den cfg kk 35 [D.dat (T k2 n2 d2), D.dat (T k3 n3 d3)] [] [] = some ([D.dat (T k4 n4 d4)], [], [])) (h13 : den cfg kk 37 [D.own 60 [], D.dat (T k4 n4 d4), D.dat (I (-1))] [] [] = some ([D.own 60 out], [], [])) (h15 : den cfg kk 18 [D.ptr (Ref.up 0) 0, D.dat (I 40)] [[D.dat (Dat.lst false cs), D.dat (I p5), D.dat (Dat.val (Value.int IntKind.u64 s5))]] [] = some ([D.dat (I w)], [[D.dat (Dat.lst false cs), D.dat (I p6), D.dat (Dat.val (Value.int IntKind.u64 s6))]], [])) (h17 : decide (w = 0) = false) (h18 : decide (w = 1) = true) (h19 : den cfg kk 18 [D.ptr (Ref.up 0) 0, D.dat (I 4)] [[D.dat (Dat.lst false cs), D.dat (I p6), D.dat (Dat.val (Value.int IntKind.u64 s6))]] [] = some ([D.dat (I v)], [[D.dat (Dat.lst false cs), D.dat (I p7), D.dat (Dat.val (Value.int IntKind.u64 s7))]], [])) (h21 : 0 ≤ w64 ((out.length : Int) - 1) ∧ w64 ((out.length : Int) - 1) < (out.length : Int)) (h22 : out[(w64 ((out.length : Int) - 1)).toNat]? = some (N3 a b c)) : runFn cfg kk (den cfg kk) 17 Go.Proofs.Tryz.f17 [.ptr (.up 0) 0] [[.dat (.lst false cs), .dat (I p), .dat (U64 s)]] [] = some ([D.own 60 (out.set (w64 ((out.length : Int) - 1)).toNat (N3 a b (w64 (v - 1))))], [[D.dat (Dat.lst false cs), D.dat (I p7), D.dat (Dat.val (Value.int IntKind.u64 s7))]], []) :=
  hrun_ok [(7, .back [.dat (I z)] [[.dat (.lst false cs), .dat (I p1), .dat (U64 s1)]] []), (9, .back [.dat (T k1 n1 d1)] [[.dat (.lst false cs), .dat (I p2), .dat (U64 s2)]] []), (11, .back [.dat (I q)] [[.dat (.lst false cs), .dat (I p3), .dat (U64 s3)]] []), (200012, .yes), (15, .back [.dat (T k2 n2 d2)] [[.dat (.lst false cs), .dat (I p4), .dat (U64 s4)]] []), (17, .back [.dat (T k3 n3 d3)] [[.dat (.lst false cs), .dat (I p5), .dat (U64 s5)]] []), (18, .ret [.dat (T k4 n4 d4)]), (26, .back [.own 60 out] [] []), (28, .back [.dat (I w)] [[.dat (.lst false cs), .dat (I p6), .dat (U64 s6)]] []), (200029, .no), (200040, .yes), (47, .back [.dat (I v)] [[.dat (.lst false cs), .dat (I p7), .dat (U64 s7)]] []), (49, .ok), (100050, .at (N3 a b c))] (ob h1 (ob (rfl : false = false) (ob h3 (ob (rfl : false = false) (ob h5 (ob (rfl : false = false) (ob h7 (ob h8 (ob (rfl : false = false) (ob h10 (ob (rfl : false = false) (ob h12 (ob h13 (ob (rfl : false = false) (ob h15 (ob (rfl : false = false) (ob h17 (ob h18 (ob h19 (ob (rfl : false = false) (ob h21 (ob h22 ob0)))))))))))))))))))))) (by kernel_rfl)
theorem terms_a2 (kk : Nat) (cs : List Dat) (p s : Int) (p1 s1 : Int) (p2 s2 : Int) (p3 s3 : Int) (p4 s4 : Int) (p5 s5 : Int) (p6 s6 : Int) (p7 s7 : Int) (z q w v a b c : Int) (out : List Dat) (k1 n1 : Int) (d1 : List Dat) (k2 n2 : Int) (d2 : List Dat) (k3 n3 : Int) (d3 : List Dat) (k4 n4 : Int) (d4 : List Dat) (h1 : den cfg kk 18 [D.ptr (Ref.up 0) 0, D.dat (I 4)] [[D.dat (Dat.lst false cs), D.dat (I p), D.dat (Dat.val (Value.int IntKind.u64 s))]] [] = some ([D.dat (I z)], [[D.dat (Dat.lst false cs), D.dat (I p1), D.dat (Dat.val (Value.int IntKind.u64 s1))]], [])) (h3 : den cfg kk 33 [D.ptr (Ref.up 0) 0, D.dat (I 0), D.dat (I (w64 (1 + z)))] [[D.dat (Dat.lst false cs), D.dat (I p1), D.dat (Dat.val (Value.int IntKind.u64 s1))]] [] = some ([D.dat (T k1 n1 d1)], [[D.dat (Dat.lst false cs), D.dat (I p2), D.dat (Dat.val (Value.int IntKind.u64 s2))]], [])) (h5 : den cfg kk 18 [D.ptr (Ref.up 0) 0, D.dat (I 5)] [[D.dat (Dat.lst false cs), D.dat (I p2), D.dat (Dat.val (Value.int IntKind.u64 s2))]] [] = some ([D.dat (I q)], [[D.dat (Dat.lst false cs), D.dat (I p3), D.dat (Dat.val (Value.int IntKind.u64 s3))]], [])) (h7 : decide (q = 0) = true) (h8 : den cfg kk 36 [D.ptr (Ref.up 0) 0] [[D.dat (Dat.lst false cs), D.dat (I p3), D.dat (Dat.val (Value.int IntKind.u64 s3))]] [] = some ([D.dat (T k2 n2 d2)], [[D.dat (Dat.lst false cs), D.dat (I p4), D.dat (Dat.val (Value.int IntKind.u64 s4))]], [])) (h10 : den cfg kk 36 [D.ptr (Ref.up 0) 0] [[D.dat (Dat.lst false cs), D.dat (I p4), D.dat (Dat.val (Value.int IntKind.u64 s4))]] [] = some ([D.dat (T k3 n3 d3)], [[D.dat (Dat.lst false cs), D.dat (I p5), D.dat (Dat.val (Value.int IntKind.u64 s5))]], [])) (h12 : den cfg kk 35 [D.dat (T k2 n2 d2), D.dat (T k3 n3 d3)] [] [] = some ([D.dat (T k4 n4 d4)], [], [])) (h13 : den cfg kk 37 [D.own 60 [], D.dat (T k4 n4 d4), D.dat (I (-1))] [] [] = some ([D.own 60 out], [], [])) (h15 : den cfg kk 18 [D.ptr (Ref.up 0) 0, D.dat (I 40)] [[D.dat (Dat.lst false cs), D.dat (I p5), D.dat (Dat.val (Value.int IntKind.u64 s5))]] [] = some ([D.dat (I w)], [[D.dat (Dat.lst false cs), D.dat (I p6), D.dat (Dat.val (Value.int IntKind.u64 s6))]], [])) (h17 : decide (w = 0) = false) (h18 : decide (w = 1) = false) (h19 : decide (w = 2) = true) (h20 : den cfg kk 18 [D.ptr (Ref.up 0) 0, D.dat (I 3)] [[D.dat (Dat.lst false cs), D.dat (I p6), D.dat (Dat.val (Value.int IntKind.u64 s6))]] [] = some ([D.dat (I v)], [[D.dat (Dat.lst false cs), D.dat (I p7), D.dat (Dat.val (Value.int IntKind.u64 s7))]], [])) (h22 : out.length + 1 ≤ 2147483648) : runFn cfg kk (den cfg kk) 17 Go.Proofs.Tryz.f17 [.ptr (.up 0) 0] [[.dat (.lst false cs), .dat (I p), .dat (U64 s)]] [] = some ([D.own 60 (out ++ [N3 (w64 (1 + v)) 0 0])], [[D.dat (Dat.lst false cs), D.dat (I p7), D.dat (Dat.val (Value.int IntKind.u64 s7))]], []) :=
  hrun_ok [(7, .back [.dat (I z)] [[.dat (.lst false cs), .dat (I p1), .dat (U64 s1)]] []), (9, .back [.dat (T k1 n1 d1)] [[.dat (.lst false cs), .dat (I p2), .dat (U64 s2)]] []), (11, .back [.dat (I q)] [[.dat (.lst false cs), .dat (I p3), .dat (U64 s3)]] []), (200012, .yes), (15, .back [.dat (T k2 n2 d2)] [[.dat (.lst false cs), .dat (I p4), .dat (U64 s4)]] []), (17, .back [.dat (T k3 n3 d3)] [[.dat (.lst false cs), .dat (I p5), .dat (U64 s5)]] []), (18, .ret [.dat (T k4 n4 d4)]), (26, .back [.own 60 out] [] []), (28, .back [.dat (I w)] [[.dat (.lst false cs), .dat (I p6), .dat (U64 s6)]] []), (200029, .no), (200040, .no), (200051, .yes), (55, .back [.dat (I v)] [[.dat (.lst false cs), .dat (I p7), .dat (U64 s7)]] []), (59, .ok)] (ob h1 (ob (rfl : false = false) (ob h3 (ob (rfl : false = false) (ob h5 (ob (rfl : false = false) (ob h7 (ob h8 (ob (rfl : false = false) (ob h10 (ob (rfl : false = false) (ob h12 (ob h13 (ob (rfl : false = false) (ob h15 (ob (rfl : false = false) (ob h17 (ob h18 (ob h19 (ob h20 (ob (rfl : false = false) (ob (obT h22) ob0)))))))))))))))))))))) (by kernel_rfl)
theorem terms_a3 (kk : Nat) (cs : List Dat) (p s : Int) (p1 s1 : Int) (p2 s2 : Int) (p3 s3 : Int) (p4 s4 : Int) (p5 s5 : Int) (p6 s6 : Int) (p7 s7 : Int) (z q w v a b c : Int) (out : List Dat) (k1 n1 : Int) (d1 : List Dat) (k2 n2 : Int) (d2 : List Dat) (k3 n3 : Int) (d3 : List Dat) (k4 n4 : Int) (d4 : List Dat) (h1 : den cfg kk 18 [D.ptr (Ref.up 0) 0, D.dat (I 4)] [[D.dat (Dat.lst false cs), D.dat (I p), D.dat (Dat.val (Value.int IntKind.u64 s))]] [] = some ([D.dat (I z)], [[D.dat (Dat.lst false cs), D.dat (I p1), D.dat (Dat.val (Value.int IntKind.u64 s1))]], [])) (h3 : den cfg kk 33 [D.ptr (Ref.up 0) 0, D.dat (I 0), D.dat (I (w64 (1 + z)))] [[D.dat (Dat.lst false cs), D.dat (I p1), D.dat (Dat.val (Value.int IntKind.u64 s1))]] [] = some ([D.dat (T k1 n1 d1)], [[D.dat (Dat.lst false cs), D.dat (I p2), D.dat (Dat.val (Value.int IntKind.u64 s2))]], [])) (h5 : den cfg kk 18 [D.ptr (Ref.up 0) 0, D.dat (I 5)] [[D.dat (Dat.lst false cs), D.dat (I p2), D.dat (Dat.val (Value.int IntKind.u64 s2))]] [] = some ([D.dat (I q)], [[D.dat (Dat.lst false cs), D.dat (I p3), D.dat (Dat.val (Value.int IntKind.u64 s3))]], [])) (h7 : decide (q = 0) = true) (h8 : den cfg kk 36 [D.ptr (Ref.up 0) 0] [[D.dat (Dat.lst false cs), D.dat (I p3), D.dat (Dat.val (Value.int IntKind.u64 s3))]] [] = some ([D.dat (T k2 n2 d2)], [[D.dat (Dat.lst false cs), D.dat (I p4), D.dat (Dat.val (Value.int IntKind.u64 s4))]], [])) (h10 : den cfg kk 36 [D.ptr (Ref.up 0) 0] [[D.dat (Dat.lst false cs), D.dat (I p4), D.dat (Dat.val (Value.int IntKind.u64 s4))]] [] = some ([D.dat (T k3 n3 d3)], [[D.dat (Dat.lst false cs), D.dat (I p5), D.dat (Dat.val (Value.int IntKind.u64 s5))]], [])) (h12 : den cfg kk 35 [D.dat (T k2 n2 d2), D.dat (T k3 n3 d3)] [] [] = some ([D.dat (T k4 n4 d4)], [], [])) (h13 : den cfg kk 37 [D.own 60 [], D.dat (T k4 n4 d4), D.dat (I (-1))] [] [] = some ([D.own 60 out], [], [])) (h15 : den cfg kk 18 [D.ptr (Ref.up 0) 0, D.dat (I 40)] [[D.dat (Dat.lst false cs), D.dat (I p5), D.dat (Dat.val (Value.int IntKind.u64 s5))]] [] = some ([D.dat (I w)], [[D.dat (Dat.lst false cs), D.dat (I p6), D.dat (Dat.val (Value.int IntKind.u64 s6))]], [])) (h17 : decide (w = 0) = false) (h18 : decide (w = 1) = false) (h19 : decide (w = 2) = false) : runFn cfg kk (den cfg kk) 17 Go.Proofs.Tryz.f17 [.ptr (.up 0) 0] [[.dat (.lst false cs), .dat (I p), .dat (U64 s)]] [] = some ([D.own 60 out], [[D.dat (Dat.lst false cs), D.dat (I p6), D.dat (Dat.val (Value.int IntKind.u64 s6))]], []) :=
  hrun_ok [(7, .back [.dat (I z)] [[.dat (.lst false cs), .dat (I p1), .dat (U64 s1)]] []), (9, .back [.dat (T k1 n1 d1)] [[.dat (.lst false cs), .dat (I p2), .dat (U64 s2)]] []), (11, .back [.dat (I q)] [[.dat (.lst false cs), .dat (I p3), .dat (U64 s3)]] []), (200012, .yes), (15, .back [.dat (T k2 n2 d2)] [[.dat (.lst false cs), .dat (I p4), .dat (U64 s4)]] []), (17, .back [.dat (T k3 n3 d3)] [[.dat (.lst false cs), .dat (I p5), .dat (U64 s5)]] []), (18, .ret [.dat (T k4 n4 d4)]), (26, .back [.own 60 out] [] []), (28, .back [.dat (I w)] [[.dat (.lst false cs), .dat (I p6), .dat (U64 s6)]] []), (200029, .no), (200040, .no), (200051, .no)] (ob h1 (ob (rfl : false = false) (ob h3 (ob (rfl : false = false) (ob h5 (ob (rfl : false = false) (ob h7 (ob h8 (ob (rfl : false = false) (ob h10 (ob (rfl : false = false) (ob h12 (ob h13 (ob (rfl : false = false) (ob h15 (ob (rfl : false = false) (ob h17 (ob h18 (ob h19 ob0))))))))))))))))))) (by kernel_rfl)
theorem terms_b0 (kk : Nat) (cs : List Dat) (p s : Int) (p1 s1 : Int) (p2 s2 : Int) (p3 s3 : Int) (p4 s4 : Int) (p5 s5 : Int) (p6 s6 : Int) (p7 s7 : Int) (z q w v a b c : Int) (out : List Dat) (k1 n1 : Int) (d1 : List Dat) (k2 n2 : Int) (d2 : List Dat) (k3 n3 : Int) (d3 : List Dat) (k4 n4 : Int) (d4 : List Dat) (h1 : den cfg kk 18 [D.ptr (Ref.up 0) 0, D.dat (I 4)] [[D.dat (Dat.lst false cs), D.dat (I p), D.dat (Dat.val (Value.int IntKind.u64 s))]] [] = some ([D.dat (I z)], [[D.dat (Dat.lst false cs), D.dat (I p1), D.dat (Dat.val (Value.int IntKind.u64 s1))]], [])) (h3 : den cfg kk 33 [D.ptr (Ref.up 0) 0, D.dat (I 0), D.dat (I (w64 (1 + z)))] [[D.dat (Dat.lst false cs), D.dat (I p1), D.dat (Dat.val (Value.int IntKind.u64 s1))]] [] = some ([D.dat (T k1 n1 d1)], [[D.dat (Dat.lst false cs), D.dat (I p2), D.dat (Dat.val (Value.int IntKind.u64 s2))]], [])) (h5 : den cfg kk 18 [D.ptr (Ref.up 0) 0, D.dat (I 5)] [[D.dat (Dat.lst false cs), D.dat (I p2), D.dat (Dat.val (Value.int IntKind.u64 s2))]] [] = some ([D.dat (I q)], [[D.dat (Dat.lst false cs), D.dat (I p3), D.dat (Dat.val (Value.int IntKind.u64 s3))]], [])) (h7 : decide (q = 0) = false) (h8 : decide (q = 1) = true) (h9 : den cfg kk 36 [D.ptr (Ref.up 0) 0] [[D.dat (Dat.lst false cs), D.dat (I p3), D.dat (Dat.val (Value.int IntKind.u64 s3))]] [] = some ([D.dat (T k2 n2 d2)], [[D.dat (Dat.lst false cs), D.dat (I p5), D.dat (Dat.val (Value.int IntKind.u64 s5))]], [])) (h10 : den cfg kk 35 [D.dat (T k2 n2 d2), D.dat (T k1 n1 d1)] [] [] = some ([D.dat (T k4 n4 d4)], [], [])) (h11 : den cfg kk 37 [D.own 60 [], D.dat (T k4 n4 d4), D.dat (I (-1))] [] [] = some ([D.own 60 out], [], [])) (h13 : den cfg kk 18 [D.ptr (Ref.up 0) 0, D.dat (I 40)] [[D.dat (Dat.lst false cs), D.dat (I p5), D.dat (Dat.val (Value.int IntKind.u64 s5))]] [] = some ([D.dat (I w)], [[D.dat (Dat.lst false cs), D.dat (I p6), D.dat (Dat.val (Value.int IntKind.u64 s6))]], [])) (h15 : decide (w = 0) = true) (h16 : den cfg kk 45 [D.ptr (Ref.up 0) 0, D.dat (Dat.lst true [I (-1), I 99, I 100])] [[D.dat (Dat.lst false cs), D.dat (I p6), D.dat (Dat.val (Value.int IntKind.u64 s6))]] [] = some ([D.dat (I v)], [[D.dat (Dat.lst false cs), D.dat (I p7), D.dat (Dat.val (Value.int IntKind.u64 s7))]], [])) (h17 : (true && !(true && (true && cleanBoxes [[D.dat (Dat.lst false cs), D.dat (I p7), D.dat (Dat.val (Value.int IntKind.u64 s7))]])) || false) = false) (h18 : 0 ≤ w64 ((out.length : Int) - 1) ∧ w64 ((out.length : Int) - 1) < (out.length : Int)) (h19 : out[(w64 ((out.length : Int) - 1)).toNat]? = some (N3 a b c)) : runFn cfg kk (den cfg kk) 17 Go.Proofs.Tryz.f17 [.ptr (.up 0) 0] [[.dat (.lst false cs), .dat (I p), .dat (U64 s)]] [] = some ([D.own 60 (out.set (w64 ((out.length : Int) - 1)).toNat (N3 a v c))], [[D.dat (Dat.lst false cs), D.dat (I p7), D.dat (Dat.val (Value.int IntKind.u64 s7))]], []) :=
  hrun_ok [(7, .back [.dat (I z)] [[.dat (.lst false cs), .dat (I p1), .dat (U64 s1)]] []), (9, .back [.dat (T k1 n1 d1)] [[.dat (.lst false cs), .dat (I p2), .dat (U64 s2)]] []), (11, .back [.dat (I q)] [[.dat (.lst false cs), .dat (I p3), .dat (U64 s3)]] []), (200012, .no), (200019, .yes), (22, .back [.dat (T k2 n2 d2)] [[.dat (.lst false cs), .dat (I p5), .dat (U64 s5)]] []), (24, .ret [.dat (T k4 n4 d4)]), (26, .back [.own 60 out] [] []), (28, .back [.dat (I w)] [[.dat (.lst false cs), .dat (I p6), .dat (U64 s6)]] []), (200029, .yes), (37, .back [.dat (I v)] [[.dat (.lst false cs), .dat (I p7), .dat (U64 s7)]] []), (38, .ok), (100039, .at (N3 a b c))] (ob h1 (ob (rfl : false = false) (ob h3 (ob (rfl : false = false) (ob h5 (ob (rfl : false = false) (ob h7 (ob h8 (ob h9 (ob h10 (ob h11 (ob (rfl : false = false) (ob h13 (ob (rfl : false = false) (ob h15 (ob h16 (ob h17 (ob h18 (ob h19 ob0))))))))))))))))))) (by kernel_rfl)
theorem terms_b1 (kk : Nat) (cs : List Dat) (p s : Int) (p1 s1 : Int) (p2 s2 : Int) (p3 s3 : Int) (p4 s4 : Int) (p5 s5 : Int) (p6 s6 : Int) (p7 s7 : Int) (z q w v a b c : Int) (out : List Dat) (k1 n1 : Int) (d1 : List Dat) (k2 n2 : Int) (d2 : List Dat) (k3 n3 : Int) (d3 : List Dat) (k4 n4 : Int) (d4 : List Dat) (h1 : den cfg kk 18 [D.ptr (Ref.up 0) 0, D.dat (I 4)] [[D.dat (Dat.lst false cs), D.dat (I p), D.dat (Dat.val (Value.int IntKind.u64 s))]] [] = some ([D.dat (I z)], [[D.dat (Dat.lst false cs), D.dat (I p1), D.dat (Dat.val (Value.int IntKind.u64 s1))]], [])) (h3 : den cfg kk 33 [D.ptr (Ref.up 0) 0, D.dat (I 0), D.dat (I (w64 (1 + z)))] [[D.dat (Dat.lst false cs), D.dat (I p1), D.dat (Dat.val (Value.int IntKind.u64 s1))]] [] = some ([D.dat (T k1 n1 d1)], [[D.dat (Dat.lst false cs), D.dat (I p2), D.dat (Dat.val (Value.int IntKind.u64 s2))]], [])) (h5 : den cfg kk 18 [D.ptr (Ref.up 0) 0, D.dat (I 5)] [[D.dat (Dat.lst false cs), D.dat (I p2), D.dat (Dat.val (Value.int IntKind.u64 s2))]] [] = some ([D.dat (I q)], [[D.dat (Dat.lst false cs), D.dat (I p3), D.dat (Dat.val (Value.int IntKind.u64 s3))]], [])) (h7 : decide (q = 0) = false) (h8 : decide (q = 1) = true) (h9 : den cfg kk 36 [D.ptr (Ref.up 0) 0] [[D.dat (Dat.lst false cs), D.dat (I p3), D.dat (Dat.val (Value.int IntKind.u64 s3))]] [] = some ([D.dat (T k2 n2 d2)], [[D.dat (Dat.lst false cs), D.dat (I p5), D.dat (Dat.val (Value.int IntKind.u64 s5))]], [])) (h10 : den cfg kk 35 [D.dat (T k2 n2 d2), D.dat (T k1 n1 d1)] [] [] = some ([D.dat (T k4 n4 d4)], [], [])) (h11 : den cfg kk 37 [D.own 60 [], D.dat (T k4 n4 d4), D.dat (I (-1))] [] [] = some ([D.own 60 out], [], [])) (h13 : den cfg kk 18 [D.ptr (Ref.up 0) 0, D.dat (I 40)] [[D.dat (Dat.lst false cs), D.dat (I p5), D.dat (Dat.val (Value.int IntKind.u64 s5))]] [] = some ([D.dat (I w)], [[D.dat (Dat.lst false cs), D.dat (I p6), D.dat (Dat.val (Value.int IntKind.u64 s6))]], [])) (h15 : decide (w = 0) = false) (h16 : decide (w = 1) = true) (h17 : den cfg kk 18 [D.ptr (Ref.up 0) 0, D.dat (I 4)] [[D.dat (Dat.lst false cs), D.dat (I p6), D.dat (Dat.val (Value.int IntKind.u64 s6))]] [] = some ([D.dat (I v)], [[D.dat (Dat.lst false cs), D.dat (I p7), D.dat (Dat.val (Value.int IntKind.u64 s7))]], [])) (h19 : 0 ≤ w64 ((out.length : Int) - 1) ∧ w64 ((out.length : Int) - 1) < (out.length : Int)) (h20 : out[(w64 ((out.length : Int) - 1)).toNat]? = some (N3 a b c)) : runFn cfg kk (den cfg kk) 17 Go.Proofs.Tryz.f17 [.ptr (.up 0) 0] [[.dat (.lst false cs), .dat (I p), .dat (U64 s)]] [] = some ([D.own 60 (out.set (w64 ((out.length : Int) - 1)).toNat (N3 a b (w64 (v - 1))))], [[D.dat (Dat.lst false cs), D.dat (I p7), D.dat (Dat.val (Value.int IntKind.u64 s7))]], []) :=
  hrun_ok [(7, .back [.dat (I z)] [[.dat (.lst false cs), .dat (I p1), .dat (U64 s1)]] []), (9, .back [.dat (T k1 n1 d1)] [[.dat (.lst false cs), .dat (I p2), .dat (U64 s2)]] []), (11, .back [.dat (I q)] [[.dat (.lst false cs), .dat (I p3), .dat (U64 s3)]] []), (200012, .no), (200019, .yes), (22, .back [.dat (T k2 n2 d2)] [[.dat (.lst false cs), .dat (I p5), .dat (U64 s5)]] []), (24, .ret [.dat (T k4 n4 d4)]), (26, .back [.own 60 out] [] []), (28, .back [.dat (I w)] [[.dat (.lst false cs), .dat (I p6), .dat (U64 s6)]] []), (200029, .no), (200040, .yes), (47, .back [.dat (I v)] [[.dat (.lst false cs), .dat (I p7), .dat (U64 s7)]] []), (49, .ok), (100050, .at (N3 a b c))] (ob h1 (ob (rfl : false = false) (ob h3 (ob (rfl : false = false) (ob h5 (ob (rfl : false = false) (ob h7 (ob h8 (ob h9 (ob h10 (ob h11 (ob (rfl : false = false) (ob h13 (ob (rfl : false = false) (ob h15 (ob h16 (ob h17 (ob (rfl : false = false) (ob h19 (ob h20 ob0)))))))))))))))))))) (by kernel_rfl)
theorem terms_b2 (kk : Nat) (cs : List Dat) (p s : Int) (p1 s1 : Int) (p2 s2 : Int) (p3 s3 : Int) (p4 s4 : Int) (p5 s5 : Int) (p6 s6 : Int) (p7 s7 : Int) (z q w v a b c : Int) (out : List Dat) (k1 n1 : Int) (d1 : List Dat) (k2 n2 : Int) (d2 : List Dat) (k3 n3 : Int) (d3 : List Dat) (k4 n4 : Int) (d4 : List Dat) (h1 : den cfg kk 18 [D.ptr (Ref.up 0) 0, D.dat (I 4)] [[D.dat (Dat.lst false cs), D.dat (I p), D.dat (Dat.val (Value.int IntKind.u64 s))]] [] = some ([D.dat (I z)], [[D.dat (Dat.lst false cs), D.dat (I p1), D.dat (Dat.val (Value.int IntKind.u64 s1))]], [])) (h3 : den cfg kk 33 [D.ptr (Ref.up 0) 0, D.dat (I 0), D.dat (I (w64 (1 + z)))] [[D.dat (Dat.lst false cs), D.dat (I p1), D.dat (Dat.val (Value.int IntKind.u64 s1))]] [] = some ([D.dat (T k1 n1 d1)], [[D.dat (Dat.lst false cs), D.dat (I p2), D.dat (Dat.val (Value.int IntKind.u64 s2))]], [])) (h5 : den cfg kk 18 [D.ptr (Ref.up 0) 0, D.dat (I 5)] [[D.dat (Dat.lst false cs), D.dat (I p2), D.dat (Dat.val (Value.int IntKind.u64 s2))]] [] = some ([D.dat (I q)], [[D.dat (Dat.lst false cs), D.dat (I p3), D.dat (Dat.val (Value.int IntKind.u64 s3))]], [])) (h7 : decide (q = 0) = false) (h8 : decide (q = 1) = true) (h9 : den cfg kk 36 [D.ptr (Ref.up 0) 0] [[D.dat (Dat.lst false cs), D.dat (I p3), D.dat (Dat.val (Value.int IntKind.u64 s3))]] [] = some ([D.dat (T k2 n2 d2)], [[D.dat (Dat.lst false cs), D.dat (I p5), D.dat (Dat.val (Value.int IntKind.u64 s5))]], [])) (h10 : den cfg kk 35 [D.dat (T k2 n2 d2), D.dat (T k1 n1 d1)] [] [] = some ([D.dat (T k4 n4 d4)], [], [])) (h11 : den cfg kk 37 [D.own 60 [], D.dat (T k4 n4 d4), D.dat (I (-1))] [] [] = some ([D.own 60 out], [], [])) (h13 : den cfg kk 18 [D.ptr (Ref.up 0) 0, D.dat (I 40)] [[D.dat (Dat.lst false cs), D.dat (I p5), D.dat (Dat.val (Value.int IntKind.u64 s5))]] [] = some ([D.dat (I w)], [[D.dat (Dat.lst false cs), D.dat (I p6), D.dat (Dat.val (Value.int IntKind.u64 s6))]], [])) (h15 : decide (w = 0) = false) (h16 : decide (w = 1) = false) (h17 : decide (w = 2) = true) (h18 : den cfg kk 18 [D.ptr (Ref.up 0) 0, D.dat (I 3)] [[D.dat (Dat.lst false cs), D.dat (I p6), D.dat (Dat.val (Value.int IntKind.u64 s6))]] [] = some ([D.dat (I v)], [[D.dat (Dat.lst false cs), D.dat (I p7), D.dat (Dat.val (Value.int IntKind.u64 s7))]], [])) (h20 : out.length + 1 ≤ 2147483648) : runFn cfg kk (den cfg kk) 17 Go.Proofs.Tryz.f17 [.ptr (.up 0) 0] [[.dat (.lst false cs), .dat (I p), .dat (U64 s)]] [] = some ([D.own 60 (out ++ [N3 (w64 (1 + v)) 0 0])], [[D.dat (Dat.lst false cs), D.dat (I p7), D.dat (Dat.val (Value.int IntKind.u64 s7))]], []) :=
  hrun_ok [(7, .back [.dat (I z)] [[.dat (.lst false cs), .dat (I p1), .dat (U64 s1)]] []), (9, .back [.dat (T k1 n1 d1)] [[.dat (.lst false cs), .dat (I p2), .dat (U64 s2)]] []), (11, .back [.dat (I q)] [[.dat (.lst false cs), .dat (I p3), .dat (U64 s3)]] []), (200012, .no), (200019, .yes), (22, .back [.dat (T k2 n2 d2)] [[.dat (.lst false cs), .dat (I p5), .dat (U64 s5)]] []), (24, .ret [.dat (T k4 n4 d4)]), (26, .back [.own 60 out] [] []), (28, .back [.dat (I w)] [[.dat (.lst false cs), .dat (I p6), .dat (U64 s6)]] []), (200029, .no), (200040, .no), (200051, .yes), (55, .back [.dat (I v)] [[.dat (.lst false cs), .dat (I p7), .dat (U64 s7)]] []), (59, .ok)] (ob h1 (ob (rfl : false = false) (ob h3 (ob (rfl : false = false) (ob h5 (ob (rfl : false = false) (ob h7 (ob h8 (ob h9 (ob h10 (ob h11 (ob (rfl : false = false) (ob h13 (ob (rfl : false = false) (ob h15 (ob h16 (ob h17 (ob h18 (ob (rfl : false = false) (ob (obT h20) ob0)))))))))))))))))))) (by kernel_rfl)
theorem terms_b3 (kk : Nat) (cs : List Dat) (p s : Int) (p1 s1 : Int) (p2 s2 : Int) (p3 s3 : Int) (p4 s4 : Int) (p5 s5 : Int) (p6 s6 : Int) (p7 s7 : Int) (z q w v a b c : Int) (out : List Dat) (k1 n1 : Int) (d1 : List Dat) (k2 n2 : Int) (d2 : List Dat) (k3 n3 : Int) (d3 : List Dat) (k4 n4 : Int) (d4 : List Dat) (h1 : den cfg kk 18 [D.ptr (Ref.up 0) 0, D.dat (I 4)] [[D.dat (Dat.lst false cs), D.dat (I p), D.dat (Dat.val (Value.int IntKind.u64 s))]] [] = some ([D.dat (I z)], [[D.dat (Dat.lst false cs), D.dat (I p1), D.dat (Dat.val (Value.int IntKind.u64 s1))]], [])) (h3 : den cfg kk 33 [D.ptr (Ref.up 0) 0, D.dat (I 0), D.dat (I (w64 (1 + z)))] [[D.dat (Dat.lst false cs), D.dat (I p1), D.dat (Dat.val (Value.int IntKind.u64 s1))]] [] = some ([D.dat (T k1 n1 d1)], [[D.dat (Dat.lst false cs), D.dat (I p2), D.dat (Dat.val (Value.int IntKind.u64 s2))]], [])) (h5 : den cfg kk 18 [D.ptr (Ref.up 0) 0, D.dat (I 5)] [[D.dat (Dat.lst false cs), D.dat (I p2), D.dat (Dat.val (Value.int IntKind.u64 s2))]] [] = some ([D.dat (I q)], [[D.dat (Dat.lst false cs), D.dat (I p3), D.dat (Dat.val (Value.int IntKind.u64 s3))]], [])) (h7 : decide (q = 0) = false) (h8 : decide (q = 1) = true) (h9 : den cfg kk 36 [D.ptr (Ref.up 0) 0] [[D.dat (Dat.lst false cs), D.dat (I p3), D.dat (Dat.val (Value.int IntKind.u64 s3))]] [] = some ([D.dat (T k2 n2 d2)], [[D.dat (Dat.lst false cs), D.dat (I p5), D.dat (Dat.val (Value.int IntKind.u64 s5))]], [])) (h10 : den cfg kk 35 [D.dat (T k2 n2 d2), D.dat (T k1 n1 d1)] [] [] = some ([D.dat (T k4 n4 d4)], [], [])) (h11 : den cfg kk 37 [D.own 60 [], D.dat (T k4 n4 d4), D.dat (I (-1))] [] [] = some ([D.own 60 out], [], [])) (h13 : den cfg kk 18 [D.ptr (Ref.up 0) 0, D.dat (I 40)] [[D.dat (Dat.lst false cs), D.dat (I p5), D.dat (Dat.val (Value.int IntKind.u64 s5))]] [] = some ([D.dat (I w)], [[D.dat (Dat.lst false cs), D.dat (I p6), D.dat (Dat.val (Value.int IntKind.u64 s6))]], [])) (h15 : decide (w = 0) = false) (h16 : decide (w = 1) = false) (h17 : decide (w = 2) = false) : runFn cfg kk (den cfg kk) 17 Go.Proofs.Tryz.f17 [.ptr (.up 0) 0] [[.dat (.lst false cs), .dat (I p), .dat (U64 s)]] [] = some ([D.own 60 out], [[D.dat (Dat.lst false cs), D.dat (I p6), D.dat (Dat.val (Value.int IntKind.u64 s6))]], []) :=
  hrun_ok [(7, .back [.dat (I z)] [[.dat (.lst false cs), .dat (I p1), .dat (U64 s1)]] []), (9, .back [.dat (T k1 n1 d1)] [[.dat (.lst false cs), .dat (I p2), .dat (U64 s2)]] []), (11, .back [.dat (I q)] [[.dat (.lst false cs), .dat (I p3), .dat (U64 s3)]] []), (200012, .no), (200019, .yes), (22, .back [.dat (T k2 n2 d2)] [[.dat (.lst false cs), .dat (I p5), .dat (U64 s5)]] []), (24, .ret [.dat (T k4 n4 d4)]), (26, .back [.own 60 out] [] []), (28, .back [.dat (I w)] [[.dat (.lst false cs), .dat (I p6), .dat (U64 s6)]] []), (200029, .no), (200040, .no), (200051, .no)] (ob h1 (ob (rfl : false = false) (ob h3 (ob (rfl : false = false) (ob h5 (ob (rfl : false = false) (ob h7 (ob h8 (ob h9 (ob h10 (ob h11 (ob (rfl : false = false) (ob h13 (ob (rfl : false = false) (ob h15 (ob h16 (ob h17 ob0))))))))))))))))) (by kernel_rfl)
theorem terms_c0 (kk : Nat) (cs : List Dat) (p s : Int) (p1 s1 : Int) (p2 s2 : Int) (p3 s3 : Int) (p4 s4 : Int) (p5 s5 : Int) (p6 s6 : Int) (p7 s7 : Int) (z q w v a b c : Int) (out : List Dat) (k1 n1 : Int) (d1 : List Dat) (k2 n2 : Int) (d2 : List Dat) (k3 n3 : Int) (d3 : List Dat) (k4 n4 : Int) (d4 : List Dat) (h1 : den cfg kk 18 [D.ptr (Ref.up 0) 0, D.dat (I 4)] [[D.dat (Dat.lst false cs), D.dat (I p), D.dat (Dat.val (Value.int IntKind.u64 s))]] [] = some ([D.dat (I z)], [[D.dat (Dat.lst false cs), D.dat (I p1), D.dat (Dat.val (Value.int IntKind.u64 s1))]], [])) (h3 : den cfg kk 33 [D.ptr (Ref.up 0) 0, D.dat (I 0), D.dat (I (w64 (1 + z)))] [[D.dat (Dat.lst false cs), D.dat (I p1), D.dat (Dat.val (Value.int IntKind.u64 s1))]] [] = some ([D.dat (T k1 n1 d1)], [[D.dat (Dat.lst false cs), D.dat (I p2), D.dat (Dat.val (Value.int IntKind.u64 s2))]], [])) (h5 : den cfg kk 18 [D.ptr (Ref.up 0) 0, D.dat (I 5)] [[D.dat (Dat.lst false cs), D.dat (I p2), D.dat (Dat.val (Value.int IntKind.u64 s2))]] [] = some ([D.dat (I q)], [[D.dat (Dat.lst false cs), D.dat (I p3), D.dat (Dat.val (Value.int IntKind.u64 s3))]], [])) (h7 : decide (q = 0) = false) (h8 : decide (q = 1) = false) (h9 : den cfg kk 37 [D.own 60 [], D.dat (T k1 n1 d1), D.dat (I (-1))] [] [] = some ([D.own 60 out], [], [])) (h11 : den cfg kk 18 [D.ptr (Ref.up 0) 0, D.dat (I 40)] [[D.dat (Dat.lst false cs), D.dat (I p3), D.dat (Dat.val (Value.int IntKind.u64 s3))]] [] = some ([D.dat (I w)], [[D.dat (Dat.lst false cs), D.dat (I p6), D.dat (Dat.val (Value.int IntKind.u64 s6))]], [])) (h13 : decide (w = 0) = true) (h14 : den cfg kk 45 [D.ptr (Ref.up 0) 0, D.dat (Dat.lst true [I (-1), I 99, I 100])] [[D.dat (Dat.lst false cs), D.dat (I p6), D.dat (Dat.val (Value.int IntKind.u64 s6))]] [] = some ([D.dat (I v)], [[D.dat (Dat.lst false cs), D.dat (I p7), D.dat (Dat.val (Value.int IntKind.u64 s7))]], [])) (h15 : (true && !(true && (true && cleanBoxes [[D.dat (Dat.lst false cs), D.dat (I p7), D.dat (Dat.val (Value.int IntKind.u64 s7))]])) || false) = false) (h16 : 0 ≤ w64 ((out.length : Int) - 1) ∧ w64 ((out.length : Int) - 1) < (out.length : Int)) (h17 : out[(w64 ((out.length : Int) - 1)).toNat]? = some (N3 a b c)) : runFn cfg kk (den cfg kk) 17 Go.Proofs.Tryz.f17 [.ptr (.up 0) 0] [[.dat (.lst false cs), .dat (I p), .dat (U64 s)]] [] = some ([D.own 60 (out.set (w64 ((out.length : Int) - 1)).toNat (N3 a v c))], [[D.dat (Dat.lst false cs), D.dat (I p7), D.dat (Dat.val (Value.int IntKind.u64 s7))]], []) :=
  hrun_ok [(7, .back [.dat (I z)] [[.dat (.lst false cs), .dat (I p1), .dat (U64 s1)]] []), (9, .back [.dat (T k1 n1 d1)] [[.dat (.lst false cs), .dat (I p2), .dat (U64 s2)]] []), (11, .back [.dat (I q)] [[.dat (.lst false cs), .dat (I p3), .dat (U64 s3)]] []), (200012, .no), (200019, .no), (26, .back [.own 60 out] [] []), (28, .back [.dat (I w)] [[.dat (.lst false cs), .dat (I p6), .dat (U64 s6)]] []), (200029, .yes), (37, .back [.dat (I v)] [[.dat (.lst false cs), .dat (I p7), .dat (U64 s7)]] []), (38, .ok), (100039, .at (N3 a b c))] (ob h1 (ob (rfl : false = false) (ob h3 (ob (rfl : false = false) (ob h5 (ob (rfl : false = false) (ob h7 (ob h8 (ob h9 (ob (rfl : false = false) (ob h11 (ob (rfl : false = false) (ob h13 (ob h14 (ob h15 (ob h16 (ob h17 ob0))))))))))))))))) (by kernel_rfl)
theorem terms_c1 (kk : Nat) (cs : List Dat) (p s : Int) (p1 s1 : Int) (p2 s2 : Int) (p3 s3 : Int) (p4 s4 : Int) (p5 s5 : Int) (p6 s6 : Int) (p7 s7 : Int) (z q w v a b c : Int) (out : List Dat) (k1 n1 : Int) (d1 : List Dat) (k2 n2 : Int) (d2 : List Dat) (k3 n3 : Int) (d3 : List Dat) (k4 n4 : Int) (d4 : List Dat) (h1 : den cfg kk 18 [D.ptr (Ref.up 0) 0, D.dat (I 4)] [[D.dat (Dat.lst false cs), D.dat (I p), D.dat (Dat.val (Value.int IntKind.u64 s))]] [] = some ([D.dat (I z)], [[D.dat (Dat.lst false cs), D.dat (I p1), D.dat (Dat.val (Value.int IntKind.u64 s1))]], [])) (h3 : den cfg kk 33 [D.ptr (Ref.up 0) 0, D.dat (I 0), D.dat (I (w64 (1 + z)))] [[D.dat (Dat.lst false cs), D.dat (I p1), D.dat (Dat.val (Value.int IntKind.u64 s1))]] [] = some ([D.dat (T k1 n1 d1)], [[D.dat (Dat.lst false cs), D.dat (I p2), D.dat (Dat.val (Value.int IntKind.u64 s2))]], [])) (h5 : den cfg kk 18 [D.ptr (Ref.up 0) 0, D.dat (I 5)] [[D.dat (Dat.lst false cs), D.dat (I p2), D.dat (Dat.val (Value.int IntKind.u64 s2))]] [] = some ([D.dat (I q)], [[D.dat (Dat.lst false cs), D.dat (I p3), D.dat (Dat.val (Value.int IntKind.u64 s3))]], [])) (h7 : decide (q = 0) = false) (h8 : decide (q = 1) = false) (h9 : den cfg kk 37 [D.own 60 [], D.dat (T k1 n1 d1), D.dat (I (-1))] [] [] = some ([D.own 60 out], [], [])) (h11 : den cfg kk 18 [D.ptr (Ref.up 0) 0, D.dat (I 40)] [[D.dat (Dat.lst false cs), D.dat (I p3), D.dat (Dat.val (Value.int IntKind.u64 s3))]] [] = some ([D.dat (I w)], [[D.dat (Dat.lst false cs), D.dat (I p6), D.dat (Dat.val (Value.int IntKind.u64 s6))]], [])) (h13 : decide (w = 0) = false) (h14 : decide (w = 1) = true) (h15 : den cfg kk 18 [D.ptr (Ref.up 0) 0, D.dat (I 4)] [[D.dat (Dat.lst false cs), D.dat (I p6), D.dat (Dat.val (Value.int IntKind.u64 s6))]] [] = some ([D.dat (I v)], [[D.dat (Dat.lst false cs), D.dat (I p7), D.dat (Dat.val (Value.int IntKind.u64 s7))]], [])) (h17 : 0 ≤ w64 ((out.length : Int) - 1) ∧ w64 ((out.length : Int) - 1) < (out.length : Int)) (h18 : out[(w64 ((out.length : Int) - 1)).toNat]? = some (N3 a b c)) : runFn cfg kk (den cfg kk) 17 Go.Proofs.Tryz.f17 [.ptr (.up 0) 0] [[.dat (.lst false cs), .dat (I p), .dat (U64 s)]] [] = some ([D.own 60 (out.set (w64 ((out.length : Int) - 1)).toNat (N3 a b (w64 (v - 1))))], [[D.dat (Dat.lst false cs), D.dat (I p7), D.dat (Dat.val (Value.int IntKind.u64 s7))]], []) :=
  hrun_ok [(7, .back [.dat (I z)] [[.dat (.lst false cs), .dat (I p1), .dat (U64 s1)]] []), (9, .back [.dat (T k1 n1 d1)] [[.dat (.lst false cs), .dat (I p2), .dat (U64 s2)]] []), (11, .back [.dat (I q)] [[.dat (.lst false cs), .dat (I p3), .dat (U64 s3)]] []), (200012, .no), (200019, .no), (26, .back [.own 60 out] [] []), (28, .back [.dat (I w)] [[.dat (.lst false cs), .dat (I p6), .dat (U64 s6)]] []), (200029, .no), (200040, .yes), (47, .back [.dat (I v)] [[.dat (.lst false cs), .dat (I p7), .dat (U64 s7)]] []), (49, .ok), (100050, .at (N3 a b c))] (ob h1 (ob (rfl : false = false) (ob h3 (ob (rfl : false = false) (ob h5 (ob (rfl : false = false) (ob h7 (ob h8 (ob h9 (ob (rfl : false = false) (ob h11 (ob (rfl : false = false) (ob h13 (ob h14 (ob h15 (ob (rfl : false = false) (ob h17 (ob h18 ob0)))))))))))))))))) (by kernel_rfl)
theorem terms_c2 (kk : Nat) (cs : List Dat) (p s : Int) (p1 s1 : Int) (p2 s2 : Int) (p3 s3 : Int) (p4 s4 : Int) (p5 s5 : Int) (p6 s6 : Int) (p7 s7 : Int) (z q w v a b c : Int) (out : List Dat) (k1 n1 : Int) (d1 : List Dat) (k2 n2 : Int) (d2 : List Dat) (k3 n3 : Int) (d3 : List Dat) (k4 n4 : Int) (d4 : List Dat) (h1 : den cfg kk 18 [D.ptr (Ref.up 0) 0, D.dat (I 4)] [[D.dat (Dat.lst false cs), D.dat (I p), D.dat (Dat.val (Value.int IntKind.u64 s))]] [] = some ([D.dat (I z)], [[D.dat (Dat.lst false cs), D.dat (I p1), D.dat (Dat.val (Value.int IntKind.u64 s1))]], [])) (h3 : den cfg kk 33 [D.ptr (Ref.up 0) 0, D.dat (I 0), D.dat (I (w64 (1 + z)))] [[D.dat (Dat.lst false cs), D.dat (I p1), D.dat (Dat.val (Value.int IntKind.u64 s1))]] [] = some ([D.dat (T k1 n1 d1)], [[D.dat (Dat.lst false cs), D.dat (I p2), D.dat (Dat.val (Value.int IntKind.u64 s2))]], [])) (h5 : den cfg kk 18 [D.ptr (Ref.up 0) 0, D.dat (I 5)] [[D.dat (Dat.lst false cs), D.dat (I p2), D.dat (Dat.val (Value.int IntKind.u64 s2))]] [] = some ([D.dat (I q)], [[D.dat (Dat.lst false cs), D.dat (I p3), D.dat (Dat.val (Value.int IntKind.u64 s3))]], [])) (h7 : decide (q = 0) = false) (h8 : decide (q = 1) = false) (h9 : den cfg kk 37 [D.own 60 [], D.dat (T k1 n1 d1), D.dat (I (-1))] [] [] = some ([D.own 60 out], [], [])) (h11 : den cfg kk 18 [D.ptr (Ref.up 0) 0, D.dat (I 40)] [[D.dat (Dat.lst false cs), D.dat (I p3), D.dat (Dat.val (Value.int IntKind.u64 s3))]] [] = some ([D.dat (I w)], [[D.dat (Dat.lst false cs), D.dat (I p6), D.dat (Dat.val (Value.int IntKind.u64 s6))]], [])) (h13 : decide (w = 0) = false) (h14 : decide (w = 1) = false) (h15 : decide (w = 2) = true) (h16 : den cfg kk 18 [D.ptr (Ref.up 0) 0, D.dat (I 3)] [[D.dat (Dat.lst false cs), D.dat (I p6), D.dat (Dat.val (Value.int IntKind.u64 s6))]] [] = some ([D.dat (I v)], [[D.dat (Dat.lst false cs), D.dat (I p7), D.dat (Dat.val (Value.int IntKind.u64 s7))]], [])) (h18 : out.length + 1 ≤ 2147483648) : runFn cfg kk (den cfg kk) 17 Go.Proofs.Tryz.f17 [.ptr (.up 0) 0] [[.dat (.lst false cs), .dat (I p), .dat (U64 s)]] [] = some ([D.own 60 (out ++ [N3 (w64 (1 + v)) 0 0])], [[D.dat (Dat.lst false cs), D.dat (I p7), D.dat (Dat.val (Value.int IntKind.u64 s7))]], []) :=
  hrun_ok [(7, .back [.dat (I z)] [[.dat (.lst false cs), .dat (I p1), .dat (U64 s1)]] []), (9, .back [.dat (T k1 n1 d1)] [[.dat (.lst false cs), .dat (I p2), .dat (U64 s2)]] []), (11, .back [.dat (I q)] [[.dat (.lst false cs), .dat (I p3), .dat (U64 s3)]] []), (200012, .no), (200019, .no), (26, .back [.own 60 out] [] []), (28, .back [.dat (I w)] [[.dat (.lst false cs), .dat (I p6), .dat (U64 s6)]] []), (200029, .no), (200040, .no), (200051, .yes), (55, .back [.dat (I v)] [[.dat (.lst false cs), .dat (I p7), .dat (U64 s7)]] []), (59, .ok)] (ob h1 (ob (rfl : false = false) (ob h3 (ob (rfl : false = false) (ob h5 (ob (rfl : false = false) (ob h7 (ob h8 (ob h9 (ob (rfl : false = false) (ob h11 (ob (rfl : false = false) (ob h13 (ob h14 (ob h15 (ob h16 (ob (rfl : false = false) (ob (obT h18) ob0)))))))))))))))))) (by kernel_rfl)
theorem terms_c3 (kk : Nat) (cs : List Dat) (p s : Int) (p1 s1 : Int) (p2 s2 : Int) (p3 s3 : Int) (p4 s4 : Int) (p5 s5 : Int) (p6 s6 : Int) (p7 s7 : Int) (z q w v a b c : Int) (out : List Dat) (k1 n1 : Int) (d1 : List Dat) (k2 n2 : Int) (d2 : List Dat) (k3 n3 : Int) (d3 : List Dat) (k4 n4 : Int) (d4 : List Dat) (h1 : den cfg kk 18 [D.ptr (Ref.up 0) 0, D.dat (I 4)] [[D.dat (Dat.lst false cs), D.dat (I p), D.dat (Dat.val (Value.int IntKind.u64 s))]] [] = some ([D.dat (I z)], [[D.dat (Dat.lst false cs), D.dat (I p1), D.dat (Dat.val (Value.int IntKind.u64 s1))]], [])) (h3 : den cfg kk 33 [D.ptr (Ref.up 0) 0, D.dat (I 0), D.dat (I (w64 (1 + z)))] [[D.dat (Dat.lst false cs), D.dat (I p1), D.dat (Dat.val (Value.int IntKind.u64 s1))]] [] = some ([D.dat (T k1 n1 d1)], [[D.dat (Dat.lst false cs), D.dat (I p2), D.dat (Dat.val (Value.int IntKind.u64 s2))]], [])) (h5 : den cfg kk 18 [D.ptr (Ref.up 0) 0, D.dat (I 5)] [[D.dat (Dat.lst false cs), D.dat (I p2), D.dat (Dat.val (Value.int IntKind.u64 s2))]] [] = some ([D.dat (I q)], [[D.dat (Dat.lst false cs), D.dat (I p3), D.dat (Dat.val (Value.int IntKind.u64 s3))]], [])) (h7 : decide (q = 0) = false) (h8 : decide (q = 1) = false) (h9 : den cfg kk 37 [D.own 60 [], D.dat (T k1 n1 d1), D.dat (I (-1))] [] [] = some ([D.own 60 out], [], [])) (h11 : den cfg kk 18 [D.ptr (Ref.up 0) 0, D.dat (I 40)] [[D.dat (Dat.lst false cs), D.dat (I p3), D.dat (Dat.val (Value.int IntKind.u64 s3))]] [] = some ([D.dat (I w)], [[D.dat (Dat.lst false cs), D.dat (I p6), D.dat (Dat.val (Value.int IntKind.u64 s6))]], [])) (h13 : decide (w = 0) = false) (h14 : decide (w = 1) = false) (h15 : decide (w = 2) = false) : runFn cfg kk (den cfg kk) 17 Go.Proofs.Tryz.f17 [.ptr (.up 0) 0] [[.dat (.lst false cs), .dat (I p), .dat (U64 s)]] [] = some ([D.own 60 out], [[D.dat (Dat.lst false cs), D.dat (I p6), D.dat (Dat.val (Value.int IntKind.u64 s6))]], []) :=
  hrun_ok [(7, .back [.dat (I z)] [[.dat (.lst false cs), .dat (I p1), .dat (U64 s1)]] []), (9, .back [.dat (T k1 n1 d1)] [[.dat (.lst false cs), .dat (I p2), .dat (U64 s2)]] []), (11, .back [.dat (I q)] [[.dat (.lst false cs), .dat (I p3), .dat (U64 s3)]] []), (200012, .no), (200019, .no), (26, .back [.own 60 out] [] []), (28, .back [.dat (I w)] [[.dat (.lst false cs), .dat (I p6), .dat (U64 s6)]] []), (200029, .no), (200040, .no), (200051, .no)] (ob h1 (ob (rfl : false = false) (ob h3 (ob (rfl : false = false) (ob h5 (ob (rfl : false = false) (ob h7 (ob h8 (ob h9 (ob (rfl : false = false) (ob h11 (ob (rfl : false = false) (ob h13 (ob h14 (ob h15 ob0))))))))))))))) (by kernel_rfl)
def h2_9 (b1 b2 : Bool) (xs ys : List Dat) (i : Int) : St := Nm [0, 1, 12, 13] [.dat (.lst b1 xs), .dat (.lst b2 ys), .dat (I xs.length), .dat (I i)] [none, none, none, none] [] []
theorem same_go (kk m : Nat) {s : St} {K : X → St → Prop} (b1 b2 : Bool) (xs ys : List Dat) (i a b c a' b' c' : Int) (hs : s.norm ((envOf cfg kk 9 Go.Proofs.Tryz.f9).live (firstRegion (lp Go.Proofs.Tryz.f9 4))) = h2_9 b1 b2 xs ys i) (h1 : decide (i < (xs.length : Int)) = true) (h2 : (0 ≤ i ∧ i < (xs.length : Int)) ∧ xs[i.toNat]? = some (N3 a b c)) (h3 : (0 ≤ i ∧ i < (ys.length : Int)) ∧ ys[i.toNat]? = some (N3 a' b' c')) (h4 : (!(decide (a = a') && (decide (b = b') && (decide (c = c') && true)))) = false) (hn : ∀ s : St, s.norm ((envOf cfg kk 9 Go.Proofs.Tryz.f9).live (firstRegion (lp Go.Proofs.Tryz.f9 4))) = Nm [0, 1, 12, 13] [D.dat (Dat.lst b1 xs), D.dat (Dat.lst b2 ys), D.dat (I (xs.length : Int)), D.dat (I (w64 (i + 1)))] [none, none, none, none] [] [] → Rounds (envOf cfg kk 9 Go.Proofs.Tryz.f9) kk (lp Go.Proofs.Tryz.f9 4) m s K) : Rounds (envOf cfg kk 9 Go.Proofs.Tryz.f9) kk (lp Go.Proofs.Tryz.f9 4) (m + 1) s K :=
  rounds_go [(200014, .yes), (18, .at (N3 a b c)), (22, .at (N3 a' b' c')), (200024, .no)] hs (by kernel_rfl) (ob h1 (ob h2 (ob h3 (ob h4 ob0)))) (by kernel_rfl) hn
theorem same_end (kk m : Nat) {s : St} {K : X → St → Prop} (b1 b2 : Bool) (xs ys : List Dat) (i : Int) (hs : s.norm ((envOf cfg kk 9 Go.Proofs.Tryz.f9).live (firstRegion (lp Go.Proofs.Tryz.f9 4))) = h2_9 b1 b2 xs ys i) (h1 : decide (i < (xs.length : Int)) = false) (hK : K (X.exit 0) (Nm [4] [D.junk] [none] [] [])) : Rounds (envOf cfg kk 9 Go.Proofs.Tryz.f9) kk (lp Go.Proofs.Tryz.f9 4) (m + 1) s K :=
  rounds_end [(200014, .no)] hs (by kernel_rfl) rfl (ob h1 ob0) (by kernel_rfl) hK
theorem same_y (kk : Nat) (b1 b2 : Bool) (xs ys : List Dat) (h1 : (!decide ((xs.length : Int) = (ys.length : Int))) = false) (h3 : LoopAt cfg kk 9 Go.Proofs.Tryz.f9 4 (h2_9 b1 b2 xs ys 0) (X.exit 0) (Nm [4] [D.junk] [none] [] [])) : runFn cfg kk (den cfg kk) 9 Go.Proofs.Tryz.f9 [.dat (Dat.lst b1 xs), .dat (Dat.lst b2 ys)] [] [] = some ([D.dat (B true)], [], []) :=
  hrun_ok [(200010, .no), (300004, .loop (h2_9 b1 b2 xs ys 0) (.exit 0) (Nm [4] [.junk] [none] [] []))] (ob h1 (ob (rfl : _ = h2_9 b1 b2 xs ys 0) (ob h3 ob0))) (by kernel_rfl)
end Go.Den
namespace Go.Den
open Go
set_option linter.unusedVariables false
set_option maxRecDepth 100000
abbrev cp : D := .ptr (.up 0) 0
abbrev Cur (cs : List Dat) (p s : Int) : List D := [.dat (.lst false cs), .dat (I p), .dat (U64 s)]
def Bs (cs : List Dat) : Prop := cs.length ≤ 9223372036854775807 ∧ ∀ d ∈ cs, ∃ x : Int, d = Y8 x ∧ 0 ≤ x ∧ x ≤ 255
theorem cleans_Y8 : ∀ {cs : List Dat}, (∀ d ∈ cs, ∃ x : Int, d = Y8 x ∧ 0 ≤ x ∧ x ≤ 255) → Dat.cleans cs = true
  | [], _ => rfl
  | d :: cs, h => by
    obtain ⟨x, rfl, _⟩ := h d (by simp)
    have := cleans_Y8 fun e he => h e (List.mem_cons_of_mem _ he)
    simp only [Dat.cleans, this, Bool.and_true]
    rfl
theorem Bs.cleans {cs : List Dat} (h : Bs cs) : Dat.cleans cs = true := cleans_Y8 h.2
theorem Bs.box {cs : List Dat} (h : Bs cs) (p s : Int) : cleanBoxes [Cur cs p s] = true := by
  have hb := h.cleans
  show (((Dat.lst false cs).clean && true) && true) = true
  show ((Dat.cleans cs && true) && true) = true
  rw [hb]
  rfl
theorem byte_of {d : Dat} (h : WT cfg.ty 5 d) : ∃ x : Int, d = Y8 x ∧ 0 ≤ x ∧ x ≤ 255 := by
  obtain ⟨n, h1, h2⟩ := wt_int h (i := ⟨.int .u8, 1, 1, [], [.dat (.val (.int .u8 0))]⟩) (by kernel_rfl) rfl
  refine ⟨n, h1, ?_⟩
  simp only [Lit.wf, Bool.and_eq_true, decide_eq_true_eq] at h2
  exact h2
theorem bytes_of {d : Dat} (h : WT cfg.ty 22 d) : ∃ cs : List Dat, d = .lst false cs ∧ Bs cs := by
  obtain ⟨es, rfl, hl, hx⟩ := wt_lst h (i := ⟨.slice 5, 1, 24, [], [.own 5 []]⟩) (by kernel_rfl) rfl
  exact ⟨es, rfl, hl, fun x hxe => byte_of (hx x hxe)⟩
theorem small_u64 (n : Nat) (h : n ≤ 255) : w64 (IntKind.u64.wrap (n : Int)) = n := by
  have : IntKind.u64.wrap (n : Int) = n := by
    simp [IntKind.wrap, IntKind.bits, IntKind.signed]; omega
  rw [this, w64_eq (by omega)]
theorem and_255 (x : Int) : ((BitVec.ofInt IntKind.u64.bits x &&& BitVec.ofInt IntKind.u64.bits 255).toNat : Nat) ≤ 255 := by
  rw [BitVec.toNat_and]
  exact Nat.and_le_right
theorem ev_next {cs : List Dat} (hb : Bs cs) (p s : Int) (h0 : 0 ≤ p) (h1 : p ≤ 1000000) : ∃ z s' : Int, 0 ≤ z ∧ z ≤ 255 ∧ EvN 1 46 [cp] [Cur cs p s] [] ([.dat (I z)], [Cur cs (p + 1) s'], []) := by
  have hp : w64 (p + 1) = p + 1 := w64_eq (by omega)
  by_cases hlt : p < (cs.length : Int)
  · have hget : cs[p.toNat]? = some (cs[p.toNat]'(by omega)) := List.getElem?_eq_getElem (by omega)
    obtain ⟨x, hx, hx0, hx1⟩ := hb.2 _ (List.getElem_mem (l := cs) (n := p.toNat) (by omega))
    refine ⟨x, IntKind.u64.wrap (IntKind.u64.wrap (IntKind.u64.wrap (s * 6364136223846793005) + IntKind.u64.wrap (w64 x)) + 1442695040888963407), hx0, hx1, ev_fn Go.Proofs.Tryz.f46 0 (by kernel_rfl) (by kernel_rfl) fun kk _ => ?_⟩
    have := next_in kk cs p s x (decide_eq_true hlt) ⟨⟨h0, hlt⟩, by rw [hget, hx]⟩ (by rw [hp]; exact decide_eq_true (by omega))
    have hx' : w64 x = x := w64_eq (by omega)
    rw [hp] at this
    rw [hx'] at this ⊢
    exact this
  · have h := fun kk => next_out kk cs p s (decide_eq_false hlt) (by rw [hp]; exact decide_eq_false (by omega))
    simp only [hp] at h
    generalize hS : IntKind.u64.wrap (IntKind.u64.wrap (IntKind.u64.wrap (s * 6364136223846793005) + IntKind.u64.wrap 0) + 1442695040888963407) = S' at h
    have hz := and_255 (S'.fdiv (2 ^ min (Int.toNat 40) IntKind.u64.bits))
    generalize hZ : (BitVec.ofInt IntKind.u64.bits (S'.fdiv (2 ^ min (Int.toNat 40) IntKind.u64.bits)) &&& BitVec.ofInt IntKind.u64.bits 255).toNat = Z at h hz
    rw [small_u64 Z hz] at h
    exact ⟨Z, S', by omega, by omega, ev_fn Go.Proofs.Tryz.f46 0 (by kernel_rfl) (by kernel_rfl) fun kk _ => h kk⟩
theorem ev_pick {cs : List Dat} (hb : Bs cs) (n p s : Int) (h0 : 0 ≤ p) (h1 : p ≤ 900000) (hn : n ≤ 1000000) : ∃ z p' s' : Int, p ≤ p' ∧ p' ≤ p + 2 ∧ 0 ≤ z ∧ (z < n ∨ z = 0) ∧
    EvN 2 18 [cp, .dat (I n)] [Cur cs p s] [] ([.dat (I z)], [Cur cs p' s'], []) := by
  by_cases h : n ≤ 1
  · refine ⟨0, p, s, by omega, by omega, by omega, .inr rfl, ev_fn Go.Proofs.Tryz.f18 1 (by kernel_rfl) (by kernel_rfl) fun kk _ => ?_⟩
    exact pick_0 kk cs p s n (decide_eq_true h)
  · obtain ⟨z, s', hz0, hz1, hz⟩ := ev_next hb p s h0 (by omega)
    by_cases hbig : 200 < n
    · obtain ⟨w, s2, hw0, hw1, hw⟩ := ev_next hb (p + 1) s' (by omega) (by omega)
      refine ⟨(z * 256 + w).tmod n, p + 1 + 1, s2, by omega, by omega, Int.tmod_nonneg _ (by omega), .inl (Int.tmod_lt_of_pos _ (by omega)), ev_fn Go.Proofs.Tryz.f18 1 (by kernel_rfl) (by kernel_rfl) fun kk hk => ?_⟩
      have := pick_2 kk cs p s (p + 1) s' (p + 1 + 1) s2 n z w (decide_eq_false h) (hz kk hk) (decide_eq_true hbig) (hw kk hk) (by omega)
      rw [w64_eq (n := z * 256) (by omega), w64_eq (n := z * 256 + w) (by omega)] at this
      exact this
    · refine ⟨z.tmod n, p + 1, s', by omega, by omega, Int.tmod_nonneg _ (by omega), .inl (Int.tmod_lt_of_pos _ (by omega)), ev_fn Go.Proofs.Tryz.f18 1 (by kernel_rfl) (by kernel_rfl) fun kk hk => ?_⟩
      exact pick_1 kk cs p s (p + 1) s' n z (decide_eq_false h) (hz kk hk) (decide_eq_false hbig) (by omega)
theorem ev_one {cs : List Dat} (hb : Bs cs) (n p s : Int) (h0 : 0 ≤ p) (h1 : p ≤ 900000) (hn : n ≤ 1000000) : ∃ (b : Bool) (p' s' : Int), p ≤ p' ∧ p' ≤ p + 2 ∧
    EvN 3 34 [cp, .dat (I n)] [Cur cs p s] [] ([.dat (B b)], [Cur cs p' s'], []) := by
  obtain ⟨z, p', s', hp1, hp2, _, _, hz⟩ := ev_pick hb n p s h0 h1 hn
  exact ⟨decide (z = 0), p', s', hp1, hp2, ev_fn Go.Proofs.Tryz.f34 2 (by kernel_rfl) (by kernel_rfl) fun kk hk => one_ kk cs p s p' s' n z (hz kk hk)⟩
theorem ev_among {cs : List Dat} (hb : Bs cs) (b : Bool) (vs : List Int) (p s : Int) (h0 : 0 ≤ p) (h1 : p ≤ 900000) (hv : 0 < vs.length ∧ vs.length ≤ 100000) : ∃ (v p' s' : Int), v ∈ vs ∧ p ≤ p' ∧ p' ≤ p + 2 ∧
    EvN 3 45 [cp, .dat (.lst b (vs.map I))] [Cur cs p s] [] ([.dat (I v)], [Cur cs p' s'], []) := by
  obtain ⟨z, p', s', hp1, hp2, hz0, hz1, hz⟩ := ev_pick hb (vs.length : Int) p s h0 h1 (by omega)
  have hlt : z.toNat < vs.length := by omega
  refine ⟨vs[z.toNat], p', s', List.getElem_mem _, hp1, hp2, ev_fn Go.Proofs.Tryz.f45 2 (by kernel_rfl) (by kernel_rfl) fun kk hk => ?_⟩
  refine among kk cs p s p' s' b (vs.map I) z vs[z.toNat] ?_ ⟨⟨hz0, by rw [List.length_map]; omega⟩, ?_⟩
  · rw [List.length_map]; exact hz kk hk
  · rw [List.getElem?_map, List.getElem?_eq_getElem hlt]; rfl
theorem ev_of {cs : List Dat} (hb : Bs cs) (b : Bool) (vs : List ByteArray) (p s : Int) (h0 : 0 ≤ p) (h1 : p ≤ 900000) (hv : 0 < vs.length ∧ vs.length ≤ 100000) : ∃ (v : ByteArray) (p' s' : Int), v ∈ vs ∧ p ≤ p' ∧ p' ≤ p + 2 ∧
    EvN 3 66 [cp, .dat (.lst b (vs.map S))] [Cur cs p s] [] ([.dat (S v)], [Cur cs p' s'], []) := by
  obtain ⟨z, p', s', hp1, hp2, hz0, hz1, hz⟩ := ev_pick hb (vs.length : Int) p s h0 h1 (by omega)
  have hlt : z.toNat < vs.length := by omega
  refine ⟨vs[z.toNat], p', s', List.getElem_mem _, hp1, hp2, ev_fn Go.Proofs.Tryz.f66 2 (by kernel_rfl) (by kernel_rfl) fun kk hk => ?_⟩
  refine of_ kk cs p s p' s' b (vs.map S) z vs[z.toNat] ?_ ⟨⟨hz0, by rw [List.length_map]; omega⟩, ?_⟩
  · rw [List.length_map]; exact hz kk hk
  · rw [List.getElem?_map, List.getElem?_eq_getElem hlt]; rfl
def pw : Nat → Nat
  | 0 => 1
  | d + 1 => 2 * pw d
theorem pw_pos : ∀ d, 1 ≤ pw d
  | 0 => Nat.le_refl _
  | d + 1 => by have := pw_pos d; simp only [pw]; omega
/-- a drawn term: what is known of it -/
structure Dr (d : Nat) (t : Pt) : Prop where
  sz : t.size + 2 ≤ 4 * pw d
  dp : t.depth ≤ 2 * d + 1
  nm : t.nums = true
theorem Dr.var {d : Nat} {n : Int} (h : 0 ≤ n ∧ n ≤ 99) : Dr d (.var n) := by
  have := pw_pos d
  exact ⟨by simp only [Pt.size]; omega, by simp only [Pt.depth]; omega, by simp [Pt.nums, h.1, h.2]⟩
theorem ev_term {cs : List Dat} (hb : Bs cs) : ∀ (d : Nat) (u p s : Int), 0 ≤ u → u + d ≤ 90 → 0 ≤ p → p + 10 * pw d ≤ 900000 →
    ∃ (t : Pt) (p' s' : Int), Dr d t ∧ p ≤ p' ∧ p' + 4 ≤ p + 10 * pw d ∧ EvN (d + 6) 33 [cp, .dat (I u), .dat (I d)] [Cur cs p s] [] ([.dat t.d], [Cur cs p' s'], []) := by
  -- a variable, behind the first number
  have hvar : ∀ (d : Nat) (u p s : Int), 0 ≤ u → u + d ≤ 90 → 0 ≤ p → p + 4 ≤ 900000 → ∃ (n p' s' : Int), 0 ≤ n ∧ n ≤ 99 ∧ p ≤ p' ∧ p' ≤ p + 4 ∧
      ((decide (0 < u) = false ∧ ∃ w, n = u + w ∧ w64 (u + w) = u + w ∧ EvN 2 18 [cp, .dat (I 3)] [Cur cs p s] [] ([.dat (I w)], [Cur cs p' s'], [])) ∨
       (decide (0 < u) = true ∧ ∃ w p1 s1, n = u + w ∧ w64 (u + w) = u + w ∧ EvN 3 34 [cp, .dat (I 6)] [Cur cs p s] [] ([.dat (B true)], [Cur cs p1 s1], []) ∧ EvN 2 18 [cp, .dat (I 3)] [Cur cs p1 s1] [] ([.dat (I w)], [Cur cs p' s'], [])) ∨
       (decide (0 < u) = true ∧ ∃ p1 s1, EvN 3 34 [cp, .dat (I 6)] [Cur cs p s] [] ([.dat (B false)], [Cur cs p1 s1], []) ∧ EvN 2 18 [cp, .dat (I u)] [Cur cs p1 s1] [] ([.dat (I n)], [Cur cs p' s'], []))) := by
    intro d u p s h1 h2 h3 h4
    by_cases hu : 0 < u
    · obtain ⟨b, p1, s1, ha, hb2, hev⟩ := ev_one hb 6 p s h3 (by omega) (by omega)
      cases b
      · obtain ⟨w, p2, s2, hc, hd, he, hf, hev2⟩ := ev_pick hb u p1 s1 (by omega) (by omega) (by omega)
        exact ⟨w, p2, s2, he, by omega, by omega, by omega, .inr (.inr ⟨decide_eq_true hu, p1, s1, hev, hev2⟩)⟩
      · obtain ⟨w, p2, s2, hc, hd, he, hf, hev2⟩ := ev_pick hb 3 p1 s1 (by omega) (by omega) (by omega)
        exact ⟨u + w, p2, s2, by omega, by omega, by omega, by omega, .inr (.inl ⟨decide_eq_true hu, w, p1, s1, rfl, w64_eq (by omega), hev, hev2⟩)⟩
    · obtain ⟨w, p2, s2, hc, hd, he, hf, hev2⟩ := ev_pick hb 3 p s (by omega) (by omega) (by omega)
      exact ⟨u + w, p2, s2, by omega, by omega, by omega, by omega, .inl ⟨decide_eq_false hu, w, rfl, w64_eq (by omega), hev2⟩⟩
  have hT : ∀ n : Int, (Pt.var n).d = T 1 n [] := fun n => rfl
  intro d
  induction d with
  | zero =>
    intro u p s h1 h2 h3 h4
    simp only [pw] at h4
    obtain ⟨z, p0, s0, hz1, hz2, _, _, hz⟩ := ev_pick hb 6 p s h3 (by omega) (by omega)
    obtain ⟨n, p', s', hn0, hn1, hp1, hp2, hc⟩ := hvar 0 u p0 s0 h1 h2 (by omega) (by omega)
    refine ⟨.var n, p', s', Dr.var ⟨hn0, hn1⟩, by omega, by simp only [pw]; omega, ev_fn Go.Proofs.Tryz.f33 5 (by kernel_rfl) (by kernel_rfl) fun kk hk => ?_⟩
    have hd0 : decide (((0 : Nat) : Int) = 0) = true := rfl
    rcases hc with ⟨hu, w, rfl, hw, hev⟩ | ⟨hu, w, p1, s1, rfl, hw, hev1, hev⟩ | ⟨hu, p1, s1, hev1, hev⟩
    · exact term_d_a kk cs u 0 p s p0 s0 z w p' s' 1 (u + w) [] (hz kk (by omega)) hd0 hu (hev kk (by omega)) (by rw [hw]; exact ev_lcVar (u + w) kk (by omega))
    · exact term_d_b kk cs u 0 p s p0 s0 z w p1 s1 p' s' 1 (u + w) [] (hz kk (by omega)) hd0 hu (hev1 kk (by omega)) (hev kk (by omega)) (by rw [hw]; exact ev_lcVar (u + w) kk (by omega))
    · exact term_d_c kk cs u 0 p s p0 s0 z n p1 s1 p' s' 1 n [] (hz kk (by omega)) hd0 hu (hev1 kk (by omega)) (hev kk (by omega)) (ev_lcVar n kk (by omega))
  | succ d ih =>
    intro u p s h1 h2 h3 h4
    have hpos := pw_pos d
    simp only [pw] at h4
    obtain ⟨z, p0, s0, hz1, hz2, hz3, hz4, hz⟩ := ev_pick hb 6 p s h3 (by omega) (by omega)
    have hd0 : decide (((d + 1 : Nat) : Int) = 0) = false := decide_eq_false (by omega)
    have hd1 : w64 (((d + 1 : Nat) : Int) - 1) = (d : Int) := (w64_eq (by omega)).trans (by omega)
    have hu1 : w64 (u + 1) = u + 1 := w64_eq (by omega)
    have hcase : z = 0 ∨ z = 1 ∨ z = 2 ∨ z = 3 ∨ z = 4 ∨ z = 5 := by omega
    have hlamd : ∀ t : Pt, (Pt.lam 0 t).d = T 2 0 [t.d] := fun t => rfl
    have happd : ∀ a b : Pt, (Pt.app 0 a b).d = T 3 0 [a.d, b.d] := fun a b => rfl
    rcases hcase with rfl | rfl | rfl | rfl | rfl | rfl
    case inl | inr.inl =>
      obtain ⟨n, p', s', hn0, hn1, hp1, hp2, hc⟩ := hvar 0 u p0 s0 h1 (by omega) (by omega) (by omega)
      refine ⟨.var n, p', s', Dr.var ⟨hn0, hn1⟩, by omega, by simp only [pw]; omega, ev_fn Go.Proofs.Tryz.f33 (d + 6) (by kernel_rfl) (by kernel_rfl) fun kk hk => ?_⟩
      rcases hc with ⟨hu, w, rfl, hw, hev⟩ | ⟨hu, w, p1, s1, rfl, hw, hev1, hev⟩ | ⟨hu, p1, s1, hev1, hev⟩
      · first
          | exact term_0_a kk cs u (d + 1 : Nat) p s p0 s0 w p' s' 1 (u + w) [] (hz kk (by omega)) hd0 hu (hev kk (by omega)) (by rw [hw]; exact ev_lcVar (u + w) kk (by omega))
          | exact term_1_a kk cs u (d + 1 : Nat) p s p0 s0 w p' s' 1 (u + w) [] (hz kk (by omega)) hd0 hu (hev kk (by omega)) (by rw [hw]; exact ev_lcVar (u + w) kk (by omega))
      · first
          | exact term_0_b kk cs u (d + 1 : Nat) p s p0 s0 w p1 s1 p' s' 1 (u + w) [] (hz kk (by omega)) hd0 hu (hev1 kk (by omega)) (hev kk (by omega)) (by rw [hw]; exact ev_lcVar (u + w) kk (by omega))
          | exact term_1_b kk cs u (d + 1 : Nat) p s p0 s0 w p1 s1 p' s' 1 (u + w) [] (hz kk (by omega)) hd0 hu (hev1 kk (by omega)) (hev kk (by omega)) (by rw [hw]; exact ev_lcVar (u + w) kk (by omega))
      · first
          | exact term_0_c kk cs u (d + 1 : Nat) p s p0 s0 n p1 s1 p' s' 1 n [] (hz kk (by omega)) hd0 hu (hev1 kk (by omega)) (hev kk (by omega)) (ev_lcVar n kk (by omega))
          | exact term_1_c kk cs u (d + 1 : Nat) p s p0 s0 n p1 s1 p' s' 1 n [] (hz kk (by omega)) hd0 hu (hev1 kk (by omega)) (hev kk (by omega)) (ev_lcVar n kk (by omega))
    case inr.inr.inl | inr.inr.inr.inl =>
      obtain ⟨a, p', s', ha, hp1, hp2, hev⟩ := ih (u + 1) p0 s0 (by omega) (by omega) (by omega) (by omega)
      refine ⟨.lam 0 a, p', s', ⟨?_, ?_, ?_⟩, by omega, by simp only [pw]; omega, ev_fn Go.Proofs.Tryz.f33 (d + 6) (by kernel_rfl) (by kernel_rfl) fun kk hk => ?_⟩
      · have := ha.sz; simp only [Pt.size, pw]; omega
      · have := ha.dp; simp only [Pt.depth]; omega
      · simp [Pt.nums, ha.nm]
      · have h6 := ev_lcLam a kk (by omega)
        have h4 := hev kk (by omega)
        rw [hlamd] at h6 ⊢
        rw [Pt.d_eq] at h4 h6
        rw [Pt.d_eq]
        first
          | exact term_2 kk cs u (d + 1 : Nat) p s p0 s0 p' s' _ _ _ _ _ _ (hz kk (by omega)) hd0 (by rw [hd1, hu1]; exact h4) h6
          | exact term_3 kk cs u (d + 1 : Nat) p s p0 s0 p' s' _ _ _ _ _ _ (hz kk (by omega)) hd0 (by rw [hd1, hu1]; exact h4) h6
    case inr.inr.inr.inr.inl =>
      obtain ⟨a, p1, s1, ha, hp1, hp2, hev⟩ := ih (u + 1) p0 s0 (by omega) (by omega) (by omega) (by omega)
      obtain ⟨b, p', s', hb', hp3, hp4, hevb⟩ := ih u p1 s1 (by omega) (by omega) (by omega) (by omega)
      refine ⟨.app 0 (.lam 0 a) b, p', s', ⟨?_, ?_, ?_⟩, by omega, by simp only [pw]; omega, ev_fn Go.Proofs.Tryz.f33 (d + 6) (by kernel_rfl) (by kernel_rfl) fun kk hk => ?_⟩
      · have := ha.sz; have := hb'.sz; simp only [Pt.size, pw]; omega
      · have := ha.dp; have := hb'.dp; simp only [Pt.depth]; omega
      · simp [Pt.nums, ha.nm, hb'.nm]
      · have h6 := ev_lcLam a kk (by omega)
        have h9 := ev_lcApp (.lam 0 a) b kk (by omega)
        have h4 := hev kk (by omega)
        have h7 := hevb kk (by omega)
        rw [happd] at h9 ⊢
        rw [hlamd] at h6 h9 ⊢
        rw [Pt.d_eq a] at h4 h6 h9 ⊢
        rw [Pt.d_eq b] at h7 h9 ⊢
        exact term_4 kk cs u (d + 1 : Nat) p s p0 s0 p1 s1 p' s' _ _ _ _ _ _ _ _ _ _ _ _ (hz kk (by omega)) hd0 (by rw [hd1, hu1]; exact h4) h6 (by rw [hd1]; exact h7) h9
    case inr.inr.inr.inr.inr =>
      obtain ⟨a, p1, s1, ha, hp1, hp2, hev⟩ := ih u p0 s0 (by omega) (by omega) (by omega) (by omega)
      obtain ⟨b, p', s', hb', hp3, hp4, hevb⟩ := ih u p1 s1 (by omega) (by omega) (by omega) (by omega)
      refine ⟨.app 0 a b, p', s', ⟨?_, ?_, ?_⟩, by omega, by simp only [pw]; omega, ev_fn Go.Proofs.Tryz.f33 (d + 6) (by kernel_rfl) (by kernel_rfl) fun kk hk => ?_⟩
      · have := ha.sz; have := hb'.sz; simp only [Pt.size, pw]; omega
      · have := ha.dp; have := hb'.dp; simp only [Pt.depth]; omega
      · simp [Pt.nums, ha.nm, hb'.nm]
      · have h8 := ev_lcApp a b kk (by omega)
        have h4 := hev kk (by omega)
        have h6 := hevb kk (by omega)
        rw [happd] at h8 ⊢
        rw [Pt.d_eq a] at h4 h8 ⊢
        rw [Pt.d_eq b] at h6 h8 ⊢
        exact term_5 kk cs u (d + 1 : Nat) p s p0 s0 p1 s1 p' s' _ _ _ _ _ _ _ _ _ (hz kk (by omega)) hd0 (by rw [hd1]; exact h4) (by rw [hd1]; exact h6) h8
def knownS : List ByteArray := [⟨#[92, 48]⟩, ⟨#[92, 92, 49]⟩, ⟨#[92, 92, 92, 40, 40, 50, 32, 48, 41, 32, 40, 49, 32, 48, 41, 41]⟩, ⟨#[92, 92, 40, 49, 32, 40, 49, 32, 48, 41, 41]⟩, ⟨#[40, 92, 40, 48, 32, 48, 41, 32, 92, 40, 48, 32, 48, 41, 41]⟩, ⟨#[92, 40, 92, 40, 49, 32, 40, 48, 32, 48, 41, 41, 32, 92, 40, 49, 32, 40, 48, 32, 48, 41, 41, 41]⟩, ⟨#[92, 92, 40, 48, 32, 49, 41]⟩, ⟨#[40, 40, 92, 92, 40, 49, 32, 40, 49, 32, 48, 41, 41, 32, 92, 92, 40, 49, 32, 40, 49, 32, 48, 41, 41, 41, 32, 92, 48, 41]⟩]
theorem known_read : ∀ c ∈ knownS, ∃ (t : Pt) (n : Int), (t.size ≤ 20 ∧ t.depth ≤ 10 ∧ t.nums = true) ∧ ∀ m, den cfg (m + 40) 67 [.dat (S c), .dat (I 1)] [] [] = some ([.dat t.d, .dat (I n)], [], []) := by
  intro c hc
  simp only [knownS, List.mem_cons, List.not_mem_nil, or_false] at hc
  rcases hc with rfl | rfl | rfl | rfl | rfl | rfl | rfl | rfl
  · exact ⟨.lam 0 (.var 0), 2, by decide, fun m => by kernel_rfl⟩
  · exact ⟨.lam 0 (.lam 0 (.var 1)), 3, by decide, fun m => by kernel_rfl⟩
  · exact ⟨.lam 0 (.lam 0 (.lam 0 (.app 0 (.app 0 (.var 2) (.var 0)) (.app 0 (.var 1) (.var 0))))), 16, by decide, fun m => by kernel_rfl⟩
  · exact ⟨.lam 0 (.lam 0 (.app 0 (.var 1) (.app 0 (.var 1) (.var 0)))), 11, by decide, fun m => by kernel_rfl⟩
  · exact ⟨.app 0 (.lam 0 (.app 0 (.var 0) (.var 0))) (.lam 0 (.app 0 (.var 0) (.var 0))), 15, by decide, fun m => by kernel_rfl⟩
  · exact ⟨.lam 0 (.app 0 (.lam 0 (.app 0 (.var 1) (.app 0 (.var 0) (.var 0)))) (.lam 0 (.app 0 (.var 1) (.app 0 (.var 0) (.var 0))))), 24, by decide, fun m => by kernel_rfl⟩
  · exact ⟨.lam 0 (.lam 0 (.app 0 (.var 0) (.var 1))), 7, by decide, fun m => by kernel_rfl⟩
  · exact ⟨.app 0 (.app 0 (.lam 0 (.lam 0 (.app 0 (.var 1) (.app 0 (.var 1) (.var 0))))) (.lam 0 (.lam 0 (.app 0 (.var 1) (.app 0 (.var 1) (.var 0)))))) (.lam 0 (.var 0)), 30, by decide, fun m => by kernel_rfl⟩
theorem ev_known {cs : List Dat} (hb : Bs cs) (p s : Int) (h0 : 0 ≤ p) (h1 : p ≤ 900000) : ∃ (t : Pt) (p' s' : Int), (t.size ≤ 20 ∧ t.depth ≤ 10 ∧ t.nums = true) ∧ p ≤ p' ∧ p' ≤ p + 2 ∧
    EvN 41 36 [cp] [Cur cs p s] [] ([.dat t.d], [Cur cs p' s'], []) := by
  obtain ⟨c, p', s', hc, hp1, hp2, hev⟩ := ev_of hb true knownS p s h0 h1 (by decide)
  obtain ⟨t, n, ht, hr⟩ := known_read c hc
  refine ⟨t, p', s', ht, hp1, hp2, ev_fn Go.Proofs.Tryz.f36 40 (by kernel_rfl) (by kernel_rfl) fun kk hk => ?_⟩
  obtain ⟨m, rfl⟩ : ∃ m, kk = m + 40 := ⟨kk - 40, by omega⟩
  have h2 := hr m
  rw [Pt.d_eq] at h2 ⊢
  refine known (m + 40) cs p s p' s' c n _ _ _ (hev (m + 40) (by omega)) ?_ h2
  have := hb.box p' s'
  rw [this]
  rfl
theorem flat_end {t : Pt} (ht : t.size ≤ 400) : 0 < (flatS t [] (-1)).length ∧ (flatS t [] (-1)).length ≤ 400 := by
  have h2 := flatS_facts t [] (-1) (by simp)
  have hpos : 0 < t.size := by cases t <;> simp [Pt.size] <;> omega
  refine ⟨?_, by have := h2.2; simp at this; omega⟩
  rcases h2.1 with h | h
  · rw [h]; simp [Pt.flat_length]; exact hpos
  · omega
theorem set_last {L : List Nd} (h : 0 < L.length ∧ L.length ≤ 100000) : (0 ≤ w64 (((L.map Nd.d).length : Int) - 1) ∧ w64 (((L.map Nd.d).length : Int) - 1) < ((L.map Nd.d).length : Int)) ∧
    ∃ x : Nd, (L.map Nd.d)[(w64 (((L.map Nd.d).length : Int) - 1)).toNat]? = some (N3 x.k x.n x.u) ∧ ∀ y : Nd, (L.map Nd.d).set (w64 (((L.map Nd.d).length : Int) - 1)).toNat y.d = (L.set (w64 (((L.map Nd.d).length : Int) - 1)).toNat y).map Nd.d := by
  have hw : w64 (((L.map Nd.d).length : Int) - 1) = ((L.map Nd.d).length : Int) - 1 := w64_eq (by rw [List.length_map]; omega)
  rw [hw]
  refine ⟨⟨by rw [List.length_map]; omega, by omega⟩, ?_⟩
  have hlt : (((L.map Nd.d).length : Int) - 1).toNat < L.length := by rw [List.length_map]; omega
  refine ⟨L[(((L.map Nd.d).length : Int) - 1).toNat], ?_, fun y => ?_⟩
  · rw [List.getElem?_map, List.getElem?_eq_getElem hlt]; rfl
  · rw [List.map_set]
/-- the rows that 'terms' draws -/
theorem ev_terms {cs : List Dat} (hb : Bs cs) (p s : Int) (h0 : 0 ≤ p) (h1 : p ≤ 100000) : ∃ (L : List Nd) (p' s' : Int), L.length ≤ 1000 ∧ p ≤ p' ∧ p' ≤ p + 1000 ∧
    EvN 60 17 [cp] [Cur cs p s] [] ([.own 60 (L.map Nd.d)], [Cur cs p' s'], []) := by
  obtain ⟨z, p1, s1, ha1, ha2, hz0, hz1, hz⟩ := ev_pick hb 4 p s h0 (by omega) (by omega)
  have hdep : w64 (1 + z) = ((1 + z).toNat : Int) := (w64_eq (by omega)).trans (by omega)
  have hpw : pw (1 + z).toNat ≤ 16 := by
    have : z = 0 ∨ z = 1 ∨ z = 2 ∨ z = 3 := by omega
    rcases this with rfl | rfl | rfl | rfl <;> decide
  obtain ⟨t1, p2, s2, ht1, hb1, hb2, hev1⟩ := ev_term hb (1 + z).toNat 0 p1 s1 (by omega) (by omega) (by omega) (by omega)
  rw [← hdep] at hev1
  have hs1 := ht1.sz
  have hd1 := ht1.dp
  obtain ⟨q, p3, s3, hc1, hc2, hq0, hq1, hq⟩ := ev_pick hb 5 p2 s2 (by omega) (by omega) (by omega)
  have happd : ∀ a b : Pt, (Pt.app 0 a b).d = T 3 0 [a.d, b.d] := fun a b => rfl
  -- behind the tree
  have htail : ∀ (t : Pt) (p5 s5 : Int), t.size ≤ 400 → p ≤ p5 → p5 ≤ p + 900 → ∃ (L : List Nd) (w p6 s6 : Int), flatS t [] (-1) = L ∧ EvN 2 18 [cp, .dat (I 40)] [Cur cs p5 s5] [] ([.dat (I w)], [Cur cs p6 s6], []) ∧ p5 ≤ p6 ∧ p6 ≤ p + 902 := by
    intro t p5 s5 h1 h2 h3
    obtain ⟨w, p6, s6, h4, h5, h6, h7, h8⟩ := ev_pick hb 40 p5 s5 (by omega) (by omega) (by omega)
    exact ⟨_, w, p6, s6, rfl, h8, h4, by omega⟩
  by_cases q0 : q = 0
  · obtain ⟨t2, p4, s4, ht2, hk1, hk2, hev2⟩ := ev_known hb p3 s3 (by omega) (by omega)
    obtain ⟨t3, p5, s5, ht3, hk3, hk4, hev3⟩ := ev_known hb p4 s4 (by omega) (by omega)
    have hsz : (Pt.app 0 t2 t3).size ≤ 400 := by have := ht2.1; have := ht3.1; simp only [Pt.size]; omega
    have hfl := flat_end hsz
    have hf := ev_lcFlat 40 (Pt.app 0 t2 t3) [] (-1) (by have := ht2.2.1; have := ht3.2.1; simp only [Pt.depth]; omega) (by simp) (by omega)
    obtain ⟨w, p6, s6, hw1, hw2, hw3, hw4, hw⟩ := ev_pick hb 40 p5 s5 (by omega) (by omega) (by omega)
    obtain ⟨hl1, x, hl2, hl3⟩ := set_last (L := flatS (Pt.app 0 t2 t3) [] (-1)) ⟨hfl.1, by omega⟩
    by_cases w0 : w = 0
    · obtain ⟨v, p7, s7, hv, hv1, hv2, hev⟩ := ev_among hb true [-1, 99, 100] p6 s6 (by omega) (by omega) (by decide)
      refine ⟨(flatS (Pt.app 0 t2 t3) [] (-1)).set (w64 ((((flatS (Pt.app 0 t2 t3) [] (-1)).map Nd.d).length : Int) - 1)).toNat ⟨x.k, v, x.u⟩, p7, s7, by rw [List.length_set]; omega, by omega, by omega, ev_fn Go.Proofs.Tryz.f17 59 (by kernel_rfl) (by kernel_rfl) fun kk hk => ?_⟩
      have hx1 := hev1 kk (by omega)
      have hx2 := hev2 kk (by omega)
      have hx3 := hev3 kk (by omega)
      have hxa := ev_lcApp t2 t3 kk (by omega)
      have hxf := hf kk (by omega)
      rw [happd] at hxa hxf
      rw [Pt.d_eq t1] at hx1
      rw [Pt.d_eq t2] at hx2 hxa hxf
      rw [Pt.d_eq t3] at hx3 hxa hxf
      rw [← hl3]
      exact terms_a0 kk cs p s p1 s1 p2 s2 p3 s3 p4 s4 p5 s5 p6 s6 p7 s7 z q w v x.k x.n x.u _ _ _ _ _ _ _ _ _ _ _ _ _ (hz kk (by omega)) hx1 (hq kk (by omega)) (decide_eq_true q0) hx2 hx3 hxa hxf (hw kk (by omega)) (decide_eq_true w0) (hev kk (by omega)) (by rw [hb.box p7 s7]; rfl) hl1 hl2
    by_cases w1 : w = 1
    · obtain ⟨v, p7, s7, hv1, hv2, hv3, hv4, hev⟩ := ev_pick hb 4 p6 s6 (by omega) (by omega) (by omega)
      refine ⟨(flatS (Pt.app 0 t2 t3) [] (-1)).set (w64 ((((flatS (Pt.app 0 t2 t3) [] (-1)).map Nd.d).length : Int) - 1)).toNat ⟨x.k, x.n, w64 (v - 1)⟩, p7, s7, by rw [List.length_set]; omega, by omega, by omega, ev_fn Go.Proofs.Tryz.f17 59 (by kernel_rfl) (by kernel_rfl) fun kk hk => ?_⟩
      have hx1 := hev1 kk (by omega)
      have hx2 := hev2 kk (by omega)
      have hx3 := hev3 kk (by omega)
      have hxa := ev_lcApp t2 t3 kk (by omega)
      have hxf := hf kk (by omega)
      rw [happd] at hxa hxf
      rw [Pt.d_eq t1] at hx1
      rw [Pt.d_eq t2] at hx2 hxa hxf
      rw [Pt.d_eq t3] at hx3 hxa hxf
      rw [← hl3]
      exact terms_a1 kk cs p s p1 s1 p2 s2 p3 s3 p4 s4 p5 s5 p6 s6 p7 s7 z q w v x.k x.n x.u _ _ _ _ _ _ _ _ _ _ _ _ _ (hz kk (by omega)) hx1 (hq kk (by omega)) (decide_eq_true q0) hx2 hx3 hxa hxf (hw kk (by omega)) (decide_eq_false w0) (decide_eq_true w1) (hev kk (by omega)) hl1 hl2
    by_cases w2 : w = 2
    · obtain ⟨v, p7, s7, hv1, hv2, hv3, hv4, hev⟩ := ev_pick hb 3 p6 s6 (by omega) (by omega) (by omega)
      refine ⟨flatS (Pt.app 0 t2 t3) [] (-1) ++ [⟨w64 (1 + v), 0, 0⟩], p7, s7, by simp; omega, by omega, by omega, ev_fn Go.Proofs.Tryz.f17 59 (by kernel_rfl) (by kernel_rfl) fun kk hk => ?_⟩
      have hx1 := hev1 kk (by omega)
      have hx2 := hev2 kk (by omega)
      have hx3 := hev3 kk (by omega)
      have hxa := ev_lcApp t2 t3 kk (by omega)
      have hxf := hf kk (by omega)
      rw [happd] at hxa hxf
      rw [Pt.d_eq t1] at hx1
      rw [Pt.d_eq t2] at hx2 hxa hxf
      rw [Pt.d_eq t3] at hx3 hxa hxf
      rw [List.map_append]
      exact terms_a2 kk cs p s p1 s1 p2 s2 p3 s3 p4 s4 p5 s5 p6 s6 p7 s7 z q w v 0 0 0 _ _ _ _ _ _ _ _ _ _ _ _ _ (hz kk (by omega)) hx1 (hq kk (by omega)) (decide_eq_true q0) hx2 hx3 hxa hxf (hw kk (by omega)) (decide_eq_false w0) (decide_eq_false w1) (decide_eq_true w2) (hev kk (by omega)) (by rw [List.length_map]; omega)
    · refine ⟨flatS (Pt.app 0 t2 t3) [] (-1), p6, s6, by omega, by omega, by omega, ev_fn Go.Proofs.Tryz.f17 59 (by kernel_rfl) (by kernel_rfl) fun kk hk => ?_⟩
      have hx1 := hev1 kk (by omega)
      have hx2 := hev2 kk (by omega)
      have hx3 := hev3 kk (by omega)
      have hxa := ev_lcApp t2 t3 kk (by omega)
      have hxf := hf kk (by omega)
      rw [happd] at hxa hxf
      rw [Pt.d_eq t1] at hx1
      rw [Pt.d_eq t2] at hx2 hxa hxf
      rw [Pt.d_eq t3] at hx3 hxa hxf
      exact terms_a3 kk cs p s p1 s1 p2 s2 p3 s3 p4 s4 p5 s5 p6 s6 0 0 z q w 0 0 0 0 _ _ _ _ _ _ _ _ _ _ _ _ _ (hz kk (by omega)) hx1 (hq kk (by omega)) (decide_eq_true q0) hx2 hx3 hxa hxf (hw kk (by omega)) (decide_eq_false w0) (decide_eq_false w1) (decide_eq_false w2)
  by_cases q1' : q = 1
  · obtain ⟨t2, p5, s5, ht2, hk1, hk2, hev2⟩ := ev_known hb p3 s3 (by omega) (by omega)
    have hsz : (Pt.app 0 t2 t1).size ≤ 400 := by have := ht2.1; simp only [Pt.size]; omega
    have hfl := flat_end hsz
    have hf := ev_lcFlat 40 (Pt.app 0 t2 t1) [] (-1) (by have := ht2.2.1; simp only [Pt.depth]; omega) (by simp) (by omega)
    obtain ⟨w, p6, s6, hw1, hw2, hw3, hw4, hw⟩ := ev_pick hb 40 p5 s5 (by omega) (by omega) (by omega)
    obtain ⟨hl1, x, hl2, hl3⟩ := set_last (L := flatS (Pt.app 0 t2 t1) [] (-1)) ⟨hfl.1, by omega⟩
    by_cases w0 : w = 0
    · obtain ⟨v, p7, s7, hv, hv1, hv2, hev⟩ := ev_among hb true [-1, 99, 100] p6 s6 (by omega) (by omega) (by decide)
      refine ⟨(flatS (Pt.app 0 t2 t1) [] (-1)).set (w64 ((((flatS (Pt.app 0 t2 t1) [] (-1)).map Nd.d).length : Int) - 1)).toNat ⟨x.k, v, x.u⟩, p7, s7, by rw [List.length_set]; omega, by omega, by omega, ev_fn Go.Proofs.Tryz.f17 59 (by kernel_rfl) (by kernel_rfl) fun kk hk => ?_⟩
      have hx1 := hev1 kk (by omega)
      have hx2 := hev2 kk (by omega)
      have hxa := ev_lcApp t2 t1 kk (by omega)
      have hxf := hf kk (by omega)
      rw [happd] at hxa hxf
      rw [Pt.d_eq t1] at hx1 hxa hxf
      rw [Pt.d_eq t2] at hx2 hxa hxf
      rw [← hl3]
      exact terms_b0 kk cs p s p1 s1 p2 s2 p3 s3 0 0 p5 s5 p6 s6 p7 s7 z q w v x.k x.n x.u _ _ _ _ _ _ _ 0 0 [] _ _ _ (hz kk (by omega)) hx1 (hq kk (by omega)) (decide_eq_false q0) (decide_eq_true q1') hx2 hxa hxf (hw kk (by omega)) (decide_eq_true w0) (hev kk (by omega)) (by rw [hb.box p7 s7]; rfl) hl1 hl2
    by_cases w1 : w = 1
    · obtain ⟨v, p7, s7, hv1, hv2, hv3, hv4, hev⟩ := ev_pick hb 4 p6 s6 (by omega) (by omega) (by omega)
      refine ⟨(flatS (Pt.app 0 t2 t1) [] (-1)).set (w64 ((((flatS (Pt.app 0 t2 t1) [] (-1)).map Nd.d).length : Int) - 1)).toNat ⟨x.k, x.n, w64 (v - 1)⟩, p7, s7, by rw [List.length_set]; omega, by omega, by omega, ev_fn Go.Proofs.Tryz.f17 59 (by kernel_rfl) (by kernel_rfl) fun kk hk => ?_⟩
      have hx1 := hev1 kk (by omega)
      have hx2 := hev2 kk (by omega)
      have hxa := ev_lcApp t2 t1 kk (by omega)
      have hxf := hf kk (by omega)
      rw [happd] at hxa hxf
      rw [Pt.d_eq t1] at hx1 hxa hxf
      rw [Pt.d_eq t2] at hx2 hxa hxf
      rw [← hl3]
      exact terms_b1 kk cs p s p1 s1 p2 s2 p3 s3 0 0 p5 s5 p6 s6 p7 s7 z q w v x.k x.n x.u _ _ _ _ _ _ _ 0 0 [] _ _ _ (hz kk (by omega)) hx1 (hq kk (by omega)) (decide_eq_false q0) (decide_eq_true q1') hx2 hxa hxf (hw kk (by omega)) (decide_eq_false w0) (decide_eq_true w1) (hev kk (by omega)) hl1 hl2
    by_cases w2 : w = 2
    · obtain ⟨v, p7, s7, hv1, hv2, hv3, hv4, hev⟩ := ev_pick hb 3 p6 s6 (by omega) (by omega) (by omega)
      refine ⟨flatS (Pt.app 0 t2 t1) [] (-1) ++ [⟨w64 (1 + v), 0, 0⟩], p7, s7, by simp; omega, by omega, by omega, ev_fn Go.Proofs.Tryz.f17 59 (by kernel_rfl) (by kernel_rfl) fun kk hk => ?_⟩
      have hx1 := hev1 kk (by omega)
      have hx2 := hev2 kk (by omega)
      have hxa := ev_lcApp t2 t1 kk (by omega)
      have hxf := hf kk (by omega)
      rw [happd] at hxa hxf
      rw [Pt.d_eq t1] at hx1 hxa hxf
      rw [Pt.d_eq t2] at hx2 hxa hxf
      rw [List.map_append]
      exact terms_b2 kk cs p s p1 s1 p2 s2 p3 s3 0 0 p5 s5 p6 s6 p7 s7 z q w v 0 0 0 _ _ _ _ _ _ _ 0 0 [] _ _ _ (hz kk (by omega)) hx1 (hq kk (by omega)) (decide_eq_false q0) (decide_eq_true q1') hx2 hxa hxf (hw kk (by omega)) (decide_eq_false w0) (decide_eq_false w1) (decide_eq_true w2) (hev kk (by omega)) (by rw [List.length_map]; omega)
    · refine ⟨flatS (Pt.app 0 t2 t1) [] (-1), p6, s6, by omega, by omega, by omega, ev_fn Go.Proofs.Tryz.f17 59 (by kernel_rfl) (by kernel_rfl) fun kk hk => ?_⟩
      have hx1 := hev1 kk (by omega)
      have hx2 := hev2 kk (by omega)
      have hxa := ev_lcApp t2 t1 kk (by omega)
      have hxf := hf kk (by omega)
      rw [happd] at hxa hxf
      rw [Pt.d_eq t1] at hx1 hxa hxf
      rw [Pt.d_eq t2] at hx2 hxa hxf
      exact terms_b3 kk cs p s p1 s1 p2 s2 p3 s3 0 0 p5 s5 p6 s6 0 0 z q w 0 0 0 0 _ _ _ _ _ _ _ 0 0 [] _ _ _ (hz kk (by omega)) hx1 (hq kk (by omega)) (decide_eq_false q0) (decide_eq_true q1') hx2 hxa hxf (hw kk (by omega)) (decide_eq_false w0) (decide_eq_false w1) (decide_eq_false w2)
  · skip
    have hsz : (t1).size ≤ 400 := by omega
    have hfl := flat_end hsz
    have hf := ev_lcFlat 40 (t1) [] (-1) (by omega) (by simp) (by omega)
    obtain ⟨w, p6, s6, hw1, hw2, hw3, hw4, hw⟩ := ev_pick hb 40 p3 s3 (by omega) (by omega) (by omega)
    obtain ⟨hl1, x, hl2, hl3⟩ := set_last (L := flatS (t1) [] (-1)) ⟨hfl.1, by omega⟩
    by_cases w0 : w = 0
    · obtain ⟨v, p7, s7, hv, hv1, hv2, hev⟩ := ev_among hb true [-1, 99, 100] p6 s6 (by omega) (by omega) (by decide)
      refine ⟨(flatS (t1) [] (-1)).set (w64 ((((flatS (t1) [] (-1)).map Nd.d).length : Int) - 1)).toNat ⟨x.k, v, x.u⟩, p7, s7, by rw [List.length_set]; omega, by omega, by omega, ev_fn Go.Proofs.Tryz.f17 59 (by kernel_rfl) (by kernel_rfl) fun kk hk => ?_⟩
      have hx1 := hev1 kk (by omega)
      have hxf := hf kk (by omega)
      rw [Pt.d_eq t1] at hx1 hxf
      rw [← hl3]
      exact terms_c0 kk cs p s p1 s1 p2 s2 p3 s3 0 0 0 0 p6 s6 p7 s7 z q w v x.k x.n x.u _ _ _ _ 0 0 [] 0 0 [] 0 0 [] (hz kk (by omega)) hx1 (hq kk (by omega)) (decide_eq_false q0) (decide_eq_false q1') hxf (hw kk (by omega)) (decide_eq_true w0) (hev kk (by omega)) (by rw [hb.box p7 s7]; rfl) hl1 hl2
    by_cases w1 : w = 1
    · obtain ⟨v, p7, s7, hv1, hv2, hv3, hv4, hev⟩ := ev_pick hb 4 p6 s6 (by omega) (by omega) (by omega)
      refine ⟨(flatS (t1) [] (-1)).set (w64 ((((flatS (t1) [] (-1)).map Nd.d).length : Int) - 1)).toNat ⟨x.k, x.n, w64 (v - 1)⟩, p7, s7, by rw [List.length_set]; omega, by omega, by omega, ev_fn Go.Proofs.Tryz.f17 59 (by kernel_rfl) (by kernel_rfl) fun kk hk => ?_⟩
      have hx1 := hev1 kk (by omega)
      have hxf := hf kk (by omega)
      rw [Pt.d_eq t1] at hx1 hxf
      rw [← hl3]
      exact terms_c1 kk cs p s p1 s1 p2 s2 p3 s3 0 0 0 0 p6 s6 p7 s7 z q w v x.k x.n x.u _ _ _ _ 0 0 [] 0 0 [] 0 0 [] (hz kk (by omega)) hx1 (hq kk (by omega)) (decide_eq_false q0) (decide_eq_false q1') hxf (hw kk (by omega)) (decide_eq_false w0) (decide_eq_true w1) (hev kk (by omega)) hl1 hl2
    by_cases w2 : w = 2
    · obtain ⟨v, p7, s7, hv1, hv2, hv3, hv4, hev⟩ := ev_pick hb 3 p6 s6 (by omega) (by omega) (by omega)
      refine ⟨flatS (t1) [] (-1) ++ [⟨w64 (1 + v), 0, 0⟩], p7, s7, by simp; omega, by omega, by omega, ev_fn Go.Proofs.Tryz.f17 59 (by kernel_rfl) (by kernel_rfl) fun kk hk => ?_⟩
      have hx1 := hev1 kk (by omega)
      have hxf := hf kk (by omega)
      rw [Pt.d_eq t1] at hx1 hxf
      rw [List.map_append]
      exact terms_c2 kk cs p s p1 s1 p2 s2 p3 s3 0 0 0 0 p6 s6 p7 s7 z q w v 0 0 0 _ _ _ _ 0 0 [] 0 0 [] 0 0 [] (hz kk (by omega)) hx1 (hq kk (by omega)) (decide_eq_false q0) (decide_eq_false q1') hxf (hw kk (by omega)) (decide_eq_false w0) (decide_eq_false w1) (decide_eq_true w2) (hev kk (by omega)) (by rw [List.length_map]; omega)
    · refine ⟨flatS (t1) [] (-1), p6, s6, by omega, by omega, by omega, ev_fn Go.Proofs.Tryz.f17 59 (by kernel_rfl) (by kernel_rfl) fun kk hk => ?_⟩
      have hx1 := hev1 kk (by omega)
      have hxf := hf kk (by omega)
      rw [Pt.d_eq t1] at hx1 hxf
      exact terms_c3 kk cs p s p1 s1 p2 s2 p3 s3 0 0 0 0 p6 s6 0 0 z q w 0 0 0 0 _ _ _ _ 0 0 [] 0 0 [] 0 0 [] (hz kk (by omega)) hx1 (hq kk (by omega)) (decide_eq_false q0) (decide_eq_false q1') hxf (hw kk (by omega)) (decide_eq_false w0) (decide_eq_false w1) (decide_eq_false w2)
end Go.Den
namespace Go.Den
open Go
set_option linter.unusedVariables false
set_option maxRecDepth 100000
/-- Good terms are small. -/
theorem good_small {t : Pt} (h : t.good = true) : t.size ≤ 150 ∧ t.depth ≤ 40 ∧ t.within 1000000 := by
  have := good_facts h
  exact ⟨this.1, this.2.1, within_mono (by omega) t (nums_within t this.2.2)⟩
end Go.Den
namespace Go.Den
open Go
set_option linter.unusedVariables false
set_option maxRecDepth 100000
/-- Small terms. -/
def small (t : Pt) : Prop := t.size ≤ 150 ∧ t.depth ≤ 40 ∧ t.within 1000000
end Go.Den
