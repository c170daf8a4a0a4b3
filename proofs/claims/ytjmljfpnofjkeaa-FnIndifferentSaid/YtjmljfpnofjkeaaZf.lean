/- Merged out of: WH WI WJ WK WL WN WM WO WP WQ T1 T2 V4 V7 V8 T3 T4 V9 LFnIndifferent (prune.py, a program of this work's). -/
import Derived.Test.YtjmljfpnofjkeaaZe4
import Derived.KernelRfl
import Derived.Test.YtjmljfpnofjkeaaZe6
import Derived.Test.YtjmljfpnofjkeaaZe5
import Derived.Test.YtjmljfpnofjkeaaRows
import Derived.WalkKit
import Derived.ProofKit
import Derived.OpenShut
import Derived.ShutString
import Derived.ChangeOld
import Derived.Below
set_option linter.unusedVariables false
set_option linter.unusedSimpArgs false
set_option linter.unnecessarySimpa false
namespace Go.Den
open Go
set_option linter.unusedVariables false
set_option maxRecDepth 100000
theorem isFuel_n (kk : Nat) (x : Int) (h1 : decide (0 ≤ x) = false) : runFn cfg kk (den cfg kk) 63 Go.Proofs.Try.f63 [.dat (I x)] [] [] = some ([D.dat (B false)], [], []) :=
  hrun_ok [(200005, .no)] (ob h1 (ob (rfl : false = false) ob0)) (by kernel_rfl)
theorem isFuel_y (kk : Nat) (x : Int) (h1 : decide (0 ≤ x) = true) : runFn cfg kk (den cfg kk) 63 Go.Proofs.Try.f63 [.dat (I x)] [] [] = some ([D.dat (B (decide (x ≤ 1000)))], [], []) :=
  hrun_ok [(200005, .yes)] (ob h1 (ob (rfl : true = true) ob0)) (by kernel_rfl)
end Go.Den
namespace Go.Den
open Go
set_option linter.unusedVariables false
set_option maxRecDepth 100000
/-- A term reduced again and again, where 'nx' says; with so much fuel. -/
def goOnP (nx : Pt → Option Nat) : Nat → Pt → Option (Pt × Nat)
  | 0, t => match nx t with | none => some (t, 0) | some _ => none
  | f + 1, t => match nx t with | none => some (t, 0) | some r => if (red t r).good = true then (goOnP nx f (red t r)).map fun q => (q.1, q.2 + 1) else none
theorem goOnP_good {nx : Pt → Option Nat} : ∀ {f : Nat} {t : Pt} {q : Pt × Nat}, t.good = true → goOnP nx f t = some q → q.1.good = true ∧ q.2 ≤ f
  | 0, t, q, hg, h => by
    unfold goOnP at h
    split at h
    · cases h; exact ⟨hg, Nat.le_refl _⟩
    · cases h
  | f + 1, t, q, hg, h => by
    unfold goOnP at h
    split at h
    · cases h; exact ⟨hg, by omega⟩
    · split at h
      · rename_i hr
        obtain ⟨p, hp, rfl⟩ := Option.map_eq_some_iff.1 h
        have := goOnP_good hr hp
        exact ⟨this.1, by simp only; omega⟩
      · cases h
/-- What the reference's loop leaves. -/
def outS (made : Nat) : Option (Pt × Nat) → St
  | some q => Nm [4, 5, 6] [.own 56 ((q.1.flat 0 (-1)).map Nd.d), .dat (I ((made + q.2 : Nat) : Int)), .dat (B true)] [none, none, none] [] []
  | none => Nm [4, 5, 6] [.own 56 [], .dat (I 0), .dat (B false)] [none, none, none] [] []
/-- What both sides come to. -/
def goneN (nx : Pt → Option Nat) (L : List Nd) (v : Int) : List Nd × Nat × Bool :=
  match termOfP L with
  | some t => if 0 ≤ v ∧ v ≤ 1000 then (match goOnP nx v.toNat t with | some q => (q.1.flat 0 (-1), q.2, true) | none => ([], 0, false)) else ([], 0, false)
  | none => ([], 0, false)
theorem goneN_len (nx : Pt → Option Nat) (L : List Nd) (v : Int) : (goneN nx L v).1.length ≤ 150 := by
  unfold goneN
  split
  · rename_i t ht
    split
    · split
      · rename_i q hq
        rw [Pt.flat_length]
        exact (good_small (goOnP_good ((termOfP_iff L t).1 ht).1 hq).1).1
      · simp
    · simp
  · simp
end Go.Den
namespace Go.Den
open Go
set_option linter.unusedVariables false
set_option maxRecDepth 100000
/-- What the program's loop leaves. -/
def outI (made : Nat) : Option (Pt × Nat) → St
  | some q => Nm [6, 7, 8] [.ptr (.loc 6) 0, .dat (I ((made + q.2 : Nat) : Int)), .dat (B true)] [some [.dat (I q.1.kd), .dat (I q.1.num), .dat (.lst false (q.1.kids.map Pt.d))], none, none] [] []
  | none => Nm [6, 7, 8] [.ptr (.loc 6) 0, .dat (I 0), .dat (B false)] [some [.dat (I 0), .dat (I 0), .own 59 []], none, none] [] []
/-- The number that a function value tells: of a redex, or less than 0. -/
def nxI : Option Nat → Int → Prop
  | some r, x => x = r
  | none, x => x < 0
theorem ev_isFuel (v : Int) : EvN 1 63 [.dat (I v)] [] [] ([.dat (B (decide (0 ≤ v) && decide (v ≤ 1000)))], [], []) := by
  refine ev_fn Go.Proofs.Try.f63 0 (by kernel_rfl) (by kernel_rfl) fun kk _ => ?_
  by_cases h : 0 ≤ v
  · rw [isFuel_y kk v (decide_eq_true h), decide_eq_true h, Bool.true_and]
  · rw [isFuel_n kk v (decide_eq_false h), decide_eq_false h, Bool.false_and]
end Go.Den
namespace Go.Den
open Go
set_option linter.unusedVariables false
set_option maxRecDepth 100000
def hd120 (k n u : Int) (ps bs : List Dat) (i : Int) : St := Nm [1, 2, 3, 24, 25, 26] [.dat (I u), .bor (.lent 0) none, .ptr (.loc 3) 0, .dat (.lst false ps), .dat (I ps.length), .dat (I i)] [none, none, some [.dat (I k), .dat (I n), .dat (.lst false ps)], none, none, none] [] [some (4, bs)]
theorem lcFree_lam (kk m : Nat) {s : St} {K : X → St → Prop} (n u : Int) (ps bs bs' : List Dat) (i : Int) (kx nx : Int) (dx : List Dat) (hs : s.norm ((envOf cfg kk 103 Go.Proofs.Try.f103).live (firstRegion (lp Go.Proofs.Try.f103 4))) = hd120 2 n u ps bs i) (h1 : decide (i < (ps.length : Int)) = true) (h2 : (0 ≤ i ∧ i < (ps.length : Int)) ∧ ps[i.toNat]? = some (T kx nx dx)) (h3 : den cfg kk 103 [D.dat (T kx nx dx), D.dat (I (w64 (u + 1))), D.bor (Pl.lent 0) none] [] [some (4, bs)] = some ([], [], [some (4, bs')])) (hn : ∀ s : St, s.norm ((envOf cfg kk 103 Go.Proofs.Try.f103).live (firstRegion (lp Go.Proofs.Try.f103 4))) = Nm [1, 2, 3, 24, 25, 26] [D.dat (I u), D.bor (Pl.lent 0) none, D.ptr (Ref.loc 3) 0, D.dat (Dat.lst false ps), D.dat (I (ps.length : Int)), D.dat (I (w64 (i + 1)))] [none, none, some [D.dat (I 2), D.dat (I n), D.dat (Dat.lst false ps)], none, none, none] [] [some (4, bs')] → Rounds (envOf cfg kk 103 Go.Proofs.Try.f103) kk (lp Go.Proofs.Try.f103 4) m s K) : Rounds (envOf cfg kk 103 Go.Proofs.Try.f103) kk (lp Go.Proofs.Try.f103 4) (m + 1) s K :=
  rounds_go [(200027, .yes), (28, .at (T kx nx dx)), (37, .back [] [] [some (4, bs')])] hs (by kernel_rfl) (ob h1 (ob h2 (ob h3 (ob (rfl : false = false) ob0)))) (by kernel_rfl) hn
theorem lcFree_app (kk m : Nat) {s : St} {K : X → St → Prop} (n u : Int) (ps bs bs' : List Dat) (i : Int) (kx nx : Int) (dx : List Dat) (hs : s.norm ((envOf cfg kk 103 Go.Proofs.Try.f103).live (firstRegion (lp Go.Proofs.Try.f103 4))) = hd120 3 n u ps bs i) (h1 : decide (i < (ps.length : Int)) = true) (h2 : (0 ≤ i ∧ i < (ps.length : Int)) ∧ ps[i.toNat]? = some (T kx nx dx)) (h3 : den cfg kk 103 [D.dat (T kx nx dx), D.dat (I u), D.bor (Pl.lent 0) none] [] [some (4, bs)] = some ([], [], [some (4, bs')])) (hn : ∀ s : St, s.norm ((envOf cfg kk 103 Go.Proofs.Try.f103).live (firstRegion (lp Go.Proofs.Try.f103 4))) = Nm [1, 2, 3, 24, 25, 26] [D.dat (I u), D.bor (Pl.lent 0) none, D.ptr (Ref.loc 3) 0, D.dat (Dat.lst false ps), D.dat (I (ps.length : Int)), D.dat (I (w64 (i + 1)))] [none, none, some [D.dat (I 3), D.dat (I n), D.dat (Dat.lst false ps)], none, none, none] [] [some (4, bs')] → Rounds (envOf cfg kk 103 Go.Proofs.Try.f103) kk (lp Go.Proofs.Try.f103 4) m s K) : Rounds (envOf cfg kk 103 Go.Proofs.Try.f103) kk (lp Go.Proofs.Try.f103 4) (m + 1) s K :=
  rounds_go [(200027, .yes), (28, .at (T kx nx dx)), (41, .back [] [] [some (4, bs')])] hs (by kernel_rfl) (ob h1 (ob h2 (ob h3 (ob (rfl : false = false) ob0)))) (by kernel_rfl) hn
theorem lcFree_end (kk m : Nat) {s : St} {K : X → St → Prop} (k n u : Int) (ps bs : List Dat) (i : Int) (hs : s.norm ((envOf cfg kk 103 Go.Proofs.Try.f103).live (firstRegion (lp Go.Proofs.Try.f103 4))) = hd120 k n u ps bs i) (h1 : decide (i < (ps.length : Int)) = false) (hK : K (X.exit 0) (Nm [] [] [] [] [some (4, bs)])) : Rounds (envOf cfg kk 103 Go.Proofs.Try.f103) kk (lp Go.Proofs.Try.f103 4) (m + 1) s K :=
  rounds_end [(200027, .no)] hs (by kernel_rfl) rfl (ob h1 ob0) (by kernel_rfl) hK
theorem lcFree_hit (kk : Nat) (n u : Int) (ps bs bs' : List Dat) (v : Bool) (h1 : decide (u ≤ n) = true) (h2 : 0 ≤ w64 (n - u) ∧ w64 (n - u) < (bs.length : Int)) (h3 : bs[(w64 (n - u)).toNat]? = some (B v)) (h5 : LoopAt cfg kk 103 Go.Proofs.Try.f103 4 (hd120 1 n u ps (bs.set (w64 (n - u)).toNat (B true)) 0) (X.exit 0) (Nm [] [] [] [] [some (4, bs')])) : runFn cfg kk (den cfg kk) 103 Go.Proofs.Try.f103 [.dat (T 1 n ps), .dat (I u), .bor (.lent 0) none] [] [some (4, bs)] = some ([], [], [some (4, bs')]) :=
  hrun_ok [(200016, .yes), (22, .ok), (100022, .at (B v)), (300004, .loop (hd120 1 n u ps (bs.set (w64 (n - u)).toNat (B true)) 0) (.exit 0) (Nm [] [] [] [] [some (4, bs')]))] (ob h1 (ob h2 (ob h3 (ob (rfl : _ = hd120 1 n u ps (bs.set (w64 (n - u)).toNat (B true)) 0) (ob h5 ob0))))) (by kernel_rfl)
theorem lcFree_miss (kk : Nat) (n u : Int) (ps bs bs' : List Dat) (h1 : decide (u ≤ n) = false) (h3 : LoopAt cfg kk 103 Go.Proofs.Try.f103 4 (hd120 1 n u ps bs 0) (X.exit 0) (Nm [] [] [] [] [some (4, bs')])) : runFn cfg kk (den cfg kk) 103 Go.Proofs.Try.f103 [.dat (T 1 n ps), .dat (I u), .bor (.lent 0) none] [] [some (4, bs)] = some ([], [], [some (4, bs')]) :=
  hrun_ok [(200016, .no), (300004, .loop (hd120 1 n u ps (bs) 0) (.exit 0) (Nm [] [] [] [] [some (4, bs')]))] (ob h1 (ob (rfl : _ = hd120 1 n u ps bs 0) (ob h3 ob0))) (by kernel_rfl)
theorem lcFree_2 (kk : Nat) (n u : Int) (ps bs bs' : List Dat) (h2 : LoopAt cfg kk 103 Go.Proofs.Try.f103 4 (hd120 2 n u ps bs 0) (X.exit 0) (Nm [] [] [] [] [some (4, bs')])) : runFn cfg kk (den cfg kk) 103 Go.Proofs.Try.f103 [.dat (T 2 n ps), .dat (I u), .bor (.lent 0) none] [] [some (4, bs)] = some ([], [], [some (4, bs')]) :=
  hrun_ok [(300004, .loop (hd120 2 n u ps (bs) 0) (.exit 0) (Nm [] [] [] [] [some (4, bs')]))] (ob (rfl : _ = hd120 2 n u ps bs 0) (ob h2 ob0)) (by kernel_rfl)
theorem lcFree_3 (kk : Nat) (n u : Int) (ps bs bs' : List Dat) (h2 : LoopAt cfg kk 103 Go.Proofs.Try.f103 4 (hd120 3 n u ps bs 0) (X.exit 0) (Nm [] [] [] [] [some (4, bs')])) : runFn cfg kk (den cfg kk) 103 Go.Proofs.Try.f103 [.dat (T 3 n ps), .dat (I u), .bor (.lent 0) none] [] [some (4, bs)] = some ([], [], [some (4, bs')]) :=
  hrun_ok [(300004, .loop (hd120 3 n u ps (bs) 0) (.exit 0) (Nm [] [] [] [] [some (4, bs')]))] (ob (rfl : _ = hd120 3 n u ps bs 0) (ob h2 ob0)) (by kernel_rfl)
def hd115 (bs out : List Dat) (i : Int) : St := Nm [4, 5, 16, 17, 18] [.own 4 bs, .own 3 out, .bor (.slot 4 []) none, .dat (I bs.length), .dat (I i)] [none, none, none, none, none] [] []
theorem FreeIn_hit (kk m : Nat) {s : St} {K : X → St → Prop} (bs out : List Dat) (i : Int) (hs : s.norm ((envOf cfg kk 104 Go.Proofs.Try.f104).live (firstRegion (lp Go.Proofs.Try.f104 7))) = hd115 bs out i) (h1 : decide (i < (bs.length : Int)) = true) (h2 : 0 ≤ i ∧ i < (bs.length : Int)) (h3 : bs[i.toNat]? = some (B true)) (h4 : out.length + 1 ≤ 2147483648) (hn : ∀ s : St, s.norm ((envOf cfg kk 104 Go.Proofs.Try.f104).live (firstRegion (lp Go.Proofs.Try.f104 7))) = Nm [4, 5, 16, 17, 18] [D.own 4 bs, D.own 3 (out ++ [I i]), D.bor (Pl.slot 4 []) none, D.dat (I (bs.length : Int)), D.dat (I (w64 (i + 1)))] [none, none, none, none, none] [] [] → Rounds (envOf cfg kk 104 Go.Proofs.Try.f104) kk (lp Go.Proofs.Try.f104 7) m s K) : Rounds (envOf cfg kk 104 Go.Proofs.Try.f104) kk (lp Go.Proofs.Try.f104 7) (m + 1) s K :=
  rounds_go [(200019, .yes), (21, .ok), (22, .at (B true)), (27, .ok)] hs (by kernel_rfl) (ob h1 (ob h2 (ob h3 (ob (obT h4) ob0)))) (by kernel_rfl) hn
theorem FreeIn_miss (kk m : Nat) {s : St} {K : X → St → Prop} (bs out : List Dat) (i : Int) (hs : s.norm ((envOf cfg kk 104 Go.Proofs.Try.f104).live (firstRegion (lp Go.Proofs.Try.f104 7))) = hd115 bs out i) (h1 : decide (i < (bs.length : Int)) = true) (h2 : 0 ≤ i ∧ i < (bs.length : Int)) (h3 : bs[i.toNat]? = some (B false)) (hn : ∀ s : St, s.norm ((envOf cfg kk 104 Go.Proofs.Try.f104).live (firstRegion (lp Go.Proofs.Try.f104 7))) = Nm [4, 5, 16, 17, 18] [D.own 4 bs, D.own 3 out, D.bor (Pl.slot 4 []) none, D.dat (I (bs.length : Int)), D.dat (I (w64 (i + 1)))] [none, none, none, none, none] [] [] → Rounds (envOf cfg kk 104 Go.Proofs.Try.f104) kk (lp Go.Proofs.Try.f104 7) m s K) : Rounds (envOf cfg kk 104 Go.Proofs.Try.f104) kk (lp Go.Proofs.Try.f104 7) (m + 1) s K :=
  rounds_go [(200019, .yes), (21, .ok), (22, .at (B false))] hs (by kernel_rfl) (ob h1 (ob h2 (ob h3 ob0))) (by kernel_rfl) hn
theorem FreeIn_end (kk m : Nat) {s : St} {K : X → St → Prop} (bs out : List Dat) (i : Int) (hs : s.norm ((envOf cfg kk 104 Go.Proofs.Try.f104).live (firstRegion (lp Go.Proofs.Try.f104 7))) = hd115 bs out i) (h1 : decide (i < (bs.length : Int)) = false) (hK : K (X.exit 0) (Nm [5] [D.own 3 out] [none] [] [])) : Rounds (envOf cfg kk 104 Go.Proofs.Try.f104) kk (lp Go.Proofs.Try.f104 7) (m + 1) s K :=
  rounds_end [(200019, .no)] hs (by kernel_rfl) rfl (ob h1 ob0) (by kernel_rfl) hK
theorem FreeIn_no (kk : Nat) (b : Bool) (es : List Dat) (h1 : den cfg kk 29 [D.dat (Dat.lst b es)] [] [] = some ([D.dat (B false)], [], [])) : runFn cfg kk (den cfg kk) 104 Go.Proofs.Try.f104 [.dat (Dat.lst b es)] [] [] = some ([D.own 3 [], D.dat (B false)], [], []) :=
  hrun_ok [(9, .ret [.dat (B false)])] (ob h1 ob0) (by kernel_rfl)
theorem FreeIn_go (kk : Nat) (b : Bool) (es : List Dat) (bs out : List Dat) (k n : Int) (d : List Dat) (h1 : den cfg kk 29 [D.dat (Dat.lst b es)] [] [] = some ([D.dat (B true)], [], [])) (h2 : den cfg kk 45 [D.dat (Dat.lst b es), D.dat (I 0)] [] [] = some ([D.dat (T k n d)], [], [])) (h3 : den cfg kk 103 [D.dat (T k n d), D.dat (I 0), D.bor (Pl.lent 0) none] [] [some (4, [B false, B false, B false, B false, B false, B false, B false, B false, B false, B false, B false, B false, B false, B false, B false, B false, B false, B false, B false, B false, B false, B false, B false, B false, B false, B false, B false, B false, B false, B false, B false, B false, B false, B false, B false, B false, B false, B false, B false, B false, B false, B false, B false, B false, B false, B false, B false, B false, B false, B false, B false, B false, B false, B false, B false, B false, B false, B false, B false, B false, B false, B false, B false, B false, B false, B false, B false, B false, B false, B false, B false, B false, B false, B false, B false, B false, B false, B false, B false, B false, B false, B false, B false, B false, B false, B false, B false, B false, B false, B false, B false, B false, B false, B false, B false, B false, B false, B false, B false, B false])] = some ([], [], [some (4, bs)])) (h6 : LoopAt cfg kk 104 Go.Proofs.Try.f104 7 (hd115 bs [] 0) (X.exit 0) (Nm [5] [D.own 3 out] [none] [] [])) : runFn cfg kk (den cfg kk) 104 Go.Proofs.Try.f104 [.dat (Dat.lst b es)] [] [] = some ([D.own 3 out, D.dat (B true)], [], []) :=
  hrun_ok [(9, .ret [.dat (B true)]), (13, .ret [.dat (T k n d)]), (15, .back [] [] [some (4, bs)]), (300007, .loop (hd115 bs [] 0) (.exit 0) (Nm [5] [.own 3 out] [none] [] []))] (ob h1 (ob h2 (ob h3 (ob (rfl : false = false) (ob (rfl : _ = hd115 bs [] 0) (ob h6 ob0)))))) (by kernel_rfl)
theorem leClosed_no (kk : Nat) (b : Bool) (es : List Dat) (rs : List Dat) (h1 : den cfg kk 104 [D.dat (Dat.lst b es)] [] [] = some ([D.own 3 rs, D.dat (B false)], [], [])) : runFn cfg kk (den cfg kk) 92 Go.Proofs.Try.f92 [.dat (Dat.lst b es)] [] [] = some ([D.dat (B false)], [], []) :=
  hrun_ok [(7, .ret [.own 3 rs, .dat (B false)])] (ob h1 ob0) (by kernel_rfl)
theorem leClosed_y (kk : Nat) (b : Bool) (es : List Dat) (rs : List Dat) (h1 : den cfg kk 104 [D.dat (Dat.lst b es)] [] [] = some ([D.own 3 rs, D.dat (B true)], [], [])) : runFn cfg kk (den cfg kk) 92 Go.Proofs.Try.f92 [.dat (Dat.lst b es)] [] [] = some ([D.dat (B (decide ((rs.length : Int) = 0)))], [], []) :=
  hrun_ok [(7, .ret [.own 3 rs, .dat (B true)])] (ob h1 ob0) (by kernel_rfl)
theorem lfClosed (kk : Nat) (b : Bool) (es : List Dat) (r : Bool) (h1 : den cfg kk 92 [D.dat (Dat.lst b es)] [] [] = some ([D.dat (B r)], [], [])) : runFn cfg kk (den cfg kk) 53 Go.Proofs.Try.f53 [.dat (Dat.lst b es)] [] [] = some ([D.dat (B r)], [], []) :=
  hrun_ok [(4, .ret [.dat (B r)])] (ob h1 ob0) (by kernel_rfl)
def hd105 (a : Int) (ps out : List Dat) (i : Int) : St := Nm [1, 2, 29, 30, 31] [.dat (I a), .fn 85 [.up 0], .dat (.lst false ps), .dat (I ps.length), .dat (I i)] [none, none, none, none, none] [[.own 3 out]] []
theorem free_go (kk m : Nat) {s : St} {K : X → St → Prop} (a : Int) (ps out : List Dat) (i : Int) (out' : List Dat) (kx nx : Int) (dx : List Dat) (hs : s.norm ((envOf cfg kk 84 Go.Proofs.Try.f84).live (firstRegion (lp Go.Proofs.Try.f84 6))) = hd105 a ps out i) (h1 : decide (i < (ps.length : Int)) = true) (h2 : (0 ≤ i ∧ i < (ps.length : Int)) ∧ ps[i.toNat]? = some (T kx nx dx)) (h3 : den cfg kk 84 [D.dat (T kx nx dx), D.dat (I a), D.fn 85 [Ref.up 0]] [[D.own 3 out]] [] = some ([], [[D.own 3 out']], [])) (hn : ∀ s : St, s.norm ((envOf cfg kk 84 Go.Proofs.Try.f84).live (firstRegion (lp Go.Proofs.Try.f84 6))) = Nm [1, 2, 29, 30, 31] [D.dat (I a), D.fn 85 [Ref.up 0], D.dat (Dat.lst false ps), D.dat (I (ps.length : Int)), D.dat (I (w64 (i + 1)))] [none, none, none, none, none] [[D.own 3 out']] [] → Rounds (envOf cfg kk 84 Go.Proofs.Try.f84) kk (lp Go.Proofs.Try.f84 6) m s K) : Rounds (envOf cfg kk 84 Go.Proofs.Try.f84) kk (lp Go.Proofs.Try.f84 6) (m + 1) s K :=
  rounds_go [(200032, .yes), (33, .at (T kx nx dx)), (38, .back [] [[.own 3 out']] [])] hs (by kernel_rfl) (ob h1 (ob h2 (ob h3 (ob (rfl : false = false) ob0)))) (by kernel_rfl) hn
theorem free_end (kk m : Nat) {s : St} {K : X → St → Prop} (a : Int) (ps out : List Dat) (i : Int) (hs : s.norm ((envOf cfg kk 84 Go.Proofs.Try.f84).live (firstRegion (lp Go.Proofs.Try.f84 6))) = hd105 a ps out i) (h1 : decide (i < (ps.length : Int)) = false) (hK : K (X.exit 0) (Nm [] [] [] [[D.own 3 out]] [])) : Rounds (envOf cfg kk 84 Go.Proofs.Try.f84) kk (lp Go.Proofs.Try.f84 6) (m + 1) s K :=
  rounds_end [(200032, .no)] hs (by kernel_rfl) rfl (ob h1 ob0) (by kernel_rfl) hK
theorem free_hit (kk : Nat) (n a : Int) (ps out out1 out2 : List Dat) (h1 : decide (a ≤ n) = true) (h2 : den cfg kk 85 [D.dat (I (w64 (n - a))), D.ptr (Ref.up 0) 0] [[D.own 3 out]] [] = some ([], [[D.own 3 out1]], [])) (h5 : LoopAt cfg kk 84 Go.Proofs.Try.f84 6 (hd105 a ps out1 0) (X.exit 0) (Nm [] [] [] [[D.own 3 out2]] [])) : runFn cfg kk (den cfg kk) 84 Go.Proofs.Try.f84 [.dat (T 1 n ps), .dat (I a), .fn 85 [.up 0]] [[.own 3 out]] [] = some ([], [[D.own 3 out2]], []) :=
  hrun_ok [(200016, .yes), (22, .back [] [[.own 3 out1]] []), (300006, .loop (hd105 a ps out1 0) (.exit 0) (Nm [] [] [] [[.own 3 out2]] []))] (ob h1 (ob h2 (ob (rfl : false = false) (ob (rfl : _ = hd105 a ps out1 0) (ob h5 ob0))))) (by kernel_rfl)
theorem free_miss (kk : Nat) (n a : Int) (ps out out2 : List Dat) (h1 : decide (a ≤ n) = false) (h3 : LoopAt cfg kk 84 Go.Proofs.Try.f84 6 (hd105 a ps out 0) (X.exit 0) (Nm [] [] [] [[D.own 3 out2]] [])) : runFn cfg kk (den cfg kk) 84 Go.Proofs.Try.f84 [.dat (T 1 n ps), .dat (I a), .fn 85 [.up 0]] [[.own 3 out]] [] = some ([], [[D.own 3 out2]], []) :=
  hrun_ok [(200016, .no), (300006, .loop (hd105 a ps out 0) (.exit 0) (Nm [] [] [] [[.own 3 out2]] []))] (ob h1 (ob (rfl : _ = hd105 a ps out 0) (ob h3 ob0))) (by kernel_rfl)
theorem free_lam (kk : Nat) (n a : Int) (ps out out2 : List Dat) (h2 : LoopAt cfg kk 84 Go.Proofs.Try.f84 6 (hd105 (w64 (a + 1)) ps out 0) (X.exit 0) (Nm [] [] [] [[D.own 3 out2]] [])) : runFn cfg kk (den cfg kk) 84 Go.Proofs.Try.f84 [.dat (T 2 n ps), .dat (I a), .fn 85 [.up 0]] [[.own 3 out]] [] = some ([], [[D.own 3 out2]], []) :=
  hrun_ok [(300006, .loop (hd105 (w64 (a + 1)) ps out 0) (.exit 0) (Nm [] [] [] [[.own 3 out2]] []))] (ob (rfl : _ = hd105 (w64 (a + 1)) ps out 0) (ob h2 ob0)) (by kernel_rfl)
theorem free_app (kk : Nat) (n a : Int) (ps out out2 : List Dat) (h2 : LoopAt cfg kk 84 Go.Proofs.Try.f84 6 (hd105 a ps out 0) (X.exit 0) (Nm [] [] [] [[D.own 3 out2]] [])) : runFn cfg kk (den cfg kk) 84 Go.Proofs.Try.f84 [.dat (T 3 n ps), .dat (I a), .fn 85 [.up 0]] [[.own 3 out]] [] = some ([], [[D.own 3 out2]], []) :=
  hrun_ok [(300006, .loop (hd105 a ps out 0) (.exit 0) (Nm [] [] [] [[.own 3 out2]] []))] (ob (rfl : _ = hd105 a ps out 0) (ob h2 ob0)) (by kernel_rfl)
theorem freeIn1 (kk : Nat) (x : Int) (out : List Dat) (h1 : out.length + 1 ≤ 2147483648) : runFn cfg kk (den cfg kk) 85 Go.Proofs.Try.f85 [.dat (I x), .ptr (.up 0) 0] [[.own 3 out]] [] = some ([], [[D.own 3 (out ++ [I x])]], []) :=
  hrun_ok [(6, .ok)] (ob (obT h1) ob0) (by kernel_rfl)
theorem freeIn (kk : Nat) (k n : Int) (d : List Dat) (out srt cmp : List Dat) (h1 : den cfg kk 84 [D.dat (T k n d), D.dat (I 0), D.fn 85 [Ref.up 0]] [[D.own 3 []]] [] = some ([], [[D.own 3 out]], [])) (h3 : den cfg kk 86 [D.bor (Pl.lent 0) none] [] [some (3, out)] = some ([], [], [some (3, srt)])) (h5 : den cfg kk 87 [D.own 3 srt] [] [] = some ([D.own 3 cmp], [], [])) : runFn cfg kk (den cfg kk) 47 Go.Proofs.Try.f47 [.dat (T k n d)] [] [] = some ([D.own 3 cmp], [], []) :=
  hrun_ok [(7, .back [] [[.own 3 out]] []), (9, .back [] [] [some (3, srt)]), (11, .back [.own 3 cmp] [] [])] (ob h1 (ob (rfl : false = false) (ob h3 (ob (rfl : false = false) (ob h5 (ob (rfl : false = false) ob0)))))) (by kernel_rfl)
theorem closedOf_no (kk : Nat) (b : Bool) (es : List Dat) (k n : Int) (d : List Dat) (h1 : den cfg kk 32 [D.dat (Dat.lst b es)] [] [] = some ([D.dat (T k n d), D.dat (B false)], [], [])) : runFn cfg kk (den cfg kk) 51 Go.Proofs.Try.f51 [.dat (Dat.lst b es)] [] [] = some ([D.dat (T k n d), D.dat (B false)], [], []) :=
  hrun_ok [(8, .ret [.dat (T k n d), .dat (B false)])] (ob h1 ob0) (by kernel_rfl)
theorem closedOf_y (kk : Nat) (b : Bool) (es : List Dat) (rs : List Dat) (k n : Int) (d : List Dat) (h1 : den cfg kk 32 [D.dat (Dat.lst b es)] [] [] = some ([D.dat (T k n d), D.dat (B true)], [], [])) (h2 : den cfg kk 47 [D.dat (T k n d)] [] [] = some ([D.own 3 rs], [], [])) : runFn cfg kk (den cfg kk) 51 Go.Proofs.Try.f51 [.dat (Dat.lst b es)] [] [] = some ([D.dat (T k n d), D.dat (B (decide ((rs.length : Int) = 0)))], [], []) :=
  hrun_ok [(8, .ret [.dat (T k n d), .dat (B true)]), (15, .ret [.own 3 rs])] (ob h1 (ob h2 ob0)) (by kernel_rfl)
theorem iApply_no1 (kk : Nat) (b1 b2 : Bool) (es fs : List Dat) (r2 : Bool) (k1 n1 : Int) (d1 : List Dat) (k2 n2 : Int) (d2 : List Dat) (h1 : den cfg kk 51 [D.dat (Dat.lst b1 es)] [] [] = some ([D.dat (T k1 n1 d1), D.dat (B false)], [], [])) (h2 : den cfg kk 51 [D.dat (Dat.lst b2 fs)] [] [] = some ([D.dat (T k2 n2 d2), D.dat (B r2)], [], [])) : runFn cfg kk (den cfg kk) 21 Go.Proofs.Try.f21 [.dat (Dat.lst b1 es), .dat (Dat.lst b2 fs)] [] [] = some ([D.own 56 [], D.dat (B false)], [], []) :=
  hrun_ok [(12, .ret [.dat (T k1 n1 d1), .dat (B false)]), (17, .ret [.dat (T k2 n2 d2), .dat (B r2)])] (ob h1 (ob h2 ob0)) (by kernel_rfl)
theorem iApply_no2 (kk : Nat) (b1 b2 : Bool) (es fs : List Dat) (k1 n1 : Int) (d1 : List Dat) (k2 n2 : Int) (d2 : List Dat) (h1 : den cfg kk 51 [D.dat (Dat.lst b1 es)] [] [] = some ([D.dat (T k1 n1 d1), D.dat (B true)], [], [])) (h2 : den cfg kk 51 [D.dat (Dat.lst b2 fs)] [] [] = some ([D.dat (T k2 n2 d2), D.dat (B false)], [], [])) : runFn cfg kk (den cfg kk) 21 Go.Proofs.Try.f21 [.dat (Dat.lst b1 es), .dat (Dat.lst b2 fs)] [] [] = some ([D.own 56 [], D.dat (B false)], [], []) :=
  hrun_ok [(12, .ret [.dat (T k1 n1 d1), .dat (B true)]), (17, .ret [.dat (T k2 n2 d2), .dat (B false)])] (ob h1 (ob h2 ob0)) (by kernel_rfl)
theorem iApply_go (kk : Nat) (b1 b2 : Bool) (es fs : List Dat) (out : List Dat) (r : Bool) (k1 n1 : Int) (d1 : List Dat) (k2 n2 : Int) (d2 : List Dat) (k3 n3 : Int) (d3 : List Dat) (h1 : den cfg kk 51 [D.dat (Dat.lst b1 es)] [] [] = some ([D.dat (T k1 n1 d1), D.dat (B true)], [], [])) (h2 : den cfg kk 51 [D.dat (Dat.lst b2 fs)] [] [] = some ([D.dat (T k2 n2 d2), D.dat (B true)], [], [])) (h3 : den cfg kk 57 [D.dat (T k1 n1 d1), D.dat (T k2 n2 d2)] [] [] = some ([D.dat (T k3 n3 d3)], [], [])) (h4 : den cfg kk 36 [D.dat (T k3 n3 d3)] [] [] = some ([D.own 56 out, D.dat (B r)], [], [])) : runFn cfg kk (den cfg kk) 21 Go.Proofs.Try.f21 [.dat (Dat.lst b1 es), .dat (Dat.lst b2 fs)] [] [] = some ([D.own 56 out, D.dat (B r)], [], []) :=
  hrun_ok [(12, .ret [.dat (T k1 n1 d1), .dat (B true)]), (17, .ret [.dat (T k2 n2 d2), .dat (B true)]), (28, .ret [.dat (T k3 n3 d3)]), (29, .ret [.own 56 out, .dat (B r)])] (ob h1 (ob h2 (ob h3 (ob h4 ob0)))) (by kernel_rfl)
end Go.Den
namespace Go.Den
open Go
set_option linter.unusedVariables false
set_option maxRecDepth 100000
/-- A loop over a term's parts. -/
theorem kids_loop {kk f : Nat} {fn : Func} {r : Nat} {x : X} {s' s0 : St} (t : Pt) (hk : 5 ≤ kk) (st : Nat → St)
    (hgo : ∀ (i : Nat) (y : Pt), t.kids[i]? = some y → y ∈ t.kids → decide ((i : Int) < ((t.kids.map Pt.d).length : Int)) = true → ((0 ≤ (i : Int) ∧ (i : Int) < ((t.kids.map Pt.d).length : Int)) ∧ (t.kids.map Pt.d)[(i : Int).toNat]? = some (T y.kd y.num (y.kids.map Pt.d))) → w64 ((i : Int) + 1) = ((i + 1 : Nat) : Int) →
      ∀ (m : Nat) (s : St) (K : X → St → Prop), s.norm ((envOf cfg kk f fn).live (firstRegion (lp fn r))) = st i → (∀ s : St, s.norm ((envOf cfg kk f fn).live (firstRegion (lp fn r))) = st (i + 1) → Rounds (envOf cfg kk f fn) kk (lp fn r) m s K) → Rounds (envOf cfg kk f fn) kk (lp fn r) (m + 1) s K)
    (hend : decide ((t.kids.length : Int) < ((t.kids.map Pt.d).length : Int)) = false → ∀ (m : Nat) (s : St) (K : X → St → Prop), s.norm ((envOf cfg kk f fn).live (firstRegion (lp fn r))) = st t.kids.length → K x s' → Rounds (envOf cfg kk f fn) kk (lp fn r) (m + 1) s K) (h0 : s0 = st 0) : LoopAt cfg kk f fn r s0 x s' := by
  have hle := t.kids_le
  refine loopAt_range st t.kids.length (by omega) (fun i hi m s K hs hn => ?_) (hend (decide_eq_false (by simp))) h0
  obtain ⟨y, h1, h2, h3⟩ := kid_at hi
  have hto : ((i : Int)).toNat = i := by simp
  exact hgo i y h1 h2 (decide_eq_true (by simp; omega)) ⟨⟨by omega, by simp; omega⟩, by rw [hto]; exact h3⟩ (by rw [w64_eq (by omega)]; rfl) m s K hs hn
theorem takeF_step {α β : Type} {ks : List α} {i : Nat} {x : α} (h : ks[i]? = some x) (g : α → List β) : (ks.take (i + 1)).flatMap g = (ks.take i).flatMap g ++ g x := by
  rw [List.take_add_one, h]
  simp
/-- The indices of the free variables, as they stand. -/
def fv : Pt → Int → List Int
  | .var n, a => if a ≤ n then [n - a] else []
  | .lam _ t, a => fv t (a + 1)
  | .app _ x y, a => fv x a ++ fv y a
def Pt.under (t : Pt) (a : Int) : Int := match t with | .lam _ _ => a + 1 | _ => a
theorem fv_kids (t : Pt) (a : Int) (h : ∀ n, t ≠ .var n) : fv t a = t.kids.flatMap fun x => fv x (t.under a) := by
  cases t with
  | var n => exact (h n rfl).elim
  | lam n x => simp [fv, Pt.kids, Pt.under]
  | app n x y => simp [fv, Pt.kids, Pt.under]
theorem fv_range : ∀ (t : Pt) (a : Int), t.nums = true → 0 ≤ a → ∀ z ∈ fv t a, 0 ≤ z ∧ z ≤ 99
  | .var n, a, h, ha, z, hz => by
    have h' : 0 ≤ n ∧ n ≤ 99 := by simpa [Pt.nums] using h
    simp only [fv] at hz
    split at hz
    · simp only [List.mem_singleton] at hz; omega
    · cases hz
  | .lam n t, a, h, ha, z, hz => by
    have h' : n = 0 ∧ t.nums = true := by simpa [Pt.nums] using h
    exact fv_range t (a + 1) h'.2 (by omega) z hz
  | .app n x y, a, h, ha, z, hz => by
    have h' : n = 0 ∧ x.nums = true ∧ y.nums = true := by simpa [Pt.nums] using h
    simp only [fv, List.mem_append] at hz
    rcases hz with hz | hz
    · exact fv_range x a h'.2.1 ha z hz
    · exact fv_range y a h'.2.2 ha z hz
theorem fv_length : ∀ (t : Pt) (a : Int), (fv t a).length ≤ t.size
  | .var n, a => by simp only [fv, Pt.size]; split <;> simp
  | .lam n t, a => by have := fv_length t (a + 1); simp only [fv, Pt.size]; omega
  | .app n x y, a => by have h1 := fv_length x a; have h2 := fv_length y a; simp only [fv, Pt.size, List.length_append]; omega
theorem nums_kids {t x : Pt} (h : t.nums = true) (hx : x ∈ t.kids) : x.nums = true := by
  rw [Pt.nums_kids] at h
  simp only [Bool.and_eq_true, List.all_eq_true] at h
  exact h.2 x hx
def setB (bs : List Bool) (zs : List Int) : List Bool := zs.foldl (fun bs z => bs.set z.toNat true) bs
theorem setB_length (zs : List Int) : ∀ bs, (setB bs zs).length = bs.length := by
  induction zs with
  | nil => intro bs; rfl
  | cons z zs ih => intro bs; simp only [setB, List.foldl_cons] at ih ⊢; rw [ih]; simp
theorem setB_append (bs : List Bool) (a b : List Int) : setB bs (a ++ b) = setB (setB bs a) b := by simp [setB]
theorem setB_get (zs : List Int) : ∀ (bs : List Bool) (i : Nat), i < bs.length → (∀ z ∈ zs, 0 ≤ z) → (setB bs zs)[i]? = some (bs.getD i false || zs.contains (i : Int)) := by
  induction zs with
  | nil => intro bs i hi _; simp [setB, hi]
  | cons z zs ih =>
    intro bs i hi hz
    have h0 : 0 ≤ z := hz z (by simp)
    have := ih (bs.set z.toNat true) i (by simpa using hi) (fun y hy => hz y (by simp [hy]))
    simp only [setB, List.foldl_cons] at this ⊢
    rw [this]
    congr 1
    simp only [List.getD_eq_getElem?_getD, List.getElem?_set, List.contains_cons]
    by_cases he : z.toNat = i
    · have e2 : ((i : Int) == z) = true := by simp; omega
      rw [if_pos he, if_pos (by omega), e2]
      simp
    · have e2 : ((i : Int) == z) = false := by simp; omega
      rw [if_neg he, e2]
      simp
theorem ev_lcFree : ∀ (d : Nat) (t : Pt) (u : Int) (bs : List Bool), t.depth ≤ d → t.nums = true → 0 ≤ u → u + t.depth ≤ 1000 → bs.length = 100 →
    EvN (d + 10) 103 [.dat t.d, .dat (I u), .bor (.lent 0) none] [] [some (4, bs.map B)] ([], [], [some (4, (setB bs (fv t u)).map B)])
  | 0, t, u, bs, hd, _, _, _, _ => by have := t.depth_pos; omega
  | d + 1, t, u, bs, hd, hn, hu, hud, hb => by
    refine ev_fn Go.Proofs.Try.f103 (d + 10) (by kernel_rfl) (by kernel_rfl) fun kk hkk => ?_
    have hloop : ∀ (bs : List Bool), bs.length = 100 → (∀ n, t ≠ .var n) → LoopAt cfg kk 103 Go.Proofs.Try.f103 4 (hd120 t.kd t.num u (t.kids.map Pt.d) (bs.map B) 0) (X.exit 0) (Nm [] [] [] [] [some (4, (setB bs (fv t u)).map B)]) := by
      intro bs hb hv
      refine kids_loop t (by omega) (fun i => hd120 t.kd t.num u (t.kids.map Pt.d) ((setB bs ((t.kids.take i).flatMap fun x => fv x (t.under u))).map B) i) (fun i y hy hmem h1 h2 h3 m s K hs hn' => ?_) (fun h1 m s K hs hK => ?_) (by simp [setB])
      · have hlt := Pt.kids_lt hmem
        have hu2 : t.under u ≤ u + 1 ∧ u ≤ t.under u := by cases t <;> simp [Pt.under] <;> omega
        have hr := ev_lcFree d y (t.under u) (setB bs ((t.kids.take i).flatMap fun x => fv x (t.under u))) (by omega) (nums_kids hn hmem) (by omega) (by omega) (by rw [setB_length]; exact hb) kk (by omega)
        rw [Pt.d_eq y] at hr
        have hgo : ∀ s : St, s.norm ((envOf cfg kk 103 Go.Proofs.Try.f103).live (firstRegion (lp Go.Proofs.Try.f103 4))) = hd120 t.kd t.num u (t.kids.map Pt.d) ((setB (setB bs ((t.kids.take i).flatMap fun x => fv x (t.under u))) (fv y (t.under u))).map B) (w64 ((i : Int) + 1)) → Rounds (envOf cfg kk 103 Go.Proofs.Try.f103) kk (lp Go.Proofs.Try.f103 4) m s K := by
          intro s' hs'
          refine hn' s' ?_
          rw [hs', h3, ← setB_append, ← takeF_step hy]
        cases t with
        | var n => exact (hv n rfl).elim
        | lam n x =>
          have e : w64 (u + 1) = u + 1 := w64_eq (by simp only [Pt.depth] at hud; omega)
          refine lcFree_lam kk m n u _ _ _ _ _ _ _ hs h1 h2 ?_ hgo
          rw [e]
          exact hr
        | app n x z => exact lcFree_app kk m n u _ _ _ _ _ _ _ hs h1 h2 hr hgo
      · refine lcFree_end kk m _ _ _ _ _ _ hs h1 ?_
        rw [List.take_length, ← fv_kids t u hv]
        exact hK
    cases t with
    | var n =>
      have hn' : 0 ≤ n ∧ n ≤ 99 := by simpa [Pt.nums] using hn
      have hend : ∀ L : List Dat, LoopAt cfg kk 103 Go.Proofs.Try.f103 4 (hd120 1 n u [] L 0) (X.exit 0) (Nm [] [] [] [] [some (4, L)]) := fun L =>
        kids_loop (.var n) (by omega) (fun i => hd120 1 n u [] L i) (fun i y hy => by simp [Pt.kids] at hy) (fun h1 m s K hs hK => lcFree_end kk m _ _ _ _ _ _ hs h1 hK) rfl
      by_cases h : u ≤ n
      · have e : w64 (n - u) = n - u := w64_eq (by omega)
        have hget : (bs.map B)[(n - u).toNat]? = some (B (bs.getD (n - u).toNat false)) := by
          rw [List.getElem?_map, List.getElem?_eq_getElem (by omega), List.getD_eq_getElem?_getD, List.getElem?_eq_getElem (by omega)]
          rfl
        have hfv : fv (.var n) u = [n - u] := by simp only [fv]; rw [if_pos h]
        have hset : (setB bs (fv (.var n) u)).map B = (bs.map B).set (n - u).toNat (B true) := by
          rw [hfv]
          simp [setB, List.map_set]
        rw [hset]
        have := lcFree_hit kk n u [] (bs.map B) ((bs.map B).set (n - u).toNat (B true)) (bs.getD (n - u).toNat false) (decide_eq_true h) (by rw [e]; simp; omega) (by rw [e]; exact hget) (by rw [e]; exact hend _)
        exact this
      · have hfv : fv (.var n) u = [] := by simp only [fv]; rw [if_neg h]
        rw [hfv]
        exact lcFree_miss kk n u [] _ _ (decide_eq_false h) (hend _)
    | lam n x => exact lcFree_2 kk n u _ _ _ (hloop bs hb (fun _ h => by cases h))
    | app n x y => exact lcFree_3 kk n u _ _ _ (hloop bs hb (fun _ h => by cases h))
/-- The indices that are marked. -/
def hasL (bs : List Bool) (n : Nat) : List Nat := (List.range n).filter fun i => bs.getD i false
theorem ev_FreeIn (L : List Nd) (b : Bool) (hL : L.length ≤ 1048576) :
    (∀ t, termOfP L = some t → EvN 1000300 104 [.dat (.lst b (L.map Nd.d))] [] [] ([.own 3 ((hasL (setB (List.replicate 100 false) (fv t 0)) 100).map IN), .dat (B true)], [], [])) ∧
    (termOfP L = none → EvN 1000300 104 [.dat (.lst b (L.map Nd.d))] [] [] ([.own 3 [], .dat (B false)], [], [])) := by
  refine ⟨fun t ht => ?_, fun ht => ?_⟩
  · refine (ev_fn Go.Proofs.Try.f104 1000250 (by kernel_rfl) (by kernel_rfl) fun kk hkk => ?_).mono (by omega)
    have g := ev_GoodTerm L b hL kk (by omega)
    rw [goodS_term, ht] at g
    have hg := ((termOfP_iff L t).1 ht).1
    have hsm := good_small hg
    have hnum := (good_facts hg).2.2
    have a2 := ev_tree b ht kk (by omega)
    have a3 := ev_lcFree 40 t 0 (List.replicate 100 false) hsm.2.1 hnum (by omega) (by have := hsm.2.1; omega) (by simp) kk (by omega)
    rw [Pt.d_eq] at a2 a3
    refine FreeIn_go kk b _ _ _ _ _ _ g a2 a3 ?_
    have hbl : (setB (List.replicate 100 false) (fv t 0)).length = 100 := by rw [setB_length]; simp
    generalize setB (List.replicate 100 false) (fv t 0) = bs at hbl
    have hml : (bs.map B).length = 100 := by simpa using hbl
    refine loopAt_range (fun i => hd115 (bs.map B) ((hasL bs i).map IN) i) 100 (by omega) (fun i hi m s K hs hn => ?_) (fun m s K hs hK => ?_) (by simp [hasL])
    · have hto : ((i : Int)).toNat = i := by simp
      have hget : (bs.map B)[i]? = some (B (bs.getD i false)) := by
        rw [List.getElem?_map, List.getElem?_eq_getElem (by omega), List.getD_eq_getElem?_getD, List.getElem?_eq_getElem (by omega)]
        rfl
      have hst : hasL bs (i + 1) = hasL bs i ++ (if bs.getD i false = true then [i] else []) := filter_range_succ _ i
      have hlen : (hasL bs i).length ≤ i := Nat.le_trans (List.length_filter_le _ _) (by simp)
      cases hv : bs.getD i false with
      | true =>
        refine FreeIn_hit kk m _ _ _ hs (decide_eq_true (by omega)) ⟨by omega, by omega⟩ (by rw [hto, hget, hv]) (by simp; omega) fun s' hs' => hn s' ?_
        rw [hs', w64_eq (by omega), hst, hv]
        simp only [if_true, List.map_append]
        rfl
      | false =>
        refine FreeIn_miss kk m _ _ _ hs (decide_eq_true (by omega)) ⟨by omega, by omega⟩ (by rw [hto, hget, hv]) fun s' hs' => hn s' ?_
        rw [hs', w64_eq (by omega), hst, hv]
        simp only [Bool.false_eq_true, if_false, List.append_nil]
        rfl
    · exact FreeIn_end kk m _ _ _ hs (decide_eq_false (by rw [hml]; decide)) hK
  · refine (ev_fn Go.Proofs.Try.f104 1000250 (by kernel_rfl) (by kernel_rfl) fun kk hkk => ?_).mono (by omega)
    have g := ev_GoodTerm L b hL kk (by omega)
    rw [goodS_term, ht] at g
    exact FreeIn_no kk b _ g
/-- A term of no free variable. -/
def closedP (t : Pt) : Bool := (fv t 0).isEmpty
theorem hasL_fv (t : Pt) (h : t.nums = true) (i : Nat) : i ∈ hasL (setB (List.replicate 100 false) (fv t 0)) 100 ↔ (i : Int) ∈ fv t 0 := by
  have hr := fv_range t 0 h (by omega)
  unfold hasL
  have hrep : ∀ n : Nat, (List.replicate n false).getD i false = false := fun n => by
    rw [List.getD_eq_getElem?_getD, List.getElem?_replicate]
    split <;> rfl
  rw [List.mem_filter, List.mem_range, List.getD_eq_getElem?_getD]
  constructor
  · rintro ⟨h1, h2⟩
    rw [setB_get _ _ i (by simpa using h1) (fun z hz => (hr z hz).1), hrep] at h2
    simpa using h2
  · intro hm
    have hb := hr _ hm
    have hi : i < 100 := by omega
    refine ⟨hi, ?_⟩
    rw [setB_get _ _ i (by simpa using hi) (fun z hz => (hr z hz).1)]
    simp [hm]
theorem hasL_empty (t : Pt) (h : t.nums = true) : decide ((((hasL (setB (List.replicate 100 false) (fv t 0)) 100).map IN).length : Int) = 0) = closedP t := by
  have hr := fv_range t 0 h (by omega)
  have hm := hasL_fv t h
  generalize hasL (setB (List.replicate 100 false) (fv t 0)) 100 = hs at hm
  unfold closedP
  cases hf : fv t 0 with
  | nil =>
    rw [hf] at hm
    have : hs = [] := List.eq_nil_iff_forall_not_mem.2 fun i hi => by have := (hm i).1 hi; simp at this
    rw [this]
    rfl
  | cons z zs =>
    rw [hf] at hm hr
    have hz := hr z (by simp)
    have : z.toNat ∈ hs := (hm z.toNat).2 (by rw [Int.toNat_of_nonneg hz.1]; simp)
    have hne : hs ≠ [] := List.ne_nil_of_mem this
    have : hs.length ≠ 0 := fun h => hne (List.eq_nil_of_length_eq_zero h)
    simp only [List.isEmpty_cons]
    exact decide_eq_false (by simp; omega)
/-- The closed term that nodes tell. -/
def closedOfP (L : List Nd) : Option Pt := (termOfP L).bind fun t => if closedP t = true then some t else none
theorem closedOfP_some {L : List Nd} {t : Pt} (h : closedOfP L = some t) : termOfP L = some t ∧ closedP t = true := by
  unfold closedOfP at h
  rw [Option.bind_eq_some_iff] at h
  obtain ⟨a, h1, h2⟩ := h
  split at h2
  · cases h2; exact ⟨h1, by assumption⟩
  · cases h2
theorem ev_lfClosed (L : List Nd) (b : Bool) (hL : L.length ≤ 1048576) : EvN 1000400 53 [.dat (.lst b (L.map Nd.d))] [] [] ([.dat (B (closedOfP L).isSome)], [], []) := by
  refine (ev_fn Go.Proofs.Try.f53 1000350 (by kernel_rfl) (by kernel_rfl) fun k1 hk1 => ?_).mono (by omega)
  refine lfClosed k1 b _ _ ?_
  refine (ev_fn Go.Proofs.Try.f92 1000320 (by kernel_rfl) (by kernel_rfl) fun kk hkk => ?_) k1 (by omega)
  obtain ⟨h1, h2⟩ := ev_FreeIn L b hL
  unfold closedOfP
  cases ht : termOfP L with
  | none => exact leClosed_no kk b _ _ (h2 ht kk (by omega))
  | some t =>
    have := leClosed_y kk b _ _ (h1 t ht kk (by omega))
    rw [hasL_empty t (good_facts ((termOfP_iff L t).1 ht).1).2.2] at this
    rw [this]
    simp only [Option.bind_some]
    cases closedP t <;> rfl
theorem ev_free : ∀ (d : Nat) (t : Pt) (a : Int) (out : List Int), t.depth ≤ d → t.within 1000000 → 0 ≤ a → a + t.depth ≤ 1000000 → out.length + t.size ≤ 1000000 →
    EvN (d + 10) 84 [.dat t.d, .dat (I a), .fn 85 [.up 0]] [[.own 3 (out.map I)]] [] ([], [[.own 3 ((out ++ fv t a).map I)]], [])
  | 0, t, a, out, hd, _, _, _, _ => by have := t.depth_pos; omega
  | d + 1, t, a, out, hd, hw, ha, had, ho => by
    refine ev_fn Go.Proofs.Try.f84 (d + 10) (by kernel_rfl) (by kernel_rfl) fun kk hkk => ?_
    have hwk : ∀ x ∈ t.kids, x.within 1000000 := by
      intro x hx
      cases t with
      | var n => cases hx
      | lam n y => simp only [Pt.kids, List.mem_singleton] at hx; subst hx; exact hw
      | app n y z =>
        have hw : y.within 1000000 ∧ z.within 1000000 := hw
        simp only [Pt.kids, List.mem_cons, List.not_mem_nil, or_false] at hx
        rcases hx with rfl | rfl
        · exact hw.1
        · exact hw.2
    have hloop : (∀ n, t ≠ .var n) → LoopAt cfg kk 84 Go.Proofs.Try.f84 6 (hd105 (t.under a) (t.kids.map Pt.d) (out.map I) 0) (X.exit 0) (Nm [] [] [] [[.own 3 ((out ++ fv t a).map I)]] []) := by
      intro hv
      refine kids_loop t (by omega) (fun i => hd105 (t.under a) (t.kids.map Pt.d) ((out ++ (t.kids.take i).flatMap fun x => fv x (t.under a)).map I) i) (fun i y hy hmem h1 h2 h3 m s K hs hn' => ?_) (fun h1 m s K hs hK => ?_) (by simp)
      · have hlt := Pt.kids_lt hmem
        have hu2 : t.under a ≤ a + 1 ∧ a ≤ t.under a := by cases t <;> simp [Pt.under] <;> omega
        have hsz : ((t.kids.take i).flatMap fun x => fv x (t.under a)).length + y.size ≤ t.size := by
          have h5 : ∀ ks : List Pt, (ks.flatMap fun x => fv x (t.under a)).length ≤ (ks.map Pt.size).sum := fun ks => by
            induction ks with
            | nil => simp
            | cons k ks ih => have := fv_length k (t.under a); simp only [List.flatMap_cons, List.length_append, List.map_cons, List.sum_cons]; omega
          have h6 := h5 (t.kids.take i)
          have h7 := sum_le (ks := t.kids) (i + 1)
          rw [List.take_add_one, hy] at h7
          simp only [List.map_append, List.sum_append, Option.toList_some, List.map_cons, List.map_nil, List.sum_cons, List.sum_nil] at h7
          have := t.size_kids
          omega
        have hr := ev_free d y (t.under a) (out ++ (t.kids.take i).flatMap fun x => fv x (t.under a)) (by omega) (hwk y hmem) (by omega) (by omega) (by simp only [List.length_append]; omega) kk (by omega)
        rw [Pt.d_eq y] at hr
        refine free_go kk m _ _ _ _ _ _ _ _ hs h1 h2 hr fun s' hs' => hn' s' ?_
        rw [hs', h3, takeF_step hy, List.append_assoc]
        rfl
      · refine free_end kk m _ _ _ _ hs h1 ?_
        rw [List.take_length, ← fv_kids t a hv]
        exact hK
    cases t with
    | var n =>
      have hw : -1000000 ≤ n ∧ n ≤ 1000000 := hw
      have hend : ∀ L : List Dat, LoopAt cfg kk 84 Go.Proofs.Try.f84 6 (hd105 a [] L 0) (X.exit 0) (Nm [] [] [] [[.own 3 L]] []) := fun L =>
        kids_loop (.var n) (by omega) (fun i => hd105 a [] L i) (fun i y hy => by simp [Pt.kids] at hy) (fun h1 m s K hs hK => free_end kk m _ _ _ _ hs h1 hK) rfl
      simp only [Pt.depth] at had
      simp only [Pt.size] at ho
      by_cases h : a ≤ n
      · have e : w64 (n - a) = n - a := w64_eq (by omega)
        have hfv : fv (.var n) a = [n - a] := by simp only [fv]; rw [if_pos h]
        rw [hfv]
        refine free_hit kk n a [] _ _ _ (decide_eq_true h) ?_ (hend _)
        rw [e]
        refine (ev_fn Go.Proofs.Try.f85 0 (by kernel_rfl) (by kernel_rfl) fun k2 _ => ?_) kk (by omega)
        have := freeIn1 k2 (n - a) (out.map I) (by simp; omega)
        rw [this]
        simp
      · have hfv : fv (.var n) a = [] := by simp only [fv]; rw [if_neg h]
        rw [hfv, List.append_nil]
        exact free_miss kk n a [] _ _ (decide_eq_false h) (hend _)
    | lam n x =>
      have e : w64 (a + 1) = a + 1 := w64_eq (by simp only [Pt.depth] at had; omega)
      have := hloop (fun _ h => by cases h)
      refine free_lam kk n a _ _ _ ?_
      rw [e]
      exact this
    | app n x y => exact free_app kk n a _ _ _ (hloop (fun _ h => by cases h))
/-- The free variables, sorted, each once. -/
def freeL (t : Pt) : List Int := Lib.compact ((fv t 0).mergeSort fun x y => decide (x ≤ y))
theorem den_ext {f k : Nat} {g : List D → List (List D) → List (Option Row) → Option (List D × List (List D) × List (Option Row))} (h : cfg.ext f = some g) (args : List D) (u : List (List D)) (l : List (Option Row)) : den cfg (k + 1) f args u l = g args u l := by
  simp only [den, h]
theorem ev_Sort (zs : List Int) (h : zs.length ≤ 1000000) : EvN 1 86 [.bor (.lent 0) none] [] [some (3, zs.map I)] ([], [], [some (3, (zs.mergeSort fun x y => decide (x ≤ y)).map I)]) := fun k hk => by
  obtain ⟨m, rfl⟩ : ∃ m, k = m + 1 := ⟨k - 1, by omega⟩
  rw [den_ext (g := extSort 3) (by kernel_rfl)]
  have e : intsOf (zs.map I) = some zs := intsOf_map zs
  have e2 : Nat.ble (zs.map I).length 1000000 = true := Nat.ble_eq_true_of_le (by simpa using h)
  show (match Nat.ble (zs.map I).length 1000000 with | true => sortI (zs.map I) | false => none).map (fun es' => (([], [], [some (3, es')]) : List D × List (List D) × List (Option Row))) = _
  rw [e2]
  simp only [sortI, e, Option.map_some]
  rfl
theorem ev_Compact (zs : List Int) (h : zs.length ≤ 1000000) : EvN 1 87 [.own 3 (zs.map I)] [] [] ([.own 3 ((Lib.compact zs).map I)], [], []) := fun k hk => by
  obtain ⟨m, rfl⟩ : ∃ m, k = m + 1 := ⟨k - 1, by omega⟩
  rw [den_ext (g := extComp 3) (by kernel_rfl)]
  have e : intsOf (zs.map I) = some zs := intsOf_map zs
  have e2 : Nat.ble (zs.map I).length 1000000 = true := Nat.ble_eq_true_of_le (by simpa using h)
  show (match Nat.ble (zs.map I).length 1000000 with | true => compI (zs.map I) | false => none).map (fun es' => (([.own 3 es'], [], []) : List D × List (List D) × List (Option Row))) = _
  rw [e2]
  simp only [compI, e, Option.map_some]
  rfl
theorem ev_freeIn (t : Pt) (hg : t.good = true) : EvN 100 47 [.dat t.d] [] [] ([.own 3 ((freeL t).map I)], [], []) := by
  refine (ev_fn Go.Proofs.Try.f47 80 (by kernel_rfl) (by kernel_rfl) fun kk hkk => ?_).mono (by omega)
  have hsm := good_small hg
  have hl := fv_length t 0
  have a1 := ev_free 40 t 0 [] hsm.2.1 hsm.2.2 (by omega) (by have := hsm.2.1; omega) (by simpa using (show t.size ≤ 1000000 by omega)) kk (by omega)
  have a2 := ev_Sort (fv t 0) (by omega) kk (by omega)
  have a3 := ev_Compact ((fv t 0).mergeSort fun x y => decide (x ≤ y)) (by simp; omega) kk (by omega)
  rw [Pt.d_eq] at a1 ⊢
  simp only [List.nil_append] at a1
  exact freeIn kk _ _ _ _ _ _ a1 a2 a3
theorem compact_mem (zs : List Int) (x : Int) : x ∈ Lib.compact zs ↔ x ∈ zs := by
  unfold Lib.compact Lib.compactUpTo
  simp only [List.mem_map, List.mem_filter, List.mem_range]
  constructor
  · rintro ⟨j, ⟨h1, _⟩, rfl⟩
    have : (zs.toArray[j]!) = zs[j] := by simp [h1]
    rw [this]
    exact List.getElem_mem h1
  · intro hx
    obtain ⟨j, hj, rfl⟩ := List.getElem_of_mem hx
    have key : ∀ j, (hj : j < zs.length) → ∃ i, (i < zs.length ∧ Lib.keeps zs.toArray i = true) ∧ zs.toArray[i]! = zs[j] := by
      intro j
      induction j with
      | zero => intro hj; exact ⟨0, ⟨hj, by simp [Lib.keeps]⟩, by simp [hj]⟩
      | succ j ih =>
        intro hj
        cases hk : Lib.keeps zs.toArray (j + 1) with
        | true => exact ⟨j + 1, ⟨hj, hk⟩, by simp [hj]⟩
        | false =>
          have h2 : zs[j + 1] = zs[j] := by
            simp [Lib.keeps] at hk
            have e1 : zs.toArray[j + 1]! = zs[j + 1] := by simp [hj]
            have e2 : zs.toArray[j]! = zs[j] := by simp [show j < zs.length by omega]
            first
              | (rw [← e1, ← e2]; simpa using hk)
              | (simp at hk; simpa using hk)
          obtain ⟨i, hi, he⟩ := ih (by omega)
          exact ⟨i, hi, by rw [he, h2]⟩
    obtain ⟨i, hi, he⟩ := key j hj
    exact ⟨i, hi, he⟩
theorem freeL_mem (t : Pt) (x : Int) : x ∈ freeL t ↔ x ∈ fv t 0 := by
  unfold freeL
  rw [compact_mem]
  simp
theorem freeL_empty (t : Pt) : decide ((((freeL t).map I).length : Int) = 0) = closedP t := by
  have hm := freeL_mem t
  unfold closedP
  generalize freeL t = hs at hm
  cases hf : fv t 0 with
  | nil =>
    rw [hf] at hm
    have : hs = [] := List.eq_nil_iff_forall_not_mem.2 fun i hi => by have := (hm i).1 hi; simp at this
    rw [this]
    rfl
  | cons z zs =>
    rw [hf] at hm
    have : z ∈ hs := (hm z).2 (by simp)
    have hne : hs.length ≠ 0 := fun h => by rw [List.eq_nil_of_length_eq_zero h] at this; cases this
    simp only [List.isEmpty_cons]
    exact decide_eq_false (by rw [List.length_map]; omega)
theorem ev_closedOf (L : List Nd) (b : Bool) (hL : L.length ≤ 1048576) :
    (∀ t, termOfP L = some t → EvN 2000 51 [.dat (.lst b (L.map Nd.d))] [] [] ([.dat t.d, .dat (B (closedP t))], [], [])) ∧
    (termOfP L = none → ∃ (k n : Int) (ds : List Dat), EvN 2000 51 [.dat (.lst b (L.map Nd.d))] [] [] ([.dat (T k n ds), .dat (B false)], [], [])) := by
  obtain ⟨hy, hn⟩ := ev_termOf L b hL
  refine ⟨fun t ht => ?_, fun ht => ?_⟩
  · refine (ev_fn Go.Proofs.Try.f51 1500 (by kernel_rfl) (by kernel_rfl) fun kk hkk => ?_).mono (by omega)
    have a1 := hy t ht kk (by omega)
    have a2 := ev_freeIn t ((termOfP_iff L t).1 ht).1 kk (by omega)
    rw [← freeL_empty t]
    rw [Pt.d_eq] at a1 a2 ⊢
    exact closedOf_y kk b _ _ _ _ _ a1 a2
  · obtain ⟨k, n, ds, e⟩ := hn ht
    exact ⟨k, n, ds, (ev_fn Go.Proofs.Try.f51 1500 (by kernel_rfl) (by kernel_rfl) fun kk hkk => closedOf_no kk b _ _ _ _ (e kk (by omega))).mono (by omega)⟩
/-- What 'closedOf' tells, either way. -/
theorem ev_closedOf_any (L : List Nd) (b : Bool) (hL : L.length ≤ 1048576) : ∃ (k n : Int) (ds : List Dat), EvN 2000 51 [.dat (.lst b (L.map Nd.d))] [] [] ([.dat (T k n ds), .dat (B (closedOfP L).isSome)], [], []) ∧ ∀ t, closedOfP L = some t → T k n ds = t.d := by
  obtain ⟨hy, hn⟩ := ev_closedOf L b hL
  cases ht : termOfP L with
  | none =>
    obtain ⟨k, n, ds, e⟩ := hn ht
    have hc : closedOfP L = none := by unfold closedOfP; rw [ht]; rfl
    exact ⟨k, n, ds, by rw [hc]; exact e, fun t h => by rw [hc] at h; cases h⟩
  | some t =>
    have e := hy t ht
    rw [Pt.d_eq] at e
    have hc : (closedOfP L).isSome = closedP t := by
      unfold closedOfP
      rw [ht]
      simp only [Option.bind_some]
      cases closedP t <;> rfl
    refine ⟨_, _, _, by rw [hc]; exact e, fun t' h => ?_⟩
    have := (closedOfP_some h).1
    rw [ht] at this
    cases this
    exact (Pt.d_eq t).symm
end Go.Den
namespace Go.Den
open Go
set_option linter.unusedVariables false
set_option maxRecDepth 100000
/-- What a good term's nodes are, if it is good. -/
def told (t : Pt) : List Nd × Bool := (if t.good = true then t.flat 0 (-1) else [], t.good)
theorem told_len (t : Pt) : (told t).1.length ≤ 150 := by
  unfold told
  simp only
  split
  · rename_i hg
    rw [Pt.flat_length]
    exact (good_facts hg).1
  · simp
def applyN (L M : List Nd) : List Nd × Bool := match closedOfP L, closedOfP M with | some t, some s => told (.app 0 t s) | _, _ => ([], false)
theorem closedOfP_good {L : List Nd} {t : Pt} (h : closedOfP L = some t) : t.good = true := ((termOfP_iff L t).1 (closedOfP_some h).1).1
theorem ev_iApply (L M : List Nd) (b1 b2 : Bool) (hL : L.length ≤ 1048576) (hM : M.length ≤ 1048576) : EvN 4000 21 [.dat (.lst b1 (L.map Nd.d)), .dat (.lst b2 (M.map Nd.d))] [] [] ([.own 56 ((applyN L M).1.map Nd.d), .dat (B (applyN L M).2)], [], []) := by
  refine (ev_fn Go.Proofs.Try.f21 3900 (by kernel_rfl) (by kernel_rfl) fun kk hkk => ?_).mono (by omega)
  obtain ⟨k1, n1, d1, a1, e1⟩ := ev_closedOf_any L b1 hL
  obtain ⟨k2, n2, d2, a2, e2⟩ := ev_closedOf_any M b2 hM
  have a1 := a1 kk (by omega)
  have a2 := a2 kk (by omega)
  unfold applyN
  cases h1 : closedOfP L with
  | none => rw [h1] at a1; exact iApply_no1 kk b1 b2 _ _ _ _ _ _ _ _ _ a1 a2
  | some t =>
    rw [h1] at a1
    cases h2 : closedOfP M with
    | none => rw [h2] at a2; exact iApply_no2 kk b1 b2 _ _ _ _ _ _ _ _ a1 a2
    | some s =>
      rw [h2] at a2
      have hs1 := good_small (closedOfP_good h1)
      have hs2 := good_small (closedOfP_good h2)
      have a5 := ev_app t s kk (by omega)
      have a6 := ev_goodNodes (.app 0 t s) (by simp only [Pt.size]; omega) kk (by simp only [Pt.depth]; omega)
      rw [e1 t h1, Pt.d_eq t] at a1
      rw [e2 s h2, Pt.d_eq s] at a2
      rw [Pt.d_eq t, Pt.d_eq s, Pt.d_eq (Pt.app 0 t s)] at a5
      rw [Pt.d_eq (Pt.app 0 t s)] at a6
      exact iApply_go kk b1 b2 _ _ _ _ _ _ _ _ _ _ _ _ _ a1 a2 a5 a6
theorem within_kids {t x : Pt} {M : Int} (h : t.within M) (hx : x ∈ t.kids) : x.within M := by
  cases t with
  | var n => cases hx
  | lam n y => simp only [Pt.kids, List.mem_singleton] at hx; subst hx; exact h
  | app n y z =>
    have h : y.within M ∧ z.within M := h
    simp only [Pt.kids, List.mem_cons, List.not_mem_nil, or_false] at hx
    rcases hx with rfl | rfl
    · exact h.1
    · exact h.2
end Go.Den
namespace Go.Den
open Go
set_option linter.unusedVariables false
set_option maxRecDepth 100000
theorem lfPass_var (kk : Nat) (n : Int) (ps : List Dat) (k1 n1 : Int) (d1 : List Dat) (k2 n2 : Int) (d2 : List Dat) (k3 n3 : Int) (d3 : List Dat) (k4 n4 : Int) (d4 : List Dat) (h1 : den cfg kk 77 [D.dat (I 0)] [] [] = some ([D.dat (T k1 n1 d1)], [], [])) (h2 : den cfg kk 77 [D.dat (I (w64 (n + 1)))] [] [] = some ([D.dat (T k2 n2 d2)], [], [])) (h3 : den cfg kk 61 [D.dat (T k1 n1 d1), D.dat (T k2 n2 d2)] [] [] = some ([D.dat (T k3 n3 d3)], [], [])) (h4 : den cfg kk 78 [D.dat (T k3 n3 d3)] [] [] = some ([D.dat (T k4 n4 d4)], [], [])) : runFn cfg kk (den cfg kk) 54 Go.Proofs.Try.f54 [.dat (T 1 n ps)] [] [] = some ([D.dat (T k4 n4 d4)], [], []) :=
  hrun_ok [(10, .ret [.dat (T k1 n1 d1)]), (14, .ret [.dat (T k2 n2 d2)]), (15, .ret [.dat (T k3 n3 d3)]), (16, .ret [.dat (T k4 n4 d4)])] (ob h1 (ob h2 (ob h3 (ob h4 ob0)))) (by kernel_rfl)
theorem lfPass_lam (kk : Nat) (n : Int) (ps : List Dat) (kx nx : Int) (dx : List Dat) (k1 n1 : Int) (d1 : List Dat) (k2 n2 : Int) (d2 : List Dat) (k3 n3 : Int) (d3 : List Dat) (k4 n4 : Int) (d4 : List Dat) (k5 n5 : Int) (d5 : List Dat) (k6 n6 : Int) (d6 : List Dat) (h1 : ((0 : Int) ≤ 0 ∧ 0 < ((T kx nx dx :: ps).length : Int)) ∧ some (T kx nx dx) = some (T kx nx dx)) (h2 : den cfg kk 77 [D.dat (I 0)] [] [] = some ([D.dat (T k1 n1 d1)], [], [])) (h3 : den cfg kk 54 [D.dat (T kx nx dx)] [] [] = some ([D.dat (T k2 n2 d2)], [], [])) (h4 : den cfg kk 78 [D.dat (T k2 n2 d2)] [] [] = some ([D.dat (T k3 n3 d3)], [], [])) (h5 : den cfg kk 93 [D.dat (T k3 n3 d3), D.dat (I 1)] [] [] = some ([D.dat (T k4 n4 d4)], [], [])) (h6 : den cfg kk 61 [D.dat (T k1 n1 d1), D.dat (T k4 n4 d4)] [] [] = some ([D.dat (T k5 n5 d5)], [], [])) (h7 : den cfg kk 78 [D.dat (T k5 n5 d5)] [] [] = some ([D.dat (T k6 n6 d6)], [], [])) : runFn cfg kk (den cfg kk) 54 Go.Proofs.Try.f54 [.dat (T 2 n (T kx nx dx :: ps))] [] [] = some ([D.dat (T k6 n6 d6)], [], []) :=
  hrun_ok [(22, .at (T kx nx dx)), (19, .ret [.dat (T k1 n1 d1)]), (24, .ret [.dat (T k2 n2 d2)]), (25, .ret [.dat (T k3 n3 d3)]), (26, .ret [.dat (T k4 n4 d4)]), (27, .ret [.dat (T k5 n5 d5)]), (28, .ret [.dat (T k6 n6 d6)])] (ob h1 (ob h2 (ob h3 (ob h4 (ob h5 (ob h6 (ob h7 ob0))))))) (by kernel_rfl)
theorem lfPass_app (kk : Nat) (n : Int) (ps : List Dat) (kx nx : Int) (dx : List Dat) (ky ny : Int) (dy : List Dat) (k1 n1 : Int) (d1 : List Dat) (k2 n2 : Int) (d2 : List Dat) (k3 n3 : Int) (d3 : List Dat) (k4 n4 : Int) (d4 : List Dat) (k5 n5 : Int) (d5 : List Dat) (k6 n6 : Int) (d6 : List Dat) (k7 n7 : Int) (d7 : List Dat) (k8 n8 : Int) (d8 : List Dat) (k9 n9 : Int) (d9 : List Dat) (k10 n10 : Int) (d10 : List Dat) (k11 n11 : Int) (d11 : List Dat) (k12 n12 : Int) (d12 : List Dat) (k13 n13 : Int) (d13 : List Dat) (k14 n14 : Int) (d14 : List Dat) (h1 : ((0 : Int) ≤ 0 ∧ 0 < ((T kx nx dx :: T ky ny dy :: ps).length : Int)) ∧ some (T kx nx dx) = some (T kx nx dx)) (h2 : den cfg kk 54 [D.dat (T kx nx dx)] [] [] = some ([D.dat (T k1 n1 d1)], [], [])) (h3 : den cfg kk 93 [D.dat (T k1 n1 d1), D.dat (I 1)] [] [] = some ([D.dat (T k2 n2 d2)], [], [])) (h4 : ((0 : Int) ≤ 1 ∧ 1 < ((T kx nx dx :: T ky ny dy :: ps).length : Int)) ∧ some (T ky ny dy) = some (T ky ny dy)) (h5 : den cfg kk 54 [D.dat (T ky ny dy)] [] [] = some ([D.dat (T k3 n3 d3)], [], [])) (h6 : den cfg kk 93 [D.dat (T k3 n3 d3), D.dat (I 2)] [] [] = some ([D.dat (T k4 n4 d4)], [], [])) (h7 : den cfg kk 77 [D.dat (I 1)] [] [] = some ([D.dat (T k5 n5 d5)], [], [])) (h8 : den cfg kk 77 [D.dat (I 0)] [] [] = some ([D.dat (T k6 n6 d6)], [], [])) (h9 : den cfg kk 61 [D.dat (T k5 n5 d5), D.dat (T k6 n6 d6)] [] [] = some ([D.dat (T k7 n7 d7)], [], [])) (h10 : den cfg kk 77 [D.dat (I 2)] [] [] = some ([D.dat (T k8 n8 d8)], [], [])) (h11 : den cfg kk 61 [D.dat (T k7 n7 d7), D.dat (T k8 n8 d8)] [] [] = some ([D.dat (T k9 n9 d9)], [], [])) (h12 : den cfg kk 78 [D.dat (T k9 n9 d9)] [] [] = some ([D.dat (T k10 n10 d10)], [], [])) (h13 : den cfg kk 61 [D.dat (T k4 n4 d4), D.dat (T k10 n10 d10)] [] [] = some ([D.dat (T k11 n11 d11)], [], [])) (h14 : den cfg kk 78 [D.dat (T k11 n11 d11)] [] [] = some ([D.dat (T k12 n12 d12)], [], [])) (h15 : den cfg kk 61 [D.dat (T k2 n2 d2), D.dat (T k12 n12 d12)] [] [] = some ([D.dat (T k13 n13 d13)], [], [])) (h16 : den cfg kk 78 [D.dat (T k13 n13 d13)] [] [] = some ([D.dat (T k14 n14 d14)], [], [])) : runFn cfg kk (den cfg kk) 54 Go.Proofs.Try.f54 [.dat (T 3 n (T kx nx dx :: T ky ny dy :: ps))] [] [] = some ([D.dat (T k14 n14 d14)], [], []) :=
  hrun_ok [(31, .at (T kx nx dx)), (37, .at (T ky ny dy)), (33, .ret [.dat (T k1 n1 d1)]), (34, .ret [.dat (T k2 n2 d2)]), (39, .ret [.dat (T k3 n3 d3)]), (40, .ret [.dat (T k4 n4 d4)]), (41, .ret [.dat (T k5 n5 d5)]), (42, .ret [.dat (T k6 n6 d6)]), (43, .ret [.dat (T k7 n7 d7)]), (44, .ret [.dat (T k8 n8 d8)]), (45, .ret [.dat (T k9 n9 d9)]), (46, .ret [.dat (T k10 n10 d10)]), (50, .ret [.dat (T k11 n11 d11)]), (51, .ret [.dat (T k12 n12 d12)]), (52, .ret [.dat (T k13 n13 d13)]), (53, .ret [.dat (T k14 n14 d14)])] (ob h1 (ob h2 (ob h3 (ob h4 (ob h5 (ob h6 (ob h7 (ob h8 (ob h9 (ob h10 (ob h11 (ob h12 (ob h13 (ob h14 (ob h15 (ob h16 ob0)))))))))))))))) (by kernel_rfl)
theorem pass_var (kk : Nat) (n : Int) (ps : List Dat) (k1 n1 : Int) (d1 : List Dat) (k2 n2 : Int) (d2 : List Dat) (k3 n3 : Int) (d3 : List Dat) (k4 n4 : Int) (d4 : List Dat) (h1 : den cfg kk 81 [D.dat (I 0)] [] [] = some ([D.dat (T k1 n1 d1)], [], [])) (h2 : den cfg kk 81 [D.dat (I (w64 (n + 1)))] [] [] = some ([D.dat (T k2 n2 d2)], [], [])) (h3 : den cfg kk 57 [D.dat (T k1 n1 d1), D.dat (T k2 n2 d2)] [] [] = some ([D.dat (T k3 n3 d3)], [], [])) (h4 : den cfg kk 74 [D.dat (T k3 n3 d3)] [] [] = some ([D.dat (T k4 n4 d4)], [], [])) : runFn cfg kk (den cfg kk) 52 Go.Proofs.Try.f52 [.dat (T 1 n ps)] [] [] = some ([D.dat (T k4 n4 d4)], [], []) :=
  hrun_ok [(9, .ret [.dat (T k1 n1 d1)]), (13, .ret [.dat (T k2 n2 d2)]), (14, .ret [.dat (T k3 n3 d3)]), (15, .ret [.dat (T k4 n4 d4)])] (ob h1 (ob h2 (ob h3 (ob h4 ob0)))) (by kernel_rfl)
theorem pass_lam (kk : Nat) (n : Int) (ps : List Dat) (k1 n1 : Int) (d1 : List Dat) (k2 n2 : Int) (d2 : List Dat) (k3 n3 : Int) (d3 : List Dat) (k4 n4 : Int) (d4 : List Dat) (k5 n5 : Int) (d5 : List Dat) (h1 : den cfg kk 81 [D.dat (I 0)] [] [] = some ([D.dat (T k1 n1 d1)], [], [])) (h2 : den cfg kk 91 [D.dat (T 2 n ps)] [] [] = some ([D.dat (T k2 n2 d2)], [], [])) (h3 : den cfg kk 49 [D.dat (T k2 n2 d2), D.dat (I 1), D.dat (I 0)] [] [] = some ([D.dat (T k3 n3 d3)], [], [])) (h4 : den cfg kk 57 [D.dat (T k1 n1 d1), D.dat (T k3 n3 d3)] [] [] = some ([D.dat (T k4 n4 d4)], [], [])) (h5 : den cfg kk 74 [D.dat (T k4 n4 d4)] [] [] = some ([D.dat (T k5 n5 d5)], [], [])) : runFn cfg kk (den cfg kk) 52 Go.Proofs.Try.f52 [.dat (T 2 n ps)] [] [] = some ([D.dat (T k5 n5 d5)], [], []) :=
  hrun_ok [(18, .ret [.dat (T k1 n1 d1)]), (20, .ret [.dat (T k2 n2 d2)]), (21, .ret [.dat (T k3 n3 d3)]), (22, .ret [.dat (T k4 n4 d4)]), (23, .ret [.dat (T k5 n5 d5)])] (ob h1 (ob h2 (ob h3 (ob h4 (ob h5 ob0))))) (by kernel_rfl)
theorem pass_app (kk : Nat) (n : Int) (ps : List Dat) (kx nx : Int) (dx : List Dat) (ky ny : Int) (dy : List Dat) (k1 n1 : Int) (d1 : List Dat) (k2 n2 : Int) (d2 : List Dat) (k3 n3 : Int) (d3 : List Dat) (k4 n4 : Int) (d4 : List Dat) (k5 n5 : Int) (d5 : List Dat) (k6 n6 : Int) (d6 : List Dat) (k7 n7 : Int) (d7 : List Dat) (k8 n8 : Int) (d8 : List Dat) (k9 n9 : Int) (d9 : List Dat) (k10 n10 : Int) (d10 : List Dat) (k11 n11 : Int) (d11 : List Dat) (k12 n12 : Int) (d12 : List Dat) (k13 n13 : Int) (d13 : List Dat) (k14 n14 : Int) (d14 : List Dat) (h1 : den cfg kk 81 [D.dat (I 1)] [] [] = some ([D.dat (T k1 n1 d1)], [], [])) (h2 : den cfg kk 81 [D.dat (I 0)] [] [] = some ([D.dat (T k2 n2 d2)], [], [])) (h3 : den cfg kk 57 [D.dat (T k1 n1 d1), D.dat (T k2 n2 d2)] [] [] = some ([D.dat (T k3 n3 d3)], [], [])) (h4 : den cfg kk 81 [D.dat (I 2)] [] [] = some ([D.dat (T k4 n4 d4)], [], [])) (h5 : den cfg kk 57 [D.dat (T k3 n3 d3), D.dat (T k4 n4 d4)] [] [] = some ([D.dat (T k5 n5 d5)], [], [])) (h6 : den cfg kk 74 [D.dat (T k5 n5 d5)] [] [] = some ([D.dat (T k6 n6 d6)], [], [])) (h7 : ((0 : Int) ≤ 1 ∧ 1 < ((T kx nx dx :: T ky ny dy :: ps).length : Int)) ∧ some (T ky ny dy) = some (T ky ny dy)) (h8 : den cfg kk 52 [D.dat (T ky ny dy)] [] [] = some ([D.dat (T k7 n7 d7)], [], [])) (h9 : den cfg kk 49 [D.dat (T k7 n7 d7), D.dat (I 2), D.dat (I 0)] [] [] = some ([D.dat (T k8 n8 d8)], [], [])) (h10 : den cfg kk 57 [D.dat (T k8 n8 d8), D.dat (T k6 n6 d6)] [] [] = some ([D.dat (T k9 n9 d9)], [], [])) (h11 : den cfg kk 74 [D.dat (T k9 n9 d9)] [] [] = some ([D.dat (T k10 n10 d10)], [], [])) (h12 : ((0 : Int) ≤ 0 ∧ 0 < ((T kx nx dx :: T ky ny dy :: ps).length : Int)) ∧ some (T kx nx dx) = some (T kx nx dx)) (h13 : den cfg kk 52 [D.dat (T kx nx dx)] [] [] = some ([D.dat (T k11 n11 d11)], [], [])) (h14 : den cfg kk 49 [D.dat (T k11 n11 d11), D.dat (I 1), D.dat (I 0)] [] [] = some ([D.dat (T k12 n12 d12)], [], [])) (h15 : den cfg kk 57 [D.dat (T k12 n12 d12), D.dat (T k10 n10 d10)] [] [] = some ([D.dat (T k13 n13 d13)], [], [])) (h16 : den cfg kk 74 [D.dat (T k13 n13 d13)] [] [] = some ([D.dat (T k14 n14 d14)], [], [])) : runFn cfg kk (den cfg kk) 52 Go.Proofs.Try.f52 [.dat (T 3 n (T kx nx dx :: T ky ny dy :: ps))] [] [] = some ([D.dat (T k14 n14 d14)], [], []) :=
  hrun_ok [(32, .at (T ky ny dy)), (41, .at (T kx nx dx)), (24, .ret [.dat (T k1 n1 d1)]), (25, .ret [.dat (T k2 n2 d2)]), (26, .ret [.dat (T k3 n3 d3)]), (27, .ret [.dat (T k4 n4 d4)]), (28, .ret [.dat (T k5 n5 d5)]), (29, .ret [.dat (T k6 n6 d6)]), (34, .ret [.dat (T k7 n7 d7)]), (35, .ret [.dat (T k8 n8 d8)]), (37, .ret [.dat (T k9 n9 d9)]), (38, .ret [.dat (T k10 n10 d10)]), (43, .ret [.dat (T k11 n11 d11)]), (44, .ret [.dat (T k12 n12 d12)]), (46, .ret [.dat (T k13 n13 d13)]), (47, .ret [.dat (T k14 n14 d14)])] (ob h1 (ob h2 (ob h3 (ob h4 (ob h5 (ob h6 (ob h7 (ob h8 (ob h9 (ob h10 (ob h11 (ob h12 (ob h13 (ob h14 (ob h15 (ob h16 ob0)))))))))))))))) (by kernel_rfl)
theorem passLambda (kk : Nat) (k n : Int) (ps : List Dat) (kx nx : Int) (dx : List Dat) (k1 n1 : Int) (d1 : List Dat) (k2 n2 : Int) (d2 : List Dat) (h1 : ((0 : Int) ≤ 0 ∧ 0 < ((T kx nx dx :: ps).length : Int)) ∧ some (T kx nx dx) = some (T kx nx dx)) (h2 : den cfg kk 52 [D.dat (T kx nx dx)] [] [] = some ([D.dat (T k1 n1 d1)], [], [])) (h3 : den cfg kk 74 [D.dat (T k1 n1 d1)] [] [] = some ([D.dat (T k2 n2 d2)], [], [])) : runFn cfg kk (den cfg kk) 91 Go.Proofs.Try.f91 [.dat (T k n (T kx nx dx :: ps))] [] [] = some ([D.dat (T k2 n2 d2)], [], []) :=
  hrun_ok [(5, .at (T kx nx dx)), (7, .ret [.dat (T k1 n1 d1)]), (8, .ret [.dat (T k2 n2 d2)])] (ob h1 (ob h2 (ob h3 ob0))) (by kernel_rfl)
theorem lfUp (kk : Nat) (v : Int) (r : Bool) (k n : Int) (d : List Dat) (k2 n2 : Int) (d2 : List Dat) (h1 : den cfg kk 82 [D.dat (T k n d), D.dat (I v), D.dat (I 0)] [] [] = some ([D.dat (T k2 n2 d2), D.dat (B r)], [], [])) : runFn cfg kk (den cfg kk) 93 Go.Proofs.Try.f93 [.dat (T k n d), .dat (I v)] [] [] = some ([D.dat (T k2 n2 d2)], [], []) :=
  hrun_ok [(10, .ret [.dat (T k2 n2 d2), .dat (B r)])] (ob h1 ob0) (by kernel_rfl)
theorem sPass_no (kk : Nat) (b : Bool) (es : List Dat) (h1 : den cfg kk 53 [D.dat (Dat.lst b es)] [] [] = some ([D.dat (B false)], [], [])) : runFn cfg kk (den cfg kk) 19 Go.Proofs.Try.f19 [.dat (Dat.lst b es)] [] [] = some ([D.own 56 [], D.dat (B false)], [], []) :=
  hrun_ok [(5, .ret [.dat (B false)])] (ob h1 ob0) (by kernel_rfl)
theorem sPass_go (kk : Nat) (b : Bool) (es : List Dat) (out : List Dat) (r : Bool) (k n : Int) (d : List Dat) (k2 n2 : Int) (d2 : List Dat) (h1 : den cfg kk 53 [D.dat (Dat.lst b es)] [] [] = some ([D.dat (B true)], [], [])) (h2 : den cfg kk 45 [D.dat (Dat.lst b es), D.dat (I 0)] [] [] = some ([D.dat (T k n d)], [], [])) (h3 : den cfg kk 54 [D.dat (T k n d)] [] [] = some ([D.dat (T k2 n2 d2)], [], [])) (h4 : den cfg kk 43 [D.dat (T k2 n2 d2)] [] [] = some ([D.own 56 out, D.dat (B r)], [], [])) : runFn cfg kk (den cfg kk) 19 Go.Proofs.Try.f19 [.dat (Dat.lst b es)] [] [] = some ([D.own 56 out, D.dat (B r)], [], []) :=
  hrun_ok [(5, .ret [.dat (B true)]), (8, .ret [.dat (T k n d)]), (9, .ret [.dat (T k2 n2 d2)]), (10, .ret [.own 56 out, .dat (B r)])] (ob h1 (ob h2 (ob h3 (ob h4 ob0)))) (by kernel_rfl)
theorem iPass_no (kk : Nat) (b : Bool) (es : List Dat) (k n : Int) (d : List Dat) (h1 : den cfg kk 51 [D.dat (Dat.lst b es)] [] [] = some ([D.dat (T k n d), D.dat (B false)], [], [])) : runFn cfg kk (den cfg kk) 18 Go.Proofs.Try.f18 [.dat (Dat.lst b es)] [] [] = some ([D.own 56 [], D.dat (B false)], [], []) :=
  hrun_ok [(8, .ret [.dat (T k n d), .dat (B false)])] (ob h1 ob0) (by kernel_rfl)
theorem iPass_go (kk : Nat) (b : Bool) (es : List Dat) (out : List Dat) (r : Bool) (k n : Int) (d : List Dat) (k2 n2 : Int) (d2 : List Dat) (h1 : den cfg kk 51 [D.dat (Dat.lst b es)] [] [] = some ([D.dat (T k n d), D.dat (B true)], [], [])) (h2 : den cfg kk 52 [D.dat (T k n d)] [] [] = some ([D.dat (T k2 n2 d2)], [], [])) (h3 : den cfg kk 36 [D.dat (T k2 n2 d2)] [] [] = some ([D.own 56 out, D.dat (B r)], [], [])) : runFn cfg kk (den cfg kk) 18 Go.Proofs.Try.f18 [.dat (Dat.lst b es)] [] [] = some ([D.own 56 out, D.dat (B r)], [], []) :=
  hrun_ok [(8, .ret [.dat (T k n d), .dat (B true)]), (14, .ret [.dat (T k2 n2 d2)]), (15, .ret [.own 56 out, .dat (B r)])] (ob h1 (ob h2 (ob h3 ob0))) (by kernel_rfl)
theorem nextIn_no2 (kk : Nat) (n : Int) (ps : List Dat) (v : Bool)  : runFn cfg kk (den cfg kk) 96 Go.Proofs.Try.f96 [.dat (T 2 n ps), .dat (B v)] [] [] = some ([D.dat (I (-1))], [], []) :=
  hrun_ok [] ob0 (by kernel_rfl)
theorem nextIn_l (kk : Nat) (n z : Int) (ps : List Dat) (v : Bool) (kx nx : Int) (dx : List Dat) (h1 : ((0 : Int) ≤ 0 ∧ 0 < ((T kx nx dx :: ps).length : Int)) ∧ some (T kx nx dx) = some (T kx nx dx)) (h2 : (!decide (kx = 2)) = true) (h3 : ((0 : Int) ≤ 0 ∧ 0 < ((T kx nx dx :: ps).length : Int)) ∧ some (T kx nx dx) = some (T kx nx dx)) (h4 : den cfg kk 96 [D.dat (T kx nx dx), D.dat (B v)] [] [] = some ([D.dat (I z)], [], [])) : runFn cfg kk (den cfg kk) 96 Go.Proofs.Try.f96 [.dat (T 3 n (T kx nx dx :: ps)), .dat (B v)] [] [] = some ([D.dat (I (w64 (1 + z)))], [], []) :=
  hrun_ok [(12, .at (T kx nx dx)), (200009, .yes), (18, .at (T kx nx dx)), (21, .ret [.dat (I z)])] (ob h1 (ob h2 (ob h3 (ob h4 ob0)))) (by kernel_rfl)
theorem nextIn_name (kk : Nat) (n : Int) (ps : List Dat) (kx nx : Int) (dx : List Dat) (h1 : ((0 : Int) ≤ 0 ∧ 0 < ((T kx nx dx :: ps).length : Int)) ∧ some (T kx nx dx) = some (T kx nx dx)) (h2 : (!decide (kx = 2)) = false) : runFn cfg kk (den cfg kk) 96 Go.Proofs.Try.f96 [.dat (T 3 n (T kx nx dx :: ps)), .dat (B false)] [] [] = some ([D.dat (I 0)], [], []) :=
  hrun_ok [(12, .at (T kx nx dx)), (200009, .no)] (ob h1 (ob h2 ob0)) (by kernel_rfl)
theorem nextIn_r (kk : Nat) (n z z2 : Int) (ps : List Dat) (kx nx : Int) (dx : List Dat) (ky ny : Int) (dy : List Dat) (h1 : ((0 : Int) ≤ 0 ∧ 0 < ((T kx nx dx :: T ky ny dy :: ps).length : Int)) ∧ some (T kx nx dx) = some (T kx nx dx)) (h2 : (!decide (kx = 2)) = false) (h3 : ((0 : Int) ≤ 1 ∧ 1 < ((T kx nx dx :: T ky ny dy :: ps).length : Int)) ∧ some (T ky ny dy) = some (T ky ny dy)) (h4 : (!decide (ky = 2)) = true) (h5 : ((0 : Int) ≤ 0 ∧ 0 < ((T kx nx dx :: T ky ny dy :: ps).length : Int)) ∧ some (T kx nx dx) = some (T kx nx dx)) (h6 : ((0 : Int) ≤ 1 ∧ 1 < ((T kx nx dx :: T ky ny dy :: ps).length : Int)) ∧ some (T ky ny dy) = some (T ky ny dy)) (h7 : den cfg kk 71 [D.dat (T kx nx dx)] [] [] = some ([D.dat (I z)], [], [])) (h8 : den cfg kk 96 [D.dat (T ky ny dy), D.dat (B true)] [] [] = some ([D.dat (I z2)], [], [])) : runFn cfg kk (den cfg kk) 96 Go.Proofs.Try.f96 [.dat (T 3 n (T kx nx dx :: T ky ny dy :: ps)), .dat (B true)] [] [] = some ([D.dat (I (w64 (w64 (1 + z) + z2)))], [], []) :=
  hrun_ok [(12, .at (T kx nx dx)), (200009, .no), (28, .at (T ky ny dy)), (200023, .yes), (35, .at (T kx nx dx)), (37, .ret [.dat (I z)]), (41, .at (T ky ny dy)), (44, .ret [.dat (I z2)])] (ob h1 (ob h2 (ob h3 (ob h4 (ob h5 (ob h6 (ob h7 (ob h8 ob0)))))))) (by kernel_rfl)
theorem nextIn_here (kk : Nat) (n : Int) (ps : List Dat) (kx nx : Int) (dx : List Dat) (ky ny : Int) (dy : List Dat) (h1 : ((0 : Int) ≤ 0 ∧ 0 < ((T kx nx dx :: T ky ny dy :: ps).length : Int)) ∧ some (T kx nx dx) = some (T kx nx dx)) (h2 : (!decide (kx = 2)) = false) (h3 : ((0 : Int) ≤ 1 ∧ 1 < ((T kx nx dx :: T ky ny dy :: ps).length : Int)) ∧ some (T ky ny dy) = some (T ky ny dy)) (h4 : (!decide (ky = 2)) = false) : runFn cfg kk (den cfg kk) 96 Go.Proofs.Try.f96 [.dat (T 3 n (T kx nx dx :: T ky ny dy :: ps)), .dat (B true)] [] [] = some ([D.dat (I 0)], [], []) :=
  hrun_ok [(12, .at (T kx nx dx)), (200009, .no), (28, .at (T ky ny dy)), (200023, .no)] (ob h1 (ob h2 (ob h3 (ob h4 ob0)))) (by kernel_rfl)
theorem next_n (kk : Nat) (z : Int) (k n : Int) (d : List Dat) (h1 : den cfg kk 96 [D.dat (T k n d), D.dat (B false)] [] [] = some ([D.dat (I z)], [], [])) : runFn cfg kk (den cfg kk) 60 Go.Proofs.Try.f60 [.dat (T k n d)] [] [] = some ([D.dat (I z)], [], []) :=
  hrun_ok [(4, .ret [.dat (I z)])] (ob h1 ob0) (by kernel_rfl)
theorem next_v (kk : Nat) (z : Int) (k n : Int) (d : List Dat) (h1 : den cfg kk 96 [D.dat (T k n d), D.dat (B true)] [] [] = some ([D.dat (I z)], [], [])) : runFn cfg kk (den cfg kk) 59 Go.Proofs.Try.f59 [.dat (T k n d)] [] [] = some ([D.dat (I z)], [], []) :=
  hrun_ok [(4, .ret [.dat (I z)])] (ob h1 ob0) (by kernel_rfl)
theorem iRun_n (kk : Nat) (b : Bool) (es : List Dat) (fuel : Int) (out : List Dat) (c : Int) (r : Bool) (h1 : den cfg kk 58 [D.dat (Dat.lst b es), D.dat (I fuel), D.fn 60 []] [] [] = some ([D.own 56 out, D.dat (I c), D.dat (B r)], [], [])) : runFn cfg kk (den cfg kk) 23 Go.Proofs.Try.f23 [.dat (Dat.lst b es), .dat (I fuel)] [] [] = some ([D.own 56 out, D.dat (I c), D.dat (B r)], [], []) :=
  hrun_ok [(9, .back [.own 56 out, .dat (I c), .dat (B r)] [] [])] (ob h1 (ob (rfl : false = false) ob0)) (by kernel_rfl)
theorem closedOn_no_n (kk : Nat) (b : Bool) (es : List Dat) (fuel : Int) (k n : Int) (d : List Dat) (h1 : den cfg kk 51 [D.dat (Dat.lst b es)] [] [] = some ([D.dat (T k n d), D.dat (B false)], [], [])) : runFn cfg kk (den cfg kk) 58 Go.Proofs.Try.f58 [.dat (Dat.lst b es), .dat (I fuel), .fn 60 []] [] [] = some ([D.own 56 [], D.dat (I 0), D.dat (B false)], [], []) :=
  hrun_ok [(13, .ret [.dat (T k n d), .dat (B false)])] (ob h1 ob0) (by kernel_rfl)
theorem closedOn_go_n (kk : Nat) (b : Bool) (es : List Dat) (fuel : Int) (out : List Dat) (c : Int) (r : Bool) (k n : Int) (d : List Dat) (h1 : den cfg kk 51 [D.dat (Dat.lst b es)] [] [] = some ([D.dat (T k n d), D.dat (B true)], [], [])) (h2 : den cfg kk 27 [D.dat (Dat.lst b es), D.dat (I fuel), D.fn 60 []] [] [] = some ([D.own 56 out, D.dat (I c), D.dat (B r)], [], [])) : runFn cfg kk (den cfg kk) 58 Go.Proofs.Try.f58 [.dat (Dat.lst b es), .dat (I fuel), .fn 60 []] [] [] = some ([D.own 56 out, D.dat (I c), D.dat (B r)], [], []) :=
  hrun_ok [(13, .ret [.dat (T k n d), .dat (B true)]), (21, .back [.own 56 out, .dat (I c), .dat (B r)] [] [])] (ob h1 (ob h2 (ob (rfl : false = false) ob0))) (by kernel_rfl)
theorem goneOn_no2_n (kk : Nat) (b : Bool) (es : List Dat) (fuel : Int) (k n : Int) (d : List Dat) (h1 : den cfg kk 32 [D.dat (Dat.lst b es)] [] [] = some ([D.dat (T k n d), D.dat (B true)], [], [])) (h2 : den cfg kk 63 [D.dat (I fuel)] [] [] = some ([D.dat (B false)], [], [])) : runFn cfg kk (den cfg kk) 27 Go.Proofs.Try.f27 [.dat (Dat.lst b es), .dat (I fuel), .fn 60 []] [] [] = some ([D.own 56 [], D.dat (I 0), D.dat (B false)], [], []) :=
  hrun_ok [(15, .ret [.dat (T k n d), .dat (B true)]), (22, .ret [.dat (B false)])] (ob h1 (ob h2 ob0)) (by kernel_rfl)
theorem goneOn_no3_n (kk : Nat) (b : Bool) (es : List Dat) (fuel : Int) (k n k2 n2 c : Int) (d d2 : List Dat) (h1 : den cfg kk 32 [D.dat (Dat.lst b es)] [] [] = some ([D.dat (T k n d), D.dat (B true)], [], [])) (h2 : den cfg kk 63 [D.dat (I fuel)] [] [] = some ([D.dat (B true)], [], [])) (h3 : den cfg kk 64 [D.dat (T k n d), D.dat (I fuel), D.fn 60 []] [] [] = some ([D.dat (T k2 n2 d2), D.dat (I c), D.dat (B false)], [], [])) : runFn cfg kk (den cfg kk) 27 Go.Proofs.Try.f27 [.dat (Dat.lst b es), .dat (I fuel), .fn 60 []] [] [] = some ([D.own 56 [], D.dat (I 0), D.dat (B false)], [], []) :=
  hrun_ok [(15, .ret [.dat (T k n d), .dat (B true)]), (22, .ret [.dat (B true)]), (29, .back [.dat (T k2 n2 d2), .dat (I c), .dat (B false)] [] [])] (ob h1 (ob h2 (ob h3 (ob (rfl : false = false) ob0)))) (by kernel_rfl)
theorem goneOn_go_n (kk : Nat) (b : Bool) (es : List Dat) (fuel : Int) (k n k2 n2 c : Int) (d d2 out : List Dat) (h1 : den cfg kk 32 [D.dat (Dat.lst b es)] [] [] = some ([D.dat (T k n d), D.dat (B true)], [], [])) (h2 : den cfg kk 63 [D.dat (I fuel)] [] [] = some ([D.dat (B true)], [], [])) (h3 : den cfg kk 64 [D.dat (T k n d), D.dat (I fuel), D.fn 60 []] [] [] = some ([D.dat (T k2 n2 d2), D.dat (I c), D.dat (B true)], [], [])) (h5 : den cfg kk 38 [D.dat (T k2 n2 d2)] [] [] = some ([D.own 56 out], [], [])) : runFn cfg kk (den cfg kk) 27 Go.Proofs.Try.f27 [.dat (Dat.lst b es), .dat (I fuel), .fn 60 []] [] [] = some ([D.own 56 out, D.dat (I c), D.dat (B true)], [], []) :=
  hrun_ok [(15, .ret [.dat (T k n d), .dat (B true)]), (22, .ret [.dat (B true)]), (29, .back [.dat (T k2 n2 d2), .dat (I c), .dat (B true)] [] []), (36, .ret [.own 56 out])] (ob h1 (ob h2 (ob h3 (ob (rfl : false = false) (ob h5 ob0))))) (by kernel_rfl)
def hd102n (fuel k n : Int) (ps : List Dat) (made : Int) : St := Nm [1, 2, 3, 6, 9] [.dat (I fuel), .fn 60 [], .ptr (.loc 3) 0, .ptr (.loc 6) 0, .dat (I made)] [none, none, some [.dat (I k), .dat (I n), .dat (.lst false ps)], some [.dat (I 0), .dat (I 0), .own 59 []], none] [] []
theorem goOn_done_n (kk m : Nat) {s : St} {K : X → St → Prop} (fuel k n : Int) (ps : List Dat) (made : Int) (x : Int) (hs : s.norm ((envOf cfg kk 64 Go.Proofs.Try.f64).live (firstRegion (lp Go.Proofs.Try.f64 3))) = hd102n fuel k n ps made) (h1 : den cfg kk 60 [D.dat (T k n ps)] [] [] = some ([D.dat (I x)], [], [])) (h2 : decide (x < 0) = true) (hK : K (X.ret) (Nm [6, 7, 8] [D.ptr (Ref.loc 6) 0, D.dat (I made), D.dat (B true)] [some [D.dat (I k), D.dat (I n), D.dat (Dat.lst false ps)], none, none] [] [])) : Rounds (envOf cfg kk 64 Go.Proofs.Try.f64) kk (lp Go.Proofs.Try.f64 3) (m + 1) s K :=
  rounds_end [(15, .ret [.dat (I x)]), (200016, .yes)] hs (by kernel_rfl) rfl (ob h1 (ob h2 ob0)) (by kernel_rfl) hK
theorem goOn_stop_n (kk m : Nat) {s : St} {K : X → St → Prop} (fuel k n : Int) (ps : List Dat) (made : Int) (x : Int) (hs : s.norm ((envOf cfg kk 64 Go.Proofs.Try.f64).live (firstRegion (lp Go.Proofs.Try.f64 3))) = hd102n fuel k n ps made) (h1 : den cfg kk 60 [D.dat (T k n ps)] [] [] = some ([D.dat (I x)], [], [])) (h2 : decide (x < 0) = false) (h3 : decide (made = fuel) = true) (hK : K (X.ret) (Nm [6, 7, 8] [D.ptr (Ref.loc 6) 0, D.dat (I 0), D.dat (B false)] [some [D.dat (I 0), D.dat (I 0), D.own 59 []], none, none] [] [])) : Rounds (envOf cfg kk 64 Go.Proofs.Try.f64) kk (lp Go.Proofs.Try.f64 3) (m + 1) s K :=
  rounds_end [(15, .ret [.dat (I x)]), (200016, .no), (200021, .yes)] hs (by kernel_rfl) rfl (ob h1 (ob h2 (ob h3 ob0))) (by kernel_rfl) hK
theorem goOn_bad_n (kk m : Nat) {s : St} {K : X → St → Prop} (fuel k n : Int) (ps : List Dat) (made : Int) (x k2 n2 : Int) (d2 : List Dat) (hs : s.norm ((envOf cfg kk 64 Go.Proofs.Try.f64).live (firstRegion (lp Go.Proofs.Try.f64 3))) = hd102n fuel k n ps made) (h1 : den cfg kk 60 [D.dat (T k n ps)] [] [] = some ([D.dat (I x)], [], [])) (h2 : decide (x < 0) = false) (h3 : decide (made = fuel) = false) (h4 : den cfg kk 35 [D.dat (T k n ps), D.dat (I x)] [] [] = some ([D.dat (T k2 n2 d2)], [], [])) (h5 : den cfg kk 69 [D.dat (T k2 n2 d2)] [] [] = some ([D.dat (B false)], [], [])) (hK : K (X.ret) (Nm [6, 7, 8] [D.ptr (Ref.loc 6) 0, D.dat (I 0), D.dat (B false)] [some [D.dat (I 0), D.dat (I 0), D.own 59 []], none, none] [] [])) : Rounds (envOf cfg kk 64 Go.Proofs.Try.f64) kk (lp Go.Proofs.Try.f64 3) (m + 1) s K :=
  rounds_end [(15, .ret [.dat (I x)]), (200016, .no), (200021, .no), (28, .ret [.dat (T k2 n2 d2)]), (30, .ret [.dat (B false)])] hs (by kernel_rfl) rfl (ob h1 (ob h2 (ob h3 (ob h4 (ob h5 ob0))))) (by kernel_rfl) hK
theorem goOn_go_n (kk m : Nat) {s : St} {K : X → St → Prop} (fuel k n : Int) (ps : List Dat) (made : Int) (x k2 n2 : Int) (d2 : List Dat) (hs : s.norm ((envOf cfg kk 64 Go.Proofs.Try.f64).live (firstRegion (lp Go.Proofs.Try.f64 3))) = hd102n fuel k n ps made) (h1 : den cfg kk 60 [D.dat (T k n ps)] [] [] = some ([D.dat (I x)], [], [])) (h2 : decide (x < 0) = false) (h3 : decide (made = fuel) = false) (h4 : den cfg kk 35 [D.dat (T k n ps), D.dat (I x)] [] [] = some ([D.dat (T k2 n2 d2)], [], [])) (h5 : den cfg kk 69 [D.dat (T k2 n2 d2)] [] [] = some ([D.dat (B true)], [], [])) (hn : ∀ s : St, s.norm ((envOf cfg kk 64 Go.Proofs.Try.f64).live (firstRegion (lp Go.Proofs.Try.f64 3))) = Nm [1, 2, 3, 6, 9] [D.dat (I fuel), D.fn 60 [], D.ptr (Ref.loc 3) 0, D.ptr (Ref.loc 6) 0, D.dat (I (w64 (made + 1)))] [none, none, some [D.dat (I k2), D.dat (I n2), D.dat (Dat.lst false d2)], some [D.dat (I 0), D.dat (I 0), D.own 59 []], none] [] [] → Rounds (envOf cfg kk 64 Go.Proofs.Try.f64) kk (lp Go.Proofs.Try.f64 3) m s K) : Rounds (envOf cfg kk 64 Go.Proofs.Try.f64) kk (lp Go.Proofs.Try.f64 3) (m + 1) s K :=
  rounds_go [(15, .ret [.dat (I x)]), (200016, .no), (200021, .no), (28, .ret [.dat (T k2 n2 d2)]), (30, .ret [.dat (B true)])] hs (by kernel_rfl) (ob h1 (ob h2 (ob h3 (ob h4 (ob h5 ob0))))) (by kernel_rfl) hn
theorem goOn_y_n (kk : Nat) (fuel k n c k2 n2 : Int) (ps d2 : List Dat) (r : Bool) (h2 : LoopAt cfg kk 64 Go.Proofs.Try.f64 3 (hd102n fuel k n ps 0) X.ret (Nm [6, 7, 8] [D.ptr (Ref.loc 6) 0, D.dat (I c), D.dat (B r)] [some [D.dat (I k2), D.dat (I n2), D.dat (Dat.lst false d2)], none, none] [] [])) : runFn cfg kk (den cfg kk) 64 Go.Proofs.Try.f64 [.dat (T k n ps), .dat (I fuel), .fn 60 []] [] [] = some ([D.dat (T k2 n2 d2), D.dat (I c), D.dat (B r)], [], []) :=
  hrun_ok [(300003, .loop (hd102n fuel k n ps 0) .ret (Nm [6, 7, 8] [.ptr (.loc 6) 0, .dat (I c), .dat (B r)] [some [.dat (I k2), .dat (I n2), .dat (.lst false d2)], none, none] [] []))] (ob (rfl : _ = hd102n fuel k n ps 0) (ob h2 ob0)) (by kernel_rfl)
theorem goOn_n_n (kk : Nat) (fuel k n c : Int) (ps : List Dat) (r : Bool) (h2 : LoopAt cfg kk 64 Go.Proofs.Try.f64 3 (hd102n fuel k n ps 0) X.ret (Nm [6, 7, 8] [D.ptr (Ref.loc 6) 0, D.dat (I c), D.dat (B r)] [some [D.dat (I 0), D.dat (I 0), D.own 59 []], none, none] [] [])) : runFn cfg kk (den cfg kk) 64 Go.Proofs.Try.f64 [.dat (T k n ps), .dat (I fuel), .fn 60 []] [] [] = some ([D.dat (T 0 0 []), D.dat (I c), D.dat (B r)], [], []) :=
  hrun_ok [(300003, .loop (hd102n fuel k n ps 0) .ret (Nm [6, 7, 8] [.ptr (.loc 6) 0, .dat (I c), .dat (B r)] [some [.dat (I 0), .dat (I 0), .own 59 []], none, none] [] []))] (ob (rfl : _ = hd102n fuel k n ps 0) (ob h2 ob0)) (by kernel_rfl)
theorem iRun_v (kk : Nat) (b : Bool) (es : List Dat) (fuel : Int) (out : List Dat) (c : Int) (r : Bool) (h1 : den cfg kk 58 [D.dat (Dat.lst b es), D.dat (I fuel), D.fn 59 []] [] [] = some ([D.own 56 out, D.dat (I c), D.dat (B r)], [], [])) : runFn cfg kk (den cfg kk) 22 Go.Proofs.Try.f22 [.dat (Dat.lst b es), .dat (I fuel)] [] [] = some ([D.own 56 out, D.dat (I c), D.dat (B r)], [], []) :=
  hrun_ok [(9, .back [.own 56 out, .dat (I c), .dat (B r)] [] [])] (ob h1 (ob (rfl : false = false) ob0)) (by kernel_rfl)
theorem closedOn_no_v (kk : Nat) (b : Bool) (es : List Dat) (fuel : Int) (k n : Int) (d : List Dat) (h1 : den cfg kk 51 [D.dat (Dat.lst b es)] [] [] = some ([D.dat (T k n d), D.dat (B false)], [], [])) : runFn cfg kk (den cfg kk) 58 Go.Proofs.Try.f58 [.dat (Dat.lst b es), .dat (I fuel), .fn 59 []] [] [] = some ([D.own 56 [], D.dat (I 0), D.dat (B false)], [], []) :=
  hrun_ok [(13, .ret [.dat (T k n d), .dat (B false)])] (ob h1 ob0) (by kernel_rfl)
theorem closedOn_go_v (kk : Nat) (b : Bool) (es : List Dat) (fuel : Int) (out : List Dat) (c : Int) (r : Bool) (k n : Int) (d : List Dat) (h1 : den cfg kk 51 [D.dat (Dat.lst b es)] [] [] = some ([D.dat (T k n d), D.dat (B true)], [], [])) (h2 : den cfg kk 27 [D.dat (Dat.lst b es), D.dat (I fuel), D.fn 59 []] [] [] = some ([D.own 56 out, D.dat (I c), D.dat (B r)], [], [])) : runFn cfg kk (den cfg kk) 58 Go.Proofs.Try.f58 [.dat (Dat.lst b es), .dat (I fuel), .fn 59 []] [] [] = some ([D.own 56 out, D.dat (I c), D.dat (B r)], [], []) :=
  hrun_ok [(13, .ret [.dat (T k n d), .dat (B true)]), (21, .back [.own 56 out, .dat (I c), .dat (B r)] [] [])] (ob h1 (ob h2 (ob (rfl : false = false) ob0))) (by kernel_rfl)
theorem goneOn_no2_v (kk : Nat) (b : Bool) (es : List Dat) (fuel : Int) (k n : Int) (d : List Dat) (h1 : den cfg kk 32 [D.dat (Dat.lst b es)] [] [] = some ([D.dat (T k n d), D.dat (B true)], [], [])) (h2 : den cfg kk 63 [D.dat (I fuel)] [] [] = some ([D.dat (B false)], [], [])) : runFn cfg kk (den cfg kk) 27 Go.Proofs.Try.f27 [.dat (Dat.lst b es), .dat (I fuel), .fn 59 []] [] [] = some ([D.own 56 [], D.dat (I 0), D.dat (B false)], [], []) :=
  hrun_ok [(15, .ret [.dat (T k n d), .dat (B true)]), (22, .ret [.dat (B false)])] (ob h1 (ob h2 ob0)) (by kernel_rfl)
theorem goneOn_no3_v (kk : Nat) (b : Bool) (es : List Dat) (fuel : Int) (k n k2 n2 c : Int) (d d2 : List Dat) (h1 : den cfg kk 32 [D.dat (Dat.lst b es)] [] [] = some ([D.dat (T k n d), D.dat (B true)], [], [])) (h2 : den cfg kk 63 [D.dat (I fuel)] [] [] = some ([D.dat (B true)], [], [])) (h3 : den cfg kk 64 [D.dat (T k n d), D.dat (I fuel), D.fn 59 []] [] [] = some ([D.dat (T k2 n2 d2), D.dat (I c), D.dat (B false)], [], [])) : runFn cfg kk (den cfg kk) 27 Go.Proofs.Try.f27 [.dat (Dat.lst b es), .dat (I fuel), .fn 59 []] [] [] = some ([D.own 56 [], D.dat (I 0), D.dat (B false)], [], []) :=
  hrun_ok [(15, .ret [.dat (T k n d), .dat (B true)]), (22, .ret [.dat (B true)]), (29, .back [.dat (T k2 n2 d2), .dat (I c), .dat (B false)] [] [])] (ob h1 (ob h2 (ob h3 (ob (rfl : false = false) ob0)))) (by kernel_rfl)
theorem goneOn_go_v (kk : Nat) (b : Bool) (es : List Dat) (fuel : Int) (k n k2 n2 c : Int) (d d2 out : List Dat) (h1 : den cfg kk 32 [D.dat (Dat.lst b es)] [] [] = some ([D.dat (T k n d), D.dat (B true)], [], [])) (h2 : den cfg kk 63 [D.dat (I fuel)] [] [] = some ([D.dat (B true)], [], [])) (h3 : den cfg kk 64 [D.dat (T k n d), D.dat (I fuel), D.fn 59 []] [] [] = some ([D.dat (T k2 n2 d2), D.dat (I c), D.dat (B true)], [], [])) (h5 : den cfg kk 38 [D.dat (T k2 n2 d2)] [] [] = some ([D.own 56 out], [], [])) : runFn cfg kk (den cfg kk) 27 Go.Proofs.Try.f27 [.dat (Dat.lst b es), .dat (I fuel), .fn 59 []] [] [] = some ([D.own 56 out, D.dat (I c), D.dat (B true)], [], []) :=
  hrun_ok [(15, .ret [.dat (T k n d), .dat (B true)]), (22, .ret [.dat (B true)]), (29, .back [.dat (T k2 n2 d2), .dat (I c), .dat (B true)] [] []), (36, .ret [.own 56 out])] (ob h1 (ob h2 (ob h3 (ob (rfl : false = false) (ob h5 ob0))))) (by kernel_rfl)
def hd102v (fuel k n : Int) (ps : List Dat) (made : Int) : St := Nm [1, 2, 3, 6, 9] [.dat (I fuel), .fn 59 [], .ptr (.loc 3) 0, .ptr (.loc 6) 0, .dat (I made)] [none, none, some [.dat (I k), .dat (I n), .dat (.lst false ps)], some [.dat (I 0), .dat (I 0), .own 59 []], none] [] []
theorem goOn_done_v (kk m : Nat) {s : St} {K : X → St → Prop} (fuel k n : Int) (ps : List Dat) (made : Int) (x : Int) (hs : s.norm ((envOf cfg kk 64 Go.Proofs.Try.f64).live (firstRegion (lp Go.Proofs.Try.f64 3))) = hd102v fuel k n ps made) (h1 : den cfg kk 59 [D.dat (T k n ps)] [] [] = some ([D.dat (I x)], [], [])) (h2 : decide (x < 0) = true) (hK : K (X.ret) (Nm [6, 7, 8] [D.ptr (Ref.loc 6) 0, D.dat (I made), D.dat (B true)] [some [D.dat (I k), D.dat (I n), D.dat (Dat.lst false ps)], none, none] [] [])) : Rounds (envOf cfg kk 64 Go.Proofs.Try.f64) kk (lp Go.Proofs.Try.f64 3) (m + 1) s K :=
  rounds_end [(15, .ret [.dat (I x)]), (200016, .yes)] hs (by kernel_rfl) rfl (ob h1 (ob h2 ob0)) (by kernel_rfl) hK
theorem goOn_stop_v (kk m : Nat) {s : St} {K : X → St → Prop} (fuel k n : Int) (ps : List Dat) (made : Int) (x : Int) (hs : s.norm ((envOf cfg kk 64 Go.Proofs.Try.f64).live (firstRegion (lp Go.Proofs.Try.f64 3))) = hd102v fuel k n ps made) (h1 : den cfg kk 59 [D.dat (T k n ps)] [] [] = some ([D.dat (I x)], [], [])) (h2 : decide (x < 0) = false) (h3 : decide (made = fuel) = true) (hK : K (X.ret) (Nm [6, 7, 8] [D.ptr (Ref.loc 6) 0, D.dat (I 0), D.dat (B false)] [some [D.dat (I 0), D.dat (I 0), D.own 59 []], none, none] [] [])) : Rounds (envOf cfg kk 64 Go.Proofs.Try.f64) kk (lp Go.Proofs.Try.f64 3) (m + 1) s K :=
  rounds_end [(15, .ret [.dat (I x)]), (200016, .no), (200021, .yes)] hs (by kernel_rfl) rfl (ob h1 (ob h2 (ob h3 ob0))) (by kernel_rfl) hK
theorem goOn_bad_v (kk m : Nat) {s : St} {K : X → St → Prop} (fuel k n : Int) (ps : List Dat) (made : Int) (x k2 n2 : Int) (d2 : List Dat) (hs : s.norm ((envOf cfg kk 64 Go.Proofs.Try.f64).live (firstRegion (lp Go.Proofs.Try.f64 3))) = hd102v fuel k n ps made) (h1 : den cfg kk 59 [D.dat (T k n ps)] [] [] = some ([D.dat (I x)], [], [])) (h2 : decide (x < 0) = false) (h3 : decide (made = fuel) = false) (h4 : den cfg kk 35 [D.dat (T k n ps), D.dat (I x)] [] [] = some ([D.dat (T k2 n2 d2)], [], [])) (h5 : den cfg kk 69 [D.dat (T k2 n2 d2)] [] [] = some ([D.dat (B false)], [], [])) (hK : K (X.ret) (Nm [6, 7, 8] [D.ptr (Ref.loc 6) 0, D.dat (I 0), D.dat (B false)] [some [D.dat (I 0), D.dat (I 0), D.own 59 []], none, none] [] [])) : Rounds (envOf cfg kk 64 Go.Proofs.Try.f64) kk (lp Go.Proofs.Try.f64 3) (m + 1) s K :=
  rounds_end [(15, .ret [.dat (I x)]), (200016, .no), (200021, .no), (28, .ret [.dat (T k2 n2 d2)]), (30, .ret [.dat (B false)])] hs (by kernel_rfl) rfl (ob h1 (ob h2 (ob h3 (ob h4 (ob h5 ob0))))) (by kernel_rfl) hK
theorem goOn_go_v (kk m : Nat) {s : St} {K : X → St → Prop} (fuel k n : Int) (ps : List Dat) (made : Int) (x k2 n2 : Int) (d2 : List Dat) (hs : s.norm ((envOf cfg kk 64 Go.Proofs.Try.f64).live (firstRegion (lp Go.Proofs.Try.f64 3))) = hd102v fuel k n ps made) (h1 : den cfg kk 59 [D.dat (T k n ps)] [] [] = some ([D.dat (I x)], [], [])) (h2 : decide (x < 0) = false) (h3 : decide (made = fuel) = false) (h4 : den cfg kk 35 [D.dat (T k n ps), D.dat (I x)] [] [] = some ([D.dat (T k2 n2 d2)], [], [])) (h5 : den cfg kk 69 [D.dat (T k2 n2 d2)] [] [] = some ([D.dat (B true)], [], [])) (hn : ∀ s : St, s.norm ((envOf cfg kk 64 Go.Proofs.Try.f64).live (firstRegion (lp Go.Proofs.Try.f64 3))) = Nm [1, 2, 3, 6, 9] [D.dat (I fuel), D.fn 59 [], D.ptr (Ref.loc 3) 0, D.ptr (Ref.loc 6) 0, D.dat (I (w64 (made + 1)))] [none, none, some [D.dat (I k2), D.dat (I n2), D.dat (Dat.lst false d2)], some [D.dat (I 0), D.dat (I 0), D.own 59 []], none] [] [] → Rounds (envOf cfg kk 64 Go.Proofs.Try.f64) kk (lp Go.Proofs.Try.f64 3) m s K) : Rounds (envOf cfg kk 64 Go.Proofs.Try.f64) kk (lp Go.Proofs.Try.f64 3) (m + 1) s K :=
  rounds_go [(15, .ret [.dat (I x)]), (200016, .no), (200021, .no), (28, .ret [.dat (T k2 n2 d2)]), (30, .ret [.dat (B true)])] hs (by kernel_rfl) (ob h1 (ob h2 (ob h3 (ob h4 (ob h5 ob0))))) (by kernel_rfl) hn
theorem goOn_y_v (kk : Nat) (fuel k n c k2 n2 : Int) (ps d2 : List Dat) (r : Bool) (h2 : LoopAt cfg kk 64 Go.Proofs.Try.f64 3 (hd102v fuel k n ps 0) X.ret (Nm [6, 7, 8] [D.ptr (Ref.loc 6) 0, D.dat (I c), D.dat (B r)] [some [D.dat (I k2), D.dat (I n2), D.dat (Dat.lst false d2)], none, none] [] [])) : runFn cfg kk (den cfg kk) 64 Go.Proofs.Try.f64 [.dat (T k n ps), .dat (I fuel), .fn 59 []] [] [] = some ([D.dat (T k2 n2 d2), D.dat (I c), D.dat (B r)], [], []) :=
  hrun_ok [(300003, .loop (hd102v fuel k n ps 0) .ret (Nm [6, 7, 8] [.ptr (.loc 6) 0, .dat (I c), .dat (B r)] [some [.dat (I k2), .dat (I n2), .dat (.lst false d2)], none, none] [] []))] (ob (rfl : _ = hd102v fuel k n ps 0) (ob h2 ob0)) (by kernel_rfl)
theorem goOn_n_v (kk : Nat) (fuel k n c : Int) (ps : List Dat) (r : Bool) (h2 : LoopAt cfg kk 64 Go.Proofs.Try.f64 3 (hd102v fuel k n ps 0) X.ret (Nm [6, 7, 8] [D.ptr (Ref.loc 6) 0, D.dat (I c), D.dat (B r)] [some [D.dat (I 0), D.dat (I 0), D.own 59 []], none, none] [] [])) : runFn cfg kk (den cfg kk) 64 Go.Proofs.Try.f64 [.dat (T k n ps), .dat (I fuel), .fn 59 []] [] [] = some ([D.dat (T 0 0 []), D.dat (I c), D.dat (B r)], [], []) :=
  hrun_ok [(300003, .loop (hd102v fuel k n ps 0) .ret (Nm [6, 7, 8] [.ptr (.loc 6) 0, .dat (I c), .dat (B r)] [some [.dat (I 0), .dat (I 0), .own 59 []], none, none] [] []))] (ob (rfl : _ = hd102v fuel k n ps 0) (ob h2 ob0)) (by kernel_rfl)
end Go.Den
namespace Go.Den
open Go
set_option linter.unusedVariables false
set_option maxRecDepth 100000
/-- A term as one that is told what is to be done then (Plotkin). -/
def passT : Pt → Pt
  | .var n => .lam 0 (.app 0 (.var 0) (.var (n + 1)))
  | .lam _ x => .lam 0 (.app 0 (.var 0) (sh 1 0 (.lam 0 (passT x))))
  | .app _ x y => .lam 0 (.app 0 (sh 1 0 (passT x)) (.lam 0 (.app 0 (sh 2 0 (passT y)) (.lam 0 (.app 0 (.app 0 (.var 1) (.var 0)) (.var 2))))))
theorem sh_within (b : Int) (hb : 0 ≤ b) (M : Int) : ∀ (t : Pt) (f : Int), t.within M → (sh b f t).within (M + b)
  | .var n, f, h => by
    have h : -M ≤ n ∧ n ≤ M := h
    simp only [sh]
    split
    · show -(M + b) ≤ n + b ∧ n + b ≤ M + b
      omega
    · show -(M + b) ≤ n ∧ n ≤ M + b
      omega
  | .lam n t, f, h => sh_within b hb M t (f + 1) h
  | .app n x y, f, h => by
    have h : x.within M ∧ y.within M := h
    exact ⟨sh_within b hb M x f h.1, sh_within b hb M y f h.2⟩
theorem passT_size : ∀ t : Pt, (passT t).size ≤ 10 * t.size ∧ (passT t).depth ≤ 8 * t.depth
  | .var n => by simp [passT, Pt.size, Pt.depth]
  | .lam n x => by
    have h := passT_size x
    have h2 := sh_size 1 (.lam 0 (passT x)) 0
    simp only [passT, Pt.size, Pt.depth] at h2 ⊢
    omega
  | .app n x y => by
    have h := passT_size x
    have k := passT_size y
    have h2 := sh_size 1 (passT x) 0
    have k2 := sh_size 2 (passT y) 0
    simp only [passT, Pt.size, Pt.depth] at h2 k2 ⊢
    omega
theorem passT_within (M : Int) (hM : 2 ≤ M) : ∀ t : Pt, t.within M → (passT t).within (M + 3 * t.depth)
  | .var n, h => by
    have h : -M ≤ n ∧ n ≤ M := h
    simp only [passT, Pt.within, Pt.depth]
    omega
  | .lam n x, h => by
    have ih := passT_within M hM x h
    have h2 : (sh 1 0 (.lam 0 (passT x))).within (M + 3 * x.depth + 1) := sh_within 1 (by omega) _ (.lam 0 (passT x)) 0 ih
    have h3 := within_mono (show M + 3 * (x.depth : Int) + 1 ≤ M + 3 * ((x.depth + 1 : Nat) : Int) by omega) _ h2
    show ((.app 0 (.var 0) (sh 1 0 (.lam 0 (passT x))) : Pt)).within _
    refine ⟨?_, h3⟩
    show -(M + 3 * ((x.depth + 1 : Nat) : Int)) ≤ 0 ∧ (0 : Int) ≤ M + 3 * ((x.depth + 1 : Nat) : Int)
    omega
  | .app n x y, h => by
    have h : x.within M ∧ y.within M := h
    have i1 := passT_within M hM x h.1
    have i2 := passT_within M hM y h.2
    have j1 := sh_within 1 (by omega) _ (passT x) 0 i1
    have j2 := sh_within 2 (by omega) _ (passT y) 0 i2
    have hd : (Pt.app n x y).depth = max x.depth y.depth + 1 := rfl
    have k1 := within_mono (show M + 3 * (x.depth : Int) + 1 ≤ M + 3 * ((Pt.app n x y).depth : Int) by omega) _ j1
    have k2 := within_mono (show M + 3 * (y.depth : Int) + 2 ≤ M + 3 * ((Pt.app n x y).depth : Int) by omega) _ j2
    refine ⟨k1, k2, ⟨?_, ?_⟩, ?_⟩
    · show -(M + 3 * ((Pt.app n x y).depth : Int)) ≤ 1 ∧ (1 : Int) ≤ M + 3 * ((Pt.app n x y).depth : Int); omega
    · show -(M + 3 * ((Pt.app n x y).depth : Int)) ≤ 0 ∧ (0 : Int) ≤ M + 3 * ((Pt.app n x y).depth : Int); omega
    · show -(M + 3 * ((Pt.app n x y).depth : Int)) ≤ 2 ∧ (2 : Int) ≤ M + 3 * ((Pt.app n x y).depth : Int); omega
/-- What is small enough to be passed. -/
def fit (t : Pt) : Prop := t.depth ≤ 41 ∧ t.within 1000
theorem fit_kid {t x : Pt} (h : fit t) (hx : x ∈ t.kids) : fit x := ⟨by have := Pt.kids_lt hx; have := h.1; omega, within_kids h.2 hx⟩
theorem pass_fit {t : Pt} (h : fit t) : (passT t).depth ≤ 328 ∧ (passT t).within 10000 := by
  have h1 := passT_size t
  have h2 := passT_within 1000 (by omega) t h.2
  have := h.1
  exact ⟨by omega, within_mono (by omega) _ h2⟩
theorem ev_lfUp (t : Pt) (b : Int) (hb : 0 ≤ b ∧ b ≤ 10) (hd : t.depth ≤ 400) (hw : t.within 100000) : EvN 1000 93 [.dat t.d, .dat (I b)] [] [] ([.dat (sh b 0 t).d], [], []) := by
  refine (ev_fn Go.Proofs.Try.f93 900 (by kernel_rfl) (by kernel_rfl) fun kk hkk => ?_).mono (by omega)
  have a := ev_lcShift b (by omega) 400 t 0 hd (by omega) (by omega) (within_mono (by omega) _ hw) kk (by omega)
  rw [Pt.d_eq t, Pt.d_eq (sh b 0 t)] at a ⊢
  exact lfUp kk b true _ _ _ _ _ _ a
theorem ev_lfPass : ∀ (d : Nat) (t : Pt), t.depth ≤ d → fit t → EvN (d + 1100) 54 [.dat t.d] [] [] ([.dat (passT t).d], [], [])
  | 0, t, hd, _ => by have := t.depth_pos; omega
  | d + 1, t, hd, hf => by
    refine ev_fn Go.Proofs.Try.f54 (d + 1100) (by kernel_rfl) (by kernel_rfl) fun kk hkk => ?_
    have v0 := ev_lcVar 0 kk (by omega)
    have ih : ∀ x ∈ t.kids, den cfg kk 54 [.dat x.d] [] [] = some ([.dat (passT x).d], [], []) := fun x hx => ev_lfPass d x (by have := Pt.kids_lt hx; omega) (fit_kid hf hx) kk (by omega)
    have hfit : ∀ x ∈ t.kids, _ := fun x hx => pass_fit (fit_kid hf hx)
    cases t with
    | var n =>
      have hw : -1000 ≤ n ∧ n ≤ 1000 := hf.2
      have e : w64 (n + 1) = n + 1 := w64_eq (by omega)
      have v1 := ev_lcVar (n + 1) kk (by omega)
      have a := ev_lcApp (.var 0) (.var (n + 1)) kk (by omega)
      have l := ev_lcLam (.app 0 (.var 0) (.var (n + 1))) kk (by omega)
      refine lfPass_var kk n [] _ _ _ _ _ _ _ _ _ _ _ _ v0 ?_ a l
      rw [e]
      exact v1
    | lam n x =>
      have i := ih x (by simp [Pt.kids])
      have hx := hfit x (by simp [Pt.kids])
      have l := ev_lcLam (passT x) kk (by omega)
      have u := ev_lfUp (.lam 0 (passT x)) 1 (by omega) (by simp only [Pt.depth]; omega) (within_mono (by omega) _ hx.2) kk (by omega)
      have a := ev_lcApp (.var 0) (sh 1 0 (.lam 0 (passT x))) kk (by omega)
      have l2 := ev_lcLam (.app 0 (.var 0) (sh 1 0 (.lam 0 (passT x)))) kk (by omega)
      rw [Pt.d_eq x, Pt.d_eq (passT x)] at i
      rw [Pt.d_eq (passT x)] at l
      rw [Pt.d_eq (sh 1 0 (.lam 0 (passT x)))] at u a
      have e : (Pt.lam n x).d = T 2 n [T x.kd x.num (x.kids.map Pt.d)] := by rw [← Pt.d_eq]; rfl
      rw [e]
      apply lfPass_lam kk <;> first | assumption | exact ⟨⟨by decide, by simp⟩, rfl⟩ | (simp; done)
    | app n x y =>
      have i1 := ih x (by simp [Pt.kids])
      have i2 := ih y (by simp [Pt.kids])
      have hx := hfit x (by simp [Pt.kids])
      have hy := hfit y (by simp [Pt.kids])
      have u1 := ev_lfUp (passT x) 1 (by omega) (by omega) (within_mono (by omega) _ hx.2) kk (by omega)
      have u2 := ev_lfUp (passT y) 2 (by omega) (by omega) (within_mono (by omega) _ hy.2) kk (by omega)
      have v1 := ev_lcVar 1 kk (by omega)
      have v2 := ev_lcVar 2 kk (by omega)
      have a1 := ev_lcApp (.var 1) (.var 0) kk (by omega)
      have a2 := ev_lcApp (.app 0 (.var 1) (.var 0)) (.var 2) kk (by omega)
      have l1 := ev_lcLam (.app 0 (.app 0 (.var 1) (.var 0)) (.var 2)) kk (by omega)
      have a3 := ev_lcApp (sh 2 0 (passT y)) (.lam 0 (.app 0 (.app 0 (.var 1) (.var 0)) (.var 2))) kk (by omega)
      have l2 := ev_lcLam (.app 0 (sh 2 0 (passT y)) (.lam 0 (.app 0 (.app 0 (.var 1) (.var 0)) (.var 2)))) kk (by omega)
      have a4 := ev_lcApp (sh 1 0 (passT x)) (.lam 0 (.app 0 (sh 2 0 (passT y)) (.lam 0 (.app 0 (.app 0 (.var 1) (.var 0)) (.var 2))))) kk (by omega)
      have l3 := ev_lcLam (.app 0 (sh 1 0 (passT x)) (.lam 0 (.app 0 (sh 2 0 (passT y)) (.lam 0 (.app 0 (.app 0 (.var 1) (.var 0)) (.var 2)))))) kk (by omega)
      rw [Pt.d_eq x, Pt.d_eq (passT x)] at i1
      rw [Pt.d_eq y, Pt.d_eq (passT y)] at i2
      rw [Pt.d_eq (passT x), Pt.d_eq (sh 1 0 (passT x))] at u1
      rw [Pt.d_eq (passT y), Pt.d_eq (sh 2 0 (passT y))] at u2
      rw [Pt.d_eq (sh 2 0 (passT y))] at a3
      rw [Pt.d_eq (sh 1 0 (passT x))] at a4
      have e : (Pt.app n x y).d = T 3 n [T x.kd x.num (x.kids.map Pt.d), T y.kd y.num (y.kids.map Pt.d)] := by rw [← Pt.d_eq, ← Pt.d_eq]; rfl
      rw [e]
      refine lfPass_app kk n [] _ _ _ _ _ _ _ _ _ _ _ _ _ _ _ _ _ _ _ _ _ _ _ _ _ _ _ _ _ _ _ _ _ _ _ _ _ _ _ _ _ _ _ _ _ _ _ _ ?_ i1 u1 ?_ i2 u2 v1 v0 a1 v2 a2 l1 a3 l2 a4 l3
      · exact ⟨⟨by decide, by simp⟩, rfl⟩
      · exact ⟨⟨by decide, by simp⟩, rfl⟩
theorem ev_pass : ∀ (d : Nat) (t : Pt), t.depth ≤ d → fit t → EvN (2 * d + 1100) 52 [.dat t.d] [] [] ([.dat (passT t).d], [], [])
  | 0, t, hd, _ => by have := t.depth_pos; omega
  | d + 1, t, hd, hf => by
    refine (ev_fn Go.Proofs.Try.f52 (2 * d + 1101) (by kernel_rfl) (by kernel_rfl) fun kk hkk => ?_).mono (by omega)
    have v0 := ev_variable 0 kk (by omega)
    have ih : ∀ x ∈ t.kids, ∀ kk, 2 * d + 1100 ≤ kk → den cfg kk 52 [.dat x.d] [] [] = some ([.dat (passT x).d], [], []) := fun x hx kk hkk => ev_pass d x (by have := Pt.kids_lt hx; omega) (fit_kid hf hx) kk (by omega)
    have hfit : ∀ x ∈ t.kids, _ := fun x hx => pass_fit (fit_kid hf hx)
    cases t with
    | var n =>
      have hw : -1000 ≤ n ∧ n ≤ 1000 := hf.2
      have e : w64 (n + 1) = n + 1 := w64_eq (by omega)
      have v1 := ev_variable (n + 1) kk (by omega)
      have a := ev_app (.var 0) (.var (n + 1)) kk (by omega)
      have l := ev_lam (.app 0 (.var 0) (.var (n + 1))) kk (by omega)
      refine pass_var kk n [] _ _ _ _ _ _ _ _ _ _ _ _ v0 ?_ a l
      rw [e]
      exact v1
    | lam n x =>
      have hx := hfit x (by simp [Pt.kids])
      have pl : den cfg kk 91 [.dat (Pt.lam n x).d] [] [] = some ([.dat (Pt.lam 0 (passT x)).d], [], []) := by
        refine (ev_fn Go.Proofs.Try.f91 (2 * d + 1100) (by kernel_rfl) (by kernel_rfl) fun k2 hk2 => ?_) kk (by omega)
        have i := ih x (by simp [Pt.kids]) k2 hk2
        have l := ev_lam (passT x) k2 (by omega)
        rw [Pt.d_eq x, Pt.d_eq (passT x)] at i
        rw [Pt.d_eq (passT x)] at l
        have e : (Pt.lam n x).d = T 2 n [T x.kd x.num (x.kids.map Pt.d)] := by rw [← Pt.d_eq]; rfl
        rw [e]
        exact passLambda k2 2 n [] _ _ _ _ _ _ _ _ _ ⟨⟨by decide, by simp⟩, rfl⟩ i l
      have u := ev_shift (.lam 0 (passT x)) 1 0 (by omega) (by omega) (by simp only [Pt.depth]; omega) (within_mono (by omega) _ hx.2) kk (by simp only [Pt.depth]; omega)
      have a := ev_app (.var 0) (sh 1 0 (.lam 0 (passT x))) kk (by omega)
      have l2 := ev_lam (.app 0 (.var 0) (sh 1 0 (.lam 0 (passT x)))) kk (by omega)
      rw [Pt.d_eq (sh 1 0 (.lam 0 (passT x)))] at u a
      exact pass_lam kk n _ _ _ _ _ _ _ _ _ _ _ _ _ _ _ _ v0 pl u a l2
    | app n x y =>
      have i1 := ih x (by simp [Pt.kids]) kk (by omega)
      have i2 := ih y (by simp [Pt.kids]) kk (by omega)
      have hx := hfit x (by simp [Pt.kids])
      have hy := hfit y (by simp [Pt.kids])
      have u1 := ev_shift (passT x) 1 0 (by omega) (by omega) (by omega) (within_mono (by omega) _ hx.2) kk (by omega)
      have u2 := ev_shift (passT y) 2 0 (by omega) (by omega) (by omega) (within_mono (by omega) _ hy.2) kk (by omega)
      have v1 := ev_variable 1 kk (by omega)
      have v2 := ev_variable 2 kk (by omega)
      have a1 := ev_app (.var 1) (.var 0) kk (by omega)
      have a2 := ev_app (.app 0 (.var 1) (.var 0)) (.var 2) kk (by omega)
      have l1 := ev_lam (.app 0 (.app 0 (.var 1) (.var 0)) (.var 2)) kk (by omega)
      have a3 := ev_app (sh 2 0 (passT y)) (.lam 0 (.app 0 (.app 0 (.var 1) (.var 0)) (.var 2))) kk (by omega)
      have l2 := ev_lam (.app 0 (sh 2 0 (passT y)) (.lam 0 (.app 0 (.app 0 (.var 1) (.var 0)) (.var 2)))) kk (by omega)
      have a4 := ev_app (sh 1 0 (passT x)) (.lam 0 (.app 0 (sh 2 0 (passT y)) (.lam 0 (.app 0 (.app 0 (.var 1) (.var 0)) (.var 2))))) kk (by omega)
      have l3 := ev_lam (.app 0 (sh 1 0 (passT x)) (.lam 0 (.app 0 (sh 2 0 (passT y)) (.lam 0 (.app 0 (.app 0 (.var 1) (.var 0)) (.var 2)))))) kk (by omega)
      rw [Pt.d_eq x, Pt.d_eq (passT x)] at i1
      rw [Pt.d_eq y, Pt.d_eq (passT y)] at i2
      rw [Pt.d_eq (passT x), Pt.d_eq (sh 1 0 (passT x))] at u1
      rw [Pt.d_eq (passT y), Pt.d_eq (sh 2 0 (passT y))] at u2
      rw [Pt.d_eq (sh 2 0 (passT y))] at a3
      rw [Pt.d_eq (sh 1 0 (passT x))] at a4
      have e : (Pt.app n x y).d = T 3 n [T x.kd x.num (x.kids.map Pt.d), T y.kd y.num (y.kids.map Pt.d)] := by rw [← Pt.d_eq, ← Pt.d_eq]; rfl
      rw [e]
      exact pass_app kk n [] _ _ _ _ _ _ _ _ _ _ _ _ _ _ _ _ _ _ _ _ _ _ _ _ _ _ _ _ _ _ _ _ _ _ _ _ _ _ _ _ _ _ _ _ _ _ _ _ v1 v0 a1 v2 a2 l1 ⟨⟨by decide, by simp⟩, rfl⟩ i2 u2 a3 l2 ⟨⟨by decide, by simp⟩, rfl⟩ i1 u1 a4 l3
def passN (L : List Nd) : List Nd × Bool := match closedOfP L with | some t => told (passT t) | none => ([], false)
theorem passN_len (L : List Nd) : (passN L).1.length ≤ 150 := by
  unfold passN
  split
  · exact told_len _
  · simp
theorem good_fit {t : Pt} (h : t.good = true) : fit t := by
  have h1 := good_facts h
  exact ⟨by omega, within_mono (by omega) _ (nums_within t h1.2.2)⟩
theorem ev_sPass (L : List Nd) (b : Bool) (hL : L.length ≤ 1048576) : EvN 1002000 19 [.dat (.lst b (L.map Nd.d))] [] [] ([.own 56 ((passN L).1.map Nd.d), .dat (B (passN L).2)], [], []) := by
  refine (ev_fn Go.Proofs.Try.f19 1001900 (by kernel_rfl) (by kernel_rfl) fun kk hkk => ?_).mono (by omega)
  have a1 := ev_lfClosed L b hL kk (by omega)
  unfold passN
  cases h1 : closedOfP L with
  | none => rw [h1] at a1; exact sPass_no kk b _ a1
  | some t =>
    rw [h1] at a1
    have hg := closedOfP_good h1
    have hf := good_fit hg
    have hsm := good_small hg
    have hp := pass_fit hf
    have hz := passT_size t
    have a2 := ev_tree b (closedOfP_some h1).1 kk (by omega)
    have a3 := ev_lfPass 40 t hsm.2.1 hf kk (by omega)
    have a4 := ev_lcTold (passT t) (by omega) kk (by omega)
    rw [Pt.d_eq t] at a2
    rw [Pt.d_eq t, Pt.d_eq (passT t)] at a3
    rw [Pt.d_eq (passT t)] at a4
    exact sPass_go kk b _ _ _ _ _ _ _ _ _ a1 a2 a3 a4
theorem ev_iPass (L : List Nd) (b : Bool) (hL : L.length ≤ 1048576) : EvN 5000 18 [.dat (.lst b (L.map Nd.d))] [] [] ([.own 56 ((passN L).1.map Nd.d), .dat (B (passN L).2)], [], []) := by
  refine (ev_fn Go.Proofs.Try.f18 4900 (by kernel_rfl) (by kernel_rfl) fun kk hkk => ?_).mono (by omega)
  obtain ⟨k1, n1, d1, a1, e1⟩ := ev_closedOf_any L b hL
  have a1 := a1 kk (by omega)
  unfold passN
  cases h1 : closedOfP L with
  | none => rw [h1] at a1; exact iPass_no kk b _ _ _ _ a1
  | some t =>
    rw [h1, e1 t h1, Pt.d_eq t] at a1
    have hg := closedOfP_good h1
    have hf := good_fit hg
    have hsm := good_small hg
    have hp := pass_fit hf
    have hz := passT_size t
    have a3 := ev_pass 40 t hsm.2.1 hf kk (by omega)
    have a4 := ev_goodNodes (passT t) (by omega) kk (by omega)
    rw [Pt.d_eq t, Pt.d_eq (passT t)] at a3
    rw [Pt.d_eq (passT t)] at a4
    exact iPass_go kk b _ _ _ _ _ _ _ _ _ a1 a3 a4
end Go.Den
namespace Go.Den
open Go
set_option linter.unusedVariables false
set_option maxRecDepth 100000
/-- The number of the redex that is reduced next, by value or by name. -/
def nx (v : Bool) : Pt → Option Nat
  | .var _ => none
  | .lam _ _ => none
  | .app _ x y => if x.kd ≠ 2 then (nx v x).map (1 + ·) else if v = true ∧ y.kd ≠ 2 then (nx v y).map (1 + x.size + ·) else some 0
theorem closed_app {n : Int} {x y : Pt} {a : Int} : fv (.app n x y) a = [] ↔ fv x a = [] ∧ fv y a = [] := by simp [fv]
theorem closedP_iff (t : Pt) : closedP t = true ↔ fv t 0 = [] := by unfold closedP; exact List.isEmpty_iff
/-- Closed, its numbers as they have to be. -/
def Cl (t : Pt) : Prop := fv t 0 = [] ∧ t.nums = true
theorem Cl.app {n : Int} {x y : Pt} (h : Cl (.app n x y)) : n = 0 ∧ Cl x ∧ Cl y := by
  obtain ⟨h1, h2⟩ := h
  rw [closed_app] at h1
  have h' : n = 0 ∧ x.nums = true ∧ y.nums = true := by simpa [Pt.nums] using h2
  exact ⟨h'.1, ⟨h1.1, h'.2.1⟩, ⟨h1.2, h'.2.2⟩⟩
theorem Cl.var {n : Int} (h : Cl (.var n)) : False := by
  obtain ⟨h1, h2⟩ := h
  have h' : 0 ≤ n ∧ n ≤ 99 := by simpa [Pt.nums] using h2
  simp only [fv] at h1
  rw [if_pos h'.1] at h1
  cases h1
theorem nx_app (v : Bool) : ∀ (t : Pt), Cl t → t.kd ≠ 2 → ∃ r, nx v t = some r
  | .var n, h, _ => h.var.elim
  | .lam n x, _, h => (h rfl).elim
  | .app n x y, h, _ => by
    have h := h.app
    simp only [nx]
    split
    · rename_i hx
      obtain ⟨r, hr⟩ := nx_app v x h.2.1 hx
      exact ⟨_, by rw [hr]; rfl⟩
    · split
      · rename_i hy
        obtain ⟨r, hr⟩ := nx_app v y h.2.2 hy.2
        exact ⟨_, by rw [hr]; rfl⟩
      · exact ⟨0, rfl⟩
theorem kd_lam {t : Pt} (h : t.kd = 2) : ∃ n x, t = .lam n x := by
  cases t with
  | var n => cases h
  | lam n x => exact ⟨n, x, rfl⟩
  | app n x y => cases h
theorem nx_rx (v : Bool) : ∀ (t : Pt) (r : Nat), nx v t = some r → rxAt t r = true ∧ r < t.size
  | .var n, r, h => by cases h
  | .lam n x, r, h => by cases h
  | .app n x y, r, h => by
    simp only [nx] at h
    split at h
    · obtain ⟨q, hq, rfl⟩ := Option.map_eq_some_iff.1 h
      obtain ⟨h1, h2⟩ := nx_rx v x q hq
      rw [Nat.add_comm 1 q]
      simp only [rxAt, Pt.size, if_pos h2]
      exact ⟨h1, by omega⟩
    · rename_i hx
      split at h
      · obtain ⟨q, hq, rfl⟩ := Option.map_eq_some_iff.1 h
        obtain ⟨h1, h2⟩ := nx_rx v y q hq
        rw [show 1 + x.size + q = (x.size + q) + 1 by omega]
        simp only [rxAt, Pt.size, if_neg (show ¬ x.size + q < x.size by omega), show x.size + q - x.size = q by omega]
        exact ⟨h1, by omega⟩
      · cases h
        refine ⟨?_, by simp only [Pt.size]; omega⟩
        simp only [rxAt, Pt.isRedex]
        exact decide_eq_true (by omega)
theorem fv_sh (b : Int) : ∀ (s : Pt) (a f : Int), fv s a = [] → a ≤ f → fv (sh b f s) a = []
  | .var n, a, f, h, hf => by
    have hn : ¬ a ≤ n := fun hn => by simp only [fv] at h; rw [if_pos hn] at h; cases h
    simp only [sh]
    rw [if_neg (by omega)]
    exact h
  | .lam n t, a, f, h, hf => fv_sh b t (a + 1) (f + 1) h (by omega)
  | .app n x y, a, f, h, hf => by
    rw [closed_app] at h
    simp only [sh]
    rw [closed_app]
    exact ⟨fv_sh b x a f h.1 hf, fv_sh b y a f h.2 hf⟩
theorem fv_up : ∀ (t : Pt) (a b : Int), fv t a = [] → a ≤ b → fv t b = []
  | .var n, a, b, h, hb => by
    have hn : ¬ a ≤ n := fun hn => by simp only [fv] at h; rw [if_pos hn] at h; cases h
    simp only [fv]
    rw [if_neg (by omega)]
  | .lam n t, a, b, h, hb => fv_up t (a + 1) (b + 1) h (by omega)
  | .app n x y, a, b, h, hb => by
    rw [closed_app] at h ⊢
    exact ⟨fv_up x a b h.1 hb, fv_up y a b h.2 hb⟩
theorem fv_sub (s : Pt) (hs : fv s 0 = []) : ∀ (t : Pt) (u : Int), 0 ≤ u → fv t (u + 1) = [] → fv (sub 0 s u t) u = []
  | .var n, u, hu, h => by
    have hn : ¬ u + 1 ≤ n := fun hn => by simp only [fv] at h; rw [if_pos hn] at h; cases h
    simp only [sub]
    split
    · exact fv_up _ 0 u (fv_sh u s 0 0 hs (by omega)) hu
    · rw [if_neg (by omega)]
      simp only [fv]
      rw [if_neg (by omega)]
  | .lam n t, u, hu, h => fv_sub s hs t (u + 1) (by omega) h
  | .app n x y, u, hu, h => by
    rw [closed_app] at h
    simp only [sub]
    rw [closed_app]
    exact ⟨fv_sub s hs x u hu h.1, fv_sub s hs y u hu h.2⟩
theorem nx_closed (v : Bool) : ∀ (t : Pt) (r : Nat), fv t 0 = [] → nx v t = some r → fv (red t r) 0 = []
  | .var n, r, _, h => by cases h
  | .lam n x, r, _, h => by cases h
  | .app n x y, r, hc, h => by
    rw [closed_app] at hc
    simp only [nx] at h
    split at h
    · obtain ⟨q, hq, rfl⟩ := Option.map_eq_some_iff.1 h
      have h2 := (nx_rx v x q hq).2
      rw [Nat.add_comm 1 q]
      simp only [red, if_pos h2]
      rw [closed_app]
      exact ⟨nx_closed v x q hc.1 hq, hc.2⟩
    · rename_i hx
      split at h
      · obtain ⟨q, hq, rfl⟩ := Option.map_eq_some_iff.1 h
        rw [show 1 + x.size + q = (x.size + q) + 1 by omega]
        simp only [red, if_neg (show ¬ x.size + q < x.size by omega), show x.size + q - x.size = q by omega]
        rw [closed_app]
        exact ⟨hc.1, nx_closed v y q hc.2 hq⟩
      · cases h
        obtain ⟨n1, z, rfl⟩ := kd_lam (t := x) (by omega)
        simp only [red, Pt.beta]
        exact fv_sub y hc.2 z 0 (by omega) hc.1
theorem ev_nextIn (v : Bool) : ∀ (d : Nat) (t : Pt), t.depth ≤ d → Cl t → t.size ≤ 1000 → ∃ x : Int, EvN (d + 200) 96 [.dat t.d, .dat (B v)] [] [] ([.dat (I x)], [], []) ∧ nxI (nx v t) x
  | 0, t, hd, _, _ => by have := t.depth_pos; omega
  | d + 1, t, hd, hc, hz => by
    cases t with
    | var n => exact hc.var.elim
    | lam n x =>
      refine ⟨-1, ?_, by show (-1 : Int) < 0; decide⟩
      exact ev_fn Go.Proofs.Try.f96 (d + 200) (by kernel_rfl) (by kernel_rfl) fun kk hkk => nextIn_no2 kk n _ v
    | app n x y =>
      have hca := hc.app
      simp only [Pt.depth] at hd
      simp only [Pt.size] at hz
      have e : (Pt.app n x y).d = T 3 n [T x.kd x.num (x.kids.map Pt.d), T y.kd y.num (y.kids.map Pt.d)] := by rw [← Pt.d_eq, ← Pt.d_eq]; rfl
      rw [e]
      simp only [nx]
      by_cases hx : x.kd = 2
      · rw [if_neg (by simpa using hx)]
        have kx : (!decide (x.kd = 2)) = false := by rw [decide_eq_true hx]; rfl
        cases v with
        | false =>
          rw [if_neg (fun h => by cases h.1)]
          exact ⟨0, ev_fn Go.Proofs.Try.f96 (d + 200) (by kernel_rfl) (by kernel_rfl) fun kk hkk => nextIn_name kk n [T y.kd y.num (y.kids.map Pt.d)] _ _ _ ⟨⟨by decide, by simp; try omega⟩, rfl⟩ kx, rfl⟩
        | true =>
          by_cases hy : y.kd = 2
          · rw [if_neg (fun h => h.2 hy)]
            have ky : (!decide (y.kd = 2)) = false := by rw [decide_eq_true hy]; rfl
            exact ⟨0, ev_fn Go.Proofs.Try.f96 (d + 200) (by kernel_rfl) (by kernel_rfl) fun kk hkk => nextIn_here kk n [] _ _ _ _ _ _ ⟨⟨by decide, by simp; try omega⟩, rfl⟩ kx ⟨⟨by decide, by simp; try omega⟩, rfl⟩ ky, rfl⟩
          · rw [if_pos ⟨rfl, hy⟩]
            have ky : (!decide (y.kd = 2)) = true := by rw [decide_eq_false hy]; rfl
            obtain ⟨z, h1, h2⟩ := ev_nextIn true d y (by omega) hca.2.2 (by omega)
            obtain ⟨r, hr⟩ := nx_app true y hca.2.2 hy
            rw [hr] at h2
            have h2 : z = r := h2
            have hlt := (nx_rx true y r hr).2
            refine ⟨((1 + x.size + r : Nat) : Int), ev_fn Go.Proofs.Try.f96 (d + 200) (by kernel_rfl) (by kernel_rfl) fun kk hkk => ?_, by rw [hr]; rfl⟩
            have h1 := h1 kk (by omega)
            have hs := ev_size d x (by omega) (by omega) kk (by omega)
            rw [Pt.d_eq y] at h1
            rw [Pt.d_eq x] at hs
            have := nextIn_r kk n _ _ [] _ _ _ _ _ _ ⟨⟨by decide, by simp; try omega⟩, rfl⟩ kx ⟨⟨by decide, by simp; try omega⟩, rfl⟩ ky ⟨⟨by decide, by simp; try omega⟩, rfl⟩ ⟨⟨by decide, by simp; try omega⟩, rfl⟩ hs h1
            rw [this, w64_eq (n := 1 + (x.size : Int)) (by omega), w64_eq (by omega), h2]
            simp only [Int.natCast_add, Int.natCast_one]
      · rw [if_pos hx]
        have kx : (!decide (x.kd = 2)) = true := by rw [decide_eq_false hx]; rfl
        obtain ⟨z, h1, h2⟩ := ev_nextIn v d x (by omega) hca.2.1 (by omega)
        obtain ⟨r, hr⟩ := nx_app v x hca.2.1 hx
        rw [hr] at h2
        have h2 : z = r := h2
        have hlt := (nx_rx v x r hr).2
        refine ⟨((1 + r : Nat) : Int), ev_fn Go.Proofs.Try.f96 (d + 200) (by kernel_rfl) (by kernel_rfl) fun kk hkk => ?_, by rw [hr]; rfl⟩
        have h1 := h1 kk (by omega)
        rw [Pt.d_eq x] at h1
        have := nextIn_l kk n _ [T y.kd y.num (y.kids.map Pt.d)] v _ _ _ ⟨⟨by decide, by simp; try omega⟩, rfl⟩ kx ⟨⟨by decide, by simp; try omega⟩, rfl⟩ h1
        rw [this, w64_eq (by omega), h2]
        simp only [Int.natCast_add, Int.natCast_one]
theorem goOn_rounds_n (nx : Pt → Option Nat) (kk : Nat) (hkk : 4000 ≤ kk) (fuel : Nat) (hf : fuel ≤ 1000)
    (P : Pt → Prop) (hnx : ∀ t, P t → t.good = true → ∃ x : Int, den cfg kk 60 [.dat (T t.kd t.num (t.kids.map Pt.d))] [] [] = some ([.dat (I x)], [], []) ∧ nxI (nx t) x)
    (hrx : ∀ t r, P t → t.good = true → nx t = some r → rxAt t r = true ∧ r < t.size) (hP : ∀ t r, P t → t.good = true → nx t = some r → (red t r).good = true → P (red t r)) :
    ∀ (f made : Nat) (t : Pt) (m : Nat) (s : St) (K : X → St → Prop), P t → t.good = true → made + f = fuel → f < m →
    s.norm ((envOf cfg kk 64 Go.Proofs.Try.f64).live (firstRegion (lp Go.Proofs.Try.f64 3))) = hd102n fuel t.kd t.num (t.kids.map Pt.d) made → K .ret (outI made (goOnP nx f t)) → Rounds (envOf cfg kk 64 Go.Proofs.Try.f64) kk (lp Go.Proofs.Try.f64 3) m s K := by
  have hround : ∀ (f made : Nat) (t : Pt) (m : Nat) (s : St) (K : X → St → Prop), P t → t.good = true → made + f = fuel →
      s.norm ((envOf cfg kk 64 Go.Proofs.Try.f64).live (firstRegion (lp Go.Proofs.Try.f64 3))) = hd102n fuel t.kd t.num (t.kids.map Pt.d) made →
      (nx t = none → K .ret (outI made (some (t, 0)))) → (∀ r, nx t = some r → f = 0 → K .ret (outI made none)) → (∀ r, nx t = some r → f ≠ 0 → (red t r).good = false → K .ret (outI made none)) →
      (∀ r, nx t = some r → f ≠ 0 → (red t r).good = true → ∀ s : St, s.norm ((envOf cfg kk 64 Go.Proofs.Try.f64).live (firstRegion (lp Go.Proofs.Try.f64 3))) = hd102n fuel (red t r).kd (red t r).num ((red t r).kids.map Pt.d) ((made + 1 : Nat) : Int) → Rounds (envOf cfg kk 64 Go.Proofs.Try.f64) kk (lp Go.Proofs.Try.f64 3) m s K) →
      Rounds (envOf cfg kk 64 Go.Proofs.Try.f64) kk (lp Go.Proofs.Try.f64 3) (m + 1) s K := by
    intro f made t m s K hPt hg hfm hs k1 k2 k3 k4
    have hsm : small t := good_small hg
    obtain ⟨x, a1, hx⟩ := hnx t hPt hg
    cases hn : nx t with
    | none =>
      rw [hn] at hx
      have hx : x < 0 := hx
      exact goOn_done_n kk m _ _ _ _ _ x hs a1 (decide_eq_true hx) (k1 hn)
    | some r =>
      rw [hn] at hx
      have hx : x = r := hx
      subst hx
      have hlt : decide ((r : Int) < 0) = false := decide_eq_false (by omega)
      by_cases h0 : f = 0
      · exact goOn_stop_n kk m _ _ _ _ _ _ hs a1 hlt (decide_eq_true (by omega)) (k2 r hn h0)
      · obtain ⟨h4, h3⟩ := hrx t r hPt hg hn
        have hz := red_size t r h4 hsm.1
        have a3 := ev_reduceAt 40 t r hsm.2.1 hsm h4 h3 kk (by omega)
        have a4 := ev_good (red t r) (by have := hsm.1; omega) 80 (by have := hsm.2.1; omega) kk (by omega)
        rw [Pt.d_eq t, Pt.d_eq (red t r)] at a3
        rw [Pt.d_eq (red t r)] at a4
        cases hgr : (red t r).good with
        | false =>
          rw [hgr] at a4
          exact goOn_bad_n kk m _ _ _ _ _ _ _ _ _ hs a1 hlt (decide_eq_false (by omega)) a3 a4 (k3 r hn h0 hgr)
        | true =>
          rw [hgr] at a4
          refine goOn_go_n kk m _ _ _ _ _ _ _ _ _ hs a1 hlt (decide_eq_false (by omega)) a3 a4 fun s' hs' => k4 r hn h0 hgr s' ?_
          rw [hs', w64_eq (by omega)]
          rfl
  intro f
  induction f with
  | zero =>
    intro made t m s K hPt hg hfm hm hs hK
    obtain ⟨m, rfl⟩ : ∃ j, m = j + 1 := ⟨m - 1, by omega⟩
    refine hround 0 made t m s K hPt hg hfm hs (fun h => ?_) (fun r h _ => ?_) (fun r h h0 => (h0 rfl).elim) (fun r h h0 => (h0 rfl).elim)
    · unfold goOnP at hK
      rw [h] at hK
      exact hK
    · unfold goOnP at hK
      rw [h] at hK
      exact hK
  | succ f ih =>
    intro made t m s K hPt hg hfm hm hs hK
    obtain ⟨m, rfl⟩ : ∃ j, m = j + 1 := ⟨m - 1, by omega⟩
    refine hround (f + 1) made t m s K hPt hg hfm hs (fun h => ?_) (fun r h h0 => by omega) (fun r h _ hgr => ?_) (fun r h _ hgr s' hs' => ?_)
    · unfold goOnP at hK
      rw [h] at hK
      exact hK
    · unfold goOnP at hK
      rw [h] at hK
      simp only [hgr] at hK
      exact hK
    · refine ih (made + 1) (red t r) m s' K (hP t r hPt hg h hgr) hgr (by omega) (by omega) hs' ?_
      unfold goOnP at hK
      rw [h] at hK
      simp only [hgr, if_true] at hK
      cases hq : goOnP nx f (red t r) with
      | none => rw [hq] at hK; exact hK
      | some q =>
        rw [hq] at hK
        simp only [Option.map_some, outI] at hK
        simp only [outI]
        rw [show made + 1 + q.2 = made + (q.2 + 1) by omega]
        exact hK
theorem goOn_rounds_v (nx : Pt → Option Nat) (kk : Nat) (hkk : 4000 ≤ kk) (fuel : Nat) (hf : fuel ≤ 1000)
    (P : Pt → Prop) (hnx : ∀ t, P t → t.good = true → ∃ x : Int, den cfg kk 59 [.dat (T t.kd t.num (t.kids.map Pt.d))] [] [] = some ([.dat (I x)], [], []) ∧ nxI (nx t) x)
    (hrx : ∀ t r, P t → t.good = true → nx t = some r → rxAt t r = true ∧ r < t.size) (hP : ∀ t r, P t → t.good = true → nx t = some r → (red t r).good = true → P (red t r)) :
    ∀ (f made : Nat) (t : Pt) (m : Nat) (s : St) (K : X → St → Prop), P t → t.good = true → made + f = fuel → f < m →
    s.norm ((envOf cfg kk 64 Go.Proofs.Try.f64).live (firstRegion (lp Go.Proofs.Try.f64 3))) = hd102v fuel t.kd t.num (t.kids.map Pt.d) made → K .ret (outI made (goOnP nx f t)) → Rounds (envOf cfg kk 64 Go.Proofs.Try.f64) kk (lp Go.Proofs.Try.f64 3) m s K := by
  have hround : ∀ (f made : Nat) (t : Pt) (m : Nat) (s : St) (K : X → St → Prop), P t → t.good = true → made + f = fuel →
      s.norm ((envOf cfg kk 64 Go.Proofs.Try.f64).live (firstRegion (lp Go.Proofs.Try.f64 3))) = hd102v fuel t.kd t.num (t.kids.map Pt.d) made →
      (nx t = none → K .ret (outI made (some (t, 0)))) → (∀ r, nx t = some r → f = 0 → K .ret (outI made none)) → (∀ r, nx t = some r → f ≠ 0 → (red t r).good = false → K .ret (outI made none)) →
      (∀ r, nx t = some r → f ≠ 0 → (red t r).good = true → ∀ s : St, s.norm ((envOf cfg kk 64 Go.Proofs.Try.f64).live (firstRegion (lp Go.Proofs.Try.f64 3))) = hd102v fuel (red t r).kd (red t r).num ((red t r).kids.map Pt.d) ((made + 1 : Nat) : Int) → Rounds (envOf cfg kk 64 Go.Proofs.Try.f64) kk (lp Go.Proofs.Try.f64 3) m s K) →
      Rounds (envOf cfg kk 64 Go.Proofs.Try.f64) kk (lp Go.Proofs.Try.f64 3) (m + 1) s K := by
    intro f made t m s K hPt hg hfm hs k1 k2 k3 k4
    have hsm : small t := good_small hg
    obtain ⟨x, a1, hx⟩ := hnx t hPt hg
    cases hn : nx t with
    | none =>
      rw [hn] at hx
      have hx : x < 0 := hx
      exact goOn_done_v kk m _ _ _ _ _ x hs a1 (decide_eq_true hx) (k1 hn)
    | some r =>
      rw [hn] at hx
      have hx : x = r := hx
      subst hx
      have hlt : decide ((r : Int) < 0) = false := decide_eq_false (by omega)
      by_cases h0 : f = 0
      · exact goOn_stop_v kk m _ _ _ _ _ _ hs a1 hlt (decide_eq_true (by omega)) (k2 r hn h0)
      · obtain ⟨h4, h3⟩ := hrx t r hPt hg hn
        have hz := red_size t r h4 hsm.1
        have a3 := ev_reduceAt 40 t r hsm.2.1 hsm h4 h3 kk (by omega)
        have a4 := ev_good (red t r) (by have := hsm.1; omega) 80 (by have := hsm.2.1; omega) kk (by omega)
        rw [Pt.d_eq t, Pt.d_eq (red t r)] at a3
        rw [Pt.d_eq (red t r)] at a4
        cases hgr : (red t r).good with
        | false =>
          rw [hgr] at a4
          exact goOn_bad_v kk m _ _ _ _ _ _ _ _ _ hs a1 hlt (decide_eq_false (by omega)) a3 a4 (k3 r hn h0 hgr)
        | true =>
          rw [hgr] at a4
          refine goOn_go_v kk m _ _ _ _ _ _ _ _ _ hs a1 hlt (decide_eq_false (by omega)) a3 a4 fun s' hs' => k4 r hn h0 hgr s' ?_
          rw [hs', w64_eq (by omega)]
          rfl
  intro f
  induction f with
  | zero =>
    intro made t m s K hPt hg hfm hm hs hK
    obtain ⟨m, rfl⟩ : ∃ j, m = j + 1 := ⟨m - 1, by omega⟩
    refine hround 0 made t m s K hPt hg hfm hs (fun h => ?_) (fun r h _ => ?_) (fun r h h0 => (h0 rfl).elim) (fun r h h0 => (h0 rfl).elim)
    · unfold goOnP at hK
      rw [h] at hK
      exact hK
    · unfold goOnP at hK
      rw [h] at hK
      exact hK
  | succ f ih =>
    intro made t m s K hPt hg hfm hm hs hK
    obtain ⟨m, rfl⟩ : ∃ j, m = j + 1 := ⟨m - 1, by omega⟩
    refine hround (f + 1) made t m s K hPt hg hfm hs (fun h => ?_) (fun r h h0 => by omega) (fun r h _ hgr => ?_) (fun r h _ hgr s' hs' => ?_)
    · unfold goOnP at hK
      rw [h] at hK
      exact hK
    · unfold goOnP at hK
      rw [h] at hK
      simp only [hgr] at hK
      exact hK
    · refine ih (made + 1) (red t r) m s' K (hP t r hPt hg h hgr) hgr (by omega) (by omega) hs' ?_
      unfold goOnP at hK
      rw [h] at hK
      simp only [hgr, if_true] at hK
      cases hq : goOnP nx f (red t r) with
      | none => rw [hq] at hK; exact hK
      | some q =>
        rw [hq] at hK
        simp only [Option.map_some, outI] at hK
        simp only [outI]
        rw [show made + 1 + q.2 = made + (q.2 + 1) by omega]
        exact hK
/-- What both sides come to. -/
def clN (v : Bool) (L : List Nd) (f : Int) : List Nd × Nat × Bool := match closedOfP L with | some _ => goneN (nx v) L f | none => ([], 0, false)
theorem clN_len (v : Bool) (L : List Nd) (f : Int) : (clN v L f).1.length ≤ 150 := by
  unfold clN
  split
  · exact goneN_len _ _ _
  · simp
theorem ev_next_n (t : Pt) (hc : fv t 0 = []) (hg : t.good = true) (kk : Nat) (hkk : 500 ≤ kk) : ∃ x : Int, den cfg kk 60 [.dat (T t.kd t.num (t.kids.map Pt.d))] [] [] = some ([.dat (I x)], [], []) ∧ nxI (nx false t) x := by
  have hsm : small t := good_small hg
  obtain ⟨x, h1, h2⟩ := ev_nextIn false 40 t hsm.2.1 ⟨hc, (good_facts hg).2.2⟩ (by have := hsm.1; omega)
  refine ⟨x, ?_, h2⟩
  refine (ev_fn Go.Proofs.Try.f60 400 (by kernel_rfl) (by kernel_rfl) fun k2 hk2 => ?_) kk (by omega)
  have h1 := h1 k2 (by omega)
  rw [Pt.d_eq t] at h1
  exact next_n k2 _ _ _ _ h1
theorem ev_goneOn_n (L : List Nd) (b : Bool) (v : Int) (t : Pt) (ht : termOfP L = some t) (hc : fv t 0 = []) (hL : L.length ≤ 1048576) :
    EvN 5900 27 [.dat (.lst b (L.map Nd.d)), .dat (I v), .fn 60 []] [] [] ([.own 56 ((goneN (nx false) L v).1.map Nd.d), .dat (I (goneN (nx false) L v).2.1), .dat (B (goneN (nx false) L v).2.2)], [], []) := by
  refine (ev_fn Go.Proofs.Try.f27 5800 (by kernel_rfl) (by kernel_rfl) fun kk hkk => ?_).mono (by omega)
  have a1 := (ev_termOf L b hL).1 t ht kk (by omega)
  have hin := ev_isFuel v kk (by omega)
  have hgt := ((termOfP_iff L t).1 ht).1
  unfold goneN
  rw [ht]
  rw [Pt.d_eq] at a1
  simp only
  cases hk : (decide (0 ≤ v) && decide (v ≤ 1000)) with
  | false =>
    rw [hk] at hin
    rw [if_neg (fun h => by simp [h.1, h.2] at hk)]
    exact goneOn_no2_n kk b _ v _ _ _ a1 hin
  | true =>
    rw [hk] at hin
    have hk' : 0 ≤ v ∧ v ≤ 1000 := by simpa using hk
    rw [if_pos hk']
    obtain ⟨fu, rfl⟩ : ∃ fu : Nat, v = fu := ⟨v.toNat, by omega⟩
    rw [show ((fu : Int)).toNat = fu by simp]
    have hloop : ∀ k2, 5000 ≤ k2 → LoopAt cfg k2 64 Go.Proofs.Try.f64 3 (hd102n fu t.kd t.num (t.kids.map Pt.d) 0) X.ret (outI 0 (goOnP (nx false) fu t)) := fun k2 hk2 => loopOb_of fun s hs =>
      goOn_rounds_n (nx false) k2 (by omega) fu (by omega) (fun t => fv t 0 = []) (fun t hc hg => ev_next_n t hc hg k2 (by omega)) (fun t r _ _ h => nx_rx false t r h) (fun t r hc _ h _ => nx_closed false t r hc h) fu 0 t k2 s _ hc hgt (by omega) (by omega) hs ⟨rfl, rfl⟩
    cases hq : goOnP (nx false) fu t with
    | none =>
      rw [hq] at hloop
      refine goneOn_no3_n kk b _ _ _ _ 0 0 0 _ [] a1 hin ?_
      refine (ev_fn Go.Proofs.Try.f64 5000 (by kernel_rfl) (by kernel_rfl) fun k2 hk2 => ?_) kk (by omega)
      exact goOn_n_n k2 _ _ _ 0 _ false (hloop k2 hk2)
    | some q =>
      rw [hq] at hloop
      have hgq := good_small (goOnP_good hgt hq).1
      have a5 := ev_nodes q.1 (by omega) kk (by omega)
      rw [Pt.d_eq q.1] at a5
      refine goneOn_go_n kk b _ _ _ _ _ _ _ _ _ _ a1 hin ?_ a5
      refine (ev_fn Go.Proofs.Try.f64 5000 (by kernel_rfl) (by kernel_rfl) fun k2 hk2 => ?_) kk (by omega)
      have hl := hloop k2 hk2
      simp only [outI, Nat.zero_add] at hl
      exact goOn_y_n k2 _ _ _ _ _ _ _ _ true hl
theorem ev_iHead (L : List Nd) (b : Bool) (v : Int) (hL : L.length ≤ 1048576) : EvN 7000 23 [.dat (.lst b (L.map Nd.d)), .dat (I v)] [] [] ([.own 56 ((clN false L v).1.map Nd.d), .dat (I (clN false L v).2.1), .dat (B (clN false L v).2.2)], [], []) := by
  refine (ev_fn Go.Proofs.Try.f23 6900 (by kernel_rfl) (by kernel_rfl) fun k1 hk1 => ?_).mono (by omega)
  refine iRun_n k1 b _ v _ _ _ ?_
  refine (ev_fn Go.Proofs.Try.f58 6800 (by kernel_rfl) (by kernel_rfl) fun kk hkk => ?_) k1 (by omega)
  obtain ⟨k, n, ds, e, he⟩ := ev_closedOf_any L b hL
  have e := e kk (by omega)
  unfold clN
  cases hc : closedOfP L with
  | none => rw [hc] at e; exact closedOn_no_n kk b _ v _ _ _ e
  | some t =>
    rw [hc] at e
    have h2 := closedOfP_some hc
    exact closedOn_go_n kk b _ v _ _ _ _ _ _ e (ev_goneOn_n L b v t h2.1 ((closedP_iff t).1 h2.2) hL kk (by omega))
theorem ev_next_v (t : Pt) (hc : fv t 0 = []) (hg : t.good = true) (kk : Nat) (hkk : 500 ≤ kk) : ∃ x : Int, den cfg kk 59 [.dat (T t.kd t.num (t.kids.map Pt.d))] [] [] = some ([.dat (I x)], [], []) ∧ nxI (nx true t) x := by
  have hsm : small t := good_small hg
  obtain ⟨x, h1, h2⟩ := ev_nextIn true 40 t hsm.2.1 ⟨hc, (good_facts hg).2.2⟩ (by have := hsm.1; omega)
  refine ⟨x, ?_, h2⟩
  refine (ev_fn Go.Proofs.Try.f59 400 (by kernel_rfl) (by kernel_rfl) fun k2 hk2 => ?_) kk (by omega)
  have h1 := h1 k2 (by omega)
  rw [Pt.d_eq t] at h1
  exact next_v k2 _ _ _ _ h1
theorem ev_goneOn_v (L : List Nd) (b : Bool) (v : Int) (t : Pt) (ht : termOfP L = some t) (hc : fv t 0 = []) (hL : L.length ≤ 1048576) :
    EvN 5900 27 [.dat (.lst b (L.map Nd.d)), .dat (I v), .fn 59 []] [] [] ([.own 56 ((goneN (nx true) L v).1.map Nd.d), .dat (I (goneN (nx true) L v).2.1), .dat (B (goneN (nx true) L v).2.2)], [], []) := by
  refine (ev_fn Go.Proofs.Try.f27 5800 (by kernel_rfl) (by kernel_rfl) fun kk hkk => ?_).mono (by omega)
  have a1 := (ev_termOf L b hL).1 t ht kk (by omega)
  have hin := ev_isFuel v kk (by omega)
  have hgt := ((termOfP_iff L t).1 ht).1
  unfold goneN
  rw [ht]
  rw [Pt.d_eq] at a1
  simp only
  cases hk : (decide (0 ≤ v) && decide (v ≤ 1000)) with
  | false =>
    rw [hk] at hin
    rw [if_neg (fun h => by simp [h.1, h.2] at hk)]
    exact goneOn_no2_v kk b _ v _ _ _ a1 hin
  | true =>
    rw [hk] at hin
    have hk' : 0 ≤ v ∧ v ≤ 1000 := by simpa using hk
    rw [if_pos hk']
    obtain ⟨fu, rfl⟩ : ∃ fu : Nat, v = fu := ⟨v.toNat, by omega⟩
    rw [show ((fu : Int)).toNat = fu by simp]
    have hloop : ∀ k2, 5000 ≤ k2 → LoopAt cfg k2 64 Go.Proofs.Try.f64 3 (hd102v fu t.kd t.num (t.kids.map Pt.d) 0) X.ret (outI 0 (goOnP (nx true) fu t)) := fun k2 hk2 => loopOb_of fun s hs =>
      goOn_rounds_v (nx true) k2 (by omega) fu (by omega) (fun t => fv t 0 = []) (fun t hc hg => ev_next_v t hc hg k2 (by omega)) (fun t r _ _ h => nx_rx true t r h) (fun t r hc _ h _ => nx_closed true t r hc h) fu 0 t k2 s _ hc hgt (by omega) (by omega) hs ⟨rfl, rfl⟩
    cases hq : goOnP (nx true) fu t with
    | none =>
      rw [hq] at hloop
      refine goneOn_no3_v kk b _ _ _ _ 0 0 0 _ [] a1 hin ?_
      refine (ev_fn Go.Proofs.Try.f64 5000 (by kernel_rfl) (by kernel_rfl) fun k2 hk2 => ?_) kk (by omega)
      exact goOn_n_v k2 _ _ _ 0 _ false (hloop k2 hk2)
    | some q =>
      rw [hq] at hloop
      have hgq := good_small (goOnP_good hgt hq).1
      have a5 := ev_nodes q.1 (by omega) kk (by omega)
      rw [Pt.d_eq q.1] at a5
      refine goneOn_go_v kk b _ _ _ _ _ _ _ _ _ _ a1 hin ?_ a5
      refine (ev_fn Go.Proofs.Try.f64 5000 (by kernel_rfl) (by kernel_rfl) fun k2 hk2 => ?_) kk (by omega)
      have hl := hloop k2 hk2
      simp only [outI, Nat.zero_add] at hl
      exact goOn_y_v k2 _ _ _ _ _ _ _ _ true hl
theorem ev_iValue (L : List Nd) (b : Bool) (v : Int) (hL : L.length ≤ 1048576) : EvN 7000 22 [.dat (.lst b (L.map Nd.d)), .dat (I v)] [] [] ([.own 56 ((clN true L v).1.map Nd.d), .dat (I (clN true L v).2.1), .dat (B (clN true L v).2.2)], [], []) := by
  refine (ev_fn Go.Proofs.Try.f22 6900 (by kernel_rfl) (by kernel_rfl) fun k1 hk1 => ?_).mono (by omega)
  refine iRun_v k1 b _ v _ _ _ ?_
  refine (ev_fn Go.Proofs.Try.f58 6800 (by kernel_rfl) (by kernel_rfl) fun kk hkk => ?_) k1 (by omega)
  obtain ⟨k, n, ds, e, he⟩ := ev_closedOf_any L b hL
  have e := e kk (by omega)
  unfold clN
  cases hc : closedOfP L with
  | none => rw [hc] at e; exact closedOn_no_v kk b _ v _ _ _ e
  | some t =>
    rw [hc] at e
    have h2 := closedOfP_some hc
    exact closedOn_go_v kk b _ v _ _ _ _ _ _ e (ev_goneOn_v L b v t h2.1 ((closedP_iff t).1 h2.2) hL kk (by omega))
theorem own_clean3 (L : List Nd) (n : Int) (r : Bool) : D.cleans [.own 56 (L.map Nd.d), .dat (I n), .dat (B r)] = true := by
  simp only [D.cleans, D.clean, nds_clean]
  rfl
end Go.Den
namespace Go.Den
open Go
set_option linter.unusedVariables false
set_option maxRecDepth 100000
theorem fv_shift (b : Int) (hb : 0 ≤ b) : ∀ (s : Pt) (a f : Int), fv s a = [] → fv (sh b f s) (a + b) = []
  | .var n, a, f, h => by
    have hn : ¬ a ≤ n := fun hn => by simp only [fv] at h; rw [if_pos hn] at h; cases h
    simp only [sh]
    split
    · simp only [fv]; rw [if_neg (by omega)]
    · simp only [fv]; rw [if_neg (by omega)]
  | .lam n t, a, f, h => by
    have := fv_shift b hb t (a + 1) (f + 1) h
    simp only [sh, fv]
    rw [show a + b + 1 = a + 1 + b by omega]
    exact this
  | .app n x y, a, f, h => by
    rw [closed_app] at h
    simp only [sh]
    rw [closed_app]
    exact ⟨fv_shift b hb x a f h.1, fv_shift b hb y a f h.2⟩
theorem passT_closed : ∀ (t : Pt) (a : Int), 0 ≤ a → fv t a = [] → fv (passT t) a = []
  | .var n, a, ha, h => by
    have hn : ¬ a ≤ n := fun hn => by simp only [fv] at h; rw [if_pos hn] at h; cases h
    simp only [passT, fv]
    rw [if_neg (by omega), if_neg (by omega)]
    rfl
  | .lam n x, a, ha, h => by
    have ih := passT_closed x (a + 1) (by omega) h
    have h2 : fv (sh 1 0 (.lam 0 (passT x))) (a + 1) = [] := fv_shift 1 (by omega) (.lam 0 (passT x)) a 0 ih
    simp only [passT]
    show fv (.app 0 (.var 0) (sh 1 0 (.lam 0 (passT x)))) (a + 1) = []
    rw [closed_app]
    refine ⟨?_, h2⟩
    simp only [fv]
    rw [if_neg (by omega)]
  | .app n x y, a, ha, h => by
    rw [closed_app] at h
    have h1 := fv_shift 1 (by omega) (passT x) a 0 (passT_closed x a ha h.1)
    have h2 := fv_shift 2 (by omega) (passT y) a 0 (passT_closed y a ha h.2)
    simp only [passT]
    show fv (.app 0 (sh 1 0 (passT x)) (.lam 0 (.app 0 (sh 2 0 (passT y)) (.lam 0 (.app 0 (.app 0 (.var 1) (.var 0)) (.var 2)))))) (a + 1) = []
    rw [closed_app]
    refine ⟨h1, ?_⟩
    show fv (.app 0 (sh 2 0 (passT y)) (.lam 0 (.app 0 (.app 0 (.var 1) (.var 0)) (.var 2)))) (a + 1 + 1) = []
    rw [closed_app, show a + 1 + 1 = a + 2 by omega]
    refine ⟨h2, ?_⟩
    simp only [fv]
    rw [if_neg (by omega), if_neg (by omega), if_neg (by omega)]
    rfl
/-- A passed term with what is to be done then. -/
def whole (t : Pt) : Pt := .app 0 (passT t) (.lam 0 (.var 0))
theorem whole_closed {t : Pt} (h : fv t 0 = []) : fv (whole t) 0 = [] := by
  unfold whole
  rw [closed_app]
  exact ⟨passT_closed t 0 (by omega) h, rfl⟩
theorem termOfP_flat {t : Pt} (h : t.good = true) : termOfP (t.flat 0 (-1)) = some t := (termOfP_iff _ t).2 ⟨h, rfl⟩
end Go.Den
namespace Go.Den
inductive Tm where
  | var (n : Nat)
  | lam (t : Tm)
  | app (a b : Tm)
namespace Tm
def upr (r : Nat → Nat) : Nat → Nat
  | 0 => 0
  | n + 1 => r n + 1
def ren (r : Nat → Nat) : Tm → Tm
  | .var n => .var (r n)
  | .lam t => .lam (ren (upr r) t)
  | .app a b => .app (ren r a) (ren r b)
def ups (σ : Nat → Tm) : Nat → Tm
  | 0 => .var 0
  | n + 1 => ren Nat.succ (σ n)
def sb (σ : Nat → Tm) : Tm → Tm
  | .var n => σ n
  | .lam t => .lam (sb (ups σ) t)
  | .app a b => .app (sb σ a) (sb σ b)
def inst (s : Tm) : Nat → Tm
  | 0 => s
  | n + 1 => .var n
theorem upr_ext {r s : Nat → Nat} (h : ∀ n, r n = s n) : ∀ n, upr r n = upr s n
  | 0 => rfl
  | n + 1 => by simp only [upr, h n]
theorem ren_ext : ∀ (t : Tm) {r s : Nat → Nat}, (∀ n, r n = s n) → ren r t = ren s t
  | .var n, r, s, h => by simp only [ren, h n]
  | .lam t, r, s, h => by simp only [ren, ren_ext t (upr_ext h)]
  | .app a b, r, s, h => by simp only [ren, ren_ext a h, ren_ext b h]
theorem ups_ext {σ τ : Nat → Tm} (h : ∀ n, σ n = τ n) : ∀ n, ups σ n = ups τ n
  | 0 => rfl
  | n + 1 => by simp only [ups, h n]
theorem sb_ext : ∀ (t : Tm) {σ τ : Nat → Tm}, (∀ n, σ n = τ n) → sb σ t = sb τ t
  | .var n, σ, τ, h => h n
  | .lam t, σ, τ, h => by simp only [sb, sb_ext t (ups_ext h)]
  | .app a b, σ, τ, h => by simp only [sb, sb_ext a h, sb_ext b h]
theorem ren_ren : ∀ (t : Tm) (r s : Nat → Nat), ren r (ren s t) = ren (fun n => r (s n)) t
  | .var n, r, s => rfl
  | .lam t, r, s => by
    simp only [ren, ren_ren t]
    rw [ren_ext t (s := upr fun n => r (s n)) (fun n => by cases n <;> rfl)]
  | .app a b, r, s => by simp only [ren, ren_ren a, ren_ren b]
theorem sb_ren : ∀ (t : Tm) (σ : Nat → Tm) (r : Nat → Nat), sb σ (ren r t) = sb (fun n => σ (r n)) t
  | .var n, σ, r => rfl
  | .lam t, σ, r => by
    simp only [ren, sb, sb_ren t]
    rw [sb_ext t (τ := ups fun n => σ (r n)) (fun n => by cases n <;> rfl)]
  | .app a b, σ, r => by simp only [ren, sb, sb_ren a, sb_ren b]
theorem ren_sb : ∀ (t : Tm) (r : Nat → Nat) (σ : Nat → Tm), ren r (sb σ t) = sb (fun n => ren r (σ n)) t
  | .var n, r, σ => rfl
  | .lam t, r, σ => by
    simp only [ren, sb, ren_sb t]
    rw [sb_ext t (τ := ups fun n => ren r (σ n)) (fun n => by
      cases n with
      | zero => rfl
      | succ n => simp only [ups, ren_ren]; exact ren_ext _ fun _ => rfl)]
  | .app a b, r, σ => by simp only [ren, sb, ren_sb a, ren_sb b]
theorem sb_id : ∀ (t : Tm) {σ : Nat → Tm}, (∀ n, σ n = .var n) → sb σ t = t
  | .var n, σ, h => h n
  | .lam t, σ, h => by
    simp only [sb]
    rw [sb_id t (fun n => by cases n with | zero => rfl | succ n => simp only [ups, h n]; rfl)]
  | .app a b, σ, h => by simp only [sb, sb_id a h, sb_id b h]
theorem ren_as_sb : ∀ (t : Tm) (r : Nat → Nat), ren r t = sb (fun n => .var (r n)) t
  | .var n, r => rfl
  | .lam t, r => by
    simp only [ren, sb, ren_as_sb t]
    rw [sb_ext t (τ := ups fun n => .var (r n)) (fun n => by cases n <;> rfl)]
  | .app a b, r => by simp only [ren, sb, ren_as_sb a, ren_as_sb b]
end Tm
end Go.Den
namespace Go.Den
open Tm
set_option linter.unusedVariables false
def Pt.tm : Pt → Tm
  | .var n => .var n.toNat
  | .lam _ t => .lam t.tm
  | .app _ a b => .app a.tm b.tm
/-- No index is below 0. -/
def Pt.nn : Pt → Prop
  | .var n => 0 ≤ n
  | .lam _ t => t.nn
  | .app _ a b => a.nn ∧ b.nn
theorem nums_nn' : ∀ (t : Pt), t.nums = true → t.nn
  | .var n, h => by
    have h' : 0 ≤ n ∧ n ≤ 99 := by simpa [Pt.nums] using h
    exact h'.1
  | .lam n t, h => by
    have h' : n = 0 ∧ t.nums = true := by simpa [Pt.nums] using h
    exact nums_nn' t h'.2
  | .app n x y, h => by
    have h' : n = 0 ∧ x.nums = true ∧ y.nums = true := by simpa [Pt.nums] using h
    exact ⟨nums_nn' x h'.2.1, nums_nn' y h'.2.2⟩
theorem nums_nn {t : Pt} (h : t.nums = true) : t.nn := nums_nn' t h
/-- Moved up from f on. -/
def mv (b f : Nat) : Nat → Nat := fun i => if f ≤ i then i + b else i
theorem mv_up (b f : Nat) : ∀ i, upr (mv b f) i = mv b (f + 1) i
  | 0 => by simp [upr, mv]
  | i + 1 => by
    simp only [upr, mv]
    by_cases h : f ≤ i
    · rw [if_pos h, if_pos (by omega)]; omega
    · rw [if_neg h, if_neg (by omega)]
theorem tm_sh (b : Nat) : ∀ (t : Pt) (f : Nat), t.nn → (sh (b : Int) (f : Int) t).tm = ren (mv b f) t.tm ∧ (sh (b : Int) (f : Int) t).nn
  | .var n, f, h => by
    have h : 0 ≤ n := h
    simp only [sh]
    by_cases hf : (f : Int) ≤ n
    · rw [if_pos hf]
      refine ⟨?_, ?_⟩
      · simp only [Pt.tm, ren, mv]
        rw [if_pos (by omega)]
        congr 1
        omega
      · show 0 ≤ n + (b : Int)
        omega
    · rw [if_neg hf]
      refine ⟨?_, h⟩
      simp only [Pt.tm, ren, mv]
      rw [if_neg (by omega)]
  | .lam n t, f, h => by
    obtain ⟨h1, h2⟩ := tm_sh b t (f + 1) h
    simp only [sh, Pt.tm, ren]
    refine ⟨?_, h2⟩
    rw [show ((f : Int) + 1) = ((f + 1 : Nat) : Int) by omega, h1, ren_ext _ (mv_up b f)]
  | .app n x y, f, h => by
    obtain ⟨h1, h2⟩ := tm_sh b x f h.1
    obtain ⟨h3, h4⟩ := tm_sh b y f h.2
    simp only [sh, Pt.tm, ren, h1, h3]
    exact ⟨trivial, h2, h4⟩
/-- Put in for k, under u lambdas. -/
def pt (k : Nat) (s : Tm) (u : Nat) : Nat → Tm := fun i => if i = k + u then ren (mv u 0) s else if k + u < i then .var (i - 1) else .var i
theorem pt_up (k : Nat) (s : Tm) (u : Nat) : ∀ i, ups (pt k s u) i = pt k s (u + 1) i
  | 0 => by
    have h1 : ¬ 0 = k + (u + 1) := by omega
    have h2 : ¬ k + (u + 1) < 0 := by omega
    simp only [ups, pt, if_neg h1, if_neg h2]
  | i + 1 => by
    simp only [ups, pt]
    by_cases h : i = k + u
    · have h' : i + 1 = k + (u + 1) := by omega
      simp only [if_pos h, if_pos h', ren_ren]
      refine ren_ext _ fun n => ?_
      simp only [mv, Nat.zero_le, if_true]
      omega
    · have h' : ¬ i + 1 = k + (u + 1) := by omega
      simp only [if_neg h, if_neg h']
      by_cases h2 : k + u < i
      · have h3 : k + (u + 1) < i + 1 := by omega
        simp only [if_pos h2, if_pos h3, ren]
        congr 1
        omega
      · have h3 : ¬ k + (u + 1) < i + 1 := by omega
        simp only [if_neg h2, if_neg h3]
        rfl
theorem tm_sub (k : Nat) (s : Pt) (hs : s.nn) : ∀ (t : Pt) (u : Nat), t.nn → (sub (k : Int) s (u : Int) t).tm = sb (pt k s.tm u) t.tm ∧ (sub (k : Int) s (u : Int) t).nn
  | .var n, u, h => by
    have h : 0 ≤ n := h
    simp only [sub]
    by_cases h1 : n = (k : Int) + u
    · rw [if_pos h1]
      obtain ⟨a, b⟩ := tm_sh u s 0 hs
      refine ⟨?_, b⟩
      simp only [Pt.tm, sb, pt]
      rw [if_pos (by omega)]
      exact a
    · rw [if_neg h1]
      by_cases h2 : (k : Int) + u < n
      · rw [if_pos h2]
        refine ⟨?_, ?_⟩
        · simp only [Pt.tm, sb, pt]
          rw [if_neg (by omega), if_pos (by omega)]
          congr 1
          omega
        · show 0 ≤ n - 1
          omega
      · rw [if_neg h2]
        refine ⟨?_, h⟩
        simp only [Pt.tm, sb, pt]
        rw [if_neg (by omega), if_neg (by omega)]
  | .lam n t, u, h => by
    obtain ⟨h1, h2⟩ := tm_sub k s hs t (u + 1) h
    simp only [sub, Pt.tm, sb]
    refine ⟨?_, h2⟩
    rw [show ((u : Int) + 1) = ((u + 1 : Nat) : Int) by omega, h1, sb_ext _ (pt_up k s.tm u)]
  | .app n x y, u, h => by
    obtain ⟨h1, h2⟩ := tm_sub k s hs x u h.1
    obtain ⟨h3, h4⟩ := tm_sub k s hs y u h.2
    simp only [sub, Pt.tm, sb, h1, h3]
    exact ⟨trivial, h2, h4⟩
theorem pt_inst (s : Tm) : ∀ i, pt 0 s 0 i = inst s i
  | 0 => by
    simp only [pt, inst, Nat.add_zero, if_true]
    rw [ren_as_sb]
    exact sb_id _ fun n => by simp [mv]
  | i + 1 => by
    simp only [pt, inst]
    rw [if_neg (by omega), if_pos (by omega)]
    rfl
theorem tm_beta {x y : Pt} (hx : x.nn) (hy : y.nn) : (sub 0 y 0 x).tm = sb (inst y.tm) x.tm ∧ (sub 0 y 0 x).nn := by
  obtain ⟨h1, h2⟩ := tm_sub 0 y hy x 0 hx
  refine ⟨?_, h2⟩
  have h1 : (sub 0 y 0 x).tm = sb (pt 0 y.tm 0) x.tm := h1
  rw [h1, sb_ext _ (pt_inst y.tm)]
end Go.Den
namespace Go.Den
open Go
set_option linter.unusedVariables false
set_option maxRecDepth 100000
theorem ev_same (L : List Nd) (b1 b2 : Bool) (hL : L.length ≤ 1048576) : EvN 1048600 9 [.dat (.lst b1 (L.map Nd.d)), .dat (.lst b2 (L.map Nd.d))] [] [] ([.dat (B true)], [], []) := by
  refine (ev_fn Go.Proofs.Try.f9 (L.length + 5) (by kernel_rfl) (by kernel_rfl) fun kk hk => ?_).mono (by omega)
  refine same_y kk b1 b2 _ _ (by simp) ?_
  let st := fun i : Nat => h2_9 b1 b2 (L.map Nd.d) (L.map Nd.d) i
  have hlen : ((L.map Nd.d).length : Int) = L.length := by simp
  refine loopAt_range st L.length (by omega) (fun i hi m s K hs hn => ?_) (fun m s K hs hK => ?_) rfl
  · have hget : (L.map Nd.d)[((i : Nat) : Int).toNat]? = some (N3 L[i].k L[i].n L[i].u) := by
      rw [Int.toNat_natCast, List.getElem?_map, List.getElem?_eq_getElem hi]
      rfl
    refine same_go kk m b1 b2 _ _ (i : Int) _ _ _ _ _ _ hs (decide_eq_true (by omega)) ⟨⟨by omega, by omega⟩, hget⟩ ⟨⟨by omega, by omega⟩, hget⟩ (by simp) fun s' hs' => hn s' ?_
    rw [hs', w64_eq (by omega)]
    rfl
  · exact same_end kk m b1 b2 _ _ _ hs (decide_eq_false (by omega)) hK
end Go.Den
namespace Go.Den
open Go
set_option linter.unusedVariables false
set_option maxRecDepth 100000
def lamN : Nat → Pt → Pt
  | 0, t => t
  | n + 1, t => .lam 0 (lamN n t)
theorem lamN_facts (t : Pt) : ∀ n, (lamN n t).size = t.size + n ∧ (lamN n t).depth = t.depth + n
  | 0 => ⟨rfl, rfl⟩
  | n + 1 => by
    obtain ⟨h1, h2⟩ := lamN_facts t n
    simp only [lamN, Pt.size, Pt.depth, h1, h2]
    omega
abbrev cellT (t : Pt) : Option (List D) := some [.dat (I t.kd), .dat (I t.num), .dat (.lst false (t.kids.map Pt.d))]
theorem ev_wrap (kk : Nat) (hk : 300 ≤ kk) (cs : List Dat) (p e : Int) (t : Pt) (n : Nat) (hn : n ≤ 100) :
    LoopAt cfg kk 89 Go.Proofs.Try.f89 14 (hdc89w cs p e t.kd t.num (t.kids.map Pt.d) n 0) (.exit 3) (Nm [3] [.ptr (.loc 3) 0] [cellT (lamN (n + 1) t)] [Cur cs p e] []) := by
  let st := fun j : Nat => hdc89w cs p e (lamN j t).kd (lamN j t).num ((lamN j t).kids.map Pt.d) n j
  refine loopAt_range st (n + 1) (by omega) (fun j hj m s K hs hn' => ?_) (fun m s K hs hK => ?_) rfl
  · have h2 := ev_lcLam (lamN j t) kk (by omega)
    rw [Pt.d_eq (lamN j t), Pt.d_eq (Pt.lam 0 (lamN j t))] at h2
    refine wr_go kk m cs p e _ _ _ (n : Int) (j : Int) _ _ _ hs (decide_eq_true (by omega)) h2 fun s' hs' => hn' s' ?_
    rw [hs', w64_eq (by omega)]
    rfl
  · exact wr_end kk m cs p e _ _ _ (n : Int) ((n + 1 : Nat) : Int) hs (decide_eq_false (by omega)) hK
theorem bs_at {bs : List Bool} {i : Nat} (h : i < bs.length) : (bs.map B)[((i : Nat) : Int).toNat]? = some (B bs[i]) := by
  rw [Int.toNat_natCast, List.getElem?_map, List.getElem?_eq_getElem h]
  rfl
theorem cl_loop {cs : List Dat} (hb : Bs cs) (t : Pt) (bs : List Bool) (hbl : bs.length = 100) : ∀ (n : Nat) (p e : Int), n ≤ 100 → 0 ≤ p → p + 2 * n ≤ 800000 →
    ∃ (t' : Pt) (p' e' : Int), (t'.size ≤ t.size + 100 ∧ t'.depth ≤ t.depth + 100) ∧ p ≤ p' ∧ p' ≤ p + 2 * n ∧ ∀ kk, 300 ≤ kk → ∀ (m : Nat) (s : St) (K : X → St → Prop), n < m →
      s.norm ((envOf cfg kk 89 Go.Proofs.Try.f89).live (firstRegion (lp Go.Proofs.Try.f89 10))) = hdc89 cs p e t.kd t.num (t.kids.map Pt.d) (bs.map B) ((n : Int) - 1) →
      K (.exit 1) (Nm [3] [.ptr (.loc 3) 0] [cellT t'] [Cur cs p' e'] []) → Rounds (envOf cfg kk 89 Go.Proofs.Try.f89) kk (lp Go.Proofs.Try.f89 10) m s K
  | 0, p, e, h1, h2, h3 => by
    refine ⟨t, p, e, ⟨by omega, by omega⟩, by omega, by omega, fun kk hk m s K hm hs hK => ?_⟩
    obtain ⟨m, rfl⟩ : ∃ k, m = k + 1 := ⟨m - 1, by omega⟩
    exact cl_end kk m cs p e _ _ _ _ _ hs (decide_eq_false (by omega)) hK
  | n + 1, p, e, h1, h2, h3 => by
    have hi : ((n + 1 : Nat) : Int) - 1 = (n : Int) := by omega
    have hlen : ((bs.map B).length : Int) = 100 := by rw [List.length_map, hbl]; rfl
    have hat := bs_at (bs := bs) (i := n) (by omega)
    cases hv : bs[n]'(by omega) with
    | false =>
      rw [hv] at hat
      obtain ⟨t', p', e', h4, h5, h6, h7⟩ := cl_loop hb t bs hbl n p e (by omega) h2 (by omega)
      refine ⟨t', p', e', h4, h5, by omega, fun kk hk m s K hm hs hK => ?_⟩
      obtain ⟨m, rfl⟩ : ∃ k, m = k + 1 := ⟨m - 1, by omega⟩
      rw [hi] at hs
      refine cl_no kk m cs p e _ _ _ _ _ hs (decide_eq_true (by omega)) ⟨by omega, by omega⟩ hat fun s' hs' => h7 kk hk m s' K (by omega) ?_ hK
      rw [hs', w64_eq (by omega)]
      rfl
    | true =>
      rw [hv] at hat
      obtain ⟨b, p1, e1, ha, hb2, hev⟩ := ev_one hb 20 p e h2 (by omega) (by omega)
      cases b with
      | true =>
        obtain ⟨t', p', e', h4, h5, h6, h7⟩ := cl_loop hb t bs hbl n p1 e1 (by omega) (by omega) (by omega)
        refine ⟨t', p', e', h4, by omega, by omega, fun kk hk m s K hm hs hK => ?_⟩
        obtain ⟨m, rfl⟩ : ∃ k, m = k + 1 := ⟨m - 1, by omega⟩
        rw [hi] at hs
        refine cl_one kk m cs p e _ _ _ _ _ p1 e1 hs (decide_eq_true (by omega)) ⟨by omega, by omega⟩ hat (hev kk (by omega)) fun s' hs' => h7 kk hk m s' K (by omega) ?_ hK
        rw [hs', w64_eq (by omega)]
        rfl
      | false =>
        have hl := lamN_facts t (n + 1)
        refine ⟨lamN (n + 1) t, p1, e1, ⟨by omega, by omega⟩, ha, by omega, fun kk hk m s K hm hs hK => ?_⟩
        obtain ⟨m, rfl⟩ : ∃ k, m = k + 1 := ⟨m - 1, by omega⟩
        rw [hi] at hs
        exact cl_hit kk m cs p e _ _ _ _ _ p1 e1 _ _ _ hs (decide_eq_true (by omega)) ⟨by omega, by omega⟩ hat (hev kk (by omega)) (ev_wrap kk hk cs p1 e1 t n (by omega)) hK
/-- the free variables, into the row of a hundred. -/
theorem ev_free100 (t : Pt) (hd : t.depth ≤ 50) (hn : t.nums = true) : ∃ bs : List Bool, bs.length = 100 ∧ EvN 100 103 [.dat t.d, .dat (I 0), .bor (.lent 0) none] [] [some (4, (List.replicate 100 false).map B)] ([], [], [some (4, bs.map B)]) :=
  ⟨_, by rw [setB_length]; simp, (ev_lcFree 50 t 0 (List.replicate 100 false) hd hn (by omega) (by omega) (by simp)).mono (by omega)⟩
theorem cl_end_ev {cs : List Dat} (hb : Bs cs) (t : Pt) (ht : t.size ≤ 400 ∧ t.depth ≤ 50 ∧ t.nums = true) (p e : Int) (h0 : 0 ≤ p) (h1 : p ≤ 200000) : ∃ (bs : List Bool) (t' : Pt) (p' e' : Int), p ≤ p' ∧ p' ≤ p + 200 ∧ (t'.size ≤ 500 ∧ t'.depth ≤ 150) ∧ ∀ kk, 400 ≤ kk →
    den cfg kk 103 [.dat t.d, .dat (I 0), .bor (.lent 0) none] [] [some (4, (List.replicate 100 false).map B)] = some ([], [], [some (4, bs.map B)]) ∧
    LoopAt cfg kk 89 Go.Proofs.Try.f89 10 (hdc89 cs p e t.kd t.num (t.kids.map Pt.d) (bs.map B) (w64 (((bs.map B).length : Int) - 1))) (.exit 1) (Nm [3] [.ptr (.loc 3) 0] [cellT t'] [Cur cs p' e'] []) ∧
    den cfg kk 40 [.own 56 [], .dat t'.d, .dat (I (-1))] [] [] = some ([.own 56 ((flatS t' [] (-1)).map Nd.d)], [], []) := by
  obtain ⟨bs, hbl, hfr⟩ := ev_free100 t ht.2.1 ht.2.2
  obtain ⟨t', p', e', h4, h5, h6, h7⟩ := cl_loop hb t bs hbl 100 p e (by omega) h0 (by omega)
  refine ⟨bs, t', p', e', h5, by omega, ⟨by omega, by omega⟩, fun kk hk => ⟨hfr kk (by omega), ?_, ev_lcFlat 200 t' [] (-1) (by omega) (by simp) (by omega) kk (by omega)⟩⟩
  have hw : w64 (((bs.map B).length : Int) - 1) = ((100 : Nat) : Int) - 1 := by rw [List.length_map, hbl]; exact w64_eq (by omega)
  rw [hw]
  exact loopOb_of fun s hs => h7 kk (by omega) kk s _ (by omega) hs ⟨rfl, rfl⟩
theorem flat_len {t : Pt} (ht : t.size ≤ 900) : (flatS t [] (-1)).length ≤ 900 := by
  have h2 := (flatS_facts t [] (-1) (by simp)).2
  simp at h2
  omega
theorem ev_closed {cs : List Dat} (hb : Bs cs) (p e : Int) (h0 : 0 ≤ p) (h1 : p ≤ 100000) : ∃ (L : List Nd) (p' e' : Int), L.length ≤ 1000 ∧ p ≤ p' ∧ p' ≤ p + 1000 ∧
    EvN 500 89 [cp] [Cur cs p e] [] ([.own 56 (L.map Nd.d)], [Cur cs p' e'], []) := by
  obtain ⟨z, p1, e1, ha1, ha2, hz0, hz1, hz⟩ := ev_pick hb 5 p e h0 (by omega) (by omega)
  have hpw : pw z.toNat ≤ 16 := by
    have : z = 0 ∨ z = 1 ∨ z = 2 ∨ z = 3 ∨ z = 4 := by omega
    rcases this with rfl | rfl | rfl | rfl | rfl <;> decide
  obtain ⟨t1, p2, e2, ht1, hb1, hb2, hev1⟩ := ev_term hb z.toNat 1 p1 e1 (by omega) (by omega) (by omega) (by omega)
  rw [show ((z.toNat : Nat) : Int) = z by omega] at hev1
  have hs1 := ht1.sz
  have hd1 := ht1.dp
  obtain ⟨w, p3, e3, hc1, hc2, hw0, hw1, hw⟩ := ev_pick hb 4 p2 e2 (by omega) (by omega) (by omega)
  have hlam : ∀ t : Pt, (Pt.lam 0 t).d = T 2 0 [t.d] := fun t => rfl
  by_cases q0 : w = 0
  · obtain ⟨t3, p4, e4, ht3, hk1, hk2, hev3⟩ := ev_known hb p3 e3 (by omega) (by omega)
    obtain ⟨bs, t', p5, e5, h4, h5, h6, h7⟩ := cl_end_ev hb t3 ⟨by omega, by omega, ht3.2.2⟩ p4 e4 (by omega) (by omega)
    refine ⟨flatS t' [] (-1), p5, e5, by have := flat_len (t := t') (by omega); omega, by omega, by omega, ev_fn Go.Proofs.Try.f89 499 (by kernel_rfl) (by kernel_rfl) fun kk hk => ?_⟩
    obtain ⟨g1, g2, g3⟩ := h7 kk (by omega)
    have x1 := hev1 kk (by omega)
    have x2 := ev_lcLam t1 kk (by omega)
    have x3 := hev3 kk (by omega)
    rw [hlam] at x2
    rw [Pt.d_eq] at x1 x2 x3 g1 g3
    exact closed_a kk cs p e p1 e1 p2 e2 p3 e3 p4 e4 0 0 p5 e5 z w _ _ _ _ _ _ _ _ _ _ _ 0 0 [] 0 0 [] _ _ _ (hz kk (by omega)) x1 x2 (hw kk (by omega)) (decide_eq_true q0) x3 g1 g2 g3
  by_cases q1 : w = 1
  · obtain ⟨t3, p4, e4, ht3, hk1, hk2, hev3⟩ := ev_known hb p3 e3 (by omega) (by omega)
    obtain ⟨t4, p5, e5, ht4, hk3, hk4, hev4⟩ := ev_known hb p4 e4 (by omega) (by omega)
    obtain ⟨bs, t', p6, e6, h4, h5, h6, h7⟩ := cl_end_ev hb (Pt.app 0 t3 t4) ⟨by simp only [Pt.size]; omega, by simp only [Pt.depth]; omega, by simp [Pt.nums, ht3.2.2, ht4.2.2]⟩ p5 e5 (by omega) (by omega)
    refine ⟨flatS t' [] (-1), p6, e6, by have := flat_len (t := t') (by omega); omega, by omega, by omega, ev_fn Go.Proofs.Try.f89 499 (by kernel_rfl) (by kernel_rfl) fun kk hk => ?_⟩
    obtain ⟨g1, g2, g3⟩ := h7 kk (by omega)
    have x1 := hev1 kk (by omega)
    have x2 := ev_lcLam t1 kk (by omega)
    have x3 := hev3 kk (by omega)
    have x4 := hev4 kk (by omega)
    have x5 := ev_lcApp t3 t4 kk (by omega)
    rw [hlam] at x2
    rw [Pt.d_eq (Pt.app 0 t3 t4)] at g1 x5
    rw [Pt.d_eq t1] at x1 x2
    rw [Pt.d_eq t3] at x3 x5
    rw [Pt.d_eq t4] at x4 x5
    rw [Pt.d_eq] at g3
    exact closed_b kk cs p e p1 e1 p2 e2 p3 e3 p4 e4 p5 e5 p6 e6 z w _ _ _ _ _ _ _ _ _ _ _ _ _ _ _ _ _ _ _ _ (hz kk (by omega)) x1 x2 (hw kk (by omega)) (decide_eq_false q0) (decide_eq_true q1) x3 x4 x5 g1 g2 g3
  · obtain ⟨bs, t', p5, e5, h4, h5, h6, h7⟩ := cl_end_ev hb (Pt.lam 0 t1) ⟨by simp only [Pt.size]; omega, by simp only [Pt.depth]; omega, by simp [Pt.nums, ht1.nm]⟩ p3 e3 (by omega) (by omega)
    refine ⟨flatS t' [] (-1), p5, e5, by have := flat_len (t := t') (by omega); omega, by omega, by omega, ev_fn Go.Proofs.Try.f89 499 (by kernel_rfl) (by kernel_rfl) fun kk hk => ?_⟩
    obtain ⟨g1, g2, g3⟩ := h7 kk (by omega)
    have x1 := hev1 kk (by omega)
    have x2 := ev_lcLam t1 kk (by omega)
    rw [Pt.d_eq (Pt.lam 0 t1)] at g1 x2
    rw [Pt.d_eq t1] at x1 x2
    rw [Pt.d_eq] at g3
    exact closed_c kk cs p e p1 e1 p2 e2 p3 e3 0 0 0 0 p5 e5 z w _ _ _ _ _ _ _ _ 0 0 [] 0 0 [] 0 0 [] _ _ _ (hz kk (by omega)) x1 x2 (hw kk (by omega)) (decide_eq_false q0) (decide_eq_false q1) g1 g2 g3
end Go.Den
namespace Go.Den
open Go
set_option linter.unusedVariables false
set_option maxRecDepth 100000
theorem bs_cases (bs : List Bool) : (∃ j, j < bs.length ∧ bs[j]? = some true ∧ ∀ i, i < j → bs[i]? = some false) ∨ ∀ i, i < bs.length → bs[i]? = some false := by
  cases h : bs.all (fun b => !b) with
  | false =>
    obtain ⟨j, x, h1, h2, h3⟩ := first_bad (fun b => !b) h
    have hx : x = true := by simpa using h2
    have hj : j < bs.length := by
      cases hh : decide (j < bs.length) with
      | true => exact of_decide_eq_true hh
      | false => rw [List.getElem?_eq_none (by have := of_decide_eq_false hh; omega)] at h1; cases h1
    refine .inl ⟨j, hj, by rw [h1, hx], fun i hi => ?_⟩
    have hg := List.getElem?_eq_getElem (l := bs) (i := i) (by omega)
    have := h3 i _ hi hg
    have h4 : bs[i] = false := by simpa using this
    rw [hg, h4]
  | true =>
    refine .inr fun i hi => ?_
    have hg := List.getElem?_eq_getElem (l := bs) (i := i) hi
    rw [List.all_eq_true] at h
    have h4 : bs[i] = false := by simpa using h _ (List.getElem_mem hi)
    rw [hg, h4]
def selfT : Pt := .app 0 (.lam 0 (.app 0 (.var 0) (.var 0))) (.lam 0 (.var 0))
theorem bs_get {bs : List Bool} {i : Nat} {v : Bool} (h : bs[i]? = some v) : (bs.map B)[((i : Nat) : Int).toNat]? = some (B v) := by
  rw [Int.toNat_natCast, List.getElem?_map, h]
  rfl
theorem sm_end_ev {cs : List Dat} (t : Pt) (ht : t.size ≤ 400 ∧ t.depth ≤ 50 ∧ t.nums = true) (p e : Int) : ∃ (bs : List Bool) (L : List Nd), L.length ≤ 900 ∧ (∀ kk, 400 ≤ kk →
    den cfg kk 103 [.dat t.d, .dat (I 0), .bor (.lent 0) none] [] [some (4, (List.replicate 100 false).map B)] = some ([], [], [some (4, bs.map B)])) ∧ ((∀ kk, 400 ≤ kk →
    LoopAt cfg kk 90 Go.Proofs.Try.f90 10 (hdc90 cs p e t.kd t.num (t.kids.map Pt.d) (bs.map B) 0) .ret (Nm [2, 3] [.own 56 (L.map Nd.d), .ptr (.loc 3) 0] [none, cellT t] [Cur cs p e] [])) ∨ (∀ kk, 400 ≤ kk →
    LoopAt cfg kk 90 Go.Proofs.Try.f90 10 (hdc90 cs p e t.kd t.num (t.kids.map Pt.d) (bs.map B) 0) (.exit 1) (Nm [2, 3] [.junk, .ptr (.loc 3) 0] [none, cellT t] [Cur cs p e] []) ∧
    den cfg kk 40 [.own 56 [], .dat t.d, .dat (I (-1))] [] [] = some ([.own 56 (L.map Nd.d)], [], []))) := by
  obtain ⟨bs, hbl, hfr⟩ := ev_free100 t ht.2.1 ht.2.2
  have hlen : ((bs.map B).length : Int) = 100 := by rw [List.length_map, hbl]; rfl
  let st := fun i : Nat => hdc90 cs p e t.kd t.num (t.kids.map Pt.d) (bs.map B) i
  have hgo : ∀ kk, ∀ i, i < 100 → bs[i]? = some false → ∀ (m : Nat) (s : St) (K : X → St → Prop), s.norm ((envOf cfg kk 90 Go.Proofs.Try.f90).live (firstRegion (lp Go.Proofs.Try.f90 10))) = st i →
      (∀ s : St, s.norm ((envOf cfg kk 90 Go.Proofs.Try.f90).live (firstRegion (lp Go.Proofs.Try.f90 10))) = st (i + 1) → Rounds (envOf cfg kk 90 Go.Proofs.Try.f90) kk (lp Go.Proofs.Try.f90 10) m s K) → Rounds (envOf cfg kk 90 Go.Proofs.Try.f90) kk (lp Go.Proofs.Try.f90 10) (m + 1) s K := fun kk i hi hv m s K hs hn => by
    refine sm_no kk m cs p e _ _ _ _ (i : Int) hs (decide_eq_true (by omega)) ⟨by omega, by omega⟩ (bs_get hv) fun s' hs' => hn s' ?_
    rw [hs', w64_eq (by omega)]
    rfl
  rcases bs_cases bs with ⟨j, hj, h1, h2⟩ | h1
  · refine ⟨bs, flatS selfT [] (-1), flat_len (by decide), fun kk hk => hfr kk (by omega), .inl fun kk hk => ?_⟩
    refine loopAt_range st j (by omega) (fun i hi m s K hs hn => hgo kk i (by omega) (h2 i hi) m s K hs hn) (fun m s K hs hK => ?_) rfl
    have y1 := ev_lcVar 0 kk (by omega)
    have y2 := ev_lcApp (.var 0) (.var 0) kk (by omega)
    have y3 := ev_lcLam (.app 0 (.var 0) (.var 0)) kk (by omega)
    have y4 := ev_lcLam (.var 0) kk (by omega)
    have y5 := ev_lcApp (.lam 0 (.app 0 (.var 0) (.var 0))) (.lam 0 (.var 0)) kk (by omega)
    have y6 := ev_lcFlat 100 selfT [] (-1) (by decide) (by simp) (by decide) kk (by omega)
    exact sm_hit kk m cs p e _ _ _ _ (j : Int) _ _ _ _ _ _ _ _ _ _ _ _ _ _ _ _ _ _ _ _ _ _ hs (decide_eq_true (by omega)) ⟨by omega, by omega⟩ (bs_get h1) y1 y1 y2 y3 y1 y4 y5 y6 hK
  · refine ⟨bs, flatS t [] (-1), flat_len (by omega), fun kk hk => hfr kk (by omega), .inr fun kk hk => ⟨?_, ev_lcFlat 200 t [] (-1) (by omega) (by simp) (by omega) kk (by omega)⟩⟩
    refine loopAt_range st 100 (by omega) (fun i hi m s K hs hn => hgo kk i (by omega) (h1 i (by omega)) m s K hs hn) (fun m s K hs hK => ?_) rfl
    exact sm_end kk m cs p e _ _ _ _ _ hs (decide_eq_false (by omega)) hK
theorem ev_small {cs : List Dat} (hb : Bs cs) (p e : Int) (h0 : 0 ≤ p) (h1 : p ≤ 100000) : ∃ (L : List Nd) (p' e' : Int), L.length ≤ 1000 ∧ p ≤ p' ∧ p' ≤ p + 1000 ∧
    EvN 500 90 [cp] [Cur cs p e] [] ([.own 56 (L.map Nd.d)], [Cur cs p' e'], []) := by
  obtain ⟨z, p1, e1, ha1, ha2, hz0, hz1, hz⟩ := ev_pick hb 3 p e h0 (by omega) (by omega)
  have hpw : pw z.toNat ≤ 16 := by
    have : z = 0 ∨ z = 1 ∨ z = 2 := by omega
    rcases this with rfl | rfl | rfl <;> decide
  obtain ⟨t1, p2, e2, ht1, hb1, hb2, hev1⟩ := ev_term hb z.toNat 1 p1 e1 (by omega) (by omega) (by omega) (by omega)
  rw [show ((z.toNat : Nat) : Int) = z by omega] at hev1
  obtain ⟨w, p3, e3, hc1, hc2, hw0, hw1, hw⟩ := ev_pick hb 2 p2 e2 (by omega) (by omega) (by omega)
  have hpw2 : pw w.toNat ≤ 16 := by
    have : w = 0 ∨ w = 1 := by omega
    rcases this with rfl | rfl <;> decide
  obtain ⟨t3, p4, e4, ht3, hb3, hb4, hev3⟩ := ev_term hb w.toNat 1 p3 e3 (by omega) (by omega) (by omega) (by omega)
  rw [show ((w.toNat : Nat) : Int) = w by omega] at hev3
  obtain ⟨q, p5, e5, hd1, hd2, hq0, hq1, hq⟩ := ev_pick hb 4 p4 e4 (by omega) (by omega) (by omega)
  have hs1 := ht1.sz
  have hp1 := ht1.dp
  have hs3 := ht3.sz
  have hp3 := ht3.dp
  have hlam : ∀ t : Pt, (Pt.lam 0 t).d = T 2 0 [t.d] := fun t => rfl
  have hx : ∀ kk, 499 ≤ kk → den cfg kk 41 [cp, .dat (I 1), .dat (I z)] [Cur cs p1 e1] [] = some ([.dat (T t1.kd t1.num (t1.kids.map Pt.d))], [Cur cs p2 e2], []) ∧
      den cfg kk 78 [.dat (T t1.kd t1.num (t1.kids.map Pt.d))] [] [] = some ([.dat (T 2 0 [T t1.kd t1.num (t1.kids.map Pt.d)])], [], []) ∧
      den cfg kk 41 [cp, .dat (I 1), .dat (I w)] [Cur cs p3 e3] [] = some ([.dat (T t3.kd t3.num (t3.kids.map Pt.d))], [Cur cs p4 e4], []) ∧
      den cfg kk 78 [.dat (T t3.kd t3.num (t3.kids.map Pt.d))] [] [] = some ([.dat (T 2 0 [T t3.kd t3.num (t3.kids.map Pt.d)])], [], []) ∧
      den cfg kk 61 [.dat (T 2 0 [T t1.kd t1.num (t1.kids.map Pt.d)]), .dat (T 2 0 [T t3.kd t3.num (t3.kids.map Pt.d)])] [] [] = some ([.dat (T 3 0 [T 2 0 [T t1.kd t1.num (t1.kids.map Pt.d)], T 2 0 [T t3.kd t3.num (t3.kids.map Pt.d)]])], [], []) := fun kk hk => by
    have x1 := hev1 kk (by omega)
    have x2 := ev_lcLam t1 kk (by omega)
    have x3 := hev3 kk (by omega)
    have x4 := ev_lcLam t3 kk (by omega)
    have x5 := ev_lcApp (.lam 0 t1) (.lam 0 t3) kk (by omega)
    rw [show (Pt.app 0 (.lam 0 t1) (.lam 0 t3)).d = T 3 0 [(Pt.lam 0 t1).d, (Pt.lam 0 t3).d] from rfl] at x5
    rw [hlam] at x2 x4 x5
    rw [hlam] at x5
    rw [Pt.d_eq t1] at x1 x2 x5
    rw [Pt.d_eq t3] at x3 x4 x5
    exact ⟨x1, x2, x3, x4, x5⟩
  by_cases q0 : q = 0
  · obtain ⟨t6, p6, e6, ht6, hk1, hk2, hev6⟩ := ev_known hb p5 e5 (by omega) (by omega)
    obtain ⟨bs, L, hL, hfr, hc⟩ := sm_end_ev (cs := cs) (t6) ⟨by omega, by omega, by exact ht6.2.2⟩ p6 e6
    rcases hc with hc | hc
    · refine ⟨L, p6, e6, by omega, by omega, by omega, ev_fn Go.Proofs.Try.f90 499 (by kernel_rfl) (by kernel_rfl) fun kk hk => ?_⟩
      obtain ⟨x1, x2, x3, x4, x5⟩ := hx kk (by omega)
      have g1 := hfr kk (by omega)
      have g2 := hc kk (by omega)
      have x6 := hev6 kk (by omega)
      rw [Pt.d_eq t6] at x6 g1
      try rw [Pt.d_eq t6] at g3
      exact small_a1 kk cs p e p1 e1 p2 e2 p3 e3 p4 e4 p5 e5 p6 e6 z w q _ _ _ _ _ _ _ _ _ _ _ _ _ _ _ _ _ _ _ _ 0 0 [] 0 0 [] 0 0 [] (hz kk (by omega)) x1 x2 (hw kk (by omega)) x3 x4 x5 (hq kk (by omega)) (decide_eq_true q0) x6 g1 g2
    · refine ⟨L, p6, e6, by omega, by omega, by omega, ev_fn Go.Proofs.Try.f90 499 (by kernel_rfl) (by kernel_rfl) fun kk hk => ?_⟩
      obtain ⟨x1, x2, x3, x4, x5⟩ := hx kk (by omega)
      have g1 := hfr kk (by omega)
      have g2 := (hc kk (by omega)).1
      have g3 := (hc kk (by omega)).2
      have x6 := hev6 kk (by omega)
      rw [Pt.d_eq t6] at x6 g1
      try rw [Pt.d_eq t6] at g3
      exact small_a0 kk cs p e p1 e1 p2 e2 p3 e3 p4 e4 p5 e5 p6 e6 z w q _ _ _ _ _ _ _ _ _ _ _ _ _ _ _ _ _ _ _ _ 0 0 [] 0 0 [] 0 0 [] (hz kk (by omega)) x1 x2 (hw kk (by omega)) x3 x4 x5 (hq kk (by omega)) (decide_eq_true q0) x6 g1 g2 g3
  by_cases q1 : q = 1
  · obtain ⟨t6, p6, e6, ht6, hk1, hk2, hev6⟩ := ev_known hb p5 e5 (by omega) (by omega)
    obtain ⟨bs, L, hL, hfr, hc⟩ := sm_end_ev (cs := cs) (Pt.app 0 t6 (.lam 0 (.var 0))) ⟨by simp only [Pt.size]; omega, by simp only [Pt.depth]; omega, by simp [Pt.nums, ht6.2.2]⟩ p6 e6
    rcases hc with hc | hc
    · refine ⟨L, p6, e6, by omega, by omega, by omega, ev_fn Go.Proofs.Try.f90 499 (by kernel_rfl) (by kernel_rfl) fun kk hk => ?_⟩
      obtain ⟨x1, x2, x3, x4, x5⟩ := hx kk (by omega)
      have g1 := hfr kk (by omega)
      have g2 := hc kk (by omega)
      have x6 := hev6 kk (by omega)
      have x7 := ev_lcVar 0 kk (by omega)
      have x8 := ev_lcLam (.var 0) kk (by omega)
      have x9 := ev_lcApp t6 (.lam 0 (.var 0)) kk (by omega)
      rw [show (Pt.app 0 t6 (.lam 0 (.var 0))).d = T 3 0 [t6.d, T 2 0 [T 1 0 []]] from rfl] at x9 g1
      try rw [show (Pt.app 0 t6 (.lam 0 (.var 0))).d = T 3 0 [t6.d, T 2 0 [T 1 0 []]] from rfl] at g3
      rw [Pt.d_eq t6] at x6 x9 g1
      try rw [Pt.d_eq t6] at g3
      rw [show cellT (Pt.app 0 t6 (.lam 0 (.var 0))) = some [.dat (I 3), .dat (I 0), .dat (.lst false [t6.d, T 2 0 [T 1 0 []]])] from rfl, Pt.d_eq t6] at g2
      rw [show (Pt.app 0 t6 (.lam 0 (.var 0))).kids.map Pt.d = [t6.d, T 2 0 [T 1 0 []]] from rfl, Pt.d_eq t6] at g2
      exact small_b1 kk cs p e p1 e1 p2 e2 p3 e3 p4 e4 p5 e5 p6 e6 z w q _ _ _ _ _ _ _ _ _ _ _ _ _ _ _ _ _ _ _ _ _ _ _ _ _ _ _ _ _ (hz kk (by omega)) x1 x2 (hw kk (by omega)) x3 x4 x5 (hq kk (by omega)) (decide_eq_false q0) (decide_eq_true q1) x6 x7 x8 x9 g1 g2
    · refine ⟨L, p6, e6, by omega, by omega, by omega, ev_fn Go.Proofs.Try.f90 499 (by kernel_rfl) (by kernel_rfl) fun kk hk => ?_⟩
      obtain ⟨x1, x2, x3, x4, x5⟩ := hx kk (by omega)
      have g1 := hfr kk (by omega)
      have g2 := (hc kk (by omega)).1
      have g3 := (hc kk (by omega)).2
      have x6 := hev6 kk (by omega)
      have x7 := ev_lcVar 0 kk (by omega)
      have x8 := ev_lcLam (.var 0) kk (by omega)
      have x9 := ev_lcApp t6 (.lam 0 (.var 0)) kk (by omega)
      rw [show (Pt.app 0 t6 (.lam 0 (.var 0))).d = T 3 0 [t6.d, T 2 0 [T 1 0 []]] from rfl] at x9 g1
      try rw [show (Pt.app 0 t6 (.lam 0 (.var 0))).d = T 3 0 [t6.d, T 2 0 [T 1 0 []]] from rfl] at g3
      rw [Pt.d_eq t6] at x6 x9 g1
      try rw [Pt.d_eq t6] at g3
      rw [show cellT (Pt.app 0 t6 (.lam 0 (.var 0))) = some [.dat (I 3), .dat (I 0), .dat (.lst false [t6.d, T 2 0 [T 1 0 []]])] from rfl, Pt.d_eq t6] at g2
      rw [show (Pt.app 0 t6 (.lam 0 (.var 0))).kids.map Pt.d = [t6.d, T 2 0 [T 1 0 []]] from rfl, Pt.d_eq t6] at g2
      exact small_b0 kk cs p e p1 e1 p2 e2 p3 e3 p4 e4 p5 e5 p6 e6 z w q _ _ _ _ _ _ _ _ _ _ _ _ _ _ _ _ _ _ _ _ _ _ _ _ _ _ _ _ _ (hz kk (by omega)) x1 x2 (hw kk (by omega)) x3 x4 x5 (hq kk (by omega)) (decide_eq_false q0) (decide_eq_true q1) x6 x7 x8 x9 g1 g2 g3
  · skip
    obtain ⟨bs, L, hL, hfr, hc⟩ := sm_end_ev (cs := cs) (Pt.app 0 (.lam 0 t1) (.lam 0 t3)) ⟨by simp only [Pt.size]; omega, by simp only [Pt.depth]; omega, by simp [Pt.nums, ht1.nm, ht3.nm]⟩ p5 e5
    rcases hc with hc | hc
    · refine ⟨L, p5, e5, by omega, by omega, by omega, ev_fn Go.Proofs.Try.f90 499 (by kernel_rfl) (by kernel_rfl) fun kk hk => ?_⟩
      obtain ⟨x1, x2, x3, x4, x5⟩ := hx kk (by omega)
      have g1 := hfr kk (by omega)
      have g2 := hc kk (by omega)
      rw [show (Pt.app 0 (.lam 0 t1) (.lam 0 t3)).d = T 3 0 [T 2 0 [t1.d], T 2 0 [t3.d]] from rfl, Pt.d_eq t1, Pt.d_eq t3] at g1
      try rw [show (Pt.app 0 (.lam 0 t1) (.lam 0 t3)).d = T 3 0 [T 2 0 [t1.d], T 2 0 [t3.d]] from rfl, Pt.d_eq t1, Pt.d_eq t3] at g3
      rw [show cellT (Pt.app 0 (.lam 0 t1) (.lam 0 t3)) = some [.dat (I 3), .dat (I 0), .dat (.lst false [T 2 0 [t1.d], T 2 0 [t3.d]])] from rfl, show (Pt.app 0 (.lam 0 t1) (.lam 0 t3)).kids.map Pt.d = [T 2 0 [t1.d], T 2 0 [t3.d]] from rfl, Pt.d_eq t1, Pt.d_eq t3] at g2
      exact small_c1 kk cs p e p1 e1 p2 e2 p3 e3 p4 e4 p5 e5 0 0 z w q _ _ _ _ _ _ _ _ _ _ _ _ _ _ _ _ _ 0 0 [] 0 0 [] 0 0 [] 0 0 [] (hz kk (by omega)) x1 x2 (hw kk (by omega)) x3 x4 x5 (hq kk (by omega)) (decide_eq_false q0) (decide_eq_false q1) g1 g2
    · refine ⟨L, p5, e5, by omega, by omega, by omega, ev_fn Go.Proofs.Try.f90 499 (by kernel_rfl) (by kernel_rfl) fun kk hk => ?_⟩
      obtain ⟨x1, x2, x3, x4, x5⟩ := hx kk (by omega)
      have g1 := hfr kk (by omega)
      have g2 := (hc kk (by omega)).1
      have g3 := (hc kk (by omega)).2
      rw [show (Pt.app 0 (.lam 0 t1) (.lam 0 t3)).d = T 3 0 [T 2 0 [t1.d], T 2 0 [t3.d]] from rfl, Pt.d_eq t1, Pt.d_eq t3] at g1
      try rw [show (Pt.app 0 (.lam 0 t1) (.lam 0 t3)).d = T 3 0 [T 2 0 [t1.d], T 2 0 [t3.d]] from rfl, Pt.d_eq t1, Pt.d_eq t3] at g3
      rw [show cellT (Pt.app 0 (.lam 0 t1) (.lam 0 t3)) = some [.dat (I 3), .dat (I 0), .dat (.lst false [T 2 0 [t1.d], T 2 0 [t3.d]])] from rfl, show (Pt.app 0 (.lam 0 t1) (.lam 0 t3)).kids.map Pt.d = [T 2 0 [t1.d], T 2 0 [t3.d]] from rfl, Pt.d_eq t1, Pt.d_eq t3] at g2
      exact small_c0 kk cs p e p1 e1 p2 e2 p3 e3 p4 e4 p5 e5 0 0 z w q _ _ _ _ _ _ _ _ _ _ _ _ _ _ _ _ _ 0 0 [] 0 0 [] 0 0 [] 0 0 [] (hz kk (by omega)) x1 x2 (hw kk (by omega)) x3 x4 x5 (hq kk (by omega)) (decide_eq_false q0) (decide_eq_false q1) g1 g2 g3
theorem ev_drawV {cs : List Dat} (hb : Bs cs) : ∃ (L : List Nd) (n : Int), L.length ≤ 1000 ∧ -1 ≤ n ∧ n ≤ 1001 ∧ EvN 501 50 [.dat (.lst false cs)] [] [] ([.own 56 (L.map Nd.d), .dat (I n)], [], []) := by
  obtain ⟨b, p1, e1, ha1, ha2, hev⟩ := ev_one hb 8 0 0 (by omega) (by omega) (by omega)
  cases b
  · obtain ⟨b2, p3, e3, hb1, hb2, hev2⟩ := ev_one hb 4 p1 e1 (by omega) (by omega) (by omega)
    cases b2
    · obtain ⟨L, p4, e4, hL, hc1, hc2, hev3⟩ := ev_small hb p3 e3 (by omega) (by omega)
      exact ⟨L, 40, hL, by omega, by omega, ev_fn Go.Proofs.Try.f50 500 (by kernel_rfl) (by kernel_rfl) fun kk hk => drawV_00 kk cs p1 e1 0 0 p3 e3 p4 e4 0 _ (hev kk (by omega)) (hev2 kk (by omega)) (hev3 kk (by omega))⟩
    · obtain ⟨L, p4, e4, hL, hc1, hc2, hev3⟩ := ev_closed hb p3 e3 (by omega) (by omega)
      exact ⟨L, 40, hL, by omega, by omega, ev_fn Go.Proofs.Try.f50 500 (by kernel_rfl) (by kernel_rfl) fun kk hk => drawV_01 kk cs p1 e1 0 0 p3 e3 p4 e4 0 _ (hev kk (by omega)) (hev2 kk (by omega)) (hev3 kk (by omega))⟩
  · obtain ⟨v, p2, e2, hv, hd1, hd2, hevv⟩ := ev_among hb true [-1, 0, 1, 2, 1000, 1001] p1 e1 (by omega) (by omega) (by decide)
    have hv2 : -1 ≤ v ∧ v ≤ 1001 := by simp at hv; omega
    obtain ⟨b2, p3, e3, hb1, hb2, hev2⟩ := ev_one hb 4 p2 e2 (by omega) (by omega) (by omega)
    cases b2
    · obtain ⟨L, p4, e4, hL, hc1, hc2, hev3⟩ := ev_small hb p3 e3 (by omega) (by omega)
      exact ⟨L, v, hL, hv2.1, hv2.2, ev_fn Go.Proofs.Try.f50 500 (by kernel_rfl) (by kernel_rfl) fun kk hk => drawV_10 kk cs p1 e1 p2 e2 p3 e3 p4 e4 v _ (hev kk (by omega)) (hevv kk (by omega)) (by rw [hb.box p2 e2]; rfl) (hev2 kk (by omega)) (hev3 kk (by omega))⟩
    · obtain ⟨L, p4, e4, hL, hc1, hc2, hev3⟩ := ev_closed hb p3 e3 (by omega) (by omega)
      exact ⟨L, v, hL, hv2.1, hv2.2, ev_fn Go.Proofs.Try.f50 500 (by kernel_rfl) (by kernel_rfl) fun kk hk => drawV_11 kk cs p1 e1 p2 e2 p3 e3 p4 e4 v _ (hev kk (by omega)) (hevv kk (by omega)) (by rw [hb.box p2 e2]; rfl) (hev2 kk (by omega)) (hev3 kk (by omega))⟩
theorem ev_drawP {cs : List Dat} (hb : Bs cs) : ∃ (L : List Nd), L.length ≤ 1000 ∧ EvN 502 17 [.dat (.lst false cs)] [] [] ([.own 56 (L.map Nd.d)], [], []) := by
  obtain ⟨L, n, hL, _, _, hev⟩ := ev_drawV hb
  exact ⟨L, hL, ev_fn Go.Proofs.Try.f17 501 (by kernel_rfl) (by kernel_rfl) fun kk hk => drawP kk cs n _ (hev kk (by omega))⟩
end Go.Den
set_option linter.unusedVariables false
namespace Go.Den
namespace Tm
def cps : Tm → Tm
  | .var n => .lam (.app (.var 0) (.var (n + 1)))
  | .lam t => .lam (.app (.var 0) (ren Nat.succ (.lam (cps t))))
  | .app a b => .lam (.app (ren Nat.succ (cps a)) (.lam (.app (ren (fun i => i + 2) (cps b)) (.lam (.app (.app (.var 1) (.var 0)) (.var 2))))))
def psi : Tm → Tm
  | .lam t => .lam (cps t)
  | .var n => .var n
  | .app a b => .app a b
def val : Tm → Prop
  | .app _ _ => False
  | _ => True
theorem ren_up (r : Nat → Nat) (t : Tm) : ren (upr r) (ren Nat.succ t) = ren Nat.succ (ren r t) := by rw [ren_ren, ren_ren]; rfl
theorem ren_up2 (r : Nat → Nat) (t : Tm) : ren (upr (upr r)) (ren (fun i => i + 2) t) = ren (fun i => i + 2) (ren r t) := by rw [ren_ren, ren_ren]; rfl
theorem sb_up (σ : Nat → Tm) (t : Tm) : sb (ups σ) (ren Nat.succ t) = ren Nat.succ (sb σ t) := by rw [sb_ren, ren_sb]; rfl
theorem sb_up2 (σ : Nat → Tm) (t : Tm) : sb (ups (ups σ)) (ren (fun i => i + 2) t) = ren (fun i => i + 2) (sb σ t) := by
  rw [sb_ren, ren_sb]
  refine sb_ext _ fun n => ?_
  show ren Nat.succ (ren Nat.succ (σ n)) = _
  rw [ren_ren]
theorem cps_ren : ∀ (t : Tm) (r : Nat → Nat), ren r (cps t) = cps (ren r t)
  | .var n, r => rfl
  | .lam t, r => by
    show Tm.lam (.app (.var 0) (ren (upr r) (ren Nat.succ (.lam (cps t))))) = .lam (.app (.var 0) (ren Nat.succ (.lam (cps (ren (upr r) t)))))
    rw [ren_up, ← cps_ren t (upr r)]
    rfl
  | .app a b, r => by
    show Tm.lam (.app (ren (upr r) (ren Nat.succ (cps a))) (.lam (.app (ren (upr (upr r)) (ren (fun i => i + 2) (cps b))) _))) = _
    rw [ren_up, ren_up2, cps_ren a, cps_ren b]
    rfl
theorem psi_ren (t : Tm) (r : Nat → Nat) : ren r (psi t) = psi (ren r t) := by
  cases t with
  | var n => rfl
  | lam t => show Tm.lam (ren (upr r) (cps t)) = .lam (cps (ren (upr r) t)); rw [cps_ren]
  | app a b => rfl
theorem ups_psi (σ : Nat → Tm) : ∀ n, ups (fun n => psi (σ n)) n = psi (ups σ n)
  | 0 => rfl
  | n + 1 => psi_ren _ _
theorem val_ren {t : Tm} (h : val t) (r : Nat → Nat) : val (ren r t) := by cases t <;> first | trivial | exact h.elim
theorem cps_sb : ∀ (t : Tm) (σ : Nat → Tm), (∀ n, val (σ n)) → sb (fun n => psi (σ n)) (cps t) = cps (sb σ t)
  | .var n, σ, h => by
    show Tm.lam (.app (.var 0) (ren Nat.succ (psi (σ n)))) = cps (σ n)
    have := h n
    cases hs : σ n with
    | var m => rfl
    | lam m => rfl
    | app a b => rw [hs] at this; exact this.elim
  | .lam t, σ, h => by
    show Tm.lam (.app (.var 0) (sb (ups fun n => psi (σ n)) (ren Nat.succ (.lam (cps t))))) = .lam (.app (.var 0) (ren Nat.succ (.lam (cps (sb (ups σ) t)))))
    rw [sb_up, ← cps_sb t (ups σ) (fun n => by cases n with | zero => trivial | succ n => exact val_ren (h n) _)]
    show Tm.lam (.app (.var 0) (ren Nat.succ (.lam (sb (ups fun n => psi (σ n)) (cps t))))) = _
    rw [sb_ext (cps t) (ups_psi σ)]
  | .app a b, σ, h => by
    show Tm.lam (.app (sb (ups fun n => psi (σ n)) (ren Nat.succ (cps a))) (.lam (.app (sb (ups (ups fun n => psi (σ n))) (ren (fun i => i + 2) (cps b))) _))) = _
    rw [sb_up, sb_up2, cps_sb a σ h, cps_sb b σ h]
    rfl
theorem inst_val (v t : Tm) (h : val v) : sb (inst (psi v)) (cps t) = cps (sb (inst v) t) := by
  rw [← cps_sb t (inst v) (fun n => by cases n with | zero => exact h | succ n => trivial)]
  exact sb_ext _ fun n => by cases n <;> rfl
theorem inst_succ (s t : Tm) : sb (inst s) (ren Nat.succ t) = t := by
  rw [sb_ren]
  exact sb_id _ fun n => rfl
/-- Whether it is a lambda. -/
def isLam : Tm → Bool
  | .lam _ => true
  | _ => false
/-- One step, by value or by name. -/
def tstep (v : Bool) : Tm → Option Tm
  | .var _ => none
  | .lam _ => none
  | .app x y => match x with
    | .lam b => if v = true ∧ y.isLam = false then (tstep v y).map (.app (.lam b)) else some (sb (inst y) b)
    | .var n => none
    | .app a b => (tstep v (.app a b)).map fun z => .app z y
/-- Below k. -/
def cls : Nat → Tm → Prop
  | k, .var n => n < k
  | k, .lam t => cls (k + 1) t
  | k, .app a b => cls k a ∧ cls k b
theorem cls_ren : ∀ (t : Tm) (k m : Nat) (r : Nat → Nat), cls k t → (∀ n, n < k → r n < m) → cls m (ren r t)
  | .var n, k, m, r, h, hr => hr n h
  | .lam t, k, m, r, h, hr => cls_ren t (k + 1) (m + 1) (upr r) h fun n hn => by
    cases n with
    | zero => exact Nat.succ_pos _
    | succ n => exact Nat.succ_lt_succ (hr n (Nat.lt_of_succ_lt_succ hn))
  | .app a b, k, m, r, h, hr => ⟨cls_ren a k m r h.1 hr, cls_ren b k m r h.2 hr⟩
theorem cls_sb : ∀ (t : Tm) (k m : Nat) (σ : Nat → Tm), cls k t → (∀ n, n < k → cls m (σ n)) → cls m (sb σ t)
  | .var n, k, m, σ, h, hr => hr n h
  | .lam t, k, m, σ, h, hr => cls_sb t (k + 1) (m + 1) (ups σ) h fun n hn => by
    cases n with
    | zero => exact Nat.succ_pos _
    | succ n => exact cls_ren _ m (m + 1) _ (hr n (Nat.lt_of_succ_lt_succ hn)) fun i hi => Nat.succ_lt_succ hi
  | .app a b, k, m, σ, h, hr => ⟨cls_sb a k m σ h.1 hr, cls_sb b k m σ h.2 hr⟩
theorem cls_inst {p v : Tm} (hp : cls 1 p) (hv : cls 0 v) : cls 0 (sb (inst v) p) :=
  cls_sb p 1 0 _ hp fun n hn => by
    cases n with
    | zero => exact hv
    | succ n => omega
/-- What is to be done then. -/
inductive Then : Tm → Prop
  | id : Then (.lam (.var 0))
  | k1 (q : Tm) (k : Tm) : cls 0 q → Then k → Then (.lam (.app (ren Nat.succ (cps q)) (.lam (.app (.app (.var 1) (.var 0)) (ren Nat.succ (ren Nat.succ k))))))
  | k2 (p : Tm) (k : Tm) : cls 1 p → Then k → Then (.lam (.app (.app (ren Nat.succ (.lam (cps p))) (.var 0)) (ren Nat.succ k)))
theorem Then.isLam {k : Tm} (h : Then k) : k.isLam = true := by cases h <;> rfl
/-- The forms that a passed term comes through. -/
inductive PInv : Tm → Prop
  | s1 (m k : Tm) : cls 0 m → Then k → PInv (.app (cps m) k)
  | s2 (p k : Tm) : cls 1 p → Then k → PInv (.app k (.lam (cps p)))
  | s3 (p v k : Tm) : cls 1 p → cls 1 v → Then k → PInv (.app (.app (.lam (cps p)) (.lam (cps v))) k)
  | fin (p : Tm) : PInv (.lam (cps p))
theorem step_lam (b y : Tm) : tstep false (.app (.lam b) y) = some (sb (inst y) b) := by simp [tstep]
theorem s1_lam (p k : Tm) : tstep false (.app (cps (.lam p)) k) = some (.app k (.lam (cps p))) := by
  rw [cps, step_lam]
  show some (Tm.app k (sb (inst k) (ren Nat.succ (.lam (cps p))))) = _
  rw [inst_succ]
theorem s1_app (p q k : Tm) : tstep false (.app (cps (.app p q)) k) = some (.app (cps p) (.lam (.app (ren Nat.succ (cps q)) (.lam (.app (.app (.var 1) (.var 0)) (ren Nat.succ (ren Nat.succ k))))))) := by
  rw [cps, step_lam]
  have h : sb (ups (inst k)) (ren (fun i => i + 2) (cps q)) = ren Nat.succ (cps q) := by
    rw [sb_ren, ren_as_sb]
    exact sb_ext _ fun n => rfl
  show some (Tm.app (sb (inst k) (ren Nat.succ (cps p))) (.lam (.app (sb (ups (inst k)) (ren (fun i => i + 2) (cps q))) _))) = _
  rw [inst_succ, h]
  rfl
theorem s2_k1 (p q k : Tm) : tstep false (.app (.lam (.app (ren Nat.succ (cps q)) (.lam (.app (.app (.var 1) (.var 0)) (ren Nat.succ (ren Nat.succ k)))))) (.lam (cps p))) = some (.app (cps q) (.lam (.app (.app (ren Nat.succ (.lam (cps p))) (.var 0)) (ren Nat.succ k)))) := by
  rw [step_lam]
  show some (Tm.app (sb (inst (.lam (cps p))) (ren Nat.succ (cps q))) (.lam (.app (.app (ren Nat.succ (.lam (cps p))) (.var 0)) (sb (ups (inst (.lam (cps p)))) (ren Nat.succ (ren Nat.succ k)))))) = _
  rw [inst_succ, sb_up, inst_succ]
theorem s2_k2 (p v k : Tm) : tstep false (.app (.lam (.app (.app (ren Nat.succ (.lam (cps p))) (.var 0)) (ren Nat.succ k))) (.lam (cps v))) = some (.app (.app (.lam (cps p)) (.lam (cps v))) k) := by
  rw [step_lam]
  show some (Tm.app (.app (sb (inst (.lam (cps v))) (ren Nat.succ (.lam (cps p)))) (.lam (cps v))) (sb (inst (.lam (cps v))) (ren Nat.succ k))) = _
  rw [inst_succ, inst_succ]
theorem s3_step (p v k : Tm) : tstep false (.app (.app (.lam (cps p)) (.lam (cps v))) k) = some (.app (cps (sb (inst (.lam v)) p)) k) := by
  have h := step_lam (cps p) (.lam (cps v))
  have h2 : tstep false (.app (.app (.lam (cps p)) (.lam (cps v))) k) = (tstep false (.app (.lam (cps p)) (.lam (cps v)))).map fun z => .app z k := by
    simp only [tstep]
  rw [h2, h]
  show some (Tm.app (sb (inst (psi (.lam v))) (cps p)) k) = _
  rw [inst_val (.lam v) p trivial]
/-- By value and by name the same step is next. -/
def agree : Tm → Prop
  | .app x y => match x with
    | .lam _ => y.isLam = true
    | .app a b => agree (.app a b)
    | .var _ => True
  | _ => True
theorem cps_isLam (m : Tm) : ∃ b, cps m = .lam b := by cases m <;> exact ⟨_, rfl⟩
theorem PInv.step {t : Tm} (h : PInv t) : agree t ∧ ∀ u, tstep false t = some u → PInv u := by
  cases h with
  | fin p => exact ⟨trivial, fun u hu => by simp [tstep] at hu⟩
  | s1 m k hm hk =>
    obtain ⟨b, hb⟩ := cps_isLam m
    refine ⟨by rw [hb]; exact hk.isLam, fun u hu => ?_⟩
    cases m with
    | var n => exact absurd hm (Nat.not_lt_zero _)
    | lam p => rw [s1_lam] at hu; cases hu; exact .s2 p k hm hk
    | app p q => rw [s1_app] at hu; cases hu; exact .s1 p _ hm.1 (.k1 q k hm.2 hk)
  | s2 p k hp hk =>
    have hl := hk.isLam
    refine ⟨?_, fun u hu => ?_⟩
    · cases hk <;> rfl
    · cases hk with
      | id => rw [step_lam] at hu; cases hu; exact .fin p
      | k1 q k hq hk => rw [s2_k1] at hu; cases hu; exact .s1 q _ hq (.k2 p k hp hk)
      | k2 p1 k hp1 hk => rw [s2_k2] at hu; cases hu; exact .s3 p1 p k hp1 hp hk
  | s3 p v k hp hv hk =>
    refine ⟨rfl, fun u hu => ?_⟩
    rw [s3_step] at hu
    cases hu
    exact .s1 _ k (cls_inst hp hv) hk
end Tm
end Go.Den
namespace Go.Den
open Tm
set_option linter.unusedVariables false
theorem mv_1 : ∀ i, mv 1 0 i = Nat.succ i := fun i => by simp [mv]
theorem mv_2 : ∀ i, mv 2 0 i = i + 2 := fun i => by simp [mv]
theorem pass_tm : ∀ t : Pt, t.nn → (passT t).tm = cps t.tm ∧ (passT t).nn
  | .var n, h => by
    have h : 0 ≤ n := h
    refine ⟨?_, ?_⟩
    · show Tm.lam (.app (.var 0) (.var (n + 1).toNat)) = Tm.lam (.app (.var 0) (.var (n.toNat + 1)))
      rw [show (n + 1).toNat = n.toNat + 1 by omega]
    · exact ⟨Int.le_refl 0, show (0 : Int) ≤ n + 1 by omega⟩
  | .lam n x, h => by
    obtain ⟨h1, h2⟩ := pass_tm x h
    obtain ⟨h3, h4⟩ := tm_sh 1 (.lam 0 (passT x)) 0 h2
    have h3 : (sh 1 0 (.lam 0 (passT x))).tm = ren (mv 1 0) (.lam (passT x).tm) := h3
    refine ⟨?_, ?_⟩
    · show Tm.lam (.app (.var 0) (sh 1 0 (.lam 0 (passT x))).tm) = .lam (.app (.var 0) (ren Nat.succ (.lam (cps x.tm))))
      rw [h3, h1, ren_ext _ mv_1]
    · exact ⟨Int.le_refl 0, h4⟩
  | .app n x y, h => by
    obtain ⟨h1, h2⟩ := pass_tm x h.1
    obtain ⟨h3, h4⟩ := pass_tm y h.2
    obtain ⟨h5, h6⟩ := tm_sh 1 (passT x) 0 h2
    obtain ⟨h7, h8⟩ := tm_sh 2 (passT y) 0 h4
    have h5 : (sh 1 0 (passT x)).tm = ren (mv 1 0) (passT x).tm := h5
    have h7 : (sh 2 0 (passT y)).tm = ren (mv 2 0) (passT y).tm := h7
    refine ⟨?_, ?_⟩
    · show Tm.lam (.app (sh 1 0 (passT x)).tm (.lam (.app (sh 2 0 (passT y)).tm (.lam (.app (.app (.var 1) (.var 0)) (.var 2)))))) = _
      rw [h5, h7, h1, h3, ren_ext _ mv_1, ren_ext _ mv_2]
      rfl
    · exact ⟨h6, h8, ⟨show (0 : Int) ≤ 1 by omega, show (0 : Int) ≤ 0 by omega⟩, show (0 : Int) ≤ 2 by omega⟩
theorem kd_isLam (t : Pt) : t.kd = 2 ↔ t.tm.isLam = true := by
  cases t <;> simp [Pt.kd, Pt.tm, Tm.isLam]
theorem nx_step (v : Bool) : ∀ t : Pt, t.nn → (nx v t = none → tstep v t.tm = none) ∧ ∀ r, nx v t = some r → tstep v t.tm = some (red t r).tm ∧ (red t r).nn
  | .var n, h => ⟨fun _ => rfl, fun r hr => by cases hr⟩
  | .lam n x, h => ⟨fun _ => rfl, fun r hr => by cases hr⟩
  | .app n x y, h => by
    obtain ⟨x1, x2⟩ := nx_step v x h.1
    obtain ⟨y1, y2⟩ := nx_step v y h.2
    have hx := nx_rx v x
    have hy := nx_rx v y
    cases x with
    | var m =>
      refine ⟨fun _ => rfl, fun r hr => ?_⟩
      simp [nx, Pt.kd] at hr
    | app m a b =>
      have hnx : nx v (.app n (.app m a b) y) = (nx v (.app m a b)).map (1 + ·) := by rw [nx]; exact if_pos (by simp [Pt.kd])
      have hst : tstep v (Pt.app n (.app m a b) y).tm = (tstep v (Pt.app m a b).tm).map fun z => .app z y.tm := by simp only [Pt.tm]; rw [tstep]
      rw [hnx, hst]
      refine ⟨fun hn => ?_, fun r hr => ?_⟩
      · rw [x1 (Option.map_eq_none_iff.1 hn)]; rfl
      · obtain ⟨q, hq, rfl⟩ := Option.map_eq_some_iff.1 hr
        obtain ⟨h1, h2⟩ := x2 q hq
        have h3 := (hx q hq).2
        rw [h1, show 1 + q = q + 1 by omega]
        have hred : red (.app n (.app m a b) y) (q + 1) = .app n (red (.app m a b) q) y := by rw [red]; exact if_pos h3
        rw [hred]
        exact ⟨rfl, h2, h.2⟩
    | lam m b =>
      by_cases hv : v = true ∧ y.kd ≠ 2
      · have hnx : nx v (.app n (.lam m b) y) = (nx v y).map (1 + (Pt.lam m b).size + ·) := by rw [nx]; rw [if_neg (by simp [Pt.kd]), if_pos hv]
        have hyl : y.tm.isLam = false := by
          cases hh : y.tm.isLam with
          | false => rfl
          | true => exact absurd ((kd_isLam y).2 hh) hv.2
        have hst : tstep v (Pt.app n (.lam m b) y).tm = (tstep v y.tm).map (Tm.app (.lam b.tm)) := by
          simp only [Pt.tm]; rw [tstep]; exact if_pos ⟨hv.1, hyl⟩
        rw [hnx, hst]
        refine ⟨fun hn => ?_, fun r hr => ?_⟩
        · rw [y1 (Option.map_eq_none_iff.1 hn)]; rfl
        · obtain ⟨q, hq, rfl⟩ := Option.map_eq_some_iff.1 hr
          obtain ⟨h1, h2⟩ := y2 q hq
          rw [h1, show 1 + (Pt.lam m b).size + q = ((Pt.lam m b).size + q) + 1 by omega]
          have hred : red (.app n (.lam m b) y) (((Pt.lam m b).size + q) + 1) = .app n (.lam m b) (red y q) := by
            rw [red, if_neg (by omega), show (Pt.lam m b).size + q - (Pt.lam m b).size = q by omega]
          rw [hred]
          exact ⟨rfl, h.1, h2⟩
      · have hnx : nx v (.app n (.lam m b) y) = some 0 := by rw [nx]; rw [if_neg (by simp [Pt.kd]), if_neg hv]
        have hst : tstep v (Pt.app n (.lam m b) y).tm = some (sb (inst y.tm) b.tm) := by
          simp only [Pt.tm]; rw [tstep]; refine if_neg fun hh => hv ⟨hh.1, fun h2 => ?_⟩
          have := (kd_isLam y).1 h2
          rw [this] at hh
          exact absurd hh.2 (by decide)
        rw [hnx, hst]
        refine ⟨fun hn => (by cases hn), fun r hr => ?_⟩
        cases hr
        obtain ⟨h1, h2⟩ := tm_beta (x := b) (y := y) h.1 h.2
        have hred : red (.app n (.lam m b) y) 0 = sub 0 y 0 b := by rw [red]; rfl
        rw [hred, h1]
        exact ⟨rfl, h2⟩
theorem cls_tm : ∀ (t : Pt) (a : Nat), t.nn → fv t a = [] → cls a t.tm
  | .var n, a, h, hf => by
    have h : 0 ≤ n := h
    show n.toNat < a
    simp only [fv] at hf
    split at hf
    · cases hf
    · omega
  | .lam n x, a, h, hf => cls_tm x (a + 1) h hf
  | .app n x y, a, h, hf => by
    have := closed_app.1 hf
    exact ⟨cls_tm x a h.1 this.1, cls_tm y a h.2 this.2⟩
theorem agree_nx : ∀ s : Pt, agree s.tm → nx true s = nx false s
  | .var n, h => rfl
  | .lam n x, h => rfl
  | .app n x y, h => by
    cases x with
    | var m => rfl
    | app m a b =>
      have h' : agree (Pt.app m a b).tm := h
      have := agree_nx (.app m a b) h'
      have e : ∀ v, nx v (.app n (.app m a b) y) = (nx v (.app m a b)).map (1 + ·) := fun v => by rw [nx]; exact if_pos (by simp [Pt.kd])
      rw [e, e, this]
    | lam m b =>
      have h' : y.tm.isLam = true := h
      have hk := (kd_isLam y).2 h'
      have e : ∀ v, nx v (.app n (.lam m b) y) = some 0 := fun v => by rw [nx]; rw [if_neg (by simp [Pt.kd]), if_neg (fun hh => hh.2 hk)]
      rw [e, e]
theorem goOn_agree : ∀ (f : Nat) (s : Pt), s.nn → PInv s.tm → goOnP (nx true) f s = goOnP (nx false) f s
  | 0, s, hn, hi => by
    unfold goOnP
    rw [agree_nx s hi.step.1]
  | f + 1, s, hn, hi => by
    unfold goOnP
    rw [agree_nx s hi.step.1]
    cases h : nx false s with
    | none => rfl
    | some r =>
      simp only
      split
      · obtain ⟨h1, h2⟩ := (nx_step false s hn).2 r h
        rw [goOn_agree f (red s r) h2 (hi.step.2 _ h1)]
      · rfl
theorem whole_inv {t : Pt} (hn : t.nn) (hf : fv t 0 = []) : PInv (whole t).tm ∧ (whole t).nn ∧ (whole t).tm = .app (cps t.tm) (.lam (.var 0)) := by
  obtain ⟨h1, h2⟩ := pass_tm t hn
  have h3 : (whole t).tm = .app (cps t.tm) (.lam (.var 0)) := by
    show Tm.app (passT t).tm (.lam (.var 0)) = _
    rw [h1]
  refine ⟨?_, ⟨h2, Int.le_refl 0⟩, h3⟩
  rw [h3]
  exact .s1 _ _ (cls_tm t 0 hn hf) .id
end Go.Den
namespace Go.Den
open Go
set_option linter.unusedVariables false
set_option maxRecDepth 100000
def idP : Pt := .lam 0 (.var 0)
theorem read_id (m : Nat) : den cfg (m + 400) 20 [.dat (S ⟨#[92, 48]⟩)] [] [] = some ([.own 56 ((idP.flat 0 (-1)).map Nd.d), .dat (B true)], [], []) := by
  show den cfg (m + 400) 20 [.dat (S ⟨#[92, 48]⟩)] [] [] = some ([.own 56 [N3 2 0 (-1), N3 1 0 0], .dat (B true)], [], [])
  kernel_rfl
theorem told_cases (t : Pt) : told t = ([], false) ∨ (t.good = true ∧ told t = (t.flat 0 (-1), true)) := by
  unfold told
  cases h : t.good with
  | false => exact .inl (by simp)
  | true => exact .inr ⟨rfl, by simp⟩
theorem pass_cases (L : List Nd) : passN L = ([], false) ∨ ∃ t, closedOfP L = some t ∧ (passT t).good = true ∧ passN L = ((passT t).flat 0 (-1), true) := by
  unfold passN
  cases h : closedOfP L with
  | none => exact .inl rfl
  | some t =>
    rcases told_cases (passT t) with h1 | ⟨h1, h2⟩
    · exact .inl h1
    · exact .inr ⟨t, rfl, h1, h2⟩
theorem closed_fv {t : Pt} (h : closedP t = true) : fv t 0 = [] := by
  unfold closedP at h
  exact List.isEmpty_iff.1 h
theorem closed_flat {t : Pt} (hg : t.good = true) (hc : fv t 0 = []) : closedOfP (t.flat 0 (-1)) = some t := by
  unfold closedOfP
  rw [termOfP_flat hg]
  show (if closedP t = true then some t else none) = some t
  rw [if_pos (by unfold closedP; rw [hc]; rfl)]
theorem fnIndifferent_den : ∀ (d0 : Dat), WT cfg.ty 22 d0 → ∃ k, den cfg k 5 [.dat d0] [] [] = some ([.dat (.val (.bool true))], [], []) := by
  intro d0 w0
  obtain ⟨cs, rfl, hb⟩ := bytes_of w0
  refine ⟨1100001, ev_fn Go.Proofs.Try.f5 1100000 (by kernel_rfl) (by kernel_rfl) (fun kk hkk => ?_) 1100001 (Nat.le_refl _)⟩
  by_cases hbig : 1048576 < (cs.length : Int)
  · exact fnInd_big kk cs (decide_eq_true hbig)
  have hsmall := decide_eq_false hbig
  obtain ⟨L, hL, hev⟩ := ev_drawP hb
  have s1 := hev kk (by omega)
  have s2 := ev_iPass L true (by omega) kk (by omega)
  have s3 := ev_sPass L true (by omega) kk (by omega)
  rcases pass_cases L with h | ⟨t, ht, hpg, h⟩
  · rw [h] at s2 s3
    exact fnInd_no kk cs _ [] [] [] [] [] 0 0 hsmall s1 s2 s3 (ev_same [] true true (by simp) kk (by omega))
  have hpl := passN_len L
  rw [h] at s2 s3 hpl
  have hpl : ((passT t).flat 0 (-1)).length ≤ 150 := hpl
  have hsm := ev_same ((passT t).flat 0 (-1)) true true (by omega) kk (by omega)
  obtain ⟨m, hm⟩ : ∃ m, kk = m + 400 := ⟨kk - 400, by omega⟩
  have s4 := read_id m
  rw [← hm] at s4
  have s5 := ev_iApply ((passT t).flat 0 (-1)) (idP.flat 0 (-1)) true true (by omega) (by decide) kk (by omega)
  obtain ⟨htt, htc⟩ := closedOfP_some ht
  have htf := closed_fv htc
  have hgood := ((termOfP_iff L t).1 htt).1
  have hnn := nums_nn (good_facts hgood).2.2
  have hpc : closedOfP ((passT t).flat 0 (-1)) = some (passT t) := closed_flat hpg (passT_closed t 0 (by omega) htf)
  have hic : closedOfP (idP.flat 0 (-1)) = some idP := closed_flat (by decide) rfl
  have hap : applyN ((passT t).flat 0 (-1)) (idP.flat 0 (-1)) = told (whole t) := by
    unfold applyN
    rw [hpc, hic]
    rfl
  rw [hap] at s5
  rcases told_cases (whole t) with h1 | ⟨hwg, h1⟩
  · rw [h1] at s5
    exact fnInd_cut kk cs _ _ _ _ [] [] 0 0 hsmall s1 (own_clean _ _) s2 (own_clean _ _) s3 hsm s4 (own_clean [] false) s5
  rw [h1] at s5
  have hwc : closedOfP ((whole t).flat 0 (-1)) = some (whole t) := closed_flat hwg (whole_closed htf)
  have hwl : ((whole t).flat 0 (-1)).length ≤ 150 := by rw [Pt.flat_length]; exact (good_facts hwg).1
  have s6 := ev_iValue ((whole t).flat 0 (-1)) true 300 (by omega) kk (by omega)
  have s7 := ev_iHead ((whole t).flat 0 (-1)) true 300 (by omega) kk (by omega)
  have heq : clN true ((whole t).flat 0 (-1)) 300 = clN false ((whole t).flat 0 (-1)) 300 := by
    obtain ⟨hi, hwn, _⟩ := whole_inv hnn htf
    unfold clN
    rw [hwc]
    unfold goneN
    rw [termOfP_flat hwg]
    simp only
    rw [goOn_agree _ _ hwn hi]
  rw [heq] at s6
  have hvl := clN_len false ((whole t).flat 0 (-1)) 300
  generalize clN false ((whole t).flat 0 (-1)) 300 = R at s6 s7 hvl
  obtain ⟨vs, c, r⟩ := R
  cases r with
  | false => exact fnInd_n kk cs _ _ _ _ _ _ c c hsmall s1 (own_clean _ _) s2 (own_clean _ _) s3 hsm s4 (own_clean _ _) s5 (own_clean3 vs c false) s6 (own_clean3 vs c false) s7
  | true => exact fnInd_y kk cs _ _ _ _ _ _ c c hsmall s1 (own_clean _ _) s2 (own_clean _ _) s3 hsm s4 (own_clean _ _) s5 (own_clean3 vs c true) s6 (own_clean3 vs c true) s7 (ev_same vs true true (by simp only at hvl; omega) kk (by omega))
end Go.Den
namespace Go.Proofs.Ytjmljfpnofjkeaa.fnIndifferent
open Go.ChangeShapes Go.WideShapes Go.ChangeAt Go.RowKit Go.Den
set_option linter.unusedVariables false
theorem own : ownKnob Try.prog.godebug = none := by kernel_rfl
theorem laidOut : laidOutB Try.prog = true := by kernel_rfl
theorem body : (Try.f5.body).isSome = true := by kernel_rfl
theorem fnThere : cfg.fn 5 = some Try.f5 := by kernel_rfl
theorem plain22 : plainTy cfg.ty 8 22 = true := by kernel_rfl
set_option maxRecDepth 100000 in
theorem lifted (os : Os) (started : os.Started) (H : Type) (enc : TypeId × Value → H) :
    ReturnsInHanded {} Try.checked os 5 .any (Rows.fnIndifferentSpec.pre6 enc Try.prog Try.f5 Rows.fnIndifferentRow.domain false) (Rows.fnIndifferentSpec.post enc Try.prog Try.f5 false true false false) := by
  refine returnsInHanded_of_change (C := Try.checked) own started (by kernel_rfl) Try.func5
    (ChangeSpec.witness6 (enc := enc) (C := Try.checked) false ⟨#[], #[.slice none 0 0], []⟩ 8 (by kernel_rfl) (by kernel_rfl) (by kernel_rfl) (by kernel_rfl)) ?_
  intro W base args ds gs before hval0 hW hcnd _
  have hval : ∀ (j : Nat) t v, Try.f5.params[j]? = some t → args[j]? = some v → Value.okWide Try.prog W .any base t v := hval0
  have hW' := hW
  obtain ⟨p, q, hA0, hV, rfl, hfz, hnd⟩ := hW
  have hA : DataW.TrodAll enc Try.prog W 0 (fun _ => true) true Try.f5.params.toList args.toList ds p := hA0
  rw [Try.params5] at hA hval
  obtain ⟨v0, vs0, d0, ds0, p0, q0, hargs, rfl, rfl, h0, r0⟩ := trodAll_cons hA
  obtain ⟨rfl, rfl, rfl⟩ := trodAll_nil r0
  obtain rfl : args = #[v0] := by cases args; simp_all
  obtain ⟨rfl, rfl⟩ := trodVars_none hV
  have k0 := h0
  have lt0 : ∀ x ∈ p0, x.block < W.heap.size := by obtain ⟨m, hm⟩ := k0; exact DataW.trod_lt m _ _ _ hm
  obtain ⟨e0, cv0, R0, V0, T0⟩ := arg_dat cfg_ty plain22 (hval 0 22 v0 rfl rfl) h0
  clear hA0 hval0
  have hden := fnIndifferent_den e0 T0
  refine (law_calls (P := Try.prog) (C := cfg) (f := 5) (fn := Try.f5) (vals := #[v0]) (ds := [e0]) (W := W) (b := true) den_true.out (cfg_fn fnThere) body rfl (fun j d v hj hv => ?_) hden).mono fun e W' hh => ?_
  · match j, hj, hv with
    | 0, hj, hv => cases hj; cases hv; exact ⟨cv0, R0, V0⟩
    | j + 1, hj, hv => simp at hj
  · obtain ⟨he, bel⟩ := hh
    subst he
    exact ⟨_, rfl, _, _, _, [], _, [], hW', trodAll_mk1 (shut_bool Try.underlying4 _), (trodAll_cons_mk (Below.trod laidOut (by kernel_rfl) (of_decide_eq_true (by kernel_rfl)) k0 bel lt0) trodAll_mk0), rfl, bel.frame _, fun h => by cases h⟩
theorem over : Rows.fnIndifferentRow.holds Try.pinned (OpenSpec.ofChange Rows.fnIndifferentSpec) :=
  OpenClaim.holds_of_wide 5 Try.f5 rfl rfl rfl rfl rfl rfl rfl ⟨rfl, rfl, rfl, rfl, rfl⟩ rfl rfl rfl rfl rfl (by kernel_rfl) Try.func5 (by kernel_rfl)
    (of_decide_eq_true (by kernel_rfl)) (by unfold Func.isWrapper; first | (rw [if_pos (by decide +kernel)]; kernel_rfl) | (rw [if_neg (by decide +kernel)]; exact ⟨rfl, rfl⟩))
    (fun os started H enc _ => lifted os started H enc)
theorem proved : Rows.FnIndifferentSaid := over
end Go.Proofs.Ytjmljfpnofjkeaa.fnIndifferent
namespace Go.Proofs.Ytjmljfpnofjkeaa
/-- The row, under a short name, for the claim. -/
theorem fnIndifferent_holds : Rows.FnIndifferentSaid := fnIndifferent.proved
end Go.Proofs.Ytjmljfpnofjkeaa
