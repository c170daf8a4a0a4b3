/- Merged out of: W1 W2 W3 W4 W5 W6 W7 W8 W9 W10 W11 W12 W13 WC WF WG (prune.py, a program of this work's). -/
import Derived.Test.YtcehfbegcapmnaaA4
import Derived.KernelRfl
import Derived.IntWalk
set_option linter.unusedVariables false
set_option linter.unusedSimpArgs false
set_option linter.unnecessarySimpa false
namespace Go.Den
open Go
set_option linter.unusedVariables false
set_option maxRecDepth 100000
theorem sz_no (kk : Nat) (left : Int) (b : Bool) (es : List Dat) (h1 : decide (w64 (left - (es.length : Int)) < 0) = true) : runFn cfg kk (den cfg kk) 15 Go.Proofs.Try.f15 [.dat (Dat.lst b es), .dat (I left)] [] [] = some ([D.dat (I (-1))], [], []) :=
  hrun_ok [(200010, .yes)] (ob h1 ob0) (by kernel_rfl)
theorem sz_go (kk : Nat) (left : Int) (b : Bool) (es : List Dat) (h1 : decide (w64 (left - (es.length : Int)) < 0) = false) : runFn cfg kk (den cfg kk) 15 Go.Proofs.Try.f15 [.dat (Dat.lst b es), .dat (I left)] [] [] = some ([D.dat (I (w64 (left - (es.length : Int))))], [], []) :=
  hrun_ok [(200010, .no)] (ob h1 ob0) (by kernel_rfl)
theorem toTerm (kk : Nat) (k n u : Int)  : runFn cfg kk (den cfg kk) 49 Go.Proofs.Try.f49 [.dat (N3 k n u)] [] [] = some ([D.dat (N3 k n u)], [], []) :=
  hrun_ok [] ob0 (by kernel_rfl)
def hd17 (es out : List Dat) (i : Int) : St := Nm [0, 3, 4] [.dat (.lst false es), .own 50 out, .dat (I i)] [none, none, none] [] []
theorem toTermS_go (kk m : Nat) {s : St} {K : X → St → Prop} (es out : List Dat) (i : Int) (k n u k0 n0 u0 : Int) (hs : s.norm ((envOf cfg kk 17 Go.Proofs.Try.f17).live (firstRegion (lp Go.Proofs.Try.f17 3))) = hd17 es out i) (h1 : decide (i < (es.length : Int)) = true) (h2 : (0 ≤ i ∧ i < (es.length : Int)) ∧ es[i.toNat]? = some (N3 k n u)) (h3 : den cfg kk 49 [D.dat (N3 k n u)] [] [] = some ([D.dat (N3 k n u)], [], [])) (h4 : 0 ≤ i ∧ i < (out.length : Int)) (h5 : out[i.toNat]? = some (N3 k0 n0 u0)) (hn : ∀ s : St, s.norm ((envOf cfg kk 17 Go.Proofs.Try.f17).live (firstRegion (lp Go.Proofs.Try.f17 3))) = Nm [0, 3, 4] [D.dat (Dat.lst false es), D.own 50 (out.set i.toNat (N3 k n u)), D.dat (I (w64 (i + 1)))] [none, none, none] [] [] → Rounds (envOf cfg kk 17 Go.Proofs.Try.f17) kk (lp Go.Proofs.Try.f17 3) m s K) : Rounds (envOf cfg kk 17 Go.Proofs.Try.f17) kk (lp Go.Proofs.Try.f17 3) (m + 1) s K :=
  rounds_go [(200011, .yes), (18, .at (N3 k n u)), (20, .ret [.dat (N3 k n u)]), (21, .ok), (100021, .at (N3 k0 n0 u0))] hs (by kernel_rfl) (ob h1 (ob h2 (ob h3 (ob h4 (ob h5 ob0))))) (by kernel_rfl) hn
theorem toTermS_end (kk m : Nat) {s : St} {K : X → St → Prop} (es out : List Dat) (i : Int) (hs : s.norm ((envOf cfg kk 17 Go.Proofs.Try.f17).live (firstRegion (lp Go.Proofs.Try.f17 3))) = hd17 es out i) (h1 : decide (i < (es.length : Int)) = false) (hK : K (X.exit 0) (Nm [3] [D.own 50 out] [none] [] [])) : Rounds (envOf cfg kk 17 Go.Proofs.Try.f17) kk (lp Go.Proofs.Try.f17 3) (m + 1) s K :=
  rounds_end [(200011, .no)] hs (by kernel_rfl) rfl (ob h1 ob0) (by kernel_rfl) hK
theorem toTermS (kk : Nat) (es out : List Dat) (h1 : 0 ≤ (es.length : Int) ∧ (es.length : Int) ≤ (es.length : Int) ∧ (es.length : Int) ≤ 2147483648) (h3 : LoopAt cfg kk 17 Go.Proofs.Try.f17 3 (hd17 es (List.replicate es.length (N3 0 0 0)) 0) (X.exit 0) (Nm [3] [D.own 50 out] [none] [] [])) : runFn cfg kk (den cfg kk) 17 Go.Proofs.Try.f17 [.dat (Dat.lst false es)] [] [] = some ([D.own 50 out], [], []) :=
  hrun_ok [(7, .ok), (300003, .loop (hd17 es (List.replicate es.length (N3 0 0 0)) 0) (.exit 0) (Nm [3] [.own 50 out] [none] [] []))] (ob h1 (ob (rfl : _ = hd17 es (List.replicate es.length (N3 0 0 0)) 0) (ob h3 ob0))) (by kernel_rfl)
theorem eqTerm_y (kk : Nat) (a b c a' b' c' : Int) (h1 : (!decide (a = a')) = false) (h2 : (!decide (b = b')) = false) (h3 : (!decide (c = c')) = false) : runFn cfg kk (den cfg kk) 53 Go.Proofs.Try.f53 [.dat (N3 a b c), .dat (N3 a' b' c')] [] [] = some ([D.dat (B true)], [], []) :=
  hrun_ok [(200009, .no), (200014, .no), (200019, .no)] (ob h1 (ob h2 (ob h3 ob0))) (by kernel_rfl)
def hd19 (b1 b2 : Bool) (xs ys : List Dat) (i : Int) : St := Nm [0, 1, 5] [.dat (.lst b1 xs), .dat (.lst b2 ys), .dat (I i)] [none, none, none] [] []
theorem eqTermS_go (kk m : Nat) {s : St} {K : X → St → Prop} (b1 b2 : Bool) (xs ys : List Dat) (i a b c a' b' c' : Int) (hs : s.norm ((envOf cfg kk 19 Go.Proofs.Try.f19).live (firstRegion (lp Go.Proofs.Try.f19 4))) = hd19 b1 b2 xs ys i) (h1 : decide (i < (xs.length : Int)) = true) (h2 : (0 ≤ i ∧ i < (xs.length : Int)) ∧ xs[i.toNat]? = some (N3 a b c)) (h3 : (0 ≤ i ∧ i < (ys.length : Int)) ∧ ys[i.toNat]? = some (N3 a' b' c')) (h4 : den cfg kk 53 [D.dat (N3 a b c), D.dat (N3 a' b' c')] [] [] = some ([D.dat (B true)], [], [])) (hn : ∀ s : St, s.norm ((envOf cfg kk 19 Go.Proofs.Try.f19).live (firstRegion (lp Go.Proofs.Try.f19 4))) = Nm [0, 1, 5] [D.dat (Dat.lst b1 xs), D.dat (Dat.lst b2 ys), D.dat (I (w64 (i + 1)))] [none, none, none] [] [] → Rounds (envOf cfg kk 19 Go.Proofs.Try.f19) kk (lp Go.Proofs.Try.f19 4) m s K) : Rounds (envOf cfg kk 19 Go.Proofs.Try.f19) kk (lp Go.Proofs.Try.f19 4) (m + 1) s K :=
  rounds_go [(200014, .yes), (19, .at (N3 a b c)), (23, .at (N3 a' b' c')), (25, .ret [.dat (B true)])] hs (by kernel_rfl) (ob h1 (ob h2 (ob h3 (ob h4 ob0)))) (by kernel_rfl) hn
theorem eqTermS_end (kk m : Nat) {s : St} {K : X → St → Prop} (b1 b2 : Bool) (xs ys : List Dat) (i : Int) (hs : s.norm ((envOf cfg kk 19 Go.Proofs.Try.f19).live (firstRegion (lp Go.Proofs.Try.f19 4))) = hd19 b1 b2 xs ys i) (h1 : decide (i < (xs.length : Int)) = false) (hK : K (X.exit 0) (Nm [4] [D.junk] [none] [] [])) : Rounds (envOf cfg kk 19 Go.Proofs.Try.f19) kk (lp Go.Proofs.Try.f19 4) (m + 1) s K :=
  rounds_end [(200014, .no)] hs (by kernel_rfl) rfl (ob h1 ob0) (by kernel_rfl) hK
theorem eqTermS_y (kk : Nat) (b1 b2 : Bool) (xs ys : List Dat) (h1 : (!decide ((xs.length : Int) = (ys.length : Int))) = false) (h3 : LoopAt cfg kk 19 Go.Proofs.Try.f19 4 (hd19 b1 b2 xs ys 0) (X.exit 0) (Nm [4] [D.junk] [none] [] [])) : runFn cfg kk (den cfg kk) 19 Go.Proofs.Try.f19 [.dat (Dat.lst b1 xs), .dat (Dat.lst b2 ys)] [] [] = some ([D.dat (B true)], [], []) :=
  hrun_ok [(200010, .no), (300004, .loop (hd19 b1 b2 xs ys 0) (.exit 0) (Nm [4] [.junk] [none] [] []))] (ob h1 (ob (rfl : _ = hd19 b1 b2 xs ys 0) (ob h3 ob0))) (by kernel_rfl)
def hd20 (es : List Dat) (k i : Int) : St := Nm [0, 1, 5] [.bor (.lent 0) none, .dat (I k), .dat (I i)] [none, none, none] [] [some (50, es)]
theorem mark (kk : Nat) (es es' : List Dat) (k k' : Int) (h2 : LoopAt cfg kk 20 Go.Proofs.Try.f20 2 (hd20 es k 0) (X.exit 0) (Nm [1] [D.dat (I k')] [none] [] [some (50, es')])) : runFn cfg kk (den cfg kk) 20 Go.Proofs.Try.f20 [.bor (.lent 0) none, .dat (I k)] [] [some (50, es)] = some ([D.dat (I k')], [], [some (50, es')]) :=
  hrun_ok [(300002, .loop (hd20 es k 0) (.exit 0) (Nm [1] [.dat (I k')] [none] [] [some (50, es')]))] (ob (rfl : _ = hd20 es k 0) (ob h2 ob0)) (by kernel_rfl)
def hd21 (b : Bool) (es : List Dat) (k i : Int) : St := Nm [0, 1, 5] [.dat (.lst b es), .dat (I k), .dat (I i)] [none, none, none] [] []
theorem held (kk : Nat) (b : Bool) (es : List Dat) (k k' : Int) (h2 : LoopAt cfg kk 21 Go.Proofs.Try.f21 2 (hd21 b es k 0) (X.exit 0) (Nm [1, 4] [D.dat (I k'), D.junk] [none, none] [] [])) : runFn cfg kk (den cfg kk) 21 Go.Proofs.Try.f21 [.dat (Dat.lst b es), .dat (I k)] [] [] = some ([D.dat (I k')], [], []) :=
  hrun_ok [(300002, .loop (hd21 b es k 0) (.exit 0) (Nm [1, 4] [.dat (I k'), .junk] [none, none] [] []))] (ob (rfl : _ = hd21 b es k 0) (ob h2 ob0)) (by kernel_rfl)
theorem l1In_no (kk : Nat) (x lo hi : Int) (h1 : decide (lo ≤ x) = false) : runFn cfg kk (den cfg kk) 45 Go.Proofs.Try.f45 [.dat (I x), .dat (I lo), .dat (I hi)] [] [] = some ([D.dat (B false)], [], []) :=
  hrun_ok [(200010, .no)] (ob h1 (ob (rfl : false = false) (ob (rfl : false = false) ob0))) (by kernel_rfl)
theorem l1In_yes (kk : Nat) (x lo hi : Int) (h1 : decide (lo ≤ x) = true) : runFn cfg kk (den cfg kk) 45 Go.Proofs.Try.f45 [.dat (I x), .dat (I lo), .dat (I hi)] [] [] = some ([D.dat (B (decide (x ≤ hi)))], [], []) :=
  hrun_ok [(200010, .yes)] (ob h1 (ob (rfl : true = true) (ob (rfl : true = true) ob0))) (by kernel_rfl)
def hd88 (b : Bool) (es : List Dat) (k i : Int) (out : List Dat) : St := Nm [0, 1, 5, 6] [.dat (.lst b es), .dat (I k), .own 3 out, .dat (I i)] [none, none, none, none] [] []
theorem lcParts_in (kk m : Nat) {s : St} {K : X → St → Prop} (b : Bool) (es : List Dat) (k i x y z : Int) (out : List Dat) (hs : s.norm ((envOf cfg kk 88 Go.Proofs.Try.f88).live (firstRegion (lp Go.Proofs.Try.f88 3))) = hd88 b es k i out) (h1 : decide (i < (es.length : Int)) = true) (h2 : (0 ≤ i ∧ i < (es.length : Int)) ∧ es[i.toNat]? = some (N3 x y z)) (h3 : decide (z = k) = true) (h4 : out.length + 1 ≤ 2147483648) (hn : ∀ s : St, s.norm ((envOf cfg kk 88 Go.Proofs.Try.f88).live (firstRegion (lp Go.Proofs.Try.f88 3))) = Nm [0, 1, 5, 6] [D.dat (Dat.lst b es), D.dat (I k), D.own 3 (out ++ [I i]), D.dat (I (w64 (i + 1)))] [none, none, none, none] [] [] → Rounds (envOf cfg kk 88 Go.Proofs.Try.f88) kk (lp Go.Proofs.Try.f88 3) m s K) : Rounds (envOf cfg kk 88 Go.Proofs.Try.f88) kk (lp Go.Proofs.Try.f88 3) (m + 1) s K :=
  rounds_go [(200012, .yes), (17, .at (N3 x y z)), (200021, .yes), (25, .ok)] hs (by kernel_rfl) (ob h1 (ob h2 (ob h3 (ob (obT h4) ob0)))) (by kernel_rfl) hn
theorem lcParts_no (kk m : Nat) {s : St} {K : X → St → Prop} (b : Bool) (es : List Dat) (k i x y z : Int) (out : List Dat) (hs : s.norm ((envOf cfg kk 88 Go.Proofs.Try.f88).live (firstRegion (lp Go.Proofs.Try.f88 3))) = hd88 b es k i out) (h1 : decide (i < (es.length : Int)) = true) (h2 : (0 ≤ i ∧ i < (es.length : Int)) ∧ es[i.toNat]? = some (N3 x y z)) (h3 : decide (z = k) = false) (hn : ∀ s : St, s.norm ((envOf cfg kk 88 Go.Proofs.Try.f88).live (firstRegion (lp Go.Proofs.Try.f88 3))) = Nm [0, 1, 5, 6] [D.dat (Dat.lst b es), D.dat (I k), D.own 3 out, D.dat (I (w64 (i + 1)))] [none, none, none, none] [] [] → Rounds (envOf cfg kk 88 Go.Proofs.Try.f88) kk (lp Go.Proofs.Try.f88 3) m s K) : Rounds (envOf cfg kk 88 Go.Proofs.Try.f88) kk (lp Go.Proofs.Try.f88 3) (m + 1) s K :=
  rounds_go [(200012, .yes), (17, .at (N3 x y z)), (200021, .no)] hs (by kernel_rfl) (ob h1 (ob h2 (ob h3 ob0))) (by kernel_rfl) hn
theorem lcParts_end (kk m : Nat) {s : St} {K : X → St → Prop} (b : Bool) (es : List Dat) (k i : Int) (out : List Dat) (hs : s.norm ((envOf cfg kk 88 Go.Proofs.Try.f88).live (firstRegion (lp Go.Proofs.Try.f88 3))) = hd88 b es k i out) (h1 : decide (i < (es.length : Int)) = false) (hK : K (X.exit 0) (Nm [5] [D.own 3 out] [none] [] [])) : Rounds (envOf cfg kk 88 Go.Proofs.Try.f88) kk (lp Go.Proofs.Try.f88 3) (m + 1) s K :=
  rounds_end [(200012, .no)] hs (by kernel_rfl) rfl (ob h1 ob0) (by kernel_rfl) hK
theorem lcParts (kk : Nat) (b : Bool) (es : List Dat) (k : Int) (out : List Dat) (h2 : LoopAt cfg kk 88 Go.Proofs.Try.f88 3 (hd88 b es k (w64 (k + 1)) []) (X.exit 0) (Nm [5] [D.own 3 out] [none] [] [])) : runFn cfg kk (den cfg kk) 88 Go.Proofs.Try.f88 [.dat (Dat.lst b es), .dat (I k)] [] [] = some ([D.own 3 out], [], []) :=
  hrun_ok [(300003, .loop (hd88 b es k (w64 (k + 1)) []) (.exit 0) (Nm [5] [.own 3 out] [none] [] []))] (ob (rfl : _ = hd88 b es k (w64 (k + 1)) []) (ob h2 ob0)) (by kernel_rfl)
def hd48 (b : Bool) (es : List Dat) (k n : Int) (ps : List Dat) (i : Int) (out : List Dat) : St := Nm [0, 4, 5, 21, 22, 23] [.dat (.lst b es), .ptr (.loc 4) 0, .ptr (.loc 5) 0, .own 3 ps, .dat (I ps.length), .dat (I i)] [none, some [.dat (I 0), .dat (I 0), .own 46 []], some [.dat (I k), .dat (I n), .own 46 out], none, none, none] [] []
theorem lcTree_go (kk m : Nat) {s : St} {K : X → St → Prop} (b : Bool) (es : List Dat) (k n : Int) (ps : List Dat) (i p kx nx : Int) (dx out : List Dat) (hs : s.norm ((envOf cfg kk 48 Go.Proofs.Try.f48).live (firstRegion (lp Go.Proofs.Try.f48 3))) = hd48 b es k n ps i out) (h1 : decide (i < (ps.length : Int)) = true) (h2 : 0 ≤ i ∧ i < (ps.length : Int)) (h3 : ps[i.toNat]? = some (I p)) (h4 : den cfg kk 48 [D.dat (Dat.lst b es), D.dat (I p)] [] [] = some ([D.dat (T kx nx dx)], [], [])) (h5 : out.length + 1 ≤ 2147483648) (hn : ∀ s : St, s.norm ((envOf cfg kk 48 Go.Proofs.Try.f48).live (firstRegion (lp Go.Proofs.Try.f48 3))) = Nm [0, 4, 5, 21, 22, 23] [D.dat (Dat.lst b es), D.ptr (Ref.loc 4) 0, D.ptr (Ref.loc 5) 0, D.own 3 ps, D.dat (I (ps.length : Int)), D.dat (I (w64 (i + 1)))] [none, some [D.dat (I 0), D.dat (I 0), D.own 46 []], some [D.dat (I k), D.dat (I n), D.own 46 (out ++ [T kx nx dx])], none, none, none] [] [] → Rounds (envOf cfg kk 48 Go.Proofs.Try.f48) kk (lp Go.Proofs.Try.f48 3) m s K) : Rounds (envOf cfg kk 48 Go.Proofs.Try.f48) kk (lp Go.Proofs.Try.f48 3) (m + 1) s K :=
  rounds_go [(200024, .yes), (25, .ok), (26, .at (I p)), (31, .ret [.dat (T kx nx dx)]), (33, .ok)] hs (by kernel_rfl) (ob h1 (ob h2 (ob h3 (ob h4 (ob (obT h5) ob0))))) (by kernel_rfl) hn
theorem lcTree_end (kk m : Nat) {s : St} {K : X → St → Prop} (b : Bool) (es : List Dat) (k n : Int) (ps : List Dat) (i : Int) (out : List Dat) (hs : s.norm ((envOf cfg kk 48 Go.Proofs.Try.f48).live (firstRegion (lp Go.Proofs.Try.f48 3))) = hd48 b es k n ps i out) (h1 : decide (i < (ps.length : Int)) = false) (hK : K (X.exit 0) (Nm [4, 5] [D.ptr (Ref.loc 4) 0, D.ptr (Ref.loc 5) 0] [some [D.dat (I 0), D.dat (I 0), D.own 46 []], some [D.dat (I k), D.dat (I n), D.own 46 out]] [] [])) : Rounds (envOf cfg kk 48 Go.Proofs.Try.f48) kk (lp Go.Proofs.Try.f48 3) (m + 1) s K :=
  rounds_end [(200024, .no)] hs (by kernel_rfl) rfl (ob h1 ob0) (by kernel_rfl) hK
theorem lcTree (kk : Nat) (b : Bool) (es : List Dat) (a k n u : Int) (ps out : List Dat) (h1 : (0 ≤ a ∧ a < (es.length : Int)) ∧ es[a.toNat]? = some (N3 k n u)) (h2 : (0 ≤ a ∧ a < (es.length : Int)) ∧ es[a.toNat]? = some (N3 k n u)) (h3 : den cfg kk 88 [D.dat (Dat.lst b es), D.dat (I a)] [] [] = some ([D.own 3 ps], [], [])) (h5 : LoopAt cfg kk 48 Go.Proofs.Try.f48 3 (hd48 b es k n ps 0 []) (X.exit 0) (Nm [4, 5] [D.ptr (Ref.loc 4) 0, D.ptr (Ref.loc 5) 0] [some [D.dat (I 0), D.dat (I 0), D.own 46 []], some [D.dat (I k), D.dat (I n), D.own 46 out]] [] [])) : runFn cfg kk (den cfg kk) 48 Go.Proofs.Try.f48 [.dat (Dat.lst b es), .dat (I a)] [] [] = some ([D.dat (T k n out)], [], []) :=
  hrun_ok [(10, .at (N3 k n u)), (15, .at (N3 k n u)), (21, .ret [.own 3 ps]), (300003, .loop (hd48 b es k n ps 0 []) (.exit 0) (Nm [4, 5] [.ptr (.loc 4) 0, .ptr (.loc 5) 0] [some [.dat (I 0), .dat (I 0), .own 46 []], some [.dat (I k), .dat (I n), .own 46 out]] [] []))] (ob h1 (ob h2 (ob h3 (ob (rfl : _ = hd48 b es k n ps 0 []) (ob h5 ob0))))) (by kernel_rfl)
theorem lam (kk : Nat) (k n : Int) (ds : List Dat)  : runFn cfg kk (den cfg kk) 86 Go.Proofs.Try.f86 [.dat (T k n ds)] [] [] = some ([D.dat (Dat.agg [I 2, I 0, Dat.lst false [T k n ds]])], [], []) :=
  hrun_ok [] ob0 (by kernel_rfl)
theorem app (kk : Nat) (k n k' n' : Int) (ds ds' : List Dat)  : runFn cfg kk (den cfg kk) 69 Go.Proofs.Try.f69 [.dat (T k n ds), .dat (T k' n' ds')] [] [] = some ([D.dat (Dat.agg [I 3, I 0, Dat.lst false [T k n ds, Dat.agg [I k', I n', Dat.lst false ds']]])], [], []) :=
  hrun_ok [] ob0 (by kernel_rfl)
theorem termAt_end (kk : Nat) (b : Bool) (es : List Dat) (a up : Int) (h1 : decide (a = (es.length : Int)) = true) : runFn cfg kk (den cfg kk) 90 Go.Proofs.Try.f90 [.dat (Dat.lst b es), .dat (I a), .dat (I up)] [] [] = some ([D.dat (T 0 0 []), D.dat (I 0), D.dat (B false)], [], []) :=
  hrun_ok [(200018, .yes)] (ob h1 (ob (rfl : true = true) (ob (rfl : true = true) (ob (rfl : true = true) (ob (rfl : true = true) (ob (rfl : true = true) (ob (rfl : true = true) ob0))))))) (by kernel_rfl)
theorem termAt_up (kk : Nat) (b : Bool) (es : List Dat) (a up : Int) (k n u : Int) (h1 : decide (a = (es.length : Int)) = false) (h4 : (0 ≤ a ∧ a < (es.length : Int)) ∧ es[a.toNat]? = some (N3 k n u)) (h9 : (!decide (u = up)) = true) : runFn cfg kk (den cfg kk) 90 Go.Proofs.Try.f90 [.dat (Dat.lst b es), .dat (I a), .dat (I up)] [] [] = some ([D.dat (T 0 0 []), D.dat (I 0), D.dat (B false)], [], []) :=
  hrun_ok [(200018, .no), (21, .at (N3 k n u)), (200027, .yes)] (ob h1 (ob (rfl : false = false) (ob (rfl : false = false) (ob h4 (ob (rfl : false = false) (ob (rfl : false = false) (ob (rfl : false = false) (ob (rfl : false = false) (ob h9 (ob (rfl : true = true) (ob (rfl : true = true) (ob (rfl : true = true) (ob (rfl : true = true) (ob (rfl : true = true) ob0)))))))))))))) (by kernel_rfl)
theorem termAt_lo (kk : Nat) (b : Bool) (es : List Dat) (a up : Int) (k n u : Int) (h1 : decide (a = (es.length : Int)) = false) (h4 : (0 ≤ a ∧ a < (es.length : Int)) ∧ es[a.toNat]? = some (N3 k n u)) (h9 : (!decide (u = up)) = false) (h12 : (0 ≤ a ∧ a < (es.length : Int)) ∧ es[a.toNat]? = some (N3 k n u)) (h16 : decide (k < 1) = true) : runFn cfg kk (den cfg kk) 90 Go.Proofs.Try.f90 [.dat (Dat.lst b es), .dat (I a), .dat (I up)] [] [] = some ([D.dat (T 0 0 []), D.dat (I 0), D.dat (B false)], [], []) :=
  hrun_ok [(200018, .no), (21, .at (N3 k n u)), (200027, .no), (30, .at (N3 k n u)), (200035, .yes)] (ob h1 (ob (rfl : false = false) (ob (rfl : false = false) (ob h4 (ob (rfl : false = false) (ob (rfl : false = false) (ob (rfl : false = false) (ob (rfl : false = false) (ob h9 (ob (rfl : false = false) (ob (rfl : false = false) (ob h12 (ob (rfl : false = false) (ob (rfl : false = false) (ob (rfl : false = false) (ob h16 (ob (rfl : true = true) (ob (rfl : true = true) (ob (rfl : true = true) (ob (rfl : true = true) (ob (rfl : true = true) ob0))))))))))))))))))))) (by kernel_rfl)
theorem termAt_hi (kk : Nat) (b : Bool) (es : List Dat) (a up : Int) (k n u : Int) (h1 : decide (a = (es.length : Int)) = false) (h4 : (0 ≤ a ∧ a < (es.length : Int)) ∧ es[a.toNat]? = some (N3 k n u)) (h9 : (!decide (u = up)) = false) (h12 : (0 ≤ a ∧ a < (es.length : Int)) ∧ es[a.toNat]? = some (N3 k n u)) (h16 : decide (k < 1) = false) (h19 : (0 ≤ a ∧ a < (es.length : Int)) ∧ es[a.toNat]? = some (N3 k n u)) (h23 : decide (3 < k) = true) : runFn cfg kk (den cfg kk) 90 Go.Proofs.Try.f90 [.dat (Dat.lst b es), .dat (I a), .dat (I up)] [] [] = some ([D.dat (T 0 0 []), D.dat (I 0), D.dat (B false)], [], []) :=
  hrun_ok [(200018, .no), (21, .at (N3 k n u)), (200027, .no), (30, .at (N3 k n u)), (200035, .no), (38, .at (N3 k n u)), (200042, .yes)] (ob h1 (ob (rfl : false = false) (ob (rfl : false = false) (ob h4 (ob (rfl : false = false) (ob (rfl : false = false) (ob (rfl : false = false) (ob (rfl : false = false) (ob h9 (ob (rfl : false = false) (ob (rfl : false = false) (ob h12 (ob (rfl : false = false) (ob (rfl : false = false) (ob (rfl : false = false) (ob h16 (ob (rfl : false = false) (ob (rfl : false = false) (ob h19 (ob (rfl : false = false) (ob (rfl : false = false) (ob (rfl : false = false) (ob h23 ob0))))))))))))))))))))))) (by kernel_rfl)
def hd90 (b : Bool) (es : List Dat) (a up : Int) (k n : Int) (out : List Dat) (nx mm i : Int) : St := Nm [0, 1, 6, 9, 10, 59, 60] [.dat (.lst b es), .dat (I a), .ptr (.loc 6) 0, .ptr (.loc 9) 0, .dat (I nx), .dat (I mm), .dat (I i)] [none, none, some [.dat (I 0), .dat (I 0), .own 55 []], some [.dat (I k), .dat (I n), .own 55 out], none, none, none] [] []
theorem termAt_go (kk m : Nat) {s : St} {K : X → St → Prop} (b : Bool) (es : List Dat) (a up : Int) (k n : Int) (out : List Dat) (nx mm i : Int) (kx nnx nx' : Int) (dx : List Dat) (hs : s.norm ((envOf cfg kk 90 Go.Proofs.Try.f90).live (firstRegion (lp Go.Proofs.Try.f90 5))) = hd90 b es a up k n out nx mm i) (h1 : decide (i < mm) = true) (h2 : den cfg kk 90 [D.dat (Dat.lst b es), D.dat (I nx), D.dat (I a)] [] [] = some ([D.dat (T kx nnx dx), D.dat (I nx'), D.dat (B true)], [], [])) (h3 : out.length + 1 ≤ 2147483648) (hn : ∀ s : St, s.norm ((envOf cfg kk 90 Go.Proofs.Try.f90).live (firstRegion (lp Go.Proofs.Try.f90 5))) = Nm [0, 1, 6, 9, 10, 59, 60] [D.dat (Dat.lst b es), D.dat (I a), D.ptr (Ref.loc 6) 0, D.ptr (Ref.loc 9) 0, D.dat (I nx'), D.dat (I mm), D.dat (I (w64 (i + 1)))] [none, none, some [D.dat (I 0), D.dat (I 0), D.own 55 []], some [D.dat (I k), D.dat (I n), D.own 55 (out ++ [T kx nnx dx])], none, none, none] [] [] → Rounds (envOf cfg kk 90 Go.Proofs.Try.f90) kk (lp Go.Proofs.Try.f90 5) m s K) : Rounds (envOf cfg kk 90 Go.Proofs.Try.f90) kk (lp Go.Proofs.Try.f90 5) (m + 1) s K :=
  rounds_go [(200061, .yes), (66, .ret [.dat (T kx nnx dx), .dat (I nx'), .dat (B true)]), (77, .ok)] hs (by kernel_rfl) (ob h1 (ob h2 (ob (obT h3) ob0))) (by kernel_rfl) hn
theorem termAt_bad (kk m : Nat) {s : St} {K : X → St → Prop} (b : Bool) (es : List Dat) (a up : Int) (k n : Int) (out : List Dat) (nx mm i : Int) (kx nnx nx' : Int) (dx : List Dat) (hs : s.norm ((envOf cfg kk 90 Go.Proofs.Try.f90).live (firstRegion (lp Go.Proofs.Try.f90 5))) = hd90 b es a up k n out nx mm i) (h1 : decide (i < mm) = true) (h2 : den cfg kk 90 [D.dat (Dat.lst b es), D.dat (I nx), D.dat (I a)] [] [] = some ([D.dat (T kx nnx dx), D.dat (I nx'), D.dat (B false)], [], [])) (hK : K (X.ret) (Nm [6, 7, 8, 9, 10] [D.ptr (Ref.loc 6) 0, D.dat (I 0), D.dat (B false), D.ptr (Ref.loc 9) 0, D.dat (I nx)] [some [D.dat (I 0), D.dat (I 0), D.own 55 []], none, none, some [D.dat (I k), D.dat (I n), D.own 55 out], none] [] [])) : Rounds (envOf cfg kk 90 Go.Proofs.Try.f90) kk (lp Go.Proofs.Try.f90 5) (m + 1) s K :=
  rounds_end [(200061, .yes), (66, .ret [.dat (T kx nnx dx), .dat (I nx'), .dat (B false)])] hs (by kernel_rfl) rfl (ob h1 (ob h2 ob0)) (by kernel_rfl) hK
theorem termAt_done (kk m : Nat) {s : St} {K : X → St → Prop} (b : Bool) (es : List Dat) (a up : Int) (k n : Int) (out : List Dat) (nx mm i : Int) (hs : s.norm ((envOf cfg kk 90 Go.Proofs.Try.f90).live (firstRegion (lp Go.Proofs.Try.f90 5))) = hd90 b es a up k n out nx mm i) (h1 : decide (i < mm) = false) (hK : K (X.exit 0) (Nm [6, 7, 8, 9, 10] [D.ptr (Ref.loc 6) 0, D.junk, D.junk, D.ptr (Ref.loc 9) 0, D.dat (I nx)] [some [D.dat (I 0), D.dat (I 0), D.own 55 []], none, none, some [D.dat (I k), D.dat (I n), D.own 55 out], none] [] [])) : Rounds (envOf cfg kk 90 Go.Proofs.Try.f90) kk (lp Go.Proofs.Try.f90 5) (m + 1) s K :=
  rounds_end [(200061, .no)] hs (by kernel_rfl) rfl (ob h1 ob0) (by kernel_rfl) hK
theorem termAt_y (kk : Nat) (b : Bool) (es : List Dat) (a up : Int) (k n u nx : Int) (out : List Dat) (h1 : decide (a = (es.length : Int)) = false) (h4 : (0 ≤ a ∧ a < (es.length : Int)) ∧ es[a.toNat]? = some (N3 k n u)) (h9 : (!decide (u = up)) = false) (h12 : (0 ≤ a ∧ a < (es.length : Int)) ∧ es[a.toNat]? = some (N3 k n u)) (h16 : decide (k < 1) = false) (h19 : (0 ≤ a ∧ a < (es.length : Int)) ∧ es[a.toNat]? = some (N3 k n u)) (h23 : decide (3 < k) = false) (h24 : (0 ≤ a ∧ a < (es.length : Int)) ∧ es[a.toNat]? = some (N3 k n u)) (h25 : (0 ≤ a ∧ a < (es.length : Int)) ∧ es[a.toNat]? = some (N3 k n u)) (h27 : LoopAt cfg kk 90 Go.Proofs.Try.f90 5 (hd90 b es a up k n [] (w64 (a + 1)) (w64 (k - 1)) 0) (X.exit 0) (Nm [6, 7, 8, 9, 10] [D.ptr (Ref.loc 6) 0, D.junk, D.junk, D.ptr (Ref.loc 9) 0, D.dat (I nx)] [some [D.dat (I 0), D.dat (I 0), D.own 55 []], none, none, some [D.dat (I k), D.dat (I n), D.own 55 out], none] [] [])) : runFn cfg kk (den cfg kk) 90 Go.Proofs.Try.f90 [.dat (Dat.lst b es), .dat (I a), .dat (I up)] [] [] = some ([D.dat (T k n out), D.dat (I nx), D.dat (B true)], [], []) :=
  hrun_ok [(200018, .no), (21, .at (N3 k n u)), (200027, .no), (30, .at (N3 k n u)), (200035, .no), (38, .at (N3 k n u)), (200042, .no), (46, .at (N3 k n u)), (51, .at (N3 k n u)), (300005, .loop (hd90 b es a up k n [] (w64 (a + 1)) (w64 (k - 1)) 0) (.exit 0) (Nm [6, 7, 8, 9, 10] [.ptr (.loc 6) 0, .junk, .junk, .ptr (.loc 9) 0, .dat (I nx)] [some [.dat (I 0), .dat (I 0), .own 55 []], none, none, some [.dat (I k), .dat (I n), .own 55 out], none] [] []))] (ob h1 (ob (rfl : false = false) (ob (rfl : false = false) (ob h4 (ob (rfl : false = false) (ob (rfl : false = false) (ob (rfl : false = false) (ob (rfl : false = false) (ob h9 (ob (rfl : false = false) (ob (rfl : false = false) (ob h12 (ob (rfl : false = false) (ob (rfl : false = false) (ob (rfl : false = false) (ob h16 (ob (rfl : false = false) (ob (rfl : false = false) (ob h19 (ob (rfl : false = false) (ob (rfl : false = false) (ob (rfl : false = false) (ob h23 (ob h24 (ob h25 (ob (rfl : _ = hd90 b es a up k n [] (w64 (a + 1)) (w64 (k - 1)) 0) (ob h27 ob0))))))))))))))))))))))))))) (by kernel_rfl)
theorem termAt_n (kk : Nat) (b : Bool) (es : List Dat) (a up : Int) (k n u nx : Int) (out : List Dat) (h1 : decide (a = (es.length : Int)) = false) (h4 : (0 ≤ a ∧ a < (es.length : Int)) ∧ es[a.toNat]? = some (N3 k n u)) (h9 : (!decide (u = up)) = false) (h12 : (0 ≤ a ∧ a < (es.length : Int)) ∧ es[a.toNat]? = some (N3 k n u)) (h16 : decide (k < 1) = false) (h19 : (0 ≤ a ∧ a < (es.length : Int)) ∧ es[a.toNat]? = some (N3 k n u)) (h23 : decide (3 < k) = false) (h24 : (0 ≤ a ∧ a < (es.length : Int)) ∧ es[a.toNat]? = some (N3 k n u)) (h25 : (0 ≤ a ∧ a < (es.length : Int)) ∧ es[a.toNat]? = some (N3 k n u)) (h27 : LoopAt cfg kk 90 Go.Proofs.Try.f90 5 (hd90 b es a up k n [] (w64 (a + 1)) (w64 (k - 1)) 0) X.ret (Nm [6, 7, 8, 9, 10] [D.ptr (Ref.loc 6) 0, D.dat (I 0), D.dat (B false), D.ptr (Ref.loc 9) 0, D.dat (I nx)] [some [D.dat (I 0), D.dat (I 0), D.own 55 []], none, none, some [D.dat (I k), D.dat (I n), D.own 55 out], none] [] [])) : runFn cfg kk (den cfg kk) 90 Go.Proofs.Try.f90 [.dat (Dat.lst b es), .dat (I a), .dat (I up)] [] [] = some ([D.dat (T 0 0 []), D.dat (I 0), D.dat (B false)], [], []) :=
  hrun_ok [(200018, .no), (21, .at (N3 k n u)), (200027, .no), (30, .at (N3 k n u)), (200035, .no), (38, .at (N3 k n u)), (200042, .no), (46, .at (N3 k n u)), (51, .at (N3 k n u)), (300005, .loop (hd90 b es a up k n [] (w64 (a + 1)) (w64 (k - 1)) 0) .ret (Nm [6, 7, 8, 9, 10] [.ptr (.loc 6) 0, .dat (I 0), .dat (B false), .ptr (.loc 9) 0, .dat (I nx)] [some [.dat (I 0), .dat (I 0), .own 55 []], none, none, some [.dat (I k), .dat (I n), .own 55 out], none] [] []))] (ob h1 (ob (rfl : false = false) (ob (rfl : false = false) (ob h4 (ob (rfl : false = false) (ob (rfl : false = false) (ob (rfl : false = false) (ob (rfl : false = false) (ob h9 (ob (rfl : false = false) (ob (rfl : false = false) (ob h12 (ob (rfl : false = false) (ob (rfl : false = false) (ob (rfl : false = false) (ob h16 (ob (rfl : false = false) (ob (rfl : false = false) (ob h19 (ob (rfl : false = false) (ob (rfl : false = false) (ob (rfl : false = false) (ob h23 (ob h24 (ob h25 (ob (rfl : _ = hd90 b es a up k n [] (w64 (a + 1)) (w64 (k - 1)) 0) (ob h27 ob0))))))))))))))))))))))))))) (by kernel_rfl)
theorem termOf_few (kk : Nat) (b : Bool) (es : List Dat) (h1 : decide ((es.length : Int) < 1) = true) : runFn cfg kk (den cfg kk) 50 Go.Proofs.Try.f50 [.dat (Dat.lst b es)] [] [] = some ([D.dat (T 0 0 []), D.dat (B false)], [], []) :=
  hrun_ok [(200010, .yes)] (ob h1 (ob (rfl : true = true) (ob (rfl : true = true) ob0))) (by kernel_rfl)
theorem termOf_many (kk : Nat) (b : Bool) (es : List Dat) (h1 : decide ((es.length : Int) < 1) = false) (h4 : decide (150 < (es.length : Int)) = true) : runFn cfg kk (den cfg kk) 50 Go.Proofs.Try.f50 [.dat (Dat.lst b es)] [] [] = some ([D.dat (T 0 0 []), D.dat (B false)], [], []) :=
  hrun_ok [(200010, .no), (200014, .yes)] (ob h1 (ob (rfl : false = false) (ob (rfl : false = false) (ob h4 ob0)))) (by kernel_rfl)
theorem termOf_bad (kk : Nat) (b : Bool) (es : List Dat) (k n nx : Int) (ds : List Dat) (h1 : decide ((es.length : Int) < 1) = false) (h4 : decide (150 < (es.length : Int)) = false) (h5 : den cfg kk 90 [D.dat (Dat.lst b es), D.dat (I 0), D.dat (I (-1))] [] [] = some ([D.dat (T k n ds), D.dat (I nx), D.dat (B false)], [], [])) : runFn cfg kk (den cfg kk) 50 Go.Proofs.Try.f50 [.dat (Dat.lst b es)] [] [] = some ([D.dat (T k n ds), D.dat (B false)], [], []) :=
  hrun_ok [(200010, .no), (200014, .no), (18, .ret [.dat (T k n ds), .dat (I nx), .dat (B false)])] (ob h1 (ob (rfl : false = false) (ob (rfl : false = false) (ob h4 (ob h5 ob0))))) (by kernel_rfl)
theorem termOf_more (kk : Nat) (b : Bool) (es : List Dat) (k n nx : Int) (ds : List Dat) (h1 : decide ((es.length : Int) < 1) = false) (h4 : decide (150 < (es.length : Int)) = false) (h5 : den cfg kk 90 [D.dat (Dat.lst b es), D.dat (I 0), D.dat (I (-1))] [] [] = some ([D.dat (T k n ds), D.dat (I nx), D.dat (B true)], [], [])) (h6 : decide (nx = (es.length : Int)) = false) : runFn cfg kk (den cfg kk) 50 Go.Proofs.Try.f50 [.dat (Dat.lst b es)] [] [] = some ([D.dat (T k n ds), D.dat (B false)], [], []) :=
  hrun_ok [(200010, .no), (200014, .no), (18, .ret [.dat (T k n ds), .dat (I nx), .dat (B true)]), (200030, .no)] (ob h1 (ob (rfl : false = false) (ob (rfl : false = false) (ob h4 (ob h5 (ob h6 (ob (rfl : false = false) ob0))))))) (by kernel_rfl)
theorem termOf_go (kk : Nat) (b : Bool) (es : List Dat) (k n nx : Int) (ds : List Dat) (g : Bool) (h1 : decide ((es.length : Int) < 1) = false) (h4 : decide (150 < (es.length : Int)) = false) (h5 : den cfg kk 90 [D.dat (Dat.lst b es), D.dat (I 0), D.dat (I (-1))] [] [] = some ([D.dat (T k n ds), D.dat (I nx), D.dat (B true)], [], [])) (h6 : decide (nx = (es.length : Int)) = true) (h8 : den cfg kk 91 [D.dat (T k n ds)] [] [] = some ([D.dat (B g)], [], [])) : runFn cfg kk (den cfg kk) 50 Go.Proofs.Try.f50 [.dat (Dat.lst b es)] [] [] = some ([D.dat (T k n ds), D.dat (B g)], [], []) :=
  hrun_ok [(200010, .no), (200014, .no), (18, .ret [.dat (T k n ds), .dat (I nx), .dat (B true)]), (200030, .yes), (32, .ret [.dat (B g)])] (ob h1 (ob (rfl : false = false) (ob (rfl : false = false) (ob h4 (ob h5 (ob h6 (ob (rfl : true = true) (ob h8 ob0)))))))) (by kernel_rfl)
theorem isGood_big (kk : Nat) (k n z : Int) (ds : List Dat) (h1 : den cfg kk 99 [D.dat (T k n ds)] [] [] = some ([D.dat (I z)], [], [])) (h2 : decide (z ≤ 150) = false) : runFn cfg kk (den cfg kk) 91 Go.Proofs.Try.f91 [.dat (T k n ds)] [] [] = some ([D.dat (B false)], [], []) :=
  hrun_ok [(4, .ret [.dat (I z)]), (200006, .no)] (ob h1 (ob h2 (ob (rfl : false = false) (ob (rfl : false = false) ob0)))) (by kernel_rfl)
theorem isGood_deep (kk : Nat) (k n z d : Int) (ds : List Dat) (h1 : den cfg kk 99 [D.dat (T k n ds)] [] [] = some ([D.dat (I z)], [], [])) (h2 : decide (z ≤ 150) = true) (h4 : den cfg kk 113 [D.dat (T k n ds)] [] [] = some ([D.dat (I d)], [], [])) (h6 : decide (d ≤ 40) = false) : runFn cfg kk (den cfg kk) 91 Go.Proofs.Try.f91 [.dat (T k n ds)] [] [] = some ([D.dat (B false)], [], []) :=
  hrun_ok [(4, .ret [.dat (I z)]), (200006, .yes), (8, .ret [.dat (I d)]), (200011, .no)] (ob h1 (ob h2 (ob (rfl : true = true) (ob h4 (ob (rfl : true = true) (ob h6 (ob (rfl : false = false) ob0))))))) (by kernel_rfl)
theorem isGood_go (kk : Nat) (k n z d : Int) (ds : List Dat) (g : Bool) (h1 : den cfg kk 99 [D.dat (T k n ds)] [] [] = some ([D.dat (I z)], [], [])) (h2 : decide (z ≤ 150) = true) (h4 : den cfg kk 113 [D.dat (T k n ds)] [] [] = some ([D.dat (I d)], [], [])) (h6 : decide (d ≤ 40) = true) (h8 : den cfg kk 114 [D.dat (T k n ds)] [] [] = some ([D.dat (B g)], [], [])) : runFn cfg kk (den cfg kk) 91 Go.Proofs.Try.f91 [.dat (T k n ds)] [] [] = some ([D.dat (B g)], [], []) :=
  hrun_ok [(4, .ret [.dat (I z)]), (200006, .yes), (8, .ret [.dat (I d)]), (200011, .yes), (13, .ret [.dat (B g)])] (ob h1 (ob h2 (ob (rfl : true = true) (ob h4 (ob (rfl : true = true) (ob h6 (ob (rfl : true = true) (ob h8 ob0)))))))) (by kernel_rfl)
def hd99 (ps : List Dat) (acc i : Int) : St := Nm [3, 7, 8, 9] [.dat (I acc), .dat (.lst false ps), .dat (I ps.length), .dat (I i)] [none, none, none, none] [] []
theorem size_go (kk m : Nat) {s : St} {K : X → St → Prop} (ps : List Dat) (acc i kx nx z : Int) (dx : List Dat) (hs : s.norm ((envOf cfg kk 99 Go.Proofs.Try.f99).live (firstRegion (lp Go.Proofs.Try.f99 3))) = hd99 ps acc i) (h1 : decide (i < (ps.length : Int)) = true) (h2 : (0 ≤ i ∧ i < (ps.length : Int)) ∧ ps[i.toNat]? = some (T kx nx dx)) (h3 : den cfg kk 99 [D.dat (T kx nx dx)] [] [] = some ([D.dat (I z)], [], [])) (hn : ∀ s : St, s.norm ((envOf cfg kk 99 Go.Proofs.Try.f99).live (firstRegion (lp Go.Proofs.Try.f99 3))) = Nm [3, 7, 8, 9] [D.dat (I (w64 (acc + z))), D.dat (Dat.lst false ps), D.dat (I (ps.length : Int)), D.dat (I (w64 (i + 1)))] [none, none, none, none] [] [] → Rounds (envOf cfg kk 99 Go.Proofs.Try.f99) kk (lp Go.Proofs.Try.f99 3) m s K) : Rounds (envOf cfg kk 99 Go.Proofs.Try.f99) kk (lp Go.Proofs.Try.f99 3) (m + 1) s K :=
  rounds_go [(200010, .yes), (11, .at (T kx nx dx)), (15, .ret [.dat (I z)])] hs (by kernel_rfl) (ob h1 (ob h2 (ob h3 ob0))) (by kernel_rfl) hn
theorem size_end (kk m : Nat) {s : St} {K : X → St → Prop} (ps : List Dat) (acc i : Int) (hs : s.norm ((envOf cfg kk 99 Go.Proofs.Try.f99).live (firstRegion (lp Go.Proofs.Try.f99 3))) = hd99 ps acc i) (h1 : decide (i < (ps.length : Int)) = false) (hK : K (X.exit 0) (Nm [3] [D.dat (I acc)] [none] [] [])) : Rounds (envOf cfg kk 99 Go.Proofs.Try.f99) kk (lp Go.Proofs.Try.f99 3) (m + 1) s K :=
  rounds_end [(200010, .no)] hs (by kernel_rfl) rfl (ob h1 ob0) (by kernel_rfl) hK
theorem size (kk : Nat) (k n acc : Int) (ps : List Dat) (h2 : LoopAt cfg kk 99 Go.Proofs.Try.f99 3 (hd99 ps 1 0) (X.exit 0) (Nm [3] [D.dat (I acc)] [none] [] [])) : runFn cfg kk (den cfg kk) 99 Go.Proofs.Try.f99 [.dat (T k n ps)] [] [] = some ([D.dat (I acc)], [], []) :=
  hrun_ok [(300003, .loop (hd99 ps 1 0) (.exit 0) (Nm [3] [.dat (I acc)] [none] [] []))] (ob (rfl : _ = hd99 ps 1 0) (ob h2 ob0)) (by kernel_rfl)
theorem depth_go (kk m : Nat) {s : St} {K : X → St → Prop} (ps : List Dat) (acc i kx nx z : Int) (dx : List Dat) (hs : s.norm ((envOf cfg kk 113 Go.Proofs.Try.f113).live (firstRegion (lp Go.Proofs.Try.f113 3))) = hd99 ps acc i) (h1 : decide (i < (ps.length : Int)) = true) (h2 : (0 ≤ i ∧ i < (ps.length : Int)) ∧ ps[i.toNat]? = some (T kx nx dx)) (h3 : den cfg kk 113 [D.dat (T kx nx dx)] [] [] = some ([D.dat (I z)], [], [])) (hn : ∀ s : St, s.norm ((envOf cfg kk 113 Go.Proofs.Try.f113).live (firstRegion (lp Go.Proofs.Try.f113 3))) = Nm [3, 7, 8, 9] [D.dat (I (if z > acc then z else acc)), D.dat (Dat.lst false ps), D.dat (I (ps.length : Int)), D.dat (I (w64 (i + 1)))] [none, none, none, none] [] [] → Rounds (envOf cfg kk 113 Go.Proofs.Try.f113) kk (lp Go.Proofs.Try.f113 3) m s K) : Rounds (envOf cfg kk 113 Go.Proofs.Try.f113) kk (lp Go.Proofs.Try.f113 3) (m + 1) s K :=
  rounds_go [(200010, .yes), (11, .at (T kx nx dx)), (15, .ret [.dat (I z)])] hs (by kernel_rfl) (ob h1 (ob h2 (ob h3 ob0))) (by kernel_rfl) hn
theorem depth_end (kk m : Nat) {s : St} {K : X → St → Prop} (ps : List Dat) (acc i : Int) (hs : s.norm ((envOf cfg kk 113 Go.Proofs.Try.f113).live (firstRegion (lp Go.Proofs.Try.f113 3))) = hd99 ps acc i) (h1 : decide (i < (ps.length : Int)) = false) (hK : K (X.exit 0) (Nm [3] [D.dat (I acc)] [none] [] [])) : Rounds (envOf cfg kk 113 Go.Proofs.Try.f113) kk (lp Go.Proofs.Try.f113 3) (m + 1) s K :=
  rounds_end [(200010, .no)] hs (by kernel_rfl) rfl (ob h1 ob0) (by kernel_rfl) hK
theorem depth (kk : Nat) (k n acc : Int) (ps : List Dat) (h2 : LoopAt cfg kk 113 Go.Proofs.Try.f113 3 (hd99 ps 0 0) (X.exit 0) (Nm [3] [D.dat (I acc)] [none] [] [])) : runFn cfg kk (den cfg kk) 113 Go.Proofs.Try.f113 [.dat (T k n ps)] [] [] = some ([D.dat (I (w64 (acc + 1)))], [], []) :=
  hrun_ok [(300003, .loop (hd99 ps 0 0) (.exit 0) (Nm [3] [.dat (I acc)] [none] [] []))] (ob (rfl : _ = hd99 ps 0 0) (ob h2 ob0)) (by kernel_rfl)
theorem areNumbers_neg (kk : Nat) (k n : Int) (ps : List Dat) (h1 : decide (n < 0) = true) : runFn cfg kk (den cfg kk) 114 Go.Proofs.Try.f114 [.dat (T k n ps)] [] [] = some ([D.dat (B false)], [], []) :=
  hrun_ok [(200006, .yes)] (ob h1 (ob (rfl : true = true) (ob (rfl : true = true) ob0))) (by kernel_rfl)
theorem areNumbers_big (kk : Nat) (k n : Int) (ps : List Dat) (h1 : decide (n < 0) = false) (h4 : decide (99 < n) = true) : runFn cfg kk (den cfg kk) 114 Go.Proofs.Try.f114 [.dat (T k n ps)] [] [] = some ([D.dat (B false)], [], []) :=
  hrun_ok [(200006, .no), (200011, .yes)] (ob h1 (ob (rfl : false = false) (ob (rfl : false = false) (ob h4 (ob (rfl : true = true) (ob (rfl : true = true) (ob (rfl : true = true) (ob (rfl : true = true) ob0)))))))) (by kernel_rfl)
theorem areNumbers_lam (kk : Nat) (k n : Int) (ps : List Dat) (h1 : decide (n < 0) = false) (h4 : decide (99 < n) = false) (h8 : (!decide (k = 1)) = true) (h12 : (!decide (n = 0)) = true) : runFn cfg kk (den cfg kk) 114 Go.Proofs.Try.f114 [.dat (T k n ps)] [] [] = some ([D.dat (B false)], [], []) :=
  hrun_ok [(200006, .no), (200011, .no), (200015, .yes), (200020, .yes)] (ob h1 (ob (rfl : false = false) (ob (rfl : false = false) (ob h4 (ob (rfl : false = false) (ob (rfl : false = false) (ob (rfl : false = false) (ob h8 (ob (rfl : true = true) (ob (rfl : true = true) (ob (rfl : false = false) (ob h12 ob0)))))))))))) (by kernel_rfl)
theorem areNumbers_ok0 (kk : Nat) (k n : Int) (ps : List Dat) (g : Bool) (h1 : decide (n < 0) = false) (h4 : decide (99 < n) = false) (h8 : (!decide (k = 1)) = true) (h12 : (!decide (n = 0)) = false) (h13 : den cfg kk 118 [D.dat (Dat.lst false ps), D.fn 119 []] [] [] = some ([D.dat (B g)], [], [])) : runFn cfg kk (den cfg kk) 114 Go.Proofs.Try.f114 [.dat (T k n ps)] [] [] = some ([D.dat (B !g)], [], []) :=
  hrun_ok [(200006, .no), (200011, .no), (200015, .yes), (200020, .no), (23, .back [.dat (B g)] [] [])] (ob h1 (ob (rfl : false = false) (ob (rfl : false = false) (ob h4 (ob (rfl : false = false) (ob (rfl : false = false) (ob (rfl : false = false) (ob h8 (ob (rfl : true = true) (ob (rfl : true = true) (ob (rfl : false = false) (ob h12 (ob h13 (ob (rfl : false = false) ob0)))))))))))))) (by kernel_rfl)
theorem areNumbers_ok1 (kk : Nat) (k n : Int) (ps : List Dat) (g : Bool) (h1 : decide (n < 0) = false) (h4 : decide (99 < n) = false) (h8 : (!decide (k = 1)) = false) (h12 : den cfg kk 118 [D.dat (Dat.lst false ps), D.fn 119 []] [] [] = some ([D.dat (B g)], [], [])) : runFn cfg kk (den cfg kk) 114 Go.Proofs.Try.f114 [.dat (T k n ps)] [] [] = some ([D.dat (B !g)], [], []) :=
  hrun_ok [(200006, .no), (200011, .no), (200015, .no), (23, .back [.dat (B g)] [] [])] (ob h1 (ob (rfl : false = false) (ob (rfl : false = false) (ob h4 (ob (rfl : false = false) (ob (rfl : false = false) (ob (rfl : false = false) (ob h8 (ob (rfl : false = false) (ob (rfl : false = false) (ob (rfl : false = false) (ob h12 (ob (rfl : false = false) ob0))))))))))))) (by kernel_rfl)
theorem areNumbers1 (kk : Nat) (k n : Int) (ps : List Dat) (g : Bool) (h1 : den cfg kk 114 [D.dat (T k n ps)] [] [] = some ([D.dat (B g)], [], [])) : runFn cfg kk (den cfg kk) 119 Go.Proofs.Try.f119 [.dat (T k n ps)] [] [] = some ([D.dat (B !g)], [], []) :=
  hrun_ok [(4, .ret [.dat (B g)])] (ob h1 ob0) (by kernel_rfl)
theorem contains (kk : Nat) (es : List Dat) (i : Int) (h1 : den cfg kk 132 [D.dat (Dat.lst false es), D.fn 119 []] [] [] = some ([D.dat (I i)], [], [])) : runFn cfg kk (den cfg kk) 118 Go.Proofs.Try.f118 [.dat (Dat.lst false es), .fn 119 []] [] [] = some ([D.dat (B (decide (0 ≤ i)))], [], []) :=
  hrun_ok [(7, .back [.dat (I i)] [] [])] (ob h1 (ob (rfl : false = false) ob0)) (by kernel_rfl)
def hd132 (es : List Dat) (i : Int) : St := Nm [0, 1, 7, 8] [.dat (.lst false es), .fn 119 [], .dat (I es.length), .dat (I i)] [none, none, none, none] [] []
theorem index_go (kk m : Nat) {s : St} {K : X → St → Prop} (es : List Dat) (i k n : Int) (ps : List Dat) (hs : s.norm ((envOf cfg kk 132 Go.Proofs.Try.f132).live (firstRegion (lp Go.Proofs.Try.f132 2))) = hd132 es i) (h1 : decide (i < (es.length : Int)) = true) (h2 : (0 ≤ i ∧ i < (es.length : Int)) ∧ es[i.toNat]? = some (T k n ps)) (h3 : den cfg kk 119 [D.dat (T k n ps)] [] [] = some ([D.dat (B false)], [], [])) (hn : ∀ s : St, s.norm ((envOf cfg kk 132 Go.Proofs.Try.f132).live (firstRegion (lp Go.Proofs.Try.f132 2))) = Nm [0, 1, 7, 8] [D.dat (Dat.lst false es), D.fn 119 [], D.dat (I (es.length : Int)), D.dat (I (w64 (i + 1)))] [none, none, none, none] [] [] → Rounds (envOf cfg kk 132 Go.Proofs.Try.f132) kk (lp Go.Proofs.Try.f132 2) m s K) : Rounds (envOf cfg kk 132 Go.Proofs.Try.f132) kk (lp Go.Proofs.Try.f132 2) (m + 1) s K :=
  rounds_go [(200009, .yes), (14, .at (T k n ps)), (16, .ret [.dat (B false)])] hs (by kernel_rfl) (ob h1 (ob h2 (ob h3 ob0))) (by kernel_rfl) hn
theorem index_hit (kk m : Nat) {s : St} {K : X → St → Prop} (es : List Dat) (i k n : Int) (ps : List Dat) (hs : s.norm ((envOf cfg kk 132 Go.Proofs.Try.f132).live (firstRegion (lp Go.Proofs.Try.f132 2))) = hd132 es i) (h1 : decide (i < (es.length : Int)) = true) (h2 : (0 ≤ i ∧ i < (es.length : Int)) ∧ es[i.toNat]? = some (T k n ps)) (h3 : den cfg kk 119 [D.dat (T k n ps)] [] [] = some ([D.dat (B true)], [], [])) (hK : K (X.ret) (Nm [4] [D.dat (I i)] [none] [] [])) : Rounds (envOf cfg kk 132 Go.Proofs.Try.f132) kk (lp Go.Proofs.Try.f132 2) (m + 1) s K :=
  rounds_end [(200009, .yes), (14, .at (T k n ps)), (16, .ret [.dat (B true)])] hs (by kernel_rfl) rfl (ob h1 (ob h2 (ob h3 ob0))) (by kernel_rfl) hK
theorem index_end (kk m : Nat) {s : St} {K : X → St → Prop} (es : List Dat) (i : Int) (hs : s.norm ((envOf cfg kk 132 Go.Proofs.Try.f132).live (firstRegion (lp Go.Proofs.Try.f132 2))) = hd132 es i) (h1 : decide (i < (es.length : Int)) = false) (hK : K (X.exit 0) (Nm [4] [D.junk] [none] [] [])) : Rounds (envOf cfg kk 132 Go.Proofs.Try.f132) kk (lp Go.Proofs.Try.f132 2) (m + 1) s K :=
  rounds_end [(200009, .no)] hs (by kernel_rfl) rfl (ob h1 ob0) (by kernel_rfl) hK
theorem index_n (kk : Nat) (es : List Dat) (h2 : LoopAt cfg kk 132 Go.Proofs.Try.f132 2 (hd132 es 0) (X.exit 0) (Nm [4] [D.junk] [none] [] [])) : runFn cfg kk (den cfg kk) 132 Go.Proofs.Try.f132 [.dat (Dat.lst false es), .fn 119 []] [] [] = some ([D.dat (I (-1))], [], []) :=
  hrun_ok [(300002, .loop (hd132 es 0) (.exit 0) (Nm [4] [.junk] [none] [] []))] (ob (rfl : _ = hd132 es 0) (ob h2 ob0)) (by kernel_rfl)
theorem index_y (kk : Nat) (es : List Dat) (j : Int) (h2 : LoopAt cfg kk 132 Go.Proofs.Try.f132 2 (hd132 es 0) X.ret (Nm [4] [D.dat (I j)] [none] [] [])) : runFn cfg kk (den cfg kk) 132 Go.Proofs.Try.f132 [.dat (Dat.lst false es), .fn 119 []] [] [] = some ([D.dat (I j)], [], []) :=
  hrun_ok [(300002, .loop (hd132 es 0) .ret (Nm [4] [.dat (I j)] [none] [] []))] (ob (rfl : _ = hd132 es 0) (ob h2 ob0)) (by kernel_rfl)
theorem subst (kk : Nat) (k n kq ks ns kr nr : Int) (ps ds dr : List Dat) (h1 : den cfg kk 92 [D.dat (T k n ps), D.dat (I 0), D.fn 93 [Ref.up 1, Ref.up 0]] [[D.dat (I ks), D.dat (I ns), D.dat (Dat.lst false ds)], [D.dat (I kq)]] [] = some ([D.dat (T kr nr dr)], [[D.dat (I ks), D.dat (I ns), D.dat (Dat.lst false ds)], [D.dat (I kq)]], [])) : runFn cfg kk (den cfg kk) 51 Go.Proofs.Try.f51 [.dat (T k n ps), .dat (I kq), .dat (T ks ns ds)] [] [] = some ([D.dat (T kr nr dr)], [], []) :=
  hrun_ok [(9, .back [.dat (T kr nr dr)] [[.dat (I ks), .dat (I ns), .dat (.lst false ds)], [.dat (I kq)]] [])] (ob h1 (ob (rfl : false = false) ob0)) (by kernel_rfl)
theorem nodes (kk : Nat) (k n : Int) (ps out : List Dat) (h1 : den cfg kk 97 [D.dat (T k n ps), D.dat (I (-1)), D.ptr (Ref.up 1) 0, D.ptr (Ref.up 0) 0] [[D.fn 97 [Ref.up 1, Ref.up 0]], [D.own 50 []]] [] = some ([], [[D.fn 97 [Ref.up 1, Ref.up 0]], [D.own 50 out]], [])) : runFn cfg kk (den cfg kk) 56 Go.Proofs.Try.f56 [.dat (T k n ps)] [] [] = some ([D.own 50 out], [], []) :=
  hrun_ok [(9, .back [] [[.fn 97 [.up 1, .up 0]], [.own 50 (out)]] [])] (ob h1 (ob (rfl : false = false) ob0)) (by kernel_rfl)
def hd44 (b : Bool) (es : List Dat) (i : Int) : St := Nm [0, 14, 15, 16] [.dat (.lst b es), .dat (.lst b es), .dat (I es.length), .dat (I i)] [none, none, none, none] [] []
def hd44a (b : Bool) (es : List Dat) (i k n u : Int) (ar : Bool) (at_ : Int) : St := Nm [0, 3, 4, 5, 6, 14, 15, 16] [.dat (.lst b es), .dat (I i), .ptr (.loc 4) 0, .dat (B ar), .dat (I at_), .dat (.lst b es), .dat (I es.length), .dat (I i)] [none, none, some [.dat (I k), .dat (I n), .dat (I u)], none, none, none, none, none] [] []
def out44a (b : Bool) (es : List Dat) (i k n u : Int) (ar : Bool) : St := Nm [0, 3, 4, 5, 14, 15, 16] [.dat (.lst b es), .dat (I i), .ptr (.loc 4) 0, .dat (B ar), .dat (.lst b es), .dat (I es.length), .dat (I i)] [none, none, some [.dat (I k), .dat (I n), .dat (I u)], none, none, none, none] [] []
def hd44b (b : Bool) (es : List Dat) (i k n u : Int) (ar : Bool) (deep at_ : Int) : St := Nm [0, 3, 4, 5, 7, 8, 14, 15, 16] [.dat (.lst b es), .dat (I i), .ptr (.loc 4) 0, .dat (B ar), .dat (I deep), .dat (I at_), .dat (.lst b es), .dat (I es.length), .dat (I i)] [none, none, some [.dat (I k), .dat (I n), .dat (I u)], none, none, none, none, none, none] [] []
def out44b (b : Bool) (es : List Dat) (i k n u : Int) (ar : Bool) (deep : Int) : St := Nm [0, 3, 4, 5, 7, 14, 15, 16] [.dat (.lst b es), .dat (I i), .ptr (.loc 4) 0, .dat (B ar), .dat (I deep), .dat (.lst b es), .dat (I es.length), .dat (I i)] [none, none, some [.dat (I k), .dat (I n), .dat (I u)], none, none, none, none, none] [] []
theorem around_go (kk m : Nat) {s : St} {K : X → St → Prop} (b : Bool) (es : List Dat) (i k n u at_ x y z : Int) (hs : s.norm ((envOf cfg kk 44 Go.Proofs.Try.f44).live (firstRegion (lp Go.Proofs.Try.f44 10))) = hd44a b es i k n u false at_) (h1 : decide (0 ≤ at_) = true) (h3 : (0 ≤ at_ ∧ at_ < (es.length : Int)) ∧ es[at_.toNat]? = some (N3 x y z)) (hn : ∀ s : St, s.norm ((envOf cfg kk 44 Go.Proofs.Try.f44).live (firstRegion (lp Go.Proofs.Try.f44 10))) = Nm [0, 3, 4, 5, 6, 14, 15, 16] [D.dat (Dat.lst b es), D.dat (I i), D.ptr (Ref.loc 4) 0, D.dat (B (decide (at_ = u))), D.dat (I z), D.dat (Dat.lst b es), D.dat (I (es.length : Int)), D.dat (I i)] [none, none, some [D.dat (I k), D.dat (I n), D.dat (I u)], none, none, none, none, none] [] [] → Rounds (envOf cfg kk 44 Go.Proofs.Try.f44) kk (lp Go.Proofs.Try.f44 10) m s K) : Rounds (envOf cfg kk 44 Go.Proofs.Try.f44) kk (lp Go.Proofs.Try.f44 10) (m + 1) s K :=
  rounds_go [(200041, .yes), (47, .at (N3 x y z))] hs (by kernel_rfl) (ob h1 (ob (rfl : true = true) (ob h3 ob0))) (by kernel_rfl) hn
theorem around_out (kk m : Nat) {s : St} {K : X → St → Prop} (b : Bool) (es : List Dat) (i k n u at_ : Int) (ar : Bool) (hs : s.norm ((envOf cfg kk 44 Go.Proofs.Try.f44).live (firstRegion (lp Go.Proofs.Try.f44 10))) = hd44a b es i k n u ar at_) (h1 : decide (0 ≤ at_) = false) (hK : K (X.exit 2) (Nm [0, 3, 4, 5, 14, 15, 16] [D.dat (Dat.lst b es), D.dat (I i), D.ptr (Ref.loc 4) 0, D.dat (B ar), D.dat (Dat.lst b es), D.dat (I (es.length : Int)), D.dat (I i)] [none, none, some [D.dat (I k), D.dat (I n), D.dat (I u)], none, none, none, none] [] [])) : Rounds (envOf cfg kk 44 Go.Proofs.Try.f44) kk (lp Go.Proofs.Try.f44 10) (m + 1) s K :=
  rounds_end [(200041, .no)] hs (by kernel_rfl) rfl (ob h1 (ob (rfl : false = false) ob0)) (by kernel_rfl) hK
theorem around_yes (kk m : Nat) {s : St} {K : X → St → Prop} (b : Bool) (es : List Dat) (i k n u at_ : Int) (hs : s.norm ((envOf cfg kk 44 Go.Proofs.Try.f44).live (firstRegion (lp Go.Proofs.Try.f44 10))) = hd44a b es i k n u true at_) (h1 : decide (0 ≤ at_) = true) (hK : K (X.exit 2) (Nm [0, 3, 4, 5, 14, 15, 16] [D.dat (Dat.lst b es), D.dat (I i), D.ptr (Ref.loc 4) 0, D.dat (B true), D.dat (Dat.lst b es), D.dat (I (es.length : Int)), D.dat (I i)] [none, none, some [D.dat (I k), D.dat (I n), D.dat (I u)], none, none, none, none] [] [])) : Rounds (envOf cfg kk 44 Go.Proofs.Try.f44) kk (lp Go.Proofs.Try.f44 10) (m + 1) s K :=
  rounds_end [(200041, .yes)] hs (by kernel_rfl) rfl (ob h1 (ob (rfl : true = true) ob0)) (by kernel_rfl) hK
theorem deep_go (kk m : Nat) {s : St} {K : X → St → Prop} (b : Bool) (es : List Dat) (i k n u : Int) (ar : Bool) (deep at_ : Int) (x y z : Int) (hs : s.norm ((envOf cfg kk 44 Go.Proofs.Try.f44).live (firstRegion (lp Go.Proofs.Try.f44 15))) = hd44b b es i k n u ar deep at_) (h1 : decide (0 ≤ at_) = true) (h2 : (0 ≤ at_ ∧ at_ < (es.length : Int)) ∧ es[at_.toNat]? = some (N3 x y z)) (hn : ∀ s : St, s.norm ((envOf cfg kk 44 Go.Proofs.Try.f44).live (firstRegion (lp Go.Proofs.Try.f44 15))) = Nm [0, 3, 4, 5, 7, 8, 14, 15, 16] [D.dat (Dat.lst b es), D.dat (I i), D.ptr (Ref.loc 4) 0, D.dat (B ar), D.dat (I (w64 (deep + 1))), D.dat (I z), D.dat (Dat.lst b es), D.dat (I (es.length : Int)), D.dat (I i)] [none, none, some [D.dat (I k), D.dat (I n), D.dat (I u)], none, none, none, none, none, none] [] [] → Rounds (envOf cfg kk 44 Go.Proofs.Try.f44) kk (lp Go.Proofs.Try.f44 15) m s K) : Rounds (envOf cfg kk 44 Go.Proofs.Try.f44) kk (lp Go.Proofs.Try.f44 15) (m + 1) s K :=
  rounds_go [(200056, .yes), (59, .at (N3 x y z))] hs (by kernel_rfl) (ob h1 (ob h2 ob0)) (by kernel_rfl) hn
theorem deep_out (kk m : Nat) {s : St} {K : X → St → Prop} (b : Bool) (es : List Dat) (i k n u : Int) (ar : Bool) (deep at_ : Int) (hs : s.norm ((envOf cfg kk 44 Go.Proofs.Try.f44).live (firstRegion (lp Go.Proofs.Try.f44 15))) = hd44b b es i k n u ar deep at_) (h1 : decide (0 ≤ at_) = false) (hK : K (X.exit 4) (Nm [0, 3, 4, 5, 7, 14, 15, 16] [D.dat (Dat.lst b es), D.dat (I i), D.ptr (Ref.loc 4) 0, D.dat (B ar), D.dat (I deep), D.dat (Dat.lst b es), D.dat (I (es.length : Int)), D.dat (I i)] [none, none, some [D.dat (I k), D.dat (I n), D.dat (I u)], none, none, none, none, none] [] [])) : Rounds (envOf cfg kk 44 Go.Proofs.Try.f44) kk (lp Go.Proofs.Try.f44 15) (m + 1) s K :=
  rounds_end [(200056, .no)] hs (by kernel_rfl) rfl (ob h1 ob0) (by kernel_rfl) hK
theorem good_end (kk m : Nat) {s : St} {K : X → St → Prop} (b : Bool) (es : List Dat) (i : Int) (hs : s.norm ((envOf cfg kk 44 Go.Proofs.Try.f44).live (firstRegion (lp Go.Proofs.Try.f44 4))) = hd44 b es i) (h1 : decide (i < (es.length : Int)) = false) (hK : K (X.exit 0) (Nm [2] [D.junk] [none] [] [])) : Rounds (envOf cfg kk 44 Go.Proofs.Try.f44) kk (lp Go.Proofs.Try.f44 4) (m + 1) s K :=
  rounds_end [(200017, .no)] hs (by kernel_rfl) rfl (ob h1 ob0) (by kernel_rfl) hK
theorem good_up (kk m : Nat) {s : St} {K : X → St → Prop} (b : Bool) (es : List Dat) (i : Int) (n u : Int) (k : Int) (hs : s.norm ((envOf cfg kk 44 Go.Proofs.Try.f44).live (firstRegion (lp Go.Proofs.Try.f44 4))) = hd44 b es i) (h1 : decide (i < (es.length : Int)) = true) (h2 : (0 ≤ i ∧ i < (es.length : Int)) ∧ es[i.toNat]? = some (N3 k n u)) (h3 : (!decide (i = 0) == decide (u = -1)) = true) (hK : K (X.ret) (Nm [2] [D.dat (B false)] [none] [] [])) : Rounds (envOf cfg kk 44 Go.Proofs.Try.f44) kk (lp Go.Proofs.Try.f44 4) (m + 1) s K :=
  rounds_end [(200017, .yes), (19, .at (N3 k n u)), (200027, .yes)] hs (by kernel_rfl) rfl (ob h1 (ob h2 (ob h3 (ob (rfl : true = true) (ob (rfl : true = true) (ob (rfl : true = true) (ob (rfl : true = true) (ob (rfl : true = true) ob0)))))))) (by kernel_rfl) hK
theorem good_in (kk m : Nat) {s : St} {K : X → St → Prop} (b : Bool) (es : List Dat) (i : Int) (n u : Int) (k : Int) (hs : s.norm ((envOf cfg kk 44 Go.Proofs.Try.f44).live (firstRegion (lp Go.Proofs.Try.f44 4))) = hd44 b es i) (h1 : decide (i < (es.length : Int)) = true) (h2 : (0 ≤ i ∧ i < (es.length : Int)) ∧ es[i.toNat]? = some (N3 k n u)) (h3 : (!decide (i = 0) == decide (u = -1)) = false) (h8 : den cfg kk 45 [D.dat (I u), D.dat (I (-1)), D.dat (I (w64 (i - 1)))] [] [] = some ([D.dat (B false)], [], [])) (hK : K (X.ret) (Nm [2] [D.dat (B false)] [none] [] [])) : Rounds (envOf cfg kk 44 Go.Proofs.Try.f44) kk (lp Go.Proofs.Try.f44 4) (m + 1) s K :=
  rounds_end [(200017, .yes), (19, .at (N3 k n u)), (200027, .no), (32, .ret [.dat (B false)])] hs (by kernel_rfl) rfl (ob h1 (ob h2 (ob h3 (ob (rfl : false = false) (ob (rfl : false = false) (ob (rfl : false = false) (ob (rfl : false = false) (ob h8 (ob (rfl : false = false) ob0))))))))) (by kernel_rfl) hK
theorem good_kind (kk m : Nat) {s : St} {K : X → St → Prop} (b : Bool) (es : List Dat) (i : Int) (n u : Int) (k deep : Int) (ar : Bool) (hs : s.norm ((envOf cfg kk 44 Go.Proofs.Try.f44).live (firstRegion (lp Go.Proofs.Try.f44 4))) = hd44 b es i) (h1 : decide (i < (es.length : Int)) = true) (h2 : (0 ≤ i ∧ i < (es.length : Int)) ∧ es[i.toNat]? = some (N3 k n u)) (h3 : (!decide (i = 0) == decide (u = -1)) = false) (h8 : den cfg kk 45 [D.dat (I u), D.dat (I (-1)), D.dat (I (w64 (i - 1)))] [] [] = some ([D.dat (B true)], [], [])) (h11 : LoopAt cfg kk 44 Go.Proofs.Try.f44 10 (hd44a b es i k n u (decide (i = 0)) (w64 (i - 1))) (X.exit 2) (out44a b es i k n u ar)) (h13 : LoopAt cfg kk 44 Go.Proofs.Try.f44 15 (hd44b b es i k n u ar 0 i) (X.exit 4) (out44b b es i k n u ar deep)) (h14 : decide (k = 1) = false) (h15 : decide (k = 2) = false) (h16 : decide (k = 3) = false) (hK : K (X.ret) (Nm [2] [D.dat (B false)] [none] [] [])) : Rounds (envOf cfg kk 44 Go.Proofs.Try.f44) kk (lp Go.Proofs.Try.f44 4) (m + 1) s K :=
  rounds_end [(200017, .yes), (19, .at (N3 k n u)), (200027, .no), (32, .ret [.dat (B true)]), (300010, .loop (hd44a b es i k n u (decide (i = 0)) (w64 (i - 1))) (.exit 2) (out44a b es i k n u ar)), (300015, .loop (hd44b b es i k n u ar 0 i) (.exit 4) (out44b b es i k n u ar deep)), (200066, .no), (200068, .no), (200070, .no)] hs (by kernel_rfl) rfl (ob h1 (ob h2 (ob h3 (ob (rfl : false = false) (ob (rfl : false = false) (ob (rfl : false = false) (ob (rfl : false = false) (ob h8 (ob (rfl : false = false) (ob (rfl : _ = hd44a b es i k n u (decide (i = 0)) (w64 (i - 1))) (ob h11 (ob (rfl : _ = hd44b b es i k n u ar 0 i) (ob h13 (ob h14 (ob h15 (ob h16 ob0)))))))))))))))) (by kernel_rfl) hK
theorem good_ar_1 (kk m : Nat) {s : St} {K : X → St → Prop} (b : Bool) (es : List Dat) (i : Int) (n u : Int) (deep : Int) (hs : s.norm ((envOf cfg kk 44 Go.Proofs.Try.f44).live (firstRegion (lp Go.Proofs.Try.f44 4))) = hd44 b es i) (h1 : decide (i < (es.length : Int)) = true) (h2 : (0 ≤ i ∧ i < (es.length : Int)) ∧ es[i.toNat]? = some (N3 1 n u)) (h3 : (!decide (i = 0) == decide (u = -1)) = false) (h8 : den cfg kk 45 [D.dat (I u), D.dat (I (-1)), D.dat (I (w64 (i - 1)))] [] [] = some ([D.dat (B true)], [], [])) (h11 : LoopAt cfg kk 44 Go.Proofs.Try.f44 10 (hd44a b es i 1 n u (decide (i = 0)) (w64 (i - 1))) (X.exit 2) (out44a b es i 1 n u false)) (h13 : LoopAt cfg kk 44 Go.Proofs.Try.f44 15 (hd44b b es i 1 n u false 0 i) (X.exit 4) (out44b b es i 1 n u false deep)) (hK : K (X.ret) (Nm [2] [D.dat (B false)] [none] [] [])) : Rounds (envOf cfg kk 44 Go.Proofs.Try.f44) kk (lp Go.Proofs.Try.f44 4) (m + 1) s K :=
  rounds_end [(200017, .yes), (19, .at (N3 1 n u)), (200027, .no), (32, .ret [.dat (B true)]), (300010, .loop (hd44a b es i 1 n u (decide (i = 0)) (w64 (i - 1))) (.exit 2) (out44a b es i 1 n u false)), (300015, .loop (hd44b b es i 1 n u false 0 i) (.exit 4) (out44b b es i 1 n u false deep))] hs (by kernel_rfl) rfl (ob h1 (ob h2 (ob h3 (ob (rfl : false = false) (ob (rfl : false = false) (ob (rfl : false = false) (ob (rfl : false = false) (ob h8 (ob (rfl : false = false) (ob (rfl : _ = hd44a b es i 1 n u (decide (i = 0)) (w64 (i - 1))) (ob h11 (ob (rfl : _ = hd44b b es i 1 n u false 0 i) (ob h13 ob0))))))))))))) (by kernel_rfl) hK
theorem good_deep_1 (kk m : Nat) {s : St} {K : X → St → Prop} (b : Bool) (es : List Dat) (i : Int) (n u : Int) (deep : Int) (hs : s.norm ((envOf cfg kk 44 Go.Proofs.Try.f44).live (firstRegion (lp Go.Proofs.Try.f44 4))) = hd44 b es i) (h1 : decide (i < (es.length : Int)) = true) (h2 : (0 ≤ i ∧ i < (es.length : Int)) ∧ es[i.toNat]? = some (N3 1 n u)) (h3 : (!decide (i = 0) == decide (u = -1)) = false) (h8 : den cfg kk 45 [D.dat (I u), D.dat (I (-1)), D.dat (I (w64 (i - 1)))] [] [] = some ([D.dat (B true)], [], [])) (h11 : LoopAt cfg kk 44 Go.Proofs.Try.f44 10 (hd44a b es i 1 n u (decide (i = 0)) (w64 (i - 1))) (X.exit 2) (out44a b es i 1 n u true)) (h13 : LoopAt cfg kk 44 Go.Proofs.Try.f44 15 (hd44b b es i 1 n u true 0 i) (X.exit 4) (out44b b es i 1 n u true deep)) (h14 : decide (40 < deep) = true) (hK : K (X.ret) (Nm [2] [D.dat (B false)] [none] [] [])) : Rounds (envOf cfg kk 44 Go.Proofs.Try.f44) kk (lp Go.Proofs.Try.f44 4) (m + 1) s K :=
  rounds_end [(200017, .yes), (19, .at (N3 1 n u)), (200027, .no), (32, .ret [.dat (B true)]), (300010, .loop (hd44a b es i 1 n u (decide (i = 0)) (w64 (i - 1))) (.exit 2) (out44a b es i 1 n u true)), (300015, .loop (hd44b b es i 1 n u true 0 i) (.exit 4) (out44b b es i 1 n u true deep)), (200078, .yes)] hs (by kernel_rfl) rfl (ob h1 (ob h2 (ob h3 (ob (rfl : false = false) (ob (rfl : false = false) (ob (rfl : false = false) (ob (rfl : false = false) (ob h8 (ob (rfl : false = false) (ob (rfl : _ = hd44a b es i 1 n u (decide (i = 0)) (w64 (i - 1))) (ob h11 (ob (rfl : _ = hd44b b es i 1 n u true 0 i) (ob h13 (ob h14 (ob (rfl : true = true) (ob (rfl : true = true) (ob (rfl : true = true) (ob (rfl : true = true) (ob (rfl : true = true) ob0))))))))))))))))))) (by kernel_rfl) hK
theorem good_parts_1 (kk m : Nat) {s : St} {K : X → St → Prop} (b : Bool) (es : List Dat) (i : Int) (n u : Int) (deep : Int) (ps : List Dat) (hs : s.norm ((envOf cfg kk 44 Go.Proofs.Try.f44).live (firstRegion (lp Go.Proofs.Try.f44 4))) = hd44 b es i) (h1 : decide (i < (es.length : Int)) = true) (h2 : (0 ≤ i ∧ i < (es.length : Int)) ∧ es[i.toNat]? = some (N3 1 n u)) (h3 : (!decide (i = 0) == decide (u = -1)) = false) (h8 : den cfg kk 45 [D.dat (I u), D.dat (I (-1)), D.dat (I (w64 (i - 1)))] [] [] = some ([D.dat (B true)], [], [])) (h11 : LoopAt cfg kk 44 Go.Proofs.Try.f44 10 (hd44a b es i 1 n u (decide (i = 0)) (w64 (i - 1))) (X.exit 2) (out44a b es i 1 n u true)) (h13 : LoopAt cfg kk 44 Go.Proofs.Try.f44 15 (hd44b b es i 1 n u true 0 i) (X.exit 4) (out44b b es i 1 n u true deep)) (h14 : decide (40 < deep) = false) (h17 : den cfg kk 88 [D.dat (Dat.lst b es), D.dat (I i)] [] [] = some ([D.own 3 ps], [], [])) (h21 : (!decide ((ps.length : Int) = 0)) = true) (hK : K (X.ret) (Nm [2] [D.dat (B false)] [none] [] [])) : Rounds (envOf cfg kk 44 Go.Proofs.Try.f44) kk (lp Go.Proofs.Try.f44 4) (m + 1) s K :=
  rounds_end [(200017, .yes), (19, .at (N3 1 n u)), (200027, .no), (32, .ret [.dat (B true)]), (300010, .loop (hd44a b es i 1 n u (decide (i = 0)) (w64 (i - 1))) (.exit 2) (out44a b es i 1 n u true)), (300015, .loop (hd44b b es i 1 n u true 0 i) (.exit 4) (out44b b es i 1 n u true deep)), (200078, .no), (81, .ret [.own 3 ps]), (200086, .yes)] hs (by kernel_rfl) rfl (ob h1 (ob h2 (ob h3 (ob (rfl : false = false) (ob (rfl : false = false) (ob (rfl : false = false) (ob (rfl : false = false) (ob h8 (ob (rfl : false = false) (ob (rfl : _ = hd44a b es i 1 n u (decide (i = 0)) (w64 (i - 1))) (ob h11 (ob (rfl : _ = hd44b b es i 1 n u true 0 i) (ob h13 (ob h14 (ob (rfl : false = false) (ob (rfl : false = false) (ob h17 (ob (rfl : false = false) (ob (rfl : false = false) (ob (rfl : false = false) (ob h21 (ob (rfl : true = true) (ob (rfl : true = true) (ob (rfl : true = true) ob0)))))))))))))))))))))))) (by kernel_rfl) hK
theorem good_n_1 (kk m : Nat) {s : St} {K : X → St → Prop} (b : Bool) (es : List Dat) (i : Int) (n u : Int) (deep : Int) (ps : List Dat) (hs : s.norm ((envOf cfg kk 44 Go.Proofs.Try.f44).live (firstRegion (lp Go.Proofs.Try.f44 4))) = hd44 b es i) (h1 : decide (i < (es.length : Int)) = true) (h2 : (0 ≤ i ∧ i < (es.length : Int)) ∧ es[i.toNat]? = some (N3 1 n u)) (h3 : (!decide (i = 0) == decide (u = -1)) = false) (h8 : den cfg kk 45 [D.dat (I u), D.dat (I (-1)), D.dat (I (w64 (i - 1)))] [] [] = some ([D.dat (B true)], [], [])) (h11 : LoopAt cfg kk 44 Go.Proofs.Try.f44 10 (hd44a b es i 1 n u (decide (i = 0)) (w64 (i - 1))) (X.exit 2) (out44a b es i 1 n u true)) (h13 : LoopAt cfg kk 44 Go.Proofs.Try.f44 15 (hd44b b es i 1 n u true 0 i) (X.exit 4) (out44b b es i 1 n u true deep)) (h14 : decide (40 < deep) = false) (h17 : den cfg kk 88 [D.dat (Dat.lst b es), D.dat (I i)] [] [] = some ([D.own 3 ps], [], [])) (h21 : (!decide ((ps.length : Int) = 0)) = false) (h24 : den cfg kk 45 [D.dat (I n), D.dat (I 0), D.dat (I 99)] [] [] = some ([D.dat (B false)], [], [])) (hK : K (X.ret) (Nm [2] [D.dat (B false)] [none] [] [])) : Rounds (envOf cfg kk 44 Go.Proofs.Try.f44) kk (lp Go.Proofs.Try.f44 4) (m + 1) s K :=
  rounds_end [(200017, .yes), (19, .at (N3 1 n u)), (200027, .no), (32, .ret [.dat (B true)]), (300010, .loop (hd44a b es i 1 n u (decide (i = 0)) (w64 (i - 1))) (.exit 2) (out44a b es i 1 n u true)), (300015, .loop (hd44b b es i 1 n u true 0 i) (.exit 4) (out44b b es i 1 n u true deep)), (200078, .no), (81, .ret [.own 3 ps]), (200086, .no), (89, .ret [.dat (B false)])] hs (by kernel_rfl) rfl (ob h1 (ob h2 (ob h3 (ob (rfl : false = false) (ob (rfl : false = false) (ob (rfl : false = false) (ob (rfl : false = false) (ob h8 (ob (rfl : false = false) (ob (rfl : _ = hd44a b es i 1 n u (decide (i = 0)) (w64 (i - 1))) (ob h11 (ob (rfl : _ = hd44b b es i 1 n u true 0 i) (ob h13 (ob h14 (ob (rfl : false = false) (ob (rfl : false = false) (ob h17 (ob (rfl : false = false) (ob (rfl : false = false) (ob (rfl : false = false) (ob h21 (ob (rfl : false = false) (ob (rfl : false = false) (ob h24 (ob (rfl : false = false) ob0))))))))))))))))))))))))) (by kernel_rfl) hK
theorem good_go_1 (kk m : Nat) {s : St} {K : X → St → Prop} (b : Bool) (es : List Dat) (i : Int) (n u : Int) (deep : Int) (ps : List Dat) (hs : s.norm ((envOf cfg kk 44 Go.Proofs.Try.f44).live (firstRegion (lp Go.Proofs.Try.f44 4))) = hd44 b es i) (h1 : decide (i < (es.length : Int)) = true) (h2 : (0 ≤ i ∧ i < (es.length : Int)) ∧ es[i.toNat]? = some (N3 1 n u)) (h3 : (!decide (i = 0) == decide (u = -1)) = false) (h8 : den cfg kk 45 [D.dat (I u), D.dat (I (-1)), D.dat (I (w64 (i - 1)))] [] [] = some ([D.dat (B true)], [], [])) (h11 : LoopAt cfg kk 44 Go.Proofs.Try.f44 10 (hd44a b es i 1 n u (decide (i = 0)) (w64 (i - 1))) (X.exit 2) (out44a b es i 1 n u true)) (h13 : LoopAt cfg kk 44 Go.Proofs.Try.f44 15 (hd44b b es i 1 n u true 0 i) (X.exit 4) (out44b b es i 1 n u true deep)) (h14 : decide (40 < deep) = false) (h17 : den cfg kk 88 [D.dat (Dat.lst b es), D.dat (I i)] [] [] = some ([D.own 3 ps], [], [])) (h21 : (!decide ((ps.length : Int) = 0)) = false) (h24 : den cfg kk 45 [D.dat (I n), D.dat (I 0), D.dat (I 99)] [] [] = some ([D.dat (B true)], [], [])) (hn : ∀ s : St, s.norm ((envOf cfg kk 44 Go.Proofs.Try.f44).live (firstRegion (lp Go.Proofs.Try.f44 4))) = Nm [0, 14, 15, 16] [D.dat (Dat.lst b es), D.dat (Dat.lst b es), D.dat (I (es.length : Int)), D.dat (I (w64 (i + 1)))] [none, none, none, none] [] [] → Rounds (envOf cfg kk 44 Go.Proofs.Try.f44) kk (lp Go.Proofs.Try.f44 4) m s K) : Rounds (envOf cfg kk 44 Go.Proofs.Try.f44) kk (lp Go.Proofs.Try.f44 4) (m + 1) s K :=
  rounds_go [(200017, .yes), (19, .at (N3 1 n u)), (200027, .no), (32, .ret [.dat (B true)]), (300010, .loop (hd44a b es i 1 n u (decide (i = 0)) (w64 (i - 1))) (.exit 2) (out44a b es i 1 n u true)), (300015, .loop (hd44b b es i 1 n u true 0 i) (.exit 4) (out44b b es i 1 n u true deep)), (200078, .no), (81, .ret [.own 3 ps]), (200086, .no), (89, .ret [.dat (B true)])] hs (by kernel_rfl) (ob h1 (ob h2 (ob h3 (ob (rfl : false = false) (ob (rfl : false = false) (ob (rfl : false = false) (ob (rfl : false = false) (ob h8 (ob (rfl : false = false) (ob (rfl : _ = hd44a b es i 1 n u (decide (i = 0)) (w64 (i - 1))) (ob h11 (ob (rfl : _ = hd44b b es i 1 n u true 0 i) (ob h13 (ob h14 (ob (rfl : false = false) (ob (rfl : false = false) (ob h17 (ob (rfl : false = false) (ob (rfl : false = false) (ob (rfl : false = false) (ob h21 (ob (rfl : false = false) (ob (rfl : false = false) (ob h24 (ob (rfl : false = false) ob0))))))))))))))))))))))))) (by kernel_rfl) hn
theorem good_ar_2 (kk m : Nat) {s : St} {K : X → St → Prop} (b : Bool) (es : List Dat) (i : Int) (n u : Int) (deep : Int) (hs : s.norm ((envOf cfg kk 44 Go.Proofs.Try.f44).live (firstRegion (lp Go.Proofs.Try.f44 4))) = hd44 b es i) (h1 : decide (i < (es.length : Int)) = true) (h2 : (0 ≤ i ∧ i < (es.length : Int)) ∧ es[i.toNat]? = some (N3 2 n u)) (h3 : (!decide (i = 0) == decide (u = -1)) = false) (h8 : den cfg kk 45 [D.dat (I u), D.dat (I (-1)), D.dat (I (w64 (i - 1)))] [] [] = some ([D.dat (B true)], [], [])) (h11 : LoopAt cfg kk 44 Go.Proofs.Try.f44 10 (hd44a b es i 2 n u (decide (i = 0)) (w64 (i - 1))) (X.exit 2) (out44a b es i 2 n u false)) (h13 : LoopAt cfg kk 44 Go.Proofs.Try.f44 15 (hd44b b es i 2 n u false 0 i) (X.exit 4) (out44b b es i 2 n u false deep)) (hK : K (X.ret) (Nm [2] [D.dat (B false)] [none] [] [])) : Rounds (envOf cfg kk 44 Go.Proofs.Try.f44) kk (lp Go.Proofs.Try.f44 4) (m + 1) s K :=
  rounds_end [(200017, .yes), (19, .at (N3 2 n u)), (200027, .no), (32, .ret [.dat (B true)]), (300010, .loop (hd44a b es i 2 n u (decide (i = 0)) (w64 (i - 1))) (.exit 2) (out44a b es i 2 n u false)), (300015, .loop (hd44b b es i 2 n u false 0 i) (.exit 4) (out44b b es i 2 n u false deep))] hs (by kernel_rfl) rfl (ob h1 (ob h2 (ob h3 (ob (rfl : false = false) (ob (rfl : false = false) (ob (rfl : false = false) (ob (rfl : false = false) (ob h8 (ob (rfl : false = false) (ob (rfl : _ = hd44a b es i 2 n u (decide (i = 0)) (w64 (i - 1))) (ob h11 (ob (rfl : _ = hd44b b es i 2 n u false 0 i) (ob h13 ob0))))))))))))) (by kernel_rfl) hK
theorem good_deep_2 (kk m : Nat) {s : St} {K : X → St → Prop} (b : Bool) (es : List Dat) (i : Int) (n u : Int) (deep : Int) (hs : s.norm ((envOf cfg kk 44 Go.Proofs.Try.f44).live (firstRegion (lp Go.Proofs.Try.f44 4))) = hd44 b es i) (h1 : decide (i < (es.length : Int)) = true) (h2 : (0 ≤ i ∧ i < (es.length : Int)) ∧ es[i.toNat]? = some (N3 2 n u)) (h3 : (!decide (i = 0) == decide (u = -1)) = false) (h8 : den cfg kk 45 [D.dat (I u), D.dat (I (-1)), D.dat (I (w64 (i - 1)))] [] [] = some ([D.dat (B true)], [], [])) (h11 : LoopAt cfg kk 44 Go.Proofs.Try.f44 10 (hd44a b es i 2 n u (decide (i = 0)) (w64 (i - 1))) (X.exit 2) (out44a b es i 2 n u true)) (h13 : LoopAt cfg kk 44 Go.Proofs.Try.f44 15 (hd44b b es i 2 n u true 0 i) (X.exit 4) (out44b b es i 2 n u true deep)) (h14 : decide (40 < deep) = true) (hK : K (X.ret) (Nm [2] [D.dat (B false)] [none] [] [])) : Rounds (envOf cfg kk 44 Go.Proofs.Try.f44) kk (lp Go.Proofs.Try.f44 4) (m + 1) s K :=
  rounds_end [(200017, .yes), (19, .at (N3 2 n u)), (200027, .no), (32, .ret [.dat (B true)]), (300010, .loop (hd44a b es i 2 n u (decide (i = 0)) (w64 (i - 1))) (.exit 2) (out44a b es i 2 n u true)), (300015, .loop (hd44b b es i 2 n u true 0 i) (.exit 4) (out44b b es i 2 n u true deep)), (200078, .yes)] hs (by kernel_rfl) rfl (ob h1 (ob h2 (ob h3 (ob (rfl : false = false) (ob (rfl : false = false) (ob (rfl : false = false) (ob (rfl : false = false) (ob h8 (ob (rfl : false = false) (ob (rfl : _ = hd44a b es i 2 n u (decide (i = 0)) (w64 (i - 1))) (ob h11 (ob (rfl : _ = hd44b b es i 2 n u true 0 i) (ob h13 (ob h14 (ob (rfl : true = true) (ob (rfl : true = true) (ob (rfl : true = true) (ob (rfl : true = true) (ob (rfl : true = true) ob0))))))))))))))))))) (by kernel_rfl) hK
theorem good_parts_2 (kk m : Nat) {s : St} {K : X → St → Prop} (b : Bool) (es : List Dat) (i : Int) (n u : Int) (deep : Int) (ps : List Dat) (hs : s.norm ((envOf cfg kk 44 Go.Proofs.Try.f44).live (firstRegion (lp Go.Proofs.Try.f44 4))) = hd44 b es i) (h1 : decide (i < (es.length : Int)) = true) (h2 : (0 ≤ i ∧ i < (es.length : Int)) ∧ es[i.toNat]? = some (N3 2 n u)) (h3 : (!decide (i = 0) == decide (u = -1)) = false) (h8 : den cfg kk 45 [D.dat (I u), D.dat (I (-1)), D.dat (I (w64 (i - 1)))] [] [] = some ([D.dat (B true)], [], [])) (h11 : LoopAt cfg kk 44 Go.Proofs.Try.f44 10 (hd44a b es i 2 n u (decide (i = 0)) (w64 (i - 1))) (X.exit 2) (out44a b es i 2 n u true)) (h13 : LoopAt cfg kk 44 Go.Proofs.Try.f44 15 (hd44b b es i 2 n u true 0 i) (X.exit 4) (out44b b es i 2 n u true deep)) (h14 : decide (40 < deep) = false) (h17 : den cfg kk 88 [D.dat (Dat.lst b es), D.dat (I i)] [] [] = some ([D.own 3 ps], [], [])) (h21 : (!decide ((ps.length : Int) = 1)) = true) (hK : K (X.ret) (Nm [2] [D.dat (B false)] [none] [] [])) : Rounds (envOf cfg kk 44 Go.Proofs.Try.f44) kk (lp Go.Proofs.Try.f44 4) (m + 1) s K :=
  rounds_end [(200017, .yes), (19, .at (N3 2 n u)), (200027, .no), (32, .ret [.dat (B true)]), (300010, .loop (hd44a b es i 2 n u (decide (i = 0)) (w64 (i - 1))) (.exit 2) (out44a b es i 2 n u true)), (300015, .loop (hd44b b es i 2 n u true 0 i) (.exit 4) (out44b b es i 2 n u true deep)), (200078, .no), (81, .ret [.own 3 ps]), (200086, .yes)] hs (by kernel_rfl) rfl (ob h1 (ob h2 (ob h3 (ob (rfl : false = false) (ob (rfl : false = false) (ob (rfl : false = false) (ob (rfl : false = false) (ob h8 (ob (rfl : false = false) (ob (rfl : _ = hd44a b es i 2 n u (decide (i = 0)) (w64 (i - 1))) (ob h11 (ob (rfl : _ = hd44b b es i 2 n u true 0 i) (ob h13 (ob h14 (ob (rfl : false = false) (ob (rfl : false = false) (ob h17 (ob (rfl : false = false) (ob (rfl : false = false) (ob (rfl : false = false) (ob h21 (ob (rfl : true = true) (ob (rfl : true = true) (ob (rfl : true = true) ob0)))))))))))))))))))))))) (by kernel_rfl) hK
theorem good_n_2 (kk m : Nat) {s : St} {K : X → St → Prop} (b : Bool) (es : List Dat) (i : Int) (n u : Int) (deep : Int) (ps : List Dat) (hs : s.norm ((envOf cfg kk 44 Go.Proofs.Try.f44).live (firstRegion (lp Go.Proofs.Try.f44 4))) = hd44 b es i) (h1 : decide (i < (es.length : Int)) = true) (h2 : (0 ≤ i ∧ i < (es.length : Int)) ∧ es[i.toNat]? = some (N3 2 n u)) (h3 : (!decide (i = 0) == decide (u = -1)) = false) (h8 : den cfg kk 45 [D.dat (I u), D.dat (I (-1)), D.dat (I (w64 (i - 1)))] [] [] = some ([D.dat (B true)], [], [])) (h11 : LoopAt cfg kk 44 Go.Proofs.Try.f44 10 (hd44a b es i 2 n u (decide (i = 0)) (w64 (i - 1))) (X.exit 2) (out44a b es i 2 n u true)) (h13 : LoopAt cfg kk 44 Go.Proofs.Try.f44 15 (hd44b b es i 2 n u true 0 i) (X.exit 4) (out44b b es i 2 n u true deep)) (h14 : decide (40 < deep) = false) (h17 : den cfg kk 88 [D.dat (Dat.lst b es), D.dat (I i)] [] [] = some ([D.own 3 ps], [], [])) (h21 : (!decide ((ps.length : Int) = 1)) = false) (h24 : den cfg kk 45 [D.dat (I n), D.dat (I 0), D.dat (I 99)] [] [] = some ([D.dat (B false)], [], [])) (hK : K (X.ret) (Nm [2] [D.dat (B false)] [none] [] [])) : Rounds (envOf cfg kk 44 Go.Proofs.Try.f44) kk (lp Go.Proofs.Try.f44 4) (m + 1) s K :=
  rounds_end [(200017, .yes), (19, .at (N3 2 n u)), (200027, .no), (32, .ret [.dat (B true)]), (300010, .loop (hd44a b es i 2 n u (decide (i = 0)) (w64 (i - 1))) (.exit 2) (out44a b es i 2 n u true)), (300015, .loop (hd44b b es i 2 n u true 0 i) (.exit 4) (out44b b es i 2 n u true deep)), (200078, .no), (81, .ret [.own 3 ps]), (200086, .no), (89, .ret [.dat (B false)])] hs (by kernel_rfl) rfl (ob h1 (ob h2 (ob h3 (ob (rfl : false = false) (ob (rfl : false = false) (ob (rfl : false = false) (ob (rfl : false = false) (ob h8 (ob (rfl : false = false) (ob (rfl : _ = hd44a b es i 2 n u (decide (i = 0)) (w64 (i - 1))) (ob h11 (ob (rfl : _ = hd44b b es i 2 n u true 0 i) (ob h13 (ob h14 (ob (rfl : false = false) (ob (rfl : false = false) (ob h17 (ob (rfl : false = false) (ob (rfl : false = false) (ob (rfl : false = false) (ob h21 (ob (rfl : false = false) (ob (rfl : false = false) (ob h24 (ob (rfl : false = false) ob0))))))))))))))))))))))))) (by kernel_rfl) hK
theorem good_go_2 (kk m : Nat) {s : St} {K : X → St → Prop} (b : Bool) (es : List Dat) (i : Int) (n u : Int) (deep : Int) (ps : List Dat) (hs : s.norm ((envOf cfg kk 44 Go.Proofs.Try.f44).live (firstRegion (lp Go.Proofs.Try.f44 4))) = hd44 b es i) (h1 : decide (i < (es.length : Int)) = true) (h2 : (0 ≤ i ∧ i < (es.length : Int)) ∧ es[i.toNat]? = some (N3 2 n u)) (h3 : (!decide (i = 0) == decide (u = -1)) = false) (h8 : den cfg kk 45 [D.dat (I u), D.dat (I (-1)), D.dat (I (w64 (i - 1)))] [] [] = some ([D.dat (B true)], [], [])) (h11 : LoopAt cfg kk 44 Go.Proofs.Try.f44 10 (hd44a b es i 2 n u (decide (i = 0)) (w64 (i - 1))) (X.exit 2) (out44a b es i 2 n u true)) (h13 : LoopAt cfg kk 44 Go.Proofs.Try.f44 15 (hd44b b es i 2 n u true 0 i) (X.exit 4) (out44b b es i 2 n u true deep)) (h14 : decide (40 < deep) = false) (h17 : den cfg kk 88 [D.dat (Dat.lst b es), D.dat (I i)] [] [] = some ([D.own 3 ps], [], [])) (h21 : (!decide ((ps.length : Int) = 1)) = false) (h24 : den cfg kk 45 [D.dat (I n), D.dat (I 0), D.dat (I 99)] [] [] = some ([D.dat (B true)], [], [])) (h26 : (!decide (n = 0)) = false) (hn : ∀ s : St, s.norm ((envOf cfg kk 44 Go.Proofs.Try.f44).live (firstRegion (lp Go.Proofs.Try.f44 4))) = Nm [0, 14, 15, 16] [D.dat (Dat.lst b es), D.dat (Dat.lst b es), D.dat (I (es.length : Int)), D.dat (I (w64 (i + 1)))] [none, none, none, none] [] [] → Rounds (envOf cfg kk 44 Go.Proofs.Try.f44) kk (lp Go.Proofs.Try.f44 4) m s K) : Rounds (envOf cfg kk 44 Go.Proofs.Try.f44) kk (lp Go.Proofs.Try.f44 4) (m + 1) s K :=
  rounds_go [(200017, .yes), (19, .at (N3 2 n u)), (200027, .no), (32, .ret [.dat (B true)]), (300010, .loop (hd44a b es i 2 n u (decide (i = 0)) (w64 (i - 1))) (.exit 2) (out44a b es i 2 n u true)), (300015, .loop (hd44b b es i 2 n u true 0 i) (.exit 4) (out44b b es i 2 n u true deep)), (200078, .no), (81, .ret [.own 3 ps]), (200086, .no), (89, .ret [.dat (B true)]), (200101, .no)] hs (by kernel_rfl) (ob h1 (ob h2 (ob h3 (ob (rfl : false = false) (ob (rfl : false = false) (ob (rfl : false = false) (ob (rfl : false = false) (ob h8 (ob (rfl : false = false) (ob (rfl : _ = hd44a b es i 2 n u (decide (i = 0)) (w64 (i - 1))) (ob h11 (ob (rfl : _ = hd44b b es i 2 n u true 0 i) (ob h13 (ob h14 (ob (rfl : false = false) (ob (rfl : false = false) (ob h17 (ob (rfl : false = false) (ob (rfl : false = false) (ob (rfl : false = false) (ob h21 (ob (rfl : false = false) (ob (rfl : false = false) (ob h24 (ob (rfl : false = false) (ob h26 ob0)))))))))))))))))))))))))) (by kernel_rfl) hn
theorem good_num_2 (kk m : Nat) {s : St} {K : X → St → Prop} (b : Bool) (es : List Dat) (i : Int) (n u : Int) (deep : Int) (ps : List Dat) (hs : s.norm ((envOf cfg kk 44 Go.Proofs.Try.f44).live (firstRegion (lp Go.Proofs.Try.f44 4))) = hd44 b es i) (h1 : decide (i < (es.length : Int)) = true) (h2 : (0 ≤ i ∧ i < (es.length : Int)) ∧ es[i.toNat]? = some (N3 2 n u)) (h3 : (!decide (i = 0) == decide (u = -1)) = false) (h8 : den cfg kk 45 [D.dat (I u), D.dat (I (-1)), D.dat (I (w64 (i - 1)))] [] [] = some ([D.dat (B true)], [], [])) (h11 : LoopAt cfg kk 44 Go.Proofs.Try.f44 10 (hd44a b es i 2 n u (decide (i = 0)) (w64 (i - 1))) (X.exit 2) (out44a b es i 2 n u true)) (h13 : LoopAt cfg kk 44 Go.Proofs.Try.f44 15 (hd44b b es i 2 n u true 0 i) (X.exit 4) (out44b b es i 2 n u true deep)) (h14 : decide (40 < deep) = false) (h17 : den cfg kk 88 [D.dat (Dat.lst b es), D.dat (I i)] [] [] = some ([D.own 3 ps], [], [])) (h21 : (!decide ((ps.length : Int) = 1)) = false) (h24 : den cfg kk 45 [D.dat (I n), D.dat (I 0), D.dat (I 99)] [] [] = some ([D.dat (B true)], [], [])) (h26 : (!decide (n = 0)) = true) (hK : K (X.ret) (Nm [2] [D.dat (B false)] [none] [] [])) : Rounds (envOf cfg kk 44 Go.Proofs.Try.f44) kk (lp Go.Proofs.Try.f44 4) (m + 1) s K :=
  rounds_end [(200017, .yes), (19, .at (N3 2 n u)), (200027, .no), (32, .ret [.dat (B true)]), (300010, .loop (hd44a b es i 2 n u (decide (i = 0)) (w64 (i - 1))) (.exit 2) (out44a b es i 2 n u true)), (300015, .loop (hd44b b es i 2 n u true 0 i) (.exit 4) (out44b b es i 2 n u true deep)), (200078, .no), (81, .ret [.own 3 ps]), (200086, .no), (89, .ret [.dat (B true)]), (200101, .yes)] hs (by kernel_rfl) rfl (ob h1 (ob h2 (ob h3 (ob (rfl : false = false) (ob (rfl : false = false) (ob (rfl : false = false) (ob (rfl : false = false) (ob h8 (ob (rfl : false = false) (ob (rfl : _ = hd44a b es i 2 n u (decide (i = 0)) (w64 (i - 1))) (ob h11 (ob (rfl : _ = hd44b b es i 2 n u true 0 i) (ob h13 (ob h14 (ob (rfl : false = false) (ob (rfl : false = false) (ob h17 (ob (rfl : false = false) (ob (rfl : false = false) (ob (rfl : false = false) (ob h21 (ob (rfl : false = false) (ob (rfl : false = false) (ob h24 (ob (rfl : false = false) (ob h26 ob0)))))))))))))))))))))))))) (by kernel_rfl) hK
theorem good_ar_3 (kk m : Nat) {s : St} {K : X → St → Prop} (b : Bool) (es : List Dat) (i : Int) (n u : Int) (deep : Int) (hs : s.norm ((envOf cfg kk 44 Go.Proofs.Try.f44).live (firstRegion (lp Go.Proofs.Try.f44 4))) = hd44 b es i) (h1 : decide (i < (es.length : Int)) = true) (h2 : (0 ≤ i ∧ i < (es.length : Int)) ∧ es[i.toNat]? = some (N3 3 n u)) (h3 : (!decide (i = 0) == decide (u = -1)) = false) (h8 : den cfg kk 45 [D.dat (I u), D.dat (I (-1)), D.dat (I (w64 (i - 1)))] [] [] = some ([D.dat (B true)], [], [])) (h11 : LoopAt cfg kk 44 Go.Proofs.Try.f44 10 (hd44a b es i 3 n u (decide (i = 0)) (w64 (i - 1))) (X.exit 2) (out44a b es i 3 n u false)) (h13 : LoopAt cfg kk 44 Go.Proofs.Try.f44 15 (hd44b b es i 3 n u false 0 i) (X.exit 4) (out44b b es i 3 n u false deep)) (hK : K (X.ret) (Nm [2] [D.dat (B false)] [none] [] [])) : Rounds (envOf cfg kk 44 Go.Proofs.Try.f44) kk (lp Go.Proofs.Try.f44 4) (m + 1) s K :=
  rounds_end [(200017, .yes), (19, .at (N3 3 n u)), (200027, .no), (32, .ret [.dat (B true)]), (300010, .loop (hd44a b es i 3 n u (decide (i = 0)) (w64 (i - 1))) (.exit 2) (out44a b es i 3 n u false)), (300015, .loop (hd44b b es i 3 n u false 0 i) (.exit 4) (out44b b es i 3 n u false deep))] hs (by kernel_rfl) rfl (ob h1 (ob h2 (ob h3 (ob (rfl : false = false) (ob (rfl : false = false) (ob (rfl : false = false) (ob (rfl : false = false) (ob h8 (ob (rfl : false = false) (ob (rfl : _ = hd44a b es i 3 n u (decide (i = 0)) (w64 (i - 1))) (ob h11 (ob (rfl : _ = hd44b b es i 3 n u false 0 i) (ob h13 ob0))))))))))))) (by kernel_rfl) hK
theorem good_deep_3 (kk m : Nat) {s : St} {K : X → St → Prop} (b : Bool) (es : List Dat) (i : Int) (n u : Int) (deep : Int) (hs : s.norm ((envOf cfg kk 44 Go.Proofs.Try.f44).live (firstRegion (lp Go.Proofs.Try.f44 4))) = hd44 b es i) (h1 : decide (i < (es.length : Int)) = true) (h2 : (0 ≤ i ∧ i < (es.length : Int)) ∧ es[i.toNat]? = some (N3 3 n u)) (h3 : (!decide (i = 0) == decide (u = -1)) = false) (h8 : den cfg kk 45 [D.dat (I u), D.dat (I (-1)), D.dat (I (w64 (i - 1)))] [] [] = some ([D.dat (B true)], [], [])) (h11 : LoopAt cfg kk 44 Go.Proofs.Try.f44 10 (hd44a b es i 3 n u (decide (i = 0)) (w64 (i - 1))) (X.exit 2) (out44a b es i 3 n u true)) (h13 : LoopAt cfg kk 44 Go.Proofs.Try.f44 15 (hd44b b es i 3 n u true 0 i) (X.exit 4) (out44b b es i 3 n u true deep)) (h14 : decide (40 < deep) = true) (hK : K (X.ret) (Nm [2] [D.dat (B false)] [none] [] [])) : Rounds (envOf cfg kk 44 Go.Proofs.Try.f44) kk (lp Go.Proofs.Try.f44 4) (m + 1) s K :=
  rounds_end [(200017, .yes), (19, .at (N3 3 n u)), (200027, .no), (32, .ret [.dat (B true)]), (300010, .loop (hd44a b es i 3 n u (decide (i = 0)) (w64 (i - 1))) (.exit 2) (out44a b es i 3 n u true)), (300015, .loop (hd44b b es i 3 n u true 0 i) (.exit 4) (out44b b es i 3 n u true deep)), (200078, .yes)] hs (by kernel_rfl) rfl (ob h1 (ob h2 (ob h3 (ob (rfl : false = false) (ob (rfl : false = false) (ob (rfl : false = false) (ob (rfl : false = false) (ob h8 (ob (rfl : false = false) (ob (rfl : _ = hd44a b es i 3 n u (decide (i = 0)) (w64 (i - 1))) (ob h11 (ob (rfl : _ = hd44b b es i 3 n u true 0 i) (ob h13 (ob h14 (ob (rfl : true = true) (ob (rfl : true = true) (ob (rfl : true = true) (ob (rfl : true = true) (ob (rfl : true = true) ob0))))))))))))))))))) (by kernel_rfl) hK
theorem good_parts_3 (kk m : Nat) {s : St} {K : X → St → Prop} (b : Bool) (es : List Dat) (i : Int) (n u : Int) (deep : Int) (ps : List Dat) (hs : s.norm ((envOf cfg kk 44 Go.Proofs.Try.f44).live (firstRegion (lp Go.Proofs.Try.f44 4))) = hd44 b es i) (h1 : decide (i < (es.length : Int)) = true) (h2 : (0 ≤ i ∧ i < (es.length : Int)) ∧ es[i.toNat]? = some (N3 3 n u)) (h3 : (!decide (i = 0) == decide (u = -1)) = false) (h8 : den cfg kk 45 [D.dat (I u), D.dat (I (-1)), D.dat (I (w64 (i - 1)))] [] [] = some ([D.dat (B true)], [], [])) (h11 : LoopAt cfg kk 44 Go.Proofs.Try.f44 10 (hd44a b es i 3 n u (decide (i = 0)) (w64 (i - 1))) (X.exit 2) (out44a b es i 3 n u true)) (h13 : LoopAt cfg kk 44 Go.Proofs.Try.f44 15 (hd44b b es i 3 n u true 0 i) (X.exit 4) (out44b b es i 3 n u true deep)) (h14 : decide (40 < deep) = false) (h17 : den cfg kk 88 [D.dat (Dat.lst b es), D.dat (I i)] [] [] = some ([D.own 3 ps], [], [])) (h21 : (!decide ((ps.length : Int) = 2)) = true) (hK : K (X.ret) (Nm [2] [D.dat (B false)] [none] [] [])) : Rounds (envOf cfg kk 44 Go.Proofs.Try.f44) kk (lp Go.Proofs.Try.f44 4) (m + 1) s K :=
  rounds_end [(200017, .yes), (19, .at (N3 3 n u)), (200027, .no), (32, .ret [.dat (B true)]), (300010, .loop (hd44a b es i 3 n u (decide (i = 0)) (w64 (i - 1))) (.exit 2) (out44a b es i 3 n u true)), (300015, .loop (hd44b b es i 3 n u true 0 i) (.exit 4) (out44b b es i 3 n u true deep)), (200078, .no), (81, .ret [.own 3 ps]), (200086, .yes)] hs (by kernel_rfl) rfl (ob h1 (ob h2 (ob h3 (ob (rfl : false = false) (ob (rfl : false = false) (ob (rfl : false = false) (ob (rfl : false = false) (ob h8 (ob (rfl : false = false) (ob (rfl : _ = hd44a b es i 3 n u (decide (i = 0)) (w64 (i - 1))) (ob h11 (ob (rfl : _ = hd44b b es i 3 n u true 0 i) (ob h13 (ob h14 (ob (rfl : false = false) (ob (rfl : false = false) (ob h17 (ob (rfl : false = false) (ob (rfl : false = false) (ob (rfl : false = false) (ob h21 (ob (rfl : true = true) (ob (rfl : true = true) (ob (rfl : true = true) ob0)))))))))))))))))))))))) (by kernel_rfl) hK
theorem good_n_3 (kk m : Nat) {s : St} {K : X → St → Prop} (b : Bool) (es : List Dat) (i : Int) (n u : Int) (deep : Int) (ps : List Dat) (hs : s.norm ((envOf cfg kk 44 Go.Proofs.Try.f44).live (firstRegion (lp Go.Proofs.Try.f44 4))) = hd44 b es i) (h1 : decide (i < (es.length : Int)) = true) (h2 : (0 ≤ i ∧ i < (es.length : Int)) ∧ es[i.toNat]? = some (N3 3 n u)) (h3 : (!decide (i = 0) == decide (u = -1)) = false) (h8 : den cfg kk 45 [D.dat (I u), D.dat (I (-1)), D.dat (I (w64 (i - 1)))] [] [] = some ([D.dat (B true)], [], [])) (h11 : LoopAt cfg kk 44 Go.Proofs.Try.f44 10 (hd44a b es i 3 n u (decide (i = 0)) (w64 (i - 1))) (X.exit 2) (out44a b es i 3 n u true)) (h13 : LoopAt cfg kk 44 Go.Proofs.Try.f44 15 (hd44b b es i 3 n u true 0 i) (X.exit 4) (out44b b es i 3 n u true deep)) (h14 : decide (40 < deep) = false) (h17 : den cfg kk 88 [D.dat (Dat.lst b es), D.dat (I i)] [] [] = some ([D.own 3 ps], [], [])) (h21 : (!decide ((ps.length : Int) = 2)) = false) (h24 : den cfg kk 45 [D.dat (I n), D.dat (I 0), D.dat (I 99)] [] [] = some ([D.dat (B false)], [], [])) (hK : K (X.ret) (Nm [2] [D.dat (B false)] [none] [] [])) : Rounds (envOf cfg kk 44 Go.Proofs.Try.f44) kk (lp Go.Proofs.Try.f44 4) (m + 1) s K :=
  rounds_end [(200017, .yes), (19, .at (N3 3 n u)), (200027, .no), (32, .ret [.dat (B true)]), (300010, .loop (hd44a b es i 3 n u (decide (i = 0)) (w64 (i - 1))) (.exit 2) (out44a b es i 3 n u true)), (300015, .loop (hd44b b es i 3 n u true 0 i) (.exit 4) (out44b b es i 3 n u true deep)), (200078, .no), (81, .ret [.own 3 ps]), (200086, .no), (89, .ret [.dat (B false)])] hs (by kernel_rfl) rfl (ob h1 (ob h2 (ob h3 (ob (rfl : false = false) (ob (rfl : false = false) (ob (rfl : false = false) (ob (rfl : false = false) (ob h8 (ob (rfl : false = false) (ob (rfl : _ = hd44a b es i 3 n u (decide (i = 0)) (w64 (i - 1))) (ob h11 (ob (rfl : _ = hd44b b es i 3 n u true 0 i) (ob h13 (ob h14 (ob (rfl : false = false) (ob (rfl : false = false) (ob h17 (ob (rfl : false = false) (ob (rfl : false = false) (ob (rfl : false = false) (ob h21 (ob (rfl : false = false) (ob (rfl : false = false) (ob h24 (ob (rfl : false = false) ob0))))))))))))))))))))))))) (by kernel_rfl) hK
theorem good_go_3 (kk m : Nat) {s : St} {K : X → St → Prop} (b : Bool) (es : List Dat) (i : Int) (n u : Int) (deep : Int) (ps : List Dat) (hs : s.norm ((envOf cfg kk 44 Go.Proofs.Try.f44).live (firstRegion (lp Go.Proofs.Try.f44 4))) = hd44 b es i) (h1 : decide (i < (es.length : Int)) = true) (h2 : (0 ≤ i ∧ i < (es.length : Int)) ∧ es[i.toNat]? = some (N3 3 n u)) (h3 : (!decide (i = 0) == decide (u = -1)) = false) (h8 : den cfg kk 45 [D.dat (I u), D.dat (I (-1)), D.dat (I (w64 (i - 1)))] [] [] = some ([D.dat (B true)], [], [])) (h11 : LoopAt cfg kk 44 Go.Proofs.Try.f44 10 (hd44a b es i 3 n u (decide (i = 0)) (w64 (i - 1))) (X.exit 2) (out44a b es i 3 n u true)) (h13 : LoopAt cfg kk 44 Go.Proofs.Try.f44 15 (hd44b b es i 3 n u true 0 i) (X.exit 4) (out44b b es i 3 n u true deep)) (h14 : decide (40 < deep) = false) (h17 : den cfg kk 88 [D.dat (Dat.lst b es), D.dat (I i)] [] [] = some ([D.own 3 ps], [], [])) (h21 : (!decide ((ps.length : Int) = 2)) = false) (h24 : den cfg kk 45 [D.dat (I n), D.dat (I 0), D.dat (I 99)] [] [] = some ([D.dat (B true)], [], [])) (h26 : (!decide (n = 0)) = false) (hn : ∀ s : St, s.norm ((envOf cfg kk 44 Go.Proofs.Try.f44).live (firstRegion (lp Go.Proofs.Try.f44 4))) = Nm [0, 14, 15, 16] [D.dat (Dat.lst b es), D.dat (Dat.lst b es), D.dat (I (es.length : Int)), D.dat (I (w64 (i + 1)))] [none, none, none, none] [] [] → Rounds (envOf cfg kk 44 Go.Proofs.Try.f44) kk (lp Go.Proofs.Try.f44 4) m s K) : Rounds (envOf cfg kk 44 Go.Proofs.Try.f44) kk (lp Go.Proofs.Try.f44 4) (m + 1) s K :=
  rounds_go [(200017, .yes), (19, .at (N3 3 n u)), (200027, .no), (32, .ret [.dat (B true)]), (300010, .loop (hd44a b es i 3 n u (decide (i = 0)) (w64 (i - 1))) (.exit 2) (out44a b es i 3 n u true)), (300015, .loop (hd44b b es i 3 n u true 0 i) (.exit 4) (out44b b es i 3 n u true deep)), (200078, .no), (81, .ret [.own 3 ps]), (200086, .no), (89, .ret [.dat (B true)]), (200101, .no)] hs (by kernel_rfl) (ob h1 (ob h2 (ob h3 (ob (rfl : false = false) (ob (rfl : false = false) (ob (rfl : false = false) (ob (rfl : false = false) (ob h8 (ob (rfl : false = false) (ob (rfl : _ = hd44a b es i 3 n u (decide (i = 0)) (w64 (i - 1))) (ob h11 (ob (rfl : _ = hd44b b es i 3 n u true 0 i) (ob h13 (ob h14 (ob (rfl : false = false) (ob (rfl : false = false) (ob h17 (ob (rfl : false = false) (ob (rfl : false = false) (ob (rfl : false = false) (ob h21 (ob (rfl : false = false) (ob (rfl : false = false) (ob h24 (ob (rfl : false = false) (ob h26 ob0)))))))))))))))))))))))))) (by kernel_rfl) hn
theorem good_num_3 (kk m : Nat) {s : St} {K : X → St → Prop} (b : Bool) (es : List Dat) (i : Int) (n u : Int) (deep : Int) (ps : List Dat) (hs : s.norm ((envOf cfg kk 44 Go.Proofs.Try.f44).live (firstRegion (lp Go.Proofs.Try.f44 4))) = hd44 b es i) (h1 : decide (i < (es.length : Int)) = true) (h2 : (0 ≤ i ∧ i < (es.length : Int)) ∧ es[i.toNat]? = some (N3 3 n u)) (h3 : (!decide (i = 0) == decide (u = -1)) = false) (h8 : den cfg kk 45 [D.dat (I u), D.dat (I (-1)), D.dat (I (w64 (i - 1)))] [] [] = some ([D.dat (B true)], [], [])) (h11 : LoopAt cfg kk 44 Go.Proofs.Try.f44 10 (hd44a b es i 3 n u (decide (i = 0)) (w64 (i - 1))) (X.exit 2) (out44a b es i 3 n u true)) (h13 : LoopAt cfg kk 44 Go.Proofs.Try.f44 15 (hd44b b es i 3 n u true 0 i) (X.exit 4) (out44b b es i 3 n u true deep)) (h14 : decide (40 < deep) = false) (h17 : den cfg kk 88 [D.dat (Dat.lst b es), D.dat (I i)] [] [] = some ([D.own 3 ps], [], [])) (h21 : (!decide ((ps.length : Int) = 2)) = false) (h24 : den cfg kk 45 [D.dat (I n), D.dat (I 0), D.dat (I 99)] [] [] = some ([D.dat (B true)], [], [])) (h26 : (!decide (n = 0)) = true) (hK : K (X.ret) (Nm [2] [D.dat (B false)] [none] [] [])) : Rounds (envOf cfg kk 44 Go.Proofs.Try.f44) kk (lp Go.Proofs.Try.f44 4) (m + 1) s K :=
  rounds_end [(200017, .yes), (19, .at (N3 3 n u)), (200027, .no), (32, .ret [.dat (B true)]), (300010, .loop (hd44a b es i 3 n u (decide (i = 0)) (w64 (i - 1))) (.exit 2) (out44a b es i 3 n u true)), (300015, .loop (hd44b b es i 3 n u true 0 i) (.exit 4) (out44b b es i 3 n u true deep)), (200078, .no), (81, .ret [.own 3 ps]), (200086, .no), (89, .ret [.dat (B true)]), (200101, .yes)] hs (by kernel_rfl) rfl (ob h1 (ob h2 (ob h3 (ob (rfl : false = false) (ob (rfl : false = false) (ob (rfl : false = false) (ob (rfl : false = false) (ob h8 (ob (rfl : false = false) (ob (rfl : _ = hd44a b es i 3 n u (decide (i = 0)) (w64 (i - 1))) (ob h11 (ob (rfl : _ = hd44b b es i 3 n u true 0 i) (ob h13 (ob h14 (ob (rfl : false = false) (ob (rfl : false = false) (ob h17 (ob (rfl : false = false) (ob (rfl : false = false) (ob (rfl : false = false) (ob h21 (ob (rfl : false = false) (ob (rfl : false = false) (ob h24 (ob (rfl : false = false) (ob h26 ob0)))))))))))))))))))))))))) (by kernel_rfl) hK
theorem GoodTerm_few (kk : Nat) (b : Bool) (es : List Dat) (h1 : den cfg kk 45 [D.dat (I (es.length : Int)), D.dat (I 1), D.dat (I 150)] [] [] = some ([D.dat (B false)], [], [])) : runFn cfg kk (den cfg kk) 44 Go.Proofs.Try.f44 [.dat (Dat.lst b es)] [] [] = some ([D.dat (B false)], [], []) :=
  hrun_ok [(12, .ret [.dat (B false)])] (ob h1 ob0) (by kernel_rfl)
theorem GoodTerm_yes (kk : Nat) (b : Bool) (es : List Dat) (h1 : den cfg kk 45 [D.dat (I (es.length : Int)), D.dat (I 1), D.dat (I 150)] [] [] = some ([D.dat (B true)], [], [])) (h3 : LoopAt cfg kk 44 Go.Proofs.Try.f44 4 (hd44 b es 0) (X.exit 0) (Nm [2] [D.junk] [none] [] [])) : runFn cfg kk (den cfg kk) 44 Go.Proofs.Try.f44 [.dat (Dat.lst b es)] [] [] = some ([D.dat (B true)], [], []) :=
  hrun_ok [(12, .ret [.dat (B true)]), (300004, .loop (hd44 b es 0) (.exit 0) (Nm [2] [.junk] [none] [] []))] (ob h1 (ob (rfl : _ = hd44 b es 0) (ob h3 ob0))) (by kernel_rfl)
theorem GoodTerm_no (kk : Nat) (b : Bool) (es : List Dat) (h1 : den cfg kk 45 [D.dat (I (es.length : Int)), D.dat (I 1), D.dat (I 150)] [] [] = some ([D.dat (B true)], [], [])) (h3 : LoopAt cfg kk 44 Go.Proofs.Try.f44 4 (hd44 b es 0) X.ret (Nm [2] [D.dat (B false)] [none] [] [])) : runFn cfg kk (den cfg kk) 44 Go.Proofs.Try.f44 [.dat (Dat.lst b es)] [] [] = some ([D.dat (B false)], [], []) :=
  hrun_ok [(12, .ret [.dat (B true)]), (300004, .loop (hd44 b es 0) .ret (Nm [2] [.dat (B false)] [none] [] []))] (ob h1 (ob (rfl : _ = hd44 b es 0) (ob h3 ob0))) (by kernel_rfl)
end Go.Den
namespace Go.Den
open Go
set_option linter.unusedVariables false
set_option maxRecDepth 100000
theorem assoc_no {α : Type} {f : Nat} : ∀ {l : List (Nat × α)}, memN f (l.map (·.1)) = false → assoc l f = none
  | [], _ => rfl
  | (a, x) :: l, h => by
    simp only [List.map_cons, memN] at h
    unfold assoc
    split at h
    · cases h
    · rename_i hb
      have hab : Nat.beq a f = false := by
        cases hc : Nat.beq a f with
        | false => rfl
        | true =>
          have := Nat.eq_of_beq_eq_true hc
          subst this
          have hr : Nat.beq a a = true := Nat.beq_refl a
          rw [hr] at hb
          cases hb
      rw [hab]
      exact assoc_no h
theorem ext_nums : extsOf.map (·.1) = extNums := by rfl
theorem noExt {f : Nat} {fn : Func} (h : cfg.fn f = some fn) : cfg.ext f = none := by
  unfold cfg at h ⊢
  simp only at h ⊢
  split at h
  · rename_i hb
    simp only [Bool.and_eq_true, Bool.not_eq_true'] at hb
    exact assoc_no (by rw [ext_nums]; exact hb.2)
  · cases h
/-- A call that comes back, with fuel N or more. -/
def EvN (N f : Nat) (args : List D) (u : List (List D)) (l : List (Option Row)) (r : Res) : Prop := ∀ k, N ≤ k → den cfg k f args u l = some r
theorem EvN.mono {N M f : Nat} {args : List D} {u : List (List D)} {l : List (Option Row)} {r : Res} (h : EvN N f args u l r) (hNM : N ≤ M) : EvN M f args u l r := fun k hk => h k (by omega)
theorem ev_fn {f : Nat} (fn : Func) {args : List D} {u : List (List D)} {l : List (Option Row)} {r : Res} (N : Nat) (hf : cfg.fn f = some fn) (hl : Nat.ble args.length fn.ntmps = true) (h : ∀ kk, N ≤ kk → runFn cfg kk (den cfg kk) f fn args u l = some r) : EvN (N + 1) f args u l r := fun k hk => by
  obtain ⟨m, rfl⟩ : ∃ m, k = m + 1 := ⟨k - 1, by omega⟩
  simp only [den, noExt hf, hf, hl]
  exact h m (by omega)
theorem w64_eq {n : Int} (h : -9223372036854775808 ≤ n ∧ n ≤ 9223372036854775807) : w64 n = n := by show IntKind.i64.wrap n = n; rw [IntKind.wrap_i64]; omega
/-- Rounds that count up. -/
theorem range_rounds {E : Env} {kk : Nat} {c : Code} {K : X → St → Prop} (st : Nat → St) (n : Nat)
    (hgo : ∀ i, i < n → ∀ (m : Nat) (s : St), s.norm (E.live (firstRegion c)) = st i → (∀ s : St, s.norm (E.live (firstRegion c)) = st (i + 1) → Rounds E kk c m s K) → Rounds E kk c (m + 1) s K)
    (hend : ∀ (m : Nat) (s : St), s.norm (E.live (firstRegion c)) = st n → Rounds E kk c (m + 1) s K) : ∀ (d i m : Nat), i + d = n → d < m → ∀ s : St, s.norm (E.live (firstRegion c)) = st i → Rounds E kk c m s K
  | 0, i, m, hi, hm, s, hs => by
    obtain ⟨m, rfl⟩ : ∃ k, m = k + 1 := ⟨m - 1, by omega⟩
    have : i = n := by omega
    subst this
    exact hend m s hs
  | d + 1, i, m, hi, hm, s, hs => by
    obtain ⟨m, rfl⟩ : ∃ k, m = k + 1 := ⟨m - 1, by omega⟩
    exact hgo i (by omega) m s hs fun s' hs' => range_rounds st n hgo hend d (i + 1) m (by omega) (by omega) s' hs'
theorem loopAt_range {kk f : Nat} {fn : Func} {r : Nat} {x : X} {s' : St} (st : Nat → St) (n : Nat) (hk : n < kk)
    (hgo : ∀ i, i < n → ∀ (m : Nat) (s : St) (K : X → St → Prop), s.norm ((envOf cfg kk f fn).live (firstRegion (lp fn r))) = st i → (∀ s : St, s.norm ((envOf cfg kk f fn).live (firstRegion (lp fn r))) = st (i + 1) → Rounds (envOf cfg kk f fn) kk (lp fn r) m s K) → Rounds (envOf cfg kk f fn) kk (lp fn r) (m + 1) s K)
    (hend : ∀ (m : Nat) (s : St) (K : X → St → Prop), s.norm ((envOf cfg kk f fn).live (firstRegion (lp fn r))) = st n → K x s' → Rounds (envOf cfg kk f fn) kk (lp fn r) (m + 1) s K) {s0 : St} (h0 : s0 = st 0) : LoopAt cfg kk f fn r s0 x s' :=
  loopOb_of fun s hs => range_rounds st n (fun i hi m s hs hn => hgo i hi m s _ hs hn) (fun m s hs => hend m s _ hs ⟨rfl, rfl⟩) n 0 kk (by omega) hk s (by rw [hs, h0])
structure Nd where
  k : Int
  n : Int
  u : Int
def Nd.d (x : Nd) : Dat := N3 x.k x.n x.u
theorem ev_sz_go (L : List Dat) (left : Int) (b : Bool) (h1 : 0 ≤ left - L.length) (h2 : left ≤ 1048576) : EvN 1 15 [.dat (.lst b L), .dat (I left)] [] [] ([.dat (I (left - L.length))], [], []) := by
  refine ev_fn Go.Proofs.Try.f15 0 (by kernel_rfl) (by kernel_rfl) fun kk _ => ?_
  have hw : w64 (left - L.length) = left - L.length := w64_eq (by omega)
  have := sz_go kk left b L (by rw [hw]; exact decide_eq_false (by omega))
  rw [this, hw]
theorem ev_sz_no (L : List Dat) (left : Int) (b : Bool) (h1 : left - L.length < 0) (h2 : 0 ≤ left) (h3 : L.length ≤ 9223372036854775807) : EvN 1 15 [.dat (.lst b L), .dat (I left)] [] [] ([.dat (I (-1))], [], []) := by
  refine ev_fn Go.Proofs.Try.f15 0 (by kernel_rfl) (by kernel_rfl) fun kk _ => ?_
  have hw : w64 (left - L.length) = left - L.length := w64_eq (by omega)
  exact sz_no kk left b L (by rw [hw]; exact decide_eq_true (by omega))
theorem ev_toTerm (x : Nd) : EvN 1 49 [.dat x.d] [] [] ([.dat x.d], [], []) :=
  ev_fn Go.Proofs.Try.f49 0 (by kernel_rfl) (by kernel_rfl) fun kk _ => toTerm kk x.k x.n x.u
theorem set_mid {α : Type} (a : List α) (z x : α) (i : Nat) (hi : i < a.length) (hx : a[i]? = some x) : (a.take i ++ List.replicate (a.length - i) z).set i x = a.take (i + 1) ++ List.replicate (a.length - (i + 1)) z := by
  have h1 : (a.take i).length = i := by simp; omega
  obtain ⟨m, hm⟩ : ∃ m, a.length - i = m + 1 := ⟨a.length - i - 1, by omega⟩
  rw [hm, show a.length - (i + 1) = m by omega, List.replicate_succ, List.set_append_right _ _ (by omega), h1, Nat.sub_self, List.set_cons_zero, List.take_add_one, hx]
  simp
theorem get_mid {α : Type} (a : List α) (z : α) (i : Nat) (hi : i < a.length) : (a.take i ++ List.replicate (a.length - i) z)[i]? = some z := by
  have h1 : (a.take i).length = i := by simp; omega
  rw [List.getElem?_append_right (by omega), h1, Nat.sub_self, List.getElem?_replicate, if_pos (by omega)]
theorem ev_toTermS (L : List Nd) (h : L.length ≤ 1048576) : EvN 1048580 17 [.dat (.lst false (L.map Nd.d))] [] [] ([.own 50 (L.map Nd.d)], [], []) := by
  refine ev_fn Go.Proofs.Try.f17 1048579 (by kernel_rfl) (by kernel_rfl) fun kk hkk => ?_
  have hlen : (L.map Nd.d).length = L.length := by simp
  generalize hes : L.map Nd.d = es at *
  refine toTermS kk es es ⟨by omega, by omega, by omega⟩ ?_
  refine loopAt_range (fun i => hd17 es (es.take i ++ List.replicate (es.length - i) (N3 0 0 0)) i) es.length (by omega) (fun i hi m s K hs hn => ?_) (fun m s K hs hK => ?_) (by simp)
  · obtain ⟨x, hx⟩ : ∃ x, L[i]? = some x := ⟨_, List.getElem?_eq_getElem (by omega)⟩
    have hxd : es[i]? = some x.d := by rw [← hes, List.getElem?_map, hx]; rfl
    have hto : ((i : Int)).toNat = i := by simp
    refine toTermS_go kk m es _ i x.k x.n x.u 0 0 0 hs (decide_eq_true (by omega)) ⟨⟨by omega, by omega⟩, by rw [hto]; exact hxd⟩ (ev_toTerm x kk (by omega)) ⟨by omega, by simp; omega⟩ (by rw [hto]; exact get_mid es _ i hi) fun s' hs' => hn s' ?_
    rw [hs', hto, w64_eq (by omega), show N3 x.k x.n x.u = x.d from rfl, set_mid es _ _ i hi hxd]
    rfl
  · refine toTermS_end kk m es _ _ hs (decide_eq_false (by omega)) ?_
    simpa using hK
theorem ev_eqTerm (x : Nd) : EvN 1 53 [.dat x.d, .dat x.d] [] [] ([.dat (B true)], [], []) :=
  ev_fn Go.Proofs.Try.f53 0 (by kernel_rfl) (by kernel_rfl) fun kk _ => eqTerm_y kk x.k x.n x.u x.k x.n x.u (by simp) (by simp) (by simp)
/-- A list is as it is. -/
theorem ev_eqTermS (L : List Nd) (b1 b2 : Bool) (h : L.length ≤ 1048576) : EvN 1048580 19 [.dat (.lst b1 (L.map Nd.d)), .dat (.lst b2 (L.map Nd.d))] [] [] ([.dat (B true)], [], []) := by
  refine ev_fn Go.Proofs.Try.f19 1048579 (by kernel_rfl) (by kernel_rfl) fun kk hkk => ?_
  have hlen : (L.map Nd.d).length = L.length := by simp
  generalize hes : L.map Nd.d = es at *
  refine eqTermS_y kk b1 b2 es es (by simp) ?_
  refine loopAt_range (fun i => hd19 b1 b2 es es i) es.length (by omega) (fun i hi m s K hs hn => ?_) (fun m s K hs hK => ?_) rfl
  · obtain ⟨x, hx⟩ : ∃ x, L[i]? = some x := ⟨_, List.getElem?_eq_getElem (by omega)⟩
    have hxd : es[i]? = some x.d := by rw [← hes, List.getElem?_map, hx]; rfl
    have hto : ((i : Int)).toNat = i := by simp
    refine eqTermS_go kk m b1 b2 es es i x.k x.n x.u x.k x.n x.u hs (decide_eq_true (by omega)) ⟨⟨by omega, by omega⟩, by rw [hto]; exact hxd⟩ ⟨⟨by omega, by omega⟩, by rw [hto]; exact hxd⟩ (ev_eqTerm x kk (by omega)) fun s' hs' => hn s' ?_
    rw [hs', w64_eq (by omega)]
    rfl
  · exact eqTermS_end kk m b1 b2 es es _ hs (decide_eq_false (by omega)) hK
/-- Nodes with a number each. -/
def marked (k : Int) : Nat → List Nd
  | 0 => []
  | n + 1 => ⟨k, k + 1, k + 2⟩ :: marked (k + 3) n
end Go.Den
namespace Go.Den
open Go
set_option linter.unusedVariables false
set_option maxRecDepth 100000
/-- Terms as nodes tell them (the number stands in each node). -/
inductive Pt where
  | var (n : Int)
  | lam (n : Int) (t : Pt)
  | app (n : Int) (a b : Pt)
def Pt.kd : Pt → Int
  | .var _ => 1
  | .lam _ _ => 2
  | .app _ _ _ => 3
def Pt.num : Pt → Int
  | .var n => n
  | .lam n _ => n
  | .app n _ _ => n
def Pt.kids : Pt → List Pt
  | .var _ => []
  | .lam _ t => [t]
  | .app _ a b => [a, b]
def Pt.d : Pt → Dat
  | .var n => T 1 n []
  | .lam n t => T 2 n [t.d]
  | .app n a b => T 3 n [a.d, b.d]
def Pt.size : Pt → Nat
  | .var _ => 1
  | .lam _ t => 1 + t.size
  | .app _ a b => 1 + a.size + b.size
def Pt.depth : Pt → Nat
  | .var _ => 1
  | .lam _ t => t.depth + 1
  | .app _ a b => max a.depth b.depth + 1
def Pt.nums : Pt → Bool
  | .var n => decide (0 ≤ n) && decide (n ≤ 99)
  | .lam n t => decide (n = 0) && t.nums
  | .app n a b => decide (n = 0) && (a.nums && b.nums)
def Pt.good (t : Pt) : Bool := decide (t.size ≤ 150) && (decide (t.depth ≤ 40) && t.nums)
theorem Pt.d_eq (t : Pt) : t.d = T t.kd t.num (t.kids.map Pt.d) := by cases t <;> rfl
theorem Pt.kids_lt {t x : Pt} (h : x ∈ t.kids) : x.size < t.size ∧ x.depth < t.depth := by
  cases t with
  | var n => cases h
  | lam n t =>
    simp only [Pt.kids, List.mem_singleton] at h
    subst h
    simp only [Pt.size, Pt.depth]
    omega
  | app n a b =>
    simp only [Pt.kids, List.mem_cons, List.not_mem_nil, or_false] at h
    simp only [Pt.size, Pt.depth]
    rcases h with rfl | rfl <;> omega
theorem Pt.kids_le (t : Pt) : t.kids.length ≤ 2 := by cases t <;> simp [Pt.kids]
theorem Pt.size_kids (t : Pt) : t.size = 1 + (t.kids.map Pt.size).sum := by cases t <;> simp [Pt.kids, Pt.size] <;> omega
theorem Pt.depth_pos (t : Pt) : 1 ≤ t.depth := by cases t <;> simp [Pt.depth]
theorem Pt.size_pos (t : Pt) : 1 ≤ t.size := by cases t <;> simp [Pt.size] <;> omega
theorem Pt.depth_le : ∀ t : Pt, t.depth ≤ t.size
  | .var _ => by simp [Pt.depth, Pt.size]
  | .lam _ t => by have := t.depth_le; simp only [Pt.depth, Pt.size]; omega
  | .app _ a b => by have := a.depth_le; have := b.depth_le; simp only [Pt.depth, Pt.size]; omega
theorem kid_at {ks : List Pt} {i : Nat} (h : i < ks.length) : ∃ x, ks[i]? = some x ∧ x ∈ ks ∧ (ks.map Pt.d)[i]? = some (T x.kd x.num (x.kids.map Pt.d)) := by
  have hx := List.getElem?_eq_getElem h
  exact ⟨ks[i], hx, List.getElem_mem h, by rw [List.getElem?_map, hx, ← Pt.d_eq]; rfl⟩
theorem sum_le {ks : List Pt} (i : Nat) : ((ks.take i).map Pt.size).sum ≤ (ks.map Pt.size).sum := by
  conv => rhs; rw [← List.take_append_drop i ks, List.map_append, List.sum_append]
  omega
theorem ev_size : ∀ (d : Nat) (t : Pt), t.depth ≤ d → t.size ≤ 1000000000000 → EvN (d + 5) 99 [.dat t.d] [] [] ([.dat (I t.size)], [], [])
  | 0, t, hd, hz => by have := t.depth_pos; omega
  | d + 1, t, hd, hz => by
    refine ev_fn Go.Proofs.Try.f99 (d + 5) (by kernel_rfl) (by kernel_rfl) fun kk hkk => ?_
    rw [Pt.d_eq]
    refine size kk _ _ _ _ ?_
    have hle := t.kids_le
    have hsz := t.size_kids
    let st := fun i : Nat => hd99 (t.kids.map Pt.d) ((1 + ((t.kids.take i).map Pt.size).sum : Nat) : Int) i
    refine loopAt_range st t.kids.length (by omega) (fun i hi m s K hs hn => ?_) (fun m s K hs hK => ?_) (by simp [st])
    · obtain ⟨x, h1, h2, h3⟩ := kid_at hi
      have hx := Pt.kids_lt h2
      have hev := ev_size d x (by omega) (by omega) kk (by omega)
      rw [Pt.d_eq] at hev
      have hto : ((i : Int)).toNat = i := by simp
      refine size_go kk m _ _ _ x.kd x.num x.size _ hs (decide_eq_true (by simp; omega)) ⟨⟨by omega, by simp; omega⟩, by rw [hto]; exact h3⟩ hev fun s' hs' => hn s' ?_
      have hb := sum_le (ks := t.kids) i
      have hb2 := sum_le (ks := t.kids) (i + 1)
      have hstep : ((t.kids.take (i + 1)).map Pt.size).sum = ((t.kids.take i).map Pt.size).sum + x.size := by
        rw [List.take_add_one, h1]
        simp
      rw [hs', w64_eq (n := (i : Int) + 1) (by omega), w64_eq (by omega)]
      simp only [st, hd99, hstep]
      congr 4
      · congr 1; omega
    · have hs' : s.norm _ = hd99 (t.kids.map Pt.d) ((1 + ((t.kids.take t.kids.length).map Pt.size).sum : Nat) : Int) t.kids.length := hs
      rw [List.take_length, ← hsz] at hs'
      exact size_end kk m _ _ _ hs' (decide_eq_false (by simp)) hK
def maxd : List Pt → Nat
  | [] => 0
  | t :: ts => max t.depth (maxd ts)
theorem maxd_append : ∀ a b : List Pt, maxd (a ++ b) = max (maxd a) (maxd b)
  | [], b => by simp [maxd]
  | t :: a, b => by simp only [List.cons_append, maxd, maxd_append a b]; omega
theorem Pt.depth_kids (t : Pt) : t.depth = maxd t.kids + 1 := by cases t <;> simp [Pt.kids, Pt.depth, maxd]
theorem ev_depth : ∀ (d : Nat) (t : Pt), t.depth ≤ d → t.size ≤ 1000000000000 → EvN (d + 5) 113 [.dat t.d] [] [] ([.dat (I t.depth)], [], [])
  | 0, t, hd, hz => by have := t.depth_pos; omega
  | d + 1, t, hd, hz => by
    refine ev_fn Go.Proofs.Try.f113 (d + 5) (by kernel_rfl) (by kernel_rfl) fun kk hkk => ?_
    have hdle := t.depth_le
    have hdk := t.depth_kids
    have hfin : w64 ((maxd t.kids : Nat) + 1) = t.depth := (w64_eq (by omega)).trans (by omega)
    rw [← hfin, Pt.d_eq]
    refine depth kk _ _ _ _ ?_
    have hle := t.kids_le
    let st := fun i : Nat => hd99 (t.kids.map Pt.d) (maxd (t.kids.take i) : Nat) i
    refine loopAt_range st t.kids.length (by omega) (fun i hi m s K hs hn => ?_) (fun m s K hs hK => ?_) (by simp [st, maxd])
    · obtain ⟨x, h1, h2, h3⟩ := kid_at hi
      have hx := Pt.kids_lt h2
      have hev := ev_depth d x (by omega) (by omega) kk (by omega)
      rw [Pt.d_eq] at hev
      have hto : ((i : Int)).toNat = i := by simp
      refine depth_go kk m _ _ _ x.kd x.num x.depth _ hs (decide_eq_true (by simp; omega)) ⟨⟨by omega, by simp; omega⟩, by rw [hto]; exact h3⟩ hev fun s' hs' => hn s' ?_
      have hstep : maxd (t.kids.take (i + 1)) = max (maxd (t.kids.take i)) x.depth := by
        rw [List.take_add_one, h1, maxd_append]
        simp [maxd]
      rw [hs', w64_eq (n := (i : Int) + 1) (by omega)]
      simp only [st, hd99, hstep]
      congr 4
      · congr 1
        split <;> omega
    · have hs' : s.norm _ = hd99 (t.kids.map Pt.d) (maxd (t.kids.take t.kids.length) : Nat) t.kids.length := hs
      rw [List.take_length] at hs'
      exact depth_end kk m _ _ _ hs' (decide_eq_false (by simp)) hK
theorem first_bad {α : Type} (p : α → Bool) : ∀ {ks : List α}, ks.all p = false → ∃ (j : Nat) (x : α), ks[j]? = some x ∧ p x = false ∧ ∀ i y, i < j → ks[i]? = some y → p y = true
  | [], h => by cases h
  | y :: ks, h => by
    cases hy : p y with
    | false => exact ⟨0, y, rfl, hy, fun i y hi => by omega⟩
    | true =>
      rw [List.all_cons, hy, Bool.true_and] at h
      obtain ⟨j, x, h1, h2, h3⟩ := first_bad p h
      refine ⟨j + 1, x, by simpa using h1, h2, fun i z hi hz => ?_⟩
      cases i with
      | zero => simp at hz; rw [← hz]; exact hy
      | succ i => exact h3 i z (by omega) (by simpa using hz)
def Pt.own : Pt → Bool
  | .var n => decide (0 ≤ n) && decide (n ≤ 99)
  | .lam n _ => decide (n = 0)
  | .app n _ _ => decide (n = 0)
theorem Pt.nums_kids (t : Pt) : t.nums = (t.own && t.kids.all Pt.nums) := by
  cases t <;> simp [Pt.nums, Pt.kids, Pt.own]
theorem ev_nums : ∀ (d : Nat) (t : Pt), t.depth ≤ d → EvN (4 * d + 5) 114 [.dat t.d] [] [] ([.dat (B t.nums)], [], [])
  | 0, t, hd => by have := t.depth_pos; omega
  | d + 1, t, hd => by
    have hle := t.kids_le
    have hkid : ∀ x ∈ t.kids, EvN (4 * d + 6) 119 [.dat x.d] [] [] ([.dat (B !x.nums)], [], []) := fun x hx => by
      refine ev_fn Go.Proofs.Try.f119 (4 * d + 5) (by kernel_rfl) (by kernel_rfl) fun kk hkk => ?_
      have := ev_nums d x (by have := Pt.kids_lt hx; omega) kk (by omega)
      rw [Pt.d_eq] at this ⊢
      exact areNumbers1 kk _ _ _ _ this
    have hidx : ∃ j : Int, EvN (4 * d + 7) 132 [.dat (.lst false (t.kids.map Pt.d)), .fn 119 []] [] [] ([.dat (I j)], [], []) ∧ decide (0 ≤ j) = !(t.kids.all Pt.nums) := by
      cases hall : t.kids.all Pt.nums with
      | true =>
        refine ⟨-1, ev_fn Go.Proofs.Try.f132 (4 * d + 6) (by kernel_rfl) (by kernel_rfl) fun kk hkk => ?_, rfl⟩
        refine index_n kk _ ?_
        refine loopAt_range (fun i => hd132 (t.kids.map Pt.d) i) t.kids.length (by omega) (fun i hi m s K hs hn => ?_) (fun m s K hs hK => ?_) rfl
        · obtain ⟨x, h1, h2, h3⟩ := kid_at hi
          have hto : ((i : Int)).toNat = i := by simp
          have hev := hkid x h2 kk (by omega)
          rw [Pt.d_eq, (List.all_eq_true.1 hall) x h2] at hev
          refine index_go kk m _ _ _ _ _ hs (decide_eq_true (by simp; omega)) ⟨⟨by omega, by simp; omega⟩, by rw [hto]; exact h3⟩ hev fun s' hs' => hn s' ?_
          rw [hs', w64_eq (n := (i : Int) + 1) (by omega)]
          rfl
        · exact index_end kk m _ _ hs (decide_eq_false (by simp)) hK
      | false =>
        obtain ⟨j, x, h1, h2, h3⟩ := first_bad Pt.nums hall
        have hj := (List.getElem?_eq_some_iff.1 h1).1
        refine ⟨j, ev_fn Go.Proofs.Try.f132 (4 * d + 6) (by kernel_rfl) (by kernel_rfl) fun kk hkk => ?_, by simp⟩
        refine index_y kk _ _ ?_
        refine loopAt_range (fun i => hd132 (t.kids.map Pt.d) i) j (by omega) (fun i hi m s K hs hn => ?_) (fun m s K hs hK => ?_) rfl
        · obtain ⟨y, h4, h5, h6⟩ := kid_at (ks := t.kids) (i := i) (by omega)
          have hto : ((i : Int)).toNat = i := by simp
          have hev := hkid y h5 kk (by omega)
          rw [Pt.d_eq, h3 i y hi h4] at hev
          refine index_go kk m _ _ _ _ _ hs (decide_eq_true (by simp; omega)) ⟨⟨by omega, by simp; omega⟩, by rw [hto]; exact h6⟩ hev fun s' hs' => hn s' ?_
          rw [hs', w64_eq (n := (i : Int) + 1) (by omega)]
          rfl
        · obtain ⟨y, h4, h5, h6⟩ := kid_at (ks := t.kids) (i := j) (by omega)
          rw [h1] at h4
          cases h4
          have hto : ((j : Int)).toNat = j := by simp
          have hev := hkid x h5 kk (by omega)
          rw [Pt.d_eq, h2] at hev
          exact index_hit kk m _ _ _ _ _ hs (decide_eq_true (by simp; omega)) ⟨⟨by omega, by simp; omega⟩, by rw [hto]; exact h6⟩ hev hK
    obtain ⟨j, hj, hjb⟩ := hidx
    have hcon : EvN (4 * d + 8) 118 [.dat (.lst false (t.kids.map Pt.d)), .fn 119 []] [] [] ([.dat (B (!(t.kids.all Pt.nums)))], [], []) := by
      refine ev_fn Go.Proofs.Try.f118 (4 * d + 7) (by kernel_rfl) (by kernel_rfl) fun kk hkk => ?_
      rw [← hjb]
      exact contains kk _ j (hj kk (by omega))
    refine ev_fn Go.Proofs.Try.f114 (4 * d + 8) (by kernel_rfl) (by kernel_rfl) fun kk hkk => ?_
    have hc := hcon kk (by omega)
    rw [Pt.nums_kids, Pt.d_eq]
    by_cases h1 : t.num < 0
    · rw [areNumbers_neg kk _ _ _ (decide_eq_true h1)]
      have : t.own = false := by
        cases t <;> simp only [Pt.num] at h1 <;> simp [Pt.own] <;> omega
      rw [this, Bool.false_and]
    · by_cases h2 : 99 < t.num
      · rw [areNumbers_big kk _ _ _ (decide_eq_false h1) (decide_eq_true h2)]
        have : t.own = false := by
          cases t <;> simp only [Pt.num] at h2 <;> simp [Pt.own] <;> omega
        rw [this, Bool.false_and]
      · cases t with
        | var n =>
          have h3 : decide (0 ≤ n) = true := decide_eq_true (by simp only [Pt.num] at h1; omega)
          have h4 : decide (n ≤ 99) = true := decide_eq_true (by simp only [Pt.num] at h2; omega)
          rw [areNumbers_ok1 kk _ _ _ _ (decide_eq_false h1) (decide_eq_false h2) rfl hc]
          simp [Pt.own, h3, h4]
        | lam n x =>
          by_cases h5 : n = 0
          · rw [areNumbers_ok0 kk _ _ _ _ (decide_eq_false h1) (decide_eq_false h2) rfl (by simp [Pt.num, h5]) hc]
            simp [Pt.own, h5]
          · rw [areNumbers_lam kk _ _ _ (decide_eq_false h1) (decide_eq_false h2) rfl (by simp [Pt.num, h5])]
            simp [Pt.own, h5]
        | app n x y =>
          by_cases h5 : n = 0
          · rw [areNumbers_ok0 kk _ _ _ _ (decide_eq_false h1) (decide_eq_false h2) rfl (by simp [Pt.num, h5]) hc]
            simp [Pt.own, h5]
          · rw [areNumbers_lam kk _ _ _ (decide_eq_false h1) (decide_eq_false h2) rfl (by simp [Pt.num, h5])]
            simp [Pt.own, h5]
/-- 'isGood'. -/
theorem ev_good (t : Pt) (hz : t.size ≤ 1000000000000) (d : Nat) (hd : t.depth ≤ d) : EvN (4 * d + 7) 91 [.dat t.d] [] [] ([.dat (B t.good)], [], []) := by
  refine ev_fn Go.Proofs.Try.f91 (4 * d + 6) (by kernel_rfl) (by kernel_rfl) fun kk hkk => ?_
  have h1 := ev_size d t hd hz kk (by omega)
  have h2 := ev_depth d t hd hz kk (by omega)
  have h3 := ev_nums d t hd kk (by omega)
  rw [Pt.d_eq] at h1 h2 h3 ⊢
  unfold Pt.good
  by_cases a1 : t.size ≤ 150
  · by_cases a2 : t.depth ≤ 40
    · rw [isGood_go kk _ _ _ _ _ _ h1 (decide_eq_true (by omega)) h2 (decide_eq_true (by omega)) h3]
      simp [a1, a2]
    · rw [isGood_deep kk _ _ _ _ _ h1 (decide_eq_true (by omega)) h2 (decide_eq_false (by omega))]
      simp [a1, a2]
  · rw [isGood_big kk _ _ _ _ h1 (decide_eq_false (by omega))]
    simp [a1]
end Go.Den
namespace Go.Den
open Go
set_option linter.unusedVariables false
set_option maxRecDepth 100000
/-- The term whose node stands at a place, and what stands behind it. -/
def parse (L : List Nd) : Nat → Nat → Int → Option (Pt × Nat)
  | 0, _, _ => none
  | f + 1, at_, up => (L[at_]?).bind fun x =>
    if x.u = up then
      if x.k = 1 then some (.var x.n, at_ + 1)
      else if x.k = 2 then (parse L f (at_ + 1) at_).map fun r => (.lam x.n r.1, r.2)
      else if x.k = 3 then (parse L f (at_ + 1) at_).bind fun r => (parse L f r.2 at_).map fun q => (.app x.n r.1 q.1, q.2)
      else none
    else none
/-- The nodes of a term, that stand from a place on. -/
def Pt.flat : Pt → Nat → Int → List Nd
  | .var n, _, up => [⟨1, n, up⟩]
  | .lam n t, at_, up => ⟨2, n, up⟩ :: t.flat (at_ + 1) at_
  | .app n a b, at_, up => ⟨3, n, up⟩ :: (a.flat (at_ + 1) at_ ++ b.flat (at_ + 1 + a.size) at_)
theorem Pt.flat_length : ∀ (t : Pt) (at_ : Nat) (up : Int), (t.flat at_ up).length = t.size
  | .var n, _, up => rfl
  | .lam n t, at_, up => by simp only [Pt.flat, Pt.size, List.length_cons, t.flat_length]; omega
  | .app n a b, at_, up => by simp only [Pt.flat, Pt.size, List.length_cons, List.length_append, a.flat_length, b.flat_length]; omega
theorem drop_cons {α : Type} {L : List α} {i : Nat} {x : α} (h : L[i]? = some x) : L.drop i = x :: L.drop (i + 1) := by
  obtain ⟨hl, rfl⟩ := List.getElem?_eq_some_iff.1 h
  exact List.drop_eq_getElem_cons hl
/-- What is read is what stands there. -/
theorem parse_sound (L : List Nd) : ∀ (f at_ : Nat) (up : Int) (t : Pt) (nx : Nat), parse L f at_ up = some (t, nx) → L.drop at_ = t.flat at_ up ++ L.drop nx ∧ nx = at_ + t.size ∧ nx ≤ L.length
  | 0, at_, up, t, nx, h => by cases h
  | f + 1, at_, up, t, nx, h => by
    simp only [parse, Option.bind_eq_some_iff] at h
    obtain ⟨⟨k, n, u⟩, hx, h⟩ := h
    have hlt := (List.getElem?_eq_some_iff.1 hx).1
    simp only at h
    split at h
    · rename_i hu
      subst hu
      have hd := drop_cons hx
      split at h
      · rename_i hk
        cases h
        subst hk
        exact ⟨by rw [hd]; rfl, rfl, by omega⟩
      · split at h
        · rename_i hk
          simp only [Option.map_eq_some_iff, Prod.mk.injEq] at h
          obtain ⟨⟨t', nx'⟩, hp, rfl, rfl⟩ := h
          obtain ⟨h1, h2, h3⟩ := parse_sound L f _ _ _ _ hp
          subst hk
          exact ⟨by rw [hd, h1]; rfl, by simp only [Pt.size]; omega, h3⟩
        · split at h
          · rename_i hk
            simp only [Option.bind_eq_some_iff, Option.map_eq_some_iff, Prod.mk.injEq] at h
            obtain ⟨⟨a, n1⟩, hp, ⟨b, n2⟩, hq, rfl, rfl⟩ := h
            obtain ⟨h1, h2, h3⟩ := parse_sound L f _ _ _ _ hp
            obtain ⟨h4, h5, h6⟩ := parse_sound L f _ _ _ _ hq
            subst hk
            simp only at h2 h4
            refine ⟨?_, by simp only [Pt.size]; omega, h6⟩
            rw [hd, h1, h4, h2]
            simp [Pt.flat]
          · cases h
    · cases h
theorem get_drop {α : Type} {L : List α} {i : Nat} {x : α} {l : List α} (h : L.drop i = x :: l) : L[i]? = some x ∧ L.drop (i + 1) = l := by
  have h1 : (L.drop i)[0]? = some x := by rw [h]; rfl
  rw [List.getElem?_drop] at h1
  have h1 : L[i]? = some x := h1
  refine ⟨h1, ?_⟩
  have := drop_cons h1
  rw [h] at this
  injection this with _ this
  exact this.symm
theorem drop_add {α : Type} {L a b : List α} {i n : Nat} (h : L.drop i = a ++ b) (hn : a.length = n) : L.drop (i + n) = b := by
  rw [← List.drop_drop, h, ← hn, List.drop_left]
/-- What stands there is read. -/
theorem parse_flat (L : List Nd) : ∀ (t : Pt) (f at_ : Nat) (up : Int) (rest : List Nd), L.drop at_ = t.flat at_ up ++ rest → t.size ≤ f → parse L f at_ up = some (t, at_ + t.size)
  | t, 0, at_, up, rest, h, hf => by have := t.size_pos; omega
  | .var n, f + 1, at_, up, rest, h, hf => by
    obtain ⟨h1, h2⟩ := get_drop h
    simp only [parse, h1, Option.bind_some, if_true]
    rfl
  | .lam n t, f + 1, at_, up, rest, h, hf => by
    obtain ⟨h1, h2⟩ := get_drop h
    have := parse_flat L t f (at_ + 1) at_ rest h2 (by simp only [Pt.size] at hf; omega)
    simp only [parse, h1, Option.bind_some, if_true, this, Option.map_some]
    simp only [Pt.size]
    rw [if_neg (by decide), Nat.add_assoc]
  | .app n a b, f + 1, at_, up, rest, h, hf => by
    have h' : L.drop at_ = ⟨3, n, up⟩ :: (a.flat (at_ + 1) at_ ++ (b.flat (at_ + 1 + a.size) at_ ++ rest)) := by rw [h]; simp [Pt.flat]
    obtain ⟨h1, h2⟩ := get_drop h'
    have e1 := parse_flat L a f (at_ + 1) at_ _ h2 (by simp only [Pt.size] at hf; omega)
    have h3 := drop_add h2 (a.flat_length _ _)
    have e2 := parse_flat L b f (at_ + 1 + a.size) at_ rest h3 (by simp only [Pt.size] at hf; omega)
    simp only [parse, h1, Option.bind_some, if_true, e1, e2, Option.map_some]
    simp only [Pt.size]
    rw [if_neg (by decide), if_neg (by decide)]
    congr 2
    omega
/-- The term that nodes tell, if it is good. -/
def termOfP (L : List Nd) : Option Pt :=
  if 1 ≤ L.length ∧ L.length ≤ 150 then (parse L (L.length + 1) 0 (-1)).bind fun r => if r.2 = L.length ∧ r.1.good = true then some r.1 else none else none
theorem termOfP_iff (L : List Nd) (t : Pt) : termOfP L = some t ↔ t.good = true ∧ L = t.flat 0 (-1) := by
  unfold termOfP
  constructor
  · intro h
    split at h
    · simp only [Option.bind_eq_some_iff] at h
      obtain ⟨⟨t', nx⟩, hp, h⟩ := h
      simp only at h
      split at h
      · rename_i hc
        cases h
        obtain ⟨h1, h2, h3⟩ := parse_sound L _ _ _ _ _ hp
        refine ⟨hc.2, ?_⟩
        rw [hc.1, List.drop_length, List.append_nil] at h1
        exact h1
      · cases h
    · cases h
  · rintro ⟨hg, hL⟩
    have hlen : L.length = t.size := by rw [hL, t.flat_length]
    have hsz : t.size ≤ 150 := by
      unfold Pt.good at hg
      simp only [Bool.and_eq_true, decide_eq_true_eq] at hg
      exact hg.1
    have hpos := t.size_pos
    have := parse_flat L t (L.length + 1) 0 (-1) [] (by rw [List.drop_zero, List.append_nil]; exact hL) (by omega)
    rw [if_pos (by omega), this]
    simp only [Option.bind_some]
    rw [if_pos ⟨by omega, hg⟩]
theorem nd_at {L : List Nd} {i : Nat} {x : Nd} (h : L[i]? = some x) : (0 ≤ (i : Int) ∧ (i : Int) < ((L.map Nd.d).length : Int)) ∧ (L.map Nd.d)[(i : Int).toNat]? = some (N3 x.k x.n x.u) := by
  have hlt := (List.getElem?_eq_some_iff.1 h).1
  refine ⟨⟨by omega, by simp; omega⟩, ?_⟩
  rw [show (i : Int).toNat = i by simp, List.getElem?_map, h]
  rfl
/-- 'termAt'. -/
theorem ev_termAt (L : List Nd) (b : Bool) (hL : L.length ≤ 1000) : ∀ (f at_ : Nat) (up : Int), at_ ≤ L.length → L.length < at_ + f →
    (∀ t nx, parse L f at_ up = some (t, nx) → EvN (f + 10) 90 [.dat (.lst b (L.map Nd.d)), .dat (I at_), .dat (I up)] [] [] ([.dat t.d, .dat (I nx), .dat (B true)], [], [])) ∧
    (parse L f at_ up = none → ∃ (k n v : Int) (ds : List Dat), EvN (f + 10) 90 [.dat (.lst b (L.map Nd.d)), .dat (I at_), .dat (I up)] [] [] ([.dat (T k n ds), .dat (I v), .dat (B false)], [], []))
  | 0, at_, up, h1, h2 => by omega
  | f + 1, at_, up, h1, h2 => by
    have hlen : ((L.map Nd.d).length : Int) = L.length := by simp
    by_cases hend : at_ = L.length
    · refine ⟨fun t nx h => ?_, fun _ => ⟨0, 0, 0, [], ?_⟩⟩
      · simp only [parse, Option.bind_eq_some_iff] at h
        obtain ⟨x, hx, _⟩ := h
        have := (List.getElem?_eq_some_iff.1 hx).1
        omega
      · exact ev_fn Go.Proofs.Try.f90 (f + 10) (by kernel_rfl) (by kernel_rfl) fun kk _ => termAt_end kk b _ at_ up (decide_eq_true (by rw [hlen, hend]))
    · obtain ⟨x, hx⟩ : ∃ x, L[at_]? = some x := ⟨_, List.getElem?_eq_getElem (by omega)⟩
      have hx3 := nd_at hx
      have hne : decide ((at_ : Int) = ((L.map Nd.d).length : Int)) = false := decide_eq_false (by omega)
      have hpar : parse L (f + 1) at_ up = (if x.u = up then
          if x.k = 1 then some (.var x.n, at_ + 1)
          else if x.k = 2 then (parse L f (at_ + 1) at_).map fun r => (.lam x.n r.1, r.2)
          else if x.k = 3 then (parse L f (at_ + 1) at_).bind fun r => (parse L f r.2 at_).map fun q => (.app x.n r.1 q.1, q.2)
          else none
        else none) := by simp only [parse, hx, Option.bind_some]
      rw [hpar]
      have hw1 : w64 ((at_ : Int) + 1) = ((at_ + 1 : Nat) : Int) := (w64_eq (by omega)).trans (by omega)
      by_cases hu : x.u = up
      · rw [if_pos hu]
        have hub : (!decide (x.u = up)) = false := by simp [hu]
        by_cases hk1 : x.k < 1
        · rw [if_neg (by omega), if_neg (by omega), if_neg (by omega)]
          refine ⟨fun t nx h => (by cases h), fun _ => ⟨0, 0, 0, [], ?_⟩⟩
          exact ev_fn Go.Proofs.Try.f90 (f + 10) (by kernel_rfl) (by kernel_rfl) fun kk _ => termAt_lo kk b _ at_ up x.k x.n x.u hne hx3 hub hx3 (decide_eq_true hk1)
        · by_cases hk3 : 3 < x.k
          · rw [if_neg (by omega), if_neg (by omega), if_neg (by omega)]
            refine ⟨fun t nx h => (by cases h), fun _ => ⟨0, 0, 0, [], ?_⟩⟩
            exact ev_fn Go.Proofs.Try.f90 (f + 10) (by kernel_rfl) (by kernel_rfl) fun kk _ => termAt_hi kk b _ at_ up x.k x.n x.u hne hx3 hub hx3 (decide_eq_false hk1) hx3 (decide_eq_true hk3)
          · have hlo := decide_eq_false hk1
            have hhi := decide_eq_false hk3
            have hyes := fun kk nx out => termAt_y kk b (L.map Nd.d) at_ up x.k x.n x.u nx out hne hx3 hub hx3 hlo hx3 hhi hx3 hx3
            have hno := fun kk nx out => termAt_n kk b (L.map Nd.d) at_ up x.k x.n x.u nx out hne hx3 hub hx3 hlo hx3 hhi hx3 hx3
            rw [hw1] at hyes hno
            obtain ⟨hy1, hn1⟩ := ev_termAt L b hL f (at_ + 1) at_ (by omega) (by omega)
            rcases (show x.k = 1 ∨ x.k = 2 ∨ x.k = 3 by omega) with hk | hk | hk
            · -- a variable
              rw [if_pos hk]
              refine ⟨fun t nx h => ?_, fun h => by cases h⟩
              cases h
              refine ev_fn Go.Proofs.Try.f90 (f + 10) (by kernel_rfl) (by kernel_rfl) fun kk hkk => ?_
              have := hyes kk ((at_ + 1 : Nat) : Int) [] (loopOb_of fun s hs => by
                obtain ⟨m, rfl⟩ : ∃ m, kk = m + 1 := ⟨kk - 1, by omega⟩
                exact termAt_done _ m b _ at_ up x.k x.n [] _ _ _ hs (decide_eq_false (by rw [hk]; decide)) ⟨rfl, rfl⟩)
              rw [this, hk]
              rfl
            · -- a lambda
              rw [if_neg (by omega), if_pos hk]
              have hm : w64 (x.k - 1) = 1 := by rw [hk]; rfl
              rw [hm] at hyes hno
              cases hp : parse L f (at_ + 1) at_ with
              | none =>
                refine ⟨fun t nx h => (by cases h), fun _ => ⟨0, 0, 0, [], ?_⟩⟩
                obtain ⟨k', n', v', ds', hev⟩ := hn1 hp
                refine ev_fn Go.Proofs.Try.f90 (f + 10) (by kernel_rfl) (by kernel_rfl) fun kk hkk => ?_
                refine hno kk ((at_ + 1 : Nat) : Int) [] (loopOb_of fun s hs => ?_)
                obtain ⟨m, hm'⟩ : ∃ m, kk = m + 1 := ⟨kk - 1, by omega⟩
                conv => arg 4; rw [hm']
                exact termAt_bad kk m b _ at_ up x.k x.n [] _ _ _ k' n' v' ds' hs rfl (hev kk (by omega)) ⟨rfl, rfl⟩
              | some r =>
                obtain ⟨a, n1⟩ := r
                refine ⟨fun t nx h => ?_, fun h => by cases h⟩
                cases h
                have hev := hy1 a n1 hp
                refine ev_fn Go.Proofs.Try.f90 (f + 10) (by kernel_rfl) (by kernel_rfl) fun kk hkk => ?_
                have := hyes kk n1 [a.d] (loopOb_of fun s hs => by
                  obtain ⟨m, hm'⟩ : ∃ m, kk = m + 2 := ⟨kk - 2, by omega⟩
                  have he := hev kk (by omega)
                  rw [Pt.d_eq] at he
                  conv => arg 4; rw [hm']
                  refine termAt_go kk (m + 1) b _ at_ up x.k x.n [] _ _ _ a.kd a.num n1 _ hs rfl he (by simp) fun s' hs' => ?_
                  refine termAt_done kk m b _ at_ up x.k x.n [a.d] _ 1 1 (by rw [hs', Pt.d_eq a]; rfl) rfl ⟨rfl, rfl⟩)
                rw [this, hk]
                rfl
            · -- an application
              rw [if_neg (by omega), if_neg (by omega), if_pos hk]
              have hm : w64 (x.k - 1) = 2 := by rw [hk]; rfl
              rw [hm] at hyes hno
              cases hp : parse L f (at_ + 1) at_ with
              | none =>
                refine ⟨fun t nx h => (by cases h), fun _ => ⟨0, 0, 0, [], ?_⟩⟩
                obtain ⟨k', n', v', ds', hev⟩ := hn1 hp
                refine ev_fn Go.Proofs.Try.f90 (f + 10) (by kernel_rfl) (by kernel_rfl) fun kk hkk => ?_
                refine hno kk ((at_ + 1 : Nat) : Int) [] (loopOb_of fun s hs => ?_)
                obtain ⟨m, hm'⟩ : ∃ m, kk = m + 1 := ⟨kk - 1, by omega⟩
                conv => arg 4; rw [hm']
                exact termAt_bad kk m b _ at_ up x.k x.n [] _ _ _ k' n' v' ds' hs rfl (hev kk (by omega)) ⟨rfl, rfl⟩
              | some r =>
                obtain ⟨a, n1⟩ := r
                obtain ⟨_, hn1e, hn1l⟩ := parse_sound L _ _ _ _ _ hp
                have hpos := a.size_pos
                obtain ⟨hy2, hn2⟩ := ev_termAt L b hL f n1 at_ hn1l (by omega)
                have hev := hy1 a n1 hp
                simp only [Option.bind_some]
                cases hq : parse L f n1 at_ with
                | none =>
                  refine ⟨fun t nx h => (by cases h), fun _ => ⟨0, 0, 0, [], ?_⟩⟩
                  obtain ⟨k', n', v', ds', hev2⟩ := hn2 hq
                  refine ev_fn Go.Proofs.Try.f90 (f + 10) (by kernel_rfl) (by kernel_rfl) fun kk hkk => ?_
                  refine hno kk n1 [a.d] (loopOb_of fun s hs => ?_)
                  obtain ⟨m, hm'⟩ : ∃ m, kk = m + 2 := ⟨kk - 2, by omega⟩
                  have he := hev kk (by omega)
                  rw [Pt.d_eq] at he
                  conv => arg 4; rw [hm']
                  refine termAt_go kk (m + 1) b _ at_ up x.k x.n [] _ _ _ a.kd a.num n1 _ hs rfl he (by simp) fun s' hs' => ?_
                  exact termAt_bad kk m b _ at_ up x.k x.n [a.d] n1 2 1 k' n' v' ds' (by rw [hs', Pt.d_eq a]; rfl) rfl (hev2 kk (by omega)) ⟨rfl, rfl⟩
                | some q =>
                  obtain ⟨c, n2⟩ := q
                  refine ⟨fun t nx h => ?_, fun h => by cases h⟩
                  cases h
                  have hev2 := hy2 c n2 hq
                  refine ev_fn Go.Proofs.Try.f90 (f + 10) (by kernel_rfl) (by kernel_rfl) fun kk hkk => ?_
                  have := hyes kk n2 [a.d, c.d] (loopOb_of fun s hs => by
                    obtain ⟨m, hm'⟩ : ∃ m, kk = m + 3 := ⟨kk - 3, by omega⟩
                    have he := hev kk (by omega)
                    have he2 := hev2 kk (by omega)
                    rw [Pt.d_eq] at he he2
                    conv => arg 4; rw [hm']
                    refine termAt_go kk (m + 2) b _ at_ up x.k x.n [] _ _ _ a.kd a.num n1 _ hs rfl he (by simp) fun s' hs' => ?_
                    refine termAt_go kk (m + 1) b _ at_ up x.k x.n [a.d] n1 2 1 c.kd c.num n2 _ (by rw [hs', Pt.d_eq a]; rfl) rfl he2 (by simp) fun s2 hs2 => ?_
                    exact termAt_done kk m b _ at_ up x.k x.n [a.d, c.d] n2 2 2 (by rw [hs2, Pt.d_eq c]; rfl) rfl ⟨rfl, rfl⟩)
                  rw [this, hk]
                  rfl
      · rw [if_neg hu]
        refine ⟨fun t nx h => (by cases h), fun _ => ⟨0, 0, 0, [], ?_⟩⟩
        exact ev_fn Go.Proofs.Try.f90 (f + 10) (by kernel_rfl) (by kernel_rfl) fun kk _ => termAt_up kk b _ at_ up x.k x.n x.u hne hx3 (by simp [hu])
end Go.Den
namespace Go.Den
open Go
set_option linter.unusedVariables false
set_option maxRecDepth 100000
/-- Free variables from g on, moved. -/
def sh (b : Int) : Int → Pt → Pt
  | g, .var n => if g ≤ n then .var (n + b) else .var n
  | g, .lam _ t => .lam 0 (sh b (g + 1) t)
  | g, .app _ x y => .app 0 (sh b g x) (sh b g y)
/-- A term put in for a variable, under so many lambdas. -/
def sub (k : Int) (s : Pt) : Int → Pt → Pt
  | u, .var n => if n = k + u then sh u 0 s else if k + u < n then .var (n - 1) else .var n
  | u, .lam _ t => .lam 0 (sub k s (u + 1) t)
  | u, .app _ x y => .app 0 (sub k s u x) (sub k s u y)
/-- All indices are small. -/
def Pt.within (M : Int) : Pt → Prop
  | .var n => -M ≤ n ∧ n ≤ M
  | .lam _ t => t.within M
  | .app _ a b => a.within M ∧ b.within M
theorem nums_within : ∀ t : Pt, t.nums = true → t.within 99
  | .var n, h => by
    simp only [Pt.nums, Bool.and_eq_true, decide_eq_true_eq] at h
    exact ⟨by omega, h.2⟩
  | .lam n t, h => by
    simp only [Pt.nums, Bool.and_eq_true] at h
    exact nums_within t h.2
  | .app n a b, h => by
    simp only [Pt.nums, Bool.and_eq_true] at h
    exact ⟨nums_within a h.2.1, nums_within b h.2.2⟩
end Go.Den
namespace Go.Den
open Go
set_option linter.unusedVariables false
set_option maxRecDepth 100000
def flatL : List Pt → Nat → Nat → List Nd
  | [], _, _ => []
  | t :: ts, pos, at_ => t.flat pos at_ ++ flatL ts (pos + t.size) at_
theorem Pt.flat_kids (t : Pt) (at_ : Nat) (up : Int) : t.flat at_ up = ⟨t.kd, t.num, up⟩ :: flatL t.kids (at_ + 1) at_ := by
  cases t <;> simp [Pt.flat, Pt.kids, flatL, Pt.kd, Pt.num]
/-- 'termOf'. -/
theorem ev_termOf (L : List Nd) (b : Bool) (hL : L.length ≤ 1048576) :
    (∀ t, termOfP L = some t → EvN 1000 50 [.dat (.lst b (L.map Nd.d))] [] [] ([.dat t.d, .dat (B true)], [], [])) ∧
    (termOfP L = none → ∃ (k n : Int) (ds : List Dat), EvN 1000 50 [.dat (.lst b (L.map Nd.d))] [] [] ([.dat (T k n ds), .dat (B false)], [], [])) := by
  have hlen : ((L.map Nd.d).length : Int) = L.length := by simp
  by_cases h1 : L.length < 1
  · have hn : termOfP L = none := by unfold termOfP; rw [if_neg (by omega)]
    rw [hn]
    refine ⟨fun t h => (by cases h), fun _ => ⟨0, 0, [], ?_⟩⟩
    exact (ev_fn Go.Proofs.Try.f50 0 (by kernel_rfl) (by kernel_rfl) fun kk _ => termOf_few kk b _ (decide_eq_true (by omega))).mono (by omega)
  · by_cases h2 : 150 < L.length
    · have hn : termOfP L = none := by unfold termOfP; rw [if_neg (by omega)]
      rw [hn]
      refine ⟨fun t h => (by cases h), fun _ => ⟨0, 0, [], ?_⟩⟩
      exact (ev_fn Go.Proofs.Try.f50 0 (by kernel_rfl) (by kernel_rfl) fun kk _ => termOf_many kk b _ (decide_eq_false (by omega)) (decide_eq_true (by omega))).mono (by omega)
    · have e1 : decide (((L.map Nd.d).length : Int) < 1) = false := decide_eq_false (by omega)
      have e2 : decide (150 < ((L.map Nd.d).length : Int)) = false := decide_eq_false (by omega)
      obtain ⟨hy, hn⟩ := ev_termAt L b (by omega) (L.length + 1) 0 (-1) (by omega) (by omega)
      have hdef : termOfP L = (parse L (L.length + 1) 0 (-1)).bind fun r => if r.2 = L.length ∧ r.1.good = true then some r.1 else none := by unfold termOfP; rw [if_pos (by omega)]
      rw [hdef]
      cases hp : parse L (L.length + 1) 0 (-1) with
      | none =>
        refine ⟨fun t h => (by cases h), fun _ => ?_⟩
        obtain ⟨k, n, v, ds, hev⟩ := hn hp
        exact ⟨k, n, ds, (ev_fn Go.Proofs.Try.f50 (L.length + 11) (by kernel_rfl) (by kernel_rfl) fun kk hkk => termOf_bad kk b _ k n v ds e1 e2 (hev kk (by omega))).mono (by omega)⟩
      | some r =>
        obtain ⟨t, nx⟩ := r
        have hev := hy t nx hp
        obtain ⟨hs1, hs2, hs3⟩ := parse_sound L _ _ _ _ _ hp
        simp only [Option.bind_some]
        by_cases hnx : nx = L.length
        · have hsz : t.size ≤ 150 := by omega
          have hdl := t.depth_le
          have hg := ev_good t (by omega) 150 (by omega)
          have hgo : ∀ kk, 900 ≤ kk → runFn cfg kk (den cfg kk) 50 Go.Proofs.Try.f50 [.dat (.lst b (L.map Nd.d))] [] [] = some ([.dat t.d, .dat (B t.good)], [], []) := fun kk hkk => by
            have a1 := hev kk (by omega)
            have a2 := hg kk (by omega)
            rw [Pt.d_eq] at a1 a2 ⊢
            exact termOf_go kk b _ _ _ _ _ _ e1 e2 a1 (decide_eq_true (by omega)) a2
          cases hgd : t.good with
          | true =>
            rw [if_pos ⟨hnx, rfl⟩]
            refine ⟨fun t' h => ?_, fun h => (by cases h)⟩
            cases h
            rw [hgd] at hgo
            exact (ev_fn Go.Proofs.Try.f50 900 (by kernel_rfl) (by kernel_rfl) hgo).mono (by omega)
          | false =>
            rw [if_neg (fun h => by cases h.2)]
            refine ⟨fun t h => (by cases h), fun _ => ⟨t.kd, t.num, t.kids.map Pt.d, ?_⟩⟩
            rw [hgd, Pt.d_eq] at hgo
            exact (ev_fn Go.Proofs.Try.f50 900 (by kernel_rfl) (by kernel_rfl) hgo).mono (by omega)
        · rw [if_neg (fun h => hnx h.1)]
          refine ⟨fun t h => (by cases h), fun _ => ⟨t.kd, t.num, t.kids.map Pt.d, ?_⟩⟩
          refine (ev_fn Go.Proofs.Try.f50 (L.length + 11) (by kernel_rfl) (by kernel_rfl) fun kk hkk => ?_).mono (by omega)
          have a1 := hev kk (by omega)
          rw [Pt.d_eq] at a1
          exact termOf_more kk b _ _ _ _ _ e1 e2 a1 (decide_eq_false (by omega))
theorem good_facts {t : Pt} (h : t.good = true) : t.size ≤ 150 ∧ t.depth ≤ 40 ∧ t.nums = true := by
  unfold Pt.good at h
  simp only [Bool.and_eq_true, decide_eq_true_eq] at h
  exact h
theorem within_mono {M N : Int} (h : M ≤ N) : ∀ t : Pt, t.within M → t.within N
  | .var n, hw => by
    have hw : -M ≤ n ∧ n ≤ M := hw
    show -N ≤ n ∧ n ≤ N
    omega
  | .lam _ t, hw => within_mono h t hw
  | .app _ a b, hw => ⟨within_mono h a hw.1, within_mono h b hw.2⟩
end Go.Den
namespace Go.Den
open Go
set_option linter.unusedVariables false
set_option maxRecDepth 100000
theorem ev_l1In (x lo hi : Int) : EvN 1 45 [.dat (I x), .dat (I lo), .dat (I hi)] [] [] ([.dat (B (decide (lo ≤ x) && decide (x ≤ hi)))], [], []) := by
  refine ev_fn Go.Proofs.Try.f45 0 (by kernel_rfl) (by kernel_rfl) fun kk _ => ?_
  by_cases h : lo ≤ x
  · rw [l1In_yes kk x lo hi (decide_eq_true h)]
    simp [h]
  · rw [l1In_no kk x lo hi (decide_eq_false h)]
    simp [h]
end Go.Den
namespace Go.Den
open Go
set_option linter.unusedVariables false
set_option maxRecDepth 100000
def upAt (L : List Nd) (q : Nat) (k : Nat) : Bool := match L[q]? with | some x => decide (x.u = (k : Int)) | none => false
def partsP (L : List Nd) (k : Nat) : Nat → List Nat
  | 0 => []
  | n + 1 => if k < n ∧ upAt L n k = true then partsP L k n ++ [n] else partsP L k n
theorem partsP_low (L : List Nd) (k : Nat) : ∀ n, n ≤ k + 1 → partsP L k n = []
  | 0, _ => rfl
  | n + 1, h => by
    simp only [partsP]
    rw [if_neg (by omega)]
    exact partsP_low L k n (by omega)
theorem partsP_length (L : List Nd) (k : Nat) : ∀ n, (partsP L k n).length ≤ n
  | 0 => Nat.le_refl _
  | n + 1 => by
    have := partsP_length L k n
    simp only [partsP]
    split
    · simp; omega
    · omega
def IN (q : Nat) : Dat := I (q : Int)
theorem ev_lcParts (L : List Nd) (b : Bool) (k : Nat) (hL : L.length ≤ 1000000) (hk : k < L.length) : EvN 1000010 88 [.dat (.lst b (L.map Nd.d)), .dat (I k)] [] [] ([.own 3 ((partsP L k L.length).map IN)], [], []) := by
  refine ev_fn Go.Proofs.Try.f88 1000009 (by kernel_rfl) (by kernel_rfl) fun kk hkk => ?_
  refine lcParts kk b _ k _ ?_
  have hlen : (L.map Nd.d).length = L.length := by simp
  have hw : w64 ((k : Int) + 1) = ((k + 1 : Nat) : Int) := (w64_eq (by omega)).trans (by omega)
  rw [hw]
  let st := fun i : Nat => hd88 b (L.map Nd.d) k ((k + 1 + i : Nat) : Int) ((partsP L k (k + 1 + i)).map IN)
  refine loopAt_range st (L.length - (k + 1)) (by omega) (fun i hi m s K hs hn => ?_) (fun m s K hs hK => ?_) (by simp [st, partsP_low])
  · obtain ⟨x, hx⟩ : ∃ x, L[k + 1 + i]? = some x := ⟨_, List.getElem?_eq_getElem (by omega)⟩
    have hx3 := nd_at hx
    have hpl := partsP_length L k (k + 1 + i)
    have hwi : w64 (((k + 1 + i : Nat) : Int) + 1) = ((k + 1 + (i + 1) : Nat) : Int) := (w64_eq (by omega)).trans (by omega)
    by_cases hu : x.u = (k : Int)
    · refine lcParts_in kk m b _ k _ x.k x.n x.u _ hs (decide_eq_true (by omega)) hx3 (decide_eq_true hu) (by simp; omega) fun s' hs' => hn s' ?_
      have : partsP L k (k + 1 + (i + 1)) = partsP L k (k + 1 + i) ++ [k + 1 + i] := by
        show partsP L k (k + 1 + i + 1) = _
        simp only [partsP]
        rw [if_pos ⟨by omega, by simp [upAt, hx, hu]⟩]
      rw [hs', hwi]
      simp only [st, hd88, this, List.map_append]
      rfl
    · refine lcParts_no kk m b _ k _ x.k x.n x.u _ hs (decide_eq_true (by omega)) hx3 (decide_eq_false hu) fun s' hs' => hn s' ?_
      have : partsP L k (k + 1 + (i + 1)) = partsP L k (k + 1 + i) := by
        show partsP L k (k + 1 + i + 1) = _
        simp only [partsP]
        rw [if_neg (by simp [upAt, hx, hu])]
      rw [hs', hwi]
      simp only [st, hd88, this]
  · have hs' : s.norm _ = hd88 b (L.map Nd.d) k ((k + 1 + (L.length - (k + 1)) : Nat) : Int) ((partsP L k (k + 1 + (L.length - (k + 1)))).map IN) := hs
    rw [show k + 1 + (L.length - (k + 1)) = L.length by omega] at hs'
    exact lcParts_end kk m b _ k _ _ hs' (decide_eq_false (by omega)) hK
def aroundP (L : List Nd) : Nat → Int → Int → Bool
  | 0, _, _ => false
  | f + 1, at_, u => if 0 ≤ at_ then (if at_ = u then true else match L[at_.toNat]? with | some x => aroundP L f x.u u | none => false) else false
def deepP (L : List Nd) : Nat → Int → Nat
  | 0, _ => 0
  | f + 1, at_ => if 0 ≤ at_ then (match L[at_.toNat]? with | some x => deepP L f x.u + 1 | none => 0) else 0
/-- Up to a place every node's parent stands before it. -/
def UpTo (L : List Nd) (m : Int) : Prop := ∀ (j : Nat) (x : Nd), L[j]? = some x → (j : Int) < m → -1 ≤ x.u ∧ x.u < j
theorem around_loop (L : List Nd) (b : Bool) (i : Int) (k n u : Int) (kk : Nat) (hL : UpTo L i) (hi : i ≤ L.length) (hLb : L.length ≤ 1000000) : ∀ (f : Nat) (at_ : Int) (ar : Bool) (m : Nat) (s : St) (K : X → St → Prop), at_ < f → -1 ≤ at_ → at_ < i → f < m →
    s.norm ((envOf cfg kk 44 Go.Proofs.Try.f44).live (firstRegion (lp Go.Proofs.Try.f44 10))) = hd44a b (L.map Nd.d) i k n u ar at_ → K (.exit 2) (out44a b (L.map Nd.d) i k n u (ar || aroundP L f at_ u)) → Rounds (envOf cfg kk 44 Go.Proofs.Try.f44) kk (lp Go.Proofs.Try.f44 10) m s K
  | f, at_, true, m, s, K, h1, h2, h3, h4, hs, hK => by
    obtain ⟨m, rfl⟩ : ∃ j, m = j + 1 := ⟨m - 1, by omega⟩
    by_cases h : 0 ≤ at_
    · exact around_yes kk m b _ i k n u at_ hs (decide_eq_true h) hK
    · exact around_out kk m b _ i k n u at_ true hs (decide_eq_false h) hK
  | 0, at_, false, m, s, K, h1, h2, h3, h4, hs, hK => by
    obtain ⟨m, rfl⟩ : ∃ j, m = j + 1 := ⟨m - 1, by omega⟩
    exact around_out kk m b _ i k n u at_ false hs (decide_eq_false (by omega)) hK
  | f + 1, at_, false, m, s, K, h1, h2, h3, h4, hs, hK => by
    obtain ⟨m, rfl⟩ : ∃ j, m = j + 1 := ⟨m - 1, by omega⟩
    by_cases h : 0 ≤ at_
    · obtain ⟨a, rfl⟩ : ∃ a : Nat, at_ = a := ⟨at_.toNat, by omega⟩
      obtain ⟨x, hx⟩ : ∃ x, L[a]? = some x := ⟨_, List.getElem?_eq_getElem (by omega)⟩
      obtain ⟨hu1, hu2⟩ := hL a x hx (by omega)
      refine around_go kk m b _ i k n u a x.k x.n x.u hs (decide_eq_true h) (nd_at hx) fun s' hs' => ?_
      refine around_loop L b i k n u kk hL hi hLb f x.u (decide ((a : Int) = u)) m s' K (by omega) (by omega) (by omega) (by omega) hs' ?_
      have : (decide ((a : Int) = u) || aroundP L f x.u u) = (false || aroundP L (f + 1) a u) := by
        simp only [aroundP]
        rw [if_pos h]
        by_cases he : (a : Int) = u
        · simp [he]
        · simp [he, hx]
      rw [this]
      exact hK
    · refine around_out kk m b _ i k n u at_ false hs (decide_eq_false h) ?_
      have : (false || aroundP L (f + 1) at_ u) = false := by simp only [aroundP]; rw [if_neg h]; rfl
      rw [this] at hK
      exact hK
theorem deep_loop (L : List Nd) (b : Bool) (i : Int) (k n u : Int) (ar : Bool) (kk : Nat) (top : Int) (hL : UpTo L (top + 1)) (hi : top < L.length) (hLb : L.length ≤ 1000000) : ∀ (f : Nat) (at_ : Int) (deep : Int) (m : Nat) (s : St) (K : X → St → Prop), at_ < f → -1 ≤ at_ → at_ ≤ top → f < m → 0 ≤ deep → deep + f ≤ 10000000 →
    s.norm ((envOf cfg kk 44 Go.Proofs.Try.f44).live (firstRegion (lp Go.Proofs.Try.f44 15))) = hd44b b (L.map Nd.d) i k n u ar deep at_ → K (.exit 4) (out44b b (L.map Nd.d) i k n u ar (deep + deepP L f at_)) → Rounds (envOf cfg kk 44 Go.Proofs.Try.f44) kk (lp Go.Proofs.Try.f44 15) m s K
  | 0, at_, deep, m, s, K, h1, h2, h3, h4, h5, h6, hs, hK => by
    obtain ⟨m, rfl⟩ : ∃ j, m = j + 1 := ⟨m - 1, by omega⟩
    refine deep_out kk m b _ i k n u ar deep at_ hs (decide_eq_false (by omega)) ?_
    have : deep + (deepP L 0 at_ : Int) = deep := by simp [deepP]
    rw [this] at hK
    exact hK
  | f + 1, at_, deep, m, s, K, h1, h2, h3, h4, h5, h6, hs, hK => by
    obtain ⟨m, rfl⟩ : ∃ j, m = j + 1 := ⟨m - 1, by omega⟩
    by_cases h : 0 ≤ at_
    · obtain ⟨a, rfl⟩ : ∃ a : Nat, at_ = a := ⟨at_.toNat, by omega⟩
      obtain ⟨x, hx⟩ : ∃ x, L[a]? = some x := ⟨_, List.getElem?_eq_getElem (by omega)⟩
      obtain ⟨hu1, hu2⟩ := hL a x hx (by omega)
      have hw : w64 (deep + 1) = deep + 1 := w64_eq (by omega)
      refine deep_go kk m b _ i k n u ar deep a x.k x.n x.u hs (decide_eq_true h) (nd_at hx) fun s' hs' => ?_
      rw [hw] at hs'
      refine deep_loop L b i k n u ar kk top hL hi hLb f x.u (deep + 1) m s' K (by omega) (by omega) (by omega) (by omega) (by omega) (by omega) hs' ?_
      have : deep + 1 + (deepP L f x.u : Int) = deep + (deepP L (f + 1) a : Int) := by
        simp only [deepP]
        rw [if_pos h]
        simp [hx]
        omega
      rw [this]
      exact hK
    · refine deep_out kk m b _ i k n u ar deep at_ hs (decide_eq_false h) ?_
      have : deep + (deepP L (f + 1) at_ : Int) = deep := by simp only [deepP]; rw [if_neg h]; simp
      rw [this] at hK
      exact hK
end Go.Den
namespace Go.Den
open Go
set_option linter.unusedVariables false
set_option maxRecDepth 100000
def shapeP (L : List Nd) (i : Nat) (x : Nd) : Bool := (decide ((i : Int) = 0) == decide (x.u = -1)) && (decide (-1 ≤ x.u) && decide (x.u ≤ (i : Int) - 1))
def numP (x : Nd) : Bool := (decide (0 ≤ x.n) && decide (x.n ≤ 99)) && (decide (x.k = 1) || decide (x.n = 0))
/-- What is asked of a node. -/
def chk (L : List Nd) (i : Nat) (x : Nd) : Bool :=
  shapeP L i x && ((decide (1 ≤ x.k) && decide (x.k ≤ 3)) && ((decide ((i : Int) = 0) || aroundP L i ((i : Int) - 1) x.u) && (decide (deepP L (i + 1) i ≤ 40) && (decide (((partsP L i L.length).length : Int) = x.k - 1) && numP x))))
def chkAt (L : List Nd) (i : Nat) : Bool := match L[i]? with | some x => chk L i x | none => false
def goodS (L : List Nd) : Bool := (decide (1 ≤ (L.length : Int)) && decide ((L.length : Int) ≤ 150)) && (List.range L.length).all (chkAt L)
theorem chk_shape {L : List Nd} {i : Nat} {x : Nd} (h : shapeP L i x = true) : ((!decide ((i : Int) = 0) == decide (x.u = -1)) = false) ∧ -1 ≤ x.u ∧ x.u ≤ (i : Int) - 1 := by
  unfold shapeP at h
  simp only [Bool.and_eq_true, decide_eq_true_eq] at h
  exact ⟨by rw [h.1]; rfl, h.2.1, h.2.2⟩
theorem upto_next (L : List Nd) (i : Nat) (x : Nd) (kk : Nat) (hk : 1000100 ≤ kk) (hlen : L.length ≤ 1000) (hx : L[i]? = some x) (hup : UpTo L i) (h : shapeP L i x = true) : UpTo L ((i : Int) + 1) := fun j y hy hj => by
  by_cases e : j = i
  · subst e
    rw [hx] at hy
    cases hy
    obtain ⟨_, h2, h3⟩ := chk_shape h
    exact ⟨h2, by omega⟩
  · exact hup j y hy (by omega)
theorem loop10 (L : List Nd) (b : Bool) (i : Nat) (x : Nd) (kk : Nat) (hk : 1000100 ≤ kk) (hlen : L.length ≤ 1000) (hx : L[i]? = some x) (hup : UpTo L i) (r : Bool) (h : (decide ((i : Int) = 0) || aroundP L i ((i : Int) - 1) x.u) = r) : LoopAt cfg kk 44 Go.Proofs.Try.f44 10 (hd44a b (L.map Nd.d) i x.k x.n x.u (decide ((i : Int) = 0)) (w64 ((i : Int) - 1))) (X.exit 2) (out44a b (L.map Nd.d) i x.k x.n x.u r) := by
  have hi := (List.getElem?_eq_some_iff.1 hx).1
  rw [w64_eq (n := (i : Int) - 1) (by omega)]
  exact loopOb_of fun s hs => around_loop L b i x.k x.n x.u kk hup (by omega) (by omega) i _ _ kk s _ (by omega) (by omega) (by omega) (by omega) hs ⟨rfl, by rw [h]⟩
theorem loop15 (L : List Nd) (b : Bool) (i : Nat) (x : Nd) (kk : Nat) (hk : 1000100 ≤ kk) (hlen : L.length ≤ 1000) (hx : L[i]? = some x) (hup : UpTo L i) (hs : shapeP L i x = true) (r : Bool) : LoopAt cfg kk 44 Go.Proofs.Try.f44 15 (hd44b b (L.map Nd.d) i x.k x.n x.u r 0 i) (X.exit 4) (out44b b (L.map Nd.d) i x.k x.n x.u r (deepP L (i + 1) i : Nat)) := by
  have hi := (List.getElem?_eq_some_iff.1 hx).1
  have hu := upto_next L i x kk hk hlen hx hup hs
  exact loopOb_of fun s hs => deep_loop L b i x.k x.n x.u r kk i hu (by omega) (by omega) (i + 1) i 0 kk s _ (by omega) (by omega) (by omega) (by omega) (by omega) (by omega) hs ⟨rfl, by rw [Int.zero_add]⟩
theorem parts_len (L : List Nd) (b : Bool) (i : Nat) (x : Nd) (kk : Nat) (hk : 1000100 ≤ kk) (hlen : L.length ≤ 1000) (hx : L[i]? = some x) (hup : UpTo L i) : den cfg kk 88 [.dat (.lst b (L.map Nd.d)), .dat (I i)] [] [] = some ([.own 3 ((partsP L i L.length).map IN)], [], []) := by
  have hi := (List.getElem?_eq_some_iff.1 hx).1
  exact ev_lcParts L b i (by omega) hi kk (by omega)
/-- A round: the node is good, or it is told that it is not. -/
theorem good_round (L : List Nd) (b : Bool) (i : Nat) (x : Nd) (kk : Nat) (hk : 1000100 ≤ kk) (hlen : L.length ≤ 1000) (hx : L[i]? = some x) (hup : UpTo L i) (m : Nat) (s : St) (K : X → St → Prop)
    (hs : s.norm ((envOf cfg kk 44 Go.Proofs.Try.f44).live (firstRegion (lp Go.Proofs.Try.f44 4))) = hd44 b (L.map Nd.d) i)
    (hn : chk L i x = true → ∀ s : St, s.norm ((envOf cfg kk 44 Go.Proofs.Try.f44).live (firstRegion (lp Go.Proofs.Try.f44 4))) = hd44 b (L.map Nd.d) ((i + 1 : Nat) : Int) → Rounds (envOf cfg kk 44 Go.Proofs.Try.f44) kk (lp Go.Proofs.Try.f44 4) m s K)
    (hK : chk L i x = false → K .ret (Nm [2] [.dat (B false)] [none] [] [])) : Rounds (envOf cfg kk 44 Go.Proofs.Try.f44) kk (lp Go.Proofs.Try.f44 4) (m + 1) s K := by
  have hi := (List.getElem?_eq_some_iff.1 hx).1
  have hx3 := nd_at hx
  have hlt : decide ((i : Int) < ((L.map Nd.d).length : Int)) = true := decide_eq_true hx3.1.2
  have hw : w64 ((i : Int) - 1) = (i : Int) - 1 := w64_eq (by omega)
  have hw2 : w64 ((i : Int) + 1) = ((i + 1 : Nat) : Int) := (w64_eq (by omega)).trans (by omega)
  have hin := ev_l1In x.u (-1) ((i : Int) - 1) kk (by omega)
  have hnum := ev_l1In x.n 0 99 kk (by omega)
  cases hsh : shapeP L i x with
  | false =>
    have hc : chk L i x = false := by unfold chk; rw [hsh]; rfl
    have hK' := hK hc
    cases h0 : (decide ((i : Int) = 0) == decide (x.u = -1)) with
    | false => exact good_up kk m b _ i x.n x.u x.k hs hlt hx3 (by rw [h0]; rfl) hK'
    | true =>
      have h1 : (decide (-1 ≤ x.u) && decide (x.u ≤ (i : Int) - 1)) = false := by unfold shapeP at hsh; rw [h0, Bool.true_and] at hsh; exact hsh
      rw [h1] at hin
      exact good_in kk m b _ i x.n x.u x.k hs hlt hx3 (by rw [h0]; rfl) (by rw [hw]; exact hin) hK'
  | true =>
  obtain ⟨h3, h4, h5⟩ := chk_shape hsh
  have hin' : den cfg kk 45 [.dat (I x.u), .dat (I (-1)), .dat (I (w64 ((i : Int) - 1)))] [] [] = some ([.dat (B true)], [], []) := by
    rw [hw, hin, decide_eq_true h4, decide_eq_true h5]
    rfl
  have l10 := loop10 L b i x kk hk hlen hx hup
  have l15 := loop15 L b i x kk hk hlen hx hup hsh
  have hp := parts_len L b i x kk hk hlen hx hup
  have hpl : (((partsP L i L.length).map IN).length : Int) = (partsP L i L.length).length := by simp
  have hc0 : chk L i x = ((decide (1 ≤ x.k) && decide (x.k ≤ 3)) && ((decide ((i : Int) = 0) || aroundP L i ((i : Int) - 1) x.u) && (decide (deepP L (i + 1) i ≤ 40) && (decide (((partsP L i L.length).length : Int) = x.k - 1) && numP x)))) := by
    unfold chk
    rw [hsh, Bool.true_and]
  by_cases hkd : 1 ≤ x.k ∧ x.k ≤ 3
  case neg =>
    have hc : chk L i x = false := by
      rw [hc0]
      have : (decide (1 ≤ x.k) && decide (x.k ≤ 3)) = false := by
        cases h : (decide (1 ≤ x.k) && decide (x.k ≤ 3)) with
        | false => rfl
        | true => simp only [Bool.and_eq_true, decide_eq_true_eq] at h; exact (hkd h).elim
      rw [this]; rfl
    exact good_kind kk m b _ i x.n x.u x.k _ _ hs hlt hx3 h3 hin' (l10 _ rfl) (l15 _) (decide_eq_false (by omega)) (decide_eq_false (by omega)) (decide_eq_false (by omega)) (hK hc)
  case pos =>
  have hkb : (decide (1 ≤ x.k) && decide (x.k ≤ 3)) = true := by rw [decide_eq_true hkd.1, decide_eq_true hkd.2]; rfl
  rw [hkb, Bool.true_and] at hc0
  obtain ⟨k, n, u⟩ := x
  simp only at *
  rcases (show k = 1 ∨ k = 2 ∨ k = 3 by omega) with rfl | rfl | rfl
  · cases har : (decide ((i : Int) = 0) || aroundP L i ((i : Int) - 1) u) with
    | false =>
      have hc : chk L i ⟨1, n, u⟩ = false := by rw [hc0, har]; rfl
      exact good_ar_1 kk m b _ i n u _ hs hlt hx3 h3 hin' (l10 false har) (l15 false) (hK hc)
    | true =>
      by_cases hd : deepP L (i + 1) i ≤ 40
      case neg =>
        have hc : chk L i ⟨1, n, u⟩ = false := by rw [hc0, har, decide_eq_false hd]; rfl
        exact good_deep_1 kk m b _ i n u _ hs hlt hx3 h3 hin' (l10 true har) (l15 true) (decide_eq_true (by omega)) (hK hc)
      case pos =>
        have hdd : decide ((40 : Int) < ((deepP L (i + 1) i : Nat) : Int)) = false := decide_eq_false (by omega)
        by_cases hpc : ((partsP L i L.length).length : Int) = 1 - 1
        case neg =>
          have hc : chk L i ⟨1, n, u⟩ = false := by rw [hc0, har, decide_eq_false hpc]; simp
          exact good_parts_1 kk m b _ i n u _ _ hs hlt hx3 h3 hin' (l10 true har) (l15 true) hdd hp (by rw [hpl]; simp only [Bool.not_eq_true', decide_eq_false_iff_not]; omega) (hK hc)
        case pos =>
          have hpp : (!decide ((((partsP L i L.length).map IN).length : Int) = 0)) = false := by rw [hpl]; simp only [Bool.not_eq_false', decide_eq_true_eq]; omega
          by_cases hna : 0 ≤ n ∧ n ≤ 99
          case neg =>
            have hnf : (decide (0 ≤ n) && decide (n ≤ 99)) = false := by
              cases h : (decide (0 ≤ n) && decide (n ≤ 99)) with
              | false => rfl
              | true => simp only [Bool.and_eq_true, decide_eq_true_eq] at h; exact (hna h).elim
            have hq : numP ⟨1, n, u⟩ = false := by unfold numP; simp only; rw [hnf]; rfl
            rw [hq] at hc0
            have hc : chk L i ⟨1, n, u⟩ = false := by rw [hc0]; simp
            rw [hnf] at hnum
            exact good_n_1 kk m b _ i n u _ _ hs hlt hx3 h3 hin' (l10 true har) (l15 true) hdd hp hpp hnum (hK hc)
          case pos =>
          have hnum' : den cfg kk 45 [.dat (I n), .dat (I 0), .dat (I 99)] [] [] = some ([.dat (B true)], [], []) := by
            rw [hnum, decide_eq_true hna.1, decide_eq_true hna.2]
            rfl
          have hq : numP ⟨1, n, u⟩ = true := by simp [numP, hna.1, hna.2]
          rw [hq] at hc0
          have hc : chk L i ⟨1, n, u⟩ = true := by rw [hc0, har, decide_eq_true hd, decide_eq_true hpc]; rfl
          exact good_go_1 kk m b _ i n u _ _ hs hlt hx3 h3 hin' (l10 true har) (l15 true) hdd hp hpp hnum' fun s' hs' => hn hc s' (by rw [hs', hw2]; rfl)
  · cases har : (decide ((i : Int) = 0) || aroundP L i ((i : Int) - 1) u) with
    | false =>
      have hc : chk L i ⟨2, n, u⟩ = false := by rw [hc0, har]; rfl
      exact good_ar_2 kk m b _ i n u _ hs hlt hx3 h3 hin' (l10 false har) (l15 false) (hK hc)
    | true =>
      by_cases hd : deepP L (i + 1) i ≤ 40
      case neg =>
        have hc : chk L i ⟨2, n, u⟩ = false := by rw [hc0, har, decide_eq_false hd]; rfl
        exact good_deep_2 kk m b _ i n u _ hs hlt hx3 h3 hin' (l10 true har) (l15 true) (decide_eq_true (by omega)) (hK hc)
      case pos =>
        have hdd : decide ((40 : Int) < ((deepP L (i + 1) i : Nat) : Int)) = false := decide_eq_false (by omega)
        by_cases hpc : ((partsP L i L.length).length : Int) = 2 - 1
        case neg =>
          have hc : chk L i ⟨2, n, u⟩ = false := by rw [hc0, har, decide_eq_false hpc]; simp
          exact good_parts_2 kk m b _ i n u _ _ hs hlt hx3 h3 hin' (l10 true har) (l15 true) hdd hp (by rw [hpl]; simp only [Bool.not_eq_true', decide_eq_false_iff_not]; omega) (hK hc)
        case pos =>
          have hpp : (!decide ((((partsP L i L.length).map IN).length : Int) = 1)) = false := by rw [hpl]; simp only [Bool.not_eq_false', decide_eq_true_eq]; omega
          by_cases hna : 0 ≤ n ∧ n ≤ 99
          case neg =>
            have hnf : (decide (0 ≤ n) && decide (n ≤ 99)) = false := by
              cases h : (decide (0 ≤ n) && decide (n ≤ 99)) with
              | false => rfl
              | true => simp only [Bool.and_eq_true, decide_eq_true_eq] at h; exact (hna h).elim
            have hq : numP ⟨2, n, u⟩ = false := by unfold numP; simp only; rw [hnf]; rfl
            rw [hq] at hc0
            have hc : chk L i ⟨2, n, u⟩ = false := by rw [hc0]; simp
            rw [hnf] at hnum
            exact good_n_2 kk m b _ i n u _ _ hs hlt hx3 h3 hin' (l10 true har) (l15 true) hdd hp hpp hnum (hK hc)
          case pos =>
          have hnum' : den cfg kk 45 [.dat (I n), .dat (I 0), .dat (I 99)] [] [] = some ([.dat (B true)], [], []) := by
            rw [hnum, decide_eq_true hna.1, decide_eq_true hna.2]
            rfl
          by_cases hnn : n = 0
          case neg =>
            have hq : numP ⟨2, n, u⟩ = false := by simp [numP, hnn]
            rw [hq] at hc0
            have hc : chk L i ⟨2, n, u⟩ = false := by rw [hc0]; simp
            exact good_num_2 kk m b _ i n u _ _ hs hlt hx3 h3 hin' (l10 true har) (l15 true) hdd hp hpp hnum' (by simp [hnn]) (hK hc)
          case pos =>
          have hq : numP ⟨2, n, u⟩ = true := by simp [numP, hnn]
          rw [hq] at hc0
          have hc : chk L i ⟨2, n, u⟩ = true := by rw [hc0, har, decide_eq_true hd, decide_eq_true hpc]; rfl
          exact good_go_2 kk m b _ i n u _ _ hs hlt hx3 h3 hin' (l10 true har) (l15 true) hdd hp hpp hnum' (by simp [hnn]) fun s' hs' => hn hc s' (by rw [hs', hw2]; rfl)
  · cases har : (decide ((i : Int) = 0) || aroundP L i ((i : Int) - 1) u) with
    | false =>
      have hc : chk L i ⟨3, n, u⟩ = false := by rw [hc0, har]; rfl
      exact good_ar_3 kk m b _ i n u _ hs hlt hx3 h3 hin' (l10 false har) (l15 false) (hK hc)
    | true =>
      by_cases hd : deepP L (i + 1) i ≤ 40
      case neg =>
        have hc : chk L i ⟨3, n, u⟩ = false := by rw [hc0, har, decide_eq_false hd]; rfl
        exact good_deep_3 kk m b _ i n u _ hs hlt hx3 h3 hin' (l10 true har) (l15 true) (decide_eq_true (by omega)) (hK hc)
      case pos =>
        have hdd : decide ((40 : Int) < ((deepP L (i + 1) i : Nat) : Int)) = false := decide_eq_false (by omega)
        by_cases hpc : ((partsP L i L.length).length : Int) = 3 - 1
        case neg =>
          have hc : chk L i ⟨3, n, u⟩ = false := by rw [hc0, har, decide_eq_false hpc]; simp
          exact good_parts_3 kk m b _ i n u _ _ hs hlt hx3 h3 hin' (l10 true har) (l15 true) hdd hp (by rw [hpl]; simp only [Bool.not_eq_true', decide_eq_false_iff_not]; omega) (hK hc)
        case pos =>
          have hpp : (!decide ((((partsP L i L.length).map IN).length : Int) = 2)) = false := by rw [hpl]; simp only [Bool.not_eq_false', decide_eq_true_eq]; omega
          by_cases hna : 0 ≤ n ∧ n ≤ 99
          case neg =>
            have hnf : (decide (0 ≤ n) && decide (n ≤ 99)) = false := by
              cases h : (decide (0 ≤ n) && decide (n ≤ 99)) with
              | false => rfl
              | true => simp only [Bool.and_eq_true, decide_eq_true_eq] at h; exact (hna h).elim
            have hq : numP ⟨3, n, u⟩ = false := by unfold numP; simp only; rw [hnf]; rfl
            rw [hq] at hc0
            have hc : chk L i ⟨3, n, u⟩ = false := by rw [hc0]; simp
            rw [hnf] at hnum
            exact good_n_3 kk m b _ i n u _ _ hs hlt hx3 h3 hin' (l10 true har) (l15 true) hdd hp hpp hnum (hK hc)
          case pos =>
          have hnum' : den cfg kk 45 [.dat (I n), .dat (I 0), .dat (I 99)] [] [] = some ([.dat (B true)], [], []) := by
            rw [hnum, decide_eq_true hna.1, decide_eq_true hna.2]
            rfl
          by_cases hnn : n = 0
          case neg =>
            have hq : numP ⟨3, n, u⟩ = false := by simp [numP, hnn]
            rw [hq] at hc0
            have hc : chk L i ⟨3, n, u⟩ = false := by rw [hc0]; simp
            exact good_num_3 kk m b _ i n u _ _ hs hlt hx3 h3 hin' (l10 true har) (l15 true) hdd hp hpp hnum' (by simp [hnn]) (hK hc)
          case pos =>
          have hq : numP ⟨3, n, u⟩ = true := by simp [numP, hnn]
          rw [hq] at hc0
          have hc : chk L i ⟨3, n, u⟩ = true := by rw [hc0, har, decide_eq_true hd, decide_eq_true hpc]; rfl
          exact good_go_3 kk m b _ i n u _ _ hs hlt hx3 h3 hin' (l10 true har) (l15 true) hdd hp hpp hnum' (by simp [hnn]) fun s' hs' => hn hc s' (by rw [hs', hw2]; rfl)
/-- 'GoodTerm'. -/
theorem ev_GoodTerm (L : List Nd) (b : Bool) (hL : L.length ≤ 1048576) : EvN 1000200 44 [.dat (.lst b (L.map Nd.d))] [] [] ([.dat (B (goodS L))], [], []) := by
  refine (ev_fn Go.Proofs.Try.f44 1000150 (by kernel_rfl) (by kernel_rfl) fun kk hkk => ?_).mono (by omega)
  have hlen : ((L.map Nd.d).length : Int) = L.length := by simp
  have hin := ev_l1In ((L.map Nd.d).length : Int) 1 150 kk (by omega)
  unfold goodS
  cases hr : (decide (1 ≤ (L.length : Int)) && decide ((L.length : Int) ≤ 150)) with
  | false =>
    rw [hlen, hr] at hin
    exact GoodTerm_few kk b _ (by rw [hlen]; exact hin)
  | true =>
    rw [hlen, hr] at hin
    have hL2 : L.length ≤ 150 := by
      simp only [Bool.and_eq_true, decide_eq_true_eq] at hr
      omega
    rw [Bool.true_and]
    have hupto : ∀ j : Nat, j ≤ L.length → (∀ q, q < j → chkAt L q = true) → UpTo L j := fun j hj hc q y hy hq => by
      have := hc q (by omega)
      unfold chkAt chk at this
      rw [hy] at this
      simp only [Bool.and_eq_true] at this
      obtain ⟨_, h2, h3⟩ := chk_shape this.1
      exact ⟨h2, by omega⟩
    cases hall : (List.range L.length).all (chkAt L) with
    | true =>
      have hch : ∀ q, q < L.length → chkAt L q = true := fun q hq => (List.all_eq_true.1 hall) q (List.mem_range.2 hq)
      refine GoodTerm_yes kk b _ (by rw [hlen]; exact hin) ?_
      refine loopAt_range (fun i => hd44 b (L.map Nd.d) i) L.length (by omega) (fun i hi m s K hs hn => ?_) (fun m s K hs hK => ?_) rfl
      · obtain ⟨x, hx⟩ : ∃ x, L[i]? = some x := ⟨_, List.getElem?_eq_getElem hi⟩
        refine good_round L b i x kk (by omega) (by omega) hx (hupto i (by omega) fun q hq => hch q (by omega)) m s K hs (fun _ => hn) fun h => ?_
        have := hch i hi
        unfold chkAt at this
        rw [hx] at this
        rw [show chk L i x = true from this] at h
        cases h
      · exact good_end kk m b _ _ hs (decide_eq_false (by omega)) hK
    | false =>
      obtain ⟨j, q, h1, h2, h3⟩ := first_bad (chkAt L) hall
      have hj : j < L.length := by
        have := (List.getElem?_eq_some_iff.1 h1).1
        simpa using this
      have hqj : q = j := by
        rw [List.getElem?_range hj] at h1
        exact (Option.some.inj h1).symm
      subst hqj
      have hch : ∀ i, i < q → chkAt L i = true := fun i hi => h3 i i hi (List.getElem?_range (by omega))
      refine GoodTerm_no kk b _ (by rw [hlen]; exact hin) ?_
      refine loopAt_range (fun i => hd44 b (L.map Nd.d) i) q (by omega) (fun i hi m s K hs hn => ?_) (fun m s K hs hK => ?_) rfl
      · obtain ⟨x, hx⟩ : ∃ x, L[i]? = some x := ⟨_, List.getElem?_eq_getElem (by omega)⟩
        refine good_round L b i x kk (by omega) (by omega) hx (hupto i (by omega) fun p hp => hch p (by omega)) m s K hs (fun _ => hn) fun h => ?_
        have := hch i hi
        unfold chkAt at this
        rw [hx] at this
        rw [show chk L i x = true from this] at h
        cases h
      · obtain ⟨x, hx⟩ : ∃ x, L[q]? = some x := ⟨_, List.getElem?_eq_getElem hj⟩
        refine good_round L b q x kk (by omega) (by omega) hx (hupto q (by omega) fun p hp => hch p hp) m s K hs (fun h => ?_) fun _ => hK
        unfold chkAt at h2
        rw [hx] at h2
        rw [show chk L q x = false from h2] at h
        cases h
end Go.Den
namespace Go.Den
open Go
set_option linter.unusedVariables false
theorem flat_get : ∀ (t : Pt) (at_ : Nat) (up : Int) (r : Nat) (z : Nd), (t.flat at_ up)[r]? = some z → (r = 0 ∧ z = ⟨t.kd, t.num, up⟩) ∨ (0 < r ∧ (at_ : Int) ≤ z.u ∧ z.u < at_ + r)
  | .var n, at_, up, 0, z, h => .inl ⟨rfl, by simpa [Pt.flat, Pt.kd, Pt.num] using h.symm⟩
  | .var n, at_, up, r + 1, z, h => by simp [Pt.flat] at h
  | .lam n t, at_, up, 0, z, h => .inl ⟨rfl, by simpa [Pt.flat, Pt.kd, Pt.num] using h.symm⟩
  | .lam n t, at_, up, r + 1, z, h => by
    have h' : (t.flat (at_ + 1) at_)[r]? = some z := by simpa [Pt.flat] using h
    rcases flat_get t _ _ r z h' with ⟨rfl, rfl⟩ | ⟨h1, h2, h3⟩
    · right; refine ⟨by omega, ?_, ?_⟩ <;> (simp only; omega)
    · right; refine ⟨by omega, by omega, by omega⟩
  | .app n a b, at_, up, 0, z, h => .inl ⟨rfl, by simpa [Pt.flat, Pt.kd, Pt.num] using h.symm⟩
  | .app n a b, at_, up, r + 1, z, h => by
    have h' : (a.flat (at_ + 1) at_ ++ b.flat (at_ + 1 + a.size) at_)[r]? = some z := by simpa [Pt.flat] using h
    rw [List.getElem?_append, a.flat_length] at h'
    split at h'
    · rcases flat_get a _ _ r z h' with ⟨rfl, rfl⟩ | ⟨h1, h2, h3⟩
      · right; refine ⟨by omega, ?_, ?_⟩ <;> (simp only; omega)
      · right; refine ⟨by omega, by omega, by omega⟩
    · rename_i hr
      rcases flat_get b _ _ _ z h' with ⟨h1, rfl⟩ | ⟨h1, h2, h3⟩
      · right; refine ⟨by omega, ?_, ?_⟩ <;> (simp only; omega)
      · right; refine ⟨by omega, by omega, by omega⟩
theorem seg_get {L rest : List Nd} {t : Pt} {at_ : Nat} {up : Int} (h : L.drop at_ = t.flat at_ up ++ rest) {q : Nat} (h1 : at_ ≤ q) (h2 : q < at_ + t.size) {z : Nd} (hz : L[q]? = some z) : (q = at_ ∧ z = ⟨t.kd, t.num, up⟩) ∨ (at_ < q ∧ (at_ : Int) ≤ z.u ∧ z.u < q) := by
  have e : L[q]? = (t.flat at_ up)[q - at_]? := by
    have : (L.drop at_)[q - at_]? = L[q]? := by rw [List.getElem?_drop, show at_ + (q - at_) = q by omega]
    rw [← this, h, List.getElem?_append_left (by rw [t.flat_length]; omega)]
  rw [e] at hz
  rcases flat_get t at_ up _ z hz with ⟨h3, h4⟩ | ⟨h3, h4, h5⟩
  · exact .inl ⟨by omega, h4⟩
  · exact .inr ⟨by omega, h4, by omega⟩
theorem seg_len {L rest : List Nd} {t : Pt} {at_ : Nat} {up : Int} (h : L.drop at_ = t.flat at_ up ++ rest) : at_ + t.size ≤ L.length := by
  have := congrArg List.length h
  have hp := t.size_pos
  simp only [List.length_drop, List.length_append, t.flat_length] at this
  omega
inductive Anc (L : List Nd) : Nat → Nat → Prop where
  | refl (q : Nat) : Anc L q q
  | up {a q b : Nat} {x : Nd} (hx : L[q]? = some x) (hu : x.u = (b : Int)) (h : Anc L a b) : Anc L a q
def UpAll (L : List Nd) : Prop := ∀ (j : Nat) (x : Nd), L[j]? = some x → -1 ≤ x.u ∧ x.u < j
theorem Anc.le {L : List Nd} (hU : UpAll L) {a q : Nat} (h : Anc L a q) : a ≤ q := by
  induction h with
  | refl => exact Nat.le_refl _
  | up hx hu h ih =>
    have := (hU _ _ hx).2
    omega
theorem Anc.trans {L : List Nd} {a b c : Nat} (h : Anc L a b) (k : Anc L b c) : Anc L a c := by
  induction k with
  | refl => exact h
  | up hx hu _ ih => exact .up hx hu ih
theorem around_anc {L : List Nd} : ∀ (f : Nat) (q : Nat) (u : Int), aroundP L f q u = true → ∃ a : Nat, u = a ∧ Anc L a q
  | 0, q, u, h => by cases h
  | f + 1, q, u, h => by
    simp only [aroundP] at h
    rw [if_pos (by omega)] at h
    split at h
    · rename_i he
      exact ⟨q, he.symm, .refl q⟩
    · rw [show ((q : Int)).toNat = q by simp] at h
      cases hx : L[q]? with
      | none => rw [hx] at h; cases h
      | some x =>
        rw [hx] at h
        simp only at h
        by_cases hn : 0 ≤ x.u
        · obtain ⟨b, hb⟩ : ∃ b : Nat, x.u = b := ⟨x.u.toNat, by omega⟩
          rw [hb] at h
          obtain ⟨a, h1, h2⟩ := around_anc f b u h
          exact ⟨a, h1, .up hx hb h2⟩
        · cases f with
          | zero => cases h
          | succ f => simp only [aroundP] at h; rw [if_neg hn] at h; cases h
theorem anc_around {L : List Nd} (hU : UpAll L) {a q : Nat} (h : Anc L a q) : ∀ f : Nat, q < f → aroundP L f q a = true := by
  induction h with
  | refl =>
    intro f hf
    obtain ⟨f, rfl⟩ : ∃ g, f = g + 1 := ⟨f - 1, by omega⟩
    simp only [aroundP]
    rw [if_pos (by omega)]
    simp
  | @up q b x hx hu h ih =>
    intro f hf
    obtain ⟨f, rfl⟩ : ∃ g, f = g + 1 := ⟨f - 1, by omega⟩
    have := (hU _ _ hx).2
    simp only [aroundP]
    rw [if_pos (by omega)]
    split
    · rfl
    · rw [show ((q : Int)).toNat = q by simp, hx]
      simp only
      rw [hu]
      exact ih f (by omega)
theorem deep_fuel {L : List Nd} (hU : UpAll L) : ∀ (q : Int) (f g : Nat), q < f → q < g → -1 ≤ q → deepP L f q = deepP L g q := by
  have key : ∀ (n : Nat) (q : Int) (f g : Nat), q < n → q < f → q < g → -1 ≤ q → deepP L f q = deepP L g q := by
    intro n
    induction n with
    | zero =>
      intro q f g h0 h1 h2 h3
      have e : ∀ f : Nat, deepP L f q = 0 := fun f => by
        cases f with
        | zero => rfl
        | succ f => simp only [deepP]; rw [if_neg (by omega)]
      rw [e, e]
    | succ n ih =>
      intro q f g h0 h1 h2 h3
      by_cases hq : 0 ≤ q
      · obtain ⟨f, rfl⟩ : ∃ k, f = k + 1 := ⟨f - 1, by omega⟩
        obtain ⟨g, rfl⟩ : ∃ k, g = k + 1 := ⟨g - 1, by omega⟩
        simp only [deepP]
        rw [if_pos hq, if_pos hq]
        cases hx : L[q.toNat]? with
        | none => rfl
        | some x =>
          have := hU _ _ hx
          simp only
          rw [ih x.u f g (by omega) (by omega) (by omega) (by omega)]
      · have e : ∀ f : Nat, deepP L f q = 0 := fun f => by
          cases f with
          | zero => rfl
          | succ f => simp only [deepP]; rw [if_neg hq]
        rw [e, e]
  intro q f g h1 h2 h3
  exact key (q.toNat + 1) q f g (by omega) h1 h2 h3
/-- How deep a place is. -/
def dep (L : List Nd) (q : Int) : Nat := deepP L (q.toNat + 1) q
theorem dep_up {L : List Nd} (hU : UpAll L) {q : Nat} {x : Nd} (hx : L[q]? = some x) : dep L q = dep L x.u + 1 := by
  have := hU _ _ hx
  unfold dep
  rw [show ((q : Int)).toNat = q by simp, show deepP L (q + 1) q = if 0 ≤ (q : Int) then (match L[((q : Int)).toNat]? with | some x => deepP L q x.u + 1 | none => 0) else 0 from rfl]
  rw [if_pos (by omega), show ((q : Int)).toNat = q by simp, hx]
  simp only
  rw [deep_fuel hU x.u q (x.u.toNat + 1) (by omega) (by omega) (by omega)]
theorem dep_neg (L : List Nd) : dep L (-1) = 0 := by
  unfold dep
  simp only [deepP]
  rw [if_neg (by omega)]
theorem parts_skip {L : List Nd} {k : Nat} : ∀ {a b : Nat}, a ≤ b → (∀ q, a ≤ q → q < b → upAt L q k = false) → partsP L k b = partsP L k a
  | a, 0, h, hq => by rw [show a = 0 by omega]
  | a, b + 1, h, hq => by
    by_cases e : a = b + 1
    · rw [e]
    · simp only [partsP]
      rw [if_neg (by rw [hq b (by omega) (by omega)]; exact fun h => by cases h.2)]
      exact parts_skip (by omega) fun q h1 h2 => hq q h1 (by omega)
theorem parts_hit {L : List Nd} {k p : Nat} (h : k < p) (hu : upAt L p k = true) : partsP L k (p + 1) = partsP L k p ++ [p] := by
  simp only [partsP]
  rw [if_pos ⟨h, hu⟩]
theorem mem_parts {L : List Nd} {k : Nat} : ∀ {n q : Nat}, q ∈ partsP L k n ↔ k < q ∧ q < n ∧ upAt L q k = true
  | 0, q => by simp [partsP]
  | n + 1, q => by
    simp only [partsP]
    split
    · rename_i h
      rw [List.mem_append, mem_parts, List.mem_singleton]
      constructor
      · rintro (h1 | rfl)
        · exact ⟨h1.1, by omega, h1.2.2⟩
        · exact ⟨h.1, by omega, h.2⟩
      · rintro ⟨h1, h2, h3⟩
        by_cases e : q = n
        · exact .inr e
        · exact .inl ⟨h1, by omega, h3⟩
    · rename_i h
      rw [mem_parts]
      constructor
      · rintro ⟨h1, h2, h3⟩
        exact ⟨h1, by omega, h3⟩
      · rintro ⟨h1, h2, h3⟩
        by_cases e : q = n
        · subst e; exact (h ⟨h1, h3⟩).elim
        · exact ⟨h1, by omega, h3⟩
theorem parts_sorted {L : List Nd} {k : Nat} : ∀ n, (partsP L k n).Pairwise (· < ·)
  | 0 => by simp [partsP]
  | n + 1 => by
    simp only [partsP]
    split
    · rw [List.pairwise_append]
      refine ⟨parts_sorted n, by simp, fun a ha c hc => ?_⟩
      rw [List.mem_singleton] at hc
      have := (mem_parts.1 ha).2.1
      omega
    · exact parts_sorted n
theorem upAt_iff {L : List Nd} {q k : Nat} {x : Nd} (hx : L[q]? = some x) : upAt L q k = true ↔ x.u = (k : Int) := by
  unfold upAt
  rw [hx]
  simp
structure Fine (L : List Nd) : Prop where
  up : UpAll L
  zero : ∀ (i : Nat) (x : Nd), L[i]? = some x → (x.u = -1 ↔ i = 0)
  around : ∀ (i : Nat) (x : Nd), L[i]? = some x → 0 < i → ∃ a : Nat, x.u = a ∧ Anc L a (i - 1)
  kind : ∀ (i : Nat) (x : Nd), L[i]? = some x → 1 ≤ x.k ∧ x.k ≤ 3
  parts : ∀ (i : Nat) (x : Nd), L[i]? = some x → ((partsP L i L.length).length : Int) = x.k - 1
theorem no_more {L : List Nd} (hF : Fine L) {i p : Nat} (hip : i < p) (hp : ∀ y, L[p]? = some y → y.u < i) : ∀ q, p ≤ q → q < L.length → ¬ Anc L i q := by
  intro q
  induction q with
  | zero => intro h1 h2 h3; omega
  | succ q ih =>
    intro h1 h2 h3
    have hne : i ≠ q + 1 := by omega
    obtain ⟨x, hx⟩ : ∃ x, L[q + 1]? = some x := ⟨_, List.getElem?_eq_getElem h2⟩
    have hup : ∃ b : Nat, x.u = b ∧ Anc L i b := by
      cases h3 with
      | refl => exact (hne rfl).elim
      | up hx' hu h => rw [hx] at hx'; cases hx'; exact ⟨_, hu, h⟩
    obtain ⟨b, hb, hab⟩ := hup
    have hle := hab.le hF.up
    by_cases e : p = q + 1
    · subst e
      have := hp x hx
      omega
    · obtain ⟨a, ha, hq⟩ := hF.around (q + 1) x hx (by omega)
      have : a = b := by omega
      subst this
      exact ih (by omega) (by omega) (hab.trans hq)
theorem no_parts {L : List Nd} (hF : Fine L) {i p : Nat} (hip : i < p) (hp : ∀ y, L[p]? = some y → y.u < i) : ∀ q, p ≤ q → q ∉ partsP L i L.length := fun q hq hm => by
  obtain ⟨h1, h2, h3⟩ := mem_parts.1 hm
  obtain ⟨x, hx⟩ : ∃ x, L[q]? = some x := ⟨_, List.getElem?_eq_getElem h2⟩
  exact no_more hF hip hp q hq h2 (.up hx ((upAt_iff hx).1 h3) (.refl i))
theorem two_of {α : Type} {l : List α} (h : l.length = 2) : ∃ a b, l = [a, b] := by
  match l, h with
  | [a, b], _ => exact ⟨a, b, rfl⟩
theorem tree_of {L : List Nd} (hF : Fine L) : ∀ (f i : Nat) (x : Nd), L[i]? = some x → L.length ≤ i + f → ∃ t j, parse L f i x.u = some (t, j) ∧ ∀ y, L[j]? = some y → y.u < i
  | 0, i, x, hx, hf => by
    have := (List.getElem?_eq_some_iff.1 hx).1
    omega
  | f + 1, i, x, hx, hf => by
    have hi := (List.getElem?_eq_some_iff.1 hx).1
    obtain ⟨hk1, hk3⟩ := hF.kind i x hx
    have hpl := hF.parts i x hx
    have hpar : parse L (f + 1) i x.u = (if x.k = 1 then some (.var x.n, i + 1)
        else if x.k = 2 then (parse L f (i + 1) i).map fun r => (.lam x.n r.1, r.2)
        else if x.k = 3 then (parse L f (i + 1) i).bind fun r => (parse L f r.2 i).map fun q => (.app x.n r.1 q.1, q.2)
        else none) := by simp only [parse, hx, Option.bind_some, if_true]
    rw [hpar]
    have hmem : ∀ q y, L[q]? = some y → i < q → y.u = (i : Int) → q ∈ partsP L i L.length := fun q y hy hq hu => mem_parts.2 ⟨hq, (List.getElem?_eq_some_iff.1 hy).1, (upAt_iff hy).2 hu⟩
    have hnext : ∀ y, L[i + 1]? = some y → y.u ≤ i := fun y hy => by have := (hF.up _ _ hy).2; omega
    rcases (show x.k = 1 ∨ x.k = 2 ∨ x.k = 3 by omega) with hk | hk | hk
    · rw [if_pos hk]
      have hnil : partsP L i L.length = [] := List.eq_nil_of_length_eq_zero (by omega)
      refine ⟨_, _, rfl, fun y hy => ?_⟩
      have h1 := hnext y hy
      have h2 : y.u ≠ (i : Int) := fun e => by
        have := hmem _ y hy (by omega) e
        rw [hnil] at this
        cases this
      omega
    · rw [if_neg (by omega), if_pos hk]
      obtain ⟨p1, hp1⟩ : ∃ p1, partsP L i L.length = [p1] := List.length_eq_one_iff.1 (by omega)
      have hin : p1 ∈ partsP L i L.length := by rw [hp1]; simp
      obtain ⟨ha, hb, hc⟩ := mem_parts.1 hin
      obtain ⟨y1, hy1⟩ : ∃ y, L[i + 1]? = some y := ⟨_, List.getElem?_eq_getElem (by omega)⟩
      have hy1u : y1.u = i := by
        have h1 := hnext y1 hy1
        by_cases e : y1.u = (i : Int)
        · exact e
        · exact (no_parts hF (i := i) (p := i + 1) (by omega) (fun y hy => by rw [hy1] at hy; cases hy; omega) p1 (by omega) hin).elim
      have hp1e : p1 = i + 1 := by
        have := hmem _ y1 hy1 (by omega) hy1u
        rw [hp1, List.mem_singleton] at this
        omega
      obtain ⟨t, j, hpa, hj⟩ := tree_of hF f (i + 1) y1 hy1 (by omega)
      rw [hy1u] at hpa
      obtain ⟨_, hj2, _⟩ := parse_sound L _ _ _ _ _ hpa
      have htp := t.size_pos
      refine ⟨.lam x.n t, j, by rw [hpa]; rfl, fun y hy => ?_⟩
      have h1 := hj y hy
      have h2 : y.u ≠ (i : Int) := fun e => by
        have := hmem _ y hy (by omega) e
        rw [hp1, List.mem_singleton] at this
        omega
      omega
    · rw [if_neg (by omega), if_neg (by omega), if_pos hk]
      obtain ⟨p1, p2, hp12⟩ : ∃ p1 p2, partsP L i L.length = [p1, p2] := two_of (by omega)
      have hlt : p1 < p2 := by
        have := parts_sorted (L := L) (k := i) L.length
        rw [hp12] at this
        simpa using this
      have hin1 : p1 ∈ partsP L i L.length := by rw [hp12]; simp
      have hin2 : p2 ∈ partsP L i L.length := by rw [hp12]; simp
      obtain ⟨ha1, hb1, hc1⟩ := mem_parts.1 hin1
      obtain ⟨ha2, hb2, hc2⟩ := mem_parts.1 hin2
      obtain ⟨y1, hy1⟩ : ∃ y, L[i + 1]? = some y := ⟨_, List.getElem?_eq_getElem (by omega)⟩
      have hy1u : y1.u = i := by
        have h1 := hnext y1 hy1
        by_cases e : y1.u = (i : Int)
        · exact e
        · exact (no_parts hF (i := i) (p := i + 1) (by omega) (fun y hy => by rw [hy1] at hy; cases hy; omega) p1 (by omega) hin1).elim
      have hp1e : p1 = i + 1 := by
        have := hmem _ y1 hy1 (by omega) hy1u
        rw [hp12] at this
        simp at this
        omega
      obtain ⟨t, j, hpa, hj⟩ := tree_of hF f (i + 1) y1 hy1 (by omega)
      rw [hy1u] at hpa
      obtain ⟨hseg, hj2, hjl⟩ := parse_sound L _ _ _ _ _ hpa
      have htp := t.size_pos
      obtain ⟨z2, hz2⟩ : ∃ z, L[p2]? = some z := ⟨_, List.getElem?_eq_getElem hb2⟩
      have hz2u := (upAt_iff hz2).1 hc2
      have hp2j : ¬ p2 < j := fun hlt2 => by
        rcases seg_get hseg (q := p2) (by omega) (by omega) hz2 with ⟨h, _⟩ | ⟨_, h, _⟩ <;> omega
      obtain ⟨y2, hy2⟩ : ∃ y, L[j]? = some y := ⟨_, List.getElem?_eq_getElem (by omega)⟩
      have hy2u : y2.u = i := by
        have h1 := hj y2 hy2
        by_cases e : y2.u = (i : Int)
        · exact e
        · exact (no_parts hF (i := i) (p := j) (by omega) (fun y hy => by rw [hy2] at hy; cases hy; omega) p2 (by omega) hin2).elim
      have hp2e : p2 = j := by
        have := hmem _ y2 hy2 (by omega) hy2u
        rw [hp12] at this
        simp at this
        omega
      obtain ⟨t2, j2, hpb, hj3⟩ := tree_of hF f j y2 hy2 (by omega)
      rw [hy2u] at hpb
      obtain ⟨hseg2, hj4, hj5⟩ := parse_sound L _ _ _ _ _ hpb
      have htp2 := t2.size_pos
      refine ⟨.app x.n t t2, j2, by rw [hpa]; simp only [Option.bind_some]; rw [hpb]; rfl, fun y hy => ?_⟩
      have h1 := hj3 y hy
      obtain ⟨b, hb, hanc⟩ := hF.around j2 y hy (by omega)
      have claim : ∀ q, j ≤ q → q < j2 → Anc L b q → j ≤ b ∨ Anc L b i := by
        intro q
        induction q using Nat.strongRecOn with
        | _ q ih =>
          intro h3 h4 h5
          obtain ⟨zq, hzq⟩ : ∃ z, L[q]? = some z := ⟨_, List.getElem?_eq_getElem (by omega)⟩
          cases h5 with
          | refl => exact .inl h3
          | @up _ c zq' hz hu h6 =>
            rw [hzq] at hz
            cases hz
            rcases seg_get hseg2 (q := q) h3 (by omega) hzq with ⟨h7, h8⟩ | ⟨h7, h8, h9⟩
            · right
              have : zq.u = (i : Int) := by rw [h8]
              have : c = i := by omega
              rw [this] at h6
              exact h6
            · exact ih c (by omega) (by omega) (by omega) h6
      rcases claim (j2 - 1) (by omega) (by omega) hanc with h3 | h3
      · omega
      · have h4 := h3.le hF.up
        have h5 : y.u ≠ (i : Int) := fun e => by
          have := hmem _ y hy (by omega) e
          rw [hp12] at this
          simp at this
          omega
        omega
end Go.Den
namespace Go.Den
open Go
set_option linter.unusedVariables false
theorem seg_root {L rest : List Nd} {t : Pt} {at_ : Nat} {up : Int} (h : L.drop at_ = t.flat at_ up ++ rest) : L[at_]? = some ⟨t.kd, t.num, up⟩ := by
  have e : (L.drop at_)[0]? = L[at_]? := by rw [List.getElem?_drop]; rfl
  rw [← e, h]
  cases t <;> rfl
theorem seg_lam {L rest : List Nd} {n : Int} {t : Pt} {at_ : Nat} {up : Int} (h : L.drop at_ = (Pt.lam n t).flat at_ up ++ rest) : L.drop (at_ + 1) = t.flat (at_ + 1) at_ ++ rest :=
  (get_drop (l := t.flat (at_ + 1) at_ ++ rest) (x := ⟨2, n, up⟩) (by rw [h]; rfl)).2
theorem seg_app {L rest : List Nd} {n : Int} {a b : Pt} {at_ : Nat} {up : Int} (h : L.drop at_ = (Pt.app n a b).flat at_ up ++ rest) :
    L.drop (at_ + 1) = a.flat (at_ + 1) at_ ++ (b.flat (at_ + 1 + a.size) at_ ++ rest) ∧ L.drop (at_ + 1 + a.size) = b.flat (at_ + 1 + a.size) at_ ++ rest := by
  have h1 := (get_drop (l := a.flat (at_ + 1) at_ ++ (b.flat (at_ + 1 + a.size) at_ ++ rest)) (x := ⟨3, n, up⟩) (by rw [h]; simp [Pt.flat])).2
  exact ⟨h1, drop_add h1 (a.flat_length _ _)⟩
theorem seg_anc {L rest : List Nd} {t : Pt} {at_ : Nat} {up : Int} (h : L.drop at_ = t.flat at_ up ++ rest) : ∀ q, at_ ≤ q → q < at_ + t.size → Anc L at_ q := by
  intro q
  induction q using Nat.strongRecOn with
  | _ q ih =>
    intro h1 h2
    have hl := seg_len h
    obtain ⟨z, hz⟩ : ∃ z, L[q]? = some z := ⟨_, List.getElem?_eq_getElem (by omega)⟩
    rcases seg_get h h1 h2 hz with ⟨rfl, _⟩ | ⟨h3, h4, h5⟩
    · exact .refl _
    · exact .up (b := z.u.toNat) hz (by omega) (ih _ (by omega) (by omega) (by omega))
def Pt.places : Pt → Nat → List Nat
  | .var _, _ => []
  | .lam _ _, at_ => [at_ + 1]
  | .app _ a _, at_ => [at_ + 1, at_ + 1 + a.size]
/-- Nobody behind a segment names a place in it. -/
def Apart (L : List Nd) (at_ n : Nat) : Prop := ∀ (q : Nat) (y : Nd), L[q]? = some y → at_ + n ≤ q → y.u < at_ ∨ (at_ + n : Int) ≤ y.u
theorem apart_lam {L rest : List Nd} {n : Int} {t : Pt} {at_ : Nat} {up : Int} (h3 : Apart L at_ (Pt.lam n t).size) : Apart L (at_ + 1) t.size := fun q y hy hq => by
  have := h3 q y hy (by simp only [Pt.size]; omega)
  simp only [Pt.size] at this
  omega
theorem apart_a {L rest : List Nd} {n : Int} {a b : Pt} {at_ : Nat} {up : Int} (h : L.drop at_ = (Pt.app n a b).flat at_ up ++ rest) (h3 : Apart L at_ (Pt.app n a b).size) : Apart L (at_ + 1) a.size := fun q y hy hq => by
  by_cases hb : q < at_ + 1 + a.size + b.size
  · rcases seg_get (seg_app h).2 (by omega) hb hy with ⟨_, rfl⟩ | ⟨_, h5, _⟩
    · left; simp only; omega
    · right; omega
  · have := h3 q y hy (by simp only [Pt.size]; omega)
    simp only [Pt.size] at this
    omega
theorem apart_b {L : List Nd} {n : Int} {a b : Pt} {at_ : Nat} (h3 : Apart L at_ (Pt.app n a b).size) : Apart L (at_ + 1 + a.size) b.size := fun q y hy hq => by
  have := h3 q y hy (by simp only [Pt.size]; omega)
  simp only [Pt.size] at this
  omega
theorem upAt_no {L : List Nd} {q k : Nat} (h : ∀ y, L[q]? = some y → y.u ≠ (k : Int)) : upAt L q k = false := by
  cases hy : L[q]? with
  | none => unfold upAt; rw [hy]
  | some y => cases hb : upAt L q k with
    | false => rfl
    | true => exact (h y hy ((upAt_iff hy).1 hb)).elim
theorem seg_parts {L rest : List Nd} {t : Pt} {at_ : Nat} {up : Int} (h : L.drop at_ = t.flat at_ up ++ rest) (h3 : Apart L at_ t.size) : partsP L at_ L.length = t.places at_ := by
  have hl := seg_len h
  have hlow := partsP_low L at_ (at_ + 1) (by omega)
  have hbeh : ∀ q, at_ + t.size ≤ q → upAt L q at_ = false := fun q hq => upAt_no fun y hy => by
    have := h3 q y hy hq
    have := t.size_pos
    omega
  cases t with
  | var n =>
    rw [parts_skip (a := at_ + 1) (by simp only [Pt.size] at hl; omega) fun q h1 _ => hbeh q (by simp only [Pt.size]; omega), hlow]
    rfl
  | lam n t =>
    have hs := seg_lam h
    have hp := t.size_pos
    simp only [Pt.size] at hl
    have hhit := parts_hit (L := L) (k := at_) (p := at_ + 1) (by omega) ((upAt_iff (seg_root hs)).2 rfl)
    rw [parts_skip (a := at_ + 1 + 1) (by omega) fun q h1 h2 => ?_, hhit, hlow]
    · rfl
    · by_cases hq : q < at_ + 1 + t.size
      · refine upAt_no fun y hy => ?_
        rcases seg_get hs (by omega) hq hy with ⟨h5, _⟩ | ⟨_, h5, _⟩ <;> omega
      · exact hbeh q (by simp only [Pt.size]; omega)
  | app n a b =>
    have hs := (seg_app h).1
    have hs2 := (seg_app h).2
    have hp := a.size_pos
    have hp2 := b.size_pos
    simp only [Pt.size] at hl
    have hhit := parts_hit (L := L) (k := at_) (p := at_ + 1) (by omega) ((upAt_iff (seg_root hs)).2 rfl)
    have hhit2 := parts_hit (L := L) (k := at_) (p := at_ + 1 + a.size) (by omega) ((upAt_iff (seg_root hs2)).2 rfl)
    rw [parts_skip (a := at_ + 1 + a.size + 1) (by omega) fun q h1 h2 => ?_, hhit2, parts_skip (a := at_ + 1 + 1) (by omega) fun q h1 h2 => ?_, hhit, hlow]
    · rfl
    · refine upAt_no fun y hy => ?_
      rcases seg_get hs (by omega) (by omega) hy with ⟨h5, _⟩ | ⟨_, h5, _⟩ <;> omega
    · by_cases hq : q < at_ + 1 + a.size + b.size
      · refine upAt_no fun y hy => ?_
        rcases seg_get hs2 (by omega) hq hy with ⟨h5, _⟩ | ⟨_, h5, _⟩ <;> omega
      · exact hbeh q (by simp only [Pt.size]; omega)
theorem places_length (t : Pt) (at_ : Nat) : ((t.places at_).length : Int) = t.kd - 1 := by cases t <;> rfl
theorem chk_iff {L : List Nd} {i : Nat} {x : Nd} : chk L i x = true ↔ shapeP L i x = true ∧ (1 ≤ x.k ∧ x.k ≤ 3) ∧ (i = 0 ∨ aroundP L i ((i : Int) - 1) x.u = true) ∧ dep L i ≤ 40 ∧ ((partsP L i L.length).length : Int) = x.k - 1 ∧ numP x = true := by
  unfold chk dep
  simp only [Bool.and_eq_true, Bool.or_eq_true, decide_eq_true_eq, show ((i : Int)).toNat = i by simp, show ((i : Int) = 0) = (i = 0) by simp]
theorem goodS_iff {L : List Nd} : goodS L = true ↔ (1 ≤ L.length ∧ L.length ≤ 150) ∧ ∀ i x, L[i]? = some x → chk L i x = true := by
  unfold goodS
  simp only [Bool.and_eq_true, decide_eq_true_eq, List.all_eq_true, List.mem_range]
  constructor
  · rintro ⟨⟨h1, h2⟩, h3⟩
    refine ⟨⟨by omega, by omega⟩, fun i x hx => ?_⟩
    have := h3 i (List.getElem?_eq_some_iff.1 hx).1
    unfold chkAt at this
    rw [hx] at this
    exact this
  · rintro ⟨⟨h1, h2⟩, h3⟩
    refine ⟨⟨by omega, by omega⟩, fun i hi => ?_⟩
    have hx := List.getElem?_eq_getElem hi
    unfold chkAt
    rw [hx]
    exact h3 i _ hx
theorem fine_of {L : List Nd} (h : goodS L = true) : Fine L := by
  obtain ⟨_, h⟩ := goodS_iff.1 h
  have hs : ∀ (i : Nat) (x : Nd), L[i]? = some x → ((i : Int) = 0 ↔ x.u = -1) ∧ -1 ≤ x.u ∧ x.u ≤ (i : Int) - 1 := fun i x hx => by
    have h1 := (chk_iff.1 (h i x hx)).1
    unfold shapeP at h1
    simp only [Bool.and_eq_true, decide_eq_true_eq, beq_iff_eq, decide_eq_decide] at h1
    exact h1
  refine ⟨fun i x hx => ?_, fun i x hx => ?_, fun i x hx hi => ?_, fun i x hx => (chk_iff.1 (h i x hx)).2.1, fun i x hx => (chk_iff.1 (h i x hx)).2.2.2.2.1⟩
  · have := hs i x hx
    omega
  · have := (hs i x hx).1
    omega
  · rcases (chk_iff.1 (h i x hx)).2.2.1 with h1 | h1
    · omega
    · rw [show (i : Int) - 1 = ((i - 1 : Nat) : Int) by omega] at h1
      exact around_anc _ _ _ h1
theorem nums_of : ∀ (t : Pt) (at_ : Nat) (up : Int), (∀ z ∈ t.flat at_ up, numP z = true) → t.nums = true
  | .var n, at_, up, h => by
    have := h ⟨1, n, up⟩ (by simp [Pt.flat])
    simpa [numP, Pt.nums] using this
  | .lam n t, at_, up, h => by
    have h1 := h ⟨2, n, up⟩ (by simp [Pt.flat])
    have h2 := nums_of t _ _ fun z hz => h z (by simp only [Pt.flat]; exact List.mem_cons_of_mem _ hz)
    simp [numP] at h1
    simp [Pt.nums, h2, h1.2]
  | .app n a b, at_, up, h => by
    have h1 := h ⟨3, n, up⟩ (by simp [Pt.flat])
    have h2 := nums_of a _ _ fun z hz => h z (by simp only [Pt.flat]; exact List.mem_cons_of_mem _ (List.mem_append_left _ hz))
    have h3 := nums_of b _ _ fun z hz => h z (by simp only [Pt.flat]; exact List.mem_cons_of_mem _ (List.mem_append_right _ hz))
    simp [numP] at h1
    simp [Pt.nums, h2, h3, h1.2]
theorem seg_dep {L : List Nd} (hU : UpAll L) : ∀ (t : Pt) (at_ : Nat) (up : Int) (rest : List Nd), L.drop at_ = t.flat at_ up ++ rest → ∃ q, at_ ≤ q ∧ q < at_ + t.size ∧ dep L q + 1 = dep L at_ + t.depth
  | .var n, at_, up, rest, h => ⟨at_, by omega, by simp [Pt.size], rfl⟩
  | .lam n t, at_, up, rest, h => by
    have hs := seg_lam h
    obtain ⟨q, h1, h2, h3⟩ := seg_dep hU t _ _ _ hs
    have := dep_up hU (seg_root hs)
    simp only at this
    exact ⟨q, by omega, by simp only [Pt.size]; omega, by simp only [Pt.depth]; omega⟩
  | .app n a b, at_, up, rest, h => by
    have hs := seg_app h
    have e1 := dep_up hU (seg_root hs.1)
    have e2 := dep_up hU (seg_root hs.2)
    simp only at e1 e2
    by_cases hd : b.depth ≤ a.depth
    · obtain ⟨q, h1, h2, h3⟩ := seg_dep hU a _ _ _ hs.1
      exact ⟨q, by omega, by simp only [Pt.size]; omega, by simp only [Pt.depth]; omega⟩
    · obtain ⟨q, h1, h2, h3⟩ := seg_dep hU b _ _ _ hs.2
      exact ⟨q, by omega, by simp only [Pt.size]; omega, by simp only [Pt.depth]; omega⟩
theorem tree_good {L : List Nd} (h : goodS L = true) : ∃ t : Pt, t.good = true ∧ L = t.flat 0 (-1) := by
  have hF := fine_of h
  obtain ⟨⟨hl1, hl2⟩, hc⟩ := goodS_iff.1 h
  obtain ⟨x, hx⟩ : ∃ x, L[0]? = some x := ⟨_, List.getElem?_eq_getElem (by omega)⟩
  obtain ⟨t, j, hp, hj⟩ := tree_of hF L.length 0 x hx (by omega)
  rw [(hF.zero 0 x hx).2 rfl] at hp
  obtain ⟨h1, h2, h3⟩ := parse_sound L _ _ _ _ _ hp
  have hpos := t.size_pos
  have hjl : j = L.length := by
    by_cases e : j = L.length
    · exact e
    · obtain ⟨y, hy⟩ : ∃ y, L[j]? = some y := ⟨_, List.getElem?_eq_getElem (by omega)⟩
      have h4 := hj y hy
      have h5 := (hF.up j y hy).1
      have := (hF.zero j y hy).1 (by omega)
      omega
  rw [hjl, List.drop_length, List.append_nil, List.drop_zero] at h1
  refine ⟨t, ?_, h1⟩
  have hd : L.drop 0 = t.flat 0 (-1) ++ [] := by rw [List.drop_zero, List.append_nil]; exact h1
  obtain ⟨q, _, h6, h7⟩ := seg_dep hF.up t 0 (-1) [] hd
  obtain ⟨z, hz⟩ : ∃ z, L[q]? = some z := ⟨_, List.getElem?_eq_getElem (by omega)⟩
  have h8 := (chk_iff.1 (hc q z hz)).2.2.2.1
  have h9 := dep_up hF.up (seg_root hd)
  unfold Pt.good
  simp only [Bool.and_eq_true, decide_eq_true_eq]
  refine ⟨by omega, by simp only [dep_neg] at h9; omega, nums_of t 0 (-1) fun w hw => ?_⟩
  rw [← h1] at hw
  obtain ⟨i, hi⟩ := List.getElem?_of_mem hw
  exact (chk_iff.1 (hc i w hi)).2.2.2.2.2
theorem root_chk {L rest : List Nd} (hU : UpAll L) {t : Pt} {at_ : Nat} {up : Int} (h : L.drop at_ = t.flat at_ up ++ rest)
    (h1 : (at_ = 0 ∧ up = -1) ∨ ∃ p : Nat, up = p ∧ 0 < at_ ∧ Anc L p (at_ - 1)) (h2 : dep L up + t.depth ≤ 40) (hn : t.nums = true) (h3 : Apart L at_ t.size) : chk L at_ ⟨t.kd, t.num, up⟩ = true := by
  have hr := seg_root h
  have hpos := t.depth_pos
  refine chk_iff.2 ⟨?_, ?_, ?_, ?_, ?_, ?_⟩
  · have := hU _ _ hr
    simp only at this
    unfold shapeP
    simp only [Bool.and_eq_true, decide_eq_true_eq, beq_iff_eq, decide_eq_decide]
    refine ⟨?_, by omega, by omega⟩
    rcases h1 with ⟨rfl, rfl⟩ | ⟨p, rfl, hp, _⟩ <;> omega
  · cases t <;> simp only [Pt.kd] <;> omega
  · rcases h1 with ⟨rfl, _⟩ | ⟨p, rfl, hp, ha⟩
    · exact .inl rfl
    · right
      rw [show (at_ : Int) - 1 = ((at_ - 1 : Nat) : Int) by omega]
      exact anc_around hU ha _ (by omega)
  · have := dep_up hU hr
    simp only at this
    omega
  · rw [seg_parts h h3]
    exact places_length t at_
  · cases t <;> simp [Pt.nums] at hn <;> simp [numP, Pt.kd, Pt.num, hn]
theorem seg_chk {L : List Nd} (hU : UpAll L) : ∀ (t : Pt) (at_ : Nat) (up : Int) (rest : List Nd), L.drop at_ = t.flat at_ up ++ rest →
    ((at_ = 0 ∧ up = -1) ∨ ∃ p : Nat, up = p ∧ 0 < at_ ∧ Anc L p (at_ - 1)) → dep L up + t.depth ≤ 40 → t.nums = true → Apart L at_ t.size → ∀ i x, at_ ≤ i → i < at_ + t.size → L[i]? = some x → chk L i x = true
  | .var n, at_, up, rest, h, h1, h2, hn, h3, i, x, hi, hi2, hx => by
    rcases seg_get h hi hi2 hx with ⟨rfl, rfl⟩ | ⟨h4, _, _⟩
    · exact root_chk hU h h1 h2 hn h3
    · simp only [Pt.size] at hi2; omega
  | .lam n t, at_, up, rest, h, h1, h2, hn, h3, i, x, hi, hi2, hx => by
    rcases seg_get h hi hi2 hx with ⟨rfl, rfl⟩ | ⟨h4, _, _⟩
    · exact root_chk hU h h1 h2 hn h3
    · have hd := dep_up hU (seg_root h)
      simp only [Pt.depth, Pt.size, Pt.nums, Bool.and_eq_true] at h2 hi2 hn hd
      exact seg_chk hU t (at_ + 1) at_ rest (seg_lam h) (.inr ⟨at_, rfl, by omega, .refl _⟩) (by omega) hn.2 (apart_lam (rest := rest) (up := up) h3) i x (by omega) (by omega) hx
  | .app n a b, at_, up, rest, h, h1, h2, hn, h3, i, x, hi, hi2, hx => by
    rcases seg_get h hi hi2 hx with ⟨rfl, rfl⟩ | ⟨h4, _, _⟩
    · exact root_chk hU h h1 h2 hn h3
    · have hd := dep_up hU (seg_root h)
      have hpa := a.size_pos
      have ha := seg_app h
      simp only [Pt.depth, Pt.size, Pt.nums, Bool.and_eq_true] at h2 hi2 hn hd
      by_cases hb : i < at_ + 1 + a.size
      · exact seg_chk hU a (at_ + 1) at_ _ ha.1 (.inr ⟨at_, rfl, by omega, .refl _⟩) (by omega) hn.2.1 (apart_a h h3) i x (by omega) (by omega) hx
      · refine seg_chk hU b (at_ + 1 + a.size) at_ rest ha.2 (.inr ⟨at_, rfl, by omega, ?_⟩) (by omega) hn.2.2 (apart_b h3) i x (by omega) (by omega) hx
        have h5 := seg_anc ha.1 (at_ + 1 + a.size - 1) (by omega) (by omega)
        exact Anc.trans (.up (seg_root ha.1) rfl (.refl _)) h5
theorem flat_up {t : Pt} : UpAll (t.flat 0 (-1)) := fun j x hx => by
  rcases flat_get t 0 (-1) j x hx with ⟨rfl, rfl⟩ | ⟨h1, h2, h3⟩
  · exact ⟨by simp, by simp⟩
  · omega
theorem flat_apart {t : Pt} : Apart (t.flat 0 (-1)) 0 t.size := fun q y hy hq => by
  have := (List.getElem?_eq_some_iff.1 hy).1
  rw [t.flat_length] at this
  omega
theorem flat_drop (t : Pt) : (t.flat 0 (-1)).drop 0 = t.flat 0 (-1) ++ [] := by rw [List.drop_zero, List.append_nil]
theorem good_tree {t : Pt} (h : t.good = true) : goodS (t.flat 0 (-1)) = true := by
  unfold Pt.good at h
  simp only [Bool.and_eq_true, decide_eq_true_eq] at h
  have hpos := t.size_pos
  refine goodS_iff.2 ⟨⟨by rw [t.flat_length]; omega, by rw [t.flat_length]; omega⟩, fun i x hx => ?_⟩
  have := (List.getElem?_eq_some_iff.1 hx).1
  rw [t.flat_length] at this
  exact seg_chk flat_up t 0 (-1) [] (flat_drop t) (.inl ⟨rfl, rfl⟩) (by rw [dep_neg]; omega) h.2.2 flat_apart i x (by omega) (by omega) hx
/-- What the reference holds for good is what the program reads as a term. -/
theorem goodS_term (L : List Nd) : goodS L = (termOfP L).isSome := by
  cases h : termOfP L with
  | some t =>
    obtain ⟨h1, h2⟩ := (termOfP_iff L t).1 h
    rw [h2]
    exact good_tree h1
  | none =>
    cases hg : goodS L with
    | false => rfl
    | true =>
      obtain ⟨t, h1, h2⟩ := tree_good hg
      rw [(termOfP_iff L t).2 ⟨h1, h2⟩] at h
      cases h
end Go.Den
namespace Go.Den
open Go
set_option linter.unusedVariables false
set_option maxRecDepth 100000
theorem kid_seg {L rest : List Nd} {t : Pt} {at_ : Nat} {up : Int} (h : L.drop at_ = t.flat at_ up ++ rest) (h3 : Apart L at_ t.size) {i : Nat} (hi : i < t.kids.length) :
    ∃ (x : Pt) (p : Nat) (r : List Nd), t.kids[i]? = some x ∧ x ∈ t.kids ∧ (t.places at_)[i]? = some p ∧ L.drop p = x.flat p at_ ++ r ∧ Apart L p x.size := by
  cases t with
  | var n => simp [Pt.kids] at hi
  | lam n t =>
    have : i = 0 := by simp [Pt.kids] at hi; omega
    subst this
    exact ⟨t, at_ + 1, rest, rfl, by simp [Pt.kids], rfl, seg_lam h, apart_lam (rest := rest) (up := up) h3⟩
  | app n a b =>
    match i, hi with
    | 0, _ => exact ⟨a, at_ + 1, _, rfl, by simp [Pt.kids], rfl, (seg_app h).1, apart_a h h3⟩
    | 1, _ => exact ⟨b, at_ + 1 + a.size, _, rfl, by simp [Pt.kids], rfl, (seg_app h).2, apart_b h3⟩
    | i + 2, hi => simp [Pt.kids] at hi; omega
theorem places_kids (t : Pt) (at_ : Nat) : (t.places at_).length = t.kids.length := by cases t <;> rfl
theorem ev_lcTree (L : List Nd) (b : Bool) (hL : L.length ≤ 1000000) (N : Nat) (hN : 1000012 ≤ N) : ∀ (d : Nat) (t : Pt) (at_ : Nat) (up : Int) (rest : List Nd), t.depth ≤ d → L.drop at_ = t.flat at_ up ++ rest → Apart L at_ t.size →
    EvN (d + N) 48 [.dat (.lst b (L.map Nd.d)), .dat (I at_)] [] [] ([.dat t.d], [], [])
  | 0, t, at_, up, rest, hd, h, h3 => by have := t.depth_pos; omega
  | d + 1, t, at_, up, rest, hd, h, h3 => by
    refine EvN.mono (ev_fn Go.Proofs.Try.f48 (d + N) (by kernel_rfl) (by kernel_rfl) fun kk hkk => ?_) (by omega)
    have hl := seg_len h
    have hp := t.size_pos
    have hr := nd_at (seg_root h)
    have hparts := ev_lcParts L b at_ hL (by omega) kk (by omega)
    rw [seg_parts h h3] at hparts
    have hle := t.kids_le
    have hpk := places_kids t at_
    rw [Pt.d_eq]
    refine lcTree kk b (L.map Nd.d) at_ t.kd t.num up ((t.places at_).map IN) (t.kids.map Pt.d) hr hr hparts ?_
    let st := fun i : Nat => hd48 b (L.map Nd.d) t.kd t.num ((t.places at_).map IN) i ((t.kids.take i).map Pt.d)
    refine loopAt_range st t.kids.length (by omega) (fun i hi m s K hs hn => ?_) (fun m s K hs hK => ?_) (by simp [st])
    · obtain ⟨x, p, r, h1, h2, h4, h5, h6⟩ := kid_seg h h3 hi
      have hx := Pt.kids_lt h2
      have hto : ((i : Int)).toNat = i := by simp
      have hev := ev_lcTree L b hL N hN d x p at_ r (by omega) h5 h6 kk (by omega)
      rw [Pt.d_eq] at hev
      refine lcTree_go kk m b _ t.kd t.num _ i p x.kd x.num _ _ hs (decide_eq_true (by simp; omega)) ⟨by omega, by simp; omega⟩ (by rw [hto, List.getElem?_map, h4]; rfl) hev (by simp; omega) fun s' hs' => hn s' ?_
      have hstep : (t.kids.take (i + 1)).map Pt.d = (t.kids.take i).map Pt.d ++ [T x.kd x.num (x.kids.map Pt.d)] := by
        rw [List.take_add_one, h1, List.map_append, ← Pt.d_eq]
        rfl
      rw [hs', w64_eq (n := (i : Int) + 1) (by omega)]
      simp only [st, hd48, hstep]
      rfl
    · have hs' : s.norm _ = hd48 b (L.map Nd.d) t.kd t.num ((t.places at_).map IN) t.kids.length ((t.kids.take t.kids.length).map Pt.d) := hs
      rw [List.take_length] at hs'
      exact lcTree_end kk m b _ t.kd t.num _ _ _ hs' (decide_eq_false (by simp; omega)) hK
theorem ev_tree {L : List Nd} {t : Pt} (b : Bool) (h : termOfP L = some t) : EvN 1000100 48 [.dat (.lst b (L.map Nd.d)), .dat (I 0)] [] [] ([.dat t.d], [], []) := by
  obtain ⟨h1, h2⟩ := (termOfP_iff L t).1 h
  have hg := good_facts h1
  subst h2
  exact (ev_lcTree _ b (by rw [t.flat_length]; omega) 1000012 (Nat.le_refl _) t.depth t 0 (-1) [] (Nat.le_refl _) (flat_drop t) flat_apart).mono (by omega)
end Go.Den
namespace Go.Den
open Go
set_option linter.unusedVariables false
theorem wt_int {n : Nat} {d : Dat} {i : TI} {k : IntKind} (h : WT cfg.ty n d) (ht : cfg.ty n = some i) (hk : i.kind = .int k) : ∃ x : Int, d = .val (.int k x) ∧ (Lit.int k x).wf = true := by
  cases h with
  | @int _ i' k' x ht' hk' hw => rw [ht] at ht'; cases ht'; rw [hk] at hk'; cases hk'; exact ⟨x, rfl, hw⟩
  | bool ht' hk' => rw [ht] at ht'; cases ht'; rw [hk] at hk'; cases hk'
  | str ht' hk' => rw [ht] at ht'; cases ht'; rw [hk] at hk'; cases hk'
  | lst ht' hk' => rw [ht] at ht'; cases ht'; rw [hk] at hk'; cases hk'
  | agg ht' hk' => rw [ht] at ht'; cases ht'; rw [hk] at hk'; cases hk'
theorem wt_lst {n e : Nat} {d : Dat} {i : TI} (h : WT cfg.ty n d) (ht : cfg.ty n = some i) (hk : i.kind = .slice e) : ∃ es : List Dat, d = .lst false es ∧ es.length ≤ maxLen ∧ ∀ x ∈ es, WT cfg.ty e x := by
  cases h with
  | int ht' hk' => rw [ht] at ht'; cases ht'; rw [hk] at hk'; cases hk'
  | bool ht' hk' => rw [ht] at ht'; cases ht'; rw [hk] at hk'; cases hk'
  | str ht' hk' => rw [ht] at ht'; cases ht'; rw [hk] at hk'; cases hk'
  | @lst _ i' e' es ht' hk' hl hx => rw [ht] at ht'; cases ht'; rw [hk] at hk'; cases hk'; exact ⟨es, rfl, hl, hx⟩
  | agg ht' hk' => rw [ht] at ht'; cases ht'; rw [hk] at hk'; cases hk'
theorem wt_agg {n : Nat} {d : Dat} {i : TI} (h : WT cfg.ty n d) (ht : cfg.ty n = some i) (hk : i.kind = .struct) : ∃ cs : List Dat, d = .agg cs ∧ cs.length = i.fs.length ∧ ∀ (j : Nat) (f : Nat × Nat) (x : Dat), i.fs[j]? = some f → cs[j]? = some x → WT cfg.ty f.2 x := by
  cases h with
  | int ht' hk' => rw [ht] at ht'; cases ht'; rw [hk] at hk'; cases hk'
  | bool ht' hk' => rw [ht] at ht'; cases ht'; rw [hk] at hk'; cases hk'
  | str ht' hk' => rw [ht] at ht'; cases ht'; rw [hk] at hk'; cases hk'
  | lst ht' hk' => rw [ht] at ht'; cases ht'; rw [hk] at hk'; cases hk'
  | @agg _ i' cs ht' hk' hl hx => rw [ht] at ht'; cases ht'; exact ⟨cs, rfl, hl, hx⟩
theorem int_of {d : Dat} (h : WT cfg.ty 3 d) : ∃ n : Int, d = I n := by
  obtain ⟨n, h1, _⟩ := wt_int h (i := ⟨.int .i64, 1, 8, [], [.dat (.val (.int .i64 0))]⟩) (by kernel_rfl) rfl
  exact ⟨n, h1⟩
theorem nd_of {d : Dat} (h : WT cfg.ty 52 d) : ∃ x : Nd, d = x.d := by
  obtain ⟨cs, rfl, hl, hx⟩ := wt_agg h (i := ⟨.struct, 3, 24, [(0, 3), (1, 3), (2, 3)], [.dat (.val (.int .i64 0)), .dat (.val (.int .i64 0)), .dat (.val (.int .i64 0))]⟩) (by kernel_rfl) rfl
  match cs, hl, hx with
  | [a, b, c], _, hx =>
    obtain ⟨k, rfl⟩ := int_of (hx 0 (0, 3) a rfl rfl)
    obtain ⟨n, rfl⟩ := int_of (hx 1 (1, 3) b rfl rfl)
    obtain ⟨u, rfl⟩ := int_of (hx 2 (2, 3) c rfl rfl)
    exact ⟨⟨k, n, u⟩, rfl⟩
theorem nds_of : ∀ {es : List Dat}, (∀ x ∈ es, WT cfg.ty 52 x) → ∃ L : List Nd, es = L.map Nd.d
  | [], h => ⟨[], rfl⟩
  | d :: es, h => by
    obtain ⟨x, rfl⟩ := nd_of (h d (by simp))
    obtain ⟨L, rfl⟩ := nds_of fun y hy => h y (List.mem_cons_of_mem _ hy)
    exact ⟨x :: L, rfl⟩
theorem terms_of {d : Dat} (h : WT cfg.ty 22 d) : ∃ L : List Nd, d = .lst false (L.map Nd.d) ∧ L.length ≤ 9223372036854775807 := by
  obtain ⟨es, rfl, hl, hx⟩ := wt_lst h (i := ⟨.slice 52, 1, 24, [], [.own 52 []]⟩) (by kernel_rfl) rfl
  obtain ⟨L, rfl⟩ := nds_of hx
  rw [List.length_map] at hl
  exact ⟨L, rfl, hl⟩
end Go.Den
namespace Go.Den
open Go
set_option linter.unusedVariables false
set_option maxRecDepth 100000
/-- Good terms are small. -/
theorem good_small {t : Pt} (h : t.good = true) : t.size ≤ 150 ∧ t.depth ≤ 40 ∧ t.within 1000000 := by
  have := good_facts h
  exact ⟨this.1, this.2.1, within_mono (by omega) t (nums_within t this.2.2)⟩
end Go.Den
namespace Go.Den
open Go
set_option linter.unusedVariables false
set_option maxRecDepth 100000
theorem filter_range_succ (p : Nat → Bool) (i : Nat) : (List.range (i + 1)).filter p = (List.range i).filter p ++ (if p i = true then [i] else []) := by
  rw [List.range_succ, List.filter_append, List.filter_cons, List.filter_nil]
end Go.Den
namespace Go.Den
open Go
set_option linter.unusedVariables false
set_option maxRecDepth 100000
/-- Small terms. -/
def small (t : Pt) : Prop := t.size ≤ 150 ∧ t.depth ≤ 40 ∧ t.within 1000000
end Go.Den
