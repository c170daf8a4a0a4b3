/- Merged out of: W1 W2 W3 W4 W5 W6 W7 (prune.py, a program of this work's). -/
import Derived.Test.YtjmljfpnofjkeaaZc4
import Derived.KernelRfl
import Derived.IntWalk
set_option linter.unusedVariables false
set_option linter.unusedSimpArgs false
set_option linter.unnecessarySimpa false
namespace Go.Den
open Go
set_option linter.unusedVariables false
set_option maxRecDepth 100000
theorem lcVar (kk : Nat) (n : Int)  : runFn cfg kk (den cfg kk) 77 Go.Proofs.Try.f77 [.dat (I n)] [] [] = some ([D.dat (T 1 n [])], [], []) :=
  hrun_ok [] ob0 (by kernel_rfl)
theorem lcLam (kk : Nat) (k n : Int) (ds : List Dat)  : runFn cfg kk (den cfg kk) 78 Go.Proofs.Try.f78 [.dat (T k n ds)] [] [] = some ([D.dat (Dat.agg [I 2, I 0, Dat.lst false [T k n ds]])], [], []) :=
  hrun_ok [] ob0 (by kernel_rfl)
theorem lcApp (kk : Nat) (k n k' n' : Int) (ds ds' : List Dat)  : runFn cfg kk (den cfg kk) 61 Go.Proofs.Try.f61 [.dat (T k n ds), .dat (T k' n' ds')] [] [] = some ([D.dat (Dat.agg [I 3, I 0, Dat.lst false [T k n ds, Dat.agg [I k', I n', Dat.lst false ds']]])], [], []) :=
  hrun_ok [] ob0 (by kernel_rfl)
theorem l1In_no (kk : Nat) (x lo hi : Int) (h1 : decide (lo ≤ x) = false) : runFn cfg kk (den cfg kk) 30 Go.Proofs.Try.f30 [.dat (I x), .dat (I lo), .dat (I hi)] [] [] = some ([D.dat (B false)], [], []) :=
  hrun_ok [(200010, .no)] (ob h1 (ob (rfl : false = false) (ob (rfl : false = false) ob0))) (by kernel_rfl)
theorem l1In_yes (kk : Nat) (x lo hi : Int) (h1 : decide (lo ≤ x) = true) : runFn cfg kk (den cfg kk) 30 Go.Proofs.Try.f30 [.dat (I x), .dat (I lo), .dat (I hi)] [] [] = some ([D.dat (B (decide (x ≤ hi)))], [], []) :=
  hrun_ok [(200010, .yes)] (ob h1 (ob (rfl : true = true) (ob (rfl : true = true) ob0))) (by kernel_rfl)
def hd88 (b : Bool) (es : List Dat) (k i : Int) (out : List Dat) : St := Nm [0, 1, 5, 6] [.dat (.lst b es), .dat (I k), .own 3 out, .dat (I i)] [none, none, none, none] [] []
theorem lcParts_in (kk m : Nat) {s : St} {K : X → St → Prop} (b : Bool) (es : List Dat) (k i x y z : Int) (out : List Dat) (hs : s.norm ((envOf cfg kk 65 Go.Proofs.Try.f65).live (firstRegion (lp Go.Proofs.Try.f65 3))) = hd88 b es k i out) (h1 : decide (i < (es.length : Int)) = true) (h2 : (0 ≤ i ∧ i < (es.length : Int)) ∧ es[i.toNat]? = some (N3 x y z)) (h3 : decide (z = k) = true) (h4 : out.length + 1 ≤ 2147483648) (hn : ∀ s : St, s.norm ((envOf cfg kk 65 Go.Proofs.Try.f65).live (firstRegion (lp Go.Proofs.Try.f65 3))) = Nm [0, 1, 5, 6] [D.dat (Dat.lst b es), D.dat (I k), D.own 3 (out ++ [I i]), D.dat (I (w64 (i + 1)))] [none, none, none, none] [] [] → Rounds (envOf cfg kk 65 Go.Proofs.Try.f65) kk (lp Go.Proofs.Try.f65 3) m s K) : Rounds (envOf cfg kk 65 Go.Proofs.Try.f65) kk (lp Go.Proofs.Try.f65 3) (m + 1) s K :=
  rounds_go [(200012, .yes), (17, .at (N3 x y z)), (200021, .yes), (25, .ok)] hs (by kernel_rfl) (ob h1 (ob h2 (ob h3 (ob (obT h4) ob0)))) (by kernel_rfl) hn
theorem lcParts_no (kk m : Nat) {s : St} {K : X → St → Prop} (b : Bool) (es : List Dat) (k i x y z : Int) (out : List Dat) (hs : s.norm ((envOf cfg kk 65 Go.Proofs.Try.f65).live (firstRegion (lp Go.Proofs.Try.f65 3))) = hd88 b es k i out) (h1 : decide (i < (es.length : Int)) = true) (h2 : (0 ≤ i ∧ i < (es.length : Int)) ∧ es[i.toNat]? = some (N3 x y z)) (h3 : decide (z = k) = false) (hn : ∀ s : St, s.norm ((envOf cfg kk 65 Go.Proofs.Try.f65).live (firstRegion (lp Go.Proofs.Try.f65 3))) = Nm [0, 1, 5, 6] [D.dat (Dat.lst b es), D.dat (I k), D.own 3 out, D.dat (I (w64 (i + 1)))] [none, none, none, none] [] [] → Rounds (envOf cfg kk 65 Go.Proofs.Try.f65) kk (lp Go.Proofs.Try.f65 3) m s K) : Rounds (envOf cfg kk 65 Go.Proofs.Try.f65) kk (lp Go.Proofs.Try.f65 3) (m + 1) s K :=
  rounds_go [(200012, .yes), (17, .at (N3 x y z)), (200021, .no)] hs (by kernel_rfl) (ob h1 (ob h2 (ob h3 ob0))) (by kernel_rfl) hn
theorem lcParts_end (kk m : Nat) {s : St} {K : X → St → Prop} (b : Bool) (es : List Dat) (k i : Int) (out : List Dat) (hs : s.norm ((envOf cfg kk 65 Go.Proofs.Try.f65).live (firstRegion (lp Go.Proofs.Try.f65 3))) = hd88 b es k i out) (h1 : decide (i < (es.length : Int)) = false) (hK : K (X.exit 0) (Nm [5] [D.own 3 out] [none] [] [])) : Rounds (envOf cfg kk 65 Go.Proofs.Try.f65) kk (lp Go.Proofs.Try.f65 3) (m + 1) s K :=
  rounds_end [(200012, .no)] hs (by kernel_rfl) rfl (ob h1 ob0) (by kernel_rfl) hK
theorem lcParts (kk : Nat) (b : Bool) (es : List Dat) (k : Int) (out : List Dat) (h2 : LoopAt cfg kk 65 Go.Proofs.Try.f65 3 (hd88 b es k (w64 (k + 1)) []) (X.exit 0) (Nm [5] [D.own 3 out] [none] [] [])) : runFn cfg kk (den cfg kk) 65 Go.Proofs.Try.f65 [.dat (Dat.lst b es), .dat (I k)] [] [] = some ([D.own 3 out], [], []) :=
  hrun_ok [(300003, .loop (hd88 b es k (w64 (k + 1)) []) (.exit 0) (Nm [5] [.own 3 out] [none] [] []))] (ob (rfl : _ = hd88 b es k (w64 (k + 1)) []) (ob h2 ob0)) (by kernel_rfl)
def hd48 (b : Bool) (es : List Dat) (k n : Int) (ps : List Dat) (i : Int) (out : List Dat) : St := Nm [0, 4, 5, 21, 22, 23] [.dat (.lst b es), .ptr (.loc 4) 0, .ptr (.loc 5) 0, .own 3 ps, .dat (I ps.length), .dat (I i)] [none, some [.dat (I 0), .dat (I 0), .own 71 []], some [.dat (I k), .dat (I n), .own 71 out], none, none, none] [] []
theorem lcTree_go (kk m : Nat) {s : St} {K : X → St → Prop} (b : Bool) (es : List Dat) (k n : Int) (ps : List Dat) (i p kx nx : Int) (dx out : List Dat) (hs : s.norm ((envOf cfg kk 45 Go.Proofs.Try.f45).live (firstRegion (lp Go.Proofs.Try.f45 3))) = hd48 b es k n ps i out) (h1 : decide (i < (ps.length : Int)) = true) (h2 : 0 ≤ i ∧ i < (ps.length : Int)) (h3 : ps[i.toNat]? = some (I p)) (h4 : den cfg kk 45 [D.dat (Dat.lst b es), D.dat (I p)] [] [] = some ([D.dat (T kx nx dx)], [], [])) (h5 : out.length + 1 ≤ 2147483648) (hn : ∀ s : St, s.norm ((envOf cfg kk 45 Go.Proofs.Try.f45).live (firstRegion (lp Go.Proofs.Try.f45 3))) = Nm [0, 4, 5, 21, 22, 23] [D.dat (Dat.lst b es), D.ptr (Ref.loc 4) 0, D.ptr (Ref.loc 5) 0, D.own 3 ps, D.dat (I (ps.length : Int)), D.dat (I (w64 (i + 1)))] [none, some [D.dat (I 0), D.dat (I 0), D.own 71 []], some [D.dat (I k), D.dat (I n), D.own 71 (out ++ [T kx nx dx])], none, none, none] [] [] → Rounds (envOf cfg kk 45 Go.Proofs.Try.f45) kk (lp Go.Proofs.Try.f45 3) m s K) : Rounds (envOf cfg kk 45 Go.Proofs.Try.f45) kk (lp Go.Proofs.Try.f45 3) (m + 1) s K :=
  rounds_go [(200024, .yes), (25, .ok), (26, .at (I p)), (31, .ret [.dat (T kx nx dx)]), (33, .ok)] hs (by kernel_rfl) (ob h1 (ob h2 (ob h3 (ob h4 (ob (obT h5) ob0))))) (by kernel_rfl) hn
theorem lcTree_end (kk m : Nat) {s : St} {K : X → St → Prop} (b : Bool) (es : List Dat) (k n : Int) (ps : List Dat) (i : Int) (out : List Dat) (hs : s.norm ((envOf cfg kk 45 Go.Proofs.Try.f45).live (firstRegion (lp Go.Proofs.Try.f45 3))) = hd48 b es k n ps i out) (h1 : decide (i < (ps.length : Int)) = false) (hK : K (X.exit 0) (Nm [4, 5] [D.ptr (Ref.loc 4) 0, D.ptr (Ref.loc 5) 0] [some [D.dat (I 0), D.dat (I 0), D.own 71 []], some [D.dat (I k), D.dat (I n), D.own 71 out]] [] [])) : Rounds (envOf cfg kk 45 Go.Proofs.Try.f45) kk (lp Go.Proofs.Try.f45 3) (m + 1) s K :=
  rounds_end [(200024, .no)] hs (by kernel_rfl) rfl (ob h1 ob0) (by kernel_rfl) hK
theorem lcTree (kk : Nat) (b : Bool) (es : List Dat) (a k n u : Int) (ps out : List Dat) (h1 : (0 ≤ a ∧ a < (es.length : Int)) ∧ es[a.toNat]? = some (N3 k n u)) (h2 : (0 ≤ a ∧ a < (es.length : Int)) ∧ es[a.toNat]? = some (N3 k n u)) (h3 : den cfg kk 65 [D.dat (Dat.lst b es), D.dat (I a)] [] [] = some ([D.own 3 ps], [], [])) (h5 : LoopAt cfg kk 45 Go.Proofs.Try.f45 3 (hd48 b es k n ps 0 []) (X.exit 0) (Nm [4, 5] [D.ptr (Ref.loc 4) 0, D.ptr (Ref.loc 5) 0] [some [D.dat (I 0), D.dat (I 0), D.own 71 []], some [D.dat (I k), D.dat (I n), D.own 71 out]] [] [])) : runFn cfg kk (den cfg kk) 45 Go.Proofs.Try.f45 [.dat (Dat.lst b es), .dat (I a)] [] [] = some ([D.dat (T k n out)], [], []) :=
  hrun_ok [(10, .at (N3 k n u)), (15, .at (N3 k n u)), (21, .ret [.own 3 ps]), (300003, .loop (hd48 b es k n ps 0 []) (.exit 0) (Nm [4, 5] [.ptr (.loc 4) 0, .ptr (.loc 5) 0] [some [.dat (I 0), .dat (I 0), .own 71 []], some [.dat (I k), .dat (I n), .own 71 out]] [] []))] (ob h1 (ob h2 (ob h3 (ob (rfl : _ = hd48 b es k n ps 0 []) (ob h5 ob0))))) (by kernel_rfl)
def hd89 (out : List Dat) (at_ : Int) (ps : List Dat) (i : Int) : St := Nm [0, 7, 22, 23, 24] [.own 56 out, .dat (I at_), .dat (.lst false ps), .dat (I ps.length), .dat (I i)] [none, none, none, none, none] [] []
theorem lcFlat_go (kk m : Nat) {s : St} {K : X → St → Prop} (out : List Dat) (at_ : Int) (ps : List Dat) (i kx nx : Int) (dx out' : List Dat) (hs : s.norm ((envOf cfg kk 40 Go.Proofs.Try.f40).live (firstRegion (lp Go.Proofs.Try.f40 4))) = hd89 out at_ ps i) (h1 : decide (i < (ps.length : Int)) = true) (h2 : (0 ≤ i ∧ i < (ps.length : Int)) ∧ ps[i.toNat]? = some (T kx nx dx)) (h3 : decide ((out.length : Int) ≤ 150) = true) (h4 : den cfg kk 40 [D.own 56 out, D.dat (T kx nx dx), D.dat (I at_)] [] [] = some ([D.own 56 out'], [], [])) (hn : ∀ s : St, s.norm ((envOf cfg kk 40 Go.Proofs.Try.f40).live (firstRegion (lp Go.Proofs.Try.f40 4))) = Nm [0, 7, 22, 23, 24] [D.own 56 out', D.dat (I at_), D.dat (Dat.lst false ps), D.dat (I (ps.length : Int)), D.dat (I (w64 (i + 1)))] [none, none, none, none, none] [] [] → Rounds (envOf cfg kk 40 Go.Proofs.Try.f40) kk (lp Go.Proofs.Try.f40 4) m s K) : Rounds (envOf cfg kk 40 Go.Proofs.Try.f40) kk (lp Go.Proofs.Try.f40 4) (m + 1) s K :=
  rounds_go [(200025, .yes), (26, .at (T kx nx dx)), (200030, .yes), (34, .back [.own 56 out'] [] [])] hs (by kernel_rfl) (ob h1 (ob h2 (ob h3 (ob h4 (ob (rfl : false = false) ob0))))) (by kernel_rfl) hn
theorem lcFlat_skip (kk m : Nat) {s : St} {K : X → St → Prop} (out : List Dat) (at_ : Int) (ps : List Dat) (i kx nx : Int) (dx : List Dat) (hs : s.norm ((envOf cfg kk 40 Go.Proofs.Try.f40).live (firstRegion (lp Go.Proofs.Try.f40 4))) = hd89 out at_ ps i) (h1 : decide (i < (ps.length : Int)) = true) (h2 : (0 ≤ i ∧ i < (ps.length : Int)) ∧ ps[i.toNat]? = some (T kx nx dx)) (h3 : decide ((out.length : Int) ≤ 150) = false) (hn : ∀ s : St, s.norm ((envOf cfg kk 40 Go.Proofs.Try.f40).live (firstRegion (lp Go.Proofs.Try.f40 4))) = Nm [0, 7, 22, 23, 24] [D.own 56 out, D.dat (I at_), D.dat (Dat.lst false ps), D.dat (I (ps.length : Int)), D.dat (I (w64 (i + 1)))] [none, none, none, none, none] [] [] → Rounds (envOf cfg kk 40 Go.Proofs.Try.f40) kk (lp Go.Proofs.Try.f40 4) m s K) : Rounds (envOf cfg kk 40 Go.Proofs.Try.f40) kk (lp Go.Proofs.Try.f40 4) (m + 1) s K :=
  rounds_go [(200025, .yes), (26, .at (T kx nx dx)), (200030, .no)] hs (by kernel_rfl) (ob h1 (ob h2 (ob h3 ob0))) (by kernel_rfl) hn
theorem lcFlat_end (kk m : Nat) {s : St} {K : X → St → Prop} (out : List Dat) (at_ : Int) (ps : List Dat) (i : Int) (hs : s.norm ((envOf cfg kk 40 Go.Proofs.Try.f40).live (firstRegion (lp Go.Proofs.Try.f40 4))) = hd89 out at_ ps i) (h1 : decide (i < (ps.length : Int)) = false) (hK : K (X.exit 0) (Nm [0] [D.own 56 out] [none] [] [])) : Rounds (envOf cfg kk 40 Go.Proofs.Try.f40) kk (lp Go.Proofs.Try.f40 4) (m + 1) s K :=
  rounds_end [(200025, .no)] hs (by kernel_rfl) rfl (ob h1 ob0) (by kernel_rfl) hK
theorem lcFlat (kk : Nat) (l : List Dat) (k n up : Int) (ps out : List Dat) (h1 : l.length + 1 ≤ 2147483648) (h3 : LoopAt cfg kk 40 Go.Proofs.Try.f40 4 (hd89 (l ++ [N3 k n up]) ((l.length : Int)) ps 0) (X.exit 0) (Nm [0] [D.own 56 out] [none] [] [])) : runFn cfg kk (den cfg kk) 40 Go.Proofs.Try.f40 [.own 56 l, .dat (T k n ps), .dat (I up)] [] [] = some ([D.own 56 out], [], []) :=
  hrun_ok [(20, .ok), (300004, .loop (hd89 (l ++ [N3 k n up]) l.length ps 0) (.exit 0) (Nm [0] [.own 56 out] [none] [] []))] (ob (obT h1) (ob (rfl : _ = hd89 (l ++ [N3 k n up]) ((l.length : Int)) ps 0) (ob h3 ob0))) (by kernel_rfl)
theorem lcTold_no (kk : Nat) (k n : Int) (ps out : List Dat) (h1 : den cfg kk 40 [D.own 56 [], D.dat (T k n ps), D.dat (I (-1))] [] [] = some ([D.own 56 out], [], [])) (h4 : den cfg kk 29 [D.dat (Dat.lst true out)] [] [] = some ([D.dat (B false)], [], [])) : runFn cfg kk (den cfg kk) 43 Go.Proofs.Try.f43 [.dat (T k n ps)] [] [] = some ([D.own 56 [], D.dat (B false)], [], []) :=
  hrun_ok [(6, .back [.own 56 out] [] []), (8, .ret [.dat (B false)])] (ob h1 (ob (rfl : false = false) (ob (rfl : true = true) (ob h4 ob0)))) (by kernel_rfl)
theorem lcTold_yes (kk : Nat) (k n : Int) (ps out : List Dat) (h1 : den cfg kk 40 [D.own 56 [], D.dat (T k n ps), D.dat (I (-1))] [] [] = some ([D.own 56 out], [], [])) (h4 : den cfg kk 29 [D.dat (Dat.lst true out)] [] [] = some ([D.dat (B true)], [], [])) : runFn cfg kk (den cfg kk) 43 Go.Proofs.Try.f43 [.dat (T k n ps)] [] [] = some ([D.own 56 out, D.dat (B true)], [], []) :=
  hrun_ok [(6, .back [.own 56 out] [] []), (8, .ret [.dat (B true)])] (ob h1 (ob (rfl : false = false) (ob (rfl : true = true) (ob h4 ob0)))) (by kernel_rfl)
def hd70 (b f k n : Int) (ps out : List Dat) (i : Int) : St := Nm [1, 2, 3, 6, 8, 41, 42, 43] [.dat (I b), .dat (I f), .ptr (.loc 3) 0, .ptr (.loc 6) 0, .ptr (.loc 8) 0, .dat (.lst false ps), .dat (I ps.length), .dat (I i)] [none, none, some [.dat (I k), .dat (I n), .dat (.lst false ps)], some [.dat (I 0), .dat (I 0), .own 71 []], some [.dat (I k), .dat (I 0), .own 71 out], none, none, none] [] []
theorem lcShift_go (kk m : Nat) {s : St} {K : X → St → Prop} (b f k n : Int) (ps out : List Dat) (i : Int) (kx nx ky ny : Int) (px py : List Dat) (hs : s.norm ((envOf cfg kk 82 Go.Proofs.Try.f82).live (firstRegion (lp Go.Proofs.Try.f82 9))) = hd70 b f k n ps out i) (h1 : decide (i < (ps.length : Int)) = true) (h2 : (0 ≤ i ∧ i < (ps.length : Int)) ∧ ps[i.toNat]? = some (T kx nx px)) (h3 : den cfg kk 82 [D.dat (T kx nx px), D.dat (I b), D.dat (I f)] [] [] = some ([D.dat (T ky ny py), D.dat (B true)], [], [])) (h4 : out.length + 1 ≤ 2147483648) (hn : ∀ s : St, s.norm ((envOf cfg kk 82 Go.Proofs.Try.f82).live (firstRegion (lp Go.Proofs.Try.f82 9))) = Nm [1, 2, 3, 6, 8, 41, 42, 43] [D.dat (I b), D.dat (I f), D.ptr (Ref.loc 3) 0, D.ptr (Ref.loc 6) 0, D.ptr (Ref.loc 8) 0, D.dat (Dat.lst false ps), D.dat (I (ps.length : Int)), D.dat (I (w64 (i + 1)))] [none, none, some [D.dat (I k), D.dat (I n), D.dat (Dat.lst false ps)], some [D.dat (I 0), D.dat (I 0), D.own 71 []], some [D.dat (I k), D.dat (I 0), D.own 71 (out ++ [T ky ny py])], none, none, none] [] [] → Rounds (envOf cfg kk 82 Go.Proofs.Try.f82) kk (lp Go.Proofs.Try.f82 9) m s K) : Rounds (envOf cfg kk 82 Go.Proofs.Try.f82) kk (lp Go.Proofs.Try.f82 9) (m + 1) s K :=
  rounds_go [(200044, .yes), (45, .at (T kx nx px)), (51, .ret [.dat (T ky ny py), .dat (B true)]), (61, .ok)] hs (by kernel_rfl) (ob h1 (ob h2 (ob h3 (ob (obT h4) ob0)))) (by kernel_rfl) hn
theorem lcShift_end (kk m : Nat) {s : St} {K : X → St → Prop} (b f k n : Int) (ps out : List Dat) (i : Int) (hs : s.norm ((envOf cfg kk 82 Go.Proofs.Try.f82).live (firstRegion (lp Go.Proofs.Try.f82 9))) = hd70 b f k n ps out i) (h1 : decide (i < (ps.length : Int)) = false) (hK : K (X.exit 0) (Nm [6, 7, 8] [D.ptr (Ref.loc 6) 0, D.junk, D.ptr (Ref.loc 8) 0] [some [D.dat (I 0), D.dat (I 0), D.own 71 []], none, some [D.dat (I k), D.dat (I 0), D.own 71 out]] [] [])) : Rounds (envOf cfg kk 82 Go.Proofs.Try.f82) kk (lp Go.Proofs.Try.f82 9) (m + 1) s K :=
  rounds_end [(200044, .no)] hs (by kernel_rfl) rfl (ob h1 ob0) (by kernel_rfl) hK
theorem lcShift_lo (kk : Nat) (n b f : Int) (ds : List Dat) (h1 : decide (n < f) = true) : runFn cfg kk (den cfg kk) 82 Go.Proofs.Try.f82 [.dat (T 1 n ds), .dat (I b), .dat (I f)] [] [] = some ([D.dat (T 1 n ds), D.dat (B true)], [], []) :=
  hrun_ok [(200019, .yes)] (ob h1 ob0) (by kernel_rfl)
theorem lcShift_hi (kk : Nat) (n b f : Int) (ds : List Dat) (h1 : decide (n < f) = false) (h2 : den cfg kk 77 [D.dat (I (w64 (n + b)))] [] [] = some ([D.dat (T 1 (w64 (n + b)) [])], [], [])) : runFn cfg kk (den cfg kk) 82 Go.Proofs.Try.f82 [.dat (T 1 n ds), .dat (I b), .dat (I f)] [] [] = some ([D.dat (T 1 (w64 (n + b)) []), D.dat (B (decide (f ≤ w64 (n + b))))], [], []) :=
  hrun_ok [(200019, .no), (25, .ret [.dat (T 1 (w64 (n + b)) [])])] (ob h1 (ob h2 ob0)) (by kernel_rfl)
theorem lcShift_lam_y (kk : Nat) (n b f : Int) (ps out : List Dat) (h2 : LoopAt cfg kk 82 Go.Proofs.Try.f82 9 (hd70 b (w64 (f + 1)) 2 n ps [] 0) (X.exit 0) (Nm [6, 7, 8] [D.ptr (Ref.loc 6) 0, D.junk, D.ptr (Ref.loc 8) 0] [some [D.dat (I 0), D.dat (I 0), D.own 71 []], none, some [D.dat (I 2), D.dat (I 0), D.own 71 out]] [] [])) : runFn cfg kk (den cfg kk) 82 Go.Proofs.Try.f82 [.dat (T 2 n ps), .dat (I b), .dat (I f)] [] [] = some ([D.dat (T 2 0 out), D.dat (B true)], [], []) :=
  hrun_ok [(300009, .loop (hd70 b (w64 (f + 1)) 2 n ps [] 0) (.exit 0) (Nm [6, 7, 8] [.ptr (.loc 6) 0, .junk, .ptr (.loc 8) 0] [some [.dat (I 0), .dat (I 0), .own 71 []], none, some [.dat (I 2), .dat (I 0), .own 71 out]] [] []))] (ob (rfl : _ = hd70 b (w64 (f + 1)) 2 n ps [] 0) (ob h2 ob0)) (by kernel_rfl)
theorem lcShift_app_y (kk : Nat) (n b f : Int) (ps out : List Dat) (h2 : LoopAt cfg kk 82 Go.Proofs.Try.f82 9 (hd70 b f 3 n ps [] 0) (X.exit 0) (Nm [6, 7, 8] [D.ptr (Ref.loc 6) 0, D.junk, D.ptr (Ref.loc 8) 0] [some [D.dat (I 0), D.dat (I 0), D.own 71 []], none, some [D.dat (I 3), D.dat (I 0), D.own 71 out]] [] [])) : runFn cfg kk (den cfg kk) 82 Go.Proofs.Try.f82 [.dat (T 3 n ps), .dat (I b), .dat (I f)] [] [] = some ([D.dat (T 3 0 out), D.dat (B true)], [], []) :=
  hrun_ok [(300009, .loop (hd70 b f 3 n ps [] 0) (.exit 0) (Nm [6, 7, 8] [.ptr (.loc 6) 0, .junk, .ptr (.loc 8) 0] [some [.dat (I 0), .dat (I 0), .own 71 []], none, some [.dat (I 3), .dat (I 0), .own 71 out]] [] []))] (ob (rfl : _ = hd70 b f 3 n ps [] 0) (ob h2 ob0)) (by kernel_rfl)
theorem lcSubst_hit (kk : Nat) (n k ks ns u : Int) (ps ds : List Dat) (k1 n1 : Int) (d1 : List Dat) (h1 : decide (n = w64 (k + u)) = true) (h2 : den cfg kk 82 [D.dat (T ks ns ds), D.dat (I u), D.dat (I 0)] [] [] = some ([D.dat (T k1 n1 d1), D.dat (B true)], [], [])) : runFn cfg kk (den cfg kk) 44 Go.Proofs.Try.f44 [.dat (T 1 n ps), .dat (I k), .dat (T ks ns ds), .dat (I u)] [] [] = some ([D.dat (T k1 n1 d1)], [], []) :=
  hrun_ok [(200014, .yes), (24, .ret [.dat (T k1 n1 d1), .dat (B true)])] (ob h1 (ob h2 ob0)) (by kernel_rfl)
theorem lcSubst_hi (kk : Nat) (n k ks ns u : Int) (ps ds : List Dat) (h1 : decide (n = w64 (k + u)) = false) (h2 : decide (w64 (k + u) < n) = true) (h3 : den cfg kk 77 [D.dat (I (w64 (n - 1)))] [] [] = some ([D.dat (T 1 (w64 (n - 1)) [])], [], [])) : runFn cfg kk (den cfg kk) 44 Go.Proofs.Try.f44 [.dat (T 1 n ps), .dat (I k), .dat (T ks ns ds), .dat (I u)] [] [] = some ([D.dat (T 1 (w64 (n - 1)) [])], [], []) :=
  hrun_ok [(200014, .no), (200028, .yes), (38, .ret [.dat (T 1 (w64 (n - 1)) [])])] (ob h1 (ob h2 (ob h3 ob0))) (by kernel_rfl)
theorem lcSubst_lo (kk : Nat) (n k ks ns u : Int) (ps ds : List Dat) (h1 : decide (n = w64 (k + u)) = false) (h2 : decide (w64 (k + u) < n) = false) : runFn cfg kk (den cfg kk) 44 Go.Proofs.Try.f44 [.dat (T 1 n ps), .dat (I k), .dat (T ks ns ds), .dat (I u)] [] [] = some ([D.dat (T 1 n ps)], [], []) :=
  hrun_ok [(200014, .no), (200028, .no)] (ob h1 (ob h2 ob0)) (by kernel_rfl)
theorem lcSubst_lam (kk : Nat) (n k ks ns u : Int) (ps ds : List Dat) (ka na kb nb : Int) (da db : List Dat) (h1 : ((0 : Int) ≤ 0 ∧ 0 < ((T ka na da :: ps).length : Int)) ∧ some (T ka na da) = some (T ka na da)) (h2 : den cfg kk 44 [D.dat (T ka na da), D.dat (I k), D.dat (T ks ns ds), D.dat (I (w64 (u + 1)))] [] [] = some ([D.dat (T kb nb db)], [], [])) (h3 : den cfg kk 78 [D.dat (T kb nb db)] [] [] = some ([D.dat (Dat.agg [I 2, I 0, Dat.lst false [T kb nb db]])], [], [])) : runFn cfg kk (den cfg kk) 44 Go.Proofs.Try.f44 [.dat (T 2 n (T ka na da :: ps)), .dat (I k), .dat (T ks ns ds), .dat (I u)] [] [] = some ([D.dat (Dat.agg [I 2, I 0, Dat.lst false [T kb nb db]])], [], []) :=
  hrun_ok [(45, .at (T ka na da)), (51, .ret [.dat (T kb nb db)]), (52, .ret [.dat (T 2 0 [T kb nb db])])] (ob h1 (ob h2 (ob h3 ob0))) (by kernel_rfl)
theorem lcSubst_app (kk : Nat) (n k ks ns u : Int) (ps ds : List Dat) (ka na kb nb kc nc kd nd : Int) (da db dc dd : List Dat) (h1 : ((0 : Int) ≤ 0 ∧ 0 < ((T ka na da :: T kb nb db :: ps).length : Int)) ∧ some (T ka na da) = some (T ka na da)) (h2 : ((0 : Int) ≤ 1 ∧ 1 < ((T ka na da :: T kb nb db :: ps).length : Int)) ∧ some (T kb nb db) = some (T kb nb db)) (h3 : den cfg kk 44 [D.dat (T ka na da), D.dat (I k), D.dat (T ks ns ds), D.dat (I u)] [] [] = some ([D.dat (T kc nc dc)], [], [])) (h4 : den cfg kk 44 [D.dat (T kb nb db), D.dat (I k), D.dat (T ks ns ds), D.dat (I u)] [] [] = some ([D.dat (T kd nd dd)], [], [])) (h5 : den cfg kk 61 [D.dat (T kc nc dc), D.dat (T kd nd dd)] [] [] = some ([D.dat (Dat.agg [I 3, I 0, Dat.lst false [T kc nc dc, T kd nd dd]])], [], [])) : runFn cfg kk (den cfg kk) 44 Go.Proofs.Try.f44 [.dat (T 3 n (T ka na da :: T kb nb db :: ps)), .dat (I k), .dat (T ks ns ds), .dat (I u)] [] [] = some ([D.dat (Dat.agg [I 3, I 0, Dat.lst false [T kc nc dc, T kd nd dd]])], [], []) :=
  hrun_ok [(55, .at (T ka na da)), (63, .at (T kb nb db)), (60, .ret [.dat (T kc nc dc)]), (68, .ret [.dat (T kd nd dd)]), (69, .ret [.dat (T 3 0 [T kc nc dc, T kd nd dd])])] (ob h1 (ob h2 (ob h3 (ob h4 (ob h5 ob0))))) (by kernel_rfl)
theorem SubstTerm_no1 (kk : Nat) (b1 b2 : Bool) (xs ys : List Dat) (k : Int) (h1 : den cfg kk 29 [D.dat (Dat.lst b1 xs)] [] [] = some ([D.dat (B false)], [], [])) : runFn cfg kk (den cfg kk) 15 Go.Proofs.Try.f15 [.dat (Dat.lst b1 xs), .dat (I k), .dat (Dat.lst b2 ys)] [] [] = some ([D.own 56 [], D.dat (B false)], [], []) :=
  hrun_ok [(9, .ret [.dat (B false)]), (200011, .yes)] (ob h1 (ob (rfl : true = true) (ob (rfl : true = true) (ob (rfl : true = true) ob0)))) (by kernel_rfl)
theorem SubstTerm_no2 (kk : Nat) (b1 b2 : Bool) (xs ys : List Dat) (k : Int) (h1 : den cfg kk 29 [D.dat (Dat.lst b1 xs)] [] [] = some ([D.dat (B true)], [], [])) (h4 : den cfg kk 29 [D.dat (Dat.lst b2 ys)] [] [] = some ([D.dat (B false)], [], [])) : runFn cfg kk (den cfg kk) 15 Go.Proofs.Try.f15 [.dat (Dat.lst b1 xs), .dat (I k), .dat (Dat.lst b2 ys)] [] [] = some ([D.own 56 [], D.dat (B false)], [], []) :=
  hrun_ok [(9, .ret [.dat (B true)]), (200011, .no), (13, .ret [.dat (B false)]), (200016, .yes)] (ob h1 (ob (rfl : false = false) (ob (rfl : false = false) (ob h4 (ob (rfl : false = false) (ob (rfl : true = true) (ob (rfl : true = true) (ob (rfl : true = true) ob0)))))))) (by kernel_rfl)
theorem SubstTerm_no3 (kk : Nat) (b1 b2 : Bool) (xs ys : List Dat) (k : Int) (h1 : den cfg kk 29 [D.dat (Dat.lst b1 xs)] [] [] = some ([D.dat (B true)], [], [])) (h4 : den cfg kk 29 [D.dat (Dat.lst b2 ys)] [] [] = some ([D.dat (B true)], [], [])) (h8 : den cfg kk 30 [D.dat (I k), D.dat (I 0), D.dat (I 99)] [] [] = some ([D.dat (B false)], [], [])) : runFn cfg kk (den cfg kk) 15 Go.Proofs.Try.f15 [.dat (Dat.lst b1 xs), .dat (I k), .dat (Dat.lst b2 ys)] [] [] = some ([D.own 56 [], D.dat (B false)], [], []) :=
  hrun_ok [(9, .ret [.dat (B true)]), (200011, .no), (13, .ret [.dat (B true)]), (200016, .no), (18, .ret [.dat (B false)])] (ob h1 (ob (rfl : false = false) (ob (rfl : false = false) (ob h4 (ob (rfl : false = false) (ob (rfl : false = false) (ob (rfl : false = false) (ob h8 (ob (rfl : false = false) ob0))))))))) (by kernel_rfl)
theorem SubstTerm_go (kk : Nat) (b1 b2 r : Bool) (xs ys out : List Dat) (k ka na kb nb kc nc : Int) (da db dc : List Dat) (h1 : den cfg kk 29 [D.dat (Dat.lst b1 xs)] [] [] = some ([D.dat (B true)], [], [])) (h4 : den cfg kk 29 [D.dat (Dat.lst b2 ys)] [] [] = some ([D.dat (B true)], [], [])) (h8 : den cfg kk 30 [D.dat (I k), D.dat (I 0), D.dat (I 99)] [] [] = some ([D.dat (B true)], [], [])) (h10 : den cfg kk 45 [D.dat (Dat.lst b1 xs), D.dat (I 0)] [] [] = some ([D.dat (T ka na da)], [], [])) (h11 : den cfg kk 45 [D.dat (Dat.lst b2 ys), D.dat (I 0)] [] [] = some ([D.dat (T kb nb db)], [], [])) (h12 : den cfg kk 44 [D.dat (T ka na da), D.dat (I k), D.dat (T kb nb db), D.dat (I 0)] [] [] = some ([D.dat (T kc nc dc)], [], [])) (h13 : den cfg kk 43 [D.dat (T kc nc dc)] [] [] = some ([D.own 56 out, D.dat (B r)], [], [])) : runFn cfg kk (den cfg kk) 15 Go.Proofs.Try.f15 [.dat (Dat.lst b1 xs), .dat (I k), .dat (Dat.lst b2 ys)] [] [] = some ([D.own 56 out, D.dat (B r)], [], []) :=
  hrun_ok [(9, .ret [.dat (B true)]), (200011, .no), (13, .ret [.dat (B true)]), (200016, .no), (18, .ret [.dat (B true)]), (22, .ret [.dat (T ka na da)]), (25, .ret [.dat (T kb nb db)]), (26, .ret [.dat (T kc nc dc)]), (27, .ret [.own 56 out, .dat (B r)])] (ob h1 (ob (rfl : false = false) (ob (rfl : false = false) (ob h4 (ob (rfl : false = false) (ob (rfl : false = false) (ob (rfl : false = false) (ob h8 (ob (rfl : false = false) (ob h10 (ob h11 (ob h12 (ob h13 ob0))))))))))))) (by kernel_rfl)
theorem variable_ (kk : Nat) (n : Int)  : runFn cfg kk (den cfg kk) 81 Go.Proofs.Try.f81 [.dat (I n)] [] [] = some ([D.dat (T 1 n [])], [], []) :=
  hrun_ok [] ob0 (by kernel_rfl)
theorem lam (kk : Nat) (k n : Int) (ds : List Dat)  : runFn cfg kk (den cfg kk) 74 Go.Proofs.Try.f74 [.dat (T k n ds)] [] [] = some ([D.dat (Dat.agg [I 2, I 0, Dat.lst false [T k n ds]])], [], []) :=
  hrun_ok [] ob0 (by kernel_rfl)
theorem app (kk : Nat) (k n k' n' : Int) (ds ds' : List Dat)  : runFn cfg kk (den cfg kk) 57 Go.Proofs.Try.f57 [.dat (T k n ds), .dat (T k' n' ds')] [] [] = some ([D.dat (Dat.agg [I 3, I 0, Dat.lst false [T k n ds, Dat.agg [I k', I n', Dat.lst false ds']]])], [], []) :=
  hrun_ok [] ob0 (by kernel_rfl)
theorem termAt_end (kk : Nat) (b : Bool) (es : List Dat) (a up : Int) (h1 : decide (a = (es.length : Int)) = true) : runFn cfg kk (den cfg kk) 68 Go.Proofs.Try.f68 [.dat (Dat.lst b es), .dat (I a), .dat (I up)] [] [] = some ([D.dat (T 0 0 []), D.dat (I 0), D.dat (B false)], [], []) :=
  hrun_ok [(200018, .yes)] (ob h1 (ob (rfl : true = true) (ob (rfl : true = true) (ob (rfl : true = true) (ob (rfl : true = true) (ob (rfl : true = true) (ob (rfl : true = true) ob0))))))) (by kernel_rfl)
theorem termAt_up (kk : Nat) (b : Bool) (es : List Dat) (a up : Int) (k n u : Int) (h1 : decide (a = (es.length : Int)) = false) (h4 : (0 ≤ a ∧ a < (es.length : Int)) ∧ es[a.toNat]? = some (N3 k n u)) (h9 : (!decide (u = up)) = true) : runFn cfg kk (den cfg kk) 68 Go.Proofs.Try.f68 [.dat (Dat.lst b es), .dat (I a), .dat (I up)] [] [] = some ([D.dat (T 0 0 []), D.dat (I 0), D.dat (B false)], [], []) :=
  hrun_ok [(200018, .no), (21, .at (N3 k n u)), (200027, .yes)] (ob h1 (ob (rfl : false = false) (ob (rfl : false = false) (ob h4 (ob (rfl : false = false) (ob (rfl : false = false) (ob (rfl : false = false) (ob (rfl : false = false) (ob h9 (ob (rfl : true = true) (ob (rfl : true = true) (ob (rfl : true = true) (ob (rfl : true = true) (ob (rfl : true = true) ob0)))))))))))))) (by kernel_rfl)
theorem termAt_lo (kk : Nat) (b : Bool) (es : List Dat) (a up : Int) (k n u : Int) (h1 : decide (a = (es.length : Int)) = false) (h4 : (0 ≤ a ∧ a < (es.length : Int)) ∧ es[a.toNat]? = some (N3 k n u)) (h9 : (!decide (u = up)) = false) (h12 : (0 ≤ a ∧ a < (es.length : Int)) ∧ es[a.toNat]? = some (N3 k n u)) (h16 : decide (k < 1) = true) : runFn cfg kk (den cfg kk) 68 Go.Proofs.Try.f68 [.dat (Dat.lst b es), .dat (I a), .dat (I up)] [] [] = some ([D.dat (T 0 0 []), D.dat (I 0), D.dat (B false)], [], []) :=
  hrun_ok [(200018, .no), (21, .at (N3 k n u)), (200027, .no), (30, .at (N3 k n u)), (200035, .yes)] (ob h1 (ob (rfl : false = false) (ob (rfl : false = false) (ob h4 (ob (rfl : false = false) (ob (rfl : false = false) (ob (rfl : false = false) (ob (rfl : false = false) (ob h9 (ob (rfl : false = false) (ob (rfl : false = false) (ob h12 (ob (rfl : false = false) (ob (rfl : false = false) (ob (rfl : false = false) (ob h16 (ob (rfl : true = true) (ob (rfl : true = true) (ob (rfl : true = true) (ob (rfl : true = true) (ob (rfl : true = true) ob0))))))))))))))))))))) (by kernel_rfl)
theorem termAt_hi (kk : Nat) (b : Bool) (es : List Dat) (a up : Int) (k n u : Int) (h1 : decide (a = (es.length : Int)) = false) (h4 : (0 ≤ a ∧ a < (es.length : Int)) ∧ es[a.toNat]? = some (N3 k n u)) (h9 : (!decide (u = up)) = false) (h12 : (0 ≤ a ∧ a < (es.length : Int)) ∧ es[a.toNat]? = some (N3 k n u)) (h16 : decide (k < 1) = false) (h19 : (0 ≤ a ∧ a < (es.length : Int)) ∧ es[a.toNat]? = some (N3 k n u)) (h23 : decide (3 < k) = true) : runFn cfg kk (den cfg kk) 68 Go.Proofs.Try.f68 [.dat (Dat.lst b es), .dat (I a), .dat (I up)] [] [] = some ([D.dat (T 0 0 []), D.dat (I 0), D.dat (B false)], [], []) :=
  hrun_ok [(200018, .no), (21, .at (N3 k n u)), (200027, .no), (30, .at (N3 k n u)), (200035, .no), (38, .at (N3 k n u)), (200042, .yes)] (ob h1 (ob (rfl : false = false) (ob (rfl : false = false) (ob h4 (ob (rfl : false = false) (ob (rfl : false = false) (ob (rfl : false = false) (ob (rfl : false = false) (ob h9 (ob (rfl : false = false) (ob (rfl : false = false) (ob h12 (ob (rfl : false = false) (ob (rfl : false = false) (ob (rfl : false = false) (ob h16 (ob (rfl : false = false) (ob (rfl : false = false) (ob h19 (ob (rfl : false = false) (ob (rfl : false = false) (ob (rfl : false = false) (ob h23 ob0))))))))))))))))))))))) (by kernel_rfl)
def hd90 (b : Bool) (es : List Dat) (a up : Int) (k n : Int) (out : List Dat) (nx mm i : Int) : St := Nm [0, 1, 6, 9, 10, 59, 60] [.dat (.lst b es), .dat (I a), .ptr (.loc 6) 0, .ptr (.loc 9) 0, .dat (I nx), .dat (I mm), .dat (I i)] [none, none, some [.dat (I 0), .dat (I 0), .own 59 []], some [.dat (I k), .dat (I n), .own 59 out], none, none, none] [] []
theorem termAt_go (kk m : Nat) {s : St} {K : X → St → Prop} (b : Bool) (es : List Dat) (a up : Int) (k n : Int) (out : List Dat) (nx mm i : Int) (kx nnx nx' : Int) (dx : List Dat) (hs : s.norm ((envOf cfg kk 68 Go.Proofs.Try.f68).live (firstRegion (lp Go.Proofs.Try.f68 5))) = hd90 b es a up k n out nx mm i) (h1 : decide (i < mm) = true) (h2 : den cfg kk 68 [D.dat (Dat.lst b es), D.dat (I nx), D.dat (I a)] [] [] = some ([D.dat (T kx nnx dx), D.dat (I nx'), D.dat (B true)], [], [])) (h3 : out.length + 1 ≤ 2147483648) (hn : ∀ s : St, s.norm ((envOf cfg kk 68 Go.Proofs.Try.f68).live (firstRegion (lp Go.Proofs.Try.f68 5))) = Nm [0, 1, 6, 9, 10, 59, 60] [D.dat (Dat.lst b es), D.dat (I a), D.ptr (Ref.loc 6) 0, D.ptr (Ref.loc 9) 0, D.dat (I nx'), D.dat (I mm), D.dat (I (w64 (i + 1)))] [none, none, some [D.dat (I 0), D.dat (I 0), D.own 59 []], some [D.dat (I k), D.dat (I n), D.own 59 (out ++ [T kx nnx dx])], none, none, none] [] [] → Rounds (envOf cfg kk 68 Go.Proofs.Try.f68) kk (lp Go.Proofs.Try.f68 5) m s K) : Rounds (envOf cfg kk 68 Go.Proofs.Try.f68) kk (lp Go.Proofs.Try.f68 5) (m + 1) s K :=
  rounds_go [(200061, .yes), (66, .ret [.dat (T kx nnx dx), .dat (I nx'), .dat (B true)]), (77, .ok)] hs (by kernel_rfl) (ob h1 (ob h2 (ob (obT h3) ob0))) (by kernel_rfl) hn
theorem termAt_bad (kk m : Nat) {s : St} {K : X → St → Prop} (b : Bool) (es : List Dat) (a up : Int) (k n : Int) (out : List Dat) (nx mm i : Int) (kx nnx nx' : Int) (dx : List Dat) (hs : s.norm ((envOf cfg kk 68 Go.Proofs.Try.f68).live (firstRegion (lp Go.Proofs.Try.f68 5))) = hd90 b es a up k n out nx mm i) (h1 : decide (i < mm) = true) (h2 : den cfg kk 68 [D.dat (Dat.lst b es), D.dat (I nx), D.dat (I a)] [] [] = some ([D.dat (T kx nnx dx), D.dat (I nx'), D.dat (B false)], [], [])) (hK : K (X.ret) (Nm [6, 7, 8, 9, 10] [D.ptr (Ref.loc 6) 0, D.dat (I 0), D.dat (B false), D.ptr (Ref.loc 9) 0, D.dat (I nx)] [some [D.dat (I 0), D.dat (I 0), D.own 59 []], none, none, some [D.dat (I k), D.dat (I n), D.own 59 out], none] [] [])) : Rounds (envOf cfg kk 68 Go.Proofs.Try.f68) kk (lp Go.Proofs.Try.f68 5) (m + 1) s K :=
  rounds_end [(200061, .yes), (66, .ret [.dat (T kx nnx dx), .dat (I nx'), .dat (B false)])] hs (by kernel_rfl) rfl (ob h1 (ob h2 ob0)) (by kernel_rfl) hK
theorem termAt_done (kk m : Nat) {s : St} {K : X → St → Prop} (b : Bool) (es : List Dat) (a up : Int) (k n : Int) (out : List Dat) (nx mm i : Int) (hs : s.norm ((envOf cfg kk 68 Go.Proofs.Try.f68).live (firstRegion (lp Go.Proofs.Try.f68 5))) = hd90 b es a up k n out nx mm i) (h1 : decide (i < mm) = false) (hK : K (X.exit 0) (Nm [6, 7, 8, 9, 10] [D.ptr (Ref.loc 6) 0, D.junk, D.junk, D.ptr (Ref.loc 9) 0, D.dat (I nx)] [some [D.dat (I 0), D.dat (I 0), D.own 59 []], none, none, some [D.dat (I k), D.dat (I n), D.own 59 out], none] [] [])) : Rounds (envOf cfg kk 68 Go.Proofs.Try.f68) kk (lp Go.Proofs.Try.f68 5) (m + 1) s K :=
  rounds_end [(200061, .no)] hs (by kernel_rfl) rfl (ob h1 ob0) (by kernel_rfl) hK
theorem termAt_y (kk : Nat) (b : Bool) (es : List Dat) (a up : Int) (k n u nx : Int) (out : List Dat) (h1 : decide (a = (es.length : Int)) = false) (h4 : (0 ≤ a ∧ a < (es.length : Int)) ∧ es[a.toNat]? = some (N3 k n u)) (h9 : (!decide (u = up)) = false) (h12 : (0 ≤ a ∧ a < (es.length : Int)) ∧ es[a.toNat]? = some (N3 k n u)) (h16 : decide (k < 1) = false) (h19 : (0 ≤ a ∧ a < (es.length : Int)) ∧ es[a.toNat]? = some (N3 k n u)) (h23 : decide (3 < k) = false) (h24 : (0 ≤ a ∧ a < (es.length : Int)) ∧ es[a.toNat]? = some (N3 k n u)) (h25 : (0 ≤ a ∧ a < (es.length : Int)) ∧ es[a.toNat]? = some (N3 k n u)) (h27 : LoopAt cfg kk 68 Go.Proofs.Try.f68 5 (hd90 b es a up k n [] (w64 (a + 1)) (w64 (k - 1)) 0) (X.exit 0) (Nm [6, 7, 8, 9, 10] [D.ptr (Ref.loc 6) 0, D.junk, D.junk, D.ptr (Ref.loc 9) 0, D.dat (I nx)] [some [D.dat (I 0), D.dat (I 0), D.own 59 []], none, none, some [D.dat (I k), D.dat (I n), D.own 59 out], none] [] [])) : runFn cfg kk (den cfg kk) 68 Go.Proofs.Try.f68 [.dat (Dat.lst b es), .dat (I a), .dat (I up)] [] [] = some ([D.dat (T k n out), D.dat (I nx), D.dat (B true)], [], []) :=
  hrun_ok [(200018, .no), (21, .at (N3 k n u)), (200027, .no), (30, .at (N3 k n u)), (200035, .no), (38, .at (N3 k n u)), (200042, .no), (46, .at (N3 k n u)), (51, .at (N3 k n u)), (300005, .loop (hd90 b es a up k n [] (w64 (a + 1)) (w64 (k - 1)) 0) (.exit 0) (Nm [6, 7, 8, 9, 10] [.ptr (.loc 6) 0, .junk, .junk, .ptr (.loc 9) 0, .dat (I nx)] [some [.dat (I 0), .dat (I 0), .own 59 []], none, none, some [.dat (I k), .dat (I n), .own 59 out], none] [] []))] (ob h1 (ob (rfl : false = false) (ob (rfl : false = false) (ob h4 (ob (rfl : false = false) (ob (rfl : false = false) (ob (rfl : false = false) (ob (rfl : false = false) (ob h9 (ob (rfl : false = false) (ob (rfl : false = false) (ob h12 (ob (rfl : false = false) (ob (rfl : false = false) (ob (rfl : false = false) (ob h16 (ob (rfl : false = false) (ob (rfl : false = false) (ob h19 (ob (rfl : false = false) (ob (rfl : false = false) (ob (rfl : false = false) (ob h23 (ob h24 (ob h25 (ob (rfl : _ = hd90 b es a up k n [] (w64 (a + 1)) (w64 (k - 1)) 0) (ob h27 ob0))))))))))))))))))))))))))) (by kernel_rfl)
theorem termAt_n (kk : Nat) (b : Bool) (es : List Dat) (a up : Int) (k n u nx : Int) (out : List Dat) (h1 : decide (a = (es.length : Int)) = false) (h4 : (0 ≤ a ∧ a < (es.length : Int)) ∧ es[a.toNat]? = some (N3 k n u)) (h9 : (!decide (u = up)) = false) (h12 : (0 ≤ a ∧ a < (es.length : Int)) ∧ es[a.toNat]? = some (N3 k n u)) (h16 : decide (k < 1) = false) (h19 : (0 ≤ a ∧ a < (es.length : Int)) ∧ es[a.toNat]? = some (N3 k n u)) (h23 : decide (3 < k) = false) (h24 : (0 ≤ a ∧ a < (es.length : Int)) ∧ es[a.toNat]? = some (N3 k n u)) (h25 : (0 ≤ a ∧ a < (es.length : Int)) ∧ es[a.toNat]? = some (N3 k n u)) (h27 : LoopAt cfg kk 68 Go.Proofs.Try.f68 5 (hd90 b es a up k n [] (w64 (a + 1)) (w64 (k - 1)) 0) X.ret (Nm [6, 7, 8, 9, 10] [D.ptr (Ref.loc 6) 0, D.dat (I 0), D.dat (B false), D.ptr (Ref.loc 9) 0, D.dat (I nx)] [some [D.dat (I 0), D.dat (I 0), D.own 59 []], none, none, some [D.dat (I k), D.dat (I n), D.own 59 out], none] [] [])) : runFn cfg kk (den cfg kk) 68 Go.Proofs.Try.f68 [.dat (Dat.lst b es), .dat (I a), .dat (I up)] [] [] = some ([D.dat (T 0 0 []), D.dat (I 0), D.dat (B false)], [], []) :=
  hrun_ok [(200018, .no), (21, .at (N3 k n u)), (200027, .no), (30, .at (N3 k n u)), (200035, .no), (38, .at (N3 k n u)), (200042, .no), (46, .at (N3 k n u)), (51, .at (N3 k n u)), (300005, .loop (hd90 b es a up k n [] (w64 (a + 1)) (w64 (k - 1)) 0) .ret (Nm [6, 7, 8, 9, 10] [.ptr (.loc 6) 0, .dat (I 0), .dat (B false), .ptr (.loc 9) 0, .dat (I nx)] [some [.dat (I 0), .dat (I 0), .own 59 []], none, none, some [.dat (I k), .dat (I n), .own 59 out], none] [] []))] (ob h1 (ob (rfl : false = false) (ob (rfl : false = false) (ob h4 (ob (rfl : false = false) (ob (rfl : false = false) (ob (rfl : false = false) (ob (rfl : false = false) (ob h9 (ob (rfl : false = false) (ob (rfl : false = false) (ob h12 (ob (rfl : false = false) (ob (rfl : false = false) (ob (rfl : false = false) (ob h16 (ob (rfl : false = false) (ob (rfl : false = false) (ob h19 (ob (rfl : false = false) (ob (rfl : false = false) (ob (rfl : false = false) (ob h23 (ob h24 (ob h25 (ob (rfl : _ = hd90 b es a up k n [] (w64 (a + 1)) (w64 (k - 1)) 0) (ob h27 ob0))))))))))))))))))))))))))) (by kernel_rfl)
theorem termOf_few (kk : Nat) (b : Bool) (es : List Dat) (h1 : decide ((es.length : Int) < 1) = true) : runFn cfg kk (den cfg kk) 32 Go.Proofs.Try.f32 [.dat (Dat.lst b es)] [] [] = some ([D.dat (T 0 0 []), D.dat (B false)], [], []) :=
  hrun_ok [(200010, .yes)] (ob h1 (ob (rfl : true = true) (ob (rfl : true = true) ob0))) (by kernel_rfl)
theorem termOf_many (kk : Nat) (b : Bool) (es : List Dat) (h1 : decide ((es.length : Int) < 1) = false) (h4 : decide (150 < (es.length : Int)) = true) : runFn cfg kk (den cfg kk) 32 Go.Proofs.Try.f32 [.dat (Dat.lst b es)] [] [] = some ([D.dat (T 0 0 []), D.dat (B false)], [], []) :=
  hrun_ok [(200010, .no), (200014, .yes)] (ob h1 (ob (rfl : false = false) (ob (rfl : false = false) (ob h4 ob0)))) (by kernel_rfl)
theorem termOf_bad (kk : Nat) (b : Bool) (es : List Dat) (k n nx : Int) (ds : List Dat) (h1 : decide ((es.length : Int) < 1) = false) (h4 : decide (150 < (es.length : Int)) = false) (h5 : den cfg kk 68 [D.dat (Dat.lst b es), D.dat (I 0), D.dat (I (-1))] [] [] = some ([D.dat (T k n ds), D.dat (I nx), D.dat (B false)], [], [])) : runFn cfg kk (den cfg kk) 32 Go.Proofs.Try.f32 [.dat (Dat.lst b es)] [] [] = some ([D.dat (T k n ds), D.dat (B false)], [], []) :=
  hrun_ok [(200010, .no), (200014, .no), (18, .ret [.dat (T k n ds), .dat (I nx), .dat (B false)])] (ob h1 (ob (rfl : false = false) (ob (rfl : false = false) (ob h4 (ob h5 ob0))))) (by kernel_rfl)
theorem termOf_more (kk : Nat) (b : Bool) (es : List Dat) (k n nx : Int) (ds : List Dat) (h1 : decide ((es.length : Int) < 1) = false) (h4 : decide (150 < (es.length : Int)) = false) (h5 : den cfg kk 68 [D.dat (Dat.lst b es), D.dat (I 0), D.dat (I (-1))] [] [] = some ([D.dat (T k n ds), D.dat (I nx), D.dat (B true)], [], [])) (h6 : decide (nx = (es.length : Int)) = false) : runFn cfg kk (den cfg kk) 32 Go.Proofs.Try.f32 [.dat (Dat.lst b es)] [] [] = some ([D.dat (T k n ds), D.dat (B false)], [], []) :=
  hrun_ok [(200010, .no), (200014, .no), (18, .ret [.dat (T k n ds), .dat (I nx), .dat (B true)]), (200030, .no)] (ob h1 (ob (rfl : false = false) (ob (rfl : false = false) (ob h4 (ob h5 (ob h6 (ob (rfl : false = false) ob0))))))) (by kernel_rfl)
theorem termOf_go (kk : Nat) (b : Bool) (es : List Dat) (k n nx : Int) (ds : List Dat) (g : Bool) (h1 : decide ((es.length : Int) < 1) = false) (h4 : decide (150 < (es.length : Int)) = false) (h5 : den cfg kk 68 [D.dat (Dat.lst b es), D.dat (I 0), D.dat (I (-1))] [] [] = some ([D.dat (T k n ds), D.dat (I nx), D.dat (B true)], [], [])) (h6 : decide (nx = (es.length : Int)) = true) (h8 : den cfg kk 69 [D.dat (T k n ds)] [] [] = some ([D.dat (B g)], [], [])) : runFn cfg kk (den cfg kk) 32 Go.Proofs.Try.f32 [.dat (Dat.lst b es)] [] [] = some ([D.dat (T k n ds), D.dat (B g)], [], []) :=
  hrun_ok [(200010, .no), (200014, .no), (18, .ret [.dat (T k n ds), .dat (I nx), .dat (B true)]), (200030, .yes), (32, .ret [.dat (B g)])] (ob h1 (ob (rfl : false = false) (ob (rfl : false = false) (ob h4 (ob h5 (ob h6 (ob (rfl : true = true) (ob h8 ob0)))))))) (by kernel_rfl)
theorem isGood_big (kk : Nat) (k n z : Int) (ds : List Dat) (h1 : den cfg kk 71 [D.dat (T k n ds)] [] [] = some ([D.dat (I z)], [], [])) (h2 : decide (z ≤ 150) = false) : runFn cfg kk (den cfg kk) 69 Go.Proofs.Try.f69 [.dat (T k n ds)] [] [] = some ([D.dat (B false)], [], []) :=
  hrun_ok [(4, .ret [.dat (I z)]), (200006, .no)] (ob h1 (ob h2 (ob (rfl : false = false) (ob (rfl : false = false) ob0)))) (by kernel_rfl)
theorem isGood_deep (kk : Nat) (k n z d : Int) (ds : List Dat) (h1 : den cfg kk 71 [D.dat (T k n ds)] [] [] = some ([D.dat (I z)], [], [])) (h2 : decide (z ≤ 150) = true) (h4 : den cfg kk 99 [D.dat (T k n ds)] [] [] = some ([D.dat (I d)], [], [])) (h6 : decide (d ≤ 40) = false) : runFn cfg kk (den cfg kk) 69 Go.Proofs.Try.f69 [.dat (T k n ds)] [] [] = some ([D.dat (B false)], [], []) :=
  hrun_ok [(4, .ret [.dat (I z)]), (200006, .yes), (8, .ret [.dat (I d)]), (200011, .no)] (ob h1 (ob h2 (ob (rfl : true = true) (ob h4 (ob (rfl : true = true) (ob h6 (ob (rfl : false = false) ob0))))))) (by kernel_rfl)
theorem isGood_go (kk : Nat) (k n z d : Int) (ds : List Dat) (g : Bool) (h1 : den cfg kk 71 [D.dat (T k n ds)] [] [] = some ([D.dat (I z)], [], [])) (h2 : decide (z ≤ 150) = true) (h4 : den cfg kk 99 [D.dat (T k n ds)] [] [] = some ([D.dat (I d)], [], [])) (h6 : decide (d ≤ 40) = true) (h8 : den cfg kk 100 [D.dat (T k n ds)] [] [] = some ([D.dat (B g)], [], [])) : runFn cfg kk (den cfg kk) 69 Go.Proofs.Try.f69 [.dat (T k n ds)] [] [] = some ([D.dat (B g)], [], []) :=
  hrun_ok [(4, .ret [.dat (I z)]), (200006, .yes), (8, .ret [.dat (I d)]), (200011, .yes), (13, .ret [.dat (B g)])] (ob h1 (ob h2 (ob (rfl : true = true) (ob h4 (ob (rfl : true = true) (ob h6 (ob (rfl : true = true) (ob h8 ob0)))))))) (by kernel_rfl)
def hd99 (ps : List Dat) (acc i : Int) : St := Nm [3, 7, 8, 9] [.dat (I acc), .dat (.lst false ps), .dat (I ps.length), .dat (I i)] [none, none, none, none] [] []
theorem size_go (kk m : Nat) {s : St} {K : X → St → Prop} (ps : List Dat) (acc i kx nx z : Int) (dx : List Dat) (hs : s.norm ((envOf cfg kk 71 Go.Proofs.Try.f71).live (firstRegion (lp Go.Proofs.Try.f71 3))) = hd99 ps acc i) (h1 : decide (i < (ps.length : Int)) = true) (h2 : (0 ≤ i ∧ i < (ps.length : Int)) ∧ ps[i.toNat]? = some (T kx nx dx)) (h3 : den cfg kk 71 [D.dat (T kx nx dx)] [] [] = some ([D.dat (I z)], [], [])) (hn : ∀ s : St, s.norm ((envOf cfg kk 71 Go.Proofs.Try.f71).live (firstRegion (lp Go.Proofs.Try.f71 3))) = Nm [3, 7, 8, 9] [D.dat (I (w64 (acc + z))), D.dat (Dat.lst false ps), D.dat (I (ps.length : Int)), D.dat (I (w64 (i + 1)))] [none, none, none, none] [] [] → Rounds (envOf cfg kk 71 Go.Proofs.Try.f71) kk (lp Go.Proofs.Try.f71 3) m s K) : Rounds (envOf cfg kk 71 Go.Proofs.Try.f71) kk (lp Go.Proofs.Try.f71 3) (m + 1) s K :=
  rounds_go [(200010, .yes), (11, .at (T kx nx dx)), (15, .ret [.dat (I z)])] hs (by kernel_rfl) (ob h1 (ob h2 (ob h3 ob0))) (by kernel_rfl) hn
theorem size_end (kk m : Nat) {s : St} {K : X → St → Prop} (ps : List Dat) (acc i : Int) (hs : s.norm ((envOf cfg kk 71 Go.Proofs.Try.f71).live (firstRegion (lp Go.Proofs.Try.f71 3))) = hd99 ps acc i) (h1 : decide (i < (ps.length : Int)) = false) (hK : K (X.exit 0) (Nm [3] [D.dat (I acc)] [none] [] [])) : Rounds (envOf cfg kk 71 Go.Proofs.Try.f71) kk (lp Go.Proofs.Try.f71 3) (m + 1) s K :=
  rounds_end [(200010, .no)] hs (by kernel_rfl) rfl (ob h1 ob0) (by kernel_rfl) hK
theorem size (kk : Nat) (k n acc : Int) (ps : List Dat) (h2 : LoopAt cfg kk 71 Go.Proofs.Try.f71 3 (hd99 ps 1 0) (X.exit 0) (Nm [3] [D.dat (I acc)] [none] [] [])) : runFn cfg kk (den cfg kk) 71 Go.Proofs.Try.f71 [.dat (T k n ps)] [] [] = some ([D.dat (I acc)], [], []) :=
  hrun_ok [(300003, .loop (hd99 ps 1 0) (.exit 0) (Nm [3] [.dat (I acc)] [none] [] []))] (ob (rfl : _ = hd99 ps 1 0) (ob h2 ob0)) (by kernel_rfl)
theorem depth_go (kk m : Nat) {s : St} {K : X → St → Prop} (ps : List Dat) (acc i kx nx z : Int) (dx : List Dat) (hs : s.norm ((envOf cfg kk 99 Go.Proofs.Try.f99).live (firstRegion (lp Go.Proofs.Try.f99 3))) = hd99 ps acc i) (h1 : decide (i < (ps.length : Int)) = true) (h2 : (0 ≤ i ∧ i < (ps.length : Int)) ∧ ps[i.toNat]? = some (T kx nx dx)) (h3 : den cfg kk 99 [D.dat (T kx nx dx)] [] [] = some ([D.dat (I z)], [], [])) (hn : ∀ s : St, s.norm ((envOf cfg kk 99 Go.Proofs.Try.f99).live (firstRegion (lp Go.Proofs.Try.f99 3))) = Nm [3, 7, 8, 9] [D.dat (I (if z > acc then z else acc)), D.dat (Dat.lst false ps), D.dat (I (ps.length : Int)), D.dat (I (w64 (i + 1)))] [none, none, none, none] [] [] → Rounds (envOf cfg kk 99 Go.Proofs.Try.f99) kk (lp Go.Proofs.Try.f99 3) m s K) : Rounds (envOf cfg kk 99 Go.Proofs.Try.f99) kk (lp Go.Proofs.Try.f99 3) (m + 1) s K :=
  rounds_go [(200010, .yes), (11, .at (T kx nx dx)), (15, .ret [.dat (I z)])] hs (by kernel_rfl) (ob h1 (ob h2 (ob h3 ob0))) (by kernel_rfl) hn
theorem depth_end (kk m : Nat) {s : St} {K : X → St → Prop} (ps : List Dat) (acc i : Int) (hs : s.norm ((envOf cfg kk 99 Go.Proofs.Try.f99).live (firstRegion (lp Go.Proofs.Try.f99 3))) = hd99 ps acc i) (h1 : decide (i < (ps.length : Int)) = false) (hK : K (X.exit 0) (Nm [3] [D.dat (I acc)] [none] [] [])) : Rounds (envOf cfg kk 99 Go.Proofs.Try.f99) kk (lp Go.Proofs.Try.f99 3) (m + 1) s K :=
  rounds_end [(200010, .no)] hs (by kernel_rfl) rfl (ob h1 ob0) (by kernel_rfl) hK
theorem depth (kk : Nat) (k n acc : Int) (ps : List Dat) (h2 : LoopAt cfg kk 99 Go.Proofs.Try.f99 3 (hd99 ps 0 0) (X.exit 0) (Nm [3] [D.dat (I acc)] [none] [] [])) : runFn cfg kk (den cfg kk) 99 Go.Proofs.Try.f99 [.dat (T k n ps)] [] [] = some ([D.dat (I (w64 (acc + 1)))], [], []) :=
  hrun_ok [(300003, .loop (hd99 ps 0 0) (.exit 0) (Nm [3] [.dat (I acc)] [none] [] []))] (ob (rfl : _ = hd99 ps 0 0) (ob h2 ob0)) (by kernel_rfl)
theorem areNumbers_neg (kk : Nat) (k n : Int) (ps : List Dat) (h1 : decide (n < 0) = true) : runFn cfg kk (den cfg kk) 100 Go.Proofs.Try.f100 [.dat (T k n ps)] [] [] = some ([D.dat (B false)], [], []) :=
  hrun_ok [(200006, .yes)] (ob h1 (ob (rfl : true = true) (ob (rfl : true = true) ob0))) (by kernel_rfl)
theorem areNumbers_big (kk : Nat) (k n : Int) (ps : List Dat) (h1 : decide (n < 0) = false) (h4 : decide (99 < n) = true) : runFn cfg kk (den cfg kk) 100 Go.Proofs.Try.f100 [.dat (T k n ps)] [] [] = some ([D.dat (B false)], [], []) :=
  hrun_ok [(200006, .no), (200011, .yes)] (ob h1 (ob (rfl : false = false) (ob (rfl : false = false) (ob h4 (ob (rfl : true = true) (ob (rfl : true = true) (ob (rfl : true = true) (ob (rfl : true = true) ob0)))))))) (by kernel_rfl)
theorem areNumbers_lam (kk : Nat) (k n : Int) (ps : List Dat) (h1 : decide (n < 0) = false) (h4 : decide (99 < n) = false) (h8 : (!decide (k = 1)) = true) (h12 : (!decide (n = 0)) = true) : runFn cfg kk (den cfg kk) 100 Go.Proofs.Try.f100 [.dat (T k n ps)] [] [] = some ([D.dat (B false)], [], []) :=
  hrun_ok [(200006, .no), (200011, .no), (200015, .yes), (200020, .yes)] (ob h1 (ob (rfl : false = false) (ob (rfl : false = false) (ob h4 (ob (rfl : false = false) (ob (rfl : false = false) (ob (rfl : false = false) (ob h8 (ob (rfl : true = true) (ob (rfl : true = true) (ob (rfl : false = false) (ob h12 ob0)))))))))))) (by kernel_rfl)
theorem areNumbers_ok0 (kk : Nat) (k n : Int) (ps : List Dat) (g : Bool) (h1 : decide (n < 0) = false) (h4 : decide (99 < n) = false) (h8 : (!decide (k = 1)) = true) (h12 : (!decide (n = 0)) = false) (h13 : den cfg kk 105 [D.dat (Dat.lst false ps), D.fn 106 []] [] [] = some ([D.dat (B g)], [], [])) : runFn cfg kk (den cfg kk) 100 Go.Proofs.Try.f100 [.dat (T k n ps)] [] [] = some ([D.dat (B !g)], [], []) :=
  hrun_ok [(200006, .no), (200011, .no), (200015, .yes), (200020, .no), (23, .back [.dat (B g)] [] [])] (ob h1 (ob (rfl : false = false) (ob (rfl : false = false) (ob h4 (ob (rfl : false = false) (ob (rfl : false = false) (ob (rfl : false = false) (ob h8 (ob (rfl : true = true) (ob (rfl : true = true) (ob (rfl : false = false) (ob h12 (ob h13 (ob (rfl : false = false) ob0)))))))))))))) (by kernel_rfl)
theorem areNumbers_ok1 (kk : Nat) (k n : Int) (ps : List Dat) (g : Bool) (h1 : decide (n < 0) = false) (h4 : decide (99 < n) = false) (h8 : (!decide (k = 1)) = false) (h12 : den cfg kk 105 [D.dat (Dat.lst false ps), D.fn 106 []] [] [] = some ([D.dat (B g)], [], [])) : runFn cfg kk (den cfg kk) 100 Go.Proofs.Try.f100 [.dat (T k n ps)] [] [] = some ([D.dat (B !g)], [], []) :=
  hrun_ok [(200006, .no), (200011, .no), (200015, .no), (23, .back [.dat (B g)] [] [])] (ob h1 (ob (rfl : false = false) (ob (rfl : false = false) (ob h4 (ob (rfl : false = false) (ob (rfl : false = false) (ob (rfl : false = false) (ob h8 (ob (rfl : false = false) (ob (rfl : false = false) (ob (rfl : false = false) (ob h12 (ob (rfl : false = false) ob0))))))))))))) (by kernel_rfl)
theorem areNumbers1 (kk : Nat) (k n : Int) (ps : List Dat) (g : Bool) (h1 : den cfg kk 100 [D.dat (T k n ps)] [] [] = some ([D.dat (B g)], [], [])) : runFn cfg kk (den cfg kk) 106 Go.Proofs.Try.f106 [.dat (T k n ps)] [] [] = some ([D.dat (B !g)], [], []) :=
  hrun_ok [(4, .ret [.dat (B g)])] (ob h1 ob0) (by kernel_rfl)
theorem contains (kk : Nat) (es : List Dat) (i : Int) (h1 : den cfg kk 118 [D.dat (Dat.lst false es), D.fn 106 []] [] [] = some ([D.dat (I i)], [], [])) : runFn cfg kk (den cfg kk) 105 Go.Proofs.Try.f105 [.dat (Dat.lst false es), .fn 106 []] [] [] = some ([D.dat (B (decide (0 ≤ i)))], [], []) :=
  hrun_ok [(7, .back [.dat (I i)] [] [])] (ob h1 (ob (rfl : false = false) ob0)) (by kernel_rfl)
def hd132 (es : List Dat) (i : Int) : St := Nm [0, 1, 7, 8] [.dat (.lst false es), .fn 106 [], .dat (I es.length), .dat (I i)] [none, none, none, none] [] []
theorem index_go (kk m : Nat) {s : St} {K : X → St → Prop} (es : List Dat) (i k n : Int) (ps : List Dat) (hs : s.norm ((envOf cfg kk 118 Go.Proofs.Try.f118).live (firstRegion (lp Go.Proofs.Try.f118 2))) = hd132 es i) (h1 : decide (i < (es.length : Int)) = true) (h2 : (0 ≤ i ∧ i < (es.length : Int)) ∧ es[i.toNat]? = some (T k n ps)) (h3 : den cfg kk 106 [D.dat (T k n ps)] [] [] = some ([D.dat (B false)], [], [])) (hn : ∀ s : St, s.norm ((envOf cfg kk 118 Go.Proofs.Try.f118).live (firstRegion (lp Go.Proofs.Try.f118 2))) = Nm [0, 1, 7, 8] [D.dat (Dat.lst false es), D.fn 106 [], D.dat (I (es.length : Int)), D.dat (I (w64 (i + 1)))] [none, none, none, none] [] [] → Rounds (envOf cfg kk 118 Go.Proofs.Try.f118) kk (lp Go.Proofs.Try.f118 2) m s K) : Rounds (envOf cfg kk 118 Go.Proofs.Try.f118) kk (lp Go.Proofs.Try.f118 2) (m + 1) s K :=
  rounds_go [(200009, .yes), (14, .at (T k n ps)), (16, .ret [.dat (B false)])] hs (by kernel_rfl) (ob h1 (ob h2 (ob h3 ob0))) (by kernel_rfl) hn
theorem index_hit (kk m : Nat) {s : St} {K : X → St → Prop} (es : List Dat) (i k n : Int) (ps : List Dat) (hs : s.norm ((envOf cfg kk 118 Go.Proofs.Try.f118).live (firstRegion (lp Go.Proofs.Try.f118 2))) = hd132 es i) (h1 : decide (i < (es.length : Int)) = true) (h2 : (0 ≤ i ∧ i < (es.length : Int)) ∧ es[i.toNat]? = some (T k n ps)) (h3 : den cfg kk 106 [D.dat (T k n ps)] [] [] = some ([D.dat (B true)], [], [])) (hK : K (X.ret) (Nm [4] [D.dat (I i)] [none] [] [])) : Rounds (envOf cfg kk 118 Go.Proofs.Try.f118) kk (lp Go.Proofs.Try.f118 2) (m + 1) s K :=
  rounds_end [(200009, .yes), (14, .at (T k n ps)), (16, .ret [.dat (B true)])] hs (by kernel_rfl) rfl (ob h1 (ob h2 (ob h3 ob0))) (by kernel_rfl) hK
theorem index_end (kk m : Nat) {s : St} {K : X → St → Prop} (es : List Dat) (i : Int) (hs : s.norm ((envOf cfg kk 118 Go.Proofs.Try.f118).live (firstRegion (lp Go.Proofs.Try.f118 2))) = hd132 es i) (h1 : decide (i < (es.length : Int)) = false) (hK : K (X.exit 0) (Nm [4] [D.junk] [none] [] [])) : Rounds (envOf cfg kk 118 Go.Proofs.Try.f118) kk (lp Go.Proofs.Try.f118 2) (m + 1) s K :=
  rounds_end [(200009, .no)] hs (by kernel_rfl) rfl (ob h1 ob0) (by kernel_rfl) hK
theorem index_n (kk : Nat) (es : List Dat) (h2 : LoopAt cfg kk 118 Go.Proofs.Try.f118 2 (hd132 es 0) (X.exit 0) (Nm [4] [D.junk] [none] [] [])) : runFn cfg kk (den cfg kk) 118 Go.Proofs.Try.f118 [.dat (Dat.lst false es), .fn 106 []] [] [] = some ([D.dat (I (-1))], [], []) :=
  hrun_ok [(300002, .loop (hd132 es 0) (.exit 0) (Nm [4] [.junk] [none] [] []))] (ob (rfl : _ = hd132 es 0) (ob h2 ob0)) (by kernel_rfl)
theorem index_y (kk : Nat) (es : List Dat) (j : Int) (h2 : LoopAt cfg kk 118 Go.Proofs.Try.f118 2 (hd132 es 0) X.ret (Nm [4] [D.dat (I j)] [none] [] [])) : runFn cfg kk (den cfg kk) 118 Go.Proofs.Try.f118 [.dat (Dat.lst false es), .fn 106 []] [] [] = some ([D.dat (I j)], [], []) :=
  hrun_ok [(300002, .loop (hd132 es 0) .ret (Nm [4] [.dat (I j)] [none] [] []))] (ob (rfl : _ = hd132 es 0) (ob h2 ob0)) (by kernel_rfl)
theorem put_var_s (kk : Nat) (n a kr nr : Int) (ps dr : List Dat) (kq ks ns : Int) (ds : List Dat) (h1 : decide (a ≤ n) = true) (h2 : den cfg kk 80 [D.dat (I (w64 (n - a))), D.dat (I a), D.ptr (Ref.up 1) 0, D.ptr (Ref.up 0) 0] [[D.dat (I ks), D.dat (I ns), D.dat (Dat.lst false ds)], [D.dat (I kq)]] [] = some ([D.dat (T kr nr dr)], [[D.dat (I ks), D.dat (I ns), D.dat (Dat.lst false ds)], [D.dat (I kq)]], [])) : runFn cfg kk (den cfg kk) 79 Go.Proofs.Try.f79 [.dat (T 1 n ps), .dat (I a), .fn 80 [.up 1, .up 0]] [[.dat (I ks), .dat (I ns), .dat (.lst false ds)], [.dat (I kq)]] [] = some ([D.dat (T kr nr dr)], [[D.dat (I ks), D.dat (I ns), D.dat (Dat.lst false ds)], [D.dat (I kq)]], []) :=
  hrun_ok [(200007, .yes), (23, .back [.dat (T kr nr dr)] [[.dat (I ks), .dat (I ns), .dat (.lst false ds)], [.dat (I kq)]] [])] (ob h1 (ob h2 (ob (rfl : false = false) ob0))) (by kernel_rfl)
theorem put_low_s (kk : Nat) (n a : Int) (ps : List Dat) (kq ks ns : Int) (ds : List Dat) (h1 : decide (a ≤ n) = false) : runFn cfg kk (den cfg kk) 79 Go.Proofs.Try.f79 [.dat (T 1 n ps), .dat (I a), .fn 80 [.up 1, .up 0]] [[.dat (I ks), .dat (I ns), .dat (.lst false ds)], [.dat (I kq)]] [] = some ([D.dat (T 1 n ps)], [[D.dat (I ks), D.dat (I ns), D.dat (Dat.lst false ds)], [D.dat (I kq)]], []) :=
  hrun_ok [(200007, .no)] (ob h1 ob0) (by kernel_rfl)
theorem put_lam_s (kk : Nat) (n a ka na kb nb : Int) (ps da db : List Dat) (kq ks ns : Int) (ds : List Dat) (h1 : ((0 : Int) ≤ 0 ∧ 0 < ((T ka na da :: ps).length : Int)) ∧ some (T ka na da) = some (T ka na da)) (h2 : den cfg kk 79 [D.dat (T ka na da), D.dat (I (w64 (a + 1))), D.fn 80 [Ref.up 1, Ref.up 0]] [[D.dat (I ks), D.dat (I ns), D.dat (Dat.lst false ds)], [D.dat (I kq)]] [] = some ([D.dat (T kb nb db)], [[D.dat (I ks), D.dat (I ns), D.dat (Dat.lst false ds)], [D.dat (I kq)]], [])) (h4 : den cfg kk 74 [D.dat (T kb nb db)] [] [] = some ([D.dat (Dat.agg [I 2, I 0, Dat.lst false [T kb nb db]])], [], [])) : runFn cfg kk (den cfg kk) 79 Go.Proofs.Try.f79 [.dat (T 2 n (T ka na da :: ps)), .dat (I a), .fn 80 [.up 1, .up 0]] [[.dat (I ks), .dat (I ns), .dat (.lst false ds)], [.dat (I kq)]] [] = some ([D.dat (Dat.agg [I 2, I 0, Dat.lst false [T kb nb db]])], [[D.dat (I ks), D.dat (I ns), D.dat (Dat.lst false ds)], [D.dat (I kq)]], []) :=
  hrun_ok [(35, .at (T ka na da)), (40, .back [.dat (T kb nb db)] [[.dat (I ks), .dat (I ns), .dat (.lst false ds)], [.dat (I kq)]] []), (41, .ret [.dat (T 2 0 [T kb nb db])])] (ob h1 (ob h2 (ob (rfl : false = false) (ob h4 ob0)))) (by kernel_rfl)
theorem put_app_s (kk : Nat) (n a ka na kb nb kc nc kd nd : Int) (ps da db dc dd : List Dat) (kq ks ns : Int) (ds : List Dat) (h1 : ((0 : Int) ≤ 0 ∧ 0 < ((T ka na da :: T kb nb db :: ps).length : Int)) ∧ some (T ka na da) = some (T ka na da)) (h2 : ((0 : Int) ≤ 1 ∧ 1 < ((T ka na da :: T kb nb db :: ps).length : Int)) ∧ some (T kb nb db) = some (T kb nb db)) (h3 : den cfg kk 79 [D.dat (T ka na da), D.dat (I a), D.fn 80 [Ref.up 1, Ref.up 0]] [[D.dat (I ks), D.dat (I ns), D.dat (Dat.lst false ds)], [D.dat (I kq)]] [] = some ([D.dat (T kc nc dc)], [[D.dat (I ks), D.dat (I ns), D.dat (Dat.lst false ds)], [D.dat (I kq)]], [])) (h4 : den cfg kk 79 [D.dat (T kb nb db), D.dat (I a), D.fn 80 [Ref.up 1, Ref.up 0]] [[D.dat (I ks), D.dat (I ns), D.dat (Dat.lst false ds)], [D.dat (I kq)]] [] = some ([D.dat (T kd nd dd)], [[D.dat (I ks), D.dat (I ns), D.dat (Dat.lst false ds)], [D.dat (I kq)]], [])) (h6 : den cfg kk 57 [D.dat (T kc nc dc), D.dat (T kd nd dd)] [] [] = some ([D.dat (Dat.agg [I 3, I 0, Dat.lst false [T kc nc dc, T kd nd dd]])], [], [])) : runFn cfg kk (den cfg kk) 79 Go.Proofs.Try.f79 [.dat (T 3 n (T ka na da :: T kb nb db :: ps)), .dat (I a), .fn 80 [.up 1, .up 0]] [[.dat (I ks), .dat (I ns), .dat (.lst false ds)], [.dat (I kq)]] [] = some ([D.dat (Dat.agg [I 3, I 0, Dat.lst false [T kc nc dc, T kd nd dd]])], [[D.dat (I ks), D.dat (I ns), D.dat (Dat.lst false ds)], [D.dat (I kq)]], []) :=
  hrun_ok [(44, .at (T ka na da)), (51, .at (T kb nb db)), (48, .back [.dat (T kc nc dc)] [[.dat (I ks), .dat (I ns), .dat (.lst false ds)], [.dat (I kq)]] []), (55, .back [.dat (T kd nd dd)] [[.dat (I ks), .dat (I ns), .dat (.lst false ds)], [.dat (I kq)]] []), (56, .ret [.dat (T 3 0 [T kc nc dc, T kd nd dd])])] (ob h1 (ob h2 (ob h3 (ob h4 (ob (rfl : false = false) (ob h6 ob0)))))) (by kernel_rfl)
theorem put_var_h (kk : Nat) (n a kr nr : Int) (ps dr : List Dat) (b f : Int) (h1 : decide (a ≤ n) = true) (h2 : den cfg kk 88 [D.dat (I (w64 (n - a))), D.dat (I a), D.ptr (Ref.up 0) 0, D.ptr (Ref.up 1) 0] [[D.dat (I f)], [D.dat (I b)]] [] = some ([D.dat (T kr nr dr)], [[D.dat (I f)], [D.dat (I b)]], [])) : runFn cfg kk (den cfg kk) 79 Go.Proofs.Try.f79 [.dat (T 1 n ps), .dat (I a), .fn 88 [.up 0, .up 1]] [[.dat (I f)], [.dat (I b)]] [] = some ([D.dat (T kr nr dr)], [[D.dat (I f)], [D.dat (I b)]], []) :=
  hrun_ok [(200007, .yes), (23, .back [.dat (T kr nr dr)] [[.dat (I f)], [.dat (I b)]] [])] (ob h1 (ob h2 (ob (rfl : false = false) ob0))) (by kernel_rfl)
theorem put_low_h (kk : Nat) (n a : Int) (ps : List Dat) (b f : Int) (h1 : decide (a ≤ n) = false) : runFn cfg kk (den cfg kk) 79 Go.Proofs.Try.f79 [.dat (T 1 n ps), .dat (I a), .fn 88 [.up 0, .up 1]] [[.dat (I f)], [.dat (I b)]] [] = some ([D.dat (T 1 n ps)], [[D.dat (I f)], [D.dat (I b)]], []) :=
  hrun_ok [(200007, .no)] (ob h1 ob0) (by kernel_rfl)
theorem put_lam_h (kk : Nat) (n a ka na kb nb : Int) (ps da db : List Dat) (b f : Int) (h1 : ((0 : Int) ≤ 0 ∧ 0 < ((T ka na da :: ps).length : Int)) ∧ some (T ka na da) = some (T ka na da)) (h2 : den cfg kk 79 [D.dat (T ka na da), D.dat (I (w64 (a + 1))), D.fn 88 [Ref.up 0, Ref.up 1]] [[D.dat (I f)], [D.dat (I b)]] [] = some ([D.dat (T kb nb db)], [[D.dat (I f)], [D.dat (I b)]], [])) (h4 : den cfg kk 74 [D.dat (T kb nb db)] [] [] = some ([D.dat (Dat.agg [I 2, I 0, Dat.lst false [T kb nb db]])], [], [])) : runFn cfg kk (den cfg kk) 79 Go.Proofs.Try.f79 [.dat (T 2 n (T ka na da :: ps)), .dat (I a), .fn 88 [.up 0, .up 1]] [[.dat (I f)], [.dat (I b)]] [] = some ([D.dat (Dat.agg [I 2, I 0, Dat.lst false [T kb nb db]])], [[D.dat (I f)], [D.dat (I b)]], []) :=
  hrun_ok [(35, .at (T ka na da)), (40, .back [.dat (T kb nb db)] [[.dat (I f)], [.dat (I b)]] []), (41, .ret [.dat (T 2 0 [T kb nb db])])] (ob h1 (ob h2 (ob (rfl : false = false) (ob h4 ob0)))) (by kernel_rfl)
theorem put_app_h (kk : Nat) (n a ka na kb nb kc nc kd nd : Int) (ps da db dc dd : List Dat) (b f : Int) (h1 : ((0 : Int) ≤ 0 ∧ 0 < ((T ka na da :: T kb nb db :: ps).length : Int)) ∧ some (T ka na da) = some (T ka na da)) (h2 : ((0 : Int) ≤ 1 ∧ 1 < ((T ka na da :: T kb nb db :: ps).length : Int)) ∧ some (T kb nb db) = some (T kb nb db)) (h3 : den cfg kk 79 [D.dat (T ka na da), D.dat (I a), D.fn 88 [Ref.up 0, Ref.up 1]] [[D.dat (I f)], [D.dat (I b)]] [] = some ([D.dat (T kc nc dc)], [[D.dat (I f)], [D.dat (I b)]], [])) (h4 : den cfg kk 79 [D.dat (T kb nb db), D.dat (I a), D.fn 88 [Ref.up 0, Ref.up 1]] [[D.dat (I f)], [D.dat (I b)]] [] = some ([D.dat (T kd nd dd)], [[D.dat (I f)], [D.dat (I b)]], [])) (h6 : den cfg kk 57 [D.dat (T kc nc dc), D.dat (T kd nd dd)] [] [] = some ([D.dat (Dat.agg [I 3, I 0, Dat.lst false [T kc nc dc, T kd nd dd]])], [], [])) : runFn cfg kk (den cfg kk) 79 Go.Proofs.Try.f79 [.dat (T 3 n (T ka na da :: T kb nb db :: ps)), .dat (I a), .fn 88 [.up 0, .up 1]] [[.dat (I f)], [.dat (I b)]] [] = some ([D.dat (Dat.agg [I 3, I 0, Dat.lst false [T kc nc dc, T kd nd dd]])], [[D.dat (I f)], [D.dat (I b)]], []) :=
  hrun_ok [(44, .at (T ka na da)), (51, .at (T kb nb db)), (48, .back [.dat (T kc nc dc)] [[.dat (I f)], [.dat (I b)]] []), (55, .back [.dat (T kd nd dd)] [[.dat (I f)], [.dat (I b)]] []), (56, .ret [.dat (T 3 0 [T kc nc dc, T kd nd dd])])] (ob h1 (ob h2 (ob h3 (ob h4 (ob (rfl : false = false) (ob h6 ob0)))))) (by kernel_rfl)
theorem subst1_hit (kk : Nat) (i a kq ks ns : Int) (ds : List Dat) (kr nr : Int) (dr : List Dat) (h1 : decide (i = kq) = true) (h2 : den cfg kk 49 [D.dat (T ks ns ds), D.dat (I a), D.dat (I 0)] [] [] = some ([D.dat (T kr nr dr)], [], [])) : runFn cfg kk (den cfg kk) 80 Go.Proofs.Try.f80 [.dat (I i), .dat (I a), .ptr (.up 1) 0, .ptr (.up 0) 0] [[.dat (I ks), .dat (I ns), .dat (.lst false ds)], [.dat (I kq)]] [] = some ([D.dat (T kr nr dr)], [[D.dat (I ks), D.dat (I ns), D.dat (Dat.lst false ds)], [D.dat (I kq)]], []) :=
  hrun_ok [(200007, .yes), (13, .ret [.dat (T kr nr dr)])] (ob h1 (ob h2 ob0)) (by kernel_rfl)
theorem subst1_hi (kk : Nat) (i a kq ks ns : Int) (ds : List Dat) (h1 : decide (i = kq) = false) (h2 : decide (kq < i) = true) (h3 : den cfg kk 81 [D.dat (I (w64 (w64 (i - 1) + a)))] [] [] = some ([D.dat (T 1 (w64 (w64 (i - 1) + a)) [])], [], [])) : runFn cfg kk (den cfg kk) 80 Go.Proofs.Try.f80 [.dat (I i), .dat (I a), .ptr (.up 1) 0, .ptr (.up 0) 0] [[.dat (I ks), .dat (I ns), .dat (.lst false ds)], [.dat (I kq)]] [] = some ([D.dat (T 1 (w64 (w64 (i - 1) + a)) [])], [[D.dat (I ks), D.dat (I ns), D.dat (Dat.lst false ds)], [D.dat (I kq)]], []) :=
  hrun_ok [(200007, .no), (200014, .yes), (23, .ret [.dat (T 1 (w64 (w64 (i - 1) + a)) [])])] (ob h1 (ob h2 (ob h3 ob0))) (by kernel_rfl)
theorem subst1_lo (kk : Nat) (i a kq ks ns : Int) (ds : List Dat) (h1 : decide (i = kq) = false) (h2 : decide (kq < i) = false) (h3 : den cfg kk 81 [D.dat (I (w64 (i + a)))] [] [] = some ([D.dat (T 1 (w64 (i + a)) [])], [], [])) : runFn cfg kk (den cfg kk) 80 Go.Proofs.Try.f80 [.dat (I i), .dat (I a), .ptr (.up 1) 0, .ptr (.up 0) 0] [[.dat (I ks), .dat (I ns), .dat (.lst false ds)], [.dat (I kq)]] [] = some ([D.dat (T 1 (w64 (i + a)) [])], [[D.dat (I ks), D.dat (I ns), D.dat (Dat.lst false ds)], [D.dat (I kq)]], []) :=
  hrun_ok [(200007, .no), (200014, .no), (23, .ret [.dat (T 1 (w64 (i + a)) [])])] (ob h1 (ob h2 (ob h3 ob0))) (by kernel_rfl)
theorem shift1_hi (kk : Nat) (i a b f : Int) (h1 : decide (f ≤ i) = true) (h2 : den cfg kk 81 [D.dat (I (w64 (w64 (i + b) + a)))] [] [] = some ([D.dat (T 1 (w64 (w64 (i + b) + a)) [])], [], [])) : runFn cfg kk (den cfg kk) 88 Go.Proofs.Try.f88 [.dat (I i), .dat (I a), .ptr (.up 0) 0, .ptr (.up 1) 0] [[.dat (I f)], [.dat (I b)]] [] = some ([D.dat (T 1 (w64 (w64 (i + b) + a)) [])], [[D.dat (I f)], [D.dat (I b)]], []) :=
  hrun_ok [(200009, .yes), (16, .ret [.dat (T 1 (w64 (w64 (i + b) + a)) [])])] (ob h1 (ob h2 ob0)) (by kernel_rfl)
theorem shift1_lo (kk : Nat) (i a b f : Int) (h1 : decide (f ≤ i) = false) (h2 : den cfg kk 81 [D.dat (I (w64 (i + a)))] [] [] = some ([D.dat (T 1 (w64 (i + a)) [])], [], [])) : runFn cfg kk (den cfg kk) 88 Go.Proofs.Try.f88 [.dat (I i), .dat (I a), .ptr (.up 0) 0, .ptr (.up 1) 0] [[.dat (I f)], [.dat (I b)]] [] = some ([D.dat (T 1 (w64 (i + a)) [])], [[D.dat (I f)], [D.dat (I b)]], []) :=
  hrun_ok [(200009, .no), (16, .ret [.dat (T 1 (w64 (i + a)) [])])] (ob h1 (ob h2 ob0)) (by kernel_rfl)
theorem subst (kk : Nat) (k n kq ks ns kr nr : Int) (ps ds dr : List Dat) (h1 : den cfg kk 79 [D.dat (T k n ps), D.dat (I 0), D.fn 80 [Ref.up 1, Ref.up 0]] [[D.dat (I ks), D.dat (I ns), D.dat (Dat.lst false ds)], [D.dat (I kq)]] [] = some ([D.dat (T kr nr dr)], [[D.dat (I ks), D.dat (I ns), D.dat (Dat.lst false ds)], [D.dat (I kq)]], [])) : runFn cfg kk (den cfg kk) 42 Go.Proofs.Try.f42 [.dat (T k n ps), .dat (I kq), .dat (T ks ns ds)] [] [] = some ([D.dat (T kr nr dr)], [], []) :=
  hrun_ok [(9, .back [.dat (T kr nr dr)] [[.dat (I ks), .dat (I ns), .dat (.lst false ds)], [.dat (I kq)]] [])] (ob h1 (ob (rfl : false = false) ob0)) (by kernel_rfl)
theorem shift (kk : Nat) (k n b f kr nr : Int) (ps dr : List Dat) (h1 : den cfg kk 79 [D.dat (T k n ps), D.dat (I 0), D.fn 88 [Ref.up 0, Ref.up 1]] [[D.dat (I f)], [D.dat (I b)]] [] = some ([D.dat (T kr nr dr)], [[D.dat (I f)], [D.dat (I b)]], [])) : runFn cfg kk (den cfg kk) 49 Go.Proofs.Try.f49 [.dat (T k n ps), .dat (I b), .dat (I f)] [] [] = some ([D.dat (T kr nr dr)], [], []) :=
  hrun_ok [(9, .back [.dat (T kr nr dr)] [[.dat (I f)], [.dat (I b)]] [])] (ob h1 (ob (rfl : false = false) ob0)) (by kernel_rfl)
theorem nodes (kk : Nat) (k n : Int) (ps out : List Dat) (h1 : den cfg kk 75 [D.dat (T k n ps), D.dat (I (-1)), D.ptr (Ref.up 1) 0, D.ptr (Ref.up 0) 0] [[D.fn 75 [Ref.up 1, Ref.up 0]], [D.own 56 []]] [] = some ([], [[D.fn 75 [Ref.up 1, Ref.up 0]], [D.own 56 out]], [])) : runFn cfg kk (den cfg kk) 38 Go.Proofs.Try.f38 [.dat (T k n ps)] [] [] = some ([D.own 56 out], [], []) :=
  hrun_ok [(9, .back [] [[.fn 75 [.up 1, .up 0]], [.own 56 (out)]] [])] (ob h1 (ob (rfl : false = false) ob0)) (by kernel_rfl)
def hd97 (out ps : List Dat) (at_ i : Int) : St := Nm [3, 6, 21, 22, 23] [.ptr (.up 0) 0, .dat (I at_), .dat (.lst false ps), .dat (I ps.length), .dat (I i)] [none, none, none, none, none] [[.fn 75 [.up 1, .up 0]], [.own 56 (out)]] []
theorem nodes1_go (kk m : Nat) {s : St} {K : X → St → Prop} (out out' ps : List Dat) (at_ i kx nx : Int) (dx : List Dat) (hs : s.norm ((envOf cfg kk 75 Go.Proofs.Try.f75).live (firstRegion (lp Go.Proofs.Try.f75 4))) = hd97 out ps at_ i) (h1 : decide (i < (ps.length : Int)) = true) (h2 : (0 ≤ i ∧ i < (ps.length : Int)) ∧ ps[i.toNat]? = some (T kx nx dx)) (h3 : den cfg kk 75 [D.dat (T kx nx dx), D.dat (I at_), D.ptr (Ref.up 1) 0, D.ptr (Ref.up 0) 0] [[D.fn 75 [Ref.up 1, Ref.up 0]], [D.own 56 out]] [] = some ([], [[D.fn 75 [Ref.up 1, Ref.up 0]], [D.own 56 out']], [])) (hn : ∀ s : St, s.norm ((envOf cfg kk 75 Go.Proofs.Try.f75).live (firstRegion (lp Go.Proofs.Try.f75 4))) = Nm [3, 6, 21, 22, 23] [D.ptr (Ref.up 0) 0, D.dat (I at_), D.dat (Dat.lst false ps), D.dat (I (ps.length : Int)), D.dat (I (w64 (i + 1)))] [none, none, none, none, none] [[D.fn 75 [Ref.up 1, Ref.up 0]], [D.own 56 out']] [] → Rounds (envOf cfg kk 75 Go.Proofs.Try.f75) kk (lp Go.Proofs.Try.f75 4) m s K) : Rounds (envOf cfg kk 75 Go.Proofs.Try.f75) kk (lp Go.Proofs.Try.f75 4) (m + 1) s K :=
  rounds_go [(200024, .yes), (25, .at (T kx nx dx)), (30, .back [] [[.fn 75 [.up 1, .up 0]], [.own 56 (out')]] [])] hs (by kernel_rfl) (ob h1 (ob h2 (ob h3 (ob (rfl : false = false) ob0)))) (by kernel_rfl) hn
theorem nodes1_end (kk m : Nat) {s : St} {K : X → St → Prop} (out ps : List Dat) (at_ i : Int) (hs : s.norm ((envOf cfg kk 75 Go.Proofs.Try.f75).live (firstRegion (lp Go.Proofs.Try.f75 4))) = hd97 out ps at_ i) (h1 : decide (i < (ps.length : Int)) = false) (hK : K (X.exit 0) (Nm [] [] [] [[D.fn 75 [Ref.up 1, Ref.up 0]], [D.own 56 out]] [])) : Rounds (envOf cfg kk 75 Go.Proofs.Try.f75) kk (lp Go.Proofs.Try.f75 4) (m + 1) s K :=
  rounds_end [(200024, .no)] hs (by kernel_rfl) rfl (ob h1 ob0) (by kernel_rfl) hK
theorem nodes1 (kk : Nat) (k n up : Int) (ps out out' : List Dat) (h1 : out.length + 1 ≤ 2147483648) (h3 : LoopAt cfg kk 75 Go.Proofs.Try.f75 4 (hd97 (out ++ [N3 k n up]) ps ((out.length : Int)) 0) (X.exit 0) (Nm [] [] [] [[D.fn 75 [Ref.up 1, Ref.up 0]], [D.own 56 out']] [])) : runFn cfg kk (den cfg kk) 75 Go.Proofs.Try.f75 [.dat (T k n ps), .dat (I up), .ptr (.up 1) 0, .ptr (.up 0) 0] [[.fn 75 [.up 1, .up 0]], [.own 56 (out)]] [] = some ([], [[D.fn 75 [Ref.up 1, Ref.up 0]], [D.own 56 out']], []) :=
  hrun_ok [(19, .ok), (300004, .loop (hd97 (out ++ [N3 k n up]) ps out.length 0) (.exit 0) (Nm [] [] [] [[.fn 75 [.up 1, .up 0]], [.own 56 (out')]] []))] (ob (obT h1) (ob (rfl : _ = hd97 (out ++ [N3 k n up]) ps ((out.length : Int)) 0) (ob h3 ob0))) (by kernel_rfl)
theorem goodNodes_no (kk : Nat) (k n : Int) (ps : List Dat) (h1 : den cfg kk 69 [D.dat (T k n ps)] [] [] = some ([D.dat (B false)], [], [])) : runFn cfg kk (den cfg kk) 36 Go.Proofs.Try.f36 [.dat (T k n ps)] [] [] = some ([D.own 56 [], D.dat (B false)], [], []) :=
  hrun_ok [(5, .ret [.dat (B false)])] (ob h1 ob0) (by kernel_rfl)
theorem goodNodes_yes (kk : Nat) (k n : Int) (ps out : List Dat) (h1 : den cfg kk 69 [D.dat (T k n ps)] [] [] = some ([D.dat (B true)], [], [])) (h2 : den cfg kk 38 [D.dat (T k n ps)] [] [] = some ([D.own 56 out], [], [])) : runFn cfg kk (den cfg kk) 36 Go.Proofs.Try.f36 [.dat (T k n ps)] [] [] = some ([D.own 56 out, D.dat (B true)], [], []) :=
  hrun_ok [(5, .ret [.dat (B true)]), (8, .ret [.own 56 out])] (ob h1 (ob h2 ob0)) (by kernel_rfl)
theorem iSubst_no1 (kk : Nat) (b1 b2 r2 : Bool) (xs ys : List Dat) (k ka na kb nb : Int) (da db : List Dat) (h1 : den cfg kk 32 [D.dat (Dat.lst b1 xs)] [] [] = some ([D.dat (T ka na da), D.dat (B false)], [], [])) (h2 : den cfg kk 32 [D.dat (Dat.lst b2 ys)] [] [] = some ([D.dat (T kb nb db), D.dat (B r2)], [], [])) : runFn cfg kk (den cfg kk) 14 Go.Proofs.Try.f14 [.dat (Dat.lst b1 xs), .dat (I k), .dat (Dat.lst b2 ys)] [] [] = some ([D.own 56 [], D.dat (B false)], [], []) :=
  hrun_ok [(14, .ret [.dat (T ka na da), .dat (B false)]), (19, .ret [.dat (T kb nb db), .dat (B r2)])] (ob h1 (ob h2 ob0)) (by kernel_rfl)
theorem iSubst_no2 (kk : Nat) (b1 b2 : Bool) (xs ys : List Dat) (k ka na kb nb : Int) (da db : List Dat) (h1 : den cfg kk 32 [D.dat (Dat.lst b1 xs)] [] [] = some ([D.dat (T ka na da), D.dat (B true)], [], [])) (h2 : den cfg kk 32 [D.dat (Dat.lst b2 ys)] [] [] = some ([D.dat (T kb nb db), D.dat (B false)], [], [])) : runFn cfg kk (den cfg kk) 14 Go.Proofs.Try.f14 [.dat (Dat.lst b1 xs), .dat (I k), .dat (Dat.lst b2 ys)] [] [] = some ([D.own 56 [], D.dat (B false)], [], []) :=
  hrun_ok [(14, .ret [.dat (T ka na da), .dat (B true)]), (19, .ret [.dat (T kb nb db), .dat (B false)])] (ob h1 (ob h2 ob0)) (by kernel_rfl)
theorem iSubst_neg (kk : Nat) (b1 b2 : Bool) (xs ys : List Dat) (k ka na kb nb : Int) (da db : List Dat) (h1 : den cfg kk 32 [D.dat (Dat.lst b1 xs)] [] [] = some ([D.dat (T ka na da), D.dat (B true)], [], [])) (h2 : den cfg kk 32 [D.dat (Dat.lst b2 ys)] [] [] = some ([D.dat (T kb nb db), D.dat (B true)], [], [])) (h3 : decide (k < 0) = true) : runFn cfg kk (den cfg kk) 14 Go.Proofs.Try.f14 [.dat (Dat.lst b1 xs), .dat (I k), .dat (Dat.lst b2 ys)] [] [] = some ([D.own 56 [], D.dat (B false)], [], []) :=
  hrun_ok [(14, .ret [.dat (T ka na da), .dat (B true)]), (19, .ret [.dat (T kb nb db), .dat (B true)]), (200032, .yes)] (ob h1 (ob h2 (ob h3 (ob (rfl : true = true) ob0)))) (by kernel_rfl)
theorem iSubst_big (kk : Nat) (b1 b2 : Bool) (xs ys : List Dat) (k ka na kb nb : Int) (da db : List Dat) (h1 : den cfg kk 32 [D.dat (Dat.lst b1 xs)] [] [] = some ([D.dat (T ka na da), D.dat (B true)], [], [])) (h2 : den cfg kk 32 [D.dat (Dat.lst b2 ys)] [] [] = some ([D.dat (T kb nb db), D.dat (B true)], [], [])) (h3 : decide (k < 0) = false) (h5 : decide (99 < k) = true) : runFn cfg kk (den cfg kk) 14 Go.Proofs.Try.f14 [.dat (Dat.lst b1 xs), .dat (I k), .dat (Dat.lst b2 ys)] [] [] = some ([D.own 56 [], D.dat (B false)], [], []) :=
  hrun_ok [(14, .ret [.dat (T ka na da), .dat (B true)]), (19, .ret [.dat (T kb nb db), .dat (B true)]), (200032, .no), (200035, .yes)] (ob h1 (ob h2 (ob h3 (ob (rfl : false = false) (ob h5 ob0))))) (by kernel_rfl)
theorem iSubst_no (kk : Nat) (b1 b2 r : Bool) (xs ys : List Dat) (k ka na kb nb kc nc : Int) (da db dc : List Dat) (h1 : den cfg kk 32 [D.dat (Dat.lst b1 xs)] [] [] = some ([D.dat (T ka na da), D.dat (B true)], [], [])) (h2 : den cfg kk 32 [D.dat (Dat.lst b2 ys)] [] [] = some ([D.dat (T kb nb db), D.dat (B true)], [], [])) (h3 : decide (k < 0) = false) (h5 : decide (99 < k) = false) (h6 : den cfg kk 42 [D.dat (T ka na da), D.dat (I k), D.dat (T kb nb db)] [] [] = some ([D.dat (T kc nc dc)], [], [])) (h7 : den cfg kk 36 [D.dat (T kc nc dc)] [] [] = some ([D.own 56 [], D.dat (B false)], [], [])) : runFn cfg kk (den cfg kk) 14 Go.Proofs.Try.f14 [.dat (Dat.lst b1 xs), .dat (I k), .dat (Dat.lst b2 ys)] [] [] = some ([D.own 56 [], D.dat (B false)], [], []) :=
  hrun_ok [(14, .ret [.dat (T ka na da), .dat (B true)]), (19, .ret [.dat (T kb nb db), .dat (B true)]), (200032, .no), (200035, .no), (39, .ret [.dat (T kc nc dc)]), (40, .ret [.own 56 [], .dat (B false)])] (ob h1 (ob h2 (ob h3 (ob (rfl : false = false) (ob h5 (ob h6 (ob h7 ob0))))))) (by kernel_rfl)
theorem iSubst_yes (kk : Nat) (b1 b2 r : Bool) (xs ys out : List Dat) (k ka na kb nb kc nc : Int) (da db dc : List Dat) (h1 : den cfg kk 32 [D.dat (Dat.lst b1 xs)] [] [] = some ([D.dat (T ka na da), D.dat (B true)], [], [])) (h2 : den cfg kk 32 [D.dat (Dat.lst b2 ys)] [] [] = some ([D.dat (T kb nb db), D.dat (B true)], [], [])) (h3 : decide (k < 0) = false) (h5 : decide (99 < k) = false) (h6 : den cfg kk 42 [D.dat (T ka na da), D.dat (I k), D.dat (T kb nb db)] [] [] = some ([D.dat (T kc nc dc)], [], [])) (h7 : den cfg kk 36 [D.dat (T kc nc dc)] [] [] = some ([D.own 56 out, D.dat (B true)], [], [])) : runFn cfg kk (den cfg kk) 14 Go.Proofs.Try.f14 [.dat (Dat.lst b1 xs), .dat (I k), .dat (Dat.lst b2 ys)] [] [] = some ([D.own 56 out, D.dat (B true)], [], []) :=
  hrun_ok [(14, .ret [.dat (T ka na da), .dat (B true)]), (19, .ret [.dat (T kb nb db), .dat (B true)]), (200032, .no), (200035, .no), (39, .ret [.dat (T kc nc dc)]), (40, .ret [.own 56 out, .dat (B true)])] (ob h1 (ob h2 (ob h3 (ob (rfl : false = false) (ob h5 (ob h6 (ob h7 ob0))))))) (by kernel_rfl)
def hd44 (b : Bool) (es : List Dat) (i : Int) : St := Nm [0, 14, 15, 16] [.dat (.lst b es), .dat (.lst b es), .dat (I es.length), .dat (I i)] [none, none, none, none] [] []
def hd44a (b : Bool) (es : List Dat) (i k n u : Int) (ar : Bool) (at_ : Int) : St := Nm [0, 3, 4, 5, 6, 14, 15, 16] [.dat (.lst b es), .dat (I i), .ptr (.loc 4) 0, .dat (B ar), .dat (I at_), .dat (.lst b es), .dat (I es.length), .dat (I i)] [none, none, some [.dat (I k), .dat (I n), .dat (I u)], none, none, none, none, none] [] []
def out44a (b : Bool) (es : List Dat) (i k n u : Int) (ar : Bool) : St := Nm [0, 3, 4, 5, 14, 15, 16] [.dat (.lst b es), .dat (I i), .ptr (.loc 4) 0, .dat (B ar), .dat (.lst b es), .dat (I es.length), .dat (I i)] [none, none, some [.dat (I k), .dat (I n), .dat (I u)], none, none, none, none] [] []
def hd44b (b : Bool) (es : List Dat) (i k n u : Int) (ar : Bool) (deep at_ : Int) : St := Nm [0, 3, 4, 5, 7, 8, 14, 15, 16] [.dat (.lst b es), .dat (I i), .ptr (.loc 4) 0, .dat (B ar), .dat (I deep), .dat (I at_), .dat (.lst b es), .dat (I es.length), .dat (I i)] [none, none, some [.dat (I k), .dat (I n), .dat (I u)], none, none, none, none, none, none] [] []
def out44b (b : Bool) (es : List Dat) (i k n u : Int) (ar : Bool) (deep : Int) : St := Nm [0, 3, 4, 5, 7, 14, 15, 16] [.dat (.lst b es), .dat (I i), .ptr (.loc 4) 0, .dat (B ar), .dat (I deep), .dat (.lst b es), .dat (I es.length), .dat (I i)] [none, none, some [.dat (I k), .dat (I n), .dat (I u)], none, none, none, none, none] [] []
theorem around_go (kk m : Nat) {s : St} {K : X → St → Prop} (b : Bool) (es : List Dat) (i k n u at_ x y z : Int) (hs : s.norm ((envOf cfg kk 29 Go.Proofs.Try.f29).live (firstRegion (lp Go.Proofs.Try.f29 10))) = hd44a b es i k n u false at_) (h1 : decide (0 ≤ at_) = true) (h3 : (0 ≤ at_ ∧ at_ < (es.length : Int)) ∧ es[at_.toNat]? = some (N3 x y z)) (hn : ∀ s : St, s.norm ((envOf cfg kk 29 Go.Proofs.Try.f29).live (firstRegion (lp Go.Proofs.Try.f29 10))) = Nm [0, 3, 4, 5, 6, 14, 15, 16] [D.dat (Dat.lst b es), D.dat (I i), D.ptr (Ref.loc 4) 0, D.dat (B (decide (at_ = u))), D.dat (I z), D.dat (Dat.lst b es), D.dat (I (es.length : Int)), D.dat (I i)] [none, none, some [D.dat (I k), D.dat (I n), D.dat (I u)], none, none, none, none, none] [] [] → Rounds (envOf cfg kk 29 Go.Proofs.Try.f29) kk (lp Go.Proofs.Try.f29 10) m s K) : Rounds (envOf cfg kk 29 Go.Proofs.Try.f29) kk (lp Go.Proofs.Try.f29 10) (m + 1) s K :=
  rounds_go [(200041, .yes), (47, .at (N3 x y z))] hs (by kernel_rfl) (ob h1 (ob (rfl : true = true) (ob h3 ob0))) (by kernel_rfl) hn
theorem around_out (kk m : Nat) {s : St} {K : X → St → Prop} (b : Bool) (es : List Dat) (i k n u at_ : Int) (ar : Bool) (hs : s.norm ((envOf cfg kk 29 Go.Proofs.Try.f29).live (firstRegion (lp Go.Proofs.Try.f29 10))) = hd44a b es i k n u ar at_) (h1 : decide (0 ≤ at_) = false) (hK : K (X.exit 2) (Nm [0, 3, 4, 5, 14, 15, 16] [D.dat (Dat.lst b es), D.dat (I i), D.ptr (Ref.loc 4) 0, D.dat (B ar), D.dat (Dat.lst b es), D.dat (I (es.length : Int)), D.dat (I i)] [none, none, some [D.dat (I k), D.dat (I n), D.dat (I u)], none, none, none, none] [] [])) : Rounds (envOf cfg kk 29 Go.Proofs.Try.f29) kk (lp Go.Proofs.Try.f29 10) (m + 1) s K :=
  rounds_end [(200041, .no)] hs (by kernel_rfl) rfl (ob h1 (ob (rfl : false = false) ob0)) (by kernel_rfl) hK
theorem around_yes (kk m : Nat) {s : St} {K : X → St → Prop} (b : Bool) (es : List Dat) (i k n u at_ : Int) (hs : s.norm ((envOf cfg kk 29 Go.Proofs.Try.f29).live (firstRegion (lp Go.Proofs.Try.f29 10))) = hd44a b es i k n u true at_) (h1 : decide (0 ≤ at_) = true) (hK : K (X.exit 2) (Nm [0, 3, 4, 5, 14, 15, 16] [D.dat (Dat.lst b es), D.dat (I i), D.ptr (Ref.loc 4) 0, D.dat (B true), D.dat (Dat.lst b es), D.dat (I (es.length : Int)), D.dat (I i)] [none, none, some [D.dat (I k), D.dat (I n), D.dat (I u)], none, none, none, none] [] [])) : Rounds (envOf cfg kk 29 Go.Proofs.Try.f29) kk (lp Go.Proofs.Try.f29 10) (m + 1) s K :=
  rounds_end [(200041, .yes)] hs (by kernel_rfl) rfl (ob h1 (ob (rfl : true = true) ob0)) (by kernel_rfl) hK
theorem deep_go (kk m : Nat) {s : St} {K : X → St → Prop} (b : Bool) (es : List Dat) (i k n u : Int) (ar : Bool) (deep at_ : Int) (x y z : Int) (hs : s.norm ((envOf cfg kk 29 Go.Proofs.Try.f29).live (firstRegion (lp Go.Proofs.Try.f29 15))) = hd44b b es i k n u ar deep at_) (h1 : decide (0 ≤ at_) = true) (h2 : (0 ≤ at_ ∧ at_ < (es.length : Int)) ∧ es[at_.toNat]? = some (N3 x y z)) (hn : ∀ s : St, s.norm ((envOf cfg kk 29 Go.Proofs.Try.f29).live (firstRegion (lp Go.Proofs.Try.f29 15))) = Nm [0, 3, 4, 5, 7, 8, 14, 15, 16] [D.dat (Dat.lst b es), D.dat (I i), D.ptr (Ref.loc 4) 0, D.dat (B ar), D.dat (I (w64 (deep + 1))), D.dat (I z), D.dat (Dat.lst b es), D.dat (I (es.length : Int)), D.dat (I i)] [none, none, some [D.dat (I k), D.dat (I n), D.dat (I u)], none, none, none, none, none, none] [] [] → Rounds (envOf cfg kk 29 Go.Proofs.Try.f29) kk (lp Go.Proofs.Try.f29 15) m s K) : Rounds (envOf cfg kk 29 Go.Proofs.Try.f29) kk (lp Go.Proofs.Try.f29 15) (m + 1) s K :=
  rounds_go [(200056, .yes), (59, .at (N3 x y z))] hs (by kernel_rfl) (ob h1 (ob h2 ob0)) (by kernel_rfl) hn
theorem deep_out (kk m : Nat) {s : St} {K : X → St → Prop} (b : Bool) (es : List Dat) (i k n u : Int) (ar : Bool) (deep at_ : Int) (hs : s.norm ((envOf cfg kk 29 Go.Proofs.Try.f29).live (firstRegion (lp Go.Proofs.Try.f29 15))) = hd44b b es i k n u ar deep at_) (h1 : decide (0 ≤ at_) = false) (hK : K (X.exit 4) (Nm [0, 3, 4, 5, 7, 14, 15, 16] [D.dat (Dat.lst b es), D.dat (I i), D.ptr (Ref.loc 4) 0, D.dat (B ar), D.dat (I deep), D.dat (Dat.lst b es), D.dat (I (es.length : Int)), D.dat (I i)] [none, none, some [D.dat (I k), D.dat (I n), D.dat (I u)], none, none, none, none, none] [] [])) : Rounds (envOf cfg kk 29 Go.Proofs.Try.f29) kk (lp Go.Proofs.Try.f29 15) (m + 1) s K :=
  rounds_end [(200056, .no)] hs (by kernel_rfl) rfl (ob h1 ob0) (by kernel_rfl) hK
theorem good_end (kk m : Nat) {s : St} {K : X → St → Prop} (b : Bool) (es : List Dat) (i : Int) (hs : s.norm ((envOf cfg kk 29 Go.Proofs.Try.f29).live (firstRegion (lp Go.Proofs.Try.f29 4))) = hd44 b es i) (h1 : decide (i < (es.length : Int)) = false) (hK : K (X.exit 0) (Nm [2] [D.junk] [none] [] [])) : Rounds (envOf cfg kk 29 Go.Proofs.Try.f29) kk (lp Go.Proofs.Try.f29 4) (m + 1) s K :=
  rounds_end [(200017, .no)] hs (by kernel_rfl) rfl (ob h1 ob0) (by kernel_rfl) hK
theorem good_up (kk m : Nat) {s : St} {K : X → St → Prop} (b : Bool) (es : List Dat) (i : Int) (n u : Int) (k : Int) (hs : s.norm ((envOf cfg kk 29 Go.Proofs.Try.f29).live (firstRegion (lp Go.Proofs.Try.f29 4))) = hd44 b es i) (h1 : decide (i < (es.length : Int)) = true) (h2 : (0 ≤ i ∧ i < (es.length : Int)) ∧ es[i.toNat]? = some (N3 k n u)) (h3 : (!decide (i = 0) == decide (u = -1)) = true) (hK : K (X.ret) (Nm [2] [D.dat (B false)] [none] [] [])) : Rounds (envOf cfg kk 29 Go.Proofs.Try.f29) kk (lp Go.Proofs.Try.f29 4) (m + 1) s K :=
  rounds_end [(200017, .yes), (19, .at (N3 k n u)), (200027, .yes)] hs (by kernel_rfl) rfl (ob h1 (ob h2 (ob h3 (ob (rfl : true = true) (ob (rfl : true = true) (ob (rfl : true = true) (ob (rfl : true = true) (ob (rfl : true = true) ob0)))))))) (by kernel_rfl) hK
theorem good_in (kk m : Nat) {s : St} {K : X → St → Prop} (b : Bool) (es : List Dat) (i : Int) (n u : Int) (k : Int) (hs : s.norm ((envOf cfg kk 29 Go.Proofs.Try.f29).live (firstRegion (lp Go.Proofs.Try.f29 4))) = hd44 b es i) (h1 : decide (i < (es.length : Int)) = true) (h2 : (0 ≤ i ∧ i < (es.length : Int)) ∧ es[i.toNat]? = some (N3 k n u)) (h3 : (!decide (i = 0) == decide (u = -1)) = false) (h8 : den cfg kk 30 [D.dat (I u), D.dat (I (-1)), D.dat (I (w64 (i - 1)))] [] [] = some ([D.dat (B false)], [], [])) (hK : K (X.ret) (Nm [2] [D.dat (B false)] [none] [] [])) : Rounds (envOf cfg kk 29 Go.Proofs.Try.f29) kk (lp Go.Proofs.Try.f29 4) (m + 1) s K :=
  rounds_end [(200017, .yes), (19, .at (N3 k n u)), (200027, .no), (32, .ret [.dat (B false)])] hs (by kernel_rfl) rfl (ob h1 (ob h2 (ob h3 (ob (rfl : false = false) (ob (rfl : false = false) (ob (rfl : false = false) (ob (rfl : false = false) (ob h8 (ob (rfl : false = false) ob0))))))))) (by kernel_rfl) hK
theorem good_kind (kk m : Nat) {s : St} {K : X → St → Prop} (b : Bool) (es : List Dat) (i : Int) (n u : Int) (k deep : Int) (ar : Bool) (hs : s.norm ((envOf cfg kk 29 Go.Proofs.Try.f29).live (firstRegion (lp Go.Proofs.Try.f29 4))) = hd44 b es i) (h1 : decide (i < (es.length : Int)) = true) (h2 : (0 ≤ i ∧ i < (es.length : Int)) ∧ es[i.toNat]? = some (N3 k n u)) (h3 : (!decide (i = 0) == decide (u = -1)) = false) (h8 : den cfg kk 30 [D.dat (I u), D.dat (I (-1)), D.dat (I (w64 (i - 1)))] [] [] = some ([D.dat (B true)], [], [])) (h11 : LoopAt cfg kk 29 Go.Proofs.Try.f29 10 (hd44a b es i k n u (decide (i = 0)) (w64 (i - 1))) (X.exit 2) (out44a b es i k n u ar)) (h13 : LoopAt cfg kk 29 Go.Proofs.Try.f29 15 (hd44b b es i k n u ar 0 i) (X.exit 4) (out44b b es i k n u ar deep)) (h14 : decide (k = 1) = false) (h15 : decide (k = 2) = false) (h16 : decide (k = 3) = false) (hK : K (X.ret) (Nm [2] [D.dat (B false)] [none] [] [])) : Rounds (envOf cfg kk 29 Go.Proofs.Try.f29) kk (lp Go.Proofs.Try.f29 4) (m + 1) s K :=
  rounds_end [(200017, .yes), (19, .at (N3 k n u)), (200027, .no), (32, .ret [.dat (B true)]), (300010, .loop (hd44a b es i k n u (decide (i = 0)) (w64 (i - 1))) (.exit 2) (out44a b es i k n u ar)), (300015, .loop (hd44b b es i k n u ar 0 i) (.exit 4) (out44b b es i k n u ar deep)), (200066, .no), (200068, .no), (200070, .no)] hs (by kernel_rfl) rfl (ob h1 (ob h2 (ob h3 (ob (rfl : false = false) (ob (rfl : false = false) (ob (rfl : false = false) (ob (rfl : false = false) (ob h8 (ob (rfl : false = false) (ob (rfl : _ = hd44a b es i k n u (decide (i = 0)) (w64 (i - 1))) (ob h11 (ob (rfl : _ = hd44b b es i k n u ar 0 i) (ob h13 (ob h14 (ob h15 (ob h16 ob0)))))))))))))))) (by kernel_rfl) hK
theorem good_ar_1 (kk m : Nat) {s : St} {K : X → St → Prop} (b : Bool) (es : List Dat) (i : Int) (n u : Int) (deep : Int) (hs : s.norm ((envOf cfg kk 29 Go.Proofs.Try.f29).live (firstRegion (lp Go.Proofs.Try.f29 4))) = hd44 b es i) (h1 : decide (i < (es.length : Int)) = true) (h2 : (0 ≤ i ∧ i < (es.length : Int)) ∧ es[i.toNat]? = some (N3 1 n u)) (h3 : (!decide (i = 0) == decide (u = -1)) = false) (h8 : den cfg kk 30 [D.dat (I u), D.dat (I (-1)), D.dat (I (w64 (i - 1)))] [] [] = some ([D.dat (B true)], [], [])) (h11 : LoopAt cfg kk 29 Go.Proofs.Try.f29 10 (hd44a b es i 1 n u (decide (i = 0)) (w64 (i - 1))) (X.exit 2) (out44a b es i 1 n u false)) (h13 : LoopAt cfg kk 29 Go.Proofs.Try.f29 15 (hd44b b es i 1 n u false 0 i) (X.exit 4) (out44b b es i 1 n u false deep)) (hK : K (X.ret) (Nm [2] [D.dat (B false)] [none] [] [])) : Rounds (envOf cfg kk 29 Go.Proofs.Try.f29) kk (lp Go.Proofs.Try.f29 4) (m + 1) s K :=
  rounds_end [(200017, .yes), (19, .at (N3 1 n u)), (200027, .no), (32, .ret [.dat (B true)]), (300010, .loop (hd44a b es i 1 n u (decide (i = 0)) (w64 (i - 1))) (.exit 2) (out44a b es i 1 n u false)), (300015, .loop (hd44b b es i 1 n u false 0 i) (.exit 4) (out44b b es i 1 n u false deep))] hs (by kernel_rfl) rfl (ob h1 (ob h2 (ob h3 (ob (rfl : false = false) (ob (rfl : false = false) (ob (rfl : false = false) (ob (rfl : false = false) (ob h8 (ob (rfl : false = false) (ob (rfl : _ = hd44a b es i 1 n u (decide (i = 0)) (w64 (i - 1))) (ob h11 (ob (rfl : _ = hd44b b es i 1 n u false 0 i) (ob h13 ob0))))))))))))) (by kernel_rfl) hK
theorem good_deep_1 (kk m : Nat) {s : St} {K : X → St → Prop} (b : Bool) (es : List Dat) (i : Int) (n u : Int) (deep : Int) (hs : s.norm ((envOf cfg kk 29 Go.Proofs.Try.f29).live (firstRegion (lp Go.Proofs.Try.f29 4))) = hd44 b es i) (h1 : decide (i < (es.length : Int)) = true) (h2 : (0 ≤ i ∧ i < (es.length : Int)) ∧ es[i.toNat]? = some (N3 1 n u)) (h3 : (!decide (i = 0) == decide (u = -1)) = false) (h8 : den cfg kk 30 [D.dat (I u), D.dat (I (-1)), D.dat (I (w64 (i - 1)))] [] [] = some ([D.dat (B true)], [], [])) (h11 : LoopAt cfg kk 29 Go.Proofs.Try.f29 10 (hd44a b es i 1 n u (decide (i = 0)) (w64 (i - 1))) (X.exit 2) (out44a b es i 1 n u true)) (h13 : LoopAt cfg kk 29 Go.Proofs.Try.f29 15 (hd44b b es i 1 n u true 0 i) (X.exit 4) (out44b b es i 1 n u true deep)) (h14 : decide (40 < deep) = true) (hK : K (X.ret) (Nm [2] [D.dat (B false)] [none] [] [])) : Rounds (envOf cfg kk 29 Go.Proofs.Try.f29) kk (lp Go.Proofs.Try.f29 4) (m + 1) s K :=
  rounds_end [(200017, .yes), (19, .at (N3 1 n u)), (200027, .no), (32, .ret [.dat (B true)]), (300010, .loop (hd44a b es i 1 n u (decide (i = 0)) (w64 (i - 1))) (.exit 2) (out44a b es i 1 n u true)), (300015, .loop (hd44b b es i 1 n u true 0 i) (.exit 4) (out44b b es i 1 n u true deep)), (200078, .yes)] hs (by kernel_rfl) rfl (ob h1 (ob h2 (ob h3 (ob (rfl : false = false) (ob (rfl : false = false) (ob (rfl : false = false) (ob (rfl : false = false) (ob h8 (ob (rfl : false = false) (ob (rfl : _ = hd44a b es i 1 n u (decide (i = 0)) (w64 (i - 1))) (ob h11 (ob (rfl : _ = hd44b b es i 1 n u true 0 i) (ob h13 (ob h14 (ob (rfl : true = true) (ob (rfl : true = true) (ob (rfl : true = true) (ob (rfl : true = true) (ob (rfl : true = true) ob0))))))))))))))))))) (by kernel_rfl) hK
theorem good_parts_1 (kk m : Nat) {s : St} {K : X → St → Prop} (b : Bool) (es : List Dat) (i : Int) (n u : Int) (deep : Int) (ps : List Dat) (hs : s.norm ((envOf cfg kk 29 Go.Proofs.Try.f29).live (firstRegion (lp Go.Proofs.Try.f29 4))) = hd44 b es i) (h1 : decide (i < (es.length : Int)) = true) (h2 : (0 ≤ i ∧ i < (es.length : Int)) ∧ es[i.toNat]? = some (N3 1 n u)) (h3 : (!decide (i = 0) == decide (u = -1)) = false) (h8 : den cfg kk 30 [D.dat (I u), D.dat (I (-1)), D.dat (I (w64 (i - 1)))] [] [] = some ([D.dat (B true)], [], [])) (h11 : LoopAt cfg kk 29 Go.Proofs.Try.f29 10 (hd44a b es i 1 n u (decide (i = 0)) (w64 (i - 1))) (X.exit 2) (out44a b es i 1 n u true)) (h13 : LoopAt cfg kk 29 Go.Proofs.Try.f29 15 (hd44b b es i 1 n u true 0 i) (X.exit 4) (out44b b es i 1 n u true deep)) (h14 : decide (40 < deep) = false) (h17 : den cfg kk 65 [D.dat (Dat.lst b es), D.dat (I i)] [] [] = some ([D.own 3 ps], [], [])) (h21 : (!decide ((ps.length : Int) = 0)) = true) (hK : K (X.ret) (Nm [2] [D.dat (B false)] [none] [] [])) : Rounds (envOf cfg kk 29 Go.Proofs.Try.f29) kk (lp Go.Proofs.Try.f29 4) (m + 1) s K :=
  rounds_end [(200017, .yes), (19, .at (N3 1 n u)), (200027, .no), (32, .ret [.dat (B true)]), (300010, .loop (hd44a b es i 1 n u (decide (i = 0)) (w64 (i - 1))) (.exit 2) (out44a b es i 1 n u true)), (300015, .loop (hd44b b es i 1 n u true 0 i) (.exit 4) (out44b b es i 1 n u true deep)), (200078, .no), (81, .ret [.own 3 ps]), (200086, .yes)] hs (by kernel_rfl) rfl (ob h1 (ob h2 (ob h3 (ob (rfl : false = false) (ob (rfl : false = false) (ob (rfl : false = false) (ob (rfl : false = false) (ob h8 (ob (rfl : false = false) (ob (rfl : _ = hd44a b es i 1 n u (decide (i = 0)) (w64 (i - 1))) (ob h11 (ob (rfl : _ = hd44b b es i 1 n u true 0 i) (ob h13 (ob h14 (ob (rfl : false = false) (ob (rfl : false = false) (ob h17 (ob (rfl : false = false) (ob (rfl : false = false) (ob (rfl : false = false) (ob h21 (ob (rfl : true = true) (ob (rfl : true = true) (ob (rfl : true = true) ob0)))))))))))))))))))))))) (by kernel_rfl) hK
theorem good_n_1 (kk m : Nat) {s : St} {K : X → St → Prop} (b : Bool) (es : List Dat) (i : Int) (n u : Int) (deep : Int) (ps : List Dat) (hs : s.norm ((envOf cfg kk 29 Go.Proofs.Try.f29).live (firstRegion (lp Go.Proofs.Try.f29 4))) = hd44 b es i) (h1 : decide (i < (es.length : Int)) = true) (h2 : (0 ≤ i ∧ i < (es.length : Int)) ∧ es[i.toNat]? = some (N3 1 n u)) (h3 : (!decide (i = 0) == decide (u = -1)) = false) (h8 : den cfg kk 30 [D.dat (I u), D.dat (I (-1)), D.dat (I (w64 (i - 1)))] [] [] = some ([D.dat (B true)], [], [])) (h11 : LoopAt cfg kk 29 Go.Proofs.Try.f29 10 (hd44a b es i 1 n u (decide (i = 0)) (w64 (i - 1))) (X.exit 2) (out44a b es i 1 n u true)) (h13 : LoopAt cfg kk 29 Go.Proofs.Try.f29 15 (hd44b b es i 1 n u true 0 i) (X.exit 4) (out44b b es i 1 n u true deep)) (h14 : decide (40 < deep) = false) (h17 : den cfg kk 65 [D.dat (Dat.lst b es), D.dat (I i)] [] [] = some ([D.own 3 ps], [], [])) (h21 : (!decide ((ps.length : Int) = 0)) = false) (h24 : den cfg kk 30 [D.dat (I n), D.dat (I 0), D.dat (I 99)] [] [] = some ([D.dat (B false)], [], [])) (hK : K (X.ret) (Nm [2] [D.dat (B false)] [none] [] [])) : Rounds (envOf cfg kk 29 Go.Proofs.Try.f29) kk (lp Go.Proofs.Try.f29 4) (m + 1) s K :=
  rounds_end [(200017, .yes), (19, .at (N3 1 n u)), (200027, .no), (32, .ret [.dat (B true)]), (300010, .loop (hd44a b es i 1 n u (decide (i = 0)) (w64 (i - 1))) (.exit 2) (out44a b es i 1 n u true)), (300015, .loop (hd44b b es i 1 n u true 0 i) (.exit 4) (out44b b es i 1 n u true deep)), (200078, .no), (81, .ret [.own 3 ps]), (200086, .no), (89, .ret [.dat (B false)])] hs (by kernel_rfl) rfl (ob h1 (ob h2 (ob h3 (ob (rfl : false = false) (ob (rfl : false = false) (ob (rfl : false = false) (ob (rfl : false = false) (ob h8 (ob (rfl : false = false) (ob (rfl : _ = hd44a b es i 1 n u (decide (i = 0)) (w64 (i - 1))) (ob h11 (ob (rfl : _ = hd44b b es i 1 n u true 0 i) (ob h13 (ob h14 (ob (rfl : false = false) (ob (rfl : false = false) (ob h17 (ob (rfl : false = false) (ob (rfl : false = false) (ob (rfl : false = false) (ob h21 (ob (rfl : false = false) (ob (rfl : false = false) (ob h24 (ob (rfl : false = false) ob0))))))))))))))))))))))))) (by kernel_rfl) hK
theorem good_go_1 (kk m : Nat) {s : St} {K : X → St → Prop} (b : Bool) (es : List Dat) (i : Int) (n u : Int) (deep : Int) (ps : List Dat) (hs : s.norm ((envOf cfg kk 29 Go.Proofs.Try.f29).live (firstRegion (lp Go.Proofs.Try.f29 4))) = hd44 b es i) (h1 : decide (i < (es.length : Int)) = true) (h2 : (0 ≤ i ∧ i < (es.length : Int)) ∧ es[i.toNat]? = some (N3 1 n u)) (h3 : (!decide (i = 0) == decide (u = -1)) = false) (h8 : den cfg kk 30 [D.dat (I u), D.dat (I (-1)), D.dat (I (w64 (i - 1)))] [] [] = some ([D.dat (B true)], [], [])) (h11 : LoopAt cfg kk 29 Go.Proofs.Try.f29 10 (hd44a b es i 1 n u (decide (i = 0)) (w64 (i - 1))) (X.exit 2) (out44a b es i 1 n u true)) (h13 : LoopAt cfg kk 29 Go.Proofs.Try.f29 15 (hd44b b es i 1 n u true 0 i) (X.exit 4) (out44b b es i 1 n u true deep)) (h14 : decide (40 < deep) = false) (h17 : den cfg kk 65 [D.dat (Dat.lst b es), D.dat (I i)] [] [] = some ([D.own 3 ps], [], [])) (h21 : (!decide ((ps.length : Int) = 0)) = false) (h24 : den cfg kk 30 [D.dat (I n), D.dat (I 0), D.dat (I 99)] [] [] = some ([D.dat (B true)], [], [])) (hn : ∀ s : St, s.norm ((envOf cfg kk 29 Go.Proofs.Try.f29).live (firstRegion (lp Go.Proofs.Try.f29 4))) = Nm [0, 14, 15, 16] [D.dat (Dat.lst b es), D.dat (Dat.lst b es), D.dat (I (es.length : Int)), D.dat (I (w64 (i + 1)))] [none, none, none, none] [] [] → Rounds (envOf cfg kk 29 Go.Proofs.Try.f29) kk (lp Go.Proofs.Try.f29 4) m s K) : Rounds (envOf cfg kk 29 Go.Proofs.Try.f29) kk (lp Go.Proofs.Try.f29 4) (m + 1) s K :=
  rounds_go [(200017, .yes), (19, .at (N3 1 n u)), (200027, .no), (32, .ret [.dat (B true)]), (300010, .loop (hd44a b es i 1 n u (decide (i = 0)) (w64 (i - 1))) (.exit 2) (out44a b es i 1 n u true)), (300015, .loop (hd44b b es i 1 n u true 0 i) (.exit 4) (out44b b es i 1 n u true deep)), (200078, .no), (81, .ret [.own 3 ps]), (200086, .no), (89, .ret [.dat (B true)])] hs (by kernel_rfl) (ob h1 (ob h2 (ob h3 (ob (rfl : false = false) (ob (rfl : false = false) (ob (rfl : false = false) (ob (rfl : false = false) (ob h8 (ob (rfl : false = false) (ob (rfl : _ = hd44a b es i 1 n u (decide (i = 0)) (w64 (i - 1))) (ob h11 (ob (rfl : _ = hd44b b es i 1 n u true 0 i) (ob h13 (ob h14 (ob (rfl : false = false) (ob (rfl : false = false) (ob h17 (ob (rfl : false = false) (ob (rfl : false = false) (ob (rfl : false = false) (ob h21 (ob (rfl : false = false) (ob (rfl : false = false) (ob h24 (ob (rfl : false = false) ob0))))))))))))))))))))))))) (by kernel_rfl) hn
theorem good_ar_2 (kk m : Nat) {s : St} {K : X → St → Prop} (b : Bool) (es : List Dat) (i : Int) (n u : Int) (deep : Int) (hs : s.norm ((envOf cfg kk 29 Go.Proofs.Try.f29).live (firstRegion (lp Go.Proofs.Try.f29 4))) = hd44 b es i) (h1 : decide (i < (es.length : Int)) = true) (h2 : (0 ≤ i ∧ i < (es.length : Int)) ∧ es[i.toNat]? = some (N3 2 n u)) (h3 : (!decide (i = 0) == decide (u = -1)) = false) (h8 : den cfg kk 30 [D.dat (I u), D.dat (I (-1)), D.dat (I (w64 (i - 1)))] [] [] = some ([D.dat (B true)], [], [])) (h11 : LoopAt cfg kk 29 Go.Proofs.Try.f29 10 (hd44a b es i 2 n u (decide (i = 0)) (w64 (i - 1))) (X.exit 2) (out44a b es i 2 n u false)) (h13 : LoopAt cfg kk 29 Go.Proofs.Try.f29 15 (hd44b b es i 2 n u false 0 i) (X.exit 4) (out44b b es i 2 n u false deep)) (hK : K (X.ret) (Nm [2] [D.dat (B false)] [none] [] [])) : Rounds (envOf cfg kk 29 Go.Proofs.Try.f29) kk (lp Go.Proofs.Try.f29 4) (m + 1) s K :=
  rounds_end [(200017, .yes), (19, .at (N3 2 n u)), (200027, .no), (32, .ret [.dat (B true)]), (300010, .loop (hd44a b es i 2 n u (decide (i = 0)) (w64 (i - 1))) (.exit 2) (out44a b es i 2 n u false)), (300015, .loop (hd44b b es i 2 n u false 0 i) (.exit 4) (out44b b es i 2 n u false deep))] hs (by kernel_rfl) rfl (ob h1 (ob h2 (ob h3 (ob (rfl : false = false) (ob (rfl : false = false) (ob (rfl : false = false) (ob (rfl : false = false) (ob h8 (ob (rfl : false = false) (ob (rfl : _ = hd44a b es i 2 n u (decide (i = 0)) (w64 (i - 1))) (ob h11 (ob (rfl : _ = hd44b b es i 2 n u false 0 i) (ob h13 ob0))))))))))))) (by kernel_rfl) hK
theorem good_deep_2 (kk m : Nat) {s : St} {K : X → St → Prop} (b : Bool) (es : List Dat) (i : Int) (n u : Int) (deep : Int) (hs : s.norm ((envOf cfg kk 29 Go.Proofs.Try.f29).live (firstRegion (lp Go.Proofs.Try.f29 4))) = hd44 b es i) (h1 : decide (i < (es.length : Int)) = true) (h2 : (0 ≤ i ∧ i < (es.length : Int)) ∧ es[i.toNat]? = some (N3 2 n u)) (h3 : (!decide (i = 0) == decide (u = -1)) = false) (h8 : den cfg kk 30 [D.dat (I u), D.dat (I (-1)), D.dat (I (w64 (i - 1)))] [] [] = some ([D.dat (B true)], [], [])) (h11 : LoopAt cfg kk 29 Go.Proofs.Try.f29 10 (hd44a b es i 2 n u (decide (i = 0)) (w64 (i - 1))) (X.exit 2) (out44a b es i 2 n u true)) (h13 : LoopAt cfg kk 29 Go.Proofs.Try.f29 15 (hd44b b es i 2 n u true 0 i) (X.exit 4) (out44b b es i 2 n u true deep)) (h14 : decide (40 < deep) = true) (hK : K (X.ret) (Nm [2] [D.dat (B false)] [none] [] [])) : Rounds (envOf cfg kk 29 Go.Proofs.Try.f29) kk (lp Go.Proofs.Try.f29 4) (m + 1) s K :=
  rounds_end [(200017, .yes), (19, .at (N3 2 n u)), (200027, .no), (32, .ret [.dat (B true)]), (300010, .loop (hd44a b es i 2 n u (decide (i = 0)) (w64 (i - 1))) (.exit 2) (out44a b es i 2 n u true)), (300015, .loop (hd44b b es i 2 n u true 0 i) (.exit 4) (out44b b es i 2 n u true deep)), (200078, .yes)] hs (by kernel_rfl) rfl (ob h1 (ob h2 (ob h3 (ob (rfl : false = false) (ob (rfl : false = false) (ob (rfl : false = false) (ob (rfl : false = false) (ob h8 (ob (rfl : false = false) (ob (rfl : _ = hd44a b es i 2 n u (decide (i = 0)) (w64 (i - 1))) (ob h11 (ob (rfl : _ = hd44b b es i 2 n u true 0 i) (ob h13 (ob h14 (ob (rfl : true = true) (ob (rfl : true = true) (ob (rfl : true = true) (ob (rfl : true = true) (ob (rfl : true = true) ob0))))))))))))))))))) (by kernel_rfl) hK
theorem good_parts_2 (kk m : Nat) {s : St} {K : X → St → Prop} (b : Bool) (es : List Dat) (i : Int) (n u : Int) (deep : Int) (ps : List Dat) (hs : s.norm ((envOf cfg kk 29 Go.Proofs.Try.f29).live (firstRegion (lp Go.Proofs.Try.f29 4))) = hd44 b es i) (h1 : decide (i < (es.length : Int)) = true) (h2 : (0 ≤ i ∧ i < (es.length : Int)) ∧ es[i.toNat]? = some (N3 2 n u)) (h3 : (!decide (i = 0) == decide (u = -1)) = false) (h8 : den cfg kk 30 [D.dat (I u), D.dat (I (-1)), D.dat (I (w64 (i - 1)))] [] [] = some ([D.dat (B true)], [], [])) (h11 : LoopAt cfg kk 29 Go.Proofs.Try.f29 10 (hd44a b es i 2 n u (decide (i = 0)) (w64 (i - 1))) (X.exit 2) (out44a b es i 2 n u true)) (h13 : LoopAt cfg kk 29 Go.Proofs.Try.f29 15 (hd44b b es i 2 n u true 0 i) (X.exit 4) (out44b b es i 2 n u true deep)) (h14 : decide (40 < deep) = false) (h17 : den cfg kk 65 [D.dat (Dat.lst b es), D.dat (I i)] [] [] = some ([D.own 3 ps], [], [])) (h21 : (!decide ((ps.length : Int) = 1)) = true) (hK : K (X.ret) (Nm [2] [D.dat (B false)] [none] [] [])) : Rounds (envOf cfg kk 29 Go.Proofs.Try.f29) kk (lp Go.Proofs.Try.f29 4) (m + 1) s K :=
  rounds_end [(200017, .yes), (19, .at (N3 2 n u)), (200027, .no), (32, .ret [.dat (B true)]), (300010, .loop (hd44a b es i 2 n u (decide (i = 0)) (w64 (i - 1))) (.exit 2) (out44a b es i 2 n u true)), (300015, .loop (hd44b b es i 2 n u true 0 i) (.exit 4) (out44b b es i 2 n u true deep)), (200078, .no), (81, .ret [.own 3 ps]), (200086, .yes)] hs (by kernel_rfl) rfl (ob h1 (ob h2 (ob h3 (ob (rfl : false = false) (ob (rfl : false = false) (ob (rfl : false = false) (ob (rfl : false = false) (ob h8 (ob (rfl : false = false) (ob (rfl : _ = hd44a b es i 2 n u (decide (i = 0)) (w64 (i - 1))) (ob h11 (ob (rfl : _ = hd44b b es i 2 n u true 0 i) (ob h13 (ob h14 (ob (rfl : false = false) (ob (rfl : false = false) (ob h17 (ob (rfl : false = false) (ob (rfl : false = false) (ob (rfl : false = false) (ob h21 (ob (rfl : true = true) (ob (rfl : true = true) (ob (rfl : true = true) ob0)))))))))))))))))))))))) (by kernel_rfl) hK
theorem good_n_2 (kk m : Nat) {s : St} {K : X → St → Prop} (b : Bool) (es : List Dat) (i : Int) (n u : Int) (deep : Int) (ps : List Dat) (hs : s.norm ((envOf cfg kk 29 Go.Proofs.Try.f29).live (firstRegion (lp Go.Proofs.Try.f29 4))) = hd44 b es i) (h1 : decide (i < (es.length : Int)) = true) (h2 : (0 ≤ i ∧ i < (es.length : Int)) ∧ es[i.toNat]? = some (N3 2 n u)) (h3 : (!decide (i = 0) == decide (u = -1)) = false) (h8 : den cfg kk 30 [D.dat (I u), D.dat (I (-1)), D.dat (I (w64 (i - 1)))] [] [] = some ([D.dat (B true)], [], [])) (h11 : LoopAt cfg kk 29 Go.Proofs.Try.f29 10 (hd44a b es i 2 n u (decide (i = 0)) (w64 (i - 1))) (X.exit 2) (out44a b es i 2 n u true)) (h13 : LoopAt cfg kk 29 Go.Proofs.Try.f29 15 (hd44b b es i 2 n u true 0 i) (X.exit 4) (out44b b es i 2 n u true deep)) (h14 : decide (40 < deep) = false) (h17 : den cfg kk 65 [D.dat (Dat.lst b es), D.dat (I i)] [] [] = some ([D.own 3 ps], [], [])) (h21 : (!decide ((ps.length : Int) = 1)) = false) (h24 : den cfg kk 30 [D.dat (I n), D.dat (I 0), D.dat (I 99)] [] [] = some ([D.dat (B false)], [], [])) (hK : K (X.ret) (Nm [2] [D.dat (B false)] [none] [] [])) : Rounds (envOf cfg kk 29 Go.Proofs.Try.f29) kk (lp Go.Proofs.Try.f29 4) (m + 1) s K :=
  rounds_end [(200017, .yes), (19, .at (N3 2 n u)), (200027, .no), (32, .ret [.dat (B true)]), (300010, .loop (hd44a b es i 2 n u (decide (i = 0)) (w64 (i - 1))) (.exit 2) (out44a b es i 2 n u true)), (300015, .loop (hd44b b es i 2 n u true 0 i) (.exit 4) (out44b b es i 2 n u true deep)), (200078, .no), (81, .ret [.own 3 ps]), (200086, .no), (89, .ret [.dat (B false)])] hs (by kernel_rfl) rfl (ob h1 (ob h2 (ob h3 (ob (rfl : false = false) (ob (rfl : false = false) (ob (rfl : false = false) (ob (rfl : false = false) (ob h8 (ob (rfl : false = false) (ob (rfl : _ = hd44a b es i 2 n u (decide (i = 0)) (w64 (i - 1))) (ob h11 (ob (rfl : _ = hd44b b es i 2 n u true 0 i) (ob h13 (ob h14 (ob (rfl : false = false) (ob (rfl : false = false) (ob h17 (ob (rfl : false = false) (ob (rfl : false = false) (ob (rfl : false = false) (ob h21 (ob (rfl : false = false) (ob (rfl : false = false) (ob h24 (ob (rfl : false = false) ob0))))))))))))))))))))))))) (by kernel_rfl) hK
theorem good_go_2 (kk m : Nat) {s : St} {K : X → St → Prop} (b : Bool) (es : List Dat) (i : Int) (n u : Int) (deep : Int) (ps : List Dat) (hs : s.norm ((envOf cfg kk 29 Go.Proofs.Try.f29).live (firstRegion (lp Go.Proofs.Try.f29 4))) = hd44 b es i) (h1 : decide (i < (es.length : Int)) = true) (h2 : (0 ≤ i ∧ i < (es.length : Int)) ∧ es[i.toNat]? = some (N3 2 n u)) (h3 : (!decide (i = 0) == decide (u = -1)) = false) (h8 : den cfg kk 30 [D.dat (I u), D.dat (I (-1)), D.dat (I (w64 (i - 1)))] [] [] = some ([D.dat (B true)], [], [])) (h11 : LoopAt cfg kk 29 Go.Proofs.Try.f29 10 (hd44a b es i 2 n u (decide (i = 0)) (w64 (i - 1))) (X.exit 2) (out44a b es i 2 n u true)) (h13 : LoopAt cfg kk 29 Go.Proofs.Try.f29 15 (hd44b b es i 2 n u true 0 i) (X.exit 4) (out44b b es i 2 n u true deep)) (h14 : decide (40 < deep) = false) (h17 : den cfg kk 65 [D.dat (Dat.lst b es), D.dat (I i)] [] [] = some ([D.own 3 ps], [], [])) (h21 : (!decide ((ps.length : Int) = 1)) = false) (h24 : den cfg kk 30 [D.dat (I n), D.dat (I 0), D.dat (I 99)] [] [] = some ([D.dat (B true)], [], [])) (h26 : (!decide (n = 0)) = false) (hn : ∀ s : St, s.norm ((envOf cfg kk 29 Go.Proofs.Try.f29).live (firstRegion (lp Go.Proofs.Try.f29 4))) = Nm [0, 14, 15, 16] [D.dat (Dat.lst b es), D.dat (Dat.lst b es), D.dat (I (es.length : Int)), D.dat (I (w64 (i + 1)))] [none, none, none, none] [] [] → Rounds (envOf cfg kk 29 Go.Proofs.Try.f29) kk (lp Go.Proofs.Try.f29 4) m s K) : Rounds (envOf cfg kk 29 Go.Proofs.Try.f29) kk (lp Go.Proofs.Try.f29 4) (m + 1) s K :=
  rounds_go [(200017, .yes), (19, .at (N3 2 n u)), (200027, .no), (32, .ret [.dat (B true)]), (300010, .loop (hd44a b es i 2 n u (decide (i = 0)) (w64 (i - 1))) (.exit 2) (out44a b es i 2 n u true)), (300015, .loop (hd44b b es i 2 n u true 0 i) (.exit 4) (out44b b es i 2 n u true deep)), (200078, .no), (81, .ret [.own 3 ps]), (200086, .no), (89, .ret [.dat (B true)]), (200101, .no)] hs (by kernel_rfl) (ob h1 (ob h2 (ob h3 (ob (rfl : false = false) (ob (rfl : false = false) (ob (rfl : false = false) (ob (rfl : false = false) (ob h8 (ob (rfl : false = false) (ob (rfl : _ = hd44a b es i 2 n u (decide (i = 0)) (w64 (i - 1))) (ob h11 (ob (rfl : _ = hd44b b es i 2 n u true 0 i) (ob h13 (ob h14 (ob (rfl : false = false) (ob (rfl : false = false) (ob h17 (ob (rfl : false = false) (ob (rfl : false = false) (ob (rfl : false = false) (ob h21 (ob (rfl : false = false) (ob (rfl : false = false) (ob h24 (ob (rfl : false = false) (ob h26 ob0)))))))))))))))))))))))))) (by kernel_rfl) hn
theorem good_num_2 (kk m : Nat) {s : St} {K : X → St → Prop} (b : Bool) (es : List Dat) (i : Int) (n u : Int) (deep : Int) (ps : List Dat) (hs : s.norm ((envOf cfg kk 29 Go.Proofs.Try.f29).live (firstRegion (lp Go.Proofs.Try.f29 4))) = hd44 b es i) (h1 : decide (i < (es.length : Int)) = true) (h2 : (0 ≤ i ∧ i < (es.length : Int)) ∧ es[i.toNat]? = some (N3 2 n u)) (h3 : (!decide (i = 0) == decide (u = -1)) = false) (h8 : den cfg kk 30 [D.dat (I u), D.dat (I (-1)), D.dat (I (w64 (i - 1)))] [] [] = some ([D.dat (B true)], [], [])) (h11 : LoopAt cfg kk 29 Go.Proofs.Try.f29 10 (hd44a b es i 2 n u (decide (i = 0)) (w64 (i - 1))) (X.exit 2) (out44a b es i 2 n u true)) (h13 : LoopAt cfg kk 29 Go.Proofs.Try.f29 15 (hd44b b es i 2 n u true 0 i) (X.exit 4) (out44b b es i 2 n u true deep)) (h14 : decide (40 < deep) = false) (h17 : den cfg kk 65 [D.dat (Dat.lst b es), D.dat (I i)] [] [] = some ([D.own 3 ps], [], [])) (h21 : (!decide ((ps.length : Int) = 1)) = false) (h24 : den cfg kk 30 [D.dat (I n), D.dat (I 0), D.dat (I 99)] [] [] = some ([D.dat (B true)], [], [])) (h26 : (!decide (n = 0)) = true) (hK : K (X.ret) (Nm [2] [D.dat (B false)] [none] [] [])) : Rounds (envOf cfg kk 29 Go.Proofs.Try.f29) kk (lp Go.Proofs.Try.f29 4) (m + 1) s K :=
  rounds_end [(200017, .yes), (19, .at (N3 2 n u)), (200027, .no), (32, .ret [.dat (B true)]), (300010, .loop (hd44a b es i 2 n u (decide (i = 0)) (w64 (i - 1))) (.exit 2) (out44a b es i 2 n u true)), (300015, .loop (hd44b b es i 2 n u true 0 i) (.exit 4) (out44b b es i 2 n u true deep)), (200078, .no), (81, .ret [.own 3 ps]), (200086, .no), (89, .ret [.dat (B true)]), (200101, .yes)] hs (by kernel_rfl) rfl (ob h1 (ob h2 (ob h3 (ob (rfl : false = false) (ob (rfl : false = false) (ob (rfl : false = false) (ob (rfl : false = false) (ob h8 (ob (rfl : false = false) (ob (rfl : _ = hd44a b es i 2 n u (decide (i = 0)) (w64 (i - 1))) (ob h11 (ob (rfl : _ = hd44b b es i 2 n u true 0 i) (ob h13 (ob h14 (ob (rfl : false = false) (ob (rfl : false = false) (ob h17 (ob (rfl : false = false) (ob (rfl : false = false) (ob (rfl : false = false) (ob h21 (ob (rfl : false = false) (ob (rfl : false = false) (ob h24 (ob (rfl : false = false) (ob h26 ob0)))))))))))))))))))))))))) (by kernel_rfl) hK
theorem good_ar_3 (kk m : Nat) {s : St} {K : X → St → Prop} (b : Bool) (es : List Dat) (i : Int) (n u : Int) (deep : Int) (hs : s.norm ((envOf cfg kk 29 Go.Proofs.Try.f29).live (firstRegion (lp Go.Proofs.Try.f29 4))) = hd44 b es i) (h1 : decide (i < (es.length : Int)) = true) (h2 : (0 ≤ i ∧ i < (es.length : Int)) ∧ es[i.toNat]? = some (N3 3 n u)) (h3 : (!decide (i = 0) == decide (u = -1)) = false) (h8 : den cfg kk 30 [D.dat (I u), D.dat (I (-1)), D.dat (I (w64 (i - 1)))] [] [] = some ([D.dat (B true)], [], [])) (h11 : LoopAt cfg kk 29 Go.Proofs.Try.f29 10 (hd44a b es i 3 n u (decide (i = 0)) (w64 (i - 1))) (X.exit 2) (out44a b es i 3 n u false)) (h13 : LoopAt cfg kk 29 Go.Proofs.Try.f29 15 (hd44b b es i 3 n u false 0 i) (X.exit 4) (out44b b es i 3 n u false deep)) (hK : K (X.ret) (Nm [2] [D.dat (B false)] [none] [] [])) : Rounds (envOf cfg kk 29 Go.Proofs.Try.f29) kk (lp Go.Proofs.Try.f29 4) (m + 1) s K :=
  rounds_end [(200017, .yes), (19, .at (N3 3 n u)), (200027, .no), (32, .ret [.dat (B true)]), (300010, .loop (hd44a b es i 3 n u (decide (i = 0)) (w64 (i - 1))) (.exit 2) (out44a b es i 3 n u false)), (300015, .loop (hd44b b es i 3 n u false 0 i) (.exit 4) (out44b b es i 3 n u false deep))] hs (by kernel_rfl) rfl (ob h1 (ob h2 (ob h3 (ob (rfl : false = false) (ob (rfl : false = false) (ob (rfl : false = false) (ob (rfl : false = false) (ob h8 (ob (rfl : false = false) (ob (rfl : _ = hd44a b es i 3 n u (decide (i = 0)) (w64 (i - 1))) (ob h11 (ob (rfl : _ = hd44b b es i 3 n u false 0 i) (ob h13 ob0))))))))))))) (by kernel_rfl) hK
theorem good_deep_3 (kk m : Nat) {s : St} {K : X → St → Prop} (b : Bool) (es : List Dat) (i : Int) (n u : Int) (deep : Int) (hs : s.norm ((envOf cfg kk 29 Go.Proofs.Try.f29).live (firstRegion (lp Go.Proofs.Try.f29 4))) = hd44 b es i) (h1 : decide (i < (es.length : Int)) = true) (h2 : (0 ≤ i ∧ i < (es.length : Int)) ∧ es[i.toNat]? = some (N3 3 n u)) (h3 : (!decide (i = 0) == decide (u = -1)) = false) (h8 : den cfg kk 30 [D.dat (I u), D.dat (I (-1)), D.dat (I (w64 (i - 1)))] [] [] = some ([D.dat (B true)], [], [])) (h11 : LoopAt cfg kk 29 Go.Proofs.Try.f29 10 (hd44a b es i 3 n u (decide (i = 0)) (w64 (i - 1))) (X.exit 2) (out44a b es i 3 n u true)) (h13 : LoopAt cfg kk 29 Go.Proofs.Try.f29 15 (hd44b b es i 3 n u true 0 i) (X.exit 4) (out44b b es i 3 n u true deep)) (h14 : decide (40 < deep) = true) (hK : K (X.ret) (Nm [2] [D.dat (B false)] [none] [] [])) : Rounds (envOf cfg kk 29 Go.Proofs.Try.f29) kk (lp Go.Proofs.Try.f29 4) (m + 1) s K :=
  rounds_end [(200017, .yes), (19, .at (N3 3 n u)), (200027, .no), (32, .ret [.dat (B true)]), (300010, .loop (hd44a b es i 3 n u (decide (i = 0)) (w64 (i - 1))) (.exit 2) (out44a b es i 3 n u true)), (300015, .loop (hd44b b es i 3 n u true 0 i) (.exit 4) (out44b b es i 3 n u true deep)), (200078, .yes)] hs (by kernel_rfl) rfl (ob h1 (ob h2 (ob h3 (ob (rfl : false = false) (ob (rfl : false = false) (ob (rfl : false = false) (ob (rfl : false = false) (ob h8 (ob (rfl : false = false) (ob (rfl : _ = hd44a b es i 3 n u (decide (i = 0)) (w64 (i - 1))) (ob h11 (ob (rfl : _ = hd44b b es i 3 n u true 0 i) (ob h13 (ob h14 (ob (rfl : true = true) (ob (rfl : true = true) (ob (rfl : true = true) (ob (rfl : true = true) (ob (rfl : true = true) ob0))))))))))))))))))) (by kernel_rfl) hK
theorem good_parts_3 (kk m : Nat) {s : St} {K : X → St → Prop} (b : Bool) (es : List Dat) (i : Int) (n u : Int) (deep : Int) (ps : List Dat) (hs : s.norm ((envOf cfg kk 29 Go.Proofs.Try.f29).live (firstRegion (lp Go.Proofs.Try.f29 4))) = hd44 b es i) (h1 : decide (i < (es.length : Int)) = true) (h2 : (0 ≤ i ∧ i < (es.length : Int)) ∧ es[i.toNat]? = some (N3 3 n u)) (h3 : (!decide (i = 0) == decide (u = -1)) = false) (h8 : den cfg kk 30 [D.dat (I u), D.dat (I (-1)), D.dat (I (w64 (i - 1)))] [] [] = some ([D.dat (B true)], [], [])) (h11 : LoopAt cfg kk 29 Go.Proofs.Try.f29 10 (hd44a b es i 3 n u (decide (i = 0)) (w64 (i - 1))) (X.exit 2) (out44a b es i 3 n u true)) (h13 : LoopAt cfg kk 29 Go.Proofs.Try.f29 15 (hd44b b es i 3 n u true 0 i) (X.exit 4) (out44b b es i 3 n u true deep)) (h14 : decide (40 < deep) = false) (h17 : den cfg kk 65 [D.dat (Dat.lst b es), D.dat (I i)] [] [] = some ([D.own 3 ps], [], [])) (h21 : (!decide ((ps.length : Int) = 2)) = true) (hK : K (X.ret) (Nm [2] [D.dat (B false)] [none] [] [])) : Rounds (envOf cfg kk 29 Go.Proofs.Try.f29) kk (lp Go.Proofs.Try.f29 4) (m + 1) s K :=
  rounds_end [(200017, .yes), (19, .at (N3 3 n u)), (200027, .no), (32, .ret [.dat (B true)]), (300010, .loop (hd44a b es i 3 n u (decide (i = 0)) (w64 (i - 1))) (.exit 2) (out44a b es i 3 n u true)), (300015, .loop (hd44b b es i 3 n u true 0 i) (.exit 4) (out44b b es i 3 n u true deep)), (200078, .no), (81, .ret [.own 3 ps]), (200086, .yes)] hs (by kernel_rfl) rfl (ob h1 (ob h2 (ob h3 (ob (rfl : false = false) (ob (rfl : false = false) (ob (rfl : false = false) (ob (rfl : false = false) (ob h8 (ob (rfl : false = false) (ob (rfl : _ = hd44a b es i 3 n u (decide (i = 0)) (w64 (i - 1))) (ob h11 (ob (rfl : _ = hd44b b es i 3 n u true 0 i) (ob h13 (ob h14 (ob (rfl : false = false) (ob (rfl : false = false) (ob h17 (ob (rfl : false = false) (ob (rfl : false = false) (ob (rfl : false = false) (ob h21 (ob (rfl : true = true) (ob (rfl : true = true) (ob (rfl : true = true) ob0)))))))))))))))))))))))) (by kernel_rfl) hK
theorem good_n_3 (kk m : Nat) {s : St} {K : X → St → Prop} (b : Bool) (es : List Dat) (i : Int) (n u : Int) (deep : Int) (ps : List Dat) (hs : s.norm ((envOf cfg kk 29 Go.Proofs.Try.f29).live (firstRegion (lp Go.Proofs.Try.f29 4))) = hd44 b es i) (h1 : decide (i < (es.length : Int)) = true) (h2 : (0 ≤ i ∧ i < (es.length : Int)) ∧ es[i.toNat]? = some (N3 3 n u)) (h3 : (!decide (i = 0) == decide (u = -1)) = false) (h8 : den cfg kk 30 [D.dat (I u), D.dat (I (-1)), D.dat (I (w64 (i - 1)))] [] [] = some ([D.dat (B true)], [], [])) (h11 : LoopAt cfg kk 29 Go.Proofs.Try.f29 10 (hd44a b es i 3 n u (decide (i = 0)) (w64 (i - 1))) (X.exit 2) (out44a b es i 3 n u true)) (h13 : LoopAt cfg kk 29 Go.Proofs.Try.f29 15 (hd44b b es i 3 n u true 0 i) (X.exit 4) (out44b b es i 3 n u true deep)) (h14 : decide (40 < deep) = false) (h17 : den cfg kk 65 [D.dat (Dat.lst b es), D.dat (I i)] [] [] = some ([D.own 3 ps], [], [])) (h21 : (!decide ((ps.length : Int) = 2)) = false) (h24 : den cfg kk 30 [D.dat (I n), D.dat (I 0), D.dat (I 99)] [] [] = some ([D.dat (B false)], [], [])) (hK : K (X.ret) (Nm [2] [D.dat (B false)] [none] [] [])) : Rounds (envOf cfg kk 29 Go.Proofs.Try.f29) kk (lp Go.Proofs.Try.f29 4) (m + 1) s K :=
  rounds_end [(200017, .yes), (19, .at (N3 3 n u)), (200027, .no), (32, .ret [.dat (B true)]), (300010, .loop (hd44a b es i 3 n u (decide (i = 0)) (w64 (i - 1))) (.exit 2) (out44a b es i 3 n u true)), (300015, .loop (hd44b b es i 3 n u true 0 i) (.exit 4) (out44b b es i 3 n u true deep)), (200078, .no), (81, .ret [.own 3 ps]), (200086, .no), (89, .ret [.dat (B false)])] hs (by kernel_rfl) rfl (ob h1 (ob h2 (ob h3 (ob (rfl : false = false) (ob (rfl : false = false) (ob (rfl : false = false) (ob (rfl : false = false) (ob h8 (ob (rfl : false = false) (ob (rfl : _ = hd44a b es i 3 n u (decide (i = 0)) (w64 (i - 1))) (ob h11 (ob (rfl : _ = hd44b b es i 3 n u true 0 i) (ob h13 (ob h14 (ob (rfl : false = false) (ob (rfl : false = false) (ob h17 (ob (rfl : false = false) (ob (rfl : false = false) (ob (rfl : false = false) (ob h21 (ob (rfl : false = false) (ob (rfl : false = false) (ob h24 (ob (rfl : false = false) ob0))))))))))))))))))))))))) (by kernel_rfl) hK
theorem good_go_3 (kk m : Nat) {s : St} {K : X → St → Prop} (b : Bool) (es : List Dat) (i : Int) (n u : Int) (deep : Int) (ps : List Dat) (hs : s.norm ((envOf cfg kk 29 Go.Proofs.Try.f29).live (firstRegion (lp Go.Proofs.Try.f29 4))) = hd44 b es i) (h1 : decide (i < (es.length : Int)) = true) (h2 : (0 ≤ i ∧ i < (es.length : Int)) ∧ es[i.toNat]? = some (N3 3 n u)) (h3 : (!decide (i = 0) == decide (u = -1)) = false) (h8 : den cfg kk 30 [D.dat (I u), D.dat (I (-1)), D.dat (I (w64 (i - 1)))] [] [] = some ([D.dat (B true)], [], [])) (h11 : LoopAt cfg kk 29 Go.Proofs.Try.f29 10 (hd44a b es i 3 n u (decide (i = 0)) (w64 (i - 1))) (X.exit 2) (out44a b es i 3 n u true)) (h13 : LoopAt cfg kk 29 Go.Proofs.Try.f29 15 (hd44b b es i 3 n u true 0 i) (X.exit 4) (out44b b es i 3 n u true deep)) (h14 : decide (40 < deep) = false) (h17 : den cfg kk 65 [D.dat (Dat.lst b es), D.dat (I i)] [] [] = some ([D.own 3 ps], [], [])) (h21 : (!decide ((ps.length : Int) = 2)) = false) (h24 : den cfg kk 30 [D.dat (I n), D.dat (I 0), D.dat (I 99)] [] [] = some ([D.dat (B true)], [], [])) (h26 : (!decide (n = 0)) = false) (hn : ∀ s : St, s.norm ((envOf cfg kk 29 Go.Proofs.Try.f29).live (firstRegion (lp Go.Proofs.Try.f29 4))) = Nm [0, 14, 15, 16] [D.dat (Dat.lst b es), D.dat (Dat.lst b es), D.dat (I (es.length : Int)), D.dat (I (w64 (i + 1)))] [none, none, none, none] [] [] → Rounds (envOf cfg kk 29 Go.Proofs.Try.f29) kk (lp Go.Proofs.Try.f29 4) m s K) : Rounds (envOf cfg kk 29 Go.Proofs.Try.f29) kk (lp Go.Proofs.Try.f29 4) (m + 1) s K :=
  rounds_go [(200017, .yes), (19, .at (N3 3 n u)), (200027, .no), (32, .ret [.dat (B true)]), (300010, .loop (hd44a b es i 3 n u (decide (i = 0)) (w64 (i - 1))) (.exit 2) (out44a b es i 3 n u true)), (300015, .loop (hd44b b es i 3 n u true 0 i) (.exit 4) (out44b b es i 3 n u true deep)), (200078, .no), (81, .ret [.own 3 ps]), (200086, .no), (89, .ret [.dat (B true)]), (200101, .no)] hs (by kernel_rfl) (ob h1 (ob h2 (ob h3 (ob (rfl : false = false) (ob (rfl : false = false) (ob (rfl : false = false) (ob (rfl : false = false) (ob h8 (ob (rfl : false = false) (ob (rfl : _ = hd44a b es i 3 n u (decide (i = 0)) (w64 (i - 1))) (ob h11 (ob (rfl : _ = hd44b b es i 3 n u true 0 i) (ob h13 (ob h14 (ob (rfl : false = false) (ob (rfl : false = false) (ob h17 (ob (rfl : false = false) (ob (rfl : false = false) (ob (rfl : false = false) (ob h21 (ob (rfl : false = false) (ob (rfl : false = false) (ob h24 (ob (rfl : false = false) (ob h26 ob0)))))))))))))))))))))))))) (by kernel_rfl) hn
theorem good_num_3 (kk m : Nat) {s : St} {K : X → St → Prop} (b : Bool) (es : List Dat) (i : Int) (n u : Int) (deep : Int) (ps : List Dat) (hs : s.norm ((envOf cfg kk 29 Go.Proofs.Try.f29).live (firstRegion (lp Go.Proofs.Try.f29 4))) = hd44 b es i) (h1 : decide (i < (es.length : Int)) = true) (h2 : (0 ≤ i ∧ i < (es.length : Int)) ∧ es[i.toNat]? = some (N3 3 n u)) (h3 : (!decide (i = 0) == decide (u = -1)) = false) (h8 : den cfg kk 30 [D.dat (I u), D.dat (I (-1)), D.dat (I (w64 (i - 1)))] [] [] = some ([D.dat (B true)], [], [])) (h11 : LoopAt cfg kk 29 Go.Proofs.Try.f29 10 (hd44a b es i 3 n u (decide (i = 0)) (w64 (i - 1))) (X.exit 2) (out44a b es i 3 n u true)) (h13 : LoopAt cfg kk 29 Go.Proofs.Try.f29 15 (hd44b b es i 3 n u true 0 i) (X.exit 4) (out44b b es i 3 n u true deep)) (h14 : decide (40 < deep) = false) (h17 : den cfg kk 65 [D.dat (Dat.lst b es), D.dat (I i)] [] [] = some ([D.own 3 ps], [], [])) (h21 : (!decide ((ps.length : Int) = 2)) = false) (h24 : den cfg kk 30 [D.dat (I n), D.dat (I 0), D.dat (I 99)] [] [] = some ([D.dat (B true)], [], [])) (h26 : (!decide (n = 0)) = true) (hK : K (X.ret) (Nm [2] [D.dat (B false)] [none] [] [])) : Rounds (envOf cfg kk 29 Go.Proofs.Try.f29) kk (lp Go.Proofs.Try.f29 4) (m + 1) s K :=
  rounds_end [(200017, .yes), (19, .at (N3 3 n u)), (200027, .no), (32, .ret [.dat (B true)]), (300010, .loop (hd44a b es i 3 n u (decide (i = 0)) (w64 (i - 1))) (.exit 2) (out44a b es i 3 n u true)), (300015, .loop (hd44b b es i 3 n u true 0 i) (.exit 4) (out44b b es i 3 n u true deep)), (200078, .no), (81, .ret [.own 3 ps]), (200086, .no), (89, .ret [.dat (B true)]), (200101, .yes)] hs (by kernel_rfl) rfl (ob h1 (ob h2 (ob h3 (ob (rfl : false = false) (ob (rfl : false = false) (ob (rfl : false = false) (ob (rfl : false = false) (ob h8 (ob (rfl : false = false) (ob (rfl : _ = hd44a b es i 3 n u (decide (i = 0)) (w64 (i - 1))) (ob h11 (ob (rfl : _ = hd44b b es i 3 n u true 0 i) (ob h13 (ob h14 (ob (rfl : false = false) (ob (rfl : false = false) (ob h17 (ob (rfl : false = false) (ob (rfl : false = false) (ob (rfl : false = false) (ob h21 (ob (rfl : false = false) (ob (rfl : false = false) (ob h24 (ob (rfl : false = false) (ob h26 ob0)))))))))))))))))))))))))) (by kernel_rfl) hK
theorem GoodTerm_few (kk : Nat) (b : Bool) (es : List Dat) (h1 : den cfg kk 30 [D.dat (I (es.length : Int)), D.dat (I 1), D.dat (I 150)] [] [] = some ([D.dat (B false)], [], [])) : runFn cfg kk (den cfg kk) 29 Go.Proofs.Try.f29 [.dat (Dat.lst b es)] [] [] = some ([D.dat (B false)], [], []) :=
  hrun_ok [(12, .ret [.dat (B false)])] (ob h1 ob0) (by kernel_rfl)
theorem GoodTerm_yes (kk : Nat) (b : Bool) (es : List Dat) (h1 : den cfg kk 30 [D.dat (I (es.length : Int)), D.dat (I 1), D.dat (I 150)] [] [] = some ([D.dat (B true)], [], [])) (h3 : LoopAt cfg kk 29 Go.Proofs.Try.f29 4 (hd44 b es 0) (X.exit 0) (Nm [2] [D.junk] [none] [] [])) : runFn cfg kk (den cfg kk) 29 Go.Proofs.Try.f29 [.dat (Dat.lst b es)] [] [] = some ([D.dat (B true)], [], []) :=
  hrun_ok [(12, .ret [.dat (B true)]), (300004, .loop (hd44 b es 0) (.exit 0) (Nm [2] [.junk] [none] [] []))] (ob h1 (ob (rfl : _ = hd44 b es 0) (ob h3 ob0))) (by kernel_rfl)
theorem GoodTerm_no (kk : Nat) (b : Bool) (es : List Dat) (h1 : den cfg kk 30 [D.dat (I (es.length : Int)), D.dat (I 1), D.dat (I 150)] [] [] = some ([D.dat (B true)], [], [])) (h3 : LoopAt cfg kk 29 Go.Proofs.Try.f29 4 (hd44 b es 0) X.ret (Nm [2] [D.dat (B false)] [none] [] [])) : runFn cfg kk (den cfg kk) 29 Go.Proofs.Try.f29 [.dat (Dat.lst b es)] [] [] = some ([D.dat (B false)], [], []) :=
  hrun_ok [(12, .ret [.dat (B true)]), (300004, .loop (hd44 b es 0) .ret (Nm [2] [.dat (B false)] [none] [] []))] (ob h1 (ob (rfl : _ = hd44 b es 0) (ob h3 ob0))) (by kernel_rfl)
end Go.Den
namespace Go.Den
open Go
set_option linter.unusedVariables false
set_option maxRecDepth 100000
theorem assoc_no {α : Type} {f : Nat} : ∀ {l : List (Nat × α)}, memN f (l.map (·.1)) = false → assoc l f = none
  | [], _ => rfl
  | (a, x) :: l, h => by
    simp only [List.map_cons, memN] at h
    unfold assoc
    split at h
    · cases h
    · rename_i hb
      have hab : Nat.beq a f = false := by
        cases hc : Nat.beq a f with
        | false => rfl
        | true =>
          have := Nat.eq_of_beq_eq_true hc
          subst this
          have hr : Nat.beq a a = true := Nat.beq_refl a
          rw [hr] at hb
          cases hb
      rw [hab]
      exact assoc_no h
theorem ext_nums : extsOf.map (·.1) = extNums := by rfl
theorem noExt {f : Nat} {fn : Func} (h : cfg.fn f = some fn) : cfg.ext f = none := by
  unfold cfg at h ⊢
  simp only at h ⊢
  split at h
  · rename_i hb
    simp only [Bool.and_eq_true, Bool.not_eq_true'] at hb
    exact assoc_no (by rw [ext_nums]; exact hb.2)
  · cases h
/-- A call that comes back, with fuel N or more. -/
def EvN (N f : Nat) (args : List D) (u : List (List D)) (l : List (Option Row)) (r : Res) : Prop := ∀ k, N ≤ k → den cfg k f args u l = some r
theorem EvN.mono {N M f : Nat} {args : List D} {u : List (List D)} {l : List (Option Row)} {r : Res} (h : EvN N f args u l r) (hNM : N ≤ M) : EvN M f args u l r := fun k hk => h k (by omega)
theorem ev_fn {f : Nat} (fn : Func) {args : List D} {u : List (List D)} {l : List (Option Row)} {r : Res} (N : Nat) (hf : cfg.fn f = some fn) (hl : Nat.ble args.length fn.ntmps = true) (h : ∀ kk, N ≤ kk → runFn cfg kk (den cfg kk) f fn args u l = some r) : EvN (N + 1) f args u l r := fun k hk => by
  obtain ⟨m, rfl⟩ : ∃ m, k = m + 1 := ⟨k - 1, by omega⟩
  simp only [den, noExt hf, hf, hl]
  exact h m (by omega)
theorem w64_eq {n : Int} (h : -9223372036854775808 ≤ n ∧ n ≤ 9223372036854775807) : w64 n = n := by show IntKind.i64.wrap n = n; rw [IntKind.wrap_i64]; omega
/-- Rounds that count up. -/
theorem range_rounds {E : Env} {kk : Nat} {c : Code} {K : X → St → Prop} (st : Nat → St) (n : Nat)
    (hgo : ∀ i, i < n → ∀ (m : Nat) (s : St), s.norm (E.live (firstRegion c)) = st i → (∀ s : St, s.norm (E.live (firstRegion c)) = st (i + 1) → Rounds E kk c m s K) → Rounds E kk c (m + 1) s K)
    (hend : ∀ (m : Nat) (s : St), s.norm (E.live (firstRegion c)) = st n → Rounds E kk c (m + 1) s K) : ∀ (d i m : Nat), i + d = n → d < m → ∀ s : St, s.norm (E.live (firstRegion c)) = st i → Rounds E kk c m s K
  | 0, i, m, hi, hm, s, hs => by
    obtain ⟨m, rfl⟩ : ∃ k, m = k + 1 := ⟨m - 1, by omega⟩
    have : i = n := by omega
    subst this
    exact hend m s hs
  | d + 1, i, m, hi, hm, s, hs => by
    obtain ⟨m, rfl⟩ : ∃ k, m = k + 1 := ⟨m - 1, by omega⟩
    exact hgo i (by omega) m s hs fun s' hs' => range_rounds st n hgo hend d (i + 1) m (by omega) (by omega) s' hs'
theorem loopAt_range {kk f : Nat} {fn : Func} {r : Nat} {x : X} {s' : St} (st : Nat → St) (n : Nat) (hk : n < kk)
    (hgo : ∀ i, i < n → ∀ (m : Nat) (s : St) (K : X → St → Prop), s.norm ((envOf cfg kk f fn).live (firstRegion (lp fn r))) = st i → (∀ s : St, s.norm ((envOf cfg kk f fn).live (firstRegion (lp fn r))) = st (i + 1) → Rounds (envOf cfg kk f fn) kk (lp fn r) m s K) → Rounds (envOf cfg kk f fn) kk (lp fn r) (m + 1) s K)
    (hend : ∀ (m : Nat) (s : St) (K : X → St → Prop), s.norm ((envOf cfg kk f fn).live (firstRegion (lp fn r))) = st n → K x s' → Rounds (envOf cfg kk f fn) kk (lp fn r) (m + 1) s K) {s0 : St} (h0 : s0 = st 0) : LoopAt cfg kk f fn r s0 x s' :=
  loopOb_of fun s hs => range_rounds st n (fun i hi m s hs hn => hgo i hi m s _ hs hn) (fun m s hs => hend m s _ hs ⟨rfl, rfl⟩) n 0 kk (by omega) hk s (by rw [hs, h0])
structure Nd where
  k : Int
  n : Int
  u : Int
def Nd.d (x : Nd) : Dat := N3 x.k x.n x.u
end Go.Den
namespace Go.Den
open Go
set_option linter.unusedVariables false
set_option maxRecDepth 100000
/-- Terms as nodes tell them (the number stands in each node). -/
inductive Pt where
  | var (n : Int)
  | lam (n : Int) (t : Pt)
  | app (n : Int) (a b : Pt)
def Pt.kd : Pt → Int
  | .var _ => 1
  | .lam _ _ => 2
  | .app _ _ _ => 3
def Pt.num : Pt → Int
  | .var n => n
  | .lam n _ => n
  | .app n _ _ => n
def Pt.kids : Pt → List Pt
  | .var _ => []
  | .lam _ t => [t]
  | .app _ a b => [a, b]
def Pt.d : Pt → Dat
  | .var n => T 1 n []
  | .lam n t => T 2 n [t.d]
  | .app n a b => T 3 n [a.d, b.d]
def Pt.size : Pt → Nat
  | .var _ => 1
  | .lam _ t => 1 + t.size
  | .app _ a b => 1 + a.size + b.size
def Pt.depth : Pt → Nat
  | .var _ => 1
  | .lam _ t => t.depth + 1
  | .app _ a b => max a.depth b.depth + 1
def Pt.nums : Pt → Bool
  | .var n => decide (0 ≤ n) && decide (n ≤ 99)
  | .lam n t => decide (n = 0) && t.nums
  | .app n a b => decide (n = 0) && (a.nums && b.nums)
def Pt.good (t : Pt) : Bool := decide (t.size ≤ 150) && (decide (t.depth ≤ 40) && t.nums)
theorem Pt.d_eq (t : Pt) : t.d = T t.kd t.num (t.kids.map Pt.d) := by cases t <;> rfl
theorem Pt.kids_lt {t x : Pt} (h : x ∈ t.kids) : x.size < t.size ∧ x.depth < t.depth := by
  cases t with
  | var n => cases h
  | lam n t =>
    simp only [Pt.kids, List.mem_singleton] at h
    subst h
    simp only [Pt.size, Pt.depth]
    omega
  | app n a b =>
    simp only [Pt.kids, List.mem_cons, List.not_mem_nil, or_false] at h
    simp only [Pt.size, Pt.depth]
    rcases h with rfl | rfl <;> omega
theorem Pt.kids_le (t : Pt) : t.kids.length ≤ 2 := by cases t <;> simp [Pt.kids]
theorem Pt.size_kids (t : Pt) : t.size = 1 + (t.kids.map Pt.size).sum := by cases t <;> simp [Pt.kids, Pt.size] <;> omega
theorem Pt.depth_pos (t : Pt) : 1 ≤ t.depth := by cases t <;> simp [Pt.depth]
theorem Pt.size_pos (t : Pt) : 1 ≤ t.size := by cases t <;> simp [Pt.size] <;> omega
theorem Pt.depth_le : ∀ t : Pt, t.depth ≤ t.size
  | .var _ => by simp [Pt.depth, Pt.size]
  | .lam _ t => by have := t.depth_le; simp only [Pt.depth, Pt.size]; omega
  | .app _ a b => by have := a.depth_le; have := b.depth_le; simp only [Pt.depth, Pt.size]; omega
theorem kid_at {ks : List Pt} {i : Nat} (h : i < ks.length) : ∃ x, ks[i]? = some x ∧ x ∈ ks ∧ (ks.map Pt.d)[i]? = some (T x.kd x.num (x.kids.map Pt.d)) := by
  have hx := List.getElem?_eq_getElem h
  exact ⟨ks[i], hx, List.getElem_mem h, by rw [List.getElem?_map, hx, ← Pt.d_eq]; rfl⟩
theorem sum_le {ks : List Pt} (i : Nat) : ((ks.take i).map Pt.size).sum ≤ (ks.map Pt.size).sum := by
  conv => rhs; rw [← List.take_append_drop i ks, List.map_append, List.sum_append]
  omega
theorem ev_size : ∀ (d : Nat) (t : Pt), t.depth ≤ d → t.size ≤ 1000000000000 → EvN (d + 5) 71 [.dat t.d] [] [] ([.dat (I t.size)], [], [])
  | 0, t, hd, hz => by have := t.depth_pos; omega
  | d + 1, t, hd, hz => by
    refine ev_fn Go.Proofs.Try.f71 (d + 5) (by kernel_rfl) (by kernel_rfl) fun kk hkk => ?_
    rw [Pt.d_eq]
    refine size kk _ _ _ _ ?_
    have hle := t.kids_le
    have hsz := t.size_kids
    let st := fun i : Nat => hd99 (t.kids.map Pt.d) ((1 + ((t.kids.take i).map Pt.size).sum : Nat) : Int) i
    refine loopAt_range st t.kids.length (by omega) (fun i hi m s K hs hn => ?_) (fun m s K hs hK => ?_) (by simp [st])
    · obtain ⟨x, h1, h2, h3⟩ := kid_at hi
      have hx := Pt.kids_lt h2
      have hev := ev_size d x (by omega) (by omega) kk (by omega)
      rw [Pt.d_eq] at hev
      have hto : ((i : Int)).toNat = i := by simp
      refine size_go kk m _ _ _ x.kd x.num x.size _ hs (decide_eq_true (by simp; omega)) ⟨⟨by omega, by simp; omega⟩, by rw [hto]; exact h3⟩ hev fun s' hs' => hn s' ?_
      have hb := sum_le (ks := t.kids) i
      have hb2 := sum_le (ks := t.kids) (i + 1)
      have hstep : ((t.kids.take (i + 1)).map Pt.size).sum = ((t.kids.take i).map Pt.size).sum + x.size := by
        rw [List.take_add_one, h1]
        simp
      rw [hs', w64_eq (n := (i : Int) + 1) (by omega), w64_eq (by omega)]
      simp only [st, hd99, hstep]
      congr 4
      · congr 1; omega
    · have hs' : s.norm _ = hd99 (t.kids.map Pt.d) ((1 + ((t.kids.take t.kids.length).map Pt.size).sum : Nat) : Int) t.kids.length := hs
      rw [List.take_length, ← hsz] at hs'
      exact size_end kk m _ _ _ hs' (decide_eq_false (by simp)) hK
def maxd : List Pt → Nat
  | [] => 0
  | t :: ts => max t.depth (maxd ts)
theorem maxd_append : ∀ a b : List Pt, maxd (a ++ b) = max (maxd a) (maxd b)
  | [], b => by simp [maxd]
  | t :: a, b => by simp only [List.cons_append, maxd, maxd_append a b]; omega
theorem Pt.depth_kids (t : Pt) : t.depth = maxd t.kids + 1 := by cases t <;> simp [Pt.kids, Pt.depth, maxd]
theorem ev_depth : ∀ (d : Nat) (t : Pt), t.depth ≤ d → t.size ≤ 1000000000000 → EvN (d + 5) 99 [.dat t.d] [] [] ([.dat (I t.depth)], [], [])
  | 0, t, hd, hz => by have := t.depth_pos; omega
  | d + 1, t, hd, hz => by
    refine ev_fn Go.Proofs.Try.f99 (d + 5) (by kernel_rfl) (by kernel_rfl) fun kk hkk => ?_
    have hdle := t.depth_le
    have hdk := t.depth_kids
    have hfin : w64 ((maxd t.kids : Nat) + 1) = t.depth := (w64_eq (by omega)).trans (by omega)
    rw [← hfin, Pt.d_eq]
    refine depth kk _ _ _ _ ?_
    have hle := t.kids_le
    let st := fun i : Nat => hd99 (t.kids.map Pt.d) (maxd (t.kids.take i) : Nat) i
    refine loopAt_range st t.kids.length (by omega) (fun i hi m s K hs hn => ?_) (fun m s K hs hK => ?_) (by simp [st, maxd])
    · obtain ⟨x, h1, h2, h3⟩ := kid_at hi
      have hx := Pt.kids_lt h2
      have hev := ev_depth d x (by omega) (by omega) kk (by omega)
      rw [Pt.d_eq] at hev
      have hto : ((i : Int)).toNat = i := by simp
      refine depth_go kk m _ _ _ x.kd x.num x.depth _ hs (decide_eq_true (by simp; omega)) ⟨⟨by omega, by simp; omega⟩, by rw [hto]; exact h3⟩ hev fun s' hs' => hn s' ?_
      have hstep : maxd (t.kids.take (i + 1)) = max (maxd (t.kids.take i)) x.depth := by
        rw [List.take_add_one, h1, maxd_append]
        simp [maxd]
      rw [hs', w64_eq (n := (i : Int) + 1) (by omega)]
      simp only [st, hd99, hstep]
      congr 4
      · congr 1
        split <;> omega
    · have hs' : s.norm _ = hd99 (t.kids.map Pt.d) (maxd (t.kids.take t.kids.length) : Nat) t.kids.length := hs
      rw [List.take_length] at hs'
      exact depth_end kk m _ _ _ hs' (decide_eq_false (by simp)) hK
theorem first_bad {α : Type} (p : α → Bool) : ∀ {ks : List α}, ks.all p = false → ∃ (j : Nat) (x : α), ks[j]? = some x ∧ p x = false ∧ ∀ i y, i < j → ks[i]? = some y → p y = true
  | [], h => by cases h
  | y :: ks, h => by
    cases hy : p y with
    | false => exact ⟨0, y, rfl, hy, fun i y hi => by omega⟩
    | true =>
      rw [List.all_cons, hy, Bool.true_and] at h
      obtain ⟨j, x, h1, h2, h3⟩ := first_bad p h
      refine ⟨j + 1, x, by simpa using h1, h2, fun i z hi hz => ?_⟩
      cases i with
      | zero => simp at hz; rw [← hz]; exact hy
      | succ i => exact h3 i z (by omega) (by simpa using hz)
def Pt.own : Pt → Bool
  | .var n => decide (0 ≤ n) && decide (n ≤ 99)
  | .lam n _ => decide (n = 0)
  | .app n _ _ => decide (n = 0)
theorem Pt.nums_kids (t : Pt) : t.nums = (t.own && t.kids.all Pt.nums) := by
  cases t <;> simp [Pt.nums, Pt.kids, Pt.own]
theorem ev_nums : ∀ (d : Nat) (t : Pt), t.depth ≤ d → EvN (4 * d + 5) 100 [.dat t.d] [] [] ([.dat (B t.nums)], [], [])
  | 0, t, hd => by have := t.depth_pos; omega
  | d + 1, t, hd => by
    have hle := t.kids_le
    have hkid : ∀ x ∈ t.kids, EvN (4 * d + 6) 106 [.dat x.d] [] [] ([.dat (B !x.nums)], [], []) := fun x hx => by
      refine ev_fn Go.Proofs.Try.f106 (4 * d + 5) (by kernel_rfl) (by kernel_rfl) fun kk hkk => ?_
      have := ev_nums d x (by have := Pt.kids_lt hx; omega) kk (by omega)
      rw [Pt.d_eq] at this ⊢
      exact areNumbers1 kk _ _ _ _ this
    have hidx : ∃ j : Int, EvN (4 * d + 7) 118 [.dat (.lst false (t.kids.map Pt.d)), .fn 106 []] [] [] ([.dat (I j)], [], []) ∧ decide (0 ≤ j) = !(t.kids.all Pt.nums) := by
      cases hall : t.kids.all Pt.nums with
      | true =>
        refine ⟨-1, ev_fn Go.Proofs.Try.f118 (4 * d + 6) (by kernel_rfl) (by kernel_rfl) fun kk hkk => ?_, rfl⟩
        refine index_n kk _ ?_
        refine loopAt_range (fun i => hd132 (t.kids.map Pt.d) i) t.kids.length (by omega) (fun i hi m s K hs hn => ?_) (fun m s K hs hK => ?_) rfl
        · obtain ⟨x, h1, h2, h3⟩ := kid_at hi
          have hto : ((i : Int)).toNat = i := by simp
          have hev := hkid x h2 kk (by omega)
          rw [Pt.d_eq, (List.all_eq_true.1 hall) x h2] at hev
          refine index_go kk m _ _ _ _ _ hs (decide_eq_true (by simp; omega)) ⟨⟨by omega, by simp; omega⟩, by rw [hto]; exact h3⟩ hev fun s' hs' => hn s' ?_
          rw [hs', w64_eq (n := (i : Int) + 1) (by omega)]
          rfl
        · exact index_end kk m _ _ hs (decide_eq_false (by simp)) hK
      | false =>
        obtain ⟨j, x, h1, h2, h3⟩ := first_bad Pt.nums hall
        have hj := (List.getElem?_eq_some_iff.1 h1).1
        refine ⟨j, ev_fn Go.Proofs.Try.f118 (4 * d + 6) (by kernel_rfl) (by kernel_rfl) fun kk hkk => ?_, by simp⟩
        refine index_y kk _ _ ?_
        refine loopAt_range (fun i => hd132 (t.kids.map Pt.d) i) j (by omega) (fun i hi m s K hs hn => ?_) (fun m s K hs hK => ?_) rfl
        · obtain ⟨y, h4, h5, h6⟩ := kid_at (ks := t.kids) (i := i) (by omega)
          have hto : ((i : Int)).toNat = i := by simp
          have hev := hkid y h5 kk (by omega)
          rw [Pt.d_eq, h3 i y hi h4] at hev
          refine index_go kk m _ _ _ _ _ hs (decide_eq_true (by simp; omega)) ⟨⟨by omega, by simp; omega⟩, by rw [hto]; exact h6⟩ hev fun s' hs' => hn s' ?_
          rw [hs', w64_eq (n := (i : Int) + 1) (by omega)]
          rfl
        · obtain ⟨y, h4, h5, h6⟩ := kid_at (ks := t.kids) (i := j) (by omega)
          rw [h1] at h4
          cases h4
          have hto : ((j : Int)).toNat = j := by simp
          have hev := hkid x h5 kk (by omega)
          rw [Pt.d_eq, h2] at hev
          exact index_hit kk m _ _ _ _ _ hs (decide_eq_true (by simp; omega)) ⟨⟨by omega, by simp; omega⟩, by rw [hto]; exact h6⟩ hev hK
    obtain ⟨j, hj, hjb⟩ := hidx
    have hcon : EvN (4 * d + 8) 105 [.dat (.lst false (t.kids.map Pt.d)), .fn 106 []] [] [] ([.dat (B (!(t.kids.all Pt.nums)))], [], []) := by
      refine ev_fn Go.Proofs.Try.f105 (4 * d + 7) (by kernel_rfl) (by kernel_rfl) fun kk hkk => ?_
      rw [← hjb]
      exact contains kk _ j (hj kk (by omega))
    refine ev_fn Go.Proofs.Try.f100 (4 * d + 8) (by kernel_rfl) (by kernel_rfl) fun kk hkk => ?_
    have hc := hcon kk (by omega)
    rw [Pt.nums_kids, Pt.d_eq]
    by_cases h1 : t.num < 0
    · rw [areNumbers_neg kk _ _ _ (decide_eq_true h1)]
      have : t.own = false := by
        cases t <;> simp only [Pt.num] at h1 <;> simp [Pt.own] <;> omega
      rw [this, Bool.false_and]
    · by_cases h2 : 99 < t.num
      · rw [areNumbers_big kk _ _ _ (decide_eq_false h1) (decide_eq_true h2)]
        have : t.own = false := by
          cases t <;> simp only [Pt.num] at h2 <;> simp [Pt.own] <;> omega
        rw [this, Bool.false_and]
      · cases t with
        | var n =>
          have h3 : decide (0 ≤ n) = true := decide_eq_true (by simp only [Pt.num] at h1; omega)
          have h4 : decide (n ≤ 99) = true := decide_eq_true (by simp only [Pt.num] at h2; omega)
          rw [areNumbers_ok1 kk _ _ _ _ (decide_eq_false h1) (decide_eq_false h2) rfl hc]
          simp [Pt.own, h3, h4]
        | lam n x =>
          by_cases h5 : n = 0
          · rw [areNumbers_ok0 kk _ _ _ _ (decide_eq_false h1) (decide_eq_false h2) rfl (by simp [Pt.num, h5]) hc]
            simp [Pt.own, h5]
          · rw [areNumbers_lam kk _ _ _ (decide_eq_false h1) (decide_eq_false h2) rfl (by simp [Pt.num, h5])]
            simp [Pt.own, h5]
        | app n x y =>
          by_cases h5 : n = 0
          · rw [areNumbers_ok0 kk _ _ _ _ (decide_eq_false h1) (decide_eq_false h2) rfl (by simp [Pt.num, h5]) hc]
            simp [Pt.own, h5]
          · rw [areNumbers_lam kk _ _ _ (decide_eq_false h1) (decide_eq_false h2) rfl (by simp [Pt.num, h5])]
            simp [Pt.own, h5]
/-- 'isGood'. -/
theorem ev_good (t : Pt) (hz : t.size ≤ 1000000000000) (d : Nat) (hd : t.depth ≤ d) : EvN (4 * d + 7) 69 [.dat t.d] [] [] ([.dat (B t.good)], [], []) := by
  refine ev_fn Go.Proofs.Try.f69 (4 * d + 6) (by kernel_rfl) (by kernel_rfl) fun kk hkk => ?_
  have h1 := ev_size d t hd hz kk (by omega)
  have h2 := ev_depth d t hd hz kk (by omega)
  have h3 := ev_nums d t hd kk (by omega)
  rw [Pt.d_eq] at h1 h2 h3 ⊢
  unfold Pt.good
  by_cases a1 : t.size ≤ 150
  · by_cases a2 : t.depth ≤ 40
    · rw [isGood_go kk _ _ _ _ _ _ h1 (decide_eq_true (by omega)) h2 (decide_eq_true (by omega)) h3]
      simp [a1, a2]
    · rw [isGood_deep kk _ _ _ _ _ h1 (decide_eq_true (by omega)) h2 (decide_eq_false (by omega))]
      simp [a1, a2]
  · rw [isGood_big kk _ _ _ _ h1 (decide_eq_false (by omega))]
    simp [a1]
end Go.Den
namespace Go.Den
open Go
set_option linter.unusedVariables false
set_option maxRecDepth 100000
/-- The term whose node stands at a place, and what stands behind it. -/
def parse (L : List Nd) : Nat → Nat → Int → Option (Pt × Nat)
  | 0, _, _ => none
  | f + 1, at_, up => (L[at_]?).bind fun x =>
    if x.u = up then
      if x.k = 1 then some (.var x.n, at_ + 1)
      else if x.k = 2 then (parse L f (at_ + 1) at_).map fun r => (.lam x.n r.1, r.2)
      else if x.k = 3 then (parse L f (at_ + 1) at_).bind fun r => (parse L f r.2 at_).map fun q => (.app x.n r.1 q.1, q.2)
      else none
    else none
/-- The nodes of a term, that stand from a place on. -/
def Pt.flat : Pt → Nat → Int → List Nd
  | .var n, _, up => [⟨1, n, up⟩]
  | .lam n t, at_, up => ⟨2, n, up⟩ :: t.flat (at_ + 1) at_
  | .app n a b, at_, up => ⟨3, n, up⟩ :: (a.flat (at_ + 1) at_ ++ b.flat (at_ + 1 + a.size) at_)
theorem Pt.flat_length : ∀ (t : Pt) (at_ : Nat) (up : Int), (t.flat at_ up).length = t.size
  | .var n, _, up => rfl
  | .lam n t, at_, up => by simp only [Pt.flat, Pt.size, List.length_cons, t.flat_length]; omega
  | .app n a b, at_, up => by simp only [Pt.flat, Pt.size, List.length_cons, List.length_append, a.flat_length, b.flat_length]; omega
theorem drop_cons {α : Type} {L : List α} {i : Nat} {x : α} (h : L[i]? = some x) : L.drop i = x :: L.drop (i + 1) := by
  obtain ⟨hl, rfl⟩ := List.getElem?_eq_some_iff.1 h
  exact List.drop_eq_getElem_cons hl
/-- What is read is what stands there. -/
theorem parse_sound (L : List Nd) : ∀ (f at_ : Nat) (up : Int) (t : Pt) (nx : Nat), parse L f at_ up = some (t, nx) → L.drop at_ = t.flat at_ up ++ L.drop nx ∧ nx = at_ + t.size ∧ nx ≤ L.length
  | 0, at_, up, t, nx, h => by cases h
  | f + 1, at_, up, t, nx, h => by
    simp only [parse, Option.bind_eq_some_iff] at h
    obtain ⟨⟨k, n, u⟩, hx, h⟩ := h
    have hlt := (List.getElem?_eq_some_iff.1 hx).1
    simp only at h
    split at h
    · rename_i hu
      subst hu
      have hd := drop_cons hx
      split at h
      · rename_i hk
        cases h
        subst hk
        exact ⟨by rw [hd]; rfl, rfl, by omega⟩
      · split at h
        · rename_i hk
          simp only [Option.map_eq_some_iff, Prod.mk.injEq] at h
          obtain ⟨⟨t', nx'⟩, hp, rfl, rfl⟩ := h
          obtain ⟨h1, h2, h3⟩ := parse_sound L f _ _ _ _ hp
          subst hk
          exact ⟨by rw [hd, h1]; rfl, by simp only [Pt.size]; omega, h3⟩
        · split at h
          · rename_i hk
            simp only [Option.bind_eq_some_iff, Option.map_eq_some_iff, Prod.mk.injEq] at h
            obtain ⟨⟨a, n1⟩, hp, ⟨b, n2⟩, hq, rfl, rfl⟩ := h
            obtain ⟨h1, h2, h3⟩ := parse_sound L f _ _ _ _ hp
            obtain ⟨h4, h5, h6⟩ := parse_sound L f _ _ _ _ hq
            subst hk
            simp only at h2 h4
            refine ⟨?_, by simp only [Pt.size]; omega, h6⟩
            rw [hd, h1, h4, h2]
            simp [Pt.flat]
          · cases h
    · cases h
theorem get_drop {α : Type} {L : List α} {i : Nat} {x : α} {l : List α} (h : L.drop i = x :: l) : L[i]? = some x ∧ L.drop (i + 1) = l := by
  have h1 : (L.drop i)[0]? = some x := by rw [h]; rfl
  rw [List.getElem?_drop] at h1
  have h1 : L[i]? = some x := h1
  refine ⟨h1, ?_⟩
  have := drop_cons h1
  rw [h] at this
  injection this with _ this
  exact this.symm
theorem drop_add {α : Type} {L a b : List α} {i n : Nat} (h : L.drop i = a ++ b) (hn : a.length = n) : L.drop (i + n) = b := by
  rw [← List.drop_drop, h, ← hn, List.drop_left]
/-- What stands there is read. -/
theorem parse_flat (L : List Nd) : ∀ (t : Pt) (f at_ : Nat) (up : Int) (rest : List Nd), L.drop at_ = t.flat at_ up ++ rest → t.size ≤ f → parse L f at_ up = some (t, at_ + t.size)
  | t, 0, at_, up, rest, h, hf => by have := t.size_pos; omega
  | .var n, f + 1, at_, up, rest, h, hf => by
    obtain ⟨h1, h2⟩ := get_drop h
    simp only [parse, h1, Option.bind_some, if_true]
    rfl
  | .lam n t, f + 1, at_, up, rest, h, hf => by
    obtain ⟨h1, h2⟩ := get_drop h
    have := parse_flat L t f (at_ + 1) at_ rest h2 (by simp only [Pt.size] at hf; omega)
    simp only [parse, h1, Option.bind_some, if_true, this, Option.map_some]
    simp only [Pt.size]
    rw [if_neg (by decide), Nat.add_assoc]
  | .app n a b, f + 1, at_, up, rest, h, hf => by
    have h' : L.drop at_ = ⟨3, n, up⟩ :: (a.flat (at_ + 1) at_ ++ (b.flat (at_ + 1 + a.size) at_ ++ rest)) := by rw [h]; simp [Pt.flat]
    obtain ⟨h1, h2⟩ := get_drop h'
    have e1 := parse_flat L a f (at_ + 1) at_ _ h2 (by simp only [Pt.size] at hf; omega)
    have h3 := drop_add h2 (a.flat_length _ _)
    have e2 := parse_flat L b f (at_ + 1 + a.size) at_ rest h3 (by simp only [Pt.size] at hf; omega)
    simp only [parse, h1, Option.bind_some, if_true, e1, e2, Option.map_some]
    simp only [Pt.size]
    rw [if_neg (by decide), if_neg (by decide)]
    congr 2
    omega
/-- The term that nodes tell, if it is good. -/
def termOfP (L : List Nd) : Option Pt :=
  if 1 ≤ L.length ∧ L.length ≤ 150 then (parse L (L.length + 1) 0 (-1)).bind fun r => if r.2 = L.length ∧ r.1.good = true then some r.1 else none else none
theorem termOfP_iff (L : List Nd) (t : Pt) : termOfP L = some t ↔ t.good = true ∧ L = t.flat 0 (-1) := by
  unfold termOfP
  constructor
  · intro h
    split at h
    · simp only [Option.bind_eq_some_iff] at h
      obtain ⟨⟨t', nx⟩, hp, h⟩ := h
      simp only at h
      split at h
      · rename_i hc
        cases h
        obtain ⟨h1, h2, h3⟩ := parse_sound L _ _ _ _ _ hp
        refine ⟨hc.2, ?_⟩
        rw [hc.1, List.drop_length, List.append_nil] at h1
        exact h1
      · cases h
    · cases h
  · rintro ⟨hg, hL⟩
    have hlen : L.length = t.size := by rw [hL, t.flat_length]
    have hsz : t.size ≤ 150 := by
      unfold Pt.good at hg
      simp only [Bool.and_eq_true, decide_eq_true_eq] at hg
      exact hg.1
    have hpos := t.size_pos
    have := parse_flat L t (L.length + 1) 0 (-1) [] (by rw [List.drop_zero, List.append_nil]; exact hL) (by omega)
    rw [if_pos (by omega), this]
    simp only [Option.bind_some]
    rw [if_pos ⟨by omega, hg⟩]
theorem nd_at {L : List Nd} {i : Nat} {x : Nd} (h : L[i]? = some x) : (0 ≤ (i : Int) ∧ (i : Int) < ((L.map Nd.d).length : Int)) ∧ (L.map Nd.d)[(i : Int).toNat]? = some (N3 x.k x.n x.u) := by
  have hlt := (List.getElem?_eq_some_iff.1 h).1
  refine ⟨⟨by omega, by simp; omega⟩, ?_⟩
  rw [show (i : Int).toNat = i by simp, List.getElem?_map, h]
  rfl
/-- 'termAt'. -/
theorem ev_termAt (L : List Nd) (b : Bool) (hL : L.length ≤ 1000) : ∀ (f at_ : Nat) (up : Int), at_ ≤ L.length → L.length < at_ + f →
    (∀ t nx, parse L f at_ up = some (t, nx) → EvN (f + 10) 68 [.dat (.lst b (L.map Nd.d)), .dat (I at_), .dat (I up)] [] [] ([.dat t.d, .dat (I nx), .dat (B true)], [], [])) ∧
    (parse L f at_ up = none → ∃ (k n v : Int) (ds : List Dat), EvN (f + 10) 68 [.dat (.lst b (L.map Nd.d)), .dat (I at_), .dat (I up)] [] [] ([.dat (T k n ds), .dat (I v), .dat (B false)], [], []))
  | 0, at_, up, h1, h2 => by omega
  | f + 1, at_, up, h1, h2 => by
    have hlen : ((L.map Nd.d).length : Int) = L.length := by simp
    by_cases hend : at_ = L.length
    · refine ⟨fun t nx h => ?_, fun _ => ⟨0, 0, 0, [], ?_⟩⟩
      · simp only [parse, Option.bind_eq_some_iff] at h
        obtain ⟨x, hx, _⟩ := h
        have := (List.getElem?_eq_some_iff.1 hx).1
        omega
      · exact ev_fn Go.Proofs.Try.f68 (f + 10) (by kernel_rfl) (by kernel_rfl) fun kk _ => termAt_end kk b _ at_ up (decide_eq_true (by rw [hlen, hend]))
    · obtain ⟨x, hx⟩ : ∃ x, L[at_]? = some x := ⟨_, List.getElem?_eq_getElem (by omega)⟩
      have hx3 := nd_at hx
      have hne : decide ((at_ : Int) = ((L.map Nd.d).length : Int)) = false := decide_eq_false (by omega)
      have hpar : parse L (f + 1) at_ up = (if x.u = up then
          if x.k = 1 then some (.var x.n, at_ + 1)
          else if x.k = 2 then (parse L f (at_ + 1) at_).map fun r => (.lam x.n r.1, r.2)
          else if x.k = 3 then (parse L f (at_ + 1) at_).bind fun r => (parse L f r.2 at_).map fun q => (.app x.n r.1 q.1, q.2)
          else none
        else none) := by simp only [parse, hx, Option.bind_some]
      rw [hpar]
      have hw1 : w64 ((at_ : Int) + 1) = ((at_ + 1 : Nat) : Int) := (w64_eq (by omega)).trans (by omega)
      by_cases hu : x.u = up
      · rw [if_pos hu]
        have hub : (!decide (x.u = up)) = false := by simp [hu]
        by_cases hk1 : x.k < 1
        · rw [if_neg (by omega), if_neg (by omega), if_neg (by omega)]
          refine ⟨fun t nx h => (by cases h), fun _ => ⟨0, 0, 0, [], ?_⟩⟩
          exact ev_fn Go.Proofs.Try.f68 (f + 10) (by kernel_rfl) (by kernel_rfl) fun kk _ => termAt_lo kk b _ at_ up x.k x.n x.u hne hx3 hub hx3 (decide_eq_true hk1)
        · by_cases hk3 : 3 < x.k
          · rw [if_neg (by omega), if_neg (by omega), if_neg (by omega)]
            refine ⟨fun t nx h => (by cases h), fun _ => ⟨0, 0, 0, [], ?_⟩⟩
            exact ev_fn Go.Proofs.Try.f68 (f + 10) (by kernel_rfl) (by kernel_rfl) fun kk _ => termAt_hi kk b _ at_ up x.k x.n x.u hne hx3 hub hx3 (decide_eq_false hk1) hx3 (decide_eq_true hk3)
          · have hlo := decide_eq_false hk1
            have hhi := decide_eq_false hk3
            have hyes := fun kk nx out => termAt_y kk b (L.map Nd.d) at_ up x.k x.n x.u nx out hne hx3 hub hx3 hlo hx3 hhi hx3 hx3
            have hno := fun kk nx out => termAt_n kk b (L.map Nd.d) at_ up x.k x.n x.u nx out hne hx3 hub hx3 hlo hx3 hhi hx3 hx3
            rw [hw1] at hyes hno
            obtain ⟨hy1, hn1⟩ := ev_termAt L b hL f (at_ + 1) at_ (by omega) (by omega)
            rcases (show x.k = 1 ∨ x.k = 2 ∨ x.k = 3 by omega) with hk | hk | hk
            · -- a variable
              rw [if_pos hk]
              refine ⟨fun t nx h => ?_, fun h => by cases h⟩
              cases h
              refine ev_fn Go.Proofs.Try.f68 (f + 10) (by kernel_rfl) (by kernel_rfl) fun kk hkk => ?_
              have := hyes kk ((at_ + 1 : Nat) : Int) [] (loopOb_of fun s hs => by
                obtain ⟨m, rfl⟩ : ∃ m, kk = m + 1 := ⟨kk - 1, by omega⟩
                exact termAt_done _ m b _ at_ up x.k x.n [] _ _ _ hs (decide_eq_false (by rw [hk]; decide)) ⟨rfl, rfl⟩)
              rw [this, hk]
              rfl
            · -- a lambda
              rw [if_neg (by omega), if_pos hk]
              have hm : w64 (x.k - 1) = 1 := by rw [hk]; rfl
              rw [hm] at hyes hno
              cases hp : parse L f (at_ + 1) at_ with
              | none =>
                refine ⟨fun t nx h => (by cases h), fun _ => ⟨0, 0, 0, [], ?_⟩⟩
                obtain ⟨k', n', v', ds', hev⟩ := hn1 hp
                refine ev_fn Go.Proofs.Try.f68 (f + 10) (by kernel_rfl) (by kernel_rfl) fun kk hkk => ?_
                refine hno kk ((at_ + 1 : Nat) : Int) [] (loopOb_of fun s hs => ?_)
                obtain ⟨m, hm'⟩ : ∃ m, kk = m + 1 := ⟨kk - 1, by omega⟩
                conv => arg 4; rw [hm']
                exact termAt_bad kk m b _ at_ up x.k x.n [] _ _ _ k' n' v' ds' hs rfl (hev kk (by omega)) ⟨rfl, rfl⟩
              | some r =>
                obtain ⟨a, n1⟩ := r
                refine ⟨fun t nx h => ?_, fun h => by cases h⟩
                cases h
                have hev := hy1 a n1 hp
                refine ev_fn Go.Proofs.Try.f68 (f + 10) (by kernel_rfl) (by kernel_rfl) fun kk hkk => ?_
                have := hyes kk n1 [a.d] (loopOb_of fun s hs => by
                  obtain ⟨m, hm'⟩ : ∃ m, kk = m + 2 := ⟨kk - 2, by omega⟩
                  have he := hev kk (by omega)
                  rw [Pt.d_eq] at he
                  conv => arg 4; rw [hm']
                  refine termAt_go kk (m + 1) b _ at_ up x.k x.n [] _ _ _ a.kd a.num n1 _ hs rfl he (by simp) fun s' hs' => ?_
                  refine termAt_done kk m b _ at_ up x.k x.n [a.d] _ 1 1 (by rw [hs', Pt.d_eq a]; rfl) rfl ⟨rfl, rfl⟩)
                rw [this, hk]
                rfl
            · -- an application
              rw [if_neg (by omega), if_neg (by omega), if_pos hk]
              have hm : w64 (x.k - 1) = 2 := by rw [hk]; rfl
              rw [hm] at hyes hno
              cases hp : parse L f (at_ + 1) at_ with
              | none =>
                refine ⟨fun t nx h => (by cases h), fun _ => ⟨0, 0, 0, [], ?_⟩⟩
                obtain ⟨k', n', v', ds', hev⟩ := hn1 hp
                refine ev_fn Go.Proofs.Try.f68 (f + 10) (by kernel_rfl) (by kernel_rfl) fun kk hkk => ?_
                refine hno kk ((at_ + 1 : Nat) : Int) [] (loopOb_of fun s hs => ?_)
                obtain ⟨m, hm'⟩ : ∃ m, kk = m + 1 := ⟨kk - 1, by omega⟩
                conv => arg 4; rw [hm']
                exact termAt_bad kk m b _ at_ up x.k x.n [] _ _ _ k' n' v' ds' hs rfl (hev kk (by omega)) ⟨rfl, rfl⟩
              | some r =>
                obtain ⟨a, n1⟩ := r
                obtain ⟨_, hn1e, hn1l⟩ := parse_sound L _ _ _ _ _ hp
                have hpos := a.size_pos
                obtain ⟨hy2, hn2⟩ := ev_termAt L b hL f n1 at_ hn1l (by omega)
                have hev := hy1 a n1 hp
                simp only [Option.bind_some]
                cases hq : parse L f n1 at_ with
                | none =>
                  refine ⟨fun t nx h => (by cases h), fun _ => ⟨0, 0, 0, [], ?_⟩⟩
                  obtain ⟨k', n', v', ds', hev2⟩ := hn2 hq
                  refine ev_fn Go.Proofs.Try.f68 (f + 10) (by kernel_rfl) (by kernel_rfl) fun kk hkk => ?_
                  refine hno kk n1 [a.d] (loopOb_of fun s hs => ?_)
                  obtain ⟨m, hm'⟩ : ∃ m, kk = m + 2 := ⟨kk - 2, by omega⟩
                  have he := hev kk (by omega)
                  rw [Pt.d_eq] at he
                  conv => arg 4; rw [hm']
                  refine termAt_go kk (m + 1) b _ at_ up x.k x.n [] _ _ _ a.kd a.num n1 _ hs rfl he (by simp) fun s' hs' => ?_
                  exact termAt_bad kk m b _ at_ up x.k x.n [a.d] n1 2 1 k' n' v' ds' (by rw [hs', Pt.d_eq a]; rfl) rfl (hev2 kk (by omega)) ⟨rfl, rfl⟩
                | some q =>
                  obtain ⟨c, n2⟩ := q
                  refine ⟨fun t nx h => ?_, fun h => by cases h⟩
                  cases h
                  have hev2 := hy2 c n2 hq
                  refine ev_fn Go.Proofs.Try.f68 (f + 10) (by kernel_rfl) (by kernel_rfl) fun kk hkk => ?_
                  have := hyes kk n2 [a.d, c.d] (loopOb_of fun s hs => by
                    obtain ⟨m, hm'⟩ : ∃ m, kk = m + 3 := ⟨kk - 3, by omega⟩
                    have he := hev kk (by omega)
                    have he2 := hev2 kk (by omega)
                    rw [Pt.d_eq] at he he2
                    conv => arg 4; rw [hm']
                    refine termAt_go kk (m + 2) b _ at_ up x.k x.n [] _ _ _ a.kd a.num n1 _ hs rfl he (by simp) fun s' hs' => ?_
                    refine termAt_go kk (m + 1) b _ at_ up x.k x.n [a.d] n1 2 1 c.kd c.num n2 _ (by rw [hs', Pt.d_eq a]; rfl) rfl he2 (by simp) fun s2 hs2 => ?_
                    exact termAt_done kk m b _ at_ up x.k x.n [a.d, c.d] n2 2 2 (by rw [hs2, Pt.d_eq c]; rfl) rfl ⟨rfl, rfl⟩)
                  rw [this, hk]
                  rfl
      · rw [if_neg hu]
        refine ⟨fun t nx h => (by cases h), fun _ => ⟨0, 0, 0, [], ?_⟩⟩
        exact ev_fn Go.Proofs.Try.f68 (f + 10) (by kernel_rfl) (by kernel_rfl) fun kk _ => termAt_up kk b _ at_ up x.k x.n x.u hne hx3 (by simp [hu])
end Go.Den
namespace Go.Den
open Go
set_option linter.unusedVariables false
set_option maxRecDepth 100000
/-- Free variables from g on, moved. -/
def sh (b : Int) : Int → Pt → Pt
  | g, .var n => if g ≤ n then .var (n + b) else .var n
  | g, .lam _ t => .lam 0 (sh b (g + 1) t)
  | g, .app _ x y => .app 0 (sh b g x) (sh b g y)
/-- A term put in for a variable, under so many lambdas. -/
def sub (k : Int) (s : Pt) : Int → Pt → Pt
  | u, .var n => if n = k + u then sh u 0 s else if k + u < n then .var (n - 1) else .var n
  | u, .lam _ t => .lam 0 (sub k s (u + 1) t)
  | u, .app _ x y => .app 0 (sub k s u x) (sub k s u y)
/-- All indices are small. -/
def Pt.within (M : Int) : Pt → Prop
  | .var n => -M ≤ n ∧ n ≤ M
  | .lam _ t => t.within M
  | .app _ a b => a.within M ∧ b.within M
theorem nums_within : ∀ t : Pt, t.nums = true → t.within 99
  | .var n, h => by
    simp only [Pt.nums, Bool.and_eq_true, decide_eq_true_eq] at h
    exact ⟨by omega, h.2⟩
  | .lam n t, h => by
    simp only [Pt.nums, Bool.and_eq_true] at h
    exact nums_within t h.2
  | .app n a b, h => by
    simp only [Pt.nums, Bool.and_eq_true] at h
    exact ⟨nums_within a h.2.1, nums_within b h.2.2⟩
theorem ev_variable (n : Int) : EvN 1 81 [.dat (I n)] [] [] ([.dat (T 1 n [])], [], []) := ev_fn Go.Proofs.Try.f81 0 (by kernel_rfl) (by kernel_rfl) fun kk _ => variable_ kk n
theorem ev_lam (t : Pt) : EvN 1 74 [.dat t.d] [] [] ([.dat (Pt.lam 0 t).d], [], []) := by
  refine ev_fn Go.Proofs.Try.f74 0 (by kernel_rfl) (by kernel_rfl) fun kk _ => ?_
  have := lam kk t.kd t.num (t.kids.map Pt.d)
  rw [← Pt.d_eq] at this
  exact this
theorem ev_app (a b : Pt) : EvN 1 57 [.dat a.d, .dat b.d] [] [] ([.dat (Pt.app 0 a b).d], [], []) := by
  refine ev_fn Go.Proofs.Try.f57 0 (by kernel_rfl) (by kernel_rfl) fun kk _ => ?_
  rw [show (Pt.app 0 a b).d = T 3 0 [a.d, b.d] from rfl, Pt.d_eq a, Pt.d_eq b]
  exact app kk a.kd a.num b.kd b.num (a.kids.map Pt.d) (b.kids.map Pt.d)
theorem head_ok {x : Dat} {l : List Dat} {y : Dat} {i : Int} {j : Nat} (hi : i = j) (h : (x :: l)[j]? = some y) : ((0 : Int) ≤ i ∧ i < ((x :: l).length : Int)) ∧ some y = some y := by
  have := (List.getElem?_eq_some_iff.1 h).1
  exact ⟨⟨by omega, by omega⟩, rfl⟩
/-- 'put' with shift's function value. -/
theorem ev_putH (b f : Int) (hb : -1000000 ≤ b ∧ b ≤ 1000000) (hf : 0 ≤ f ∧ f ≤ 1000000) : ∀ (t : Pt) (a : Int), 0 ≤ a → a + t.depth ≤ 1000000 → t.within 1000000 →
    EvN (t.depth + 5) 79 [.dat t.d, .dat (I a), .fn 88 [.up 0, .up 1]] [[.dat (I f)], [.dat (I b)]] [] ([.dat (sh b (f + a) t).d], [[.dat (I f)], [.dat (I b)]], [])
  | .var n, a, h0, h1, h2 => by
    have h2 : -1000000 ≤ n ∧ n ≤ 1000000 := h2
    simp only [Pt.depth] at h1
    refine ev_fn Go.Proofs.Try.f79 5 (by kernel_rfl) (by kernel_rfl) fun kk hkk => ?_
    by_cases hn : a ≤ n
    · have hw : w64 (n - a) = n - a := w64_eq (by omega)
      have key : ∃ r, den cfg kk 88 [.dat (I (w64 (n - a))), .dat (I a), .ptr (.up 0) 0, .ptr (.up 1) 0] [[.dat (I f)], [.dat (I b)]] [] = some ([.dat (T 1 r [])], [[.dat (I f)], [.dat (I b)]], []) ∧ sh b (f + a) (.var n) = .var r := by
        rw [hw]
        by_cases hi : f ≤ n - a
        · refine ⟨n + b, ?_, by simp only [sh]; rw [if_pos (by omega)]⟩
          have e1 : w64 (n - a + b) = n - a + b := w64_eq (by omega)
          have e2 : w64 (n - a + b + a) = n + b := (w64_eq (by omega)).trans (by omega)
          have := ev_fn Go.Proofs.Try.f88 (args := [.dat (I (n - a)), .dat (I a), .ptr (.up 0) 0, .ptr (.up 1) 0]) (u := [[.dat (I f)], [.dat (I b)]]) (l := []) 1 (by kernel_rfl) (by kernel_rfl) fun k hk => shift1_hi k (n - a) a b f (decide_eq_true hi) (ev_variable _ k (by omega))
          rw [e1, e2] at this
          exact this kk (by omega)
        · refine ⟨n, ?_, by simp only [sh]; rw [if_neg (by omega)]⟩
          have e2 : w64 (n - a + a) = n := (w64_eq (by omega)).trans (by omega)
          have := ev_fn Go.Proofs.Try.f88 (args := [.dat (I (n - a)), .dat (I a), .ptr (.up 0) 0, .ptr (.up 1) 0]) (u := [[.dat (I f)], [.dat (I b)]]) (l := []) 1 (by kernel_rfl) (by kernel_rfl) fun k hk => shift1_lo k (n - a) a b f (decide_eq_false hi) (ev_variable _ k (by omega))
          rw [e2] at this
          exact this kk (by omega)
      obtain ⟨r, hr, he⟩ := key
      rw [he]
      exact put_var_h kk n a _ _ _ _ b f (decide_eq_true hn) hr
    · have he : sh b (f + a) (.var n) = .var n := by simp only [sh]; rw [if_neg (by omega)]
      rw [he]
      exact put_low_h kk n a _ b f (decide_eq_false hn)
  | .lam n t, a, h0, h1, h2 => by
    simp only [Pt.depth] at h1
    refine ev_fn Go.Proofs.Try.f79 (t.depth + 5) (by kernel_rfl) (by kernel_rfl) fun kk hkk => ?_
    have e1 : w64 (a + 1) = a + 1 := w64_eq (by omega)
    have ih := ev_putH b f hb hf t (a + 1) (by omega) (by omega) h2 kk (by omega)
    have hl := ev_lam (sh b (f + (a + 1)) t) kk (by omega)
    have he : sh b (f + a) (.lam n t) = .lam 0 (sh b (f + (a + 1)) t) := by simp only [sh]; rw [Int.add_assoc]
    rw [he]
    have := put_lam_h kk n a t.kd t.num (sh b (f + (a + 1)) t).kd (sh b (f + (a + 1)) t).num [] (t.kids.map Pt.d) ((sh b (f + (a + 1)) t).kids.map Pt.d) b f (head_ok (j := 0) rfl rfl)
    rw [← Pt.d_eq, ← Pt.d_eq, e1] at this
    exact this ih hl
  | .app n x y, a, h0, h1, h2 => by
    have h2 : x.within 1000000 ∧ y.within 1000000 := h2
    simp only [Pt.depth] at h1
    refine ev_fn Go.Proofs.Try.f79 (max x.depth y.depth + 5) (by kernel_rfl) (by kernel_rfl) fun kk hkk => ?_
    have ih1 := ev_putH b f hb hf x a h0 (by omega) h2.1 kk (by omega)
    have ih2 := ev_putH b f hb hf y a h0 (by omega) h2.2 kk (by omega)
    have hl := ev_app (sh b (f + a) x) (sh b (f + a) y) kk (by omega)
    have := put_app_h kk n a x.kd x.num y.kd y.num (sh b (f + a) x).kd (sh b (f + a) x).num (sh b (f + a) y).kd (sh b (f + a) y).num [] (x.kids.map Pt.d) (y.kids.map Pt.d) ((sh b (f + a) x).kids.map Pt.d) ((sh b (f + a) y).kids.map Pt.d) b f (head_ok (j := 0) rfl rfl) (head_ok (j := 1) rfl rfl)
    rw [← Pt.d_eq, ← Pt.d_eq, ← Pt.d_eq, ← Pt.d_eq] at this
    exact this ih1 ih2 hl
theorem ev_shift (t : Pt) (b f : Int) (hb : -1000000 ≤ b ∧ b ≤ 1000000) (hf : 0 ≤ f ∧ f ≤ 1000000) (hd : t.depth ≤ 1000000) (hw : t.within 1000000) : EvN (t.depth + 6) 49 [.dat t.d, .dat (I b), .dat (I f)] [] [] ([.dat (sh b f t).d], [], []) := by
  refine ev_fn Go.Proofs.Try.f49 (t.depth + 5) (by kernel_rfl) (by kernel_rfl) fun kk hkk => ?_
  have := ev_putH b f hb hf t 0 (by omega) (by omega) hw kk (by omega)
  rw [Int.add_zero] at this
  have h2 := shift kk t.kd t.num b f (sh b f t).kd (sh b f t).num (t.kids.map Pt.d) ((sh b f t).kids.map Pt.d)
  rw [← Pt.d_eq, ← Pt.d_eq] at h2
  exact h2 this
/-- 'put' with subst's function value. -/
theorem ev_putS (k : Int) (s : Pt) (hk : 0 ≤ k ∧ k ≤ 1000000) (hs : s.within 1000000) (hsd : s.depth ≤ 1000000) : ∀ (t : Pt) (a : Int), 0 ≤ a → a + t.depth ≤ 1000000 → t.within 1000000 →
    EvN (t.depth + (s.depth + 10)) 79 [.dat t.d, .dat (I a), .fn 80 [.up 1, .up 0]] [[.dat (I s.kd), .dat (I s.num), .dat (.lst false (s.kids.map Pt.d))], [.dat (I k)]] [] ([.dat (sub k s a t).d], [[.dat (I s.kd), .dat (I s.num), .dat (.lst false (s.kids.map Pt.d))], [.dat (I k)]], [])
  | .var n, a, h0, h1, h2 => by
    have h2 : -1000000 ≤ n ∧ n ≤ 1000000 := h2
    simp only [Pt.depth] at h1
    refine (ev_fn Go.Proofs.Try.f79 (s.depth + 10) (by kernel_rfl) (by kernel_rfl) fun kk hkk => ?_).mono (by simp only [Pt.depth]; omega)
    by_cases hn : a ≤ n
    · have hw : w64 (n - a) = n - a := w64_eq (by omega)
      have key : den cfg kk 80 [.dat (I (w64 (n - a))), .dat (I a), .ptr (.up 1) 0, .ptr (.up 0) 0] [[.dat (I s.kd), .dat (I s.num), .dat (.lst false (s.kids.map Pt.d))], [.dat (I k)]] [] = some ([.dat (sub k s a (.var n)).d], [[.dat (I s.kd), .dat (I s.num), .dat (.lst false (s.kids.map Pt.d))], [.dat (I k)]], []) := by
        rw [hw]
        by_cases hi : n - a = k
        · have he : sub k s a (.var n) = sh a 0 s := by simp only [sub]; rw [if_pos (by omega)]
          rw [he]
          refine ev_fn Go.Proofs.Try.f80 (args := [.dat (I (n - a)), .dat (I a), .ptr (.up 1) 0, .ptr (.up 0) 0]) (u := [[.dat (I s.kd), .dat (I s.num), .dat (.lst false (s.kids.map Pt.d))], [.dat (I k)]]) (l := []) (s.depth + 6) (by kernel_rfl) (by kernel_rfl) (fun j hj => ?_) kk (by omega)
          have hsh := ev_shift s a 0 (by omega) (by omega) hsd hs j (by omega)
          rw [Pt.d_eq s, Pt.d_eq (sh a 0 s)] at hsh
          have := subst1_hit j (n - a) a k s.kd s.num (s.kids.map Pt.d) (sh a 0 s).kd (sh a 0 s).num ((sh a 0 s).kids.map Pt.d) (decide_eq_true hi) hsh
          rw [← Pt.d_eq] at this
          exact this
        · by_cases hg : k < n - a
          · have he : sub k s a (.var n) = .var (n - 1) := by simp only [sub]; rw [if_neg (by omega), if_pos (by omega)]
            rw [he]
            have e1 : w64 (n - a - 1) = n - a - 1 := w64_eq (by omega)
            have e2 : w64 (n - a - 1 + a) = n - 1 := (w64_eq (by omega)).trans (by omega)
            have := ev_fn Go.Proofs.Try.f80 (args := [.dat (I (n - a)), .dat (I a), .ptr (.up 1) 0, .ptr (.up 0) 0]) (u := [[.dat (I s.kd), .dat (I s.num), .dat (.lst false (s.kids.map Pt.d))], [.dat (I k)]]) (l := []) 1 (by kernel_rfl) (by kernel_rfl) fun j hj => subst1_hi j (n - a) a k s.kd s.num (s.kids.map Pt.d) (decide_eq_false hi) (decide_eq_true hg) (ev_variable _ j (by omega))
            rw [e1, e2] at this
            exact this kk (by omega)
          · have he : sub k s a (.var n) = .var n := by simp only [sub]; rw [if_neg (by omega), if_neg (by omega)]
            rw [he]
            have e2 : w64 (n - a + a) = n := (w64_eq (by omega)).trans (by omega)
            have := ev_fn Go.Proofs.Try.f80 (args := [.dat (I (n - a)), .dat (I a), .ptr (.up 1) 0, .ptr (.up 0) 0]) (u := [[.dat (I s.kd), .dat (I s.num), .dat (.lst false (s.kids.map Pt.d))], [.dat (I k)]]) (l := []) 1 (by kernel_rfl) (by kernel_rfl) fun j hj => subst1_lo j (n - a) a k s.kd s.num (s.kids.map Pt.d) (decide_eq_false hi) (decide_eq_false hg) (ev_variable _ j (by omega))
            rw [e2] at this
            exact this kk (by omega)
      rw [Pt.d_eq (sub k s a (.var n))] at key ⊢
      exact put_var_s kk n a _ _ _ _ k s.kd s.num _ (decide_eq_true hn) key
    · have he : sub k s a (.var n) = .var n := by simp only [sub]; rw [if_neg (by omega), if_neg (by omega)]
      rw [he]
      exact put_low_s kk n a _ k s.kd s.num _ (decide_eq_false hn)
  | .lam n t, a, h0, h1, h2 => by
    simp only [Pt.depth] at h1
    refine (ev_fn Go.Proofs.Try.f79 (t.depth + (s.depth + 10)) (by kernel_rfl) (by kernel_rfl) fun kk hkk => ?_).mono (by simp only [Pt.depth]; omega)
    have e1 : w64 (a + 1) = a + 1 := w64_eq (by omega)
    have ih := ev_putS k s hk hs hsd t (a + 1) (by omega) (by omega) h2 kk (by omega)
    have hl := ev_lam (sub k s (a + 1) t) kk (by omega)
    have := put_lam_s kk n a t.kd t.num (sub k s (a + 1) t).kd (sub k s (a + 1) t).num [] (t.kids.map Pt.d) ((sub k s (a + 1) t).kids.map Pt.d) k s.kd s.num (s.kids.map Pt.d) (head_ok (j := 0) rfl rfl)
    rw [← Pt.d_eq, ← Pt.d_eq, e1] at this
    exact this ih hl
  | .app n x y, a, h0, h1, h2 => by
    have h2 : x.within 1000000 ∧ y.within 1000000 := h2
    simp only [Pt.depth] at h1
    refine (ev_fn Go.Proofs.Try.f79 (max x.depth y.depth + (s.depth + 10)) (by kernel_rfl) (by kernel_rfl) fun kk hkk => ?_).mono (by simp only [Pt.depth]; omega)
    have ih1 := ev_putS k s hk hs hsd x a h0 (by omega) h2.1 kk (by omega)
    have ih2 := ev_putS k s hk hs hsd y a h0 (by omega) h2.2 kk (by omega)
    have hl := ev_app (sub k s a x) (sub k s a y) kk (by omega)
    have := put_app_s kk n a x.kd x.num y.kd y.num (sub k s a x).kd (sub k s a x).num (sub k s a y).kd (sub k s a y).num [] (x.kids.map Pt.d) (y.kids.map Pt.d) ((sub k s a x).kids.map Pt.d) ((sub k s a y).kids.map Pt.d) k s.kd s.num (s.kids.map Pt.d) (head_ok (j := 0) rfl rfl) (head_ok (j := 1) rfl rfl)
    rw [← Pt.d_eq, ← Pt.d_eq, ← Pt.d_eq, ← Pt.d_eq] at this
    exact this ih1 ih2 hl
theorem ev_subst (t s : Pt) (k : Int) (hk : 0 ≤ k ∧ k ≤ 1000000) (ht : t.within 1000000) (hs : s.within 1000000) (htd : t.depth ≤ 1000000) (hsd : s.depth ≤ 1000000) : EvN (t.depth + (s.depth + 11)) 42 [.dat t.d, .dat (I k), .dat s.d] [] [] ([.dat (sub k s 0 t).d], [], []) := by
  refine ev_fn Go.Proofs.Try.f42 (t.depth + (s.depth + 10)) (by kernel_rfl) (by kernel_rfl) fun kk hkk => ?_
  have := ev_putS k s hk hs hsd t 0 (by omega) (by omega) ht kk (by omega)
  have h2 := subst kk t.kd t.num k s.kd s.num (sub k s 0 t).kd (sub k s 0 t).num (t.kids.map Pt.d) (s.kids.map Pt.d) ((sub k s 0 t).kids.map Pt.d)
  rw [← Pt.d_eq t, ← Pt.d_eq s, ← Pt.d_eq (sub k s 0 t)] at h2
  exact h2 this
end Go.Den
namespace Go.Den
open Go
set_option linter.unusedVariables false
set_option maxRecDepth 100000
def flatL : List Pt → Nat → Nat → List Nd
  | [], _, _ => []
  | t :: ts, pos, at_ => t.flat pos at_ ++ flatL ts (pos + t.size) at_
theorem Pt.flat_kids (t : Pt) (at_ : Nat) (up : Int) : t.flat at_ up = ⟨t.kd, t.num, up⟩ :: flatL t.kids (at_ + 1) at_ := by
  cases t <;> simp [Pt.flat, Pt.kids, flatL, Pt.kd, Pt.num]
theorem flatL_append : ∀ (a b : List Pt) (pos at_ : Nat), flatL (a ++ b) pos at_ = flatL a pos at_ ++ flatL b (pos + (flatL a pos at_).length) at_
  | [], b, pos, at_ => by simp [flatL]
  | t :: a, b, pos, at_ => by
    simp only [List.cons_append, flatL, flatL_append a b, List.length_append, Pt.flat_length, List.append_assoc]
    rw [Nat.add_assoc]
theorem flatL_length : ∀ (ks : List Pt) (pos at_ : Nat), (flatL ks pos at_).length = (ks.map Pt.size).sum
  | [], pos, at_ => rfl
  | t :: ks, pos, at_ => by simp [flatL, Pt.flat_length, flatL_length ks]
theorem flatL_step {ks : List Pt} {i : Nat} {x : Pt} (h : ks[i]? = some x) (pos at_ : Nat) : flatL (ks.take (i + 1)) pos at_ = flatL (ks.take i) pos at_ ++ x.flat (pos + (flatL (ks.take i) pos at_).length) at_ := by
  rw [List.take_add_one, h, flatL_append]
  simp [flatL]
theorem ev_nodes1 : ∀ (d : Nat) (t : Pt) (out : List Nd) (up : Int), t.depth ≤ d → out.length + t.size ≤ 1000000000 →
    EvN (d + 5) 75 [.dat t.d, .dat (I up), .ptr (.up 1) 0, .ptr (.up 0) 0] [[.fn 75 [.up 1, .up 0]], [.own 56 (out.map Nd.d)]] [] ([], [[.fn 75 [.up 1, .up 0]], [.own 56 ((out ++ t.flat out.length up).map Nd.d)]], [])
  | 0, t, out, up, hd, hz => by have := t.depth_pos; omega
  | d + 1, t, out, up, hd, hz => by
    refine ev_fn Go.Proofs.Try.f75 (d + 5) (by kernel_rfl) (by kernel_rfl) fun kk hkk => ?_
    have hpos := t.size_pos
    have hle := t.kids_le
    have hsz := t.size_kids
    rw [Pt.d_eq, Pt.flat_kids]
    refine nodes1 kk _ _ up _ _ _ (by simp; omega) ?_
    let acc := fun i : Nat => out ++ ⟨t.kd, t.num, up⟩ :: flatL (t.kids.take i) (out.length + 1) out.length
    let st := fun i : Nat => hd97 ((acc i).map Nd.d) (t.kids.map Pt.d) out.length i
    have hlen : ∀ i, (acc i).length = out.length + 1 + (flatL (t.kids.take i) (out.length + 1) out.length).length := fun i => by simp [acc]; omega
    refine loopAt_range st t.kids.length (by omega) (fun i hi m s K hs hn => ?_) (fun m s K hs hK => ?_) (by simp [st, acc, flatL]; rfl)
    · obtain ⟨x, h1, h2, h3⟩ := kid_at hi
      have hx := Pt.kids_lt h2
      have hb := sum_le (ks := t.kids) i
      have hb2 := sum_le (ks := t.kids) (i + 1)
      have hstep : ((t.kids.take (i + 1)).map Pt.size).sum = ((t.kids.take i).map Pt.size).sum + x.size := by
        rw [List.take_add_one, h1]
        simp
      have hl := hlen i
      rw [flatL_length] at hl
      have hev := ev_nodes1 d x (acc i) out.length (by omega) (by omega) kk (by omega)
      rw [Pt.d_eq] at hev
      have hto : ((i : Int)).toNat = i := by simp
      refine nodes1_go kk m _ _ _ _ _ x.kd x.num _ hs (decide_eq_true (by simp; omega)) ⟨⟨by omega, by simp; omega⟩, by rw [hto]; exact h3⟩ hev fun s' hs' => hn s' ?_
      have hacc : acc i ++ x.flat (acc i).length out.length = acc (i + 1) := by
        have e := flatL_step h1 (out.length + 1) out.length
        simp only [acc] at hlen ⊢
        rw [e, hlen i]
        simp
      rw [hs', w64_eq (n := (i : Int) + 1) (by omega), hacc]
      rfl
    · refine nodes1_end kk m _ _ _ _ hs (decide_eq_false (by simp)) ?_
      have : acc t.kids.length = out ++ ⟨t.kd, t.num, up⟩ :: flatL t.kids (out.length + 1) out.length := by simp only [acc, List.take_length]
      rw [this]
      exact hK
theorem ev_nodes (t : Pt) (hz : t.size ≤ 1000000000) : EvN (t.depth + 6) 38 [.dat t.d] [] [] ([.own 56 ((t.flat 0 (-1)).map Nd.d)], [], []) := by
  refine ev_fn Go.Proofs.Try.f38 (t.depth + 5) (by kernel_rfl) (by kernel_rfl) fun kk hkk => ?_
  have := ev_nodes1 t.depth t [] (-1) (Nat.le_refl _) (by simpa using hz) kk (by omega)
  rw [Pt.d_eq] at this ⊢
  exact nodes kk _ _ _ _ this
theorem ev_goodNodes (t : Pt) (hz : t.size ≤ 1000000000) : EvN (4 * t.depth + 10) 36 [.dat t.d] [] [] ([.own 56 ((if t.good = true then t.flat 0 (-1) else []).map Nd.d), .dat (B t.good)], [], []) := by
  refine ev_fn Go.Proofs.Try.f36 (4 * t.depth + 9) (by kernel_rfl) (by kernel_rfl) fun kk hkk => ?_
  have h1 := ev_good t (by omega) t.depth (Nat.le_refl _) kk (by omega)
  have h2 := ev_nodes t hz kk (by omega)
  rw [Pt.d_eq] at h1 h2 ⊢
  cases hg : t.good with
  | true =>
    rw [hg] at h1
    rw [if_pos rfl]
    exact goodNodes_yes kk _ _ _ _ h1 h2
  | false =>
    rw [hg] at h1
    rw [if_neg (fun h => by cases h)]
    exact goodNodes_no kk _ _ _ h1
/-- 'termOf'. -/
theorem ev_termOf (L : List Nd) (b : Bool) (hL : L.length ≤ 1048576) :
    (∀ t, termOfP L = some t → EvN 1000 32 [.dat (.lst b (L.map Nd.d))] [] [] ([.dat t.d, .dat (B true)], [], [])) ∧
    (termOfP L = none → ∃ (k n : Int) (ds : List Dat), EvN 1000 32 [.dat (.lst b (L.map Nd.d))] [] [] ([.dat (T k n ds), .dat (B false)], [], [])) := by
  have hlen : ((L.map Nd.d).length : Int) = L.length := by simp
  by_cases h1 : L.length < 1
  · have hn : termOfP L = none := by unfold termOfP; rw [if_neg (by omega)]
    rw [hn]
    refine ⟨fun t h => (by cases h), fun _ => ⟨0, 0, [], ?_⟩⟩
    exact (ev_fn Go.Proofs.Try.f32 0 (by kernel_rfl) (by kernel_rfl) fun kk _ => termOf_few kk b _ (decide_eq_true (by omega))).mono (by omega)
  · by_cases h2 : 150 < L.length
    · have hn : termOfP L = none := by unfold termOfP; rw [if_neg (by omega)]
      rw [hn]
      refine ⟨fun t h => (by cases h), fun _ => ⟨0, 0, [], ?_⟩⟩
      exact (ev_fn Go.Proofs.Try.f32 0 (by kernel_rfl) (by kernel_rfl) fun kk _ => termOf_many kk b _ (decide_eq_false (by omega)) (decide_eq_true (by omega))).mono (by omega)
    · have e1 : decide (((L.map Nd.d).length : Int) < 1) = false := decide_eq_false (by omega)
      have e2 : decide (150 < ((L.map Nd.d).length : Int)) = false := decide_eq_false (by omega)
      obtain ⟨hy, hn⟩ := ev_termAt L b (by omega) (L.length + 1) 0 (-1) (by omega) (by omega)
      have hdef : termOfP L = (parse L (L.length + 1) 0 (-1)).bind fun r => if r.2 = L.length ∧ r.1.good = true then some r.1 else none := by unfold termOfP; rw [if_pos (by omega)]
      rw [hdef]
      cases hp : parse L (L.length + 1) 0 (-1) with
      | none =>
        refine ⟨fun t h => (by cases h), fun _ => ?_⟩
        obtain ⟨k, n, v, ds, hev⟩ := hn hp
        exact ⟨k, n, ds, (ev_fn Go.Proofs.Try.f32 (L.length + 11) (by kernel_rfl) (by kernel_rfl) fun kk hkk => termOf_bad kk b _ k n v ds e1 e2 (hev kk (by omega))).mono (by omega)⟩
      | some r =>
        obtain ⟨t, nx⟩ := r
        have hev := hy t nx hp
        obtain ⟨hs1, hs2, hs3⟩ := parse_sound L _ _ _ _ _ hp
        simp only [Option.bind_some]
        by_cases hnx : nx = L.length
        · have hsz : t.size ≤ 150 := by omega
          have hdl := t.depth_le
          have hg := ev_good t (by omega) 150 (by omega)
          have hgo : ∀ kk, 900 ≤ kk → runFn cfg kk (den cfg kk) 32 Go.Proofs.Try.f32 [.dat (.lst b (L.map Nd.d))] [] [] = some ([.dat t.d, .dat (B t.good)], [], []) := fun kk hkk => by
            have a1 := hev kk (by omega)
            have a2 := hg kk (by omega)
            rw [Pt.d_eq] at a1 a2 ⊢
            exact termOf_go kk b _ _ _ _ _ _ e1 e2 a1 (decide_eq_true (by omega)) a2
          cases hgd : t.good with
          | true =>
            rw [if_pos ⟨hnx, rfl⟩]
            refine ⟨fun t' h => ?_, fun h => (by cases h)⟩
            cases h
            rw [hgd] at hgo
            exact (ev_fn Go.Proofs.Try.f32 900 (by kernel_rfl) (by kernel_rfl) hgo).mono (by omega)
          | false =>
            rw [if_neg (fun h => by cases h.2)]
            refine ⟨fun t h => (by cases h), fun _ => ⟨t.kd, t.num, t.kids.map Pt.d, ?_⟩⟩
            rw [hgd, Pt.d_eq] at hgo
            exact (ev_fn Go.Proofs.Try.f32 900 (by kernel_rfl) (by kernel_rfl) hgo).mono (by omega)
        · rw [if_neg (fun h => hnx h.1)]
          refine ⟨fun t h => (by cases h), fun _ => ⟨t.kd, t.num, t.kids.map Pt.d, ?_⟩⟩
          refine (ev_fn Go.Proofs.Try.f32 (L.length + 11) (by kernel_rfl) (by kernel_rfl) fun kk hkk => ?_).mono (by omega)
          have a1 := hev kk (by omega)
          rw [Pt.d_eq] at a1
          exact termOf_more kk b _ _ _ _ _ e1 e2 a1 (decide_eq_false (by omega))
theorem sh_size (b : Int) : ∀ (t : Pt) (g : Int), (sh b g t).size = t.size ∧ (sh b g t).depth = t.depth
  | .var n, g => by simp only [sh]; split <;> exact ⟨rfl, rfl⟩
  | .lam n t, g => by simp [sh, Pt.size, Pt.depth, sh_size b t]
  | .app n x y, g => by simp [sh, Pt.size, Pt.depth, sh_size b x, sh_size b y]
theorem sub_size (k : Int) (s : Pt) : ∀ (t : Pt) (u : Int), (sub k s u t).size ≤ t.size * s.size ∧ (sub k s u t).depth ≤ t.depth + s.depth
  | .var n, u => by
    have h1 := s.size_pos
    have h2 := s.depth_pos
    simp only [sub, Pt.size, Pt.depth]
    split
    · rw [(sh_size u s 0).1, (sh_size u s 0).2]; omega
    · split <;> (simp only [Pt.size, Pt.depth]; omega)
  | .lam n t, u => by
    have := sub_size k s t (u + 1)
    have h1 := s.size_pos
    simp only [sub, Pt.size, Pt.depth, Nat.add_mul]
    omega
  | .app n x y, u => by
    have := sub_size k s x u
    have := sub_size k s y u
    have h1 := s.size_pos
    simp only [sub, Pt.size, Pt.depth, Nat.add_mul]
    omega
/-- What a substitution comes to, on nodes. -/
def substN (L : List Nd) (k : Int) (M : List Nd) : List Nd × Bool :=
  match termOfP L, termOfP M with
  | some t, some s => if 0 ≤ k ∧ k ≤ 99 then (if (sub k s 0 t).good = true then (sub k s 0 t).flat 0 (-1) else [], (sub k s 0 t).good) else ([], false)
  | _, _ => ([], false)
theorem good_facts {t : Pt} (h : t.good = true) : t.size ≤ 150 ∧ t.depth ≤ 40 ∧ t.nums = true := by
  unfold Pt.good at h
  simp only [Bool.and_eq_true, decide_eq_true_eq] at h
  exact h
theorem within_mono {M N : Int} (h : M ≤ N) : ∀ t : Pt, t.within M → t.within N
  | .var n, hw => by
    have hw : -M ≤ n ∧ n ≤ M := hw
    show -N ≤ n ∧ n ≤ N
    omega
  | .lam _ t, hw => within_mono h t hw
  | .app _ a b, hw => ⟨within_mono h a hw.1, within_mono h b hw.2⟩
theorem ev_iSubst (L M : List Nd) (b1 b2 : Bool) (k : Int) (hL : L.length ≤ 1048576) (hM : M.length ≤ 1048576) : EvN 2000 14 [.dat (.lst b1 (L.map Nd.d)), .dat (I k), .dat (.lst b2 (M.map Nd.d))] [] [] ([.own 56 ((substN L k M).1.map Nd.d), .dat (B (substN L k M).2)], [], []) := by
  refine (ev_fn Go.Proofs.Try.f14 1900 (by kernel_rfl) (by kernel_rfl) fun kk hkk => ?_).mono (by omega)
  obtain ⟨hy1, hn1⟩ := ev_termOf L b1 hL
  obtain ⟨hy2, hn2⟩ := ev_termOf M b2 hM
  unfold substN
  cases h1 : termOfP L with
  | none =>
    obtain ⟨k1, n1, d1, e1⟩ := hn1 h1
    have a1 := e1 kk (by omega)
    cases h2 : termOfP M with
    | none =>
      obtain ⟨k2, n2, d2, e2⟩ := hn2 h2
      exact iSubst_no1 kk b1 b2 false _ _ k _ _ _ _ _ _ a1 (e2 kk (by omega))
    | some s =>
      have a2 := hy2 s h2 kk (by omega)
      rw [Pt.d_eq] at a2
      exact iSubst_no1 kk b1 b2 true _ _ k _ _ _ _ _ _ a1 a2
  | some t =>
    have a1 := hy1 t h1 kk (by omega)
    have hgt := good_facts ((termOfP_iff L t).1 h1).1
    have a1' := a1
    rw [Pt.d_eq] at a1'
    cases h2 : termOfP M with
    | none =>
      obtain ⟨k2, n2, d2, e2⟩ := hn2 h2
      exact iSubst_no2 kk b1 b2 _ _ k _ _ _ _ _ _ a1' (e2 kk (by omega))
    | some s =>
      have a2 := hy2 s h2 kk (by omega)
      have hgs := good_facts ((termOfP_iff M s).1 h2).1
      have a2' := a2
      rw [Pt.d_eq] at a2'
      simp only
      by_cases hk0 : k < 0
      · rw [if_neg (by omega)]
        exact iSubst_neg kk b1 b2 _ _ k _ _ _ _ _ _ a1' a2' (decide_eq_true hk0)
      · by_cases hk9 : 99 < k
        · rw [if_neg (by omega)]
          exact iSubst_big kk b1 b2 _ _ k _ _ _ _ _ _ a1' a2' (decide_eq_false hk0) (decide_eq_true hk9)
        · rw [if_pos (by omega)]
          have hsz := sub_size k s t 0
          have hm : t.size * s.size ≤ 150 * 150 := Nat.mul_le_mul hgt.1 hgs.1
          have a3 := ev_subst t s k (by omega) (within_mono (by omega) t (nums_within t hgt.2.2)) (within_mono (by omega) s (nums_within s hgs.2.2)) (by omega) (by omega) kk (by omega)
          have a4 := ev_goodNodes (sub k s 0 t) (by omega) kk (by omega)
          generalize sub k s 0 t = r at *
          rw [Pt.d_eq t, Pt.d_eq s, Pt.d_eq r] at a3
          rw [Pt.d_eq r] at a4
          cases hg : r.good with
          | true =>
            rw [hg, if_pos rfl] at a4
            rw [if_pos rfl]
            exact iSubst_yes kk b1 b2 true _ _ _ k _ _ _ _ _ _ _ _ _ a1' a2' (decide_eq_false hk0) (decide_eq_false hk9) a3 a4
          | false =>
            rw [hg, if_neg (fun h => by cases h)] at a4
            rw [if_neg (fun h => by cases h)]
            exact iSubst_no kk b1 b2 true _ _ k _ _ _ _ _ _ _ _ _ a1' a2' (decide_eq_false hk0) (decide_eq_false hk9) a3 a4
end Go.Den
namespace Go.Den
open Go
set_option linter.unusedVariables false
set_option maxRecDepth 100000
theorem ev_l1In (x lo hi : Int) : EvN 1 30 [.dat (I x), .dat (I lo), .dat (I hi)] [] [] ([.dat (B (decide (lo ≤ x) && decide (x ≤ hi)))], [], []) := by
  refine ev_fn Go.Proofs.Try.f30 0 (by kernel_rfl) (by kernel_rfl) fun kk _ => ?_
  by_cases h : lo ≤ x
  · rw [l1In_yes kk x lo hi (decide_eq_true h)]
    simp [h]
  · rw [l1In_no kk x lo hi (decide_eq_false h)]
    simp [h]
theorem ev_lcVar (n : Int) : EvN 1 77 [.dat (I n)] [] [] ([.dat (T 1 n [])], [], []) := ev_fn Go.Proofs.Try.f77 0 (by kernel_rfl) (by kernel_rfl) fun kk _ => lcVar kk n
theorem ev_lcLam (t : Pt) : EvN 1 78 [.dat t.d] [] [] ([.dat (Pt.lam 0 t).d], [], []) := by
  refine ev_fn Go.Proofs.Try.f78 0 (by kernel_rfl) (by kernel_rfl) fun kk _ => ?_
  rw [show (Pt.lam 0 t).d = T 2 0 [t.d] from rfl, Pt.d_eq t]
  exact lcLam kk t.kd t.num (t.kids.map Pt.d)
theorem ev_lcApp (a b : Pt) : EvN 1 61 [.dat a.d, .dat b.d] [] [] ([.dat (Pt.app 0 a b).d], [], []) := by
  refine ev_fn Go.Proofs.Try.f61 0 (by kernel_rfl) (by kernel_rfl) fun kk _ => ?_
  rw [show (Pt.app 0 a b).d = T 3 0 [a.d, b.d] from rfl, Pt.d_eq a, Pt.d_eq b]
  exact lcApp kk a.kd a.num b.kd b.num (a.kids.map Pt.d) (b.kids.map Pt.d)
/-- 'lcShift', upwards. -/
theorem ev_lcShift (b : Int) (hb : 0 ≤ b ∧ b ≤ 1000000) : ∀ (d : Nat) (t : Pt) (f : Int), t.depth ≤ d → 0 ≤ f → f + t.depth ≤ 1000000 → t.within 1000000 →
    EvN (d + 5) 82 [.dat t.d, .dat (I b), .dat (I f)] [] [] ([.dat (sh b f t).d, .dat (B true)], [], [])
  | 0, t, f, hd, _, _, _ => by have := t.depth_pos; omega
  | d + 1, t, f, hd, h0, h1, hw => by
    have hloop : ∀ (kd n f' : Int) (kk : Nat), d + 5 ≤ kk → (∀ x ∈ t.kids, den cfg kk 82 [.dat x.d, .dat (I b), .dat (I f')] [] [] = some ([.dat (sh b f' x).d, .dat (B true)], [], [])) →
        LoopAt cfg kk 82 Go.Proofs.Try.f82 9 (hd70 b f' kd n (t.kids.map Pt.d) [] 0) (X.exit 0) (Nm [6, 7, 8] [.ptr (.loc 6) 0, .junk, .ptr (.loc 8) 0] [some [.dat (I 0), .dat (I 0), .own 71 []], none, some [.dat (I kd), .dat (I 0), .own 71 (t.kids.map fun x => (sh b f' x).d)]] [] []) := by
      intro kd n f' kk hkk hev
      have hle := t.kids_le
      let st := fun i : Nat => hd70 b f' kd n (t.kids.map Pt.d) ((t.kids.take i).map fun x => (sh b f' x).d) i
      refine loopAt_range st t.kids.length (by omega) (fun i hi m s K hs hn => ?_) (fun m s K hs hK => ?_) (by simp [st])
      · obtain ⟨x, h1, h2, h3⟩ := kid_at hi
        have hto : ((i : Int)).toNat = i := by simp
        have he := hev x h2
        rw [Pt.d_eq x, Pt.d_eq (sh b f' x)] at he
        refine lcShift_go kk m b f' kd n _ _ _ x.kd x.num _ _ _ _ hs (decide_eq_true (by first | (simp; omega) | (simp; done))) ⟨⟨by omega, by first | (simp; omega) | (simp; done)⟩, by rw [hto]; exact h3⟩ he (by first | (simp; omega) | (simp; done)) fun s' hs' => hn s' ?_
        have hstep : ((t.kids.take (i + 1)).map fun x => (sh b f' x).d) = ((t.kids.take i).map fun x => (sh b f' x).d) ++ [T (sh b f' x).kd (sh b f' x).num ((sh b f' x).kids.map Pt.d)] := by
          rw [List.take_add_one, h1, ← Pt.d_eq]
          simp
        rw [hs', w64_eq (n := (i : Int) + 1) (by omega)]
        simp only [st, hd70, hstep]
        rfl
      · have hs' : s.norm _ = hd70 b f' kd n (t.kids.map Pt.d) ((t.kids.take t.kids.length).map fun x => (sh b f' x).d) t.kids.length := hs
        rw [List.take_length] at hs'
        exact lcShift_end kk m b f' kd n _ _ _ hs' (decide_eq_false (by simp)) hK
    refine ev_fn Go.Proofs.Try.f82 (d + 5) (by kernel_rfl) (by kernel_rfl) fun kk hkk => ?_
    cases t with
    | var n =>
      have hw : -1000000 ≤ n ∧ n ≤ 1000000 := hw
      simp only [sh]
      by_cases hn : f ≤ n
      · rw [if_pos hn]
        have e : w64 (n + b) = n + b := w64_eq (by omega)
        have := lcShift_hi kk n b f [] (decide_eq_false (by omega)) (by rw [e]; exact ev_lcVar _ kk (by omega))
        rw [e] at this
        have e2 : decide (f ≤ n + b) = true := decide_eq_true (by omega)
        rw [e2] at this
        exact this
      · rw [if_neg hn]
        exact lcShift_lo kk n b f [] (decide_eq_true (by omega))
    | lam n x =>
      simp only [Pt.depth] at hd h1
      have e : w64 (f + 1) = f + 1 := w64_eq (by omega)
      have := hloop 2 n (f + 1) kk hkk (fun y hy => by
        simp only [Pt.kids, List.mem_singleton] at hy
        subst hy
        exact ev_lcShift b hb d y (f + 1) (by omega) (by omega) (by omega) hw kk (by omega))
      have h2 := lcShift_lam_y kk n b f [x.d] [(sh b (f + 1) x).d]
      rw [e] at h2
      exact h2 this
    | app n x y =>
      have hw : x.within 1000000 ∧ y.within 1000000 := hw
      simp only [Pt.depth] at hd h1
      have := hloop 3 n f kk hkk (fun z hz => by
        simp only [Pt.kids, List.mem_cons, List.not_mem_nil, or_false] at hz
        rcases hz with rfl | rfl
        · exact ev_lcShift b hb d _ f (by omega) h0 (by omega) hw.1 kk (by omega)
        · exact ev_lcShift b hb d _ f (by omega) h0 (by omega) hw.2 kk (by omega))
      exact lcShift_app_y kk n b f [x.d, y.d] [(sh b f x).d, (sh b f y).d] this
/-- 'lcSubst'. -/
theorem ev_lcSubst (k : Int) (s : Pt) (hk : 0 ≤ k ∧ k ≤ 1000) (hs : s.within 1000000) (hsd : s.depth ≤ 1000) : ∀ (t : Pt) (u : Int), 0 ≤ u → u + t.depth ≤ 1000 → t.within 1000000 →
    EvN (t.depth + (s.depth + 10)) 44 [.dat t.d, .dat (I k), .dat s.d, .dat (I u)] [] [] ([.dat (sub k s u t).d], [], [])
  | .var n, u, h0, h1, h2 => by
    have h2 : -1000000 ≤ n ∧ n ≤ 1000000 := h2
    simp only [Pt.depth] at h1
    refine (ev_fn Go.Proofs.Try.f44 (s.depth + 10) (by kernel_rfl) (by kernel_rfl) fun kk hkk => ?_).mono (by simp only [Pt.depth]; omega)
    have e : w64 (k + u) = k + u := w64_eq (by omega)
    by_cases hi : n = k + u
    · have he : sub k s u (.var n) = sh u 0 s := by simp only [sub]; rw [if_pos hi]
      rw [he]
      have hsh := ev_lcShift u (by omega) s.depth s 0 (Nat.le_refl _) (by omega) (by omega) hs kk (by omega)
      rw [Pt.d_eq s, Pt.d_eq (sh u 0 s)] at hsh
      rw [Pt.d_eq s, Pt.d_eq (sh u 0 s)]
      have := lcSubst_hit kk n k s.kd s.num u [] (s.kids.map Pt.d) (sh u 0 s).kd (sh u 0 s).num ((sh u 0 s).kids.map Pt.d)
      rw [e] at this
      exact this (decide_eq_true hi) hsh
    · by_cases hg : k + u < n
      · have he : sub k s u (.var n) = .var (n - 1) := by simp only [sub]; rw [if_neg hi, if_pos hg]
        rw [he, Pt.d_eq s]
        have e1 : w64 (n - 1) = n - 1 := w64_eq (by omega)
        have := lcSubst_hi kk n k s.kd s.num u [] (s.kids.map Pt.d)
        rw [e, e1] at this
        exact this (decide_eq_false hi) (decide_eq_true hg) (ev_lcVar _ kk (by omega))
      · have he : sub k s u (.var n) = .var n := by simp only [sub]; rw [if_neg hi, if_neg hg]
        rw [he, Pt.d_eq s]
        have := lcSubst_lo kk n k s.kd s.num u [] (s.kids.map Pt.d)
        rw [e] at this
        exact this (decide_eq_false hi) (decide_eq_false hg)
  | .lam n t, u, h0, h1, h2 => by
    simp only [Pt.depth] at h1
    refine (ev_fn Go.Proofs.Try.f44 (t.depth + (s.depth + 10)) (by kernel_rfl) (by kernel_rfl) fun kk hkk => ?_).mono (by simp only [Pt.depth]; omega)
    have e1 : w64 (u + 1) = u + 1 := w64_eq (by omega)
    have ih := ev_lcSubst k s hk hs hsd t (u + 1) (by omega) (by omega) h2 kk (by omega)
    have hl := ev_lcLam (sub k s (u + 1) t) kk (by omega)
    have := lcSubst_lam kk n k s.kd s.num u [] (s.kids.map Pt.d) t.kd t.num (sub k s (u + 1) t).kd (sub k s (u + 1) t).num (t.kids.map Pt.d) ((sub k s (u + 1) t).kids.map Pt.d) (head_ok (j := 0) rfl rfl)
    rw [← Pt.d_eq t, ← Pt.d_eq s, ← Pt.d_eq (sub k s (u + 1) t), e1] at this
    exact this ih hl
  | .app n x y, u, h0, h1, h2 => by
    have h2 : x.within 1000000 ∧ y.within 1000000 := h2
    simp only [Pt.depth] at h1
    refine (ev_fn Go.Proofs.Try.f44 (max x.depth y.depth + (s.depth + 10)) (by kernel_rfl) (by kernel_rfl) fun kk hkk => ?_).mono (by simp only [Pt.depth]; omega)
    have ih1 := ev_lcSubst k s hk hs hsd x u h0 (by omega) h2.1 kk (by omega)
    have ih2 := ev_lcSubst k s hk hs hsd y u h0 (by omega) h2.2 kk (by omega)
    have hl := ev_lcApp (sub k s u x) (sub k s u y) kk (by omega)
    have := lcSubst_app kk n k s.kd s.num u [] (s.kids.map Pt.d) x.kd x.num y.kd y.num (sub k s u x).kd (sub k s u x).num (sub k s u y).kd (sub k s u y).num (x.kids.map Pt.d) (y.kids.map Pt.d) ((sub k s u x).kids.map Pt.d) ((sub k s u y).kids.map Pt.d) (head_ok (j := 0) rfl rfl)
    rw [← Pt.d_eq x, ← Pt.d_eq y, ← Pt.d_eq s, ← Pt.d_eq (sub k s u x), ← Pt.d_eq (sub k s u y)] at this
    exact this (head_ok (x := x.d) (l := [y.d]) (y := y.d) (i := 1) (j := 1) rfl rfl) ih1 ih2 hl
def flatS : Pt → List Nd → Int → List Nd
  | .var n, l, up => l ++ [⟨1, n, up⟩]
  | .lam n t, l, up => if l.length + 1 ≤ 150 then flatS t (l ++ [⟨2, n, up⟩]) l.length else l ++ [⟨2, n, up⟩]
  | .app n a b, l, up =>
    let l2 := if l.length + 1 ≤ 150 then flatS a (l ++ [⟨3, n, up⟩]) l.length else l ++ [⟨3, n, up⟩]
    if l2.length ≤ 150 then flatS b l2 l.length else l2
theorem flatS_facts : ∀ (t : Pt) (l : List Nd) (up : Int), l.length ≤ 150 → (flatS t l up = l ++ t.flat l.length up ∨ 150 < (flatS t l up).length) ∧ (flatS t l up).length ≤ l.length + t.size
  | .var n, l, up, h => ⟨.inl rfl, by simp [flatS, Pt.size]⟩
  | .lam n t, l, up, h => by
    simp only [flatS, Pt.size]
    split
    · rename_i h1
      obtain ⟨h2, h3⟩ := flatS_facts t (l ++ [⟨2, n, up⟩]) l.length (by simpa using h1)
      simp only [List.length_append, List.length_cons, List.length_nil] at h2 h3
      refine ⟨?_, by omega⟩
      rcases h2 with h2 | h2
      · left
        rw [h2]
        simp [Pt.flat]
      · exact .inr h2
    · refine ⟨.inr (by first | (simp; omega) | (simp; done)), by first | (simp; omega) | (simp; done)⟩
  | .app n a b, l, up, h => by
    simp only [flatS, Pt.size]
    split
    · rename_i h1
      obtain ⟨h2, h3⟩ := flatS_facts a (l ++ [⟨3, n, up⟩]) l.length (by simpa using h1)
      simp only [List.length_append, List.length_cons, List.length_nil] at h2 h3
      generalize hr : flatS a (l ++ [⟨3, n, up⟩]) l.length = r at *
      split
      · rename_i h4
        obtain ⟨h5, h6⟩ := flatS_facts b r l.length h4
        refine ⟨?_, by omega⟩
        rcases h5 with h5 | h5
        · rcases h2 with h2 | h2
          · left
            have hrl : r.length = l.length + 1 + a.size := by rw [h2]; simp [Pt.flat_length]; omega
            rw [h5, hrl, h2]
            simp [Pt.flat]
          · omega
        · exact .inr h5
      · refine ⟨.inr (by omega), by omega⟩
    · rename_i h1
      have hb := b.size_pos
      rw [if_neg (by first | (simp; omega) | (simp; done))]
      exact ⟨.inr (by first | (simp; omega) | (simp; done)), by first | (simp; omega) | (simp; done)⟩
theorem flatS_small {t : Pt} (h : t.size ≤ 150) : flatS t [] (-1) = t.flat 0 (-1) := by
  obtain ⟨h1, h2⟩ := flatS_facts t [] (-1) (by simp)
  rcases h1 with h1 | h1
  · exact h1
  · simp at h2; omega
theorem flatS_big {t : Pt} (h : 150 < t.size) : 150 < (flatS t [] (-1)).length := by
  obtain ⟨h1, h2⟩ := flatS_facts t [] (-1) (by simp)
  rcases h1 with h1 | h1
  · rw [h1]
    simp [Pt.flat_length]
    exact h
  · exact h1
end Go.Den
