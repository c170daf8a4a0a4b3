/- Merged out of: WK WL WN X1 X2 X3 X4 X5 X6 LFnTerms LFnTermsCard (prune.py, a program of this work's). -/
import Derived.Test.YtjmljfpnofjkeaaGreatDoorZi5
import Derived.Test.YtjmljfpnofjkeaaGreatDoorZi4
import Derived.KernelRfl
import Derived.Test.YtjmljfpnofjkeaaGreatDoorZi6
import Derived.Test.YtjmljfpnofjkeaaGreatDoorRows
import Derived.WalkKit
import Derived.ProofKit
import Derived.OpenShut
import Derived.ShutString
import Derived.ChangeOld
import Derived.Below
import Derived.LaidHandle
import Derived.Handed
import Derived.Test.YtjmljfpnofjkeaaGreatDoorCards
import Derived.Test.YtjmljfpnofjkeaaGreatDoorTie
import Derived.SevenTiedAt
set_option linter.unusedVariables false
set_option linter.unusedSimpArgs false
set_option linter.unnecessarySimpa false
namespace Go.Den
open Go
set_option linter.unusedVariables false
set_option maxRecDepth 100000
def hd105 (a : Int) (ps out : List Dat) (i : Int) : St := Nm [1, 2, 29, 30, 31] [.dat (I a), .fn 59 [.up 0], .dat (.lst false ps), .dat (I ps.length), .dat (I i)] [none, none, none, none, none] [[.own 3 out]] []
theorem free_go (kk m : Nat) {s : St} {K : X → St → Prop} (a : Int) (ps out : List Dat) (i : Int) (out' : List Dat) (kx nx : Int) (dx : List Dat) (hs : s.norm ((envOf cfg kk 58 Go.Proofs.Tryz.f58).live (firstRegion (lp Go.Proofs.Tryz.f58 6))) = hd105 a ps out i) (h1 : decide (i < (ps.length : Int)) = true) (h2 : (0 ≤ i ∧ i < (ps.length : Int)) ∧ ps[i.toNat]? = some (T kx nx dx)) (h3 : den cfg kk 58 [D.dat (T kx nx dx), D.dat (I a), D.fn 59 [Ref.up 0]] [[D.own 3 out]] [] = some ([], [[D.own 3 out']], [])) (hn : ∀ s : St, s.norm ((envOf cfg kk 58 Go.Proofs.Tryz.f58).live (firstRegion (lp Go.Proofs.Tryz.f58 6))) = Nm [1, 2, 29, 30, 31] [D.dat (I a), D.fn 59 [Ref.up 0], D.dat (Dat.lst false ps), D.dat (I (ps.length : Int)), D.dat (I (w64 (i + 1)))] [none, none, none, none, none] [[D.own 3 out']] [] → Rounds (envOf cfg kk 58 Go.Proofs.Tryz.f58) kk (lp Go.Proofs.Tryz.f58 6) m s K) : Rounds (envOf cfg kk 58 Go.Proofs.Tryz.f58) kk (lp Go.Proofs.Tryz.f58 6) (m + 1) s K :=
  rounds_go [(200032, .yes), (33, .at (T kx nx dx)), (38, .back [] [[.own 3 out']] [])] hs (by kernel_rfl) (ob h1 (ob h2 (ob h3 (ob (rfl : false = false) ob0)))) (by kernel_rfl) hn
theorem free_end (kk m : Nat) {s : St} {K : X → St → Prop} (a : Int) (ps out : List Dat) (i : Int) (hs : s.norm ((envOf cfg kk 58 Go.Proofs.Tryz.f58).live (firstRegion (lp Go.Proofs.Tryz.f58 6))) = hd105 a ps out i) (h1 : decide (i < (ps.length : Int)) = false) (hK : K (X.exit 0) (Nm [] [] [] [[D.own 3 out]] [])) : Rounds (envOf cfg kk 58 Go.Proofs.Tryz.f58) kk (lp Go.Proofs.Tryz.f58 6) (m + 1) s K :=
  rounds_end [(200032, .no)] hs (by kernel_rfl) rfl (ob h1 ob0) (by kernel_rfl) hK
theorem free_hit (kk : Nat) (n a : Int) (ps out out1 out2 : List Dat) (h1 : decide (a ≤ n) = true) (h2 : den cfg kk 59 [D.dat (I (w64 (n - a))), D.ptr (Ref.up 0) 0] [[D.own 3 out]] [] = some ([], [[D.own 3 out1]], [])) (h5 : LoopAt cfg kk 58 Go.Proofs.Tryz.f58 6 (hd105 a ps out1 0) (X.exit 0) (Nm [] [] [] [[D.own 3 out2]] [])) : runFn cfg kk (den cfg kk) 58 Go.Proofs.Tryz.f58 [.dat (T 1 n ps), .dat (I a), .fn 59 [.up 0]] [[.own 3 out]] [] = some ([], [[D.own 3 out2]], []) :=
  hrun_ok [(200016, .yes), (22, .back [] [[.own 3 out1]] []), (300006, .loop (hd105 a ps out1 0) (.exit 0) (Nm [] [] [] [[.own 3 out2]] []))] (ob h1 (ob h2 (ob (rfl : false = false) (ob (rfl : _ = hd105 a ps out1 0) (ob h5 ob0))))) (by kernel_rfl)
theorem free_miss (kk : Nat) (n a : Int) (ps out out2 : List Dat) (h1 : decide (a ≤ n) = false) (h3 : LoopAt cfg kk 58 Go.Proofs.Tryz.f58 6 (hd105 a ps out 0) (X.exit 0) (Nm [] [] [] [[D.own 3 out2]] [])) : runFn cfg kk (den cfg kk) 58 Go.Proofs.Tryz.f58 [.dat (T 1 n ps), .dat (I a), .fn 59 [.up 0]] [[.own 3 out]] [] = some ([], [[D.own 3 out2]], []) :=
  hrun_ok [(200016, .no), (300006, .loop (hd105 a ps out 0) (.exit 0) (Nm [] [] [] [[.own 3 out2]] []))] (ob h1 (ob (rfl : _ = hd105 a ps out 0) (ob h3 ob0))) (by kernel_rfl)
theorem free_lam (kk : Nat) (n a : Int) (ps out out2 : List Dat) (h2 : LoopAt cfg kk 58 Go.Proofs.Tryz.f58 6 (hd105 (w64 (a + 1)) ps out 0) (X.exit 0) (Nm [] [] [] [[D.own 3 out2]] [])) : runFn cfg kk (den cfg kk) 58 Go.Proofs.Tryz.f58 [.dat (T 2 n ps), .dat (I a), .fn 59 [.up 0]] [[.own 3 out]] [] = some ([], [[D.own 3 out2]], []) :=
  hrun_ok [(300006, .loop (hd105 (w64 (a + 1)) ps out 0) (.exit 0) (Nm [] [] [] [[.own 3 out2]] []))] (ob (rfl : _ = hd105 (w64 (a + 1)) ps out 0) (ob h2 ob0)) (by kernel_rfl)
theorem free_app (kk : Nat) (n a : Int) (ps out out2 : List Dat) (h2 : LoopAt cfg kk 58 Go.Proofs.Tryz.f58 6 (hd105 a ps out 0) (X.exit 0) (Nm [] [] [] [[D.own 3 out2]] [])) : runFn cfg kk (den cfg kk) 58 Go.Proofs.Tryz.f58 [.dat (T 3 n ps), .dat (I a), .fn 59 [.up 0]] [[.own 3 out]] [] = some ([], [[D.own 3 out2]], []) :=
  hrun_ok [(300006, .loop (hd105 a ps out 0) (.exit 0) (Nm [] [] [] [[.own 3 out2]] []))] (ob (rfl : _ = hd105 a ps out 0) (ob h2 ob0)) (by kernel_rfl)
theorem freeIn1 (kk : Nat) (x : Int) (out : List Dat) (h1 : out.length + 1 ≤ 2147483648) : runFn cfg kk (den cfg kk) 59 Go.Proofs.Tryz.f59 [.dat (I x), .ptr (.up 0) 0] [[.own 3 out]] [] = some ([], [[D.own 3 (out ++ [I x])]], []) :=
  hrun_ok [(6, .ok)] (ob (obT h1) ob0) (by kernel_rfl)
theorem freeIn (kk : Nat) (k n : Int) (d : List Dat) (out srt cmp : List Dat) (h1 : den cfg kk 58 [D.dat (T k n d), D.dat (I 0), D.fn 59 [Ref.up 0]] [[D.own 3 []]] [] = some ([], [[D.own 3 out]], [])) (h3 : den cfg kk 60 [D.bor (Pl.lent 0) none] [] [some (3, out)] = some ([], [], [some (3, srt)])) (h5 : den cfg kk 61 [D.own 3 srt] [] [] = some ([D.own 3 cmp], [], [])) : runFn cfg kk (den cfg kk) 27 Go.Proofs.Tryz.f27 [.dat (T k n d)] [] [] = some ([D.own 3 cmp], [], []) :=
  hrun_ok [(7, .back [] [[.own 3 out]] []), (9, .back [] [] [some (3, srt)]), (11, .back [.own 3 cmp] [] [])] (ob h1 (ob (rfl : false = false) (ob h3 (ob (rfl : false = false) (ob h5 (ob (rfl : false = false) ob0)))))) (by kernel_rfl)
theorem sShift_no1 (kk : Nat) (b : Bool) (es : List Dat) (v w : Int) (h1 : den cfg kk 21 [D.dat (Dat.lst b es)] [] [] = some ([D.dat (B false)], [], [])) : runFn cfg kk (den cfg kk) 11 Go.Proofs.Tryz.f11 [.dat (Dat.lst b es), .dat (I v), .dat (I w)] [] [] = some ([D.own 60 [], D.dat (B false)], [], []) :=
  hrun_ok [(11, .ret [.dat (B false)])] (ob h1 ob0) (by kernel_rfl)
theorem sShift_no2 (kk : Nat) (b : Bool) (es : List Dat) (v w : Int) (h1 : den cfg kk 21 [D.dat (Dat.lst b es)] [] [] = some ([D.dat (B true)], [], [])) (h2 : den cfg kk 30 [D.dat (I v), D.dat (I (-99)), D.dat (I 99)] [] [] = some ([D.dat (B false)], [], [])) : runFn cfg kk (den cfg kk) 11 Go.Proofs.Tryz.f11 [.dat (Dat.lst b es), .dat (I v), .dat (I w)] [] [] = some ([D.own 60 [], D.dat (B false)], [], []) :=
  hrun_ok [(11, .ret [.dat (B true)]), (15, .ret [.dat (B false)])] (ob h1 (ob h2 ob0)) (by kernel_rfl)
theorem sShift_no3 (kk : Nat) (b : Bool) (es : List Dat) (v w : Int) (h1 : den cfg kk 21 [D.dat (Dat.lst b es)] [] [] = some ([D.dat (B true)], [], [])) (h2 : den cfg kk 30 [D.dat (I v), D.dat (I (-99)), D.dat (I 99)] [] [] = some ([D.dat (B true)], [], [])) (h3 : den cfg kk 30 [D.dat (I w), D.dat (I 0), D.dat (I 99)] [] [] = some ([D.dat (B false)], [], [])) : runFn cfg kk (den cfg kk) 11 Go.Proofs.Tryz.f11 [.dat (Dat.lst b es), .dat (I v), .dat (I w)] [] [] = some ([D.own 60 [], D.dat (B false)], [], []) :=
  hrun_ok [(11, .ret [.dat (B true)]), (15, .ret [.dat (B true)]), (20, .ret [.dat (B false)])] (ob h1 (ob h2 (ob h3 ob0))) (by kernel_rfl)
theorem sShift_no4 (kk : Nat) (b : Bool) (es : List Dat) (v w : Int) (k n : Int) (d : List Dat) (k2 n2 : Int) (d2 : List Dat) (h1 : den cfg kk 21 [D.dat (Dat.lst b es)] [] [] = some ([D.dat (B true)], [], [])) (h2 : den cfg kk 30 [D.dat (I v), D.dat (I (-99)), D.dat (I 99)] [] [] = some ([D.dat (B true)], [], [])) (h3 : den cfg kk 30 [D.dat (I w), D.dat (I 0), D.dat (I 99)] [] [] = some ([D.dat (B true)], [], [])) (h4 : den cfg kk 23 [D.dat (Dat.lst b es), D.dat (I 0)] [] [] = some ([D.dat (T k n d)], [], [])) (h5 : den cfg kk 31 [D.dat (T k n d), D.dat (I v), D.dat (I w)] [] [] = some ([D.dat (T k2 n2 d2), D.dat (B false)], [], [])) : runFn cfg kk (den cfg kk) 11 Go.Proofs.Tryz.f11 [.dat (Dat.lst b es), .dat (I v), .dat (I w)] [] [] = some ([D.own 60 [], D.dat (B false)], [], []) :=
  hrun_ok [(11, .ret [.dat (B true)]), (15, .ret [.dat (B true)]), (20, .ret [.dat (B true)]), (25, .ret [.dat (T k n d)]), (28, .ret [.dat (T k2 n2 d2), .dat (B false)])] (ob h1 (ob h2 (ob h3 (ob h4 (ob h5 ob0))))) (by kernel_rfl)
theorem sShift_go (kk : Nat) (b : Bool) (es : List Dat) (v w : Int) (out : List Dat) (r : Bool) (k n : Int) (d : List Dat) (k2 n2 : Int) (d2 : List Dat) (h1 : den cfg kk 21 [D.dat (Dat.lst b es)] [] [] = some ([D.dat (B true)], [], [])) (h2 : den cfg kk 30 [D.dat (I v), D.dat (I (-99)), D.dat (I 99)] [] [] = some ([D.dat (B true)], [], [])) (h3 : den cfg kk 30 [D.dat (I w), D.dat (I 0), D.dat (I 99)] [] [] = some ([D.dat (B true)], [], [])) (h4 : den cfg kk 23 [D.dat (Dat.lst b es), D.dat (I 0)] [] [] = some ([D.dat (T k n d)], [], [])) (h5 : den cfg kk 31 [D.dat (T k n d), D.dat (I v), D.dat (I w)] [] [] = some ([D.dat (T k2 n2 d2), D.dat (B true)], [], [])) (h6 : den cfg kk 32 [D.dat (T k2 n2 d2)] [] [] = some ([D.own 60 out, D.dat (B r)], [], [])) : runFn cfg kk (den cfg kk) 11 Go.Proofs.Tryz.f11 [.dat (Dat.lst b es), .dat (I v), .dat (I w)] [] [] = some ([D.own 60 out, D.dat (B r)], [], []) :=
  hrun_ok [(11, .ret [.dat (B true)]), (15, .ret [.dat (B true)]), (20, .ret [.dat (B true)]), (25, .ret [.dat (T k n d)]), (28, .ret [.dat (T k2 n2 d2), .dat (B true)]), (34, .ret [.own 60 out, .dat (B r)])] (ob h1 (ob h2 (ob h3 (ob h4 (ob h5 (ob h6 ob0)))))) (by kernel_rfl)
theorem iShift_no1 (kk : Nat) (b : Bool) (es : List Dat) (v w : Int) (k n : Int) (d : List Dat) (h1 : den cfg kk 19 [D.dat (Dat.lst b es)] [] [] = some ([D.dat (T k n d), D.dat (B false)], [], [])) : runFn cfg kk (den cfg kk) 10 Go.Proofs.Tryz.f10 [.dat (Dat.lst b es), .dat (I v), .dat (I w)] [] [] = some ([D.own 60 [], D.dat (B false)], [], []) :=
  hrun_ok [(12, .ret [.dat (T k n d), .dat (B false)])] (ob h1 ob0) (by kernel_rfl)
theorem iShift_no2 (kk : Nat) (b : Bool) (es : List Dat) (v w : Int) (k n : Int) (d : List Dat) (h1 : den cfg kk 19 [D.dat (Dat.lst b es)] [] [] = some ([D.dat (T k n d), D.dat (B true)], [], [])) (h2 : decide (v < -99) = true) : runFn cfg kk (den cfg kk) 10 Go.Proofs.Tryz.f10 [.dat (Dat.lst b es), .dat (I v), .dat (I w)] [] [] = some ([D.own 60 [], D.dat (B false)], [], []) :=
  hrun_ok [(12, .ret [.dat (T k n d), .dat (B true)]), (200021, .yes)] (ob h1 (ob h2 (ob (rfl : true = true) ob0))) (by kernel_rfl)
theorem iShift_no3 (kk : Nat) (b : Bool) (es : List Dat) (v w : Int) (k n : Int) (d : List Dat) (h1 : den cfg kk 19 [D.dat (Dat.lst b es)] [] [] = some ([D.dat (T k n d), D.dat (B true)], [], [])) (h2 : decide (v < -99) = false) (h4 : decide (99 < v) = true) : runFn cfg kk (den cfg kk) 10 Go.Proofs.Tryz.f10 [.dat (Dat.lst b es), .dat (I v), .dat (I w)] [] [] = some ([D.own 60 [], D.dat (B false)], [], []) :=
  hrun_ok [(12, .ret [.dat (T k n d), .dat (B true)]), (200021, .no), (200025, .yes)] (ob h1 (ob h2 (ob (rfl : false = false) (ob h4 (ob (rfl : true = true) ob0))))) (by kernel_rfl)
theorem iShift_no4 (kk : Nat) (b : Bool) (es : List Dat) (v w : Int) (k n : Int) (d : List Dat) (h1 : den cfg kk 19 [D.dat (Dat.lst b es)] [] [] = some ([D.dat (T k n d), D.dat (B true)], [], [])) (h2 : decide (v < -99) = false) (h4 : decide (99 < v) = false) (h6 : decide (w < 0) = true) : runFn cfg kk (den cfg kk) 10 Go.Proofs.Tryz.f10 [.dat (Dat.lst b es), .dat (I v), .dat (I w)] [] [] = some ([D.own 60 [], D.dat (B false)], [], []) :=
  hrun_ok [(12, .ret [.dat (T k n d), .dat (B true)]), (200021, .no), (200025, .no), (200029, .yes)] (ob h1 (ob h2 (ob (rfl : false = false) (ob h4 (ob (rfl : false = false) (ob h6 (ob (rfl : true = true) ob0))))))) (by kernel_rfl)
theorem iShift_no5 (kk : Nat) (b : Bool) (es : List Dat) (v w : Int) (k n : Int) (d : List Dat) (h1 : den cfg kk 19 [D.dat (Dat.lst b es)] [] [] = some ([D.dat (T k n d), D.dat (B true)], [], [])) (h2 : decide (v < -99) = false) (h4 : decide (99 < v) = false) (h6 : decide (w < 0) = false) (h8 : decide (99 < w) = true) : runFn cfg kk (den cfg kk) 10 Go.Proofs.Tryz.f10 [.dat (Dat.lst b es), .dat (I v), .dat (I w)] [] [] = some ([D.own 60 [], D.dat (B false)], [], []) :=
  hrun_ok [(12, .ret [.dat (T k n d), .dat (B true)]), (200021, .no), (200025, .no), (200029, .no), (200032, .yes)] (ob h1 (ob h2 (ob (rfl : false = false) (ob h4 (ob (rfl : false = false) (ob h6 (ob (rfl : false = false) (ob h8 ob0)))))))) (by kernel_rfl)
theorem iShift_no6 (kk : Nat) (b : Bool) (es : List Dat) (v w : Int) (rs : List Dat) (k n : Int) (d : List Dat) (h1 : den cfg kk 19 [D.dat (Dat.lst b es)] [] [] = some ([D.dat (T k n d), D.dat (B true)], [], [])) (h2 : decide (v < -99) = false) (h4 : decide (99 < v) = false) (h6 : decide (w < 0) = false) (h8 : decide (99 < w) = false) (h9 : den cfg kk 27 [D.dat (T k n d)] [] [] = some ([D.own 3 rs], [], [])) (h10 : den cfg kk 26 [D.dat (Dat.lst true rs), D.fn 28 [Ref.up 0, Ref.up 1]] [[D.dat (I w)], [D.dat (I v)]] [] = some ([D.dat (B true)], [[D.dat (I w)], [D.dat (I v)]], [])) : runFn cfg kk (den cfg kk) 10 Go.Proofs.Tryz.f10 [.dat (Dat.lst b es), .dat (I v), .dat (I w)] [] [] = some ([D.own 60 [], D.dat (B false)], [], []) :=
  hrun_ok [(12, .ret [.dat (T k n d), .dat (B true)]), (200021, .no), (200025, .no), (200029, .no), (200032, .no), (34, .ret [.own 3 rs]), (36, .back [.dat (B true)] [[.dat (I w)],[.dat (I v)]] [])] (ob h1 (ob h2 (ob (rfl : false = false) (ob h4 (ob (rfl : false = false) (ob h6 (ob (rfl : false = false) (ob h8 (ob h9 (ob h10 (ob (rfl : false = false) ob0))))))))))) (by kernel_rfl)
theorem iShift_go (kk : Nat) (b : Bool) (es : List Dat) (v w : Int) (rs out : List Dat) (r : Bool) (k n : Int) (d : List Dat) (k2 n2 : Int) (d2 : List Dat) (h1 : den cfg kk 19 [D.dat (Dat.lst b es)] [] [] = some ([D.dat (T k n d), D.dat (B true)], [], [])) (h2 : decide (v < -99) = false) (h4 : decide (99 < v) = false) (h6 : decide (w < 0) = false) (h8 : decide (99 < w) = false) (h9 : den cfg kk 27 [D.dat (T k n d)] [] [] = some ([D.own 3 rs], [], [])) (h10 : den cfg kk 26 [D.dat (Dat.lst true rs), D.fn 28 [Ref.up 0, Ref.up 1]] [[D.dat (I w)], [D.dat (I v)]] [] = some ([D.dat (B false)], [[D.dat (I w)], [D.dat (I v)]], [])) (h12 : den cfg kk 29 [D.dat (T k n d), D.dat (I v), D.dat (I w)] [] [] = some ([D.dat (T k2 n2 d2)], [], [])) (h13 : den cfg kk 25 [D.dat (T k2 n2 d2)] [] [] = some ([D.own 60 out, D.dat (B r)], [], [])) : runFn cfg kk (den cfg kk) 10 Go.Proofs.Tryz.f10 [.dat (Dat.lst b es), .dat (I v), .dat (I w)] [] [] = some ([D.own 60 out, D.dat (B r)], [], []) :=
  hrun_ok [(12, .ret [.dat (T k n d), .dat (B true)]), (200021, .no), (200025, .no), (200029, .no), (200032, .no), (34, .ret [.own 3 rs]), (36, .back [.dat (B false)] [[.dat (I w)],[.dat (I v)]] []), (40, .ret [.dat (T k2 n2 d2)]), (41, .ret [.own 60 out, .dat (B r)])] (ob h1 (ob h2 (ob (rfl : false = false) (ob h4 (ob (rfl : false = false) (ob h6 (ob (rfl : false = false) (ob h8 (ob h9 (ob h10 (ob (rfl : false = false) (ob h12 (ob h13 ob0))))))))))))) (by kernel_rfl)
theorem contF (kk : Nat) (b : Bool) (es : List Dat) (f v j : Int) (h1 : den cfg kk 57 [D.dat (Dat.lst b es), D.fn 28 [Ref.up 0, Ref.up 1]] [[D.dat (I f)], [D.dat (I v)]] [] = some ([D.dat (I j)], [[D.dat (I f)], [D.dat (I v)]], [])) : runFn cfg kk (den cfg kk) 26 Go.Proofs.Tryz.f26 [.dat (Dat.lst b es), .fn 28 [.up 0, .up 1]] [[.dat (I f)], [.dat (I v)]] [] = some ([D.dat (B (decide (0 ≤ j)))], [[D.dat (I f)], [D.dat (I v)]], []) :=
  hrun_ok [(7, .back [.dat (I j)] [[.dat (I f)], [.dat (I v)]] [])] (ob h1 (ob (rfl : false = false) ob0)) (by kernel_rfl)
def hd104 (b : Bool) (es : List Dat) (f v i : Int) : St := Nm [0, 1, 7, 8] [.dat (.lst b es), .fn 28 [.up 0, .up 1], .dat (I es.length), .dat (I i)] [none, none, none, none] [[.dat (I f)], [.dat (I v)]] []
theorem idxF_go (kk m : Nat) {s : St} {K : X → St → Prop} (b : Bool) (es : List Dat) (f v i : Int) (x : Int) (hs : s.norm ((envOf cfg kk 57 Go.Proofs.Tryz.f57).live (firstRegion (lp Go.Proofs.Tryz.f57 2))) = hd104 b es f v i) (h1 : decide (i < (es.length : Int)) = true) (h2 : (0 ≤ i ∧ i < (es.length : Int)) ∧ es[i.toNat]? = some (I x)) (h3 : den cfg kk 28 [D.dat (I x), D.ptr (Ref.up 0) 0, D.ptr (Ref.up 1) 0] [[D.dat (I f)], [D.dat (I v)]] [] = some ([D.dat (B false)], [[D.dat (I f)], [D.dat (I v)]], [])) (hn : ∀ s : St, s.norm ((envOf cfg kk 57 Go.Proofs.Tryz.f57).live (firstRegion (lp Go.Proofs.Tryz.f57 2))) = Nm [0, 1, 7, 8] [D.dat (Dat.lst b es), D.fn 28 [Ref.up 0, Ref.up 1], D.dat (I (es.length : Int)), D.dat (I (w64 (i + 1)))] [none, none, none, none] [[D.dat (I f)], [D.dat (I v)]] [] → Rounds (envOf cfg kk 57 Go.Proofs.Tryz.f57) kk (lp Go.Proofs.Tryz.f57 2) m s K) : Rounds (envOf cfg kk 57 Go.Proofs.Tryz.f57) kk (lp Go.Proofs.Tryz.f57 2) (m + 1) s K :=
  rounds_go [(200009, .yes), (14, .at (I x)), (16, .back [.dat (B false)] [[.dat (I f)], [.dat (I v)]] [])] hs (by kernel_rfl) (ob h1 (ob h2 (ob h3 (ob (rfl : false = false) ob0)))) (by kernel_rfl) hn
theorem idxF_hit (kk m : Nat) {s : St} {K : X → St → Prop} (b : Bool) (es : List Dat) (f v i : Int) (x : Int) (hs : s.norm ((envOf cfg kk 57 Go.Proofs.Tryz.f57).live (firstRegion (lp Go.Proofs.Tryz.f57 2))) = hd104 b es f v i) (h1 : decide (i < (es.length : Int)) = true) (h2 : (0 ≤ i ∧ i < (es.length : Int)) ∧ es[i.toNat]? = some (I x)) (h3 : den cfg kk 28 [D.dat (I x), D.ptr (Ref.up 0) 0, D.ptr (Ref.up 1) 0] [[D.dat (I f)], [D.dat (I v)]] [] = some ([D.dat (B true)], [[D.dat (I f)], [D.dat (I v)]], [])) (hK : K (X.ret) (Nm [4] [D.dat (I i)] [none] [[D.dat (I f)], [D.dat (I v)]] [])) : Rounds (envOf cfg kk 57 Go.Proofs.Tryz.f57) kk (lp Go.Proofs.Tryz.f57 2) (m + 1) s K :=
  rounds_end [(200009, .yes), (14, .at (I x)), (16, .back [.dat (B true)] [[.dat (I f)], [.dat (I v)]] [])] hs (by kernel_rfl) rfl (ob h1 (ob h2 (ob h3 (ob (rfl : false = false) ob0)))) (by kernel_rfl) hK
theorem idxF_end (kk m : Nat) {s : St} {K : X → St → Prop} (b : Bool) (es : List Dat) (f v i : Int) (hs : s.norm ((envOf cfg kk 57 Go.Proofs.Tryz.f57).live (firstRegion (lp Go.Proofs.Tryz.f57 2))) = hd104 b es f v i) (h1 : decide (i < (es.length : Int)) = false) (hK : K (X.exit 0) (Nm [4] [D.junk] [none] [[D.dat (I f)], [D.dat (I v)]] [])) : Rounds (envOf cfg kk 57 Go.Proofs.Tryz.f57) kk (lp Go.Proofs.Tryz.f57 2) (m + 1) s K :=
  rounds_end [(200009, .no)] hs (by kernel_rfl) rfl (ob h1 ob0) (by kernel_rfl) hK
theorem idxF_y (kk : Nat) (b : Bool) (es : List Dat) (f v j : Int) (h2 : LoopAt cfg kk 57 Go.Proofs.Tryz.f57 2 (hd104 b es f v 0) X.ret (Nm [4] [D.dat (I j)] [none] [[D.dat (I f)], [D.dat (I v)]] [])) : runFn cfg kk (den cfg kk) 57 Go.Proofs.Tryz.f57 [.dat (Dat.lst b es), .fn 28 [.up 0, .up 1]] [[.dat (I f)], [.dat (I v)]] [] = some ([D.dat (I j)], [[D.dat (I f)], [D.dat (I v)]], []) :=
  hrun_ok [(300002, .loop (hd104 b es f v 0) .ret (Nm [4] [.dat (I j)] [none] [[.dat (I f)], [.dat (I v)]] []))] (ob (rfl : _ = hd104 b es f v 0) (ob h2 ob0)) (by kernel_rfl)
theorem idxF_n (kk : Nat) (b : Bool) (es : List Dat) (f v : Int) (h2 : LoopAt cfg kk 57 Go.Proofs.Tryz.f57 2 (hd104 b es f v 0) (X.exit 0) (Nm [4] [D.junk] [none] [[D.dat (I f)], [D.dat (I v)]] [])) : runFn cfg kk (den cfg kk) 57 Go.Proofs.Tryz.f57 [.dat (Dat.lst b es), .fn 28 [.up 0, .up 1]] [[.dat (I f)], [.dat (I v)]] [] = some ([D.dat (I (-1))], [[D.dat (I f)], [D.dat (I v)]], []) :=
  hrun_ok [(300002, .loop (hd104 b es f v 0) (.exit 0) (Nm [4] [.junk] [none] [[.dat (I f)], [.dat (I v)]] []))] (ob (rfl : _ = hd104 b es f v 0) (ob h2 ob0)) (by kernel_rfl)
theorem shift1_no (kk : Nat) (x f v : Int) (h1 : decide (f ≤ x) = false) : runFn cfg kk (den cfg kk) 28 Go.Proofs.Tryz.f28 [.dat (I x), .ptr (.up 0) 0, .ptr (.up 1) 0] [[.dat (I f)], [.dat (I v)]] [] = some ([D.dat (B false)], [[D.dat (I f)], [D.dat (I v)]], []) :=
  hrun_ok [(200008, .no)] (ob h1 (ob (rfl : false = false) (ob (rfl : false = false) (ob (rfl : false = false) (ob (rfl : false = false) ob0))))) (by kernel_rfl)
theorem shift1_y (kk : Nat) (x f v : Int) (h1 : decide (f ≤ x) = true) : runFn cfg kk (den cfg kk) 28 Go.Proofs.Tryz.f28 [.dat (I x), .ptr (.up 0) 0, .ptr (.up 1) 0] [[.dat (I f)], [.dat (I v)]] [] = some ([D.dat (B (decide (w64 (x + v) < f)))], [[D.dat (I f)], [D.dat (I v)]], []) :=
  hrun_ok [(200008, .yes)] (ob h1 (ob (rfl : true = true) (ob (rfl : true = true) (ob (rfl : true = true) (ob (rfl : true = true) ob0))))) (by kernel_rfl)
end Go.Den
namespace Go.Den
open Go
set_option linter.unusedVariables false
set_option maxRecDepth 100000
/-- A loop over a term's parts. -/
theorem kids_loop {kk f : Nat} {fn : Func} {r : Nat} {x : X} {s' s0 : St} (t : Pt) (hk : 5 ≤ kk) (st : Nat → St)
    (hgo : ∀ (i : Nat) (y : Pt), t.kids[i]? = some y → y ∈ t.kids → decide ((i : Int) < ((t.kids.map Pt.d).length : Int)) = true → ((0 ≤ (i : Int) ∧ (i : Int) < ((t.kids.map Pt.d).length : Int)) ∧ (t.kids.map Pt.d)[(i : Int).toNat]? = some (T y.kd y.num (y.kids.map Pt.d))) → w64 ((i : Int) + 1) = ((i + 1 : Nat) : Int) →
      ∀ (m : Nat) (s : St) (K : X → St → Prop), s.norm ((envOf cfg kk f fn).live (firstRegion (lp fn r))) = st i → (∀ s : St, s.norm ((envOf cfg kk f fn).live (firstRegion (lp fn r))) = st (i + 1) → Rounds (envOf cfg kk f fn) kk (lp fn r) m s K) → Rounds (envOf cfg kk f fn) kk (lp fn r) (m + 1) s K)
    (hend : decide ((t.kids.length : Int) < ((t.kids.map Pt.d).length : Int)) = false → ∀ (m : Nat) (s : St) (K : X → St → Prop), s.norm ((envOf cfg kk f fn).live (firstRegion (lp fn r))) = st t.kids.length → K x s' → Rounds (envOf cfg kk f fn) kk (lp fn r) (m + 1) s K) (h0 : s0 = st 0) : LoopAt cfg kk f fn r s0 x s' := by
  have hle := t.kids_le
  refine loopAt_range st t.kids.length (by omega) (fun i hi m s K hs hn => ?_) (hend (decide_eq_false (by simp))) h0
  obtain ⟨y, h1, h2, h3⟩ := kid_at hi
  have hto : ((i : Int)).toNat = i := by simp
  exact hgo i y h1 h2 (decide_eq_true (by simp; omega)) ⟨⟨by omega, by simp; omega⟩, by rw [hto]; exact h3⟩ (by rw [w64_eq (by omega)]; rfl) m s K hs hn
theorem takeF_step {α β : Type} {ks : List α} {i : Nat} {x : α} (h : ks[i]? = some x) (g : α → List β) : (ks.take (i + 1)).flatMap g = (ks.take i).flatMap g ++ g x := by
  rw [List.take_add_one, h]
  simp
/-- The indices of the free variables, as they stand. -/
def fv : Pt → Int → List Int
  | .var n, a => if a ≤ n then [n - a] else []
  | .lam _ t, a => fv t (a + 1)
  | .app _ x y, a => fv x a ++ fv y a
def Pt.under (t : Pt) (a : Int) : Int := match t with | .lam _ _ => a + 1 | _ => a
theorem fv_kids (t : Pt) (a : Int) (h : ∀ n, t ≠ .var n) : fv t a = t.kids.flatMap fun x => fv x (t.under a) := by
  cases t with
  | var n => exact (h n rfl).elim
  | lam n x => simp [fv, Pt.kids, Pt.under]
  | app n x y => simp [fv, Pt.kids, Pt.under]
theorem fv_range : ∀ (t : Pt) (a : Int), t.nums = true → 0 ≤ a → ∀ z ∈ fv t a, 0 ≤ z ∧ z ≤ 99
  | .var n, a, h, ha, z, hz => by
    have h' : 0 ≤ n ∧ n ≤ 99 := by simpa [Pt.nums] using h
    simp only [fv] at hz
    split at hz
    · simp only [List.mem_singleton] at hz; omega
    · cases hz
  | .lam n t, a, h, ha, z, hz => by
    have h' : n = 0 ∧ t.nums = true := by simpa [Pt.nums] using h
    exact fv_range t (a + 1) h'.2 (by omega) z hz
  | .app n x y, a, h, ha, z, hz => by
    have h' : n = 0 ∧ x.nums = true ∧ y.nums = true := by simpa [Pt.nums] using h
    simp only [fv, List.mem_append] at hz
    rcases hz with hz | hz
    · exact fv_range x a h'.2.1 ha z hz
    · exact fv_range y a h'.2.2 ha z hz
theorem fv_length : ∀ (t : Pt) (a : Int), (fv t a).length ≤ t.size
  | .var n, a => by simp only [fv, Pt.size]; split <;> simp
  | .lam n t, a => by have := fv_length t (a + 1); simp only [fv, Pt.size]; omega
  | .app n x y, a => by have h1 := fv_length x a; have h2 := fv_length y a; simp only [fv, Pt.size, List.length_append]; omega
theorem ev_free : ∀ (d : Nat) (t : Pt) (a : Int) (out : List Int), t.depth ≤ d → t.within 1000000 → 0 ≤ a → a + t.depth ≤ 1000000 → out.length + t.size ≤ 1000000 →
    EvN (d + 10) 58 [.dat t.d, .dat (I a), .fn 59 [.up 0]] [[.own 3 (out.map I)]] [] ([], [[.own 3 ((out ++ fv t a).map I)]], [])
  | 0, t, a, out, hd, _, _, _, _ => by have := t.depth_pos; omega
  | d + 1, t, a, out, hd, hw, ha, had, ho => by
    refine ev_fn Go.Proofs.Tryz.f58 (d + 10) (by kernel_rfl) (by kernel_rfl) fun kk hkk => ?_
    have hwk : ∀ x ∈ t.kids, x.within 1000000 := by
      intro x hx
      cases t with
      | var n => cases hx
      | lam n y => simp only [Pt.kids, List.mem_singleton] at hx; subst hx; exact hw
      | app n y z =>
        have hw : y.within 1000000 ∧ z.within 1000000 := hw
        simp only [Pt.kids, List.mem_cons, List.not_mem_nil, or_false] at hx
        rcases hx with rfl | rfl
        · exact hw.1
        · exact hw.2
    have hloop : (∀ n, t ≠ .var n) → LoopAt cfg kk 58 Go.Proofs.Tryz.f58 6 (hd105 (t.under a) (t.kids.map Pt.d) (out.map I) 0) (X.exit 0) (Nm [] [] [] [[.own 3 ((out ++ fv t a).map I)]] []) := by
      intro hv
      refine kids_loop t (by omega) (fun i => hd105 (t.under a) (t.kids.map Pt.d) ((out ++ (t.kids.take i).flatMap fun x => fv x (t.under a)).map I) i) (fun i y hy hmem h1 h2 h3 m s K hs hn' => ?_) (fun h1 m s K hs hK => ?_) (by simp)
      · have hlt := Pt.kids_lt hmem
        have hu2 : t.under a ≤ a + 1 ∧ a ≤ t.under a := by cases t <;> simp [Pt.under] <;> omega
        have hsz : ((t.kids.take i).flatMap fun x => fv x (t.under a)).length + y.size ≤ t.size := by
          have h5 : ∀ ks : List Pt, (ks.flatMap fun x => fv x (t.under a)).length ≤ (ks.map Pt.size).sum := fun ks => by
            induction ks with
            | nil => simp
            | cons k ks ih => have := fv_length k (t.under a); simp only [List.flatMap_cons, List.length_append, List.map_cons, List.sum_cons]; omega
          have h6 := h5 (t.kids.take i)
          have h7 := sum_le (ks := t.kids) (i + 1)
          rw [List.take_add_one, hy] at h7
          simp only [List.map_append, List.sum_append, Option.toList_some, List.map_cons, List.map_nil, List.sum_cons, List.sum_nil] at h7
          have := t.size_kids
          omega
        have hr := ev_free d y (t.under a) (out ++ (t.kids.take i).flatMap fun x => fv x (t.under a)) (by omega) (hwk y hmem) (by omega) (by omega) (by simp only [List.length_append]; omega) kk (by omega)
        rw [Pt.d_eq y] at hr
        refine free_go kk m _ _ _ _ _ _ _ _ hs h1 h2 hr fun s' hs' => hn' s' ?_
        rw [hs', h3, takeF_step hy, List.append_assoc]
        rfl
      · refine free_end kk m _ _ _ _ hs h1 ?_
        rw [List.take_length, ← fv_kids t a hv]
        exact hK
    cases t with
    | var n =>
      have hw : -1000000 ≤ n ∧ n ≤ 1000000 := hw
      have hend : ∀ L : List Dat, LoopAt cfg kk 58 Go.Proofs.Tryz.f58 6 (hd105 a [] L 0) (X.exit 0) (Nm [] [] [] [[.own 3 L]] []) := fun L =>
        kids_loop (.var n) (by omega) (fun i => hd105 a [] L i) (fun i y hy => by simp [Pt.kids] at hy) (fun h1 m s K hs hK => free_end kk m _ _ _ _ hs h1 hK) rfl
      simp only [Pt.depth] at had
      simp only [Pt.size] at ho
      by_cases h : a ≤ n
      · have e : w64 (n - a) = n - a := w64_eq (by omega)
        have hfv : fv (.var n) a = [n - a] := by simp only [fv]; rw [if_pos h]
        rw [hfv]
        refine free_hit kk n a [] _ _ _ (decide_eq_true h) ?_ (hend _)
        rw [e]
        refine (ev_fn Go.Proofs.Tryz.f59 0 (by kernel_rfl) (by kernel_rfl) fun k2 _ => ?_) kk (by omega)
        have := freeIn1 k2 (n - a) (out.map I) (by simp; omega)
        rw [this]
        simp
      · have hfv : fv (.var n) a = [] := by simp only [fv]; rw [if_neg h]
        rw [hfv, List.append_nil]
        exact free_miss kk n a [] _ _ (decide_eq_false h) (hend _)
    | lam n x =>
      have e : w64 (a + 1) = a + 1 := w64_eq (by simp only [Pt.depth] at had; omega)
      have := hloop (fun _ h => by cases h)
      refine free_lam kk n a _ _ _ ?_
      rw [e]
      exact this
    | app n x y => exact free_app kk n a _ _ _ (hloop (fun _ h => by cases h))
/-- The free variables, sorted, each once. -/
def freeL (t : Pt) : List Int := Lib.compact ((fv t 0).mergeSort fun x y => decide (x ≤ y))
theorem den_ext {f k : Nat} {g : List D → List (List D) → List (Option Row) → Option (List D × List (List D) × List (Option Row))} (h : cfg.ext f = some g) (args : List D) (u : List (List D)) (l : List (Option Row)) : den cfg (k + 1) f args u l = g args u l := by
  simp only [den, h]
theorem ev_Sort (zs : List Int) (h : zs.length ≤ 1000000) : EvN 1 60 [.bor (.lent 0) none] [] [some (3, zs.map I)] ([], [], [some (3, (zs.mergeSort fun x y => decide (x ≤ y)).map I)]) := fun k hk => by
  obtain ⟨m, rfl⟩ : ∃ m, k = m + 1 := ⟨k - 1, by omega⟩
  rw [den_ext (g := extSort 3) (by kernel_rfl)]
  have e : intsOf (zs.map I) = some zs := intsOf_map zs
  have e2 : Nat.ble (zs.map I).length 1000000 = true := Nat.ble_eq_true_of_le (by simpa using h)
  show (match Nat.ble (zs.map I).length 1000000 with | true => sortI (zs.map I) | false => none).map (fun es' => (([], [], [some (3, es')]) : List D × List (List D) × List (Option Row))) = _
  rw [e2]
  simp only [sortI, e, Option.map_some]
  rfl
theorem ev_Compact (zs : List Int) (h : zs.length ≤ 1000000) : EvN 1 61 [.own 3 (zs.map I)] [] [] ([.own 3 ((Lib.compact zs).map I)], [], []) := fun k hk => by
  obtain ⟨m, rfl⟩ : ∃ m, k = m + 1 := ⟨k - 1, by omega⟩
  rw [den_ext (g := extComp 3) (by kernel_rfl)]
  have e : intsOf (zs.map I) = some zs := intsOf_map zs
  have e2 : Nat.ble (zs.map I).length 1000000 = true := Nat.ble_eq_true_of_le (by simpa using h)
  show (match Nat.ble (zs.map I).length 1000000 with | true => compI (zs.map I) | false => none).map (fun es' => (([.own 3 es'], [], []) : List D × List (List D) × List (Option Row))) = _
  rw [e2]
  simp only [compI, e, Option.map_some]
  rfl
theorem ev_freeIn (t : Pt) (hg : t.good = true) : EvN 100 27 [.dat t.d] [] [] ([.own 3 ((freeL t).map I)], [], []) := by
  refine (ev_fn Go.Proofs.Tryz.f27 80 (by kernel_rfl) (by kernel_rfl) fun kk hkk => ?_).mono (by omega)
  have hsm := good_small hg
  have hl := fv_length t 0
  have a1 := ev_free 40 t 0 [] hsm.2.1 hsm.2.2 (by omega) (by have := hsm.2.1; omega) (by simpa using (show t.size ≤ 1000000 by omega)) kk (by omega)
  have a2 := ev_Sort (fv t 0) (by omega) kk (by omega)
  have a3 := ev_Compact ((fv t 0).mergeSort fun x y => decide (x ≤ y)) (by simp; omega) kk (by omega)
  rw [Pt.d_eq] at a1 ⊢
  simp only [List.nil_append] at a1
  exact freeIn kk _ _ _ _ _ _ a1 a2 a3
theorem compact_mem (zs : List Int) (x : Int) : x ∈ Lib.compact zs ↔ x ∈ zs := by
  unfold Lib.compact Lib.compactUpTo
  simp only [List.mem_map, List.mem_filter, List.mem_range]
  constructor
  · rintro ⟨j, ⟨h1, _⟩, rfl⟩
    have : (zs.toArray[j]!) = zs[j] := by simp [h1]
    rw [this]
    exact List.getElem_mem h1
  · intro hx
    obtain ⟨j, hj, rfl⟩ := List.getElem_of_mem hx
    have key : ∀ j, (hj : j < zs.length) → ∃ i, (i < zs.length ∧ Lib.keeps zs.toArray i = true) ∧ zs.toArray[i]! = zs[j] := by
      intro j
      induction j with
      | zero => intro hj; exact ⟨0, ⟨hj, by simp [Lib.keeps]⟩, by simp [hj]⟩
      | succ j ih =>
        intro hj
        cases hk : Lib.keeps zs.toArray (j + 1) with
        | true => exact ⟨j + 1, ⟨hj, hk⟩, by simp [hj]⟩
        | false =>
          have h2 : zs[j + 1] = zs[j] := by
            simp [Lib.keeps] at hk
            have e1 : zs.toArray[j + 1]! = zs[j + 1] := by simp [hj]
            have e2 : zs.toArray[j]! = zs[j] := by simp [show j < zs.length by omega]
            first
              | (rw [← e1, ← e2]; simpa using hk)
              | (simp at hk; simpa using hk)
          obtain ⟨i, hi, he⟩ := ih (by omega)
          exact ⟨i, hi, by rw [he, h2]⟩
    obtain ⟨i, hi, he⟩ := key j hj
    exact ⟨i, hi, he⟩
theorem freeL_mem (t : Pt) (x : Int) : x ∈ freeL t ↔ x ∈ fv t 0 := by
  unfold freeL
  rw [compact_mem]
  simp
end Go.Den
namespace Go.Den
open Go
set_option linter.unusedVariables false
set_option maxRecDepth 100000
/-- What a good term's nodes are, if it is good. -/
def told (t : Pt) : List Nd × Bool := (if t.good = true then t.flat 0 (-1) else [], t.good)
theorem told_len (t : Pt) : (told t).1.length ≤ 150 := by
  unfold told
  simp only
  split
  · rename_i hg
    rw [Pt.flat_length]
    exact (good_facts hg).1
  · simp
/-- No free variable from f on comes below f. -/
def shOk (b : Int) : Int → Pt → Bool
  | f, .var n => if f ≤ n then decide (f ≤ n + b) else true
  | f, .lam _ t => shOk b (f + 1) t
  | f, .app _ x y => shOk b f x && shOk b f y
theorem shOk_kids (b f : Int) (t : Pt) (h : ∀ n, t ≠ .var n) : shOk b f t = t.kids.all (shOk b (t.under f)) := by
  cases t with
  | var n => exact (h n rfl).elim
  | lam n x => simp [shOk, Pt.kids, Pt.under]
  | app n x y => simp [shOk, Pt.kids, Pt.under]
theorem within_kids {t x : Pt} {M : Int} (h : t.within M) (hx : x ∈ t.kids) : x.within M := by
  cases t with
  | var n => cases hx
  | lam n y => simp only [Pt.kids, List.mem_singleton] at hx; subst hx; exact h
  | app n y z =>
    have h : y.within M ∧ z.within M := h
    simp only [Pt.kids, List.mem_cons, List.not_mem_nil, or_false] at hx
    rcases hx with rfl | rfl
    · exact h.1
    · exact h.2
theorem ev_lcShiftG (b : Int) (hb : -1000000 ≤ b ∧ b ≤ 1000000) : ∀ (d : Nat) (t : Pt) (f : Int), t.depth ≤ d → 0 ≤ f → f + t.depth ≤ 1000000 → t.within 1000000 →
    (shOk b f t = true → EvN (d + 10) 31 [.dat t.d, .dat (I b), .dat (I f)] [] [] ([.dat (sh b f t).d, .dat (B true)], [], [])) ∧
    (shOk b f t = false → ∃ (k n : Int) (ds : List Dat), EvN (d + 10) 31 [.dat t.d, .dat (I b), .dat (I f)] [] [] ([.dat (T k n ds), .dat (B false)], [], []))
  | 0, t, f, hd, _, _, _ => by have := t.depth_pos; omega
  | d + 1, t, f, hd, h0, h1, hw => by
    have hu : f ≤ t.under f ∧ t.under f ≤ f + 1 := by cases t <;> simp [Pt.under] <;> omega
    have ih : ∀ x ∈ t.kids, _ := fun x hx => ev_lcShiftG b hb d x (t.under f) (by have := Pt.kids_lt hx; omega) (by omega) (by have := Pt.kids_lt hx; omega) (within_kids hw hx)
    have hround : ∀ (kk : Nat), d + 10 ≤ kk → ∀ (i : Nat) (x : Pt), t.kids[i]? = some x → x ∈ t.kids → shOk b (t.under f) x = true → decide ((i : Int) < ((t.kids.map Pt.d).length : Int)) = true → ((0 ≤ (i : Int) ∧ (i : Int) < ((t.kids.map Pt.d).length : Int)) ∧ (t.kids.map Pt.d)[(i : Int).toNat]? = some (T x.kd x.num (x.kids.map Pt.d))) → w64 ((i : Int) + 1) = ((i + 1 : Nat) : Int) →
        ∀ (m : Nat) (s : St) (K : X → St → Prop), s.norm ((envOf cfg kk 31 Go.Proofs.Tryz.f31).live (firstRegion (lp Go.Proofs.Tryz.f31 9))) = hd70 b (t.under f) t.kd t.num (t.kids.map Pt.d) (((t.kids.take i).map (sh b (t.under f))).map Pt.d) i → (∀ s : St, s.norm ((envOf cfg kk 31 Go.Proofs.Tryz.f31).live (firstRegion (lp Go.Proofs.Tryz.f31 9))) = hd70 b (t.under f) t.kd t.num (t.kids.map Pt.d) (((t.kids.take (i + 1)).map (sh b (t.under f))).map Pt.d) ((i + 1 : Nat) : Int) → Rounds (envOf cfg kk 31 Go.Proofs.Tryz.f31) kk (lp Go.Proofs.Tryz.f31 9) m s K) → Rounds (envOf cfg kk 31 Go.Proofs.Tryz.f31) kk (lp Go.Proofs.Tryz.f31 9) (m + 1) s K := by
      intro kk hkk i x hx hm hok g1 g2 g3 m s K hs hn
      have he := (ih x hm).1 hok kk (by omega)
      rw [Pt.d_eq x, Pt.d_eq (sh b (t.under f) x)] at he
      have hle := t.kids_le
      refine lcShift_go kk m _ _ _ _ _ _ _ _ _ _ _ _ _ hs g1 g2 he (by simp; omega) fun s' hs' => hn s' ?_
      rw [hs', g3, List.take_add_one, hx]
      simp only [List.map_append, Option.toList_some, List.map_cons, List.map_nil]
      rw [← Pt.d_eq]
      rfl
    have hy : ∀ (kk : Nat), d + 10 ≤ kk → t.kids.all (shOk b (t.under f)) = true → LoopAt cfg kk 31 Go.Proofs.Tryz.f31 9 (hd70 b (t.under f) t.kd t.num (t.kids.map Pt.d) [] 0) (X.exit 0) (Nm [6, 7, 8] [.ptr (.loc 6) 0, .junk, .ptr (.loc 8) 0] [some [.dat (I 0), .dat (I 0), .own 54 []], none, some [.dat (I t.kd), .dat (I 0), .own 54 ((t.kids.map (sh b (t.under f))).map Pt.d)]] [] []) := by
      intro kk hkk hall
      rw [List.all_eq_true] at hall
      refine kids_loop t (by omega) (fun i => hd70 b (t.under f) t.kd t.num (t.kids.map Pt.d) (((t.kids.take i).map (sh b (t.under f))).map Pt.d) i) (fun i x hx hm g1 g2 g3 m s K hs hn => hround kk hkk i x hx hm (hall x hm) g1 g2 g3 m s K hs hn) (fun g1 m s K hs hK => ?_) (by simp)
      refine lcShift_end kk m _ _ _ _ _ _ _ hs g1 ?_
      rw [List.take_length]
      exact hK
    have hno : ∀ (kk : Nat), d + 10 ≤ kk → t.kids.all (shOk b (t.under f)) = false → ∃ out, LoopAt cfg kk 31 Go.Proofs.Tryz.f31 9 (hd70 b (t.under f) t.kd t.num (t.kids.map Pt.d) [] 0) X.ret (Nm [6, 7, 8] [.ptr (.loc 6) 0, .dat (B false), .ptr (.loc 8) 0] [some [.dat (I t.kd), .dat (I t.num), .dat (.lst false (t.kids.map Pt.d))], none, some [.dat (I t.kd), .dat (I 0), .own 54 out]] [] []) := by
      intro kk hkk hall
      obtain ⟨j, x, hj, hbad, hbef⟩ := first_bad _ hall
      have hjl := (List.getElem?_eq_some_iff.1 hj).1
      have hle := t.kids_le
      refine ⟨((t.kids.take j).map (sh b (t.under f))).map Pt.d, ?_⟩
      refine loopAt_range (fun i => hd70 b (t.under f) t.kd t.num (t.kids.map Pt.d) (((t.kids.take i).map (sh b (t.under f))).map Pt.d) i) j (by omega) (fun i hi m s K hs hn => ?_) (fun m s K hs hK => ?_) (by simp)
      · obtain ⟨y, q1, q2, q3⟩ := kid_at (ks := t.kids) (i := i) (by omega)
        have hto : ((i : Int)).toNat = i := by simp
        exact hround kk hkk i y q1 q2 (hbef i y hi q1) (decide_eq_true (by simp; omega)) ⟨⟨by omega, by simp; omega⟩, by rw [hto]; exact q3⟩ (by rw [w64_eq (by omega)]; rfl) m s K hs hn
      · obtain ⟨y, q1, q2, q3⟩ := kid_at hjl
        rw [hj] at q1
        cases q1
        have hto : ((j : Int)).toNat = j := by simp
        obtain ⟨k', n', ds', e⟩ := (ih x q2).2 hbad
        have e := e kk (by omega)
        rw [Pt.d_eq x] at e
        exact lcShift_bad kk m _ _ _ _ _ _ _ _ _ _ _ _ _ hs (decide_eq_true (by simp; omega)) ⟨⟨by omega, by simp; omega⟩, by rw [hto]; exact q3⟩ e hK
    have hrun : ∀ (rs : List D), (∀ kk, d + 10 ≤ kk → runFn cfg kk (den cfg kk) 31 Go.Proofs.Tryz.f31 [.dat t.d, .dat (I b), .dat (I f)] [] [] = some (rs, [], [])) → EvN (d + 1 + 10) 31 [.dat t.d, .dat (I b), .dat (I f)] [] [] (rs, [], []) := fun rs h => ev_fn Go.Proofs.Tryz.f31 (d + 10) (by kernel_rfl) (by kernel_rfl) h
    cases t with
    | var n =>
      have hw : -1000000 ≤ n ∧ n ≤ 1000000 := hw
      have e : w64 (n + b) = n + b := w64_eq (by omega)
      by_cases hn : f ≤ n
      · have hs : ∀ kk, d + 10 ≤ kk → _ := fun kk hkk => lcShift_hi kk n b f [] (decide_eq_false (by omega)) (by rw [e]; exact ev_lcVar _ kk (by omega))
        rw [e] at hs
        refine ⟨fun hok => hrun _ fun kk hkk => ?_, fun hok => ⟨1, n + b, [], hrun _ fun kk hkk => ?_⟩⟩
        · simp only [shOk, if_pos hn] at hok
          have := hs kk hkk
          rw [hok] at this
          simp only [sh]
          rw [if_pos hn]
          exact this
        · simp only [shOk, if_pos hn] at hok
          have := hs kk hkk
          rw [hok] at this
          exact this
      · refine ⟨fun hok => hrun _ fun kk hkk => ?_, fun hok => ?_⟩
        · simp only [sh]
          rw [if_neg hn]
          exact lcShift_lo kk n b f [] (decide_eq_true (by omega))
        · simp only [shOk, if_neg hn] at hok
          cases hok
    | lam n x =>
      simp only [Pt.depth] at hd h1
      have e : w64 (f + 1) = f + 1 := w64_eq (by omega)
      have hall := shOk_kids b f (.lam n x) (fun _ h => by cases h)
      refine ⟨fun hok => hrun _ fun kk hkk => ?_, fun hok => ?_⟩
      · rw [hall] at hok
        refine lcShift_lam_y kk n b f [x.d] [(sh b (f + 1) x).d] ?_
        rw [e]
        exact hy kk hkk hok
      · rw [hall] at hok
        refine ⟨2, n, [x.d], hrun _ fun kk hkk => ?_⟩
        obtain ⟨out, ho⟩ := hno kk hkk hok
        refine lcShift_lam_n kk n b f [x.d] out ?_
        rw [e]
        exact ho
    | app n x y =>
      have hall := shOk_kids b f (.app n x y) (fun _ h => by cases h)
      refine ⟨fun hok => hrun _ fun kk hkk => ?_, fun hok => ?_⟩
      · rw [hall] at hok
        exact lcShift_app_y kk n b f [x.d, y.d] [(sh b f x).d, (sh b f y).d] (hy kk hkk hok)
      · rw [hall] at hok
        refine ⟨3, n, [x.d, y.d], hrun _ fun kk hkk => ?_⟩
        obtain ⟨out, ho⟩ := hno kk hkk hok
        exact lcShift_app_n kk n b f [x.d, y.d] out ho
theorem shOk_fv (b : Int) : ∀ (t : Pt) (f a : Int), 0 ≤ a → 0 ≤ f → shOk b (f + a) t = !(fv t a).any fun z => decide (f ≤ z) && decide (z + b < f)
  | .var n, f, a, ha, hf => by
    simp only [shOk, fv]
    by_cases h1 : f + a ≤ n
    · rw [if_pos h1, if_pos (by omega)]
      simp only [List.any_cons, List.any_nil, Bool.or_false]
      have e1 : decide (f ≤ n - a) = true := decide_eq_true (by omega)
      rw [e1, Bool.true_and]
      by_cases h2 : f + a ≤ n + b
      · rw [decide_eq_true h2, decide_eq_false (by omega)]; rfl
      · rw [decide_eq_false h2, decide_eq_true (by omega)]; rfl
    · rw [if_neg h1]
      split
      · simp only [List.any_cons, List.any_nil, Bool.or_false]
        have e1 : decide (f ≤ n - a) = false := decide_eq_false (by omega)
        rw [e1]
        rfl
      · rfl
  | .lam n t, f, a, ha, hf => by
    have := shOk_fv b t f (a + 1) (by omega) hf
    simp only [shOk, fv]
    rw [show f + a + 1 = f + (a + 1) by omega]
    exact this
  | .app n x y, f, a, ha, hf => by
    simp only [shOk, fv, shOk_fv b x f a ha hf, shOk_fv b y f a ha hf, List.any_append, Bool.not_or]
/-- 'ContainsFunc' with the program's question. -/
theorem ev_contF (zs : List Int) (b : Bool) (f v : Int) (hl : zs.length ≤ 1000) (hz : ∀ z ∈ zs, 0 ≤ z ∧ z ≤ 99) (hv : -1000 ≤ v ∧ v ≤ 1000) :
    EvN 2000 26 [.dat (.lst b (zs.map I)), .fn 28 [.up 0, .up 1]] [[.dat (I f)], [.dat (I v)]] [] ([.dat (B (zs.any fun z => decide (f ≤ z) && decide (z + v < f)))], [[.dat (I f)], [.dat (I v)]], []) := by
  have hq : ∀ z, 0 ≤ z ∧ z ≤ 99 → EvN 1 28 [.dat (I z), .ptr (.up 0) 0, .ptr (.up 1) 0] [[.dat (I f)], [.dat (I v)]] [] ([.dat (B (decide (f ≤ z) && decide (z + v < f)))], [[.dat (I f)], [.dat (I v)]], []) := by
    intro z hz
    refine ev_fn Go.Proofs.Tryz.f28 0 (by kernel_rfl) (by kernel_rfl) fun kk _ => ?_
    have e : w64 (z + v) = z + v := w64_eq (by omega)
    by_cases h : f ≤ z
    · have := shift1_y kk z f v (decide_eq_true h)
      rw [this, e, decide_eq_true h, Bool.true_and]
    · have := shift1_no kk z f v (decide_eq_false h)
      rw [this, decide_eq_false h, Bool.false_and]
  have hml : (zs.map I).length = zs.length := by simp
  have hget : ∀ (i : Nat) (z : Int), zs[i]? = some z → (zs.map I)[((i : Int)).toNat]? = some (I z) := fun i z h => by
    rw [show ((i : Int)).toNat = i by simp, List.getElem?_map, h]; rfl
  have hidx : ∃ j : Int, EvN 1501 57 [.dat (.lst b (zs.map I)), .fn 28 [.up 0, .up 1]] [[.dat (I f)], [.dat (I v)]] [] ([.dat (I j)], [[.dat (I f)], [.dat (I v)]], []) ∧ decide (0 ≤ j) = zs.any fun z => decide (f ≤ z) && decide (z + v < f) := by
    cases h : zs.any fun z => decide (f ≤ z) && decide (z + v < f) with
    | true =>
      have hall : zs.all (fun z => !(decide (f ≤ z) && decide (z + v < f))) = false := by
        cases hc : zs.all (fun z => !(decide (f ≤ z) && decide (z + v < f))) with
        | false => rfl
        | true =>
          rw [List.all_eq_true] at hc
          obtain ⟨z, h1, h2⟩ := List.any_eq_true.1 h
          have := hc z h1
          rw [h2] at this
          cases this
      obtain ⟨j, z, h1, h2, h3⟩ := first_bad _ hall
      have hj := (List.getElem?_eq_some_iff.1 h1).1
      refine ⟨j, ?_, decide_eq_true (by omega)⟩
      refine ev_fn Go.Proofs.Tryz.f57 1500 (by kernel_rfl) (by kernel_rfl) fun kk hkk => ?_
      refine idxF_y kk b _ f v j ?_
      refine loopAt_range (fun i => hd104 b (zs.map I) f v i) j (by omega) (fun i hi m s K hs hn => ?_) (fun m s K hs hK => ?_) rfl
      · have hi2 : i < zs.length := by omega
        have hy := List.getElem?_eq_getElem hi2
        have hp : (decide (f ≤ zs[i]) && decide (zs[i] + v < f)) = false := by
          have := h3 i _ hi hy
          cases hc : (decide (f ≤ zs[i]) && decide (zs[i] + v < f)) with
          | false => rfl
          | true => rw [hc] at this; cases this
        have hqq := hq zs[i] (hz _ (List.getElem_mem hi2)) kk (by omega)
        rw [hp] at hqq
        refine idxF_go kk m b _ f v i zs[i] hs (decide_eq_true (by omega)) ⟨⟨by omega, by omega⟩, hget i _ hy⟩ hqq fun s' hs' => hn s' ?_
        rw [hs', w64_eq (n := (i : Int) + 1) (by omega)]
        rfl
      · have hp : (decide (f ≤ z) && decide (z + v < f)) = true := by
          cases hc : (decide (f ≤ z) && decide (z + v < f)) with
          | true => rfl
          | false => rw [hc] at h2; cases h2
        have hqq := hq z (hz _ (List.mem_of_getElem? h1)) kk (by omega)
        rw [hp] at hqq
        exact idxF_hit kk m b _ f v j z hs (decide_eq_true (by omega)) ⟨⟨by omega, by omega⟩, hget j _ h1⟩ hqq hK
    | false =>
      refine ⟨-1, ?_, rfl⟩
      refine ev_fn Go.Proofs.Tryz.f57 1500 (by kernel_rfl) (by kernel_rfl) fun kk hkk => ?_
      refine idxF_n kk b _ f v ?_
      refine loopAt_range (fun i => hd104 b (zs.map I) f v i) zs.length (by omega) (fun i hi m s K hs hn => ?_) (fun m s K hs hK => ?_) rfl
      · have hy := List.getElem?_eq_getElem hi
        have hp : (decide (f ≤ zs[i]) && decide (zs[i] + v < f)) = false := by
          cases hc : (decide (f ≤ zs[i]) && decide (zs[i] + v < f)) with
          | false => rfl
          | true =>
            have : zs.any (fun z => decide (f ≤ z) && decide (z + v < f)) = true := List.any_eq_true.2 ⟨_, List.getElem_mem hi, hc⟩
            rw [h] at this
            cases this
        have hqq := hq zs[i] (hz _ (List.getElem_mem hi)) kk (by omega)
        rw [hp] at hqq
        refine idxF_go kk m b _ f v i zs[i] hs (decide_eq_true (by omega)) ⟨⟨by omega, by omega⟩, hget i _ hy⟩ hqq fun s' hs' => hn s' ?_
        rw [hs', w64_eq (n := (i : Int) + 1) (by omega)]
        rfl
      · exact idxF_end kk m b _ f v _ hs (decide_eq_false (by omega)) hK
  obtain ⟨j, e1, e2⟩ := hidx
  refine (ev_fn Go.Proofs.Tryz.f26 1600 (by kernel_rfl) (by kernel_rfl) fun kk hkk => ?_).mono (by omega)
  rw [← e2]
  exact contF kk b _ f v j (e1 kk (by omega))
def shiftN (L : List Nd) (v w : Int) : List Nd × Bool :=
  match termOfP L with
  | some t => if ((-99 ≤ v ∧ v ≤ 99) ∧ (0 ≤ w ∧ w ≤ 99)) ∧ shOk v w t = true then told (sh v w t) else ([], false)
  | none => ([], false)
theorem shiftN_len (L : List Nd) (v w : Int) : (shiftN L v w).1.length ≤ 150 := by
  unfold shiftN
  split
  · split
    · exact told_len _
    · simp
  · simp
theorem ev_sShift (L : List Nd) (b : Bool) (v w : Int) (hL : L.length ≤ 1048576) : EvN 1001500 11 [.dat (.lst b (L.map Nd.d)), .dat (I v), .dat (I w)] [] [] ([.own 60 ((shiftN L v w).1.map Nd.d), .dat (B (shiftN L v w).2)], [], []) := by
  refine (ev_fn Go.Proofs.Tryz.f11 1001400 (by kernel_rfl) (by kernel_rfl) fun kk hkk => ?_).mono (by omega)
  have g := ev_GoodTerm L b hL kk (by omega)
  have i1 := ev_l1In v (-99) 99 kk (by omega)
  have i2 := ev_l1In w 0 99 kk (by omega)
  rw [goodS_term] at g
  unfold shiftN
  cases h1 : termOfP L with
  | none => rw [h1] at g; exact sShift_no1 kk b _ v w g
  | some t =>
    rw [h1] at g
    simp only
    by_cases hv : -99 ≤ v ∧ v ≤ 99
    · rw [decide_eq_true hv.1, decide_eq_true hv.2] at i1
      by_cases hw : 0 ≤ w ∧ w ≤ 99
      · rw [decide_eq_true hw.1, decide_eq_true hw.2] at i2
        have hsm := good_small ((termOfP_iff L t).1 h1).1
        have a3 := ev_tree b h1 kk (by omega)
        obtain ⟨hy, hn⟩ := ev_lcShiftG v (by omega) 40 t w hsm.2.1 hw.1 (by omega) hsm.2.2
        rw [Pt.d_eq t] at a3
        cases hok : shOk v w t with
        | true =>
          rw [if_pos ⟨⟨hv, hw⟩, rfl⟩]
          have a4 := hy hok kk (by omega)
          have hz := sh_size v t w
          have a5 := ev_lcTold (sh v w t) (by omega) kk (by omega)
          rw [Pt.d_eq t, Pt.d_eq (sh v w t)] at a4
          rw [Pt.d_eq (sh v w t)] at a5
          exact sShift_go kk b _ v w _ _ _ _ _ _ _ _ g i1 i2 a3 a4 a5
        | false =>
          rw [if_neg (fun h => by cases h.2)]
          obtain ⟨k, n, ds, e⟩ := hn hok
          have a4 := e kk (by omega)
          rw [Pt.d_eq t] at a4
          exact sShift_no4 kk b _ v w _ _ _ _ _ _ g i1 i2 a3 a4
      · rw [if_neg (fun h => hw h.1.2)]
        have e : (decide (0 ≤ w) && decide (w ≤ 99)) = false := by simpa using hw
        rw [e] at i2
        exact sShift_no3 kk b _ v w g i1 i2
    · rw [if_neg (fun h => hv h.1.1)]
      have e : (decide (-99 ≤ v) && decide (v ≤ 99)) = false := by simpa using hv
      rw [e] at i1
      exact sShift_no2 kk b _ v w g i1
theorem ev_iShift (L : List Nd) (b : Bool) (v w : Int) (hL : L.length ≤ 1048576) : EvN 4000 10 [.dat (.lst b (L.map Nd.d)), .dat (I v), .dat (I w)] [] [] ([.own 60 ((shiftN L v w).1.map Nd.d), .dat (B (shiftN L v w).2)], [], []) := by
  refine (ev_fn Go.Proofs.Tryz.f10 3900 (by kernel_rfl) (by kernel_rfl) fun kk hkk => ?_).mono (by omega)
  obtain ⟨hy, hn⟩ := ev_termOf L b hL
  unfold shiftN
  cases h1 : termOfP L with
  | none =>
    obtain ⟨k, n, ds, e⟩ := hn h1
    exact iShift_no1 kk b _ v w _ _ _ (e kk (by omega))
  | some t =>
    have a1 := hy t h1 kk (by omega)
    rw [Pt.d_eq t] at a1
    simp only
    by_cases c1 : v < -99
    · rw [if_neg (by omega)]; exact iShift_no2 kk b _ v w _ _ _ a1 (decide_eq_true c1)
    by_cases c2 : 99 < v
    · rw [if_neg (by omega)]; exact iShift_no3 kk b _ v w _ _ _ a1 (decide_eq_false c1) (decide_eq_true c2)
    by_cases c3 : w < 0
    · rw [if_neg (by omega)]; exact iShift_no4 kk b _ v w _ _ _ a1 (decide_eq_false c1) (decide_eq_false c2) (decide_eq_true c3)
    by_cases c4 : 99 < w
    · rw [if_neg (by omega)]; exact iShift_no5 kk b _ v w _ _ _ a1 (decide_eq_false c1) (decide_eq_false c2) (decide_eq_false c3) (decide_eq_true c4)
    have hg := ((termOfP_iff L t).1 h1).1
    have hsm := good_small hg
    have hnum := (good_facts hg).2.2
    have a2 := ev_freeIn t hg kk (by omega)
    have hlen : (freeL t).length ≤ 1000 := by
      have h2 := comp_le ((fv t 0).mergeSort fun x y => decide (x ≤ y))
      have h3 := fv_length t 0
      simp only [List.length_mergeSort] at h2
      unfold freeL
      omega
    have a3 := ev_contF (freeL t) true w v hlen (fun z hz => fv_range t 0 hnum (by omega) z ((freeL_mem t z).1 hz)) (by omega) kk (by omega)
    have hany : ((freeL t).any fun z => decide (w ≤ z) && decide (z + v < w)) = !shOk v w t := by
      have h5 := shOk_fv v t w 0 (by omega) (by omega)
      rw [Int.add_zero] at h5
      rw [h5, Bool.not_not, Bool.eq_iff_iff, List.any_eq_true, List.any_eq_true]
      constructor
      · rintro ⟨z, hz, hp⟩; exact ⟨z, (freeL_mem t z).1 hz, hp⟩
      · rintro ⟨z, hz, hp⟩; exact ⟨z, (freeL_mem t z).2 hz, hp⟩
    rw [hany] at a3
    rw [Pt.d_eq t] at a2
    cases hok : shOk v w t with
    | false =>
      rw [hok] at a3
      rw [if_neg (fun h => by cases h.2)]
      exact iShift_no6 kk b _ v w _ _ _ _ a1 (decide_eq_false c1) (decide_eq_false c2) (decide_eq_false c3) (decide_eq_false c4) a2 a3
    | true =>
      rw [hok] at a3
      rw [if_pos ⟨by omega, rfl⟩]
      have hz := sh_size v t w
      have a4 := ev_shift t v w (by omega) (by omega) (by omega) hsm.2.2 kk (by omega)
      have a5 := ev_goodNodes (sh v w t) (by omega) kk (by omega)
      rw [Pt.d_eq t, Pt.d_eq (sh v w t)] at a4
      rw [Pt.d_eq (sh v w t)] at a5
      exact iShift_go kk b _ v w _ _ _ _ _ _ _ _ _ a1 (decide_eq_false c1) (decide_eq_false c2) (decide_eq_false c3) (decide_eq_false c4) a2 a3 a4 a5
end Go.Den
namespace Go.Den
open Go
set_option linter.unusedVariables false
set_option maxRecDepth 100000
theorem text_var (kk : Nat) (n : Int) (ps : List Dat) (c : ByteArray) (h1 : den cfg kk 49 [D.dat (I n)] [] [] = some ([D.dat (Dat.val (Value.string c))], [], [])) : runFn cfg kk (den cfg kk) 20 Go.Proofs.Tryz.f20 [.dat (T 1 n ps)] [] [] = some ([D.dat (Dat.val (Value.string c))], [], []) :=
  hrun_ok [(9, .ret [.dat (S c)])] (ob h1 ob0) (by kernel_rfl)
theorem text_lam (kk : Nat) (n : Int) (ps : List Dat) (c : ByteArray) (ka na : Int) (da : List Dat) (h1 : ((0 : Int) ≤ 0 ∧ 0 < ((T ka na da :: ps).length : Int)) ∧ some (T ka na da) = some (T ka na da)) (h2 : den cfg kk 20 [D.dat (T ka na da)] [] [] = some ([D.dat (Dat.val (Value.string c))], [], [])) (h3 : 1 + c.size ≤ 9223372036854775807) : runFn cfg kk (den cfg kk) 20 Go.Proofs.Tryz.f20 [.dat (T 2 n (T ka na da :: ps))] [] [] = some ([D.dat (Dat.val (Value.string ({ data := #[92] } ++ c)))], [], []) :=
  hrun_ok [(14, .at (T ka na da)), (16, .ret [.dat (S c)]), (17, .ok)] (ob h1 (ob h2 (ob h3 ob0))) (by kernel_rfl)
theorem text_app (kk : Nat) (n : Int) (ps : List Dat) (c e : ByteArray) (ka na : Int) (da : List Dat) (kb nb : Int) (db : List Dat) (h1 : ((0 : Int) ≤ 0 ∧ 0 < ((T ka na da :: T kb nb db :: ps).length : Int)) ∧ some (T ka na da) = some (T ka na da)) (h2 : ((0 : Int) ≤ 1 ∧ 1 < ((T ka na da :: T kb nb db :: ps).length : Int)) ∧ some (T kb nb db) = some (T kb nb db)) (h3 : den cfg kk 20 [D.dat (T ka na da)] [] [] = some ([D.dat (Dat.val (Value.string c))], [], [])) (h4 : 1 + c.size ≤ 9223372036854775807) (h5 : ({ data := #[40] } ++ c).size + 1 ≤ 9223372036854775807) (h6 : den cfg kk 20 [D.dat (T kb nb db)] [] [] = some ([D.dat (Dat.val (Value.string e))], [], [])) (h7 : ({ data := #[40] } ++ c ++ { data := #[32] }).size + e.size ≤ 9223372036854775807) (h8 : ({ data := #[40] } ++ c ++ { data := #[32] } ++ e).size + 1 ≤ 9223372036854775807) : runFn cfg kk (den cfg kk) 20 Go.Proofs.Tryz.f20 [.dat (T 3 n (T ka na da :: T kb nb db :: ps))] [] [] = some ([D.dat (Dat.val (Value.string ({ data := #[40] } ++ c ++ { data := #[32] } ++ e ++ { data := #[41] })))], [], []) :=
  hrun_ok [(20, .at (T ka na da)), (27, .at (T kb nb db)), (22, .ret [.dat (S c)]), (29, .ret [.dat (S e)]), (23, .ok), (24, .ok), (30, .ok), (31, .ok)] (ob h1 (ob h2 (ob h3 (ob h4 (ob h5 (ob h6 (ob h7 (ob h8 ob0)))))))) (by kernel_rfl)
theorem lcText_var (kk : Nat) (n : Int) (ps : List Dat) (c : ByteArray) (h1 : den cfg kk 51 [D.dat (I n)] [] [] = some ([D.dat (Dat.val (Value.string c))], [], [])) : runFn cfg kk (den cfg kk) 22 Go.Proofs.Tryz.f22 [.dat (T 1 n ps)] [] [] = some ([D.dat (Dat.val (Value.string c))], [], []) :=
  hrun_ok [(9, .ret [.dat (S c)])] (ob h1 ob0) (by kernel_rfl)
theorem lcText_lam (kk : Nat) (n : Int) (ps : List Dat) (c : ByteArray) (ka na : Int) (da : List Dat) (h1 : ((0 : Int) ≤ 0 ∧ 0 < ((T ka na da :: ps).length : Int)) ∧ some (T ka na da) = some (T ka na da)) (h2 : den cfg kk 22 [D.dat (T ka na da)] [] [] = some ([D.dat (Dat.val (Value.string c))], [], [])) (h3 : 1 + c.size ≤ 9223372036854775807) : runFn cfg kk (den cfg kk) 22 Go.Proofs.Tryz.f22 [.dat (T 2 n (T ka na da :: ps))] [] [] = some ([D.dat (Dat.val (Value.string ({ data := #[92] } ++ c)))], [], []) :=
  hrun_ok [(14, .at (T ka na da)), (16, .ret [.dat (S c)]), (17, .ok)] (ob h1 (ob h2 (ob h3 ob0))) (by kernel_rfl)
theorem lcText_app (kk : Nat) (n : Int) (ps : List Dat) (c e : ByteArray) (ka na : Int) (da : List Dat) (kb nb : Int) (db : List Dat) (h1 : ((0 : Int) ≤ 0 ∧ 0 < ((T ka na da :: T kb nb db :: ps).length : Int)) ∧ some (T ka na da) = some (T ka na da)) (h2 : ((0 : Int) ≤ 1 ∧ 1 < ((T ka na da :: T kb nb db :: ps).length : Int)) ∧ some (T kb nb db) = some (T kb nb db)) (h3 : den cfg kk 22 [D.dat (T ka na da)] [] [] = some ([D.dat (Dat.val (Value.string c))], [], [])) (h4 : 1 + c.size ≤ 9223372036854775807) (h5 : ({ data := #[40] } ++ c).size + 1 ≤ 9223372036854775807) (h6 : den cfg kk 22 [D.dat (T kb nb db)] [] [] = some ([D.dat (Dat.val (Value.string e))], [], [])) (h7 : ({ data := #[40] } ++ c ++ { data := #[32] }).size + e.size ≤ 9223372036854775807) (h8 : ({ data := #[40] } ++ c ++ { data := #[32] } ++ e).size + 1 ≤ 9223372036854775807) : runFn cfg kk (den cfg kk) 22 Go.Proofs.Tryz.f22 [.dat (T 3 n (T ka na da :: T kb nb db :: ps))] [] [] = some ([D.dat (Dat.val (Value.string ({ data := #[40] } ++ c ++ { data := #[32] } ++ e ++ { data := #[41] })))], [], []) :=
  hrun_ok [(20, .at (T ka na da)), (27, .at (T kb nb db)), (22, .ret [.dat (S c)]), (29, .ret [.dat (S e)]), (23, .ok), (24, .ok), (30, .ok), (31, .ok)] (ob h1 (ob h2 (ob h3 (ob h4 (ob h5 (ob h6 (ob h7 (ob h8 ob0)))))))) (by kernel_rfl)
theorem iText_no (kk : Nat) (b : Bool) (es : List Dat) (k n : Int) (d : List Dat) (h1 : den cfg kk 19 [D.dat (Dat.lst b es)] [] [] = some ([D.dat (T k n d), D.dat (B false)], [], [])) : runFn cfg kk (den cfg kk) 6 Go.Proofs.Tryz.f6 [.dat (Dat.lst b es)] [] [] = some ([D.dat (Dat.val (Value.string { data := #[] })), D.dat (B false)], [], []) :=
  hrun_ok [(8, .ret [.dat (T k n d), .dat (B false)])] (ob h1 ob0) (by kernel_rfl)
theorem iText_go (kk : Nat) (b : Bool) (es : List Dat) (c : ByteArray) (k n : Int) (d : List Dat) (h1 : den cfg kk 19 [D.dat (Dat.lst b es)] [] [] = some ([D.dat (T k n d), D.dat (B true)], [], [])) (h2 : den cfg kk 20 [D.dat (T k n d)] [] [] = some ([D.dat (Dat.val (Value.string c))], [], [])) : runFn cfg kk (den cfg kk) 6 Go.Proofs.Tryz.f6 [.dat (Dat.lst b es)] [] [] = some ([D.dat (Dat.val (Value.string c)), D.dat (B true)], [], []) :=
  hrun_ok [(8, .ret [.dat (T k n d), .dat (B true)]), (14, .ret [.dat (S c)])] (ob h1 (ob h2 ob0)) (by kernel_rfl)
theorem sText_no (kk : Nat) (b : Bool) (es : List Dat) (h1 : den cfg kk 21 [D.dat (Dat.lst b es)] [] [] = some ([D.dat (B false)], [], [])) : runFn cfg kk (den cfg kk) 7 Go.Proofs.Tryz.f7 [.dat (Dat.lst b es)] [] [] = some ([D.dat (Dat.val (Value.string { data := #[] })), D.dat (B false)], [], []) :=
  hrun_ok [(5, .ret [.dat (B false)])] (ob h1 ob0) (by kernel_rfl)
theorem sText_go (kk : Nat) (b : Bool) (es : List Dat) (c : ByteArray) (k n : Int) (d : List Dat) (h1 : den cfg kk 21 [D.dat (Dat.lst b es)] [] [] = some ([D.dat (B true)], [], [])) (h2 : den cfg kk 23 [D.dat (Dat.lst b es), D.dat (I 0)] [] [] = some ([D.dat (T k n d)], [], [])) (h3 : den cfg kk 22 [D.dat (T k n d)] [] [] = some ([D.dat (Dat.val (Value.string c))], [], [])) : runFn cfg kk (den cfg kk) 7 Go.Proofs.Tryz.f7 [.dat (Dat.lst b es)] [] [] = some ([D.dat (Dat.val (Value.string c)), D.dat (B true)], [], []) :=
  hrun_ok [(5, .ret [.dat (B true)]), (8, .ret [.dat (T k n d)]), (9, .ret [.dat (S c)])] (ob h1 (ob h2 (ob h3 ob0))) (by kernel_rfl)
theorem prefix_go (kk : Nat) (s t : ByteArray) (h1 : decide ((t.size : Int) ≤ (s.size : Int)) = true) (h5 : 0 ≤ (none : Option Int).getD 0 ∧ (none : Option Int).getD 0 ≤ (some ((t.size : Int)) : Option Int).getD (s.size : Int) ∧ (some ((t.size : Int)) : Option Int).getD (s.size : Int) ≤ (s.size : Int)) : runFn cfg kk (den cfg kk) 103 Go.Proofs.Tryz.f103 [.dat (S s), .dat (S t)] [] [] = some ([D.dat (Dat.val (Value.bool (decide (s.extract 0 ((some ((t.size : Int)) : Option Int).getD (s.size : Int)).toNat = t))))], [], []) :=
  hrun_ok [(200010, .yes), (14, .ok)] (ob h1 (ob (rfl : true = true) (ob (rfl : true = true) (ob (rfl : true = true) (ob h5 (ob (rfl : true = true) (ob (rfl : true = true) ob0))))))) (by kernel_rfl)
theorem cut2_go (kk : Nat) (s t : ByteArray) (h1 : den cfg kk 103 [D.dat (Dat.val (Value.string s)), D.dat (Dat.val (Value.string t))] [] [] = some ([D.dat (B true)], [], [])) (h2 : 0 ≤ (some ((t.size : Int)) : Option Int).getD 0 ∧ (some ((t.size : Int)) : Option Int).getD 0 ≤ (none : Option Int).getD (s.size : Int) ∧ (none : Option Int).getD (s.size : Int) ≤ (s.size : Int)) : runFn cfg kk (den cfg kk) 82 Go.Proofs.Tryz.f82 [.dat (S s), .dat (S t)] [] [] = some ([D.dat (Dat.val (Value.string (s.extract ((some ((t.size : Int)) : Option Int).getD 0).toNat ((none : Option Int).getD (s.size : Int)).toNat))), D.dat (B true)], [], []) :=
  hrun_ok [(8, .ret [.dat (B true)]), (14, .ok)] (ob h1 (ob h2 ob0)) (by kernel_rfl)
theorem cut_go (kk : Nat) (s t r : ByteArray) (h1 : den cfg kk 82 [D.dat (Dat.val (Value.string s)), D.dat (Dat.val (Value.string t))] [] [] = some ([D.dat (Dat.val (Value.string r)), D.dat (B true)], [], [])) : runFn cfg kk (den cfg kk) 53 Go.Proofs.Tryz.f53 [.dat (S s), .dat (S t)] [] [] = some ([D.dat (Dat.val (Value.string r)), D.dat (B true)], [], []) :=
  hrun_ok [(8, .ret [.dat (S r), .dat (B true)])] (ob h1 ob0) (by kernel_rfl)
theorem read_lam (kk : Nat) (s r : ByteArray) (d : Int) (ok : Bool) (ka na : Int) (da : List Dat) (kb nb : Int) (db : List Dat) (h1 : decide (s = { data := #[] }) = false) (h3 : decide (40 < d) = false) (h4 : (0 : Int) ≤ 0 ∧ 0 < (s.size : Int)) (h5 : decide (((s[Int.toNat 0]?.getD 0).toNat : Int) = 92) = true) (h6 : 0 ≤ (some (1) : Option Int).getD 0 ∧ (some (1) : Option Int).getD 0 ≤ (none : Option Int).getD (s.size : Int) ∧ (none : Option Int).getD (s.size : Int) ≤ (s.size : Int)) (h7 : den cfg kk 24 [D.dat (Dat.val (Value.string (s.extract 1 ((none : Option Int).getD (s.size : Int)).toNat))), D.dat (I (w64 (d + 1)))] [] [] = some ([D.dat (T ka na da), D.dat (Dat.val (Value.string r)), D.dat (B true)], [], [])) (h8 : den cfg kk 52 [D.dat (T ka na da)] [] [] = some ([D.dat (T kb nb db)], [], [])) : runFn cfg kk (den cfg kk) 24 Go.Proofs.Tryz.f24 [.dat (S s), .dat (I d)] [] [] = some ([D.dat (T kb nb db), D.dat (Dat.val (Value.string r)), D.dat (B true)], [], []) :=
  hrun_ok [(200024, .no), (200021, .no), (31, .ok), (200029, .yes), (35, .ok), (38, .ret [.dat (T ka na da), .dat (S r), .dat (B true)]), (43, .ret [.dat (T kb nb db)])] (ob h1 (ob (rfl : false = false) (ob h3 (ob h4 (ob h5 (ob h6 (ob h7 (ob h8 ob0)))))))) (by kernel_rfl)
theorem read_app (kk : Nat) (s r r1 r2 r3 : ByteArray) (d : Int) (ka na : Int) (da : List Dat) (kb nb : Int) (db : List Dat) (kc nc : Int) (dc : List Dat) (h1 : decide (s = { data := #[] }) = false) (h3 : decide (40 < d) = false) (h4 : (0 : Int) ≤ 0 ∧ 0 < (s.size : Int)) (h5 : decide (((s[Int.toNat 0]?.getD 0).toNat : Int) = 92) = false) (h6 : (0 : Int) ≤ 0 ∧ 0 < (s.size : Int)) (h7 : decide (((s[Int.toNat 0]?.getD 0).toNat : Int) = 40) = true) (h8 : 0 ≤ (some (1) : Option Int).getD 0 ∧ (some (1) : Option Int).getD 0 ≤ (none : Option Int).getD (s.size : Int) ∧ (none : Option Int).getD (s.size : Int) ≤ (s.size : Int)) (h9 : den cfg kk 24 [D.dat (Dat.val (Value.string (s.extract 1 ((none : Option Int).getD (s.size : Int)).toNat))), D.dat (I (w64 (d + 1)))] [] [] = some ([D.dat (T ka na da), D.dat (Dat.val (Value.string r)), D.dat (B true)], [], [])) (h10 : den cfg kk 53 [D.dat (Dat.val (Value.string r)), D.dat (Dat.val (Value.string { data := #[32] }))] [] [] = some ([D.dat (Dat.val (Value.string r1)), D.dat (B true)], [], [])) (h11 : den cfg kk 24 [D.dat (Dat.val (Value.string r1)), D.dat (I (w64 (d + 1)))] [] [] = some ([D.dat (T kb nb db), D.dat (Dat.val (Value.string r2)), D.dat (B true)], [], [])) (h12 : den cfg kk 53 [D.dat (Dat.val (Value.string r2)), D.dat (Dat.val (Value.string { data := #[41] }))] [] [] = some ([D.dat (Dat.val (Value.string r3)), D.dat (B true)], [], [])) (h13 : den cfg kk 54 [D.dat (T ka na da), D.dat (T kb nb db)] [] [] = some ([D.dat (T kc nc dc)], [], [])) : runFn cfg kk (den cfg kk) 24 Go.Proofs.Tryz.f24 [.dat (S s), .dat (I d)] [] [] = some ([D.dat (T kc nc dc), D.dat (Dat.val (Value.string r3)), D.dat (B true)], [], []) :=
  hrun_ok [(200024, .no), (200021, .no), (31, .ok), (200029, .no), (48, .ok), (200046, .yes), (52, .ok), (55, .ret [.dat (T ka na da), .dat (S r), .dat (B true)]), (61, .ret [.dat (S r1), .dat (B true)]), (68, .ret [.dat (T kb nb db), .dat (S r2), .dat (B true)]), (74, .ret [.dat (S r3), .dat (B true)]), (79, .ret [.dat (T kc nc dc)]), (200082, .yes), (200085, .yes), (200088, .yes)] (ob h1 (ob (rfl : false = false) (ob h3 (ob h4 (ob h5 (ob h6 (ob h7 (ob h8 (ob h9 (ob h10 (ob h11 (ob h12 (ob h13 (ob (rfl : true = true) (ob (rfl : true = true) (ob (rfl : true = true) ob0)))))))))))))))) (by kernel_rfl)
def hd24 (x : ByteArray) (i : Int) : St := Nm [0, 4, 18] [.dat (S x), .ptr (.loc 4) 0, .dat (I i)] [none, some [.dat (I 0), .dat (I 0), .own 46 []], none] [] []
theorem dig_go (kk m : Nat) {s : St} {K : X → St → Prop} (x : ByteArray) (i : Int) (hs : s.norm ((envOf cfg kk 24 Go.Proofs.Tryz.f24).live (firstRegion (lp Go.Proofs.Tryz.f24 13))) = hd24 x i) (h1 : decide (i < (x.size : Int)) = true) (h3 : decide (i < 3) = true) (h6 : 0 ≤ i ∧ i < (x.size : Int)) (h8 : decide (48 ≤ ((x[i.toNat]?.getD 0).toNat : Int)) = true) (h11 : 0 ≤ i ∧ i < (x.size : Int)) (h13 : decide (((x[i.toNat]?.getD 0).toNat : Int) ≤ 57) = true) (hn : ∀ s : St, s.norm ((envOf cfg kk 24 Go.Proofs.Tryz.f24).live (firstRegion (lp Go.Proofs.Tryz.f24 13))) = Nm [0, 4, 18] [D.dat (Dat.val (Value.string x)), D.ptr (Ref.loc 4) 0, D.dat (I (w64 (i + 1)))] [none, some [D.dat (I 0), D.dat (I 0), D.own 46 []], none] [] [] → Rounds (envOf cfg kk 24 Go.Proofs.Tryz.f24) kk (lp Go.Proofs.Tryz.f24 13) m s K) : Rounds (envOf cfg kk 24 Go.Proofs.Tryz.f24) kk (lp Go.Proofs.Tryz.f24 13) (m + 1) s K :=
  rounds_go [(200095, .yes), (200099, .yes), (102, .ok), (200105, .yes), (108, .ok), (200110, .yes)] hs (by kernel_rfl) (ob h1 (ob (rfl : true = true) (ob h3 (ob (rfl : true = true) (ob (rfl : true = true) (ob h6 (ob (rfl : true = true) (ob h8 (ob (rfl : true = true) (ob (rfl : true = true) (ob h11 (ob (rfl : true = true) (ob h13 ob0))))))))))))) (by kernel_rfl) hn
theorem dig_end (kk m : Nat) {s : St} {K : X → St → Prop} (x : ByteArray) (i : Int) (hs : s.norm ((envOf cfg kk 24 Go.Proofs.Tryz.f24).live (firstRegion (lp Go.Proofs.Tryz.f24 13))) = hd24 x i) (h1 : decide (i < (x.size : Int)) = false) (hK : K (X.exit 1) (Nm [0, 4, 18] [D.dat (Dat.val (Value.string x)), D.ptr (Ref.loc 4) 0, D.dat (I i)] [none, some [D.dat (I 0), D.dat (I 0), D.own 46 []], none] [] [])) : Rounds (envOf cfg kk 24 Go.Proofs.Tryz.f24) kk (lp Go.Proofs.Tryz.f24 13) (m + 1) s K :=
  rounds_end [(200095, .no), (200099, .no), (200105, .no)] hs (by kernel_rfl) rfl (ob h1 (ob (rfl : false = false) (ob (rfl : false = false) (ob (rfl : false = false) (ob (rfl : false = false) (ob (rfl : false = false) (ob (rfl : false = false) (ob (rfl : false = false) (ob (rfl : false = false) (ob (rfl : false = false) ob0)))))))))) (by kernel_rfl) hK
theorem dig_lo (kk m : Nat) {s : St} {K : X → St → Prop} (x : ByteArray) (i : Int) (hs : s.norm ((envOf cfg kk 24 Go.Proofs.Tryz.f24).live (firstRegion (lp Go.Proofs.Tryz.f24 13))) = hd24 x i) (h1 : decide (i < (x.size : Int)) = true) (h3 : decide (i < 3) = true) (h6 : 0 ≤ i ∧ i < (x.size : Int)) (h8 : decide (48 ≤ ((x[i.toNat]?.getD 0).toNat : Int)) = false) (hK : K (X.exit 1) (Nm [0, 4, 18] [D.dat (Dat.val (Value.string x)), D.ptr (Ref.loc 4) 0, D.dat (I i)] [none, some [D.dat (I 0), D.dat (I 0), D.own 46 []], none] [] [])) : Rounds (envOf cfg kk 24 Go.Proofs.Tryz.f24) kk (lp Go.Proofs.Tryz.f24 13) (m + 1) s K :=
  rounds_end [(200095, .yes), (200099, .yes), (102, .ok), (200105, .no)] hs (by kernel_rfl) rfl (ob h1 (ob (rfl : true = true) (ob h3 (ob (rfl : true = true) (ob (rfl : true = true) (ob h6 (ob (rfl : true = true) (ob h8 (ob (rfl : false = false) (ob (rfl : false = false) (ob (rfl : false = false) ob0))))))))))) (by kernel_rfl) hK
theorem read_var (kk : Nat) (s : ByteArray) (d v i : Int) (ka na : Int) (da : List Dat) (h1 : decide (s = { data := #[] }) = false) (h3 : decide (40 < d) = false) (h4 : (0 : Int) ≤ 0 ∧ 0 < (s.size : Int)) (h5 : decide (((s[Int.toNat 0]?.getD 0).toNat : Int) = 92) = false) (h6 : (0 : Int) ≤ 0 ∧ 0 < (s.size : Int)) (h7 : decide (((s[Int.toNat 0]?.getD 0).toNat : Int) = 40) = false) (h9 : LoopAt cfg kk 24 Go.Proofs.Tryz.f24 13 (hd24 s 0) (X.exit 1) (Nm [0, 4, 18] [D.dat (Dat.val (Value.string s)), D.ptr (Ref.loc 4) 0, D.dat (I i)] [none, some [D.dat (I 0), D.dat (I 0), D.own 46 []], none] [] [])) (h10 : 0 ≤ (none : Option Int).getD 0 ∧ (none : Option Int).getD 0 ≤ (some (i) : Option Int).getD (s.size : Int) ∧ (some (i) : Option Int).getD (s.size : Int) ≤ (s.size : Int)) (h11 : den cfg kk 55 [D.dat (Dat.val (Value.string (s.extract 0 ((some (i) : Option Int).getD (s.size : Int)).toNat)))] [] [] = some ([D.dat (I v), D.dat (Dat.val Value.nilIface)], [], [])) (h12 : 0 ≤ (some (i) : Option Int).getD 0 ∧ (some (i) : Option Int).getD 0 ≤ (none : Option Int).getD (s.size : Int) ∧ (none : Option Int).getD (s.size : Int) ≤ (s.size : Int)) (h13 : den cfg kk 56 [D.dat (I v)] [] [] = some ([D.dat (T ka na da)], [], [])) : runFn cfg kk (den cfg kk) 24 Go.Proofs.Tryz.f24 [.dat (S s), .dat (I d)] [] [] = some ([D.dat (T ka na da), D.dat (Dat.val (Value.string (s.extract ((some (i) : Option Int).getD 0).toNat ((none : Option Int).getD (s.size : Int)).toNat))), D.dat (B true)], [], []) :=
  hrun_ok [(200024, .no), (200021, .no), (31, .ok), (200029, .no), (48, .ok), (200046, .no), (300013, .loop (hd24 s 0) (.exit 1) (Nm [0, 4, 18] [.dat (S s), .ptr (.loc 4) 0, .dat (I i)] [none, some [.dat (I 0), .dat (I 0), .own 46 []], none] [] [])), (116, .ok), (117, .ret [.dat (I v), .dat (.val .nilIface)]), (121, .ret [.dat (T ka na da)]), (124, .ok)] (ob h1 (ob (rfl : false = false) (ob h3 (ob h4 (ob h5 (ob h6 (ob h7 (ob (rfl : _ = hd24 s 0) (ob h9 (ob h10 (ob h11 (ob h12 (ob h13 ob0))))))))))))) (by kernel_rfl)
theorem iRead (kk : Nat) (s : ByteArray) (out : List Dat) (k n : Int) (d : List Dat) (h1 : decide (600 < (s.size : Int)) = false) (h2 : den cfg kk 24 [D.dat (Dat.val (Value.string s)), D.dat (I 1)] [] [] = some ([D.dat (T k n d), D.dat (Dat.val (Value.string { data := #[] })), D.dat (B true)], [], [])) (h7 : den cfg kk 20 [D.dat (T k n d)] [] [] = some ([D.dat (Dat.val (Value.string s))], [], [])) (h10 : (!decide (s = s)) = false) (h11 : den cfg kk 25 [D.dat (T k n d)] [] [] = some ([D.own 60 out, D.dat (B true)], [], [])) : runFn cfg kk (den cfg kk) 8 Go.Proofs.Tryz.f8 [.dat (S s)] [] [] = some ([D.own 60 out, D.dat (B true)], [], []) :=
  hrun_ok [(200009, .no), (12, .ret [.dat (T k n d), .dat (S ⟨#[]⟩), .dat (B true)]), (200018, .no), (200022, .no), (24, .ret [.dat (S s)]), (200027, .no), (29, .ret [.own 60 out, .dat (B true)])] (ob h1 (ob h2 (ob (rfl : false = false) (ob (rfl : false = false) (ob (rfl : false = false) (ob (rfl : false = false) (ob h7 (ob (rfl : false = false) (ob (rfl : false = false) (ob h10 (ob h11 ob0))))))))))) (by kernel_rfl)
end Go.Den
namespace Go.Den
open Go
set_option linter.unusedVariables false
set_option maxRecDepth 100000
def str (l : List UInt8) : ByteArray := ⟨l.toArray⟩
theorem str_size (l : List UInt8) : (str l).size = l.length := by simp [str, ByteArray.size]
theorem str_app (a b : List UInt8) : str a ++ str b = str (a ++ b) := by
  apply ByteArray.ext
  rw [ByteArray.data_append]
  simp [str]
theorem str_get (l : List UInt8) (i : Nat) : (str l)[i]? = l[i]? := by
  by_cases h : i < l.length
  · rw [List.getElem?_eq_getElem h, getElem?_pos (str l) i (by rw [str_size]; exact h)]
    rfl
  · rw [List.getElem?_eq_none (by omega), getElem?_neg (str l) i (by rw [str_size]; exact h)]
theorem str_extract (l : List UInt8) (a b : Nat) : (str l).extract a b = str ((l.take b).drop a) := by
  apply ByteArray.ext
  rw [ByteArray.data_extract]
  apply Array.ext'
  simp [str, List.drop_take]
theorem str_inj {a b : List UInt8} (h : str a = str b) : a = b := by
  have := congrArg (fun s => s.data.toList) h
  simpa [str] using this
/-- A number below a hundred. -/
def dg (n : Nat) : List UInt8 := if n < 10 then [UInt8.ofNat (48 + n)] else [UInt8.ofNat (48 + n / 10), UInt8.ofNat (48 + n % 10)]
theorem dg_itoa (m : Nat) : ∀ k : Nat, k < 100 → den cfg (m + 100) 49 [.dat (I (k : Nat))] [] [] = some ([.dat (S (str (dg k)))], [], [])
  | 0, _ => by kernel_rfl
  | 1, _ => by kernel_rfl
  | 2, _ => by kernel_rfl
  | 3, _ => by kernel_rfl
  | 4, _ => by kernel_rfl
  | 5, _ => by kernel_rfl
  | 6, _ => by kernel_rfl
  | 7, _ => by kernel_rfl
  | 8, _ => by kernel_rfl
  | 9, _ => by kernel_rfl
  | 10, _ => by kernel_rfl
  | 11, _ => by kernel_rfl
  | 12, _ => by kernel_rfl
  | 13, _ => by kernel_rfl
  | 14, _ => by kernel_rfl
  | 15, _ => by kernel_rfl
  | 16, _ => by kernel_rfl
  | 17, _ => by kernel_rfl
  | 18, _ => by kernel_rfl
  | 19, _ => by kernel_rfl
  | 20, _ => by kernel_rfl
  | 21, _ => by kernel_rfl
  | 22, _ => by kernel_rfl
  | 23, _ => by kernel_rfl
  | 24, _ => by kernel_rfl
  | 25, _ => by kernel_rfl
  | 26, _ => by kernel_rfl
  | 27, _ => by kernel_rfl
  | 28, _ => by kernel_rfl
  | 29, _ => by kernel_rfl
  | 30, _ => by kernel_rfl
  | 31, _ => by kernel_rfl
  | 32, _ => by kernel_rfl
  | 33, _ => by kernel_rfl
  | 34, _ => by kernel_rfl
  | 35, _ => by kernel_rfl
  | 36, _ => by kernel_rfl
  | 37, _ => by kernel_rfl
  | 38, _ => by kernel_rfl
  | 39, _ => by kernel_rfl
  | 40, _ => by kernel_rfl
  | 41, _ => by kernel_rfl
  | 42, _ => by kernel_rfl
  | 43, _ => by kernel_rfl
  | 44, _ => by kernel_rfl
  | 45, _ => by kernel_rfl
  | 46, _ => by kernel_rfl
  | 47, _ => by kernel_rfl
  | 48, _ => by kernel_rfl
  | 49, _ => by kernel_rfl
  | 50, _ => by kernel_rfl
  | 51, _ => by kernel_rfl
  | 52, _ => by kernel_rfl
  | 53, _ => by kernel_rfl
  | 54, _ => by kernel_rfl
  | 55, _ => by kernel_rfl
  | 56, _ => by kernel_rfl
  | 57, _ => by kernel_rfl
  | 58, _ => by kernel_rfl
  | 59, _ => by kernel_rfl
  | 60, _ => by kernel_rfl
  | 61, _ => by kernel_rfl
  | 62, _ => by kernel_rfl
  | 63, _ => by kernel_rfl
  | 64, _ => by kernel_rfl
  | 65, _ => by kernel_rfl
  | 66, _ => by kernel_rfl
  | 67, _ => by kernel_rfl
  | 68, _ => by kernel_rfl
  | 69, _ => by kernel_rfl
  | 70, _ => by kernel_rfl
  | 71, _ => by kernel_rfl
  | 72, _ => by kernel_rfl
  | 73, _ => by kernel_rfl
  | 74, _ => by kernel_rfl
  | 75, _ => by kernel_rfl
  | 76, _ => by kernel_rfl
  | 77, _ => by kernel_rfl
  | 78, _ => by kernel_rfl
  | 79, _ => by kernel_rfl
  | 80, _ => by kernel_rfl
  | 81, _ => by kernel_rfl
  | 82, _ => by kernel_rfl
  | 83, _ => by kernel_rfl
  | 84, _ => by kernel_rfl
  | 85, _ => by kernel_rfl
  | 86, _ => by kernel_rfl
  | 87, _ => by kernel_rfl
  | 88, _ => by kernel_rfl
  | 89, _ => by kernel_rfl
  | 90, _ => by kernel_rfl
  | 91, _ => by kernel_rfl
  | 92, _ => by kernel_rfl
  | 93, _ => by kernel_rfl
  | 94, _ => by kernel_rfl
  | 95, _ => by kernel_rfl
  | 96, _ => by kernel_rfl
  | 97, _ => by kernel_rfl
  | 98, _ => by kernel_rfl
  | 99, _ => by kernel_rfl
  | k + 100, h => by omega
theorem dg_l1 (m : Nat) : ∀ k : Nat, k < 100 → den cfg (m + 100) 51 [.dat (I (k : Nat))] [] [] = some ([.dat (S (str (dg k)))], [], [])
  | 0, _ => by kernel_rfl
  | 1, _ => by kernel_rfl
  | 2, _ => by kernel_rfl
  | 3, _ => by kernel_rfl
  | 4, _ => by kernel_rfl
  | 5, _ => by kernel_rfl
  | 6, _ => by kernel_rfl
  | 7, _ => by kernel_rfl
  | 8, _ => by kernel_rfl
  | 9, _ => by kernel_rfl
  | 10, _ => by kernel_rfl
  | 11, _ => by kernel_rfl
  | 12, _ => by kernel_rfl
  | 13, _ => by kernel_rfl
  | 14, _ => by kernel_rfl
  | 15, _ => by kernel_rfl
  | 16, _ => by kernel_rfl
  | 17, _ => by kernel_rfl
  | 18, _ => by kernel_rfl
  | 19, _ => by kernel_rfl
  | 20, _ => by kernel_rfl
  | 21, _ => by kernel_rfl
  | 22, _ => by kernel_rfl
  | 23, _ => by kernel_rfl
  | 24, _ => by kernel_rfl
  | 25, _ => by kernel_rfl
  | 26, _ => by kernel_rfl
  | 27, _ => by kernel_rfl
  | 28, _ => by kernel_rfl
  | 29, _ => by kernel_rfl
  | 30, _ => by kernel_rfl
  | 31, _ => by kernel_rfl
  | 32, _ => by kernel_rfl
  | 33, _ => by kernel_rfl
  | 34, _ => by kernel_rfl
  | 35, _ => by kernel_rfl
  | 36, _ => by kernel_rfl
  | 37, _ => by kernel_rfl
  | 38, _ => by kernel_rfl
  | 39, _ => by kernel_rfl
  | 40, _ => by kernel_rfl
  | 41, _ => by kernel_rfl
  | 42, _ => by kernel_rfl
  | 43, _ => by kernel_rfl
  | 44, _ => by kernel_rfl
  | 45, _ => by kernel_rfl
  | 46, _ => by kernel_rfl
  | 47, _ => by kernel_rfl
  | 48, _ => by kernel_rfl
  | 49, _ => by kernel_rfl
  | 50, _ => by kernel_rfl
  | 51, _ => by kernel_rfl
  | 52, _ => by kernel_rfl
  | 53, _ => by kernel_rfl
  | 54, _ => by kernel_rfl
  | 55, _ => by kernel_rfl
  | 56, _ => by kernel_rfl
  | 57, _ => by kernel_rfl
  | 58, _ => by kernel_rfl
  | 59, _ => by kernel_rfl
  | 60, _ => by kernel_rfl
  | 61, _ => by kernel_rfl
  | 62, _ => by kernel_rfl
  | 63, _ => by kernel_rfl
  | 64, _ => by kernel_rfl
  | 65, _ => by kernel_rfl
  | 66, _ => by kernel_rfl
  | 67, _ => by kernel_rfl
  | 68, _ => by kernel_rfl
  | 69, _ => by kernel_rfl
  | 70, _ => by kernel_rfl
  | 71, _ => by kernel_rfl
  | 72, _ => by kernel_rfl
  | 73, _ => by kernel_rfl
  | 74, _ => by kernel_rfl
  | 75, _ => by kernel_rfl
  | 76, _ => by kernel_rfl
  | 77, _ => by kernel_rfl
  | 78, _ => by kernel_rfl
  | 79, _ => by kernel_rfl
  | 80, _ => by kernel_rfl
  | 81, _ => by kernel_rfl
  | 82, _ => by kernel_rfl
  | 83, _ => by kernel_rfl
  | 84, _ => by kernel_rfl
  | 85, _ => by kernel_rfl
  | 86, _ => by kernel_rfl
  | 87, _ => by kernel_rfl
  | 88, _ => by kernel_rfl
  | 89, _ => by kernel_rfl
  | 90, _ => by kernel_rfl
  | 91, _ => by kernel_rfl
  | 92, _ => by kernel_rfl
  | 93, _ => by kernel_rfl
  | 94, _ => by kernel_rfl
  | 95, _ => by kernel_rfl
  | 96, _ => by kernel_rfl
  | 97, _ => by kernel_rfl
  | 98, _ => by kernel_rfl
  | 99, _ => by kernel_rfl
  | k + 100, h => by omega
theorem dg_atoi (m : Nat) : ∀ k : Nat, k < 100 → den cfg (m + 100) 55 [.dat (S (str (dg k)))] [] [] = some ([.dat (I (k : Nat)), .dat (.val .nilIface)], [], [])
  | 0, _ => by kernel_rfl
  | 1, _ => by kernel_rfl
  | 2, _ => by kernel_rfl
  | 3, _ => by kernel_rfl
  | 4, _ => by kernel_rfl
  | 5, _ => by kernel_rfl
  | 6, _ => by kernel_rfl
  | 7, _ => by kernel_rfl
  | 8, _ => by kernel_rfl
  | 9, _ => by kernel_rfl
  | 10, _ => by kernel_rfl
  | 11, _ => by kernel_rfl
  | 12, _ => by kernel_rfl
  | 13, _ => by kernel_rfl
  | 14, _ => by kernel_rfl
  | 15, _ => by kernel_rfl
  | 16, _ => by kernel_rfl
  | 17, _ => by kernel_rfl
  | 18, _ => by kernel_rfl
  | 19, _ => by kernel_rfl
  | 20, _ => by kernel_rfl
  | 21, _ => by kernel_rfl
  | 22, _ => by kernel_rfl
  | 23, _ => by kernel_rfl
  | 24, _ => by kernel_rfl
  | 25, _ => by kernel_rfl
  | 26, _ => by kernel_rfl
  | 27, _ => by kernel_rfl
  | 28, _ => by kernel_rfl
  | 29, _ => by kernel_rfl
  | 30, _ => by kernel_rfl
  | 31, _ => by kernel_rfl
  | 32, _ => by kernel_rfl
  | 33, _ => by kernel_rfl
  | 34, _ => by kernel_rfl
  | 35, _ => by kernel_rfl
  | 36, _ => by kernel_rfl
  | 37, _ => by kernel_rfl
  | 38, _ => by kernel_rfl
  | 39, _ => by kernel_rfl
  | 40, _ => by kernel_rfl
  | 41, _ => by kernel_rfl
  | 42, _ => by kernel_rfl
  | 43, _ => by kernel_rfl
  | 44, _ => by kernel_rfl
  | 45, _ => by kernel_rfl
  | 46, _ => by kernel_rfl
  | 47, _ => by kernel_rfl
  | 48, _ => by kernel_rfl
  | 49, _ => by kernel_rfl
  | 50, _ => by kernel_rfl
  | 51, _ => by kernel_rfl
  | 52, _ => by kernel_rfl
  | 53, _ => by kernel_rfl
  | 54, _ => by kernel_rfl
  | 55, _ => by kernel_rfl
  | 56, _ => by kernel_rfl
  | 57, _ => by kernel_rfl
  | 58, _ => by kernel_rfl
  | 59, _ => by kernel_rfl
  | 60, _ => by kernel_rfl
  | 61, _ => by kernel_rfl
  | 62, _ => by kernel_rfl
  | 63, _ => by kernel_rfl
  | 64, _ => by kernel_rfl
  | 65, _ => by kernel_rfl
  | 66, _ => by kernel_rfl
  | 67, _ => by kernel_rfl
  | 68, _ => by kernel_rfl
  | 69, _ => by kernel_rfl
  | 70, _ => by kernel_rfl
  | 71, _ => by kernel_rfl
  | 72, _ => by kernel_rfl
  | 73, _ => by kernel_rfl
  | 74, _ => by kernel_rfl
  | 75, _ => by kernel_rfl
  | 76, _ => by kernel_rfl
  | 77, _ => by kernel_rfl
  | 78, _ => by kernel_rfl
  | 79, _ => by kernel_rfl
  | 80, _ => by kernel_rfl
  | 81, _ => by kernel_rfl
  | 82, _ => by kernel_rfl
  | 83, _ => by kernel_rfl
  | 84, _ => by kernel_rfl
  | 85, _ => by kernel_rfl
  | 86, _ => by kernel_rfl
  | 87, _ => by kernel_rfl
  | 88, _ => by kernel_rfl
  | 89, _ => by kernel_rfl
  | 90, _ => by kernel_rfl
  | 91, _ => by kernel_rfl
  | 92, _ => by kernel_rfl
  | 93, _ => by kernel_rfl
  | 94, _ => by kernel_rfl
  | 95, _ => by kernel_rfl
  | 96, _ => by kernel_rfl
  | 97, _ => by kernel_rfl
  | 98, _ => by kernel_rfl
  | 99, _ => by kernel_rfl
  | k + 100, h => by omega
end Go.Den
namespace Go.Den
open Go
set_option linter.unusedVariables false
set_option maxRecDepth 100000
def tx : Pt → List UInt8
  | .var n => dg n.toNat
  | .lam _ t => 92 :: tx t
  | .app _ a b => 40 :: (tx a ++ 32 :: (tx b ++ [41]))
theorem dg_len (n : Nat) : 1 ≤ (dg n).length ∧ (dg n).length ≤ 2 := by unfold dg; split <;> simp
theorem tx_len : ∀ t : Pt, (tx t).length ≤ 4 * t.size
  | .var n => by have := dg_len n.toNat; simp only [tx, Pt.size]; omega
  | .lam _ t => by have := tx_len t; simp only [tx, Pt.size, List.length_cons]; omega
  | .app _ a b => by
    have := tx_len a
    have := tx_len b
    simp only [tx, Pt.size, List.length_cons, List.length_append, List.length_nil]
    omega
theorem nums_var {n : Int} (h : (Pt.var n).nums = true) : n.toNat < 100 ∧ ((n.toNat : Nat) : Int) = n := by
  simp only [Pt.nums, Bool.and_eq_true, decide_eq_true_eq] at h
  omega
theorem nums_lam {n : Int} {t : Pt} (h : (Pt.lam n t).nums = true) : n = 0 ∧ t.nums = true := by simpa [Pt.nums] using h
theorem nums_app {n : Int} {a b : Pt} (h : (Pt.app n a b).nums = true) : n = 0 ∧ a.nums = true ∧ b.nums = true := by simpa [Pt.nums] using h
theorem lam_str (l : List UInt8) : (⟨#[92]⟩ : ByteArray) ++ str l = str (92 :: l) := str_app [92] l
theorem app_str (a b : List UInt8) : (⟨#[40]⟩ : ByteArray) ++ str a ++ ⟨#[32]⟩ ++ str b ++ ⟨#[41]⟩ = str (40 :: (a ++ 32 :: (b ++ [41]))) := by
  rw [show (⟨#[40]⟩ : ByteArray) = str [40] from rfl, show (⟨#[32]⟩ : ByteArray) = str [32] from rfl, show (⟨#[41]⟩ : ByteArray) = str [41] from rfl, str_app, str_app, str_app, str_app]
  simp
theorem ev_text : ∀ (d : Nat) (t : Pt), t.depth ≤ d → t.nums = true → t.size ≤ 1000000 → EvN (d + 110) 20 [.dat t.d] [] [] ([.dat (S (str (tx t)))], [], [])
  | 0, t, hd, hn, hz => by have := t.depth_pos; omega
  | d + 1, .var n, hd, hn, hz => by
    refine ev_fn Go.Proofs.Tryz.f20 (d + 110) (by kernel_rfl) (by kernel_rfl) fun kk hkk => ?_
    obtain ⟨h1, h2⟩ := nums_var hn
    obtain ⟨m, rfl⟩ : ∃ m, kk = m + 100 := ⟨kk - 100, by omega⟩
    have h3 := dg_itoa m n.toNat h1
    rw [h2] at h3
    exact text_var (m + 100) n [] _ h3
  | d + 1, .lam n t, hd, hn, hz => by
    refine ev_fn Go.Proofs.Tryz.f20 (d + 110) (by kernel_rfl) (by kernel_rfl) fun kk hkk => ?_
    obtain ⟨_, h1⟩ := nums_lam hn
    simp only [Pt.depth] at hd
    simp only [Pt.size] at hz
    have h2 := ev_text d t (by omega) h1 (by omega) kk (by omega)
    have hl := tx_len t
    have hd1 : (Pt.lam n t).d = T 2 n [t.d] := rfl
    rw [hd1, tx, ← lam_str]
    rw [Pt.d_eq t] at h2 ⊢
    exact text_lam kk n [] _ _ _ _ ⟨⟨by omega, by simp⟩, rfl⟩ h2 (by rw [str_size]; omega)
  | d + 1, .app n a b, hd, hn, hz => by
    refine ev_fn Go.Proofs.Tryz.f20 (d + 110) (by kernel_rfl) (by kernel_rfl) fun kk hkk => ?_
    obtain ⟨_, h1, h2⟩ := nums_app hn
    simp only [Pt.depth] at hd
    simp only [Pt.size] at hz
    have h3 := ev_text d a (by omega) h1 (by omega) kk (by omega)
    have h4 := ev_text d b (by omega) h2 (by omega) kk (by omega)
    have hl := tx_len a
    have hl2 := tx_len b
    have hd1 : (Pt.app n a b).d = T 3 n [a.d, b.d] := rfl
    rw [hd1, tx, ← app_str]
    rw [Pt.d_eq a] at h3 ⊢
    rw [Pt.d_eq b] at h4 ⊢
    have e1 : ∀ x y : ByteArray, (x ++ y).size = x.size + y.size := fun x y => by simp
    have e2 : (⟨#[40]⟩ : ByteArray).size = 1 := rfl
    have e3 : (⟨#[32]⟩ : ByteArray).size = 1 := rfl
    exact text_app kk n [] _ _ _ _ _ _ _ _ ⟨⟨by omega, by simp⟩, rfl⟩ ⟨⟨by omega, by simp⟩, rfl⟩ h3 (by rw [str_size]; omega) (by rw [e1, str_size, e2]; omega) h4 (by rw [e1, e1, str_size, str_size, e2, e3]; omega) (by rw [e1, e1, e1, str_size, str_size, e2, e3]; omega)
theorem ev_lcText : ∀ (d : Nat) (t : Pt), t.depth ≤ d → t.nums = true → t.size ≤ 1000000 → EvN (d + 110) 22 [.dat t.d] [] [] ([.dat (S (str (tx t)))], [], [])
  | 0, t, hd, hn, hz => by have := t.depth_pos; omega
  | d + 1, .var n, hd, hn, hz => by
    refine ev_fn Go.Proofs.Tryz.f22 (d + 110) (by kernel_rfl) (by kernel_rfl) fun kk hkk => ?_
    obtain ⟨h1, h2⟩ := nums_var hn
    obtain ⟨m, rfl⟩ : ∃ m, kk = m + 100 := ⟨kk - 100, by omega⟩
    have h3 := dg_l1 m n.toNat h1
    rw [h2] at h3
    exact lcText_var (m + 100) n [] _ h3
  | d + 1, .lam n t, hd, hn, hz => by
    refine ev_fn Go.Proofs.Tryz.f22 (d + 110) (by kernel_rfl) (by kernel_rfl) fun kk hkk => ?_
    obtain ⟨_, h1⟩ := nums_lam hn
    simp only [Pt.depth] at hd
    simp only [Pt.size] at hz
    have h2 := ev_lcText d t (by omega) h1 (by omega) kk (by omega)
    have hl := tx_len t
    have hd1 : (Pt.lam n t).d = T 2 n [t.d] := rfl
    rw [hd1, tx, ← lam_str]
    rw [Pt.d_eq t] at h2 ⊢
    exact lcText_lam kk n [] _ _ _ _ ⟨⟨by omega, by simp⟩, rfl⟩ h2 (by rw [str_size]; omega)
  | d + 1, .app n a b, hd, hn, hz => by
    refine ev_fn Go.Proofs.Tryz.f22 (d + 110) (by kernel_rfl) (by kernel_rfl) fun kk hkk => ?_
    obtain ⟨_, h1, h2⟩ := nums_app hn
    simp only [Pt.depth] at hd
    simp only [Pt.size] at hz
    have h3 := ev_lcText d a (by omega) h1 (by omega) kk (by omega)
    have h4 := ev_lcText d b (by omega) h2 (by omega) kk (by omega)
    have hl := tx_len a
    have hl2 := tx_len b
    have hd1 : (Pt.app n a b).d = T 3 n [a.d, b.d] := rfl
    rw [hd1, tx, ← app_str]
    rw [Pt.d_eq a] at h3 ⊢
    rw [Pt.d_eq b] at h4 ⊢
    have e1 : ∀ x y : ByteArray, (x ++ y).size = x.size + y.size := fun x y => by simp
    have e2 : (⟨#[40]⟩ : ByteArray).size = 1 := rfl
    have e3 : (⟨#[32]⟩ : ByteArray).size = 1 := rfl
    exact lcText_app kk n [] _ _ _ _ _ _ _ _ ⟨⟨by omega, by simp⟩, rfl⟩ ⟨⟨by omega, by simp⟩, rfl⟩ h3 (by rw [str_size]; omega) (by rw [e1, str_size, e2]; omega) h4 (by rw [e1, e1, str_size, str_size, e2, e3]; omega) (by rw [e1, e1, e1, str_size, str_size, e2, e3]; omega)
theorem ev_iTermText (L : List Nd) (b : Bool) (t : Pt) (hL : L.length ≤ 1048576) (h : termOfP L = some t) : EvN 2000 6 [.dat (.lst b (L.map Nd.d))] [] [] ([.dat (S (str (tx t))), .dat (B true)], [], []) := by
  refine (ev_fn Go.Proofs.Tryz.f6 1900 (by kernel_rfl) (by kernel_rfl) fun kk hkk => ?_).mono (by omega)
  have hg := good_facts ((termOfP_iff L t).1 h).1
  have a1 := (ev_termOf L b hL).1 t h kk (by omega)
  have a2 := ev_text 40 t hg.2.1 hg.2.2 (by omega) kk (by omega)
  rw [Pt.d_eq] at a1 a2
  exact iText_go kk b _ _ _ _ _ a1 a2
theorem ev_iTermText_no (L : List Nd) (b : Bool) (hL : L.length ≤ 1048576) (h : termOfP L = none) : EvN 2000 6 [.dat (.lst b (L.map Nd.d))] [] [] ([.dat (S ⟨#[]⟩), .dat (B false)], [], []) := by
  refine (ev_fn Go.Proofs.Tryz.f6 1900 (by kernel_rfl) (by kernel_rfl) fun kk hkk => ?_).mono (by omega)
  obtain ⟨k, n, ds, e⟩ := (ev_termOf L b hL).2 h
  exact iText_no kk b _ _ _ _ (e kk (by omega))
theorem ev_sTermText (L : List Nd) (b : Bool) (t : Pt) (hL : L.length ≤ 1048576) (h : termOfP L = some t) : EvN 1001000 7 [.dat (.lst b (L.map Nd.d))] [] [] ([.dat (S (str (tx t))), .dat (B true)], [], []) := by
  refine (ev_fn Go.Proofs.Tryz.f7 1000900 (by kernel_rfl) (by kernel_rfl) fun kk hkk => ?_).mono (by omega)
  have hg := good_facts ((termOfP_iff L t).1 h).1
  have g := ev_GoodTerm L b hL kk (by omega)
  rw [goodS_term, h] at g
  have a1 := ev_tree b h kk (by omega)
  have a2 := ev_lcText 40 t hg.2.1 hg.2.2 (by omega) kk (by omega)
  rw [Pt.d_eq] at a1 a2
  exact sText_go kk b _ _ _ _ _ g a1 a2
theorem ev_sTermText_no (L : List Nd) (b : Bool) (hL : L.length ≤ 1048576) (h : termOfP L = none) : EvN 1001000 7 [.dat (.lst b (L.map Nd.d))] [] [] ([.dat (S ⟨#[]⟩), .dat (B false)], [], []) := by
  refine (ev_fn Go.Proofs.Tryz.f7 1000900 (by kernel_rfl) (by kernel_rfl) fun kk hkk => ?_).mono (by omega)
  have g := ev_GoodTerm L b hL kk (by omega)
  rw [goodS_term, h] at g
  exact sText_no kk b _ g
end Go.Den
namespace Go.Den
open Go
set_option linter.unusedVariables false
set_option maxRecDepth 100000
theorem str_ne (x : UInt8) (l : List UInt8) : decide (str (x :: l) = (⟨#[]⟩ : ByteArray)) = false := decide_eq_false fun h => by
  have := str_inj (b := []) h
  cases this
theorem str_hd (x : UInt8) (l : List UInt8) : (((str (x :: l))[Int.toNat 0]?.getD 0).toNat : Int) = x.toNat := by
  rw [str_get]
  rfl
theorem str_all (l : List UInt8) (k : Nat) : (str l).extract k ((none : Option Int).getD ((str l).size : Int)).toNat = str (l.drop k) := by
  rw [show ((none : Option Int).getD ((str l).size : Int)).toNat = l.length by rw [str_size]; rfl, str_extract, List.take_length]
theorem str_cut (a b : List UInt8) : (str (a ++ b)).extract 0 a.length = str a := by
  rw [str_extract, List.drop_zero, List.take_left]
theorem dg_digit : ∀ k : Fin 100, ∀ c ∈ dg k.val, 48 ≤ c.toNat ∧ c.toNat ≤ 57 := by decide +kernel
theorem ev_cut (c : UInt8) (l : List UInt8) (hl : l.length ≤ 2000000000) : EvN 5 53 [.dat (S (str (c :: l))), .dat (S (str [c]))] [] [] ([.dat (S (str l)), .dat (B true)], [], []) := by
  have hsz : (str (c :: l)).size = l.length + 1 := by rw [str_size]; rfl
  have hs1 : (str [c]).size = 1 := by rw [str_size]; rfl
  have e1 : EvN 2 103 [.dat (S (str (c :: l))), .dat (S (str [c]))] [] [] ([.dat (B true)], [], []) := by
    refine ev_fn Go.Proofs.Tryz.f103 1 (by kernel_rfl) (by kernel_rfl) fun kk hk => ?_
    have := prefix_go kk (str (c :: l)) (str [c]) (decide_eq_true (by omega)) ⟨by show (0 : Int) ≤ 0; omega, by show (0 : Int) ≤ ((str [c]).size : Int); omega, by show ((str [c]).size : Int) ≤ ((str (c :: l)).size : Int); omega⟩
    rw [this]
    have e : (str (c :: l)).extract 0 (((some ((str [c]).size : Int) : Option Int).getD ((str (c :: l)).size : Int))).toNat = str [c] := by
      show (str (c :: l)).extract 0 ((str [c]).size : Int).toNat = _
      rw [hs1]
      exact str_cut [c] l
    rw [e, decide_eq_true rfl]
  have e2 : EvN 3 82 [.dat (S (str (c :: l))), .dat (S (str [c]))] [] [] ([.dat (S (str l)), .dat (B true)], [], []) := by
    refine ev_fn Go.Proofs.Tryz.f82 2 (by kernel_rfl) (by kernel_rfl) fun kk hk => ?_
    have := cut2_go kk (str (c :: l)) (str [c]) (e1 kk (by omega)) ⟨by show (0 : Int) ≤ ((str [c]).size : Int); omega, by show ((str [c]).size : Int) ≤ ((str (c :: l)).size : Int); omega, by show ((str (c :: l)).size : Int) ≤ ((str (c :: l)).size : Int); omega⟩
    rw [this]
    have e : (str (c :: l)).extract (((some ((str [c]).size : Int) : Option Int).getD 0)).toNat ((none : Option Int).getD ((str (c :: l)).size : Int)).toNat = str l := by
      show (str (c :: l)).extract ((str [c]).size : Int).toNat _ = _
      rw [hs1]
      exact str_all (c :: l) 1
    rw [e]
  exact (ev_fn Go.Proofs.Tryz.f53 3 (by kernel_rfl) (by kernel_rfl) fun kk hk => cut_go kk _ _ _ (e2 kk (by omega))).mono (by omega)
theorem ev_read : ∀ (d : Nat) (t : Pt) (rest : List UInt8) (dd : Int), t.depth ≤ d → t.nums = true → rest.length + 10 * t.size ≤ 1000000000 → (∀ c, rest.head? = some c → c.toNat < 48) → 0 ≤ dd → dd + t.depth ≤ 41 →
    EvN (d + 120) 24 [.dat (S (str (tx t ++ rest))), .dat (I dd)] [] [] ([.dat t.d, .dat (S (str rest)), .dat (B true)], [], [])
  | 0, t, rest, dd, hd, hn, hz, hr, h0, h1 => by have := t.depth_pos; omega
  | d + 1, .lam n t, rest, dd, hd, hn, hz, hr, h0, h1 => by
    refine ev_fn Go.Proofs.Tryz.f24 (d + 120) (by kernel_rfl) (by kernel_rfl) fun kk hkk => ?_
    obtain ⟨rfl, hnt⟩ := nums_lam hn
    simp only [Pt.depth] at hd h1
    simp only [Pt.size] at hz
    have hev := ev_read d t rest (dd + 1) (by omega) hnt (by omega) hr (by omega) (by omega) kk (by omega)
    have hlam := ev_lam t kk (by omega)
    have hs : tx (.lam 0 t) ++ rest = 92 :: (tx t ++ rest) := rfl
    rw [hs]
    have hsz : (str (92 :: (tx t ++ rest))).size = (tx t ++ rest).length + 1 := by rw [str_size]; rfl
    rw [Pt.d_eq t] at hev hlam
    rw [Pt.d_eq (.lam 0 t)] at hlam ⊢
    refine read_lam kk _ (str rest) dd true _ _ _ _ _ _ (str_ne _ _) (decide_eq_false (by omega)) ⟨by omega, by omega⟩ (by rw [str_hd]; decide) ⟨by decide, by show (1 : Int) ≤ ((str (92 :: (tx t ++ rest))).size : Int); omega, by show ((str (92 :: (tx t ++ rest))).size : Int) ≤ _; omega⟩ ?_ hlam
    rw [str_all (92 :: (tx t ++ rest)) 1, w64_eq (by omega)]
    exact hev
  | d + 1, .app n a b, rest, dd, hd, hn, hz, hr, h0, h1 => by
    refine ev_fn Go.Proofs.Tryz.f24 (d + 120) (by kernel_rfl) (by kernel_rfl) fun kk hkk => ?_
    obtain ⟨rfl, hna, hnb⟩ := nums_app hn
    simp only [Pt.depth] at hd h1
    simp only [Pt.size] at hz
    have hla := tx_len a
    have hlb := tx_len b
    have hpa := a.size_pos
    have hpb := b.size_pos
    have e1 := ev_read d a (32 :: (tx b ++ 41 :: rest)) (dd + 1) (by omega) hna (by simp only [List.length_cons, List.length_append]; omega) (fun c hc => by cases hc; decide) (by omega) (by omega) kk (by omega)
    have e2 := ev_read d b (41 :: rest) (dd + 1) (by omega) hnb (by simp only [List.length_cons]; omega) (fun c hc => by cases hc; decide) (by omega) (by omega) kk (by omega)
    have c1 := ev_cut 32 (tx b ++ 41 :: rest) (by simp only [List.length_cons, List.length_append]; omega) kk (by omega)
    have c2 := ev_cut 41 rest (by omega) kk (by omega)
    have happ := ev_app a b kk (by omega)
    have hs : tx (.app 0 a b) ++ rest = 40 :: (tx a ++ 32 :: (tx b ++ 41 :: rest)) := by simp [tx]
    rw [hs]
    have hsz : (str (40 :: (tx a ++ 32 :: (tx b ++ 41 :: rest)))).size = (tx a ++ 32 :: (tx b ++ 41 :: rest)).length + 1 := by rw [str_size]; rfl
    rw [Pt.d_eq (.app 0 a b)] at happ ⊢
    rw [Pt.d_eq a] at e1 happ
    rw [Pt.d_eq b] at e2 happ
    refine read_app kk _ _ _ _ _ dd _ _ _ _ _ _ _ _ _ (str_ne _ _) (decide_eq_false (by omega)) ⟨by omega, by omega⟩ (by rw [str_hd]; decide) ⟨by omega, by omega⟩ (by rw [str_hd]; decide) ⟨by decide, by show (1 : Int) ≤ ((str (40 :: (tx a ++ 32 :: (tx b ++ 41 :: rest)))).size : Int); omega, by show ((str (40 :: (tx a ++ 32 :: (tx b ++ 41 :: rest)))).size : Int) ≤ _; omega⟩ ?_ c1 ?_ c2 happ
    · rw [str_all (40 :: (tx a ++ 32 :: (tx b ++ 41 :: rest))) 1, w64_eq (by omega)]
      exact e1
    · rw [w64_eq (by omega)]
      exact e2
  | d + 1, .var n, rest, dd, hd, hn, hz, hr, h0, h1 => by
    refine ev_fn Go.Proofs.Tryz.f24 (d + 120) (by kernel_rfl) (by kernel_rfl) fun kk hkk => ?_
    obtain ⟨h2, h3⟩ := nums_var hn
    simp only [Pt.depth] at h1
    have hdl := dg_len n.toNat
    have hdig := dg_digit ⟨n.toNat, h2⟩
    simp only at hdig
    have hs : tx (.var n) ++ rest = dg n.toNat ++ rest := rfl
    rw [hs]
    have hsz : (str (dg n.toNat ++ rest)).size = (dg n.toNat).length + rest.length := by rw [str_size, List.length_append]
    obtain ⟨m, hm⟩ : ∃ m, kk = m + 100 := ⟨kk - 100, by omega⟩
    have hat := dg_atoi m n.toNat h2
    rw [← hm, h3] at hat
    have hv := ev_variable n kk (by omega)
    have hget : ∀ j (hj : j < (dg n.toNat).length), (((str (dg n.toNat ++ rest))[((j : Nat) : Int).toNat]?.getD 0).toNat : Int) = ((dg n.toNat)[j]).toNat := fun j hj => by
      rw [Int.toNat_natCast, str_get, List.getElem?_append_left hj, List.getElem?_eq_getElem hj]
      rfl
    have hloop : LoopAt cfg kk 24 Go.Proofs.Tryz.f24 13 (hd24 (str (dg n.toNat ++ rest)) 0) (.exit 1) (Nm [0, 4, 18] [.dat (S (str (dg n.toNat ++ rest))), .ptr (.loc 4) 0, .dat (I ((dg n.toNat).length : Nat))] [none, some [.dat (I 0), .dat (I 0), .own 46 []], none] [] []) := by
      let st := fun j : Nat => hd24 (str (dg n.toNat ++ rest)) j
      refine loopAt_range st (dg n.toNat).length (by omega) (fun j hj m s K hs hn' => ?_) (fun m s K hs hK => ?_) rfl
      · have hd := hdig _ (List.getElem_mem hj)
        refine dig_go kk m _ (j : Int) hs (decide_eq_true (by omega)) (decide_eq_true (by omega)) ⟨by omega, by omega⟩ (decide_eq_true (by rw [hget j hj]; omega)) ⟨by omega, by omega⟩ (decide_eq_true (by rw [hget j hj]; omega)) fun s' hs' => hn' s' ?_
        rw [hs', w64_eq (by omega)]
        rfl
      · cases rest with
        | nil => exact dig_end kk m _ _ hs (decide_eq_false (by simp only [List.length_nil] at hsz; omega)) hK
        | cons c rest =>
          have hc := hr c rfl
          have hg : (((str (dg n.toNat ++ c :: rest))[(((dg n.toNat).length : Nat) : Int).toNat]?.getD 0).toNat : Int) = c.toNat := by
            rw [Int.toNat_natCast, str_get, List.getElem?_append_right (Nat.le_refl _), Nat.sub_self]
            rfl
          simp only [List.length_cons] at hsz
          exact dig_lo kk m _ _ hs (decide_eq_true (by omega)) (decide_eq_true (by omega)) ⟨by omega, by omega⟩ (decide_eq_false (by rw [hg]; omega)) hK
    obtain ⟨x, xs, hx⟩ : ∃ x xs, dg n.toNat = x :: xs := by
      cases h : dg n.toNat with
      | nil => rw [h] at hdl; simp at hdl
      | cons x xs => exact ⟨x, xs, rfl⟩
    have hxd := hdig x (by rw [hx]; simp)
    have hhd : (((str (dg n.toNat ++ rest))[Int.toNat 0]?.getD 0).toNat : Int) = x.toNat := by rw [hx]; exact str_hd x (xs ++ rest)
    have hne : decide (str (dg n.toNat ++ rest) = (⟨#[]⟩ : ByteArray)) = false := by rw [hx]; exact str_ne x (xs ++ rest)
    have := read_var kk (str (dg n.toNat ++ rest)) dd n ((dg n.toNat).length : Nat) _ _ _ hne (decide_eq_false (by omega)) ⟨by omega, by omega⟩ (by rw [hhd]; exact decide_eq_false (by omega)) ⟨by omega, by omega⟩ (by rw [hhd]; exact decide_eq_false (by omega)) hloop ⟨by decide, by show (0 : Int) ≤ (((dg n.toNat).length : Nat) : Int); omega, by show (((dg n.toNat).length : Nat) : Int) ≤ _; omega⟩ (by
      rw [show ((some (((dg n.toNat).length : Nat) : Int) : Option Int).getD ((str (dg n.toNat ++ rest)).size : Int)).toNat = (dg n.toNat).length from rfl, str_cut]
      exact hat) ⟨by show (0 : Int) ≤ (((dg n.toNat).length : Nat) : Int); omega, by show (((dg n.toNat).length : Nat) : Int) ≤ ((str (dg n.toNat ++ rest)).size : Int); omega, by show ((str (dg n.toNat ++ rest)).size : Int) ≤ _; omega⟩ hv
    rw [this]
    have e : (str (dg n.toNat ++ rest)).extract ((some (((dg n.toNat).length : Nat) : Int) : Option Int).getD 0).toNat ((none : Option Int).getD ((str (dg n.toNat ++ rest)).size : Int)).toNat = str rest := by
      show (str (dg n.toNat ++ rest)).extract (((dg n.toNat).length : Nat) : Int).toNat _ = _
      rw [Int.toNat_natCast, str_all, List.drop_left]
    rw [e]
    rfl
theorem ev_iReadTerm (t : Pt) (hg : t.good = true) : EvN 2000 8 [.dat (S (str (tx t)))] [] [] ([.own 60 ((t.flat 0 (-1)).map Nd.d), .dat (B true)], [], []) := by
  refine (ev_fn Go.Proofs.Tryz.f8 1900 (by kernel_rfl) (by kernel_rfl) fun kk hkk => ?_).mono (by omega)
  have hf := good_facts hg
  have hl := tx_len t
  have e1 := ev_read 40 t [] 1 hf.2.1 hf.2.2 (by simp only [List.length_nil]; omega) (fun c hc => by cases hc) (by omega) (by omega) kk (by omega)
  rw [List.append_nil] at e1
  have e2 := ev_text 40 t hf.2.1 hf.2.2 (by omega) kk (by omega)
  have e3 := ev_goodNodes t (by omega) kk (by omega)
  rw [hg, if_pos rfl] at e3
  rw [Pt.d_eq t] at e1 e2 e3
  exact iRead kk _ _ _ _ _ (decide_eq_false (by rw [str_size]; omega)) e1 e2 (by simp) e3
end Go.Den
namespace Go.Den
open Go
set_option linter.unusedVariables false
set_option maxRecDepth 100000
theorem drawSh (kk : Nat) (cs : List Dat) (p1 s1 : Int) (p2 s2 : Int) (p3 s3 : Int) (v w : Int) (out : List Dat) (h1 : den cfg kk 17 [D.ptr (Ref.up 0) 0] [[D.dat (Dat.lst false cs), D.dat (I 0), D.dat (Dat.val (Value.int IntKind.u64 0))]] [] = some ([D.own 60 out], [[D.dat (Dat.lst false cs), D.dat (I p1), D.dat (Dat.val (Value.int IntKind.u64 s1))]], [])) (h3 : den cfg kk 18 [D.ptr (Ref.up 0) 0, D.dat (I 9)] [[D.dat (Dat.lst false cs), D.dat (I p1), D.dat (Dat.val (Value.int IntKind.u64 s1))]] [] = some ([D.dat (I v)], [[D.dat (Dat.lst false cs), D.dat (I p2), D.dat (Dat.val (Value.int IntKind.u64 s2))]], [])) (h5 : den cfg kk 18 [D.ptr (Ref.up 0) 0, D.dat (I 4)] [[D.dat (Dat.lst false cs), D.dat (I p2), D.dat (Dat.val (Value.int IntKind.u64 s2))]] [] = some ([D.dat (I w)], [[D.dat (Dat.lst false cs), D.dat (I p3), D.dat (Dat.val (Value.int IntKind.u64 s3))]], [])) : runFn cfg kk (den cfg kk) 5 Go.Proofs.Tryz.f5 [.dat (Dat.lst false cs)] [] [] = some ([D.own 60 out, D.dat (I (w64 (v - 4))), D.dat (I w)], [], []) :=
  hrun_ok [(10, .back [.own 60 out] [[.dat (.lst false cs), .dat (I p1), .dat (U64 s1)]] []), (12, .back [.dat (I v)] [[.dat (.lst false cs), .dat (I p2), .dat (U64 s2)]] []), (15, .back [.dat (I w)] [[.dat (.lst false cs), .dat (I p3), .dat (U64 s3)]] [])] (ob h1 (ob (rfl : false = false) (ob h3 (ob (rfl : false = false) (ob h5 (ob (rfl : false = false) ob0)))))) (by kernel_rfl)
theorem fnTm_big (kk : Nat) (cs : List Dat) (h1 : decide (1048576 < (cs.length : Int)) = true) : runFn cfg kk (den cfg kk) 3 Go.Proofs.Tryz.f3 [.dat (Dat.lst false cs)] [] [] = some ([D.dat (B true)], [], []) :=
  hrun_ok [(200020, .yes)] (ob h1 ob0) (by kernel_rfl)
theorem fnTm_no (kk : Nat) (cs ls ms ts bs : List Dat) (v w : Int) (c : ByteArray) (h1 : decide (1048576 < (cs.length : Int)) = false) (h2 : den cfg kk 5 [D.dat (Dat.lst false cs)] [] [] = some ([D.own 60 ls, D.dat (I v), D.dat (I w)], [], [])) (h4 : den cfg kk 6 [D.dat (Dat.lst true ls)] [] [] = some ([D.dat (Dat.val (Value.string { data := #[] })), D.dat (B false)], [], [])) (h6 : den cfg kk 7 [D.dat (Dat.lst true ls)] [] [] = some ([D.dat (Dat.val (Value.string { data := #[] })), D.dat (B false)], [], [])) : runFn cfg kk (den cfg kk) 3 Go.Proofs.Tryz.f3 [.dat (Dat.lst false cs)] [] [] = some ([D.dat (B true)], [], []) :=
  hrun_ok [(200020, .no), (23, .ret [.own 60 ls, .dat (I v), .dat (I w)]), (29, .ret [.dat (S ⟨#[]⟩), .dat (B false)]), (34, .ret [.dat (S ⟨#[]⟩), .dat (B false)]), (200040, .no), (200044, .no)] (ob h1 (ob h2 (ob (rfl : true = true) (ob h4 (ob (rfl : true = true) (ob h6 (ob (rfl : false = false) (ob (rfl : false = false) (ob (rfl : false = false) (ob (rfl : false = false) ob0)))))))))) (by kernel_rfl)
theorem fnTm_cut (kk : Nat) (cs ls ms ts bs : List Dat) (v w : Int) (c : ByteArray) (h1 : decide (1048576 < (cs.length : Int)) = false) (h2 : den cfg kk 5 [D.dat (Dat.lst false cs)] [] [] = some ([D.own 60 ls, D.dat (I v), D.dat (I w)], [], [])) (h4 : den cfg kk 6 [D.dat (Dat.lst true ls)] [] [] = some ([D.dat (Dat.val (Value.string c)), D.dat (B true)], [], [])) (h6 : den cfg kk 7 [D.dat (Dat.lst true ls)] [] [] = some ([D.dat (Dat.val (Value.string c)), D.dat (B true)], [], [])) (h10 : (!decide (c = c)) = false) (h11 : den cfg kk 8 [D.dat (Dat.val (Value.string c))] [] [] = some ([D.own 60 ms, D.dat (B true)], [], [])) (h16 : den cfg kk 9 [D.dat (Dat.lst true ls), D.dat (Dat.lst true ms)] [] [] = some ([D.dat (B true)], [], [])) (h19 : D.cleans [D.own 60 ts, D.dat (B false)] = true) (h20 : den cfg kk 10 [D.dat (Dat.lst true ls), D.dat (I v), D.dat (I w)] [] [] = some ([D.own 60 ts, D.dat (B false)], [], [])) (h21 : D.cleans [D.own 60 ts, D.dat (B false)] = true) (h22 : den cfg kk 11 [D.dat (Dat.lst true ls), D.dat (I v), D.dat (I w)] [] [] = some ([D.own 60 ts, D.dat (B false)], [], [])) (h27 : den cfg kk 9 [D.dat (Dat.lst true ts), D.dat (Dat.lst true ts)] [] [] = some ([D.dat (B true)], [], [])) : runFn cfg kk (den cfg kk) 3 Go.Proofs.Tryz.f3 [.dat (Dat.lst false cs)] [] [] = some ([D.dat (B true)], [], []) :=
  hrun_ok [(200020, .no), (23, .ret [.own 60 ls, .dat (I v), .dat (I w)]), (29, .ret [.dat (S c), .dat (B true)]), (34, .ret [.dat (S c), .dat (B true)]), (200040, .no), (200044, .no), (51, .ret [.own 60 ms, .dat (B true)]), (200056, .no), (59, .ret [.dat (B true)]), (200061, .no), (66, .ret [.own 60 ts, .dat (B false)]), (73, .ret [.own 60 ts, .dat (B false)]), (200079, .no), (82, .ret [.dat (B true)]), (200084, .no), (200087, .yes), (200090, .yes)] (ob h1 (ob h2 (ob (rfl : true = true) (ob h4 (ob (rfl : true = true) (ob h6 (ob (rfl : false = false) (ob (rfl : false = false) (ob (rfl : false = false) (ob h10 (ob h11 (ob (rfl : false = false) (ob (rfl : false = false) (ob (rfl : false = false) (ob (rfl : true = true) (ob h16 (ob (rfl : false = false) (ob (rfl : false = false) (ob h19 (ob h20 (ob h21 (ob h22 (ob (rfl : false = false) (ob (rfl : false = false) (ob (rfl : false = false) (ob (rfl : true = true) (ob h27 (ob (rfl : false = false) (ob (rfl : false = false) (ob (rfl : true = true) (ob (rfl : true = true) (ob (rfl : true = true) ob0)))))))))))))))))))))))))))))))) (by kernel_rfl)
theorem fnTm_neg (kk : Nat) (cs ls ms ts bs : List Dat) (v w : Int) (c : ByteArray) (h1 : decide (1048576 < (cs.length : Int)) = false) (h2 : den cfg kk 5 [D.dat (Dat.lst false cs)] [] [] = some ([D.own 60 ls, D.dat (I v), D.dat (I w)], [], [])) (h4 : den cfg kk 6 [D.dat (Dat.lst true ls)] [] [] = some ([D.dat (Dat.val (Value.string c)), D.dat (B true)], [], [])) (h6 : den cfg kk 7 [D.dat (Dat.lst true ls)] [] [] = some ([D.dat (Dat.val (Value.string c)), D.dat (B true)], [], [])) (h10 : (!decide (c = c)) = false) (h11 : den cfg kk 8 [D.dat (Dat.val (Value.string c))] [] [] = some ([D.own 60 ms, D.dat (B true)], [], [])) (h16 : den cfg kk 9 [D.dat (Dat.lst true ls), D.dat (Dat.lst true ms)] [] [] = some ([D.dat (B true)], [], [])) (h19 : D.cleans [D.own 60 ts, D.dat (B true)] = true) (h20 : den cfg kk 10 [D.dat (Dat.lst true ls), D.dat (I v), D.dat (I w)] [] [] = some ([D.own 60 ts, D.dat (B true)], [], [])) (h21 : D.cleans [D.own 60 ts, D.dat (B true)] = true) (h22 : den cfg kk 11 [D.dat (Dat.lst true ls), D.dat (I v), D.dat (I w)] [] [] = some ([D.own 60 ts, D.dat (B true)], [], [])) (h27 : den cfg kk 9 [D.dat (Dat.lst true ts), D.dat (Dat.lst true ts)] [] [] = some ([D.dat (B true)], [], [])) (h32 : decide (v < 0) = true) : runFn cfg kk (den cfg kk) 3 Go.Proofs.Tryz.f3 [.dat (Dat.lst false cs)] [] [] = some ([D.dat (B true)], [], []) :=
  hrun_ok [(200020, .no), (23, .ret [.own 60 ls, .dat (I v), .dat (I w)]), (29, .ret [.dat (S c), .dat (B true)]), (34, .ret [.dat (S c), .dat (B true)]), (200040, .no), (200044, .no), (51, .ret [.own 60 ms, .dat (B true)]), (200056, .no), (59, .ret [.dat (B true)]), (200061, .no), (66, .ret [.own 60 ts, .dat (B true)]), (73, .ret [.own 60 ts, .dat (B true)]), (200079, .no), (82, .ret [.dat (B true)]), (200084, .no), (200087, .no), (200090, .yes)] (ob h1 (ob h2 (ob (rfl : true = true) (ob h4 (ob (rfl : true = true) (ob h6 (ob (rfl : false = false) (ob (rfl : false = false) (ob (rfl : false = false) (ob h10 (ob h11 (ob (rfl : false = false) (ob (rfl : false = false) (ob (rfl : false = false) (ob (rfl : true = true) (ob h16 (ob (rfl : false = false) (ob (rfl : false = false) (ob h19 (ob h20 (ob h21 (ob h22 (ob (rfl : false = false) (ob (rfl : false = false) (ob (rfl : false = false) (ob (rfl : true = true) (ob h27 (ob (rfl : false = false) (ob (rfl : false = false) (ob (rfl : false = false) (ob (rfl : false = false) (ob h32 ob0)))))))))))))))))))))))))))))))) (by kernel_rfl)
theorem fnTm_go (kk : Nat) (cs ls ms ts bs : List Dat) (v w : Int) (c : ByteArray) (h1 : decide (1048576 < (cs.length : Int)) = false) (h2 : den cfg kk 5 [D.dat (Dat.lst false cs)] [] [] = some ([D.own 60 ls, D.dat (I v), D.dat (I w)], [], [])) (h4 : den cfg kk 6 [D.dat (Dat.lst true ls)] [] [] = some ([D.dat (Dat.val (Value.string c)), D.dat (B true)], [], [])) (h6 : den cfg kk 7 [D.dat (Dat.lst true ls)] [] [] = some ([D.dat (Dat.val (Value.string c)), D.dat (B true)], [], [])) (h10 : (!decide (c = c)) = false) (h11 : den cfg kk 8 [D.dat (Dat.val (Value.string c))] [] [] = some ([D.own 60 ms, D.dat (B true)], [], [])) (h16 : den cfg kk 9 [D.dat (Dat.lst true ls), D.dat (Dat.lst true ms)] [] [] = some ([D.dat (B true)], [], [])) (h19 : D.cleans [D.own 60 ts, D.dat (B true)] = true) (h20 : den cfg kk 10 [D.dat (Dat.lst true ls), D.dat (I v), D.dat (I w)] [] [] = some ([D.own 60 ts, D.dat (B true)], [], [])) (h21 : D.cleans [D.own 60 ts, D.dat (B true)] = true) (h22 : den cfg kk 11 [D.dat (Dat.lst true ls), D.dat (I v), D.dat (I w)] [] [] = some ([D.own 60 ts, D.dat (B true)], [], [])) (h27 : den cfg kk 9 [D.dat (Dat.lst true ts), D.dat (Dat.lst true ts)] [] [] = some ([D.dat (B true)], [], [])) (h32 : decide (v < 0) = false) (h33 : D.cleans [D.own 60 bs, D.dat (B true)] = true) (h34 : den cfg kk 10 [D.dat (Dat.lst true ts), D.dat (I (w64 (0 - v))), D.dat (I w)] [] [] = some ([D.own 60 bs, D.dat (B true)], [], [])) (h39 : den cfg kk 9 [D.dat (Dat.lst true bs), D.dat (Dat.lst true ls)] [] [] = some ([D.dat (B true)], [], [])) : runFn cfg kk (den cfg kk) 3 Go.Proofs.Tryz.f3 [.dat (Dat.lst false cs)] [] [] = some ([D.dat (B true)], [], []) :=
  hrun_ok [(200020, .no), (23, .ret [.own 60 ls, .dat (I v), .dat (I w)]), (29, .ret [.dat (S c), .dat (B true)]), (34, .ret [.dat (S c), .dat (B true)]), (200040, .no), (200044, .no), (51, .ret [.own 60 ms, .dat (B true)]), (200056, .no), (59, .ret [.dat (B true)]), (200061, .no), (66, .ret [.own 60 ts, .dat (B true)]), (73, .ret [.own 60 ts, .dat (B true)]), (200079, .no), (82, .ret [.dat (B true)]), (200084, .no), (200087, .no), (200090, .no), (96, .ret [.own 60 bs, .dat (B true)]), (200100, .yes), (103, .ret [.dat (B true)])] (ob h1 (ob h2 (ob (rfl : true = true) (ob h4 (ob (rfl : true = true) (ob h6 (ob (rfl : false = false) (ob (rfl : false = false) (ob (rfl : false = false) (ob h10 (ob h11 (ob (rfl : false = false) (ob (rfl : false = false) (ob (rfl : false = false) (ob (rfl : true = true) (ob h16 (ob (rfl : false = false) (ob (rfl : false = false) (ob h19 (ob h20 (ob h21 (ob h22 (ob (rfl : false = false) (ob (rfl : false = false) (ob (rfl : false = false) (ob (rfl : true = true) (ob h27 (ob (rfl : false = false) (ob (rfl : false = false) (ob (rfl : false = false) (ob (rfl : false = false) (ob h32 (ob h33 (ob h34 (ob (rfl : true = true) (ob (rfl : true = true) (ob (rfl : true = true) (ob (rfl : true = true) (ob h39 ob0))))))))))))))))))))))))))))))))))))))) (by kernel_rfl)
end Go.Den
namespace Go.Den
open Go
set_option linter.unusedVariables false
set_option maxRecDepth 100000
theorem ev_same (L : List Nd) (b1 b2 : Bool) (hL : L.length ≤ 1048576) : EvN 1048600 9 [.dat (.lst b1 (L.map Nd.d)), .dat (.lst b2 (L.map Nd.d))] [] [] ([.dat (B true)], [], []) := by
  refine (ev_fn Go.Proofs.Tryz.f9 (L.length + 5) (by kernel_rfl) (by kernel_rfl) fun kk hk => ?_).mono (by omega)
  refine same_y kk b1 b2 _ _ (by simp) ?_
  let st := fun i : Nat => h2_9 b1 b2 (L.map Nd.d) (L.map Nd.d) i
  have hlen : ((L.map Nd.d).length : Int) = L.length := by simp
  refine loopAt_range st L.length (by omega) (fun i hi m s K hs hn => ?_) (fun m s K hs hK => ?_) rfl
  · have hget : (L.map Nd.d)[((i : Nat) : Int).toNat]? = some (N3 L[i].k L[i].n L[i].u) := by
      rw [Int.toNat_natCast, List.getElem?_map, List.getElem?_eq_getElem hi]
      rfl
    refine same_go kk m b1 b2 _ _ (i : Int) _ _ _ _ _ _ hs (decide_eq_true (by omega)) ⟨⟨by omega, by omega⟩, hget⟩ ⟨⟨by omega, by omega⟩, hget⟩ (by simp) fun s' hs' => hn s' ?_
    rw [hs', w64_eq (by omega)]
    rfl
  · exact same_end kk m b1 b2 _ _ _ hs (decide_eq_false (by omega)) hK
theorem sh_back (b : Int) (hb : 0 ≤ b) : ∀ (t : Pt) (f : Int), t.nums = true → shOk (-b) f (sh b f t) = true ∧ sh (-b) f (sh b f t) = t
  | .var n, f, h => by
    simp only [sh]
    by_cases hf : f ≤ n
    · rw [if_pos hf]
      simp only [shOk, sh]
      rw [if_pos (by omega), if_pos (by omega)]
      refine ⟨decide_eq_true (by omega), ?_⟩
      congr 1
      omega
    · rw [if_neg hf]
      simp only [shOk, sh]
      rw [if_neg hf, if_neg hf]
      exact ⟨rfl, rfl⟩
  | .lam n t, f, h => by
    obtain ⟨rfl, h1⟩ := nums_lam h
    obtain ⟨h2, h3⟩ := sh_back b hb t (f + 1) h1
    simp only [sh, shOk, h2, h3]
    exact ⟨trivial, trivial⟩
  | .app n x y, f, h => by
    obtain ⟨rfl, h1, h1'⟩ := nums_app h
    obtain ⟨h2, h3⟩ := sh_back b hb x f h1
    obtain ⟨h4, h5⟩ := sh_back b hb y f h1'
    simp only [sh, shOk, h2, h3, h4, h5]
    exact ⟨rfl, trivial⟩
theorem shift_cases (L : List Nd) (v w : Int) : (shiftN L v w).2 = false ∨ ∃ t, termOfP L = some t ∧ ((-99 ≤ v ∧ v ≤ 99) ∧ (0 ≤ w ∧ w ≤ 99)) ∧ (sh v w t).good = true ∧ shiftN L v w = ((sh v w t).flat 0 (-1), true) := by
  unfold shiftN
  cases h1 : termOfP L with
  | none => exact .inl rfl
  | some t =>
    simp only
    split
    · rename_i hc
      unfold told
      cases h3 : (sh v w t).good with
      | false => exact .inl (by simp)
      | true => exact .inr ⟨t, rfl, hc.1, h3, by simp⟩
    · exact .inl rfl
theorem shift_back {L : List Nd} {t : Pt} {v w : Int} (ht : termOfP L = some t) (hv : 0 ≤ v) (hb : (-99 ≤ v ∧ v ≤ 99) ∧ (0 ≤ w ∧ w ≤ 99)) (hg : (sh v w t).good = true) : shiftN ((sh v w t).flat 0 (-1)) (-v) w = (L, true) := by
  have h := (termOfP_iff L t).1 ht
  obtain ⟨h1, h2⟩ := sh_back v hv t w (good_facts h.1).2.2
  unfold shiftN
  rw [(termOfP_iff _ _).2 ⟨hg, rfl⟩]
  simp only
  rw [if_pos ⟨⟨by omega, hb.2⟩, h1⟩, h2]
  unfold told
  rw [h.1, ← h.2]
  rfl
theorem ev_drawSh {cs : List Dat} (hb : Bs cs) : ∃ (L : List Nd) (v w : Int), L.length ≤ 1000 ∧ (-4 ≤ v ∧ v ≤ 4) ∧ EvN 61 5 [.dat (.lst false cs)] [] [] ([.own 60 (L.map Nd.d), .dat (I v), .dat (I w)], [], []) := by
  obtain ⟨L, p1, s1, hL, ha1, ha2, hev1⟩ := ev_terms hb 0 0 (by omega) (by omega)
  obtain ⟨v, p2, s2, hb1, hb2, hv0, hv1, hev2⟩ := ev_pick hb 9 p1 s1 (by omega) (by omega) (by omega)
  obtain ⟨w, p3, s3, hc1, hc2, hw0, hw1, hev3⟩ := ev_pick hb 4 p2 s2 (by omega) (by omega) (by omega)
  refine ⟨L, v - 4, w, hL, by omega, ev_fn Go.Proofs.Tryz.f5 60 (by kernel_rfl) (by kernel_rfl) fun kk hk => ?_⟩
  have := drawSh kk cs p1 s1 p2 s2 p3 s3 v w _ (hev1 kk (by omega)) (hev2 kk (by omega)) (hev3 kk (by omega))
  rw [w64_eq (n := v - 4) (by omega)] at this
  exact this
theorem fnTerms_den : ∀ (d0 : Dat), WT cfg.ty 22 d0 → ∃ k, den cfg k 3 [.dat d0] [] [] = some ([.dat (.val (.bool true))], [], []) := by
  intro d0 w0
  obtain ⟨cs, rfl, hb⟩ := bytes_of w0
  refine ⟨1100001, ev_fn Go.Proofs.Tryz.f3 1100000 (by kernel_rfl) (by kernel_rfl) (fun kk hkk => ?_) 1100001 (Nat.le_refl _)⟩
  by_cases hbig : 1048576 < (cs.length : Int)
  · exact fnTm_big kk cs (decide_eq_true hbig)
  have hsmall := decide_eq_false hbig
  obtain ⟨L, v, w, hL, hv, hev⟩ := ev_drawSh hb
  have s1 := hev kk (by omega)
  cases ht : termOfP L with
  | none =>
    exact fnTm_no kk cs _ [] [] [] v w ⟨#[]⟩ hsmall s1 (ev_iTermText_no L true (by omega) ht kk (by omega)) (ev_sTermText_no L true (by omega) ht kk (by omega))
  | some t =>
    have s2 := ev_iTermText L true t (by omega) ht kk (by omega)
    have s3 := ev_sTermText L true t (by omega) ht kk (by omega)
    have hLt := (termOfP_iff L t).1 ht
    have s4 := ev_iReadTerm t hLt.1 kk (by omega)
    rw [← hLt.2] at s4
    have e1 := ev_same L true true (by omega) kk (by omega)
    have s5 := ev_iShift L true v w (by omega) kk (by omega)
    have s6 := ev_sShift L true v w (by omega) kk (by omega)
    have hsl := shiftN_len L v w
    have e2 := ev_same (shiftN L v w).1 true true (by omega) kk (by omega)
    rcases shift_cases L v w with ho | ⟨t', ht', hbd, hg, hsh⟩
    · rw [ho] at s5 s6
      exact fnTm_cut kk cs _ _ _ [] v w _ hsmall s1 s2 s3 (by simp) s4 e1 (own_clean _ _) s5 (own_clean _ _) s6 e2
    · rw [ht] at ht'
      cases ht'
      have ho : (shiftN L v w).2 = true := by rw [hsh]
      rw [ho] at s5 s6
      by_cases hneg : v < 0
      · exact fnTm_neg kk cs _ _ _ [] v w _ hsmall s1 s2 s3 (by simp) s4 e1 (own_clean _ _) s5 (own_clean _ _) s6 e2 (decide_eq_true hneg)
      · have s7 := ev_iShift (shiftN L v w).1 true (-v) w (by omega) kk (by omega)
        have hback : shiftN (shiftN L v w).1 (-v) w = (L, true) := by
          rw [hsh]
          exact shift_back ht (by omega) hbd hg
        rw [hback] at s7
        have hw0 : w64 (0 - v) = -v := by rw [w64_eq (by omega)]; omega
        exact fnTm_go kk cs _ _ _ _ v w _ hsmall s1 s2 s3 (by simp) s4 e1 (own_clean _ _) s5 (own_clean _ _) s6 e2 (decide_eq_false hneg) (own_clean L true) (by rw [hw0]; exact s7) e1
end Go.Den
namespace Go.Proofs.YtjmljfpnofjkeaaGreatDoor.fnTerms
open Go.ChangeShapes Go.WideShapes Go.ChangeAt Go.RowKit Go.Den
set_option linter.unusedVariables false
theorem own : ownKnob Tryz.prog.godebug = none := by kernel_rfl
theorem laidOut : laidOutB Tryz.prog = true := by kernel_rfl
theorem body : (Tryz.f3.body).isSome = true := by kernel_rfl
theorem fnThere : cfg.fn 3 = some Tryz.f3 := by kernel_rfl
theorem plain22 : plainTy cfg.ty 8 22 = true := by kernel_rfl
noncomputable def low : Nat := (World.holding Tryz.prog default ⟨#[], #[], []⟩).heap.size
def setG (h : Array Obj) (g : Nat) (c : Array Value) : Array Obj := h.modify g fun
  | .cells _ t frozen => .cells c t frozen
  | o => o
def vals (d : DataW Unit) : Array Value := match d with
  | .agg l => (l.map fun | .lit (.int k n) => Value.int k n | _ => .nilIface).toArray
  | _ => #[]
noncomputable def laidWorld (os : Os) : World :=
  let w0 := World.holding Tryz.prog os ⟨#[.cells #[.string ⟨#[118, 97, 108, 117, 101, 32, 111, 117, 116, 32, 111, 102, 32, 114, 97, 110, 103, 101]⟩] 178, .cells #[.string ⟨#[105, 110, 118, 97, 108, 105, 100, 32, 115, 121, 110, 116, 97, 120]⟩] 178], #[], []⟩
  { w0 with heap := setG (setG (setG (setG (setG w0.heap 0 #[.iface 176 (.pointer (some ⟨low + 1, 0, none⟩))]) 1 #[.iface 176 (.pointer (some ⟨low, 0, none⟩))]) 2 (vals Rows.laid_internal_strconv_uint64pow10)) 3 (vals Rows.laid_math_bits_deBruijn32tab)) 4 (vals Rows.laid_math_bits_deBruijn64tab) }
theorem laid_met (os : Os) (args : Array Value) : laidMetH Tryz.prog Rows.fnTermsRow.laid ((laidWorld os).forCall (fun _ _ => 0) ⟨#[], args, []⟩).memory :=
  laidMetH_of_parts (laidMet_of_run (ps := (List.range 32).map (MemPlace.cell 3 ·) ++ (List.range 64).map (MemPlace.cell 4 ·) ++ (List.range 20).map (MemPlace.cell 2 ·) ++ [.cell 1 0, .cell low 0, .cell 0 0, .cell (low + 1) 0]) 8 (by kernel_rfl) (by kernel_rfl) (by kernel_rfl)) (by kernel_rfl)
set_option maxRecDepth 100000 in
theorem lifted (os : Os) (started : os.Started) (H : Type) (enc : TypeId × Value → H) :
    ReturnsInHanded {} Tryz.checked os 3 .any (fun w args => (Rows.fnTermsSpec.pre enc Tryz.prog Tryz.f3 Rows.fnTermsRow.domain false w args ∧ laidMetH Tryz.prog Rows.fnTermsRow.laid w) ∧ sizedMet enc Tryz.prog Tryz.f3 (OpenSpec.ofChange Rows.fnTermsSpec) false w args) (Rows.fnTermsSpec.post enc Tryz.prog Tryz.f3 false true false false) := by
  refine returnsInHanded_of_change_and (C := Tryz.checked) (X := fun w _ => laidMetH Tryz.prog Rows.fnTermsRow.laid w) (fun _ _ _ hh h => h.of_heap hh) own started (by kernel_rfl) Tryz.func3
    (ChangeSpec.witness_at (enc := enc) (C := Tryz.checked) (os := os) (X := fun w _ => laidMetH Tryz.prog Rows.fnTermsRow.laid w) false (laidWorld os) #[.slice none 0 0] 8 rfl (by kernel_rfl) (by kernel_rfl) (by kernel_rfl) (by kernel_rfl) (by kernel_rfl) (laid_met os _)) ?_
  intro W base args ds gs before hval0 hW hcnd _ hL _
  have hval : ∀ (j : Nat) t v, Tryz.f3.params[j]? = some t → args[j]? = some v → Value.okWide Tryz.prog W .any base t v := hval0
  have hW' := hW
  obtain ⟨p, q, hA0, hV, rfl, hfz, hnd⟩ := hW
  have hA : DataW.TrodAll enc Tryz.prog W 0 (fun _ => true) true Tryz.f3.params.toList args.toList ds p := hA0
  rw [Tryz.params3] at hA hval
  obtain ⟨v0, vs0, d0, ds0, p0, q0, hargs, rfl, rfl, h0, r0⟩ := trodAll_cons hA
  obtain ⟨rfl, rfl, rfl⟩ := trodAll_nil r0
  obtain rfl : args = #[v0] := by cases args; simp_all
  obtain ⟨rfl, rfl⟩ := trodVars_none hV
  have k0 := h0
  have lt0 : ∀ x ∈ p0, x.block < W.heap.size := by obtain ⟨m, hm⟩ := k0; exact DataW.trod_lt m _ _ _ hm
  obtain ⟨e0, cv0, R0, V0, T0⟩ := arg_dat cfg_ty plain22 (hval 0 22 v0 rfl rfl) h0
  clear hA0 hval0
  have hden := fnTerms_den e0 T0
  refine (law_calls (P := Tryz.prog) (C := cfg) (f := 3) (fn := Tryz.f3) (vals := #[v0]) (ds := [e0]) (W := W) (b := true) den_true.out (cfg_fn fnThere) body rfl (fun j d v hj hv => ?_) hden).mono fun e W' hh => ?_
  · match j, hj, hv with
    | 0, hj, hv => cases hj; cases hv; exact ⟨cv0, R0, V0⟩
    | j + 1, hj, hv => simp at hj
  · obtain ⟨he, bel⟩ := hh
    subst he
    exact ⟨_, rfl, _, _, _, [], _, [], hW', trodAll_mk1 (shut_bool Tryz.underlying4 _), (trodAll_cons_mk (Below.trod laidOut (by kernel_rfl) (of_decide_eq_true (by kernel_rfl)) k0 bel lt0) trodAll_mk0), rfl, bel.frame _, fun h => by cases h⟩
theorem over : Rows.fnTermsRow.holds Tryz.pinned (OpenSpec.ofChange Rows.fnTermsSpec) :=
  OpenClaim.holds_of_wide 3 Tryz.f3 rfl rfl rfl rfl rfl rfl rfl ⟨rfl, rfl, rfl, rfl, rfl⟩ rfl rfl rfl rfl rfl (by kernel_rfl) Tryz.func3 (by kernel_rfl)
    (of_decide_eq_true (by kernel_rfl)) (by unfold Func.isWrapper; first | (rw [if_pos (by decide +kernel)]; kernel_rfl) | (rw [if_neg (by decide +kernel)]; exact ⟨rfl, rfl⟩))
    (fun os started H enc _ => lifted os started H enc)
theorem proved : Rows.FnTermsSaid := over
end Go.Proofs.YtjmljfpnofjkeaaGreatDoor.fnTerms
namespace Go.Proofs.YtjmljfpnofjkeaaGreatDoor
/-- The row, under a short name, for the claim. -/
theorem fnTerms_holds : Rows.FnTermsSaid := fnTerms.proved
end Go.Proofs.YtjmljfpnofjkeaaGreatDoor
namespace Go.Proofs.YtjmljfpnofjkeaaGreatDoor
open Go
theorem fnTermsCard_holds : Rows.FnTermsCardSaid :=
  Claim7.holds_tied_plain_at .later [] [.data, .data, .data, .sentinel, .sentinel] true (true, "202534abe789c6918dd3f94b790d29ebf78f50f9df95ba156ad5dabbd6d156ea") true
    fnTerms_holds (fun _ h => by cases h) (by kernel_rfl) (fun _ h => by cases h) fnTerms_row_tie rfl ⟨rfl, rfl⟩ (by kernel_rfl) rfl
    (fun f fn hf hfn => by
      obtain rfl : f = 3 := Option.some.inj ((show Tryz.prog.funcNamed Rows.fnTermsRow.func = some 3 by kernel_rfl).symm.trans hf) |>.symm
      obtain rfl : fn = Tryz.f3 := (Option.some.inj (Tryz.func3.symm.trans hfn)).symm
      exact ⟨by kernel_rfl, fun j t ht => by
        rw [Tryz.params3] at ht
        have h3 : t = 22 := by
          rcases j with _ | j
          · simpa using ht.symm
          · simp at ht
        subst h3
        exact (show Tryz.prog.wantsStandIn 22 = false by kernel_rfl)⟩)
    (by kernel_rfl)
end Go.Proofs.YtjmljfpnofjkeaaGreatDoor
