/- Merged out of: WK WL YFnExactIsValue LFnExactIsValue (prune.py, a program of this work's). -/
import Derived.Test.YtcehfbegcapmnaaA4
import Derived.KernelRfl
import Derived.Test.YtcehfbegcapmnaaA5
import Derived.Test.YtcehfbegcapmnaaRows
import Derived.WalkKit
import Derived.ProofKit
import Derived.OpenShut
import Derived.ShutString
import Derived.ChangeOld
import Derived.Below
set_option linter.unusedVariables false
set_option linter.unusedSimpArgs false
set_option linter.unnecessarySimpa false
namespace Go.Den
open Go
set_option linter.unusedVariables false
set_option maxRecDepth 100000
def hd120 (k n u : Int) (ps bs : List Dat) (i : Int) : St := Nm [1, 2, 3, 24, 25, 26] [.dat (I u), .bor (.lent 0) none, .ptr (.loc 3) 0, .dat (.lst false ps), .dat (I ps.length), .dat (I i)] [none, none, some [.dat (I k), .dat (I n), .dat (.lst false ps)], none, none, none] [] [some (4, bs)]
theorem lcFree_lam (kk m : Nat) {s : St} {K : X → St → Prop} (n u : Int) (ps bs bs' : List Dat) (i : Int) (kx nx : Int) (dx : List Dat) (hs : s.norm ((envOf cfg kk 120 Go.Proofs.Try.f120).live (firstRegion (lp Go.Proofs.Try.f120 4))) = hd120 2 n u ps bs i) (h1 : decide (i < (ps.length : Int)) = true) (h2 : (0 ≤ i ∧ i < (ps.length : Int)) ∧ ps[i.toNat]? = some (T kx nx dx)) (h3 : den cfg kk 120 [D.dat (T kx nx dx), D.dat (I (w64 (u + 1))), D.bor (Pl.lent 0) none] [] [some (4, bs)] = some ([], [], [some (4, bs')])) (hn : ∀ s : St, s.norm ((envOf cfg kk 120 Go.Proofs.Try.f120).live (firstRegion (lp Go.Proofs.Try.f120 4))) = Nm [1, 2, 3, 24, 25, 26] [D.dat (I u), D.bor (Pl.lent 0) none, D.ptr (Ref.loc 3) 0, D.dat (Dat.lst false ps), D.dat (I (ps.length : Int)), D.dat (I (w64 (i + 1)))] [none, none, some [D.dat (I 2), D.dat (I n), D.dat (Dat.lst false ps)], none, none, none] [] [some (4, bs')] → Rounds (envOf cfg kk 120 Go.Proofs.Try.f120) kk (lp Go.Proofs.Try.f120 4) m s K) : Rounds (envOf cfg kk 120 Go.Proofs.Try.f120) kk (lp Go.Proofs.Try.f120 4) (m + 1) s K :=
  rounds_go [(200027, .yes), (28, .at (T kx nx dx)), (37, .back [] [] [some (4, bs')])] hs (by kernel_rfl) (ob h1 (ob h2 (ob h3 (ob (rfl : false = false) ob0)))) (by kernel_rfl) hn
theorem lcFree_app (kk m : Nat) {s : St} {K : X → St → Prop} (n u : Int) (ps bs bs' : List Dat) (i : Int) (kx nx : Int) (dx : List Dat) (hs : s.norm ((envOf cfg kk 120 Go.Proofs.Try.f120).live (firstRegion (lp Go.Proofs.Try.f120 4))) = hd120 3 n u ps bs i) (h1 : decide (i < (ps.length : Int)) = true) (h2 : (0 ≤ i ∧ i < (ps.length : Int)) ∧ ps[i.toNat]? = some (T kx nx dx)) (h3 : den cfg kk 120 [D.dat (T kx nx dx), D.dat (I u), D.bor (Pl.lent 0) none] [] [some (4, bs)] = some ([], [], [some (4, bs')])) (hn : ∀ s : St, s.norm ((envOf cfg kk 120 Go.Proofs.Try.f120).live (firstRegion (lp Go.Proofs.Try.f120 4))) = Nm [1, 2, 3, 24, 25, 26] [D.dat (I u), D.bor (Pl.lent 0) none, D.ptr (Ref.loc 3) 0, D.dat (Dat.lst false ps), D.dat (I (ps.length : Int)), D.dat (I (w64 (i + 1)))] [none, none, some [D.dat (I 3), D.dat (I n), D.dat (Dat.lst false ps)], none, none, none] [] [some (4, bs')] → Rounds (envOf cfg kk 120 Go.Proofs.Try.f120) kk (lp Go.Proofs.Try.f120 4) m s K) : Rounds (envOf cfg kk 120 Go.Proofs.Try.f120) kk (lp Go.Proofs.Try.f120 4) (m + 1) s K :=
  rounds_go [(200027, .yes), (28, .at (T kx nx dx)), (41, .back [] [] [some (4, bs')])] hs (by kernel_rfl) (ob h1 (ob h2 (ob h3 (ob (rfl : false = false) ob0)))) (by kernel_rfl) hn
theorem lcFree_end (kk m : Nat) {s : St} {K : X → St → Prop} (k n u : Int) (ps bs : List Dat) (i : Int) (hs : s.norm ((envOf cfg kk 120 Go.Proofs.Try.f120).live (firstRegion (lp Go.Proofs.Try.f120 4))) = hd120 k n u ps bs i) (h1 : decide (i < (ps.length : Int)) = false) (hK : K (X.exit 0) (Nm [] [] [] [] [some (4, bs)])) : Rounds (envOf cfg kk 120 Go.Proofs.Try.f120) kk (lp Go.Proofs.Try.f120 4) (m + 1) s K :=
  rounds_end [(200027, .no)] hs (by kernel_rfl) rfl (ob h1 ob0) (by kernel_rfl) hK
theorem lcFree_hit (kk : Nat) (n u : Int) (ps bs bs' : List Dat) (v : Bool) (h1 : decide (u ≤ n) = true) (h2 : 0 ≤ w64 (n - u) ∧ w64 (n - u) < (bs.length : Int)) (h3 : bs[(w64 (n - u)).toNat]? = some (B v)) (h5 : LoopAt cfg kk 120 Go.Proofs.Try.f120 4 (hd120 1 n u ps (bs.set (w64 (n - u)).toNat (B true)) 0) (X.exit 0) (Nm [] [] [] [] [some (4, bs')])) : runFn cfg kk (den cfg kk) 120 Go.Proofs.Try.f120 [.dat (T 1 n ps), .dat (I u), .bor (.lent 0) none] [] [some (4, bs)] = some ([], [], [some (4, bs')]) :=
  hrun_ok [(200016, .yes), (22, .ok), (100022, .at (B v)), (300004, .loop (hd120 1 n u ps (bs.set (w64 (n - u)).toNat (B true)) 0) (.exit 0) (Nm [] [] [] [] [some (4, bs')]))] (ob h1 (ob h2 (ob h3 (ob (rfl : _ = hd120 1 n u ps (bs.set (w64 (n - u)).toNat (B true)) 0) (ob h5 ob0))))) (by kernel_rfl)
theorem lcFree_miss (kk : Nat) (n u : Int) (ps bs bs' : List Dat) (h1 : decide (u ≤ n) = false) (h3 : LoopAt cfg kk 120 Go.Proofs.Try.f120 4 (hd120 1 n u ps bs 0) (X.exit 0) (Nm [] [] [] [] [some (4, bs')])) : runFn cfg kk (den cfg kk) 120 Go.Proofs.Try.f120 [.dat (T 1 n ps), .dat (I u), .bor (.lent 0) none] [] [some (4, bs)] = some ([], [], [some (4, bs')]) :=
  hrun_ok [(200016, .no), (300004, .loop (hd120 1 n u ps (bs) 0) (.exit 0) (Nm [] [] [] [] [some (4, bs')]))] (ob h1 (ob (rfl : _ = hd120 1 n u ps bs 0) (ob h3 ob0))) (by kernel_rfl)
theorem lcFree_2 (kk : Nat) (n u : Int) (ps bs bs' : List Dat) (h2 : LoopAt cfg kk 120 Go.Proofs.Try.f120 4 (hd120 2 n u ps bs 0) (X.exit 0) (Nm [] [] [] [] [some (4, bs')])) : runFn cfg kk (den cfg kk) 120 Go.Proofs.Try.f120 [.dat (T 2 n ps), .dat (I u), .bor (.lent 0) none] [] [some (4, bs)] = some ([], [], [some (4, bs')]) :=
  hrun_ok [(300004, .loop (hd120 2 n u ps (bs) 0) (.exit 0) (Nm [] [] [] [] [some (4, bs')]))] (ob (rfl : _ = hd120 2 n u ps bs 0) (ob h2 ob0)) (by kernel_rfl)
theorem lcFree_3 (kk : Nat) (n u : Int) (ps bs bs' : List Dat) (h2 : LoopAt cfg kk 120 Go.Proofs.Try.f120 4 (hd120 3 n u ps bs 0) (X.exit 0) (Nm [] [] [] [] [some (4, bs')])) : runFn cfg kk (den cfg kk) 120 Go.Proofs.Try.f120 [.dat (T 3 n ps), .dat (I u), .bor (.lent 0) none] [] [some (4, bs)] = some ([], [], [some (4, bs')]) :=
  hrun_ok [(300004, .loop (hd120 3 n u ps (bs) 0) (.exit 0) (Nm [] [] [] [] [some (4, bs')]))] (ob (rfl : _ = hd120 3 n u ps bs 0) (ob h2 ob0)) (by kernel_rfl)
def hd115 (bs out : List Dat) (i : Int) : St := Nm [4, 5, 16, 17, 18] [.own 4 bs, .own 3 out, .bor (.slot 4 []) none, .dat (I bs.length), .dat (I i)] [none, none, none, none, none] [] []
theorem FreeIn_hit (kk m : Nat) {s : St} {K : X → St → Prop} (bs out : List Dat) (i : Int) (hs : s.norm ((envOf cfg kk 115 Go.Proofs.Try.f115).live (firstRegion (lp Go.Proofs.Try.f115 7))) = hd115 bs out i) (h1 : decide (i < (bs.length : Int)) = true) (h2 : 0 ≤ i ∧ i < (bs.length : Int)) (h3 : bs[i.toNat]? = some (B true)) (h4 : out.length + 1 ≤ 2147483648) (hn : ∀ s : St, s.norm ((envOf cfg kk 115 Go.Proofs.Try.f115).live (firstRegion (lp Go.Proofs.Try.f115 7))) = Nm [4, 5, 16, 17, 18] [D.own 4 bs, D.own 3 (out ++ [I i]), D.bor (Pl.slot 4 []) none, D.dat (I (bs.length : Int)), D.dat (I (w64 (i + 1)))] [none, none, none, none, none] [] [] → Rounds (envOf cfg kk 115 Go.Proofs.Try.f115) kk (lp Go.Proofs.Try.f115 7) m s K) : Rounds (envOf cfg kk 115 Go.Proofs.Try.f115) kk (lp Go.Proofs.Try.f115 7) (m + 1) s K :=
  rounds_go [(200019, .yes), (21, .ok), (22, .at (B true)), (27, .ok)] hs (by kernel_rfl) (ob h1 (ob h2 (ob h3 (ob (obT h4) ob0)))) (by kernel_rfl) hn
theorem FreeIn_miss (kk m : Nat) {s : St} {K : X → St → Prop} (bs out : List Dat) (i : Int) (hs : s.norm ((envOf cfg kk 115 Go.Proofs.Try.f115).live (firstRegion (lp Go.Proofs.Try.f115 7))) = hd115 bs out i) (h1 : decide (i < (bs.length : Int)) = true) (h2 : 0 ≤ i ∧ i < (bs.length : Int)) (h3 : bs[i.toNat]? = some (B false)) (hn : ∀ s : St, s.norm ((envOf cfg kk 115 Go.Proofs.Try.f115).live (firstRegion (lp Go.Proofs.Try.f115 7))) = Nm [4, 5, 16, 17, 18] [D.own 4 bs, D.own 3 out, D.bor (Pl.slot 4 []) none, D.dat (I (bs.length : Int)), D.dat (I (w64 (i + 1)))] [none, none, none, none, none] [] [] → Rounds (envOf cfg kk 115 Go.Proofs.Try.f115) kk (lp Go.Proofs.Try.f115 7) m s K) : Rounds (envOf cfg kk 115 Go.Proofs.Try.f115) kk (lp Go.Proofs.Try.f115 7) (m + 1) s K :=
  rounds_go [(200019, .yes), (21, .ok), (22, .at (B false))] hs (by kernel_rfl) (ob h1 (ob h2 (ob h3 ob0))) (by kernel_rfl) hn
theorem FreeIn_end (kk m : Nat) {s : St} {K : X → St → Prop} (bs out : List Dat) (i : Int) (hs : s.norm ((envOf cfg kk 115 Go.Proofs.Try.f115).live (firstRegion (lp Go.Proofs.Try.f115 7))) = hd115 bs out i) (h1 : decide (i < (bs.length : Int)) = false) (hK : K (X.exit 0) (Nm [5] [D.own 3 out] [none] [] [])) : Rounds (envOf cfg kk 115 Go.Proofs.Try.f115) kk (lp Go.Proofs.Try.f115 7) (m + 1) s K :=
  rounds_end [(200019, .no)] hs (by kernel_rfl) rfl (ob h1 ob0) (by kernel_rfl) hK
theorem FreeIn_no (kk : Nat) (b : Bool) (es : List Dat) (h1 : den cfg kk 44 [D.dat (Dat.lst b es)] [] [] = some ([D.dat (B false)], [], [])) : runFn cfg kk (den cfg kk) 115 Go.Proofs.Try.f115 [.dat (Dat.lst b es)] [] [] = some ([D.own 3 [], D.dat (B false)], [], []) :=
  hrun_ok [(9, .ret [.dat (B false)])] (ob h1 ob0) (by kernel_rfl)
theorem FreeIn_go (kk : Nat) (b : Bool) (es : List Dat) (bs out : List Dat) (k n : Int) (d : List Dat) (h1 : den cfg kk 44 [D.dat (Dat.lst b es)] [] [] = some ([D.dat (B true)], [], [])) (h2 : den cfg kk 48 [D.dat (Dat.lst b es), D.dat (I 0)] [] [] = some ([D.dat (T k n d)], [], [])) (h3 : den cfg kk 120 [D.dat (T k n d), D.dat (I 0), D.bor (Pl.lent 0) none] [] [some (4, [B false, B false, B false, B false, B false, B false, B false, B false, B false, B false, B false, B false, B false, B false, B false, B false, B false, B false, B false, B false, B false, B false, B false, B false, B false, B false, B false, B false, B false, B false, B false, B false, B false, B false, B false, B false, B false, B false, B false, B false, B false, B false, B false, B false, B false, B false, B false, B false, B false, B false, B false, B false, B false, B false, B false, B false, B false, B false, B false, B false, B false, B false, B false, B false, B false, B false, B false, B false, B false, B false, B false, B false, B false, B false, B false, B false, B false, B false, B false, B false, B false, B false, B false, B false, B false, B false, B false, B false, B false, B false, B false, B false, B false, B false, B false, B false, B false, B false, B false, B false])] = some ([], [], [some (4, bs)])) (h6 : LoopAt cfg kk 115 Go.Proofs.Try.f115 7 (hd115 bs [] 0) (X.exit 0) (Nm [5] [D.own 3 out] [none] [] [])) : runFn cfg kk (den cfg kk) 115 Go.Proofs.Try.f115 [.dat (Dat.lst b es)] [] [] = some ([D.own 3 out, D.dat (B true)], [], []) :=
  hrun_ok [(9, .ret [.dat (B true)]), (13, .ret [.dat (T k n d)]), (15, .back [] [] [some (4, bs)]), (300007, .loop (hd115 bs [] 0) (.exit 0) (Nm [5] [.own 3 out] [none] [] []))] (ob h1 (ob h2 (ob h3 (ob (rfl : false = false) (ob (rfl : _ = hd115 bs [] 0) (ob h6 ob0)))))) (by kernel_rfl)
theorem leClosed_no (kk : Nat) (b : Bool) (es : List Dat) (rs : List Dat) (h1 : den cfg kk 115 [D.dat (Dat.lst b es)] [] [] = some ([D.own 3 rs, D.dat (B false)], [], [])) : runFn cfg kk (den cfg kk) 103 Go.Proofs.Try.f103 [.dat (Dat.lst b es)] [] [] = some ([D.dat (B false)], [], []) :=
  hrun_ok [(7, .ret [.own 3 rs, .dat (B false)])] (ob h1 ob0) (by kernel_rfl)
theorem leClosed_y (kk : Nat) (b : Bool) (es : List Dat) (rs : List Dat) (h1 : den cfg kk 115 [D.dat (Dat.lst b es)] [] [] = some ([D.own 3 rs, D.dat (B true)], [], [])) : runFn cfg kk (den cfg kk) 103 Go.Proofs.Try.f103 [.dat (Dat.lst b es)] [] [] = some ([D.dat (B (decide ((rs.length : Int) = 0)))], [], []) :=
  hrun_ok [(7, .ret [.own 3 rs, .dat (B true)])] (ob h1 ob0) (by kernel_rfl)
theorem lfClosed (kk : Nat) (b : Bool) (es : List Dat) (r : Bool) (h1 : den cfg kk 103 [D.dat (Dat.lst b es)] [] [] = some ([D.dat (B r)], [], [])) : runFn cfg kk (den cfg kk) 66 Go.Proofs.Try.f66 [.dat (Dat.lst b es)] [] [] = some ([D.dat (B r)], [], []) :=
  hrun_ok [(4, .ret [.dat (B r)])] (ob h1 ob0) (by kernel_rfl)
theorem sIsValue_no (kk : Nat) (b : Bool) (es : List Dat) (h1 : den cfg kk 66 [D.dat (Dat.lst b es)] [] [] = some ([D.dat (B false)], [], [])) : runFn cfg kk (den cfg kk) 28 Go.Proofs.Try.f28 [.dat (Dat.lst b es)] [] [] = some ([D.dat (B false)], [], []) :=
  hrun_ok [(4, .ret [.dat (B false)])] (ob h1 ob0) (by kernel_rfl)
theorem sIsValue_y (kk : Nat) (b : Bool) (es : List Dat) (k n u : Int) (h1 : den cfg kk 66 [D.dat (Dat.lst b es)] [] [] = some ([D.dat (B true)], [], [])) (h2 : ((0 : Int) ≤ 0 ∧ 0 < (es.length : Int)) ∧ es[0]? = some (N3 k n u)) : runFn cfg kk (den cfg kk) 28 Go.Proofs.Try.f28 [.dat (Dat.lst b es)] [] [] = some ([D.dat (B (decide (k = 2)))], [], []) :=
  hrun_ok [(4, .ret [.dat (B true)]), (7, .at (N3 k n u))] (ob h1 (ob h2 ob0)) (by kernel_rfl)
def hd105 (a : Int) (ps out : List Dat) (i : Int) : St := Nm [1, 2, 29, 30, 31] [.dat (I a), .fn 106 [.up 0], .dat (.lst false ps), .dat (I ps.length), .dat (I i)] [none, none, none, none, none] [[.own 3 out]] []
theorem free_go (kk m : Nat) {s : St} {K : X → St → Prop} (a : Int) (ps out : List Dat) (i : Int) (out' : List Dat) (kx nx : Int) (dx : List Dat) (hs : s.norm ((envOf cfg kk 105 Go.Proofs.Try.f105).live (firstRegion (lp Go.Proofs.Try.f105 6))) = hd105 a ps out i) (h1 : decide (i < (ps.length : Int)) = true) (h2 : (0 ≤ i ∧ i < (ps.length : Int)) ∧ ps[i.toNat]? = some (T kx nx dx)) (h3 : den cfg kk 105 [D.dat (T kx nx dx), D.dat (I a), D.fn 106 [Ref.up 0]] [[D.own 3 out]] [] = some ([], [[D.own 3 out']], [])) (hn : ∀ s : St, s.norm ((envOf cfg kk 105 Go.Proofs.Try.f105).live (firstRegion (lp Go.Proofs.Try.f105 6))) = Nm [1, 2, 29, 30, 31] [D.dat (I a), D.fn 106 [Ref.up 0], D.dat (Dat.lst false ps), D.dat (I (ps.length : Int)), D.dat (I (w64 (i + 1)))] [none, none, none, none, none] [[D.own 3 out']] [] → Rounds (envOf cfg kk 105 Go.Proofs.Try.f105) kk (lp Go.Proofs.Try.f105 6) m s K) : Rounds (envOf cfg kk 105 Go.Proofs.Try.f105) kk (lp Go.Proofs.Try.f105 6) (m + 1) s K :=
  rounds_go [(200032, .yes), (33, .at (T kx nx dx)), (38, .back [] [[.own 3 out']] [])] hs (by kernel_rfl) (ob h1 (ob h2 (ob h3 (ob (rfl : false = false) ob0)))) (by kernel_rfl) hn
theorem free_end (kk m : Nat) {s : St} {K : X → St → Prop} (a : Int) (ps out : List Dat) (i : Int) (hs : s.norm ((envOf cfg kk 105 Go.Proofs.Try.f105).live (firstRegion (lp Go.Proofs.Try.f105 6))) = hd105 a ps out i) (h1 : decide (i < (ps.length : Int)) = false) (hK : K (X.exit 0) (Nm [] [] [] [[D.own 3 out]] [])) : Rounds (envOf cfg kk 105 Go.Proofs.Try.f105) kk (lp Go.Proofs.Try.f105 6) (m + 1) s K :=
  rounds_end [(200032, .no)] hs (by kernel_rfl) rfl (ob h1 ob0) (by kernel_rfl) hK
theorem free_hit (kk : Nat) (n a : Int) (ps out out1 out2 : List Dat) (h1 : decide (a ≤ n) = true) (h2 : den cfg kk 106 [D.dat (I (w64 (n - a))), D.ptr (Ref.up 0) 0] [[D.own 3 out]] [] = some ([], [[D.own 3 out1]], [])) (h5 : LoopAt cfg kk 105 Go.Proofs.Try.f105 6 (hd105 a ps out1 0) (X.exit 0) (Nm [] [] [] [[D.own 3 out2]] [])) : runFn cfg kk (den cfg kk) 105 Go.Proofs.Try.f105 [.dat (T 1 n ps), .dat (I a), .fn 106 [.up 0]] [[.own 3 out]] [] = some ([], [[D.own 3 out2]], []) :=
  hrun_ok [(200016, .yes), (22, .back [] [[.own 3 out1]] []), (300006, .loop (hd105 a ps out1 0) (.exit 0) (Nm [] [] [] [[.own 3 out2]] []))] (ob h1 (ob h2 (ob (rfl : false = false) (ob (rfl : _ = hd105 a ps out1 0) (ob h5 ob0))))) (by kernel_rfl)
theorem free_miss (kk : Nat) (n a : Int) (ps out out2 : List Dat) (h1 : decide (a ≤ n) = false) (h3 : LoopAt cfg kk 105 Go.Proofs.Try.f105 6 (hd105 a ps out 0) (X.exit 0) (Nm [] [] [] [[D.own 3 out2]] [])) : runFn cfg kk (den cfg kk) 105 Go.Proofs.Try.f105 [.dat (T 1 n ps), .dat (I a), .fn 106 [.up 0]] [[.own 3 out]] [] = some ([], [[D.own 3 out2]], []) :=
  hrun_ok [(200016, .no), (300006, .loop (hd105 a ps out 0) (.exit 0) (Nm [] [] [] [[.own 3 out2]] []))] (ob h1 (ob (rfl : _ = hd105 a ps out 0) (ob h3 ob0))) (by kernel_rfl)
theorem free_lam (kk : Nat) (n a : Int) (ps out out2 : List Dat) (h2 : LoopAt cfg kk 105 Go.Proofs.Try.f105 6 (hd105 (w64 (a + 1)) ps out 0) (X.exit 0) (Nm [] [] [] [[D.own 3 out2]] [])) : runFn cfg kk (den cfg kk) 105 Go.Proofs.Try.f105 [.dat (T 2 n ps), .dat (I a), .fn 106 [.up 0]] [[.own 3 out]] [] = some ([], [[D.own 3 out2]], []) :=
  hrun_ok [(300006, .loop (hd105 (w64 (a + 1)) ps out 0) (.exit 0) (Nm [] [] [] [[.own 3 out2]] []))] (ob (rfl : _ = hd105 (w64 (a + 1)) ps out 0) (ob h2 ob0)) (by kernel_rfl)
theorem free_app (kk : Nat) (n a : Int) (ps out out2 : List Dat) (h2 : LoopAt cfg kk 105 Go.Proofs.Try.f105 6 (hd105 a ps out 0) (X.exit 0) (Nm [] [] [] [[D.own 3 out2]] [])) : runFn cfg kk (den cfg kk) 105 Go.Proofs.Try.f105 [.dat (T 3 n ps), .dat (I a), .fn 106 [.up 0]] [[.own 3 out]] [] = some ([], [[D.own 3 out2]], []) :=
  hrun_ok [(300006, .loop (hd105 a ps out 0) (.exit 0) (Nm [] [] [] [[.own 3 out2]] []))] (ob (rfl : _ = hd105 a ps out 0) (ob h2 ob0)) (by kernel_rfl)
theorem freeIn1 (kk : Nat) (x : Int) (out : List Dat) (h1 : out.length + 1 ≤ 2147483648) : runFn cfg kk (den cfg kk) 106 Go.Proofs.Try.f106 [.dat (I x), .ptr (.up 0) 0] [[.own 3 out]] [] = some ([], [[D.own 3 (out ++ [I x])]], []) :=
  hrun_ok [(6, .ok)] (ob (obT h1) ob0) (by kernel_rfl)
theorem freeIn (kk : Nat) (k n : Int) (d : List Dat) (out srt cmp : List Dat) (h1 : den cfg kk 105 [D.dat (T k n d), D.dat (I 0), D.fn 106 [Ref.up 0]] [[D.own 3 []]] [] = some ([], [[D.own 3 out]], [])) (h3 : den cfg kk 107 [D.bor (Pl.lent 0) none] [] [some (3, out)] = some ([], [], [some (3, srt)])) (h5 : den cfg kk 108 [D.own 3 srt] [] [] = some ([D.own 3 cmp], [], [])) : runFn cfg kk (den cfg kk) 72 Go.Proofs.Try.f72 [.dat (T k n d)] [] [] = some ([D.own 3 cmp], [], []) :=
  hrun_ok [(7, .back [] [[.own 3 out]] []), (9, .back [] [] [some (3, srt)]), (11, .back [.own 3 cmp] [] [])] (ob h1 (ob (rfl : false = false) (ob h3 (ob (rfl : false = false) (ob h5 (ob (rfl : false = false) ob0)))))) (by kernel_rfl)
theorem closedOf_no (kk : Nat) (b : Bool) (es : List Dat) (k n : Int) (d : List Dat) (h1 : den cfg kk 50 [D.dat (Dat.lst b es)] [] [] = some ([D.dat (T k n d), D.dat (B false)], [], [])) : runFn cfg kk (den cfg kk) 67 Go.Proofs.Try.f67 [.dat (Dat.lst b es)] [] [] = some ([D.dat (T k n d), D.dat (B false)], [], []) :=
  hrun_ok [(8, .ret [.dat (T k n d), .dat (B false)])] (ob h1 ob0) (by kernel_rfl)
theorem closedOf_y (kk : Nat) (b : Bool) (es : List Dat) (rs : List Dat) (k n : Int) (d : List Dat) (h1 : den cfg kk 50 [D.dat (Dat.lst b es)] [] [] = some ([D.dat (T k n d), D.dat (B true)], [], [])) (h2 : den cfg kk 72 [D.dat (T k n d)] [] [] = some ([D.own 3 rs], [], [])) : runFn cfg kk (den cfg kk) 67 Go.Proofs.Try.f67 [.dat (Dat.lst b es)] [] [] = some ([D.dat (T k n d), D.dat (B (decide ((rs.length : Int) = 0)))], [], []) :=
  hrun_ok [(8, .ret [.dat (T k n d), .dat (B true)]), (15, .ret [.own 3 rs])] (ob h1 (ob h2 ob0)) (by kernel_rfl)
theorem iIsValue_no (kk : Nat) (b : Bool) (es : List Dat) (k n : Int) (d : List Dat) (h1 : den cfg kk 67 [D.dat (Dat.lst b es)] [] [] = some ([D.dat (T k n d), D.dat (B false)], [], [])) : runFn cfg kk (den cfg kk) 29 Go.Proofs.Try.f29 [.dat (Dat.lst b es)] [] [] = some ([D.dat (B false)], [], []) :=
  hrun_ok [(7, .ret [.dat (T k n d), .dat (B false)])] (ob h1 ob0) (by kernel_rfl)
theorem iIsValue_y (kk : Nat) (b : Bool) (es : List Dat) (k n : Int) (d : List Dat) (h1 : den cfg kk 67 [D.dat (Dat.lst b es)] [] [] = some ([D.dat (T k n d), D.dat (B true)], [], [])) : runFn cfg kk (den cfg kk) 29 Go.Proofs.Try.f29 [.dat (Dat.lst b es)] [] [] = some ([D.dat (B (decide (k = 2)))], [], []) :=
  hrun_ok [(7, .ret [.dat (T k n d), .dat (B true)])] (ob h1 ob0) (by kernel_rfl)
theorem isv_true (kk : Nat) (as_ : List Dat) (l1 : Int) (xs : List Dat) (h1 : den cfg kk 15 [D.dat (Dat.lst false as_), D.dat (I 1048576)] [] [] = some ([D.dat (I l1)], [], [])) (h2 : decide (l1 < 0) = false) (h3 : den cfg kk 17 [D.dat (Dat.lst false as_)] [] [] = some ([D.own 50 xs], [], [])) (h5 : den cfg kk 28 [D.dat (Dat.lst true xs)] [] [] = some ([D.dat (B true)], [], [])) (h6 : den cfg kk 17 [D.dat (Dat.lst false as_)] [] [] = some ([D.own 50 xs], [], [])) (h8 : den cfg kk 29 [D.dat (Dat.lst true xs)] [] [] = some ([D.dat (B true)], [], [])) (h10 : den cfg kk 17 [D.dat (Dat.lst false as_)] [] [] = some ([D.own 50 xs], [], [])) (h12 : den cfg kk 19 [D.dat (Dat.lst true xs), D.dat (Dat.lst true xs)] [] [] = some ([D.dat (B true)], [], [])) : runFn cfg kk (den cfg kk) 7 Go.Proofs.Try.f7 [.dat (Dat.lst false as_)] [] [] = some ([D.dat (B true)], [], []) :=
  hrun_ok [(9, .ret [.dat (I l1)]), (200011, .no), (13, .ret [.own 50 xs]), (14, .ret [.dat (B true)]), (16, .ret [.own 50 xs]), (18, .ret [.dat (B true)]), (200021, .no), (24, .ret [.own 50 xs]), (25, .ret [.dat (B true)]), (200026, .no)] (ob h1 (ob h2 (ob h3 (ob (rfl : true = true) (ob h5 (ob h6 (ob (rfl : true = true) (ob h8 (ob (rfl : false = false) (ob h10 (ob (rfl : true = true) (ob h12 (ob (rfl : false = false) ob0))))))))))))) (by kernel_rfl)
theorem isv_false (kk : Nat) (as_ : List Dat) (l1 : Int) (xs : List Dat) (h1 : den cfg kk 15 [D.dat (Dat.lst false as_), D.dat (I 1048576)] [] [] = some ([D.dat (I l1)], [], [])) (h2 : decide (l1 < 0) = false) (h3 : den cfg kk 17 [D.dat (Dat.lst false as_)] [] [] = some ([D.own 50 xs], [], [])) (h5 : den cfg kk 28 [D.dat (Dat.lst true xs)] [] [] = some ([D.dat (B false)], [], [])) (h6 : den cfg kk 17 [D.dat (Dat.lst false as_)] [] [] = some ([D.own 50 xs], [], [])) (h8 : den cfg kk 29 [D.dat (Dat.lst true xs)] [] [] = some ([D.dat (B false)], [], [])) (h10 : den cfg kk 17 [D.dat (Dat.lst false as_)] [] [] = some ([D.own 50 xs], [], [])) (h12 : den cfg kk 19 [D.dat (Dat.lst true xs), D.dat (Dat.lst true xs)] [] [] = some ([D.dat (B true)], [], [])) : runFn cfg kk (den cfg kk) 7 Go.Proofs.Try.f7 [.dat (Dat.lst false as_)] [] [] = some ([D.dat (B true)], [], []) :=
  hrun_ok [(9, .ret [.dat (I l1)]), (200011, .no), (13, .ret [.own 50 xs]), (14, .ret [.dat (B false)]), (16, .ret [.own 50 xs]), (18, .ret [.dat (B false)]), (200021, .no), (24, .ret [.own 50 xs]), (25, .ret [.dat (B true)]), (200026, .no)] (ob h1 (ob h2 (ob h3 (ob (rfl : true = true) (ob h5 (ob h6 (ob (rfl : true = true) (ob h8 (ob (rfl : false = false) (ob h10 (ob (rfl : true = true) (ob h12 (ob (rfl : false = false) ob0))))))))))))) (by kernel_rfl)
theorem isv_small1 (kk : Nat) (as_ : List Dat) (l1 : Int) (h1 : den cfg kk 15 [D.dat (Dat.lst false as_), D.dat (I 1048576)] [] [] = some ([D.dat (I l1)], [], [])) (h2 : decide (l1 < 0) = true) : runFn cfg kk (den cfg kk) 7 Go.Proofs.Try.f7 [.dat (Dat.lst false as_)] [] [] = some ([D.dat (B true)], [], []) :=
  hrun_ok [(9, .ret [.dat (I l1)]), (200011, .yes)] (ob h1 (ob h2 ob0)) (by kernel_rfl)
end Go.Den
namespace Go.Den
open Go
set_option linter.unusedVariables false
set_option maxRecDepth 100000
/-- A loop over a term's parts. -/
theorem kids_loop {kk f : Nat} {fn : Func} {r : Nat} {x : X} {s' s0 : St} (t : Pt) (hk : 5 ≤ kk) (st : Nat → St)
    (hgo : ∀ (i : Nat) (y : Pt), t.kids[i]? = some y → y ∈ t.kids → decide ((i : Int) < ((t.kids.map Pt.d).length : Int)) = true → ((0 ≤ (i : Int) ∧ (i : Int) < ((t.kids.map Pt.d).length : Int)) ∧ (t.kids.map Pt.d)[(i : Int).toNat]? = some (T y.kd y.num (y.kids.map Pt.d))) → w64 ((i : Int) + 1) = ((i + 1 : Nat) : Int) →
      ∀ (m : Nat) (s : St) (K : X → St → Prop), s.norm ((envOf cfg kk f fn).live (firstRegion (lp fn r))) = st i → (∀ s : St, s.norm ((envOf cfg kk f fn).live (firstRegion (lp fn r))) = st (i + 1) → Rounds (envOf cfg kk f fn) kk (lp fn r) m s K) → Rounds (envOf cfg kk f fn) kk (lp fn r) (m + 1) s K)
    (hend : decide ((t.kids.length : Int) < ((t.kids.map Pt.d).length : Int)) = false → ∀ (m : Nat) (s : St) (K : X → St → Prop), s.norm ((envOf cfg kk f fn).live (firstRegion (lp fn r))) = st t.kids.length → K x s' → Rounds (envOf cfg kk f fn) kk (lp fn r) (m + 1) s K) (h0 : s0 = st 0) : LoopAt cfg kk f fn r s0 x s' := by
  have hle := t.kids_le
  refine loopAt_range st t.kids.length (by omega) (fun i hi m s K hs hn => ?_) (hend (decide_eq_false (by simp))) h0
  obtain ⟨y, h1, h2, h3⟩ := kid_at hi
  have hto : ((i : Int)).toNat = i := by simp
  exact hgo i y h1 h2 (decide_eq_true (by simp; omega)) ⟨⟨by omega, by simp; omega⟩, by rw [hto]; exact h3⟩ (by rw [w64_eq (by omega)]; rfl) m s K hs hn
theorem takeF_step {α β : Type} {ks : List α} {i : Nat} {x : α} (h : ks[i]? = some x) (g : α → List β) : (ks.take (i + 1)).flatMap g = (ks.take i).flatMap g ++ g x := by
  rw [List.take_add_one, h]
  simp
/-- The indices of the free variables, as they stand. -/
def fv : Pt → Int → List Int
  | .var n, a => if a ≤ n then [n - a] else []
  | .lam _ t, a => fv t (a + 1)
  | .app _ x y, a => fv x a ++ fv y a
def Pt.under (t : Pt) (a : Int) : Int := match t with | .lam _ _ => a + 1 | _ => a
theorem fv_kids (t : Pt) (a : Int) (h : ∀ n, t ≠ .var n) : fv t a = t.kids.flatMap fun x => fv x (t.under a) := by
  cases t with
  | var n => exact (h n rfl).elim
  | lam n x => simp [fv, Pt.kids, Pt.under]
  | app n x y => simp [fv, Pt.kids, Pt.under]
theorem fv_range : ∀ (t : Pt) (a : Int), t.nums = true → 0 ≤ a → ∀ z ∈ fv t a, 0 ≤ z ∧ z ≤ 99
  | .var n, a, h, ha, z, hz => by
    have h' : 0 ≤ n ∧ n ≤ 99 := by simpa [Pt.nums] using h
    simp only [fv] at hz
    split at hz
    · simp only [List.mem_singleton] at hz; omega
    · cases hz
  | .lam n t, a, h, ha, z, hz => by
    have h' : n = 0 ∧ t.nums = true := by simpa [Pt.nums] using h
    exact fv_range t (a + 1) h'.2 (by omega) z hz
  | .app n x y, a, h, ha, z, hz => by
    have h' : n = 0 ∧ x.nums = true ∧ y.nums = true := by simpa [Pt.nums] using h
    simp only [fv, List.mem_append] at hz
    rcases hz with hz | hz
    · exact fv_range x a h'.2.1 ha z hz
    · exact fv_range y a h'.2.2 ha z hz
theorem fv_length : ∀ (t : Pt) (a : Int), (fv t a).length ≤ t.size
  | .var n, a => by simp only [fv, Pt.size]; split <;> simp
  | .lam n t, a => by have := fv_length t (a + 1); simp only [fv, Pt.size]; omega
  | .app n x y, a => by have h1 := fv_length x a; have h2 := fv_length y a; simp only [fv, Pt.size, List.length_append]; omega
theorem nums_kids {t x : Pt} (h : t.nums = true) (hx : x ∈ t.kids) : x.nums = true := by
  rw [Pt.nums_kids] at h
  simp only [Bool.and_eq_true, List.all_eq_true] at h
  exact h.2 x hx
def setB (bs : List Bool) (zs : List Int) : List Bool := zs.foldl (fun bs z => bs.set z.toNat true) bs
theorem setB_length (zs : List Int) : ∀ bs, (setB bs zs).length = bs.length := by
  induction zs with
  | nil => intro bs; rfl
  | cons z zs ih => intro bs; simp only [setB, List.foldl_cons] at ih ⊢; rw [ih]; simp
theorem setB_append (bs : List Bool) (a b : List Int) : setB bs (a ++ b) = setB (setB bs a) b := by simp [setB]
theorem setB_get (zs : List Int) : ∀ (bs : List Bool) (i : Nat), i < bs.length → (∀ z ∈ zs, 0 ≤ z) → (setB bs zs)[i]? = some (bs.getD i false || zs.contains (i : Int)) := by
  induction zs with
  | nil => intro bs i hi _; simp [setB, hi]
  | cons z zs ih =>
    intro bs i hi hz
    have h0 : 0 ≤ z := hz z (by simp)
    have := ih (bs.set z.toNat true) i (by simpa using hi) (fun y hy => hz y (by simp [hy]))
    simp only [setB, List.foldl_cons] at this ⊢
    rw [this]
    congr 1
    simp only [List.getD_eq_getElem?_getD, List.getElem?_set, List.contains_cons]
    by_cases he : z.toNat = i
    · have e2 : ((i : Int) == z) = true := by simp; omega
      rw [if_pos he, if_pos (by omega), e2]
      simp
    · have e2 : ((i : Int) == z) = false := by simp; omega
      rw [if_neg he, e2]
      simp
theorem ev_lcFree : ∀ (d : Nat) (t : Pt) (u : Int) (bs : List Bool), t.depth ≤ d → t.nums = true → 0 ≤ u → u + t.depth ≤ 1000 → bs.length = 100 →
    EvN (d + 10) 120 [.dat t.d, .dat (I u), .bor (.lent 0) none] [] [some (4, bs.map B)] ([], [], [some (4, (setB bs (fv t u)).map B)])
  | 0, t, u, bs, hd, _, _, _, _ => by have := t.depth_pos; omega
  | d + 1, t, u, bs, hd, hn, hu, hud, hb => by
    refine ev_fn Go.Proofs.Try.f120 (d + 10) (by kernel_rfl) (by kernel_rfl) fun kk hkk => ?_
    have hloop : ∀ (bs : List Bool), bs.length = 100 → (∀ n, t ≠ .var n) → LoopAt cfg kk 120 Go.Proofs.Try.f120 4 (hd120 t.kd t.num u (t.kids.map Pt.d) (bs.map B) 0) (X.exit 0) (Nm [] [] [] [] [some (4, (setB bs (fv t u)).map B)]) := by
      intro bs hb hv
      refine kids_loop t (by omega) (fun i => hd120 t.kd t.num u (t.kids.map Pt.d) ((setB bs ((t.kids.take i).flatMap fun x => fv x (t.under u))).map B) i) (fun i y hy hmem h1 h2 h3 m s K hs hn' => ?_) (fun h1 m s K hs hK => ?_) (by simp [setB])
      · have hlt := Pt.kids_lt hmem
        have hu2 : t.under u ≤ u + 1 ∧ u ≤ t.under u := by cases t <;> simp [Pt.under] <;> omega
        have hr := ev_lcFree d y (t.under u) (setB bs ((t.kids.take i).flatMap fun x => fv x (t.under u))) (by omega) (nums_kids hn hmem) (by omega) (by omega) (by rw [setB_length]; exact hb) kk (by omega)
        rw [Pt.d_eq y] at hr
        have hgo : ∀ s : St, s.norm ((envOf cfg kk 120 Go.Proofs.Try.f120).live (firstRegion (lp Go.Proofs.Try.f120 4))) = hd120 t.kd t.num u (t.kids.map Pt.d) ((setB (setB bs ((t.kids.take i).flatMap fun x => fv x (t.under u))) (fv y (t.under u))).map B) (w64 ((i : Int) + 1)) → Rounds (envOf cfg kk 120 Go.Proofs.Try.f120) kk (lp Go.Proofs.Try.f120 4) m s K := by
          intro s' hs'
          refine hn' s' ?_
          rw [hs', h3, ← setB_append, ← takeF_step hy]
        cases t with
        | var n => exact (hv n rfl).elim
        | lam n x =>
          have e : w64 (u + 1) = u + 1 := w64_eq (by simp only [Pt.depth] at hud; omega)
          refine lcFree_lam kk m n u _ _ _ _ _ _ _ hs h1 h2 ?_ hgo
          rw [e]
          exact hr
        | app n x z => exact lcFree_app kk m n u _ _ _ _ _ _ _ hs h1 h2 hr hgo
      · refine lcFree_end kk m _ _ _ _ _ _ hs h1 ?_
        rw [List.take_length, ← fv_kids t u hv]
        exact hK
    cases t with
    | var n =>
      have hn' : 0 ≤ n ∧ n ≤ 99 := by simpa [Pt.nums] using hn
      have hend : ∀ L : List Dat, LoopAt cfg kk 120 Go.Proofs.Try.f120 4 (hd120 1 n u [] L 0) (X.exit 0) (Nm [] [] [] [] [some (4, L)]) := fun L =>
        kids_loop (.var n) (by omega) (fun i => hd120 1 n u [] L i) (fun i y hy => by simp [Pt.kids] at hy) (fun h1 m s K hs hK => lcFree_end kk m _ _ _ _ _ _ hs h1 hK) rfl
      by_cases h : u ≤ n
      · have e : w64 (n - u) = n - u := w64_eq (by omega)
        have hget : (bs.map B)[(n - u).toNat]? = some (B (bs.getD (n - u).toNat false)) := by
          rw [List.getElem?_map, List.getElem?_eq_getElem (by omega), List.getD_eq_getElem?_getD, List.getElem?_eq_getElem (by omega)]
          rfl
        have hfv : fv (.var n) u = [n - u] := by simp only [fv]; rw [if_pos h]
        have hset : (setB bs (fv (.var n) u)).map B = (bs.map B).set (n - u).toNat (B true) := by
          rw [hfv]
          simp [setB, List.map_set]
        rw [hset]
        have := lcFree_hit kk n u [] (bs.map B) ((bs.map B).set (n - u).toNat (B true)) (bs.getD (n - u).toNat false) (decide_eq_true h) (by rw [e]; simp; omega) (by rw [e]; exact hget) (by rw [e]; exact hend _)
        exact this
      · have hfv : fv (.var n) u = [] := by simp only [fv]; rw [if_neg h]
        rw [hfv]
        exact lcFree_miss kk n u [] _ _ (decide_eq_false h) (hend _)
    | lam n x => exact lcFree_2 kk n u _ _ _ (hloop bs hb (fun _ h => by cases h))
    | app n x y => exact lcFree_3 kk n u _ _ _ (hloop bs hb (fun _ h => by cases h))
/-- The indices that are marked. -/
def hasL (bs : List Bool) (n : Nat) : List Nat := (List.range n).filter fun i => bs.getD i false
theorem ev_FreeIn (L : List Nd) (b : Bool) (hL : L.length ≤ 1048576) :
    (∀ t, termOfP L = some t → EvN 1000300 115 [.dat (.lst b (L.map Nd.d))] [] [] ([.own 3 ((hasL (setB (List.replicate 100 false) (fv t 0)) 100).map IN), .dat (B true)], [], [])) ∧
    (termOfP L = none → EvN 1000300 115 [.dat (.lst b (L.map Nd.d))] [] [] ([.own 3 [], .dat (B false)], [], [])) := by
  refine ⟨fun t ht => ?_, fun ht => ?_⟩
  · refine (ev_fn Go.Proofs.Try.f115 1000250 (by kernel_rfl) (by kernel_rfl) fun kk hkk => ?_).mono (by omega)
    have g := ev_GoodTerm L b hL kk (by omega)
    rw [goodS_term, ht] at g
    have hg := ((termOfP_iff L t).1 ht).1
    have hsm := good_small hg
    have hnum := (good_facts hg).2.2
    have a2 := ev_tree b ht kk (by omega)
    have a3 := ev_lcFree 40 t 0 (List.replicate 100 false) hsm.2.1 hnum (by omega) (by have := hsm.2.1; omega) (by simp) kk (by omega)
    rw [Pt.d_eq] at a2 a3
    refine FreeIn_go kk b _ _ _ _ _ _ g a2 a3 ?_
    have hbl : (setB (List.replicate 100 false) (fv t 0)).length = 100 := by rw [setB_length]; simp
    generalize setB (List.replicate 100 false) (fv t 0) = bs at hbl
    have hml : (bs.map B).length = 100 := by simpa using hbl
    refine loopAt_range (fun i => hd115 (bs.map B) ((hasL bs i).map IN) i) 100 (by omega) (fun i hi m s K hs hn => ?_) (fun m s K hs hK => ?_) (by simp [hasL])
    · have hto : ((i : Int)).toNat = i := by simp
      have hget : (bs.map B)[i]? = some (B (bs.getD i false)) := by
        rw [List.getElem?_map, List.getElem?_eq_getElem (by omega), List.getD_eq_getElem?_getD, List.getElem?_eq_getElem (by omega)]
        rfl
      have hst : hasL bs (i + 1) = hasL bs i ++ (if bs.getD i false = true then [i] else []) := filter_range_succ _ i
      have hlen : (hasL bs i).length ≤ i := Nat.le_trans (List.length_filter_le _ _) (by simp)
      cases hv : bs.getD i false with
      | true =>
        refine FreeIn_hit kk m _ _ _ hs (decide_eq_true (by omega)) ⟨by omega, by omega⟩ (by rw [hto, hget, hv]) (by simp; omega) fun s' hs' => hn s' ?_
        rw [hs', w64_eq (by omega), hst, hv]
        simp only [if_true, List.map_append]
        rfl
      | false =>
        refine FreeIn_miss kk m _ _ _ hs (decide_eq_true (by omega)) ⟨by omega, by omega⟩ (by rw [hto, hget, hv]) fun s' hs' => hn s' ?_
        rw [hs', w64_eq (by omega), hst, hv]
        simp only [Bool.false_eq_true, if_false, List.append_nil]
        rfl
    · exact FreeIn_end kk m _ _ _ hs (decide_eq_false (by rw [hml]; decide)) hK
  · refine (ev_fn Go.Proofs.Try.f115 1000250 (by kernel_rfl) (by kernel_rfl) fun kk hkk => ?_).mono (by omega)
    have g := ev_GoodTerm L b hL kk (by omega)
    rw [goodS_term, ht] at g
    exact FreeIn_no kk b _ g
/-- A term of no free variable. -/
def closedP (t : Pt) : Bool := (fv t 0).isEmpty
theorem hasL_fv (t : Pt) (h : t.nums = true) (i : Nat) : i ∈ hasL (setB (List.replicate 100 false) (fv t 0)) 100 ↔ (i : Int) ∈ fv t 0 := by
  have hr := fv_range t 0 h (by omega)
  unfold hasL
  have hrep : ∀ n : Nat, (List.replicate n false).getD i false = false := fun n => by
    rw [List.getD_eq_getElem?_getD, List.getElem?_replicate]
    split <;> rfl
  rw [List.mem_filter, List.mem_range, List.getD_eq_getElem?_getD]
  constructor
  · rintro ⟨h1, h2⟩
    rw [setB_get _ _ i (by simpa using h1) (fun z hz => (hr z hz).1), hrep] at h2
    simpa using h2
  · intro hm
    have hb := hr _ hm
    have hi : i < 100 := by omega
    refine ⟨hi, ?_⟩
    rw [setB_get _ _ i (by simpa using hi) (fun z hz => (hr z hz).1)]
    simp [hm]
theorem hasL_empty (t : Pt) (h : t.nums = true) : decide ((((hasL (setB (List.replicate 100 false) (fv t 0)) 100).map IN).length : Int) = 0) = closedP t := by
  have hr := fv_range t 0 h (by omega)
  have hm := hasL_fv t h
  generalize hasL (setB (List.replicate 100 false) (fv t 0)) 100 = hs at hm
  unfold closedP
  cases hf : fv t 0 with
  | nil =>
    rw [hf] at hm
    have : hs = [] := List.eq_nil_iff_forall_not_mem.2 fun i hi => by have := (hm i).1 hi; simp at this
    rw [this]
    rfl
  | cons z zs =>
    rw [hf] at hm hr
    have hz := hr z (by simp)
    have : z.toNat ∈ hs := (hm z.toNat).2 (by rw [Int.toNat_of_nonneg hz.1]; simp)
    have hne : hs ≠ [] := List.ne_nil_of_mem this
    have : hs.length ≠ 0 := fun h => hne (List.eq_nil_of_length_eq_zero h)
    simp only [List.isEmpty_cons]
    exact decide_eq_false (by simp; omega)
/-- The closed term that nodes tell. -/
def closedOfP (L : List Nd) : Option Pt := (termOfP L).bind fun t => if closedP t = true then some t else none
theorem closedOfP_some {L : List Nd} {t : Pt} (h : closedOfP L = some t) : termOfP L = some t ∧ closedP t = true := by
  unfold closedOfP at h
  rw [Option.bind_eq_some_iff] at h
  obtain ⟨a, h1, h2⟩ := h
  split at h2
  · cases h2; exact ⟨h1, by assumption⟩
  · cases h2
theorem ev_lfClosed (L : List Nd) (b : Bool) (hL : L.length ≤ 1048576) : EvN 1000400 66 [.dat (.lst b (L.map Nd.d))] [] [] ([.dat (B (closedOfP L).isSome)], [], []) := by
  refine (ev_fn Go.Proofs.Try.f66 1000350 (by kernel_rfl) (by kernel_rfl) fun k1 hk1 => ?_).mono (by omega)
  refine lfClosed k1 b _ _ ?_
  refine (ev_fn Go.Proofs.Try.f103 1000320 (by kernel_rfl) (by kernel_rfl) fun kk hkk => ?_) k1 (by omega)
  obtain ⟨h1, h2⟩ := ev_FreeIn L b hL
  unfold closedOfP
  cases ht : termOfP L with
  | none => exact leClosed_no kk b _ _ (h2 ht kk (by omega))
  | some t =>
    have := leClosed_y kk b _ _ (h1 t ht kk (by omega))
    rw [hasL_empty t (good_facts ((termOfP_iff L t).1 ht).1).2.2] at this
    rw [this]
    simp only [Option.bind_some]
    cases closedP t <;> rfl
theorem ev_free : ∀ (d : Nat) (t : Pt) (a : Int) (out : List Int), t.depth ≤ d → t.within 1000000 → 0 ≤ a → a + t.depth ≤ 1000000 → out.length + t.size ≤ 1000000 →
    EvN (d + 10) 105 [.dat t.d, .dat (I a), .fn 106 [.up 0]] [[.own 3 (out.map I)]] [] ([], [[.own 3 ((out ++ fv t a).map I)]], [])
  | 0, t, a, out, hd, _, _, _, _ => by have := t.depth_pos; omega
  | d + 1, t, a, out, hd, hw, ha, had, ho => by
    refine ev_fn Go.Proofs.Try.f105 (d + 10) (by kernel_rfl) (by kernel_rfl) fun kk hkk => ?_
    have hwk : ∀ x ∈ t.kids, x.within 1000000 := by
      intro x hx
      cases t with
      | var n => cases hx
      | lam n y => simp only [Pt.kids, List.mem_singleton] at hx; subst hx; exact hw
      | app n y z =>
        have hw : y.within 1000000 ∧ z.within 1000000 := hw
        simp only [Pt.kids, List.mem_cons, List.not_mem_nil, or_false] at hx
        rcases hx with rfl | rfl
        · exact hw.1
        · exact hw.2
    have hloop : (∀ n, t ≠ .var n) → LoopAt cfg kk 105 Go.Proofs.Try.f105 6 (hd105 (t.under a) (t.kids.map Pt.d) (out.map I) 0) (X.exit 0) (Nm [] [] [] [[.own 3 ((out ++ fv t a).map I)]] []) := by
      intro hv
      refine kids_loop t (by omega) (fun i => hd105 (t.under a) (t.kids.map Pt.d) ((out ++ (t.kids.take i).flatMap fun x => fv x (t.under a)).map I) i) (fun i y hy hmem h1 h2 h3 m s K hs hn' => ?_) (fun h1 m s K hs hK => ?_) (by simp)
      · have hlt := Pt.kids_lt hmem
        have hu2 : t.under a ≤ a + 1 ∧ a ≤ t.under a := by cases t <;> simp [Pt.under] <;> omega
        have hsz : ((t.kids.take i).flatMap fun x => fv x (t.under a)).length + y.size ≤ t.size := by
          have h5 : ∀ ks : List Pt, (ks.flatMap fun x => fv x (t.under a)).length ≤ (ks.map Pt.size).sum := fun ks => by
            induction ks with
            | nil => simp
            | cons k ks ih => have := fv_length k (t.under a); simp only [List.flatMap_cons, List.length_append, List.map_cons, List.sum_cons]; omega
          have h6 := h5 (t.kids.take i)
          have h7 := sum_le (ks := t.kids) (i + 1)
          rw [List.take_add_one, hy] at h7
          simp only [List.map_append, List.sum_append, Option.toList_some, List.map_cons, List.map_nil, List.sum_cons, List.sum_nil] at h7
          have := t.size_kids
          omega
        have hr := ev_free d y (t.under a) (out ++ (t.kids.take i).flatMap fun x => fv x (t.under a)) (by omega) (hwk y hmem) (by omega) (by omega) (by simp only [List.length_append]; omega) kk (by omega)
        rw [Pt.d_eq y] at hr
        refine free_go kk m _ _ _ _ _ _ _ _ hs h1 h2 hr fun s' hs' => hn' s' ?_
        rw [hs', h3, takeF_step hy, List.append_assoc]
        rfl
      · refine free_end kk m _ _ _ _ hs h1 ?_
        rw [List.take_length, ← fv_kids t a hv]
        exact hK
    cases t with
    | var n =>
      have hw : -1000000 ≤ n ∧ n ≤ 1000000 := hw
      have hend : ∀ L : List Dat, LoopAt cfg kk 105 Go.Proofs.Try.f105 6 (hd105 a [] L 0) (X.exit 0) (Nm [] [] [] [[.own 3 L]] []) := fun L =>
        kids_loop (.var n) (by omega) (fun i => hd105 a [] L i) (fun i y hy => by simp [Pt.kids] at hy) (fun h1 m s K hs hK => free_end kk m _ _ _ _ hs h1 hK) rfl
      simp only [Pt.depth] at had
      simp only [Pt.size] at ho
      by_cases h : a ≤ n
      · have e : w64 (n - a) = n - a := w64_eq (by omega)
        have hfv : fv (.var n) a = [n - a] := by simp only [fv]; rw [if_pos h]
        rw [hfv]
        refine free_hit kk n a [] _ _ _ (decide_eq_true h) ?_ (hend _)
        rw [e]
        refine (ev_fn Go.Proofs.Try.f106 0 (by kernel_rfl) (by kernel_rfl) fun k2 _ => ?_) kk (by omega)
        have := freeIn1 k2 (n - a) (out.map I) (by simp; omega)
        rw [this]
        simp
      · have hfv : fv (.var n) a = [] := by simp only [fv]; rw [if_neg h]
        rw [hfv, List.append_nil]
        exact free_miss kk n a [] _ _ (decide_eq_false h) (hend _)
    | lam n x =>
      have e : w64 (a + 1) = a + 1 := w64_eq (by simp only [Pt.depth] at had; omega)
      have := hloop (fun _ h => by cases h)
      refine free_lam kk n a _ _ _ ?_
      rw [e]
      exact this
    | app n x y => exact free_app kk n a _ _ _ (hloop (fun _ h => by cases h))
/-- The free variables, sorted, each once. -/
def freeL (t : Pt) : List Int := Lib.compact ((fv t 0).mergeSort fun x y => decide (x ≤ y))
theorem den_ext {f k : Nat} {g : List D → List (List D) → List (Option Row) → Option (List D × List (List D) × List (Option Row))} (h : cfg.ext f = some g) (args : List D) (u : List (List D)) (l : List (Option Row)) : den cfg (k + 1) f args u l = g args u l := by
  simp only [den, h]
theorem ev_Sort (zs : List Int) (h : zs.length ≤ 1000000) : EvN 1 107 [.bor (.lent 0) none] [] [some (3, zs.map I)] ([], [], [some (3, (zs.mergeSort fun x y => decide (x ≤ y)).map I)]) := fun k hk => by
  obtain ⟨m, rfl⟩ : ∃ m, k = m + 1 := ⟨k - 1, by omega⟩
  rw [den_ext (g := extSort 3) (by kernel_rfl)]
  have e : intsOf (zs.map I) = some zs := intsOf_map zs
  have e2 : Nat.ble (zs.map I).length 1000000 = true := Nat.ble_eq_true_of_le (by simpa using h)
  show (match Nat.ble (zs.map I).length 1000000 with | true => sortI (zs.map I) | false => none).map (fun es' => (([], [], [some (3, es')]) : List D × List (List D) × List (Option Row))) = _
  rw [e2]
  simp only [sortI, e, Option.map_some]
  rfl
theorem ev_Compact (zs : List Int) (h : zs.length ≤ 1000000) : EvN 1 108 [.own 3 (zs.map I)] [] [] ([.own 3 ((Lib.compact zs).map I)], [], []) := fun k hk => by
  obtain ⟨m, rfl⟩ : ∃ m, k = m + 1 := ⟨k - 1, by omega⟩
  rw [den_ext (g := extComp 3) (by kernel_rfl)]
  have e : intsOf (zs.map I) = some zs := intsOf_map zs
  have e2 : Nat.ble (zs.map I).length 1000000 = true := Nat.ble_eq_true_of_le (by simpa using h)
  show (match Nat.ble (zs.map I).length 1000000 with | true => compI (zs.map I) | false => none).map (fun es' => (([.own 3 es'], [], []) : List D × List (List D) × List (Option Row))) = _
  rw [e2]
  simp only [compI, e, Option.map_some]
  rfl
theorem ev_freeIn (t : Pt) (hg : t.good = true) : EvN 100 72 [.dat t.d] [] [] ([.own 3 ((freeL t).map I)], [], []) := by
  refine (ev_fn Go.Proofs.Try.f72 80 (by kernel_rfl) (by kernel_rfl) fun kk hkk => ?_).mono (by omega)
  have hsm := good_small hg
  have hl := fv_length t 0
  have a1 := ev_free 40 t 0 [] hsm.2.1 hsm.2.2 (by omega) (by have := hsm.2.1; omega) (by simpa using (show t.size ≤ 1000000 by omega)) kk (by omega)
  have a2 := ev_Sort (fv t 0) (by omega) kk (by omega)
  have a3 := ev_Compact ((fv t 0).mergeSort fun x y => decide (x ≤ y)) (by simp; omega) kk (by omega)
  rw [Pt.d_eq] at a1 ⊢
  simp only [List.nil_append] at a1
  exact freeIn kk _ _ _ _ _ _ a1 a2 a3
theorem compact_mem (zs : List Int) (x : Int) : x ∈ Lib.compact zs ↔ x ∈ zs := by
  unfold Lib.compact Lib.compactUpTo
  simp only [List.mem_map, List.mem_filter, List.mem_range]
  constructor
  · rintro ⟨j, ⟨h1, _⟩, rfl⟩
    have : (zs.toArray[j]!) = zs[j] := by simp [h1]
    rw [this]
    exact List.getElem_mem h1
  · intro hx
    obtain ⟨j, hj, rfl⟩ := List.getElem_of_mem hx
    have key : ∀ j, (hj : j < zs.length) → ∃ i, (i < zs.length ∧ Lib.keeps zs.toArray i = true) ∧ zs.toArray[i]! = zs[j] := by
      intro j
      induction j with
      | zero => intro hj; exact ⟨0, ⟨hj, by simp [Lib.keeps]⟩, by simp [hj]⟩
      | succ j ih =>
        intro hj
        cases hk : Lib.keeps zs.toArray (j + 1) with
        | true => exact ⟨j + 1, ⟨hj, hk⟩, by simp [hj]⟩
        | false =>
          have h2 : zs[j + 1] = zs[j] := by
            simp [Lib.keeps] at hk
            have e1 : zs.toArray[j + 1]! = zs[j + 1] := by simp [hj]
            have e2 : zs.toArray[j]! = zs[j] := by simp [show j < zs.length by omega]
            first
              | (rw [← e1, ← e2]; simpa using hk)
              | (simp at hk; simpa using hk)
          obtain ⟨i, hi, he⟩ := ih (by omega)
          exact ⟨i, hi, by rw [he, h2]⟩
    obtain ⟨i, hi, he⟩ := key j hj
    exact ⟨i, hi, he⟩
theorem freeL_mem (t : Pt) (x : Int) : x ∈ freeL t ↔ x ∈ fv t 0 := by
  unfold freeL
  rw [compact_mem]
  simp
theorem freeL_empty (t : Pt) : decide ((((freeL t).map I).length : Int) = 0) = closedP t := by
  have hm := freeL_mem t
  unfold closedP
  generalize freeL t = hs at hm
  cases hf : fv t 0 with
  | nil =>
    rw [hf] at hm
    have : hs = [] := List.eq_nil_iff_forall_not_mem.2 fun i hi => by have := (hm i).1 hi; simp at this
    rw [this]
    rfl
  | cons z zs =>
    rw [hf] at hm
    have : z ∈ hs := (hm z).2 (by simp)
    have hne : hs.length ≠ 0 := fun h => by rw [List.eq_nil_of_length_eq_zero h] at this; cases this
    simp only [List.isEmpty_cons]
    exact decide_eq_false (by rw [List.length_map]; omega)
theorem ev_closedOf (L : List Nd) (b : Bool) (hL : L.length ≤ 1048576) :
    (∀ t, termOfP L = some t → EvN 2000 67 [.dat (.lst b (L.map Nd.d))] [] [] ([.dat t.d, .dat (B (closedP t))], [], [])) ∧
    (termOfP L = none → ∃ (k n : Int) (ds : List Dat), EvN 2000 67 [.dat (.lst b (L.map Nd.d))] [] [] ([.dat (T k n ds), .dat (B false)], [], [])) := by
  obtain ⟨hy, hn⟩ := ev_termOf L b hL
  refine ⟨fun t ht => ?_, fun ht => ?_⟩
  · refine (ev_fn Go.Proofs.Try.f67 1500 (by kernel_rfl) (by kernel_rfl) fun kk hkk => ?_).mono (by omega)
    have a1 := hy t ht kk (by omega)
    have a2 := ev_freeIn t ((termOfP_iff L t).1 ht).1 kk (by omega)
    rw [← freeL_empty t]
    rw [Pt.d_eq] at a1 a2 ⊢
    exact closedOf_y kk b _ _ _ _ _ a1 a2
  · obtain ⟨k, n, ds, e⟩ := hn ht
    exact ⟨k, n, ds, (ev_fn Go.Proofs.Try.f67 1500 (by kernel_rfl) (by kernel_rfl) fun kk hkk => closedOf_no kk b _ _ _ _ (e kk (by omega))).mono (by omega)⟩
/-- What 'closedOf' tells, either way. -/
theorem ev_closedOf_any (L : List Nd) (b : Bool) (hL : L.length ≤ 1048576) : ∃ (k n : Int) (ds : List Dat), EvN 2000 67 [.dat (.lst b (L.map Nd.d))] [] [] ([.dat (T k n ds), .dat (B (closedOfP L).isSome)], [], []) ∧ ∀ t, closedOfP L = some t → T k n ds = t.d := by
  obtain ⟨hy, hn⟩ := ev_closedOf L b hL
  cases ht : termOfP L with
  | none =>
    obtain ⟨k, n, ds, e⟩ := hn ht
    have hc : closedOfP L = none := by unfold closedOfP; rw [ht]; rfl
    exact ⟨k, n, ds, by rw [hc]; exact e, fun t h => by rw [hc] at h; cases h⟩
  | some t =>
    have e := hy t ht
    rw [Pt.d_eq] at e
    have hc : (closedOfP L).isSome = closedP t := by
      unfold closedOfP
      rw [ht]
      simp only [Option.bind_some]
      cases closedP t <;> rfl
    refine ⟨_, _, _, by rw [hc]; exact e, fun t' h => ?_⟩
    have := (closedOfP_some h).1
    rw [ht] at this
    cases this
    exact (Pt.d_eq t).symm
def isValueN (L : List Nd) : Bool := match closedOfP L with | some t => decide (t.kd = 2) | none => false
theorem ev_sIsValue (L : List Nd) (b : Bool) (hL : L.length ≤ 1048576) : EvN 1000500 28 [.dat (.lst b (L.map Nd.d))] [] [] ([.dat (B (isValueN L))], [], []) := by
  refine (ev_fn Go.Proofs.Try.f28 1000450 (by kernel_rfl) (by kernel_rfl) fun kk hkk => ?_).mono (by omega)
  have a1 := ev_lfClosed L b hL kk (by omega)
  unfold isValueN
  cases hc : closedOfP L with
  | none => rw [hc] at a1; exact sIsValue_no kk b _ a1
  | some t =>
    rw [hc] at a1
    have hf := ((termOfP_iff L t).1 (closedOfP_some hc).1).2
    have h0 : L[0]? = some ⟨t.kd, t.num, -1⟩ := by rw [hf, Pt.flat_kids]; rfl
    have hlen : 0 < L.length := (List.getElem?_eq_some_iff.1 h0).1
    have := sIsValue_y kk b (L.map Nd.d) t.kd t.num (-1) a1 ⟨⟨by decide, by simp; omega⟩, by rw [List.getElem?_map, h0]; rfl⟩
    exact this
theorem ev_iIsValue (L : List Nd) (b : Bool) (hL : L.length ≤ 1048576) : EvN 3000 29 [.dat (.lst b (L.map Nd.d))] [] [] ([.dat (B (isValueN L))], [], []) := by
  refine (ev_fn Go.Proofs.Try.f29 2500 (by kernel_rfl) (by kernel_rfl) fun kk hkk => ?_).mono (by omega)
  obtain ⟨k, n, ds, e, he⟩ := ev_closedOf_any L b hL
  have e := e kk (by omega)
  unfold isValueN
  cases hc : closedOfP L with
  | none => rw [hc] at e; exact iIsValue_no kk b _ _ _ _ e
  | some t =>
    rw [hc] at e
    have := iIsValue_y kk b _ _ _ _ e
    have h2 := he t hc
    rw [Pt.d_eq] at h2
    simp only [Dat.agg.injEq, List.cons.injEq, Dat.val.injEq, Value.int.injEq, true_and] at h2
    rw [h2.1] at this
    exact this
end Go.Den
namespace Go.Den
open Go
set_option linter.unusedVariables false
set_option maxRecDepth 100000
theorem fnExactIsValue_den : ∀ (d0 : Dat), WT cfg.ty 22 d0 → ∃ k, den cfg k 7 [.dat d0] [] [] = some ([.dat (.val (.bool true))], [], []) := by
  intro d0 w0
  obtain ⟨L, rfl, hL⟩ := terms_of w0
  have hlL : (L.map Nd.d).length = L.length := by simp
  refine ⟨1100001, ev_fn Go.Proofs.Try.f7 1100000 (by kernel_rfl) (by kernel_rfl) (fun kk hkk => ?_) 1100001 (Nat.le_refl _)⟩
  by_cases h1 : 1048576 < L.length
  · have z1 := ev_sz_no (L.map Nd.d) (1048576) false (by omega) (by omega) (by omega) kk (by omega)
    apply isv_small1 kk <;> first | assumption | exact decide_eq_false (by omega) | decide
  have z1 := ev_sz_go (L.map Nd.d) (1048576) false (by omega) (by omega) kk (by omega)
  have bL : L.length ≤ 1048576 := by omega
  have tL := ev_toTermS L bL kk (by omega)
  have eL := ev_eqTermS L true true bL kk (by omega)
  have s1 := ev_sIsValue L true bL kk (by omega)
  have s2 := ev_iIsValue L true bL kk (by omega)
  generalize (isValueN L) = r at *
  cases r with
  | false => apply isv_false kk <;> first | assumption | exact decide_eq_false (by omega) | (simp; done)
  | true => apply isv_true kk <;> first | assumption | exact decide_eq_false (by omega) | (simp; done)
end Go.Den
namespace Go.Proofs.Ytcehfbegcapmnaa.fnExactIsValue
open Go.ChangeShapes Go.WideShapes Go.ChangeAt Go.RowKit Go.Den
set_option linter.unusedVariables false
theorem own : ownKnob Try.prog.godebug = none := by kernel_rfl
theorem laidOut : laidOutB Try.prog = true := by kernel_rfl
theorem body : (Try.f7.body).isSome = true := by kernel_rfl
theorem fnThere : cfg.fn 7 = some Try.f7 := by kernel_rfl
theorem plain22 : plainTy cfg.ty 8 22 = true := by kernel_rfl
set_option maxRecDepth 100000 in
theorem lifted (os : Os) (started : os.Started) (H : Type) (enc : TypeId × Value → H) :
    ReturnsInHanded {} Try.checked os 7 .any (Rows.fnExactIsValueSpec.pre6 enc Try.prog Try.f7 Rows.fnExactIsValueRow.domain false) (Rows.fnExactIsValueSpec.post enc Try.prog Try.f7 false true false false) := by
  refine returnsInHanded_of_change (C := Try.checked) own started (by kernel_rfl) Try.func7
    (ChangeSpec.witness6 (enc := enc) (C := Try.checked) false ⟨#[], #[.slice none 0 0], []⟩ 8 (by kernel_rfl) (by kernel_rfl) (by kernel_rfl) (by kernel_rfl)) ?_
  intro W base args ds gs before hval0 hW hcnd _
  have hval : ∀ (j : Nat) t v, Try.f7.params[j]? = some t → args[j]? = some v → Value.okWide Try.prog W .any base t v := hval0
  have hW' := hW
  obtain ⟨p, q, hA0, hV, rfl, hfz, hnd⟩ := hW
  have hA : DataW.TrodAll enc Try.prog W 0 (fun _ => true) true Try.f7.params.toList args.toList ds p := hA0
  rw [Try.params7] at hA hval
  obtain ⟨v0, vs0, d0, ds0, p0, q0, hargs, rfl, rfl, h0, r0⟩ := trodAll_cons hA
  obtain ⟨rfl, rfl, rfl⟩ := trodAll_nil r0
  obtain rfl : args = #[v0] := by cases args; simp_all
  obtain ⟨rfl, rfl⟩ := trodVars_none hV
  have k0 := h0
  have lt0 : ∀ x ∈ p0, x.block < W.heap.size := by obtain ⟨m, hm⟩ := k0; exact DataW.trod_lt m _ _ _ hm
  obtain ⟨e0, cv0, R0, V0, T0⟩ := arg_dat cfg_ty plain22 (hval 0 22 v0 rfl rfl) h0
  clear hA0 hval0
  have hden := fnExactIsValue_den e0 T0
  refine (law_calls (P := Try.prog) (C := cfg) (f := 7) (fn := Try.f7) (vals := #[v0]) (ds := [e0]) (W := W) (b := true) den_true.out (cfg_fn fnThere) body rfl (fun j d v hj hv => ?_) hden).mono fun e W' hh => ?_
  · match j, hj, hv with
    | 0, hj, hv => cases hj; cases hv; exact ⟨cv0, R0, V0⟩
    | j + 1, hj, hv => simp at hj
  · obtain ⟨he, bel⟩ := hh
    subst he
    exact ⟨_, rfl, _, _, _, [], _, [], hW', trodAll_mk1 (shut_bool Try.underlying4 _), (trodAll_cons_mk (Below.trod laidOut (by kernel_rfl) (of_decide_eq_true (by kernel_rfl)) k0 bel lt0) trodAll_mk0), rfl, bel.frame _, fun h => by cases h⟩
theorem over : Rows.fnExactIsValueRow.holds Try.pinned (OpenSpec.ofChange Rows.fnExactIsValueSpec) :=
  OpenClaim.holds_of_wide 7 Try.f7 rfl rfl rfl rfl rfl rfl rfl ⟨rfl, rfl, rfl, rfl, rfl⟩ rfl rfl rfl rfl rfl (by kernel_rfl) Try.func7 (by kernel_rfl)
    (of_decide_eq_true (by kernel_rfl)) (by unfold Func.isWrapper; first | (rw [if_pos (by decide +kernel)]; kernel_rfl) | (rw [if_neg (by decide +kernel)]; exact ⟨rfl, rfl⟩))
    (fun os started H enc _ => lifted os started H enc)
theorem proved : Rows.FnExactIsValueSaid := over
end Go.Proofs.Ytcehfbegcapmnaa.fnExactIsValue
namespace Go.Proofs.Ytcehfbegcapmnaa
/-- The row, under a short name, for the claim. -/
theorem fnExactIsValue_holds : Rows.FnExactIsValueSaid := fnExactIsValue.proved
end Go.Proofs.Ytcehfbegcapmnaa
