/- Merged out of: WA WB WC WD WE WF WG WH WI WJ WN WP T1 T2 V4 LFnNormal (prune.py, a program of this work's). -/
import Derived.Test.YtjmljfpnofjkeaaZb4
import Derived.KernelRfl
import Derived.Test.YtjmljfpnofjkeaaZb6
import Derived.Test.YtjmljfpnofjkeaaRows
import Derived.WalkKit
import Derived.ProofKit
import Derived.OpenShut
import Derived.ShutString
import Derived.ChangeOld
import Derived.Below
set_option linter.unusedVariables false
set_option linter.unusedSimpArgs false
set_option linter.unnecessarySimpa false
namespace Go.Den
open Go
set_option linter.unusedVariables false
set_option maxRecDepth 100000
theorem isRedex_no (kk : Nat) (k n : Int) (ps : List Dat) (h1 : decide (k = 3) = false) : runFn cfg kk (den cfg kk) 70 Go.Proofs.Try.f70 [.dat (T k n ps)] [] [] = some ([D.dat (B false)], [], []) :=
  hrun_ok [(200006, .no)] (ob h1 (ob (rfl : false = false) (ob (rfl : false = false) (ob (rfl : false = false) (ob (rfl : false = false) (ob (rfl : false = false) ob0)))))) (by kernel_rfl)
theorem isRedex_app (kk : Nat) (k n k1 n1 : Int) (d1 ps : List Dat) (h1 : decide (k = 3) = true) (h4 : ((0 : Int) ≤ 0 ∧ 0 < ((T k1 n1 d1 :: ps).length : Int)) ∧ some (T k1 n1 d1) = some (T k1 n1 d1)) : runFn cfg kk (den cfg kk) 70 Go.Proofs.Try.f70 [.dat (T k n (T k1 n1 d1 :: ps))] [] [] = some ([D.dat (B (decide (k1 = 2)))], [], []) :=
  hrun_ok [(200006, .yes), (9, .at (T k1 n1 d1))] (ob h1 (ob (rfl : true = true) (ob (rfl : true = true) (ob h4 (ob (rfl : true = true) (ob (rfl : true = true) (ob (rfl : true = true) ob0))))))) (by kernel_rfl)
theorem reduced (kk : Nat) (k n k1 n1 k2 n2 k3 n3 kr nr : Int) (d2 d3 dr r1 ps : List Dat) (h1 : ((0 : Int) ≤ 0 ∧ 0 < ((Dat.agg [I k1, I n1, Dat.lst false (T k2 n2 d2 :: r1)] :: T k3 n3 d3 :: ps).length : Int)) ∧ some (Dat.agg [I k1, I n1, Dat.lst false (T k2 n2 d2 :: r1)]) = some (Dat.agg [I k1, I n1, Dat.lst false (T k2 n2 d2 :: r1)])) (h2 : ((0 : Int) ≤ 0 ∧ 0 < ((T k2 n2 d2 :: r1).length : Int)) ∧ some (T k2 n2 d2) = some (T k2 n2 d2)) (h3 : ((0 : Int) ≤ 1 ∧ 1 < ((Dat.agg [I k1, I n1, Dat.lst false (T k2 n2 d2 :: r1)] :: T k3 n3 d3 :: ps).length : Int)) ∧ some (T k3 n3 d3) = some (T k3 n3 d3)) (h4 : den cfg kk 42 [D.dat (T k2 n2 d2), D.dat (I 0), D.dat (T k3 n3 d3)] [] [] = some ([D.dat (T kr nr dr)], [], [])) : runFn cfg kk (den cfg kk) 73 Go.Proofs.Try.f73 [.dat (T k n (T k1 n1 (T k2 n2 d2 :: r1) :: T k3 n3 d3 :: ps))] [] [] = some ([D.dat (T kr nr dr)], [], []) :=
  hrun_ok [(5, .at (T k1 n1 (T k2 n2 d2 :: r1))), (8, .at (T k2 n2 d2)), (12, .at (T k3 n3 d3)), (14, .ret [.dat (T kr nr dr)])] (ob h1 (ob h2 (ob h3 (ob h4 ob0)))) (by kernel_rfl)
def hd55 (k n : Int) (ps out : List Dat) (i : Int) : St := Nm [2, 9, 60, 61, 62] [.ptr (.loc 2) 0, .ptr (.loc 9) 0, .dat (.lst false ps), .dat (I ps.length), .dat (I i)] [some [.dat (I 0), .dat (I 0), .own 59 []], some [.dat (I k), .dat (I n), .own 59 out], none, none, none] [] []
theorem develop_go (kk m : Nat) {s : St} {K : X → St → Prop} (k n : Int) (ps out : List Dat) (i : Int) (kx nx ky ny : Int) (dx dy : List Dat) (hs : s.norm ((envOf cfg kk 37 Go.Proofs.Try.f37).live (firstRegion (lp Go.Proofs.Try.f37 10))) = hd55 k n ps out i) (h1 : decide (i < (ps.length : Int)) = true) (h2 : (0 ≤ i ∧ i < (ps.length : Int)) ∧ ps[i.toNat]? = some (T kx nx dx)) (h3 : den cfg kk 37 [D.dat (T kx nx dx)] [] [] = some ([D.dat (T ky ny dy), D.dat (B true)], [], [])) (h4 : out.length + 1 ≤ 2147483648) (hn : ∀ s : St, s.norm ((envOf cfg kk 37 Go.Proofs.Try.f37).live (firstRegion (lp Go.Proofs.Try.f37 10))) = Nm [2, 9, 60, 61, 62] [D.ptr (Ref.loc 2) 0, D.ptr (Ref.loc 9) 0, D.dat (Dat.lst false ps), D.dat (I (ps.length : Int)), D.dat (I (w64 (i + 1)))] [some [D.dat (I 0), D.dat (I 0), D.own 59 []], some [D.dat (I k), D.dat (I n), D.own 59 (out ++ [T ky ny dy])], none, none, none] [] [] → Rounds (envOf cfg kk 37 Go.Proofs.Try.f37) kk (lp Go.Proofs.Try.f37 10) m s K) : Rounds (envOf cfg kk 37 Go.Proofs.Try.f37) kk (lp Go.Proofs.Try.f37 10) (m + 1) s K :=
  rounds_go [(200063, .yes), (64, .at (T kx nx dx)), (68, .ret [.dat (T ky ny dy), .dat (B true)]), (78, .ok)] hs (by kernel_rfl) (ob h1 (ob h2 (ob h3 (ob (obT h4) ob0)))) (by kernel_rfl) hn
theorem develop_bad (kk m : Nat) {s : St} {K : X → St → Prop} (k n : Int) (ps out : List Dat) (i : Int) (kx nx ky ny : Int) (dx dy : List Dat) (hs : s.norm ((envOf cfg kk 37 Go.Proofs.Try.f37).live (firstRegion (lp Go.Proofs.Try.f37 10))) = hd55 k n ps out i) (h1 : decide (i < (ps.length : Int)) = true) (h2 : (0 ≤ i ∧ i < (ps.length : Int)) ∧ ps[i.toNat]? = some (T kx nx dx)) (h3 : den cfg kk 37 [D.dat (T kx nx dx)] [] [] = some ([D.dat (T ky ny dy), D.dat (B false)], [], [])) (hK : K (X.ret) (Nm [2, 3, 9] [D.ptr (Ref.loc 2) 0, D.dat (B false), D.ptr (Ref.loc 9) 0] [some [D.dat (I 0), D.dat (I 0), D.own 59 []], none, some [D.dat (I k), D.dat (I n), D.own 59 out]] [] [])) : Rounds (envOf cfg kk 37 Go.Proofs.Try.f37) kk (lp Go.Proofs.Try.f37 10) (m + 1) s K :=
  rounds_end [(200063, .yes), (64, .at (T kx nx dx)), (68, .ret [.dat (T ky ny dy), .dat (B false)])] hs (by kernel_rfl) rfl (ob h1 (ob h2 (ob h3 ob0))) (by kernel_rfl) hK
theorem develop_end (kk m : Nat) {s : St} {K : X → St → Prop} (k n : Int) (ps out : List Dat) (i : Int) (hs : s.norm ((envOf cfg kk 37 Go.Proofs.Try.f37).live (firstRegion (lp Go.Proofs.Try.f37 10))) = hd55 k n ps out i) (h1 : decide (i < (ps.length : Int)) = false) (hK : K (X.exit 0) (Nm [2, 3, 9] [D.ptr (Ref.loc 2) 0, D.junk, D.ptr (Ref.loc 9) 0] [some [D.dat (I 0), D.dat (I 0), D.own 59 []], none, some [D.dat (I k), D.dat (I n), D.own 59 out]] [] [])) : Rounds (envOf cfg kk 37 Go.Proofs.Try.f37) kk (lp Go.Proofs.Try.f37 10) (m + 1) s K :=
  rounds_end [(200063, .no)] hs (by kernel_rfl) rfl (ob h1 ob0) (by kernel_rfl) hK
theorem develop_no (kk : Nat) (k n : Int) (ps out : List Dat) (g : Bool) (h1 : den cfg kk 70 [D.dat (T k n ps)] [] [] = some ([D.dat (B false)], [], [])) (h3 : LoopAt cfg kk 37 Go.Proofs.Try.f37 10 (hd55 k n ps [] 0) (X.exit 0) (Nm [2, 3, 9] [D.ptr (Ref.loc 2) 0, D.junk, D.ptr (Ref.loc 9) 0] [some [D.dat (I 0), D.dat (I 0), D.own 59 []], none, some [D.dat (I k), D.dat (I n), D.own 59 out]] [] [])) (h5 : den cfg kk 69 [D.dat (Dat.agg [I k, I n, Dat.lst true out])] [] [] = some ([D.dat (B g)], [], [])) : runFn cfg kk (den cfg kk) 37 Go.Proofs.Try.f37 [.dat (T k n ps)] [] [] = some ([D.dat (T k n out), D.dat (B g)], [], []) :=
  hrun_ok [(15, .ret [.dat (B false)]), (300010, .loop (hd55 k n ps [] 0) (.exit 0) (Nm [2, 3, 9] [.ptr (.loc 2) 0, .junk, .ptr (.loc 9) 0] [some [.dat (I 0), .dat (I 0), .own 59 []], none, some [.dat (I k), .dat (I n), .own 59 out]] [] [])), (83, .ret [.dat (B g)])] (ob h1 (ob (rfl : _ = hd55 k n ps [] 0) (ob h3 (ob (rfl : true = true) (ob h5 ob0))))) (by kernel_rfl)
theorem develop_ret (kk : Nat) (k n : Int) (ps out : List Dat) (h1 : den cfg kk 70 [D.dat (T k n ps)] [] [] = some ([D.dat (B false)], [], [])) (h3 : LoopAt cfg kk 37 Go.Proofs.Try.f37 10 (hd55 k n ps [] 0) X.ret (Nm [2, 3, 9] [D.ptr (Ref.loc 2) 0, D.dat (B false), D.ptr (Ref.loc 9) 0] [some [D.dat (I 0), D.dat (I 0), D.own 59 []], none, some [D.dat (I k), D.dat (I n), D.own 59 out]] [] [])) : runFn cfg kk (den cfg kk) 37 Go.Proofs.Try.f37 [.dat (T k n ps)] [] [] = some ([D.dat (T 0 0 []), D.dat (B false)], [], []) :=
  hrun_ok [(15, .ret [.dat (B false)]), (300010, .loop (hd55 k n ps [] 0) .ret (Nm [2, 3, 9] [.ptr (.loc 2) 0, .dat (B false), .ptr (.loc 9) 0] [some [.dat (I 0), .dat (I 0), .own 59 []], none, some [.dat (I k), .dat (I n), .own 59 out]] [] []))] (ob h1 (ob (rfl : _ = hd55 k n ps [] 0) (ob h3 ob0))) (by kernel_rfl)
theorem develop_b1 (kk : Nat) (k n k1 n1 k2 n2 k3 n3 ka na kb nb : Int) (d2 d3 da db r1 ps : List Dat) (o2 : Bool) (h1 : den cfg kk 70 [D.dat (Dat.agg [I k, I n, Dat.lst false (Dat.agg [I k1, I n1, Dat.lst false (T k2 n2 d2 :: r1)] :: T k3 n3 d3 :: ps)])] [] [] = some ([D.dat (B true)], [], [])) (h2 : ((0 : Int) ≤ 0 ∧ 0 < ((Dat.agg [I k1, I n1, Dat.lst false (T k2 n2 d2 :: r1)] :: T k3 n3 d3 :: ps).length : Int)) ∧ some (Dat.agg [I k1, I n1, Dat.lst false (T k2 n2 d2 :: r1)]) = some (Dat.agg [I k1, I n1, Dat.lst false (T k2 n2 d2 :: r1)])) (h3 : ((0 : Int) ≤ 0 ∧ 0 < ((T k2 n2 d2 :: r1).length : Int)) ∧ some (T k2 n2 d2) = some (T k2 n2 d2)) (h4 : den cfg kk 37 [D.dat (T k2 n2 d2)] [] [] = some ([D.dat (T ka na da), D.dat (B false)], [], [])) (h5 : ((0 : Int) ≤ 1 ∧ 1 < ((Dat.agg [I k1, I n1, Dat.lst false (T k2 n2 d2 :: r1)] :: T k3 n3 d3 :: ps).length : Int)) ∧ some (T k3 n3 d3) = some (T k3 n3 d3)) (h6 : den cfg kk 37 [D.dat (T k3 n3 d3)] [] [] = some ([D.dat (T kb nb db), D.dat (B o2)], [], [])) : runFn cfg kk (den cfg kk) 37 Go.Proofs.Try.f37 [.dat (T k n (T k1 n1 (T k2 n2 d2 :: r1) :: T k3 n3 d3 :: ps))] [] [] = some ([D.dat (T 0 0 []), D.dat (B false)], [], []) :=
  hrun_ok [(15, .ret [.dat (B true)]), (19, .at (T k1 n1 (T k2 n2 d2 :: r1))), (22, .at (T k2 n2 d2)), (24, .ret [.dat (T ka na da), .dat (B false)]), (30, .at (T k3 n3 d3)), (32, .ret [.dat (T kb nb db), .dat (B o2)])] (ob h1 (ob h2 (ob h3 (ob h4 (ob h5 (ob h6 ob0)))))) (by kernel_rfl)
theorem develop_b2 (kk : Nat) (k n k1 n1 k2 n2 k3 n3 ka na kb nb : Int) (d2 d3 da db r1 ps : List Dat) (h1 : den cfg kk 70 [D.dat (Dat.agg [I k, I n, Dat.lst false (Dat.agg [I k1, I n1, Dat.lst false (T k2 n2 d2 :: r1)] :: T k3 n3 d3 :: ps)])] [] [] = some ([D.dat (B true)], [], [])) (h2 : ((0 : Int) ≤ 0 ∧ 0 < ((Dat.agg [I k1, I n1, Dat.lst false (T k2 n2 d2 :: r1)] :: T k3 n3 d3 :: ps).length : Int)) ∧ some (Dat.agg [I k1, I n1, Dat.lst false (T k2 n2 d2 :: r1)]) = some (Dat.agg [I k1, I n1, Dat.lst false (T k2 n2 d2 :: r1)])) (h3 : ((0 : Int) ≤ 0 ∧ 0 < ((T k2 n2 d2 :: r1).length : Int)) ∧ some (T k2 n2 d2) = some (T k2 n2 d2)) (h4 : den cfg kk 37 [D.dat (T k2 n2 d2)] [] [] = some ([D.dat (T ka na da), D.dat (B true)], [], [])) (h5 : ((0 : Int) ≤ 1 ∧ 1 < ((Dat.agg [I k1, I n1, Dat.lst false (T k2 n2 d2 :: r1)] :: T k3 n3 d3 :: ps).length : Int)) ∧ some (T k3 n3 d3) = some (T k3 n3 d3)) (h6 : den cfg kk 37 [D.dat (T k3 n3 d3)] [] [] = some ([D.dat (T kb nb db), D.dat (B false)], [], [])) : runFn cfg kk (den cfg kk) 37 Go.Proofs.Try.f37 [.dat (T k n (T k1 n1 (T k2 n2 d2 :: r1) :: T k3 n3 d3 :: ps))] [] [] = some ([D.dat (T 0 0 []), D.dat (B false)], [], []) :=
  hrun_ok [(15, .ret [.dat (B true)]), (19, .at (T k1 n1 (T k2 n2 d2 :: r1))), (22, .at (T k2 n2 d2)), (24, .ret [.dat (T ka na da), .dat (B true)]), (30, .at (T k3 n3 d3)), (32, .ret [.dat (T kb nb db), .dat (B false)])] (ob h1 (ob h2 (ob h3 (ob h4 (ob h5 (ob h6 ob0)))))) (by kernel_rfl)
theorem develop_b3 (kk : Nat) (k n k1 n1 k2 n2 k3 n3 ka na kb nb : Int) (d2 d3 da db r1 ps : List Dat) (h1 : den cfg kk 70 [D.dat (Dat.agg [I k, I n, Dat.lst false (Dat.agg [I k1, I n1, Dat.lst false (T k2 n2 d2 :: r1)] :: T k3 n3 d3 :: ps)])] [] [] = some ([D.dat (B true)], [], [])) (h2 : ((0 : Int) ≤ 0 ∧ 0 < ((Dat.agg [I k1, I n1, Dat.lst false (T k2 n2 d2 :: r1)] :: T k3 n3 d3 :: ps).length : Int)) ∧ some (Dat.agg [I k1, I n1, Dat.lst false (T k2 n2 d2 :: r1)]) = some (Dat.agg [I k1, I n1, Dat.lst false (T k2 n2 d2 :: r1)])) (h3 : ((0 : Int) ≤ 0 ∧ 0 < ((T k2 n2 d2 :: r1).length : Int)) ∧ some (T k2 n2 d2) = some (T k2 n2 d2)) (h4 : den cfg kk 37 [D.dat (T k2 n2 d2)] [] [] = some ([D.dat (T ka na da), D.dat (B true)], [], [])) (h5 : ((0 : Int) ≤ 1 ∧ 1 < ((Dat.agg [I k1, I n1, Dat.lst false (T k2 n2 d2 :: r1)] :: T k3 n3 d3 :: ps).length : Int)) ∧ some (T k3 n3 d3) = some (T k3 n3 d3)) (h6 : den cfg kk 37 [D.dat (T k3 n3 d3)] [] [] = some ([D.dat (T kb nb db), D.dat (B true)], [], [])) (h7 : den cfg kk 74 [D.dat (T ka na da)] [] [] = some ([D.dat (Dat.agg [I 2, I 0, Dat.lst false [T ka na da]])], [], [])) (h8 : den cfg kk 69 [D.dat (Dat.agg [I 2, I 0, Dat.lst false [T ka na da]])] [] [] = some ([D.dat (B false)], [], [])) : runFn cfg kk (den cfg kk) 37 Go.Proofs.Try.f37 [.dat (T k n (T k1 n1 (T k2 n2 d2 :: r1) :: T k3 n3 d3 :: ps))] [] [] = some ([D.dat (T 0 0 []), D.dat (B false)], [], []) :=
  hrun_ok [(15, .ret [.dat (B true)]), (19, .at (T k1 n1 (T k2 n2 d2 :: r1))), (22, .at (T k2 n2 d2)), (24, .ret [.dat (T ka na da), .dat (B true)]), (30, .at (T k3 n3 d3)), (32, .ret [.dat (T kb nb db), .dat (B true)]), (43, .ret [.dat (T 2 0 [T ka na da])]), (44, .ret [.dat (B false)])] (ob h1 (ob h2 (ob h3 (ob h4 (ob h5 (ob h6 (ob h7 (ob h8 ob0)))))))) (by kernel_rfl)
theorem develop_redex (kk : Nat) (k n k1 n1 k2 n2 k3 n3 ka na kb nb : Int) (d2 d3 da db r1 ps : List Dat) (kr nr : Int) (dr : List Dat) (g : Bool) (h1 : den cfg kk 70 [D.dat (Dat.agg [I k, I n, Dat.lst false (Dat.agg [I k1, I n1, Dat.lst false (T k2 n2 d2 :: r1)] :: T k3 n3 d3 :: ps)])] [] [] = some ([D.dat (B true)], [], [])) (h2 : ((0 : Int) ≤ 0 ∧ 0 < ((Dat.agg [I k1, I n1, Dat.lst false (T k2 n2 d2 :: r1)] :: T k3 n3 d3 :: ps).length : Int)) ∧ some (Dat.agg [I k1, I n1, Dat.lst false (T k2 n2 d2 :: r1)]) = some (Dat.agg [I k1, I n1, Dat.lst false (T k2 n2 d2 :: r1)])) (h3 : ((0 : Int) ≤ 0 ∧ 0 < ((T k2 n2 d2 :: r1).length : Int)) ∧ some (T k2 n2 d2) = some (T k2 n2 d2)) (h4 : den cfg kk 37 [D.dat (T k2 n2 d2)] [] [] = some ([D.dat (T ka na da), D.dat (B true)], [], [])) (h5 : ((0 : Int) ≤ 1 ∧ 1 < ((Dat.agg [I k1, I n1, Dat.lst false (T k2 n2 d2 :: r1)] :: T k3 n3 d3 :: ps).length : Int)) ∧ some (T k3 n3 d3) = some (T k3 n3 d3)) (h6 : den cfg kk 37 [D.dat (T k3 n3 d3)] [] [] = some ([D.dat (T kb nb db), D.dat (B true)], [], [])) (h7 : den cfg kk 74 [D.dat (T ka na da)] [] [] = some ([D.dat (Dat.agg [I 2, I 0, Dat.lst false [T ka na da]])], [], [])) (h8 : den cfg kk 69 [D.dat (Dat.agg [I 2, I 0, Dat.lst false [T ka na da]])] [] [] = some ([D.dat (B true)], [], [])) (h9 : den cfg kk 42 [D.dat (T ka na da), D.dat (I 0), D.dat (T kb nb db)] [] [] = some ([D.dat (T kr nr dr)], [], [])) (h10 : den cfg kk 69 [D.dat (T kr nr dr)] [] [] = some ([D.dat (B g)], [], [])) : runFn cfg kk (den cfg kk) 37 Go.Proofs.Try.f37 [.dat (T k n (T k1 n1 (T k2 n2 d2 :: r1) :: T k3 n3 d3 :: ps))] [] [] = some ([D.dat (T kr nr dr), D.dat (B g)], [], []) :=
  hrun_ok [(15, .ret [.dat (B true)]), (19, .at (T k1 n1 (T k2 n2 d2 :: r1))), (22, .at (T k2 n2 d2)), (24, .ret [.dat (T ka na da), .dat (B true)]), (30, .at (T k3 n3 d3)), (32, .ret [.dat (T kb nb db), .dat (B true)]), (43, .ret [.dat (T 2 0 [T ka na da])]), (44, .ret [.dat (B true)]), (50, .ret [.dat (T kr nr dr)]), (53, .ret [.dat (B g)])] (ob h1 (ob h2 (ob h3 (ob h4 (ob h5 (ob h6 (ob h7 (ob h8 (ob h9 (ob h10 ob0)))))))))) (by kernel_rfl)
theorem iDevelop_no1 (kk : Nat) (b : Bool) (es : List Dat) (k n : Int) (d : List Dat) (h1 : den cfg kk 32 [D.dat (Dat.lst b es)] [] [] = some ([D.dat (T k n d), D.dat (B false)], [], [])) : runFn cfg kk (den cfg kk) 12 Go.Proofs.Try.f12 [.dat (Dat.lst b es)] [] [] = some ([D.own 56 [], D.dat (B false)], [], []) :=
  hrun_ok [(9, .ret [.dat (T k n d), .dat (B false)])] (ob h1 ob0) (by kernel_rfl)
theorem iDevelop_no2 (kk : Nat) (b : Bool) (es : List Dat) (k n k2 n2 : Int) (d d2 : List Dat) (h1 : den cfg kk 32 [D.dat (Dat.lst b es)] [] [] = some ([D.dat (T k n d), D.dat (B true)], [], [])) (h2 : den cfg kk 37 [D.dat (T k n d)] [] [] = some ([D.dat (T k2 n2 d2), D.dat (B false)], [], [])) : runFn cfg kk (den cfg kk) 12 Go.Proofs.Try.f12 [.dat (Dat.lst b es)] [] [] = some ([D.own 56 [], D.dat (B false)], [], []) :=
  hrun_ok [(9, .ret [.dat (T k n d), .dat (B true)]), (16, .ret [.dat (T k2 n2 d2), .dat (B false)])] (ob h1 (ob h2 ob0)) (by kernel_rfl)
theorem iDevelop_go (kk : Nat) (b : Bool) (es : List Dat) (k n k2 n2 : Int) (d d2 out : List Dat) (h1 : den cfg kk 32 [D.dat (Dat.lst b es)] [] [] = some ([D.dat (T k n d), D.dat (B true)], [], [])) (h2 : den cfg kk 37 [D.dat (T k n d)] [] [] = some ([D.dat (T k2 n2 d2), D.dat (B true)], [], [])) (h3 : den cfg kk 38 [D.dat (T k2 n2 d2)] [] [] = some ([D.own 56 out], [], [])) : runFn cfg kk (den cfg kk) 12 Go.Proofs.Try.f12 [.dat (Dat.lst b es)] [] [] = some ([D.own 56 out, D.dat (B true)], [], []) :=
  hrun_ok [(9, .ret [.dat (T k n d), .dat (B true)]), (16, .ret [.dat (T k2 n2 d2), .dat (B true)]), (22, .ret [.own 56 out])] (ob h1 (ob h2 (ob h3 ob0))) (by kernel_rfl)
theorem lcBeta_b (kk : Nat) (k n k1 n1 k2 n2 k3 n3 kr nr : Int) (d2 d3 dr r1 ps : List Dat) (b : Bool) (h1 : ((0 : Int) ≤ 0 ∧ 0 < ((Dat.agg [I k1, I n1, Dat.lst false (T k2 n2 d2 :: r1)] :: T k3 n3 d3 :: ps).length : Int)) ∧ some (Dat.agg [I k1, I n1, Dat.lst false (T k2 n2 d2 :: r1)]) = some (Dat.agg [I k1, I n1, Dat.lst false (T k2 n2 d2 :: r1)])) (h2 : ((0 : Int) ≤ 0 ∧ 0 < ((T k2 n2 d2 :: r1).length : Int)) ∧ some (T k2 n2 d2) = some (T k2 n2 d2)) (h3 : ((0 : Int) ≤ 1 ∧ 1 < ((Dat.agg [I k1, I n1, Dat.lst false (T k2 n2 d2 :: r1)] :: T k3 n3 d3 :: ps).length : Int)) ∧ some (T k3 n3 d3) = some (T k3 n3 d3)) (h4 : den cfg kk 44 [D.dat (T k2 n2 d2), D.dat (I 0), D.dat (T k3 n3 d3), D.dat (I 0)] [] [] = some ([D.dat (T kr nr dr)], [], [])) : runFn cfg kk (den cfg kk) 98 Go.Proofs.Try.f98 [.dat (Dat.agg [I k, I n, Dat.lst b (T k1 n1 (T k2 n2 d2 :: r1) :: T k3 n3 d3 :: ps)])] [] [] = some ([D.dat (T kr nr dr)], [], []) :=
  hrun_ok [(5, .at (T k1 n1 (T k2 n2 d2 :: r1))), (8, .at (T k2 n2 d2)), (12, .at (T k3 n3 d3)), (14, .ret [.dat (T kr nr dr)])] (ob h1 (ob h2 (ob h3 (ob h4 ob0)))) (by kernel_rfl)
theorem isGood_big_b (kk : Nat) (b : Bool) (k n z : Int) (ps : List Dat) (h1 : den cfg kk 71 [D.dat (Dat.agg [I k, I n, Dat.lst b ps])] [] [] = some ([D.dat (I z)], [], [])) (h2 : decide (z ≤ 150) = false) : runFn cfg kk (den cfg kk) 69 Go.Proofs.Try.f69 [.dat (Dat.agg [I k, I n, Dat.lst b ps])] [] [] = some ([D.dat (B false)], [], []) :=
  hrun_ok [(4, .ret [.dat (I z)]), (200006, .no)] (ob h1 (ob h2 (ob (rfl : false = false) (ob (rfl : false = false) ob0)))) (by kernel_rfl)
theorem isGood_deep_b (kk : Nat) (b : Bool) (k n z d : Int) (ps : List Dat) (h1 : den cfg kk 71 [D.dat (Dat.agg [I k, I n, Dat.lst b ps])] [] [] = some ([D.dat (I z)], [], [])) (h2 : decide (z ≤ 150) = true) (h4 : den cfg kk 99 [D.dat (Dat.agg [I k, I n, Dat.lst b ps])] [] [] = some ([D.dat (I d)], [], [])) (h6 : decide (d ≤ 40) = false) : runFn cfg kk (den cfg kk) 69 Go.Proofs.Try.f69 [.dat (Dat.agg [I k, I n, Dat.lst b ps])] [] [] = some ([D.dat (B false)], [], []) :=
  hrun_ok [(4, .ret [.dat (I z)]), (200006, .yes), (8, .ret [.dat (I d)]), (200011, .no)] (ob h1 (ob h2 (ob (rfl : true = true) (ob h4 (ob (rfl : true = true) (ob h6 (ob (rfl : false = false) ob0))))))) (by kernel_rfl)
theorem isGood_go_b (kk : Nat) (b : Bool) (k n z d : Int) (ps : List Dat) (g : Bool) (h1 : den cfg kk 71 [D.dat (Dat.agg [I k, I n, Dat.lst b ps])] [] [] = some ([D.dat (I z)], [], [])) (h2 : decide (z ≤ 150) = true) (h4 : den cfg kk 99 [D.dat (Dat.agg [I k, I n, Dat.lst b ps])] [] [] = some ([D.dat (I d)], [], [])) (h6 : decide (d ≤ 40) = true) (h8 : den cfg kk 100 [D.dat (Dat.agg [I k, I n, Dat.lst b ps])] [] [] = some ([D.dat (B g)], [], [])) : runFn cfg kk (den cfg kk) 69 Go.Proofs.Try.f69 [.dat (Dat.agg [I k, I n, Dat.lst b ps])] [] [] = some ([D.dat (B g)], [], []) :=
  hrun_ok [(4, .ret [.dat (I z)]), (200006, .yes), (8, .ret [.dat (I d)]), (200011, .yes), (13, .ret [.dat (B g)])] (ob h1 (ob h2 (ob (rfl : true = true) (ob h4 (ob (rfl : true = true) (ob h6 (ob (rfl : true = true) (ob h8 ob0)))))))) (by kernel_rfl)
def hd99b (b : Bool) (ps : List Dat) (acc i : Int) : St := Nm [3, 7, 8, 9] [.dat (I acc), .dat (.lst b ps), .dat (I ps.length), .dat (I i)] [none, none, none, none] [] []
theorem size_go_b (kk m : Nat) {s : St} {K : X → St → Prop} (b : Bool) (ps : List Dat) (acc i kx nx z : Int) (dx : List Dat) (hs : s.norm ((envOf cfg kk 71 Go.Proofs.Try.f71).live (firstRegion (lp Go.Proofs.Try.f71 3))) = hd99b b ps acc i) (h1 : decide (i < (ps.length : Int)) = true) (h2 : (0 ≤ i ∧ i < (ps.length : Int)) ∧ ps[i.toNat]? = some (T kx nx dx)) (h3 : den cfg kk 71 [D.dat (T kx nx dx)] [] [] = some ([D.dat (I z)], [], [])) (hn : ∀ s : St, s.norm ((envOf cfg kk 71 Go.Proofs.Try.f71).live (firstRegion (lp Go.Proofs.Try.f71 3))) = Nm [3, 7, 8, 9] [D.dat (I (w64 (acc + z))), D.dat (Dat.lst b ps), D.dat (I (ps.length : Int)), D.dat (I (w64 (i + 1)))] [none, none, none, none] [] [] → Rounds (envOf cfg kk 71 Go.Proofs.Try.f71) kk (lp Go.Proofs.Try.f71 3) m s K) : Rounds (envOf cfg kk 71 Go.Proofs.Try.f71) kk (lp Go.Proofs.Try.f71 3) (m + 1) s K :=
  rounds_go [(200010, .yes), (11, .at (T kx nx dx)), (15, .ret [.dat (I z)])] hs (by kernel_rfl) (ob h1 (ob h2 (ob h3 ob0))) (by kernel_rfl) hn
theorem size_end_b (kk m : Nat) {s : St} {K : X → St → Prop} (b : Bool) (ps : List Dat) (acc i : Int) (hs : s.norm ((envOf cfg kk 71 Go.Proofs.Try.f71).live (firstRegion (lp Go.Proofs.Try.f71 3))) = hd99b b ps acc i) (h1 : decide (i < (ps.length : Int)) = false) (hK : K (X.exit 0) (Nm [3] [D.dat (I acc)] [none] [] [])) : Rounds (envOf cfg kk 71 Go.Proofs.Try.f71) kk (lp Go.Proofs.Try.f71 3) (m + 1) s K :=
  rounds_end [(200010, .no)] hs (by kernel_rfl) rfl (ob h1 ob0) (by kernel_rfl) hK
theorem size_b (kk : Nat) (b : Bool) (k n acc : Int) (ps : List Dat) (h2 : LoopAt cfg kk 71 Go.Proofs.Try.f71 3 (hd99b b ps 1 0) (X.exit 0) (Nm [3] [D.dat (I acc)] [none] [] [])) : runFn cfg kk (den cfg kk) 71 Go.Proofs.Try.f71 [.dat (Dat.agg [I k, I n, Dat.lst b ps])] [] [] = some ([D.dat (I acc)], [], []) :=
  hrun_ok [(300003, .loop (hd99b b ps 1 0) (.exit 0) (Nm [3] [.dat (I acc)] [none] [] []))] (ob (rfl : _ = hd99b b ps 1 0) (ob h2 ob0)) (by kernel_rfl)
theorem depth_go_b (kk m : Nat) {s : St} {K : X → St → Prop} (b : Bool) (ps : List Dat) (acc i kx nx z : Int) (dx : List Dat) (hs : s.norm ((envOf cfg kk 99 Go.Proofs.Try.f99).live (firstRegion (lp Go.Proofs.Try.f99 3))) = hd99b b ps acc i) (h1 : decide (i < (ps.length : Int)) = true) (h2 : (0 ≤ i ∧ i < (ps.length : Int)) ∧ ps[i.toNat]? = some (T kx nx dx)) (h3 : den cfg kk 99 [D.dat (T kx nx dx)] [] [] = some ([D.dat (I z)], [], [])) (hn : ∀ s : St, s.norm ((envOf cfg kk 99 Go.Proofs.Try.f99).live (firstRegion (lp Go.Proofs.Try.f99 3))) = Nm [3, 7, 8, 9] [D.dat (I (if z > acc then z else acc)), D.dat (Dat.lst b ps), D.dat (I (ps.length : Int)), D.dat (I (w64 (i + 1)))] [none, none, none, none] [] [] → Rounds (envOf cfg kk 99 Go.Proofs.Try.f99) kk (lp Go.Proofs.Try.f99 3) m s K) : Rounds (envOf cfg kk 99 Go.Proofs.Try.f99) kk (lp Go.Proofs.Try.f99 3) (m + 1) s K :=
  rounds_go [(200010, .yes), (11, .at (T kx nx dx)), (15, .ret [.dat (I z)])] hs (by kernel_rfl) (ob h1 (ob h2 (ob h3 ob0))) (by kernel_rfl) hn
theorem depth_end_b (kk m : Nat) {s : St} {K : X → St → Prop} (b : Bool) (ps : List Dat) (acc i : Int) (hs : s.norm ((envOf cfg kk 99 Go.Proofs.Try.f99).live (firstRegion (lp Go.Proofs.Try.f99 3))) = hd99b b ps acc i) (h1 : decide (i < (ps.length : Int)) = false) (hK : K (X.exit 0) (Nm [3] [D.dat (I acc)] [none] [] [])) : Rounds (envOf cfg kk 99 Go.Proofs.Try.f99) kk (lp Go.Proofs.Try.f99 3) (m + 1) s K :=
  rounds_end [(200010, .no)] hs (by kernel_rfl) rfl (ob h1 ob0) (by kernel_rfl) hK
theorem depth_b (kk : Nat) (b : Bool) (k n acc : Int) (ps : List Dat) (h2 : LoopAt cfg kk 99 Go.Proofs.Try.f99 3 (hd99b b ps 0 0) (X.exit 0) (Nm [3] [D.dat (I acc)] [none] [] [])) : runFn cfg kk (den cfg kk) 99 Go.Proofs.Try.f99 [.dat (Dat.agg [I k, I n, Dat.lst b ps])] [] [] = some ([D.dat (I (w64 (acc + 1)))], [], []) :=
  hrun_ok [(300003, .loop (hd99b b ps 0 0) (.exit 0) (Nm [3] [.dat (I acc)] [none] [] []))] (ob (rfl : _ = hd99b b ps 0 0) (ob h2 ob0)) (by kernel_rfl)
theorem areNumbers_neg_b (kk : Nat) (b : Bool) (k n : Int) (ps : List Dat) (h1 : decide (n < 0) = true) : runFn cfg kk (den cfg kk) 100 Go.Proofs.Try.f100 [.dat (Dat.agg [I k, I n, Dat.lst b ps])] [] [] = some ([D.dat (B false)], [], []) :=
  hrun_ok [(200006, .yes)] (ob h1 (ob (rfl : true = true) (ob (rfl : true = true) ob0))) (by kernel_rfl)
theorem areNumbers_big_b (kk : Nat) (b : Bool) (k n : Int) (ps : List Dat) (h1 : decide (n < 0) = false) (h4 : decide (99 < n) = true) : runFn cfg kk (den cfg kk) 100 Go.Proofs.Try.f100 [.dat (Dat.agg [I k, I n, Dat.lst b ps])] [] [] = some ([D.dat (B false)], [], []) :=
  hrun_ok [(200006, .no), (200011, .yes)] (ob h1 (ob (rfl : false = false) (ob (rfl : false = false) (ob h4 (ob (rfl : true = true) (ob (rfl : true = true) (ob (rfl : true = true) (ob (rfl : true = true) ob0)))))))) (by kernel_rfl)
theorem areNumbers_lam_b (kk : Nat) (b : Bool) (k n : Int) (ps : List Dat) (h1 : decide (n < 0) = false) (h4 : decide (99 < n) = false) (h8 : (!decide (k = 1)) = true) (h12 : (!decide (n = 0)) = true) : runFn cfg kk (den cfg kk) 100 Go.Proofs.Try.f100 [.dat (Dat.agg [I k, I n, Dat.lst b ps])] [] [] = some ([D.dat (B false)], [], []) :=
  hrun_ok [(200006, .no), (200011, .no), (200015, .yes), (200020, .yes)] (ob h1 (ob (rfl : false = false) (ob (rfl : false = false) (ob h4 (ob (rfl : false = false) (ob (rfl : false = false) (ob (rfl : false = false) (ob h8 (ob (rfl : true = true) (ob (rfl : true = true) (ob (rfl : false = false) (ob h12 ob0)))))))))))) (by kernel_rfl)
theorem areNumbers_ok0_b (kk : Nat) (b : Bool) (k n : Int) (ps : List Dat) (g : Bool) (h1 : decide (n < 0) = false) (h4 : decide (99 < n) = false) (h8 : (!decide (k = 1)) = true) (h12 : (!decide (n = 0)) = false) (h13 : den cfg kk 105 [D.dat (Dat.lst b ps), D.fn 106 []] [] [] = some ([D.dat (B g)], [], [])) : runFn cfg kk (den cfg kk) 100 Go.Proofs.Try.f100 [.dat (Dat.agg [I k, I n, Dat.lst b ps])] [] [] = some ([D.dat (B !g)], [], []) :=
  hrun_ok [(200006, .no), (200011, .no), (200015, .yes), (200020, .no), (23, .back [.dat (B g)] [] [])] (ob h1 (ob (rfl : false = false) (ob (rfl : false = false) (ob h4 (ob (rfl : false = false) (ob (rfl : false = false) (ob (rfl : false = false) (ob h8 (ob (rfl : true = true) (ob (rfl : true = true) (ob (rfl : false = false) (ob h12 (ob h13 (ob (rfl : false = false) ob0)))))))))))))) (by kernel_rfl)
theorem areNumbers_ok1_b (kk : Nat) (b : Bool) (k n : Int) (ps : List Dat) (g : Bool) (h1 : decide (n < 0) = false) (h4 : decide (99 < n) = false) (h8 : (!decide (k = 1)) = false) (h12 : den cfg kk 105 [D.dat (Dat.lst b ps), D.fn 106 []] [] [] = some ([D.dat (B g)], [], [])) : runFn cfg kk (den cfg kk) 100 Go.Proofs.Try.f100 [.dat (Dat.agg [I k, I n, Dat.lst b ps])] [] [] = some ([D.dat (B !g)], [], []) :=
  hrun_ok [(200006, .no), (200011, .no), (200015, .no), (23, .back [.dat (B g)] [] [])] (ob h1 (ob (rfl : false = false) (ob (rfl : false = false) (ob h4 (ob (rfl : false = false) (ob (rfl : false = false) (ob (rfl : false = false) (ob h8 (ob (rfl : false = false) (ob (rfl : false = false) (ob (rfl : false = false) (ob h12 (ob (rfl : false = false) ob0))))))))))))) (by kernel_rfl)
theorem contains_b (kk : Nat) (b : Bool) (es : List Dat) (i : Int) (h1 : den cfg kk 118 [D.dat (Dat.lst b es), D.fn 106 []] [] [] = some ([D.dat (I i)], [], [])) : runFn cfg kk (den cfg kk) 105 Go.Proofs.Try.f105 [.dat (Dat.lst b es), .fn 106 []] [] [] = some ([D.dat (B (decide (0 ≤ i)))], [], []) :=
  hrun_ok [(7, .back [.dat (I i)] [] [])] (ob h1 (ob (rfl : false = false) ob0)) (by kernel_rfl)
def hd132b (b : Bool) (es : List Dat) (i : Int) : St := Nm [0, 1, 7, 8] [.dat (.lst b es), .fn 106 [], .dat (I es.length), .dat (I i)] [none, none, none, none] [] []
theorem index_go_b (kk m : Nat) {s : St} {K : X → St → Prop} (b : Bool) (es : List Dat) (i k n : Int) (ps : List Dat) (hs : s.norm ((envOf cfg kk 118 Go.Proofs.Try.f118).live (firstRegion (lp Go.Proofs.Try.f118 2))) = hd132b b es i) (h1 : decide (i < (es.length : Int)) = true) (h2 : (0 ≤ i ∧ i < (es.length : Int)) ∧ es[i.toNat]? = some (T k n ps)) (h3 : den cfg kk 106 [D.dat (T k n ps)] [] [] = some ([D.dat (B false)], [], [])) (hn : ∀ s : St, s.norm ((envOf cfg kk 118 Go.Proofs.Try.f118).live (firstRegion (lp Go.Proofs.Try.f118 2))) = Nm [0, 1, 7, 8] [D.dat (Dat.lst b es), D.fn 106 [], D.dat (I (es.length : Int)), D.dat (I (w64 (i + 1)))] [none, none, none, none] [] [] → Rounds (envOf cfg kk 118 Go.Proofs.Try.f118) kk (lp Go.Proofs.Try.f118 2) m s K) : Rounds (envOf cfg kk 118 Go.Proofs.Try.f118) kk (lp Go.Proofs.Try.f118 2) (m + 1) s K :=
  rounds_go [(200009, .yes), (14, .at (T k n ps)), (16, .ret [.dat (B false)])] hs (by kernel_rfl) (ob h1 (ob h2 (ob h3 ob0))) (by kernel_rfl) hn
theorem index_hit_b (kk m : Nat) {s : St} {K : X → St → Prop} (b : Bool) (es : List Dat) (i k n : Int) (ps : List Dat) (hs : s.norm ((envOf cfg kk 118 Go.Proofs.Try.f118).live (firstRegion (lp Go.Proofs.Try.f118 2))) = hd132b b es i) (h1 : decide (i < (es.length : Int)) = true) (h2 : (0 ≤ i ∧ i < (es.length : Int)) ∧ es[i.toNat]? = some (T k n ps)) (h3 : den cfg kk 106 [D.dat (T k n ps)] [] [] = some ([D.dat (B true)], [], [])) (hK : K (X.ret) (Nm [4] [D.dat (I i)] [none] [] [])) : Rounds (envOf cfg kk 118 Go.Proofs.Try.f118) kk (lp Go.Proofs.Try.f118 2) (m + 1) s K :=
  rounds_end [(200009, .yes), (14, .at (T k n ps)), (16, .ret [.dat (B true)])] hs (by kernel_rfl) rfl (ob h1 (ob h2 (ob h3 ob0))) (by kernel_rfl) hK
theorem index_end_b (kk m : Nat) {s : St} {K : X → St → Prop} (b : Bool) (es : List Dat) (i : Int) (hs : s.norm ((envOf cfg kk 118 Go.Proofs.Try.f118).live (firstRegion (lp Go.Proofs.Try.f118 2))) = hd132b b es i) (h1 : decide (i < (es.length : Int)) = false) (hK : K (X.exit 0) (Nm [4] [D.junk] [none] [] [])) : Rounds (envOf cfg kk 118 Go.Proofs.Try.f118) kk (lp Go.Proofs.Try.f118 2) (m + 1) s K :=
  rounds_end [(200009, .no)] hs (by kernel_rfl) rfl (ob h1 ob0) (by kernel_rfl) hK
theorem index_n_b (kk : Nat) (b : Bool) (es : List Dat) (h2 : LoopAt cfg kk 118 Go.Proofs.Try.f118 2 (hd132b b es 0) (X.exit 0) (Nm [4] [D.junk] [none] [] [])) : runFn cfg kk (den cfg kk) 118 Go.Proofs.Try.f118 [.dat (Dat.lst b es), .fn 106 []] [] [] = some ([D.dat (I (-1))], [], []) :=
  hrun_ok [(300002, .loop (hd132b b es 0) (.exit 0) (Nm [4] [.junk] [none] [] []))] (ob (rfl : _ = hd132b b es 0) (ob h2 ob0)) (by kernel_rfl)
theorem index_y_b (kk : Nat) (b : Bool) (es : List Dat) (j : Int) (h2 : LoopAt cfg kk 118 Go.Proofs.Try.f118 2 (hd132b b es 0) X.ret (Nm [4] [D.dat (I j)] [none] [] [])) : runFn cfg kk (den cfg kk) 118 Go.Proofs.Try.f118 [.dat (Dat.lst b es), .fn 106 []] [] [] = some ([D.dat (I j)], [], []) :=
  hrun_ok [(300002, .loop (hd132b b es 0) .ret (Nm [4] [.dat (I j)] [none] [] []))] (ob (rfl : _ = hd132b b es 0) (ob h2 ob0)) (by kernel_rfl)
end Go.Den
namespace Go.Den
open Go
set_option linter.unusedVariables false
set_option maxRecDepth 100000
/-- A term's data, with its list of parts lent or not. -/
def Pt.db (b : Bool) (t : Pt) : Dat := .agg [I t.kd, I t.num, .lst b (t.kids.map Pt.d)]
theorem ev_size_b (b : Bool) : ∀ (d : Nat) (t : Pt), t.depth ≤ d → t.size ≤ 1000000000000 → EvN (d + 5) 71 [.dat (t.db b)] [] [] ([.dat (I t.size)], [], [])
  | 0, t, hd, hz => by have := t.depth_pos; omega
  | d + 1, t, hd, hz => by
    refine ev_fn Go.Proofs.Try.f71 (d + 5) (by kernel_rfl) (by kernel_rfl) fun kk hkk => ?_
    unfold Pt.db
    refine size_b kk b _ _ _ _ ?_
    have hle := t.kids_le
    have hsz := t.size_kids
    let st := fun i : Nat => hd99b b (t.kids.map Pt.d) ((1 + ((t.kids.take i).map Pt.size).sum : Nat) : Int) i
    refine loopAt_range st t.kids.length (by omega) (fun i hi m s K hs hn => ?_) (fun m s K hs hK => ?_) (by simp [st])
    · obtain ⟨x, h1, h2, h3⟩ := kid_at hi
      have hx := Pt.kids_lt h2
      have hev := ev_size d x (by omega) (by omega) kk (by omega)
      rw [Pt.d_eq] at hev
      have hto : ((i : Int)).toNat = i := by simp
      refine size_go_b kk m b _ _ _ x.kd x.num x.size _ hs (decide_eq_true (by simp; omega)) ⟨⟨by omega, by simp; omega⟩, by rw [hto]; exact h3⟩ hev fun s' hs' => hn s' ?_
      have hb := sum_le (ks := t.kids) i
      have hb2 := sum_le (ks := t.kids) (i + 1)
      have hstep : ((t.kids.take (i + 1)).map Pt.size).sum = ((t.kids.take i).map Pt.size).sum + x.size := by
        rw [List.take_add_one, h1]
        simp
      rw [hs', w64_eq (n := (i : Int) + 1) (by omega), w64_eq (by omega)]
      simp only [st, hd99b, hstep]
      congr 4
      · congr 1; omega
    · have hs' : s.norm _ = hd99b b (t.kids.map Pt.d) ((1 + ((t.kids.take t.kids.length).map Pt.size).sum : Nat) : Int) t.kids.length := hs
      rw [List.take_length, ← hsz] at hs'
      exact size_end_b kk m b _ _ _ hs' (decide_eq_false (by simp)) hK
theorem ev_depth_b (b : Bool) : ∀ (d : Nat) (t : Pt), t.depth ≤ d → t.size ≤ 1000000000000 → EvN (d + 5) 99 [.dat (t.db b)] [] [] ([.dat (I t.depth)], [], [])
  | 0, t, hd, hz => by have := t.depth_pos; omega
  | d + 1, t, hd, hz => by
    refine ev_fn Go.Proofs.Try.f99 (d + 5) (by kernel_rfl) (by kernel_rfl) fun kk hkk => ?_
    have hdle := t.depth_le
    have hdk := t.depth_kids
    have hfin : w64 ((maxd t.kids : Nat) + 1) = t.depth := (w64_eq (by omega)).trans (by omega)
    rw [← hfin]
    unfold Pt.db
    refine depth_b kk b _ _ _ _ ?_
    have hle := t.kids_le
    let st := fun i : Nat => hd99b b (t.kids.map Pt.d) (maxd (t.kids.take i) : Nat) i
    refine loopAt_range st t.kids.length (by omega) (fun i hi m s K hs hn => ?_) (fun m s K hs hK => ?_) (by simp [st, maxd])
    · obtain ⟨x, h1, h2, h3⟩ := kid_at hi
      have hx := Pt.kids_lt h2
      have hev := ev_depth d x (by omega) (by omega) kk (by omega)
      rw [Pt.d_eq] at hev
      have hto : ((i : Int)).toNat = i := by simp
      refine depth_go_b kk m b _ _ _ x.kd x.num x.depth _ hs (decide_eq_true (by simp; omega)) ⟨⟨by omega, by simp; omega⟩, by rw [hto]; exact h3⟩ hev fun s' hs' => hn s' ?_
      have hstep : maxd (t.kids.take (i + 1)) = max (maxd (t.kids.take i)) x.depth := by
        rw [List.take_add_one, h1, maxd_append]
        simp [maxd]
      rw [hs', w64_eq (n := (i : Int) + 1) (by omega)]
      simp only [st, hd99b, hstep]
      congr 4
      · congr 1
        split <;> omega
    · have hs' : s.norm _ = hd99b b (t.kids.map Pt.d) (maxd (t.kids.take t.kids.length) : Nat) t.kids.length := hs
      rw [List.take_length] at hs'
      exact depth_end_b kk m b _ _ _ hs' (decide_eq_false (by simp)) hK
theorem ev_nums_b (b : Bool) : ∀ (d : Nat) (t : Pt), t.depth ≤ d → EvN (4 * d + 5) 100 [.dat (t.db b)] [] [] ([.dat (B t.nums)], [], [])
  | 0, t, hd => by have := t.depth_pos; omega
  | d + 1, t, hd => by
    have hle := t.kids_le
    have hkid : ∀ x ∈ t.kids, EvN (4 * d + 6) 106 [.dat x.d] [] [] ([.dat (B !x.nums)], [], []) := fun x hx => by
      refine ev_fn Go.Proofs.Try.f106 (4 * d + 5) (by kernel_rfl) (by kernel_rfl) fun kk hkk => ?_
      have := ev_nums d x (by have := Pt.kids_lt hx; omega) kk (by omega)
      rw [Pt.d_eq] at this ⊢
      exact areNumbers1 kk _ _ _ _ this
    have hidx : ∃ j : Int, EvN (4 * d + 7) 118 [.dat (.lst b (t.kids.map Pt.d)), .fn 106 []] [] [] ([.dat (I j)], [], []) ∧ decide (0 ≤ j) = !(t.kids.all Pt.nums) := by
      cases hall : t.kids.all Pt.nums with
      | true =>
        refine ⟨-1, ev_fn Go.Proofs.Try.f118 (4 * d + 6) (by kernel_rfl) (by kernel_rfl) fun kk hkk => ?_, rfl⟩
        refine index_n_b kk b _ ?_
        refine loopAt_range (fun i => hd132b b (t.kids.map Pt.d) i) t.kids.length (by omega) (fun i hi m s K hs hn => ?_) (fun m s K hs hK => ?_) rfl
        · obtain ⟨x, h1, h2, h3⟩ := kid_at hi
          have hto : ((i : Int)).toNat = i := by simp
          have hev := hkid x h2 kk (by omega)
          rw [Pt.d_eq, (List.all_eq_true.1 hall) x h2] at hev
          refine index_go_b kk m b _ _ _ _ _ hs (decide_eq_true (by simp; omega)) ⟨⟨by omega, by simp; omega⟩, by rw [hto]; exact h3⟩ hev fun s' hs' => hn s' ?_
          rw [hs', w64_eq (n := (i : Int) + 1) (by omega)]
          rfl
        · exact index_end_b kk m b _ _ hs (decide_eq_false (by simp)) hK
      | false =>
        obtain ⟨j, x, h1, h2, h3⟩ := first_bad Pt.nums hall
        have hj := (List.getElem?_eq_some_iff.1 h1).1
        refine ⟨j, ev_fn Go.Proofs.Try.f118 (4 * d + 6) (by kernel_rfl) (by kernel_rfl) fun kk hkk => ?_, by simp⟩
        refine index_y_b kk b _ _ ?_
        refine loopAt_range (fun i => hd132b b (t.kids.map Pt.d) i) j (by omega) (fun i hi m s K hs hn => ?_) (fun m s K hs hK => ?_) rfl
        · obtain ⟨y, h4, h5, h6⟩ := kid_at (ks := t.kids) (i := i) (by omega)
          have hto : ((i : Int)).toNat = i := by simp
          have hev := hkid y h5 kk (by omega)
          rw [Pt.d_eq, h3 i y hi h4] at hev
          refine index_go_b kk m b _ _ _ _ _ hs (decide_eq_true (by simp; omega)) ⟨⟨by omega, by simp; omega⟩, by rw [hto]; exact h6⟩ hev fun s' hs' => hn s' ?_
          rw [hs', w64_eq (n := (i : Int) + 1) (by omega)]
          rfl
        · obtain ⟨y, h4, h5, h6⟩ := kid_at (ks := t.kids) (i := j) (by omega)
          rw [h1] at h4
          cases h4
          have hto : ((j : Int)).toNat = j := by simp
          have hev := hkid x h5 kk (by omega)
          rw [Pt.d_eq, h2] at hev
          exact index_hit_b kk m b _ _ _ _ _ hs (decide_eq_true (by simp; omega)) ⟨⟨by omega, by simp; omega⟩, by rw [hto]; exact h6⟩ hev hK
    obtain ⟨j, hj, hjb⟩ := hidx
    have hcon : EvN (4 * d + 8) 105 [.dat (.lst b (t.kids.map Pt.d)), .fn 106 []] [] [] ([.dat (B (!(t.kids.all Pt.nums)))], [], []) := by
      refine ev_fn Go.Proofs.Try.f105 (4 * d + 7) (by kernel_rfl) (by kernel_rfl) fun kk hkk => ?_
      rw [← hjb]
      exact contains_b kk b _ j (hj kk (by omega))
    refine ev_fn Go.Proofs.Try.f100 (4 * d + 8) (by kernel_rfl) (by kernel_rfl) fun kk hkk => ?_
    have hc := hcon kk (by omega)
    rw [Pt.nums_kids]
    unfold Pt.db
    by_cases h1 : t.num < 0
    · rw [areNumbers_neg_b kk b _ _ _ (decide_eq_true h1)]
      have : t.own = false := by
        cases t <;> simp only [Pt.num] at h1 <;> simp [Pt.own] <;> omega
      rw [this, Bool.false_and]
    · by_cases h2 : 99 < t.num
      · rw [areNumbers_big_b kk b _ _ _ (decide_eq_false h1) (decide_eq_true h2)]
        have : t.own = false := by
          cases t <;> simp only [Pt.num] at h2 <;> simp [Pt.own] <;> omega
        rw [this, Bool.false_and]
      · cases t with
        | var n =>
          have h3 : decide (0 ≤ n) = true := decide_eq_true (by simp only [Pt.num] at h1; omega)
          have h4 : decide (n ≤ 99) = true := decide_eq_true (by simp only [Pt.num] at h2; omega)
          rw [areNumbers_ok1_b kk b _ _ _ _ (decide_eq_false h1) (decide_eq_false h2) rfl hc]
          simp [Pt.own, h3, h4]
        | lam n x =>
          by_cases h5 : n = 0
          · rw [areNumbers_ok0_b kk b _ _ _ _ (decide_eq_false h1) (decide_eq_false h2) rfl (by simp [Pt.num, h5]) hc]
            simp [Pt.own, h5]
          · rw [areNumbers_lam_b kk b _ _ _ (decide_eq_false h1) (decide_eq_false h2) rfl (by simp [Pt.num, h5])]
            simp [Pt.own, h5]
        | app n x y =>
          by_cases h5 : n = 0
          · rw [areNumbers_ok0_b kk b _ _ _ _ (decide_eq_false h1) (decide_eq_false h2) rfl (by simp [Pt.num, h5]) hc]
            simp [Pt.own, h5]
          · rw [areNumbers_lam_b kk b _ _ _ (decide_eq_false h1) (decide_eq_false h2) rfl (by simp [Pt.num, h5])]
            simp [Pt.own, h5]
/-- 'isGood'. -/
theorem ev_good_b (b : Bool) (t : Pt) (hz : t.size ≤ 1000000000000) (d : Nat) (hd : t.depth ≤ d) : EvN (4 * d + 7) 69 [.dat (t.db b)] [] [] ([.dat (B t.good)], [], []) := by
  refine ev_fn Go.Proofs.Try.f69 (4 * d + 6) (by kernel_rfl) (by kernel_rfl) fun kk hkk => ?_
  have h1 := ev_size_b b d t hd hz kk (by omega)
  have h2 := ev_depth_b b d t hd hz kk (by omega)
  have h3 := ev_nums_b b d t hd kk (by omega)
  unfold Pt.db at h1 h2 h3 ⊢
  unfold Pt.good
  by_cases a1 : t.size ≤ 150
  · by_cases a2 : t.depth ≤ 40
    · rw [isGood_go_b kk b _ _ _ _ _ _ h1 (decide_eq_true (by omega)) h2 (decide_eq_true (by omega)) h3]
      simp [a1, a2]
    · rw [isGood_deep_b kk b _ _ _ _ _ h1 (decide_eq_true (by omega)) h2 (decide_eq_false (by omega))]
      simp [a1, a2]
  · rw [isGood_big_b kk b _ _ _ _ h1 (decide_eq_false (by omega))]
    simp [a1]
end Go.Den
namespace Go.Den
open Go
set_option linter.unusedVariables false
set_option maxRecDepth 100000
def Pt.isRedex : Pt → Bool
  | .app _ a _ => decide (a.kd = 2)
  | _ => false
def Pt.beta : Pt → Pt
  | .app _ (.lam _ x) y => sub 0 y 0 x
  | t => t
/-- A term with something done to each of its parts. -/
def Pt.over (g : Pt → Pt) : Pt → Pt
  | .var n => .var n
  | .lam n x => .lam n (g x)
  | .app n a c => .app n (g a) (g c)
theorem over_kids (g : Pt → Pt) (t : Pt) : (t.over g).kids = t.kids.map g := by cases t <;> rfl
theorem over_kd (g : Pt → Pt) (t : Pt) : (t.over g).kd = t.kd := by cases t <;> rfl
theorem over_num (g : Pt → Pt) (t : Pt) : (t.over g).num = t.num := by cases t <;> rfl
def fine (t : Pt) : Option Pt := if t.good = true then some t else none
theorem fine_some {t r : Pt} (h : fine t = some r) : r = t ∧ t.good = true := by
  unfold fine at h
  split at h
  · rename_i hg
    cases h
    exact ⟨rfl, hg⟩
  · cases h
/-- A term with all its redexes reduced at once. -/
def dev : Pt → Option Pt
  | .var n => fine (.var n)
  | .lam n x => (dev x).bind fun x' => fine (.lam n x')
  | .app n a c => (dev a).bind fun a' => (dev c).bind fun c' => fine (if (Pt.app n a c).isRedex = true then (Pt.app n a' c').beta else .app n a' c')
theorem dev_good : ∀ {t r : Pt}, dev t = some r → r.good = true
  | .var n, r, h => by
    obtain ⟨rfl, hg⟩ := fine_some h
    exact hg
  | .lam n x, r, h => by
    simp only [dev, Option.bind_eq_some_iff] at h
    obtain ⟨x', _, h⟩ := h
    obtain ⟨rfl, hg⟩ := fine_some h
    exact hg
  | .app n a c, r, h => by
    simp only [dev, Option.bind_eq_some_iff] at h
    obtain ⟨a', _, c', _, h⟩ := h
    obtain ⟨rfl, hg⟩ := fine_some h
    exact hg
/-- What a part comes to (if it comes to something). -/
def devT (t : Pt) : Pt := (dev t).getD t
theorem devT_eq {t r : Pt} (h : dev t = some r) : devT t = r := by unfold devT; rw [h]; rfl
theorem dev_all {t : Pt} (h : ∀ x ∈ t.kids, (dev x).isSome = true) : dev t = fine (if t.isRedex = true then (t.over devT).beta else t.over devT) := by
  cases t with
  | var n => rfl
  | lam n x =>
    obtain ⟨x', hx⟩ := Option.isSome_iff_exists.1 (h x (by simp [Pt.kids]))
    simp only [dev, hx, Option.bind_some, Pt.over, devT_eq hx]
    rfl
  | app n a c =>
    obtain ⟨a', ha⟩ := Option.isSome_iff_exists.1 (h a (by simp [Pt.kids]))
    obtain ⟨c', hc⟩ := Option.isSome_iff_exists.1 (h c (by simp [Pt.kids]))
    simp only [dev, ha, hc, Option.bind_some, Pt.over, devT_eq ha, devT_eq hc]
theorem dev_bad {t x : Pt} (hx : x ∈ t.kids) (h : (dev x).isSome = false) : dev t = none := by
  have h : dev x = none := by cases hd : dev x with
    | none => rfl
    | some r => rw [hd] at h; cases h
  cases t with
  | var n => cases hx
  | lam n y =>
    simp only [Pt.kids, List.mem_singleton] at hx
    subst hx
    simp only [dev, h, Option.bind_none]
  | app n a c =>
    simp only [Pt.kids, List.mem_cons, List.not_mem_nil, or_false] at hx
    rcases hx with rfl | rfl
    · simp only [dev, h, Option.bind_none]
    · simp only [dev, h, Option.bind_none]
      cases dev a <;> rfl
theorem pt_clean : ∀ t : Pt, Dat.clean t.d = true
  | .var n => rfl
  | .lam n x => by
    simp only [Pt.d, T, Dat.clean, Dat.cleans, pt_clean x]
    rfl
  | .app n a c => by
    simp only [Pt.d, T, Dat.clean, Dat.cleans, pt_clean a, pt_clean c]
    rfl
theorem clean1 (t : Pt) : D.cleans [.dat (T t.kd t.num (t.kids.map Pt.d))] = true := by
  rw [← Pt.d_eq]
  simp only [D.cleans, D.clean, pt_clean]
  rfl
theorem ev_isRedex (t : Pt) : EvN 1 70 [.dat t.d] [] [] ([.dat (B t.isRedex)], [], []) := by
  refine ev_fn Go.Proofs.Try.f70 0 (by kernel_rfl) (by kernel_rfl) fun kk _ => ?_
  cases t with
  | var n => exact isRedex_no kk 1 n [] rfl
  | lam n x => exact isRedex_no kk 2 n _ rfl
  | app n a c =>
    have := isRedex_app kk 3 n a.kd a.num (a.kids.map Pt.d) [c.d] rfl ⟨⟨by decide, by simp⟩, rfl⟩
    rw [← Pt.d_eq] at this
    exact this
theorem redex_app {t : Pt} (h : t.isRedex = true) : ∃ n n1 x y, t = .app n (.lam n1 x) y := by
  cases t with
  | var n => cases h
  | lam n x => cases h
  | app n a c =>
    have h : decide (a.kd = 2) = true := h
    cases a with
    | var m => exact absurd (of_decide_eq_true h) (by simp [Pt.kd])
    | lam m x => exact ⟨n, m, x, c, rfl⟩
    | app m x y => exact absurd (of_decide_eq_true h) (by simp [Pt.kd])
/-- What a redex is reduced to, when its parts are small. -/
theorem ev_lcBeta (b : Bool) (n n1 : Int) (x y : Pt) (hx : x.within 1000000) (hy : y.within 1000000) (hxd : x.depth ≤ 900) (hyd : y.depth ≤ 900) :
    EvN 2000 98 [.dat ((Pt.app n (.lam n1 x) y).db b)] [] [] ([.dat (sub 0 y 0 x).d], [], []) := by
  refine (ev_fn Go.Proofs.Try.f98 1900 (by kernel_rfl) (by kernel_rfl) fun kk hkk => ?_).mono (by omega)
  have h := ev_lcSubst 0 y (by omega) hy (by omega) x 0 (by omega) (by omega) hx kk (by omega)
  rw [Pt.d_eq x, Pt.d_eq y, Pt.d_eq (sub 0 y 0 x)] at h
  have := lcBeta_b kk 3 n 2 n1 x.kd x.num y.kd y.num (sub 0 y 0 x).kd (sub 0 y 0 x).num (x.kids.map Pt.d) (y.kids.map Pt.d) ((sub 0 y 0 x).kids.map Pt.d) [] [] b ⟨⟨by decide, by simp⟩, rfl⟩ ⟨⟨by decide, by simp⟩, rfl⟩ ⟨⟨by decide, by simp⟩, rfl⟩ h
  rw [← Pt.d_eq x, ← Pt.d_eq y, ← Pt.d_eq (sub 0 y 0 x)] at this
  exact this
theorem ev_reduced (n n1 : Int) (x y : Pt) (hx : x.within 1000000) (hy : y.within 1000000) (hxd : x.depth ≤ 900) (hyd : y.depth ≤ 900) :
    EvN 2000 73 [.dat (Pt.app n (.lam n1 x) y).d] [] [] ([.dat (sub 0 y 0 x).d], [], []) := by
  refine (ev_fn Go.Proofs.Try.f73 1900 (by kernel_rfl) (by kernel_rfl) fun kk hkk => ?_).mono (by omega)
  have h := ev_subst x y 0 (by omega) hx hy (by omega) (by omega) kk (by omega)
  rw [Pt.d_eq x, Pt.d_eq y, Pt.d_eq (sub 0 y 0 x)] at h
  have := reduced kk 3 n 2 n1 x.kd x.num y.kd y.num (sub 0 y 0 x).kd (sub 0 y 0 x).num (x.kids.map Pt.d) (y.kids.map Pt.d) ((sub 0 y 0 x).kids.map Pt.d) [] [] ⟨⟨by decide, by simp⟩, rfl⟩ ⟨⟨by decide, by simp⟩, rfl⟩ ⟨⟨by decide, by simp⟩, rfl⟩ h
  rw [← Pt.d_eq x, ← Pt.d_eq y, ← Pt.d_eq (sub 0 y 0 x)] at this
  exact this
/-- Good terms are small. -/
theorem good_small {t : Pt} (h : t.good = true) : t.size ≤ 150 ∧ t.depth ≤ 40 ∧ t.within 1000000 := by
  have := good_facts h
  exact ⟨this.1, this.2.1, within_mono (by omega) t (nums_within t this.2.2)⟩
theorem beta_size {x y : Pt} {n n1 : Int} (hx : (Pt.lam n1 x).good = true) (hy : y.good = true) : (sub 0 y 0 x).size ≤ 22500 ∧ (sub 0 y 0 x).depth ≤ 80 ∧ x.within 1000000 ∧ y.within 1000000 ∧ x.depth ≤ 40 ∧ y.depth ≤ 40 := by
  have h1 := good_small hx
  have h2 := good_small hy
  simp only [Pt.size, Pt.depth] at h1
  have h3 := sub_size 0 y x 0
  have hm : x.size * y.size ≤ 150 * 150 := Nat.mul_le_mul (by omega) h2.1
  exact ⟨by omega, by omega, h1.2.2, h2.2.2, by omega, by omega⟩
theorem over_small {t : Pt} {g : Pt → Pt} (h : ∀ x ∈ t.kids, (g x).good = true) : (t.over g).size ≤ 301 ∧ (t.over g).depth ≤ 41 := by
  cases t with
  | var n => exact ⟨by simp [Pt.over, Pt.size], by simp [Pt.over, Pt.depth]⟩
  | lam n x =>
    have h1 := good_small (h x (by simp [Pt.kids]))
    exact ⟨by simp only [Pt.over, Pt.size]; omega, by simp only [Pt.over, Pt.depth]; omega⟩
  | app n a c =>
    have h1 := good_small (h a (by simp [Pt.kids]))
    have h2 := good_small (h c (by simp [Pt.kids]))
    exact ⟨by simp only [Pt.over, Pt.size]; omega, by simp only [Pt.over, Pt.depth]; omega⟩
/-- A lambda is developed to a lambda. -/
theorem dev_lam {n : Int} {x r : Pt} (h : dev (.lam n x) = some r) : ∃ x', dev x = some x' ∧ r = .lam n x' ∧ (Pt.lam n x').good = true := by
  simp only [dev, Option.bind_eq_some_iff] at h
  obtain ⟨x', h1, h2⟩ := h
  obtain ⟨h3, h4⟩ := fine_some h2
  exact ⟨x', h1, h3, h4⟩
end Go.Den
namespace Go.Den
open Go
set_option linter.unusedVariables false
set_option maxRecDepth 100000
theorem dev_redex {n n1 : Int} {x y : Pt} (h1 : n1 = 0) : dev (.app n (.lam n1 x) y) = (dev x).bind fun x' => (dev y).bind fun y' => if (Pt.lam 0 x').good = true then fine (sub 0 y' 0 x') else none := by
  subst h1
  simp only [dev]
  cases hx : dev x with
  | none => rfl
  | some x' =>
    simp only [Option.bind_some]
    cases hy : dev y with
    | none =>
      simp only [Option.bind_none]
      cases fine (.lam 0 x') <;> rfl
    | some y' =>
      simp only [Option.bind_some]
      by_cases hg : (Pt.lam 0 x').good = true
      · unfold fine
        rw [if_pos hg, if_pos hg]
        rfl
      · unfold fine
        rw [if_neg hg, if_neg hg]
        rfl
theorem ev_develop : ∀ (d : Nat) (t : Pt), t.depth ≤ d → t.nums = true →
    (∀ r, dev t = some r → EvN (d + 3000) 37 [.dat t.d] [] [] ([.dat r.d, .dat (B true)], [], [])) ∧
    (dev t = none → ∃ (k n : Int) (ds : List Dat), EvN (d + 3000) 37 [.dat t.d] [] [] ([.dat (T k n ds), .dat (B false)], [], []))
  | 0, t, hd, hz => by have := t.depth_pos; omega
  | d + 1, t, hd, hz => by
    have hle := t.kids_le
    have hnk : t.own = true ∧ t.kids.all Pt.nums = true := by
      rw [Pt.nums_kids] at hz
      simpa using hz
    have hkids : ∀ x ∈ t.kids, x.depth ≤ d ∧ x.nums = true := fun x hx => by
      have := Pt.kids_lt hx
      exact ⟨by omega, (List.all_eq_true.1 hnk.2) x hx⟩
    cases hr : t.isRedex with
    | true =>
      obtain ⟨n, n1, x, y, rfl⟩ := redex_app hr
      have hlam := hkids (.lam n1 x) (by simp [Pt.kids])
      have hy := hkids y (by simp [Pt.kids])
      have hn1 : n1 = 0 ∧ x.nums = true := by
        have := hlam.2
        simp only [Pt.nums, Bool.and_eq_true, decide_eq_true_eq] at this
        exact this
      have hxd : x.depth ≤ d := by have := hlam.1; simp only [Pt.depth] at this; omega
      rw [dev_redex hn1.1]
      obtain ⟨hx1, hx2⟩ := ev_develop d x hxd hn1.2
      obtain ⟨hy1, hy2⟩ := ev_develop d y hy.1 hy.2
      have hred : ∀ kk, d + 3000 ≤ kk → den cfg kk 70 [.dat (T 3 n [T 2 n1 [T x.kd x.num (x.kids.map Pt.d)], T y.kd y.num (y.kids.map Pt.d)])] [] [] = some ([.dat (B true)], [], []) := fun kk hkk => by
        have h := ev_isRedex (.app n (.lam n1 x) y) kk (by omega)
        rw [hr] at h
        rw [← Pt.d_eq, ← Pt.d_eq]
        exact h
      have hdd : (Pt.app n (.lam n1 x) y).d = T 3 n [T 2 n1 [T x.kd x.num (x.kids.map Pt.d)], T y.kd y.num (y.kids.map Pt.d)] := by
        rw [← Pt.d_eq, ← Pt.d_eq]
        rfl
      cases hdx : dev x with
      | none =>
        obtain ⟨k1, m1, d1, e1⟩ := hx2 hdx
        have hyy : ∃ (k2 m2 : Int) (d2 : List Dat) (o : Bool), EvN (d + 3000) 37 [.dat y.d] [] [] ([.dat (T k2 m2 d2), .dat (B o)], [], []) := by
          cases hdy : dev y with
          | none =>
            obtain ⟨k2, m2, d2, e2⟩ := hy2 hdy
            exact ⟨k2, m2, d2, false, e2⟩
          | some y' =>
            have := hy1 y' hdy
            rw [Pt.d_eq y'] at this
            exact ⟨_, _, _, true, this⟩
        obtain ⟨k2, m2, d2, o, e2⟩ := hyy
        simp only [Option.bind_none]
        refine ⟨fun r h => (by cases h), fun _ => ⟨0, 0, [], ?_⟩⟩
        refine EvN.mono (ev_fn Go.Proofs.Try.f37 (d + 3000) (by kernel_rfl) (by kernel_rfl) fun kk hkk => ?_) (by omega)
        have a1 := e1 kk (by omega)
        have a2 := e2 kk (by omega)
        rw [Pt.d_eq] at a1 a2
        rw [hdd]
        exact develop_b1 kk 3 n 2 n1 _ _ _ _ _ _ _ _ _ _ _ _ _ _ o (hred kk hkk) ⟨⟨by decide, by simp⟩, rfl⟩ ⟨⟨by decide, by simp⟩, rfl⟩ a1 ⟨⟨by decide, by simp⟩, rfl⟩ a2
      | some x' =>
        have e1 := hx1 x' hdx
        simp only [Option.bind_some]
        cases hdy : dev y with
        | none =>
          obtain ⟨k2, m2, d2, e2⟩ := hy2 hdy
          simp only [Option.bind_none]
          refine ⟨fun r h => (by cases h), fun _ => ⟨0, 0, [], ?_⟩⟩
          refine EvN.mono (ev_fn Go.Proofs.Try.f37 (d + 3000) (by kernel_rfl) (by kernel_rfl) fun kk hkk => ?_) (by omega)
          have a1 := e1 kk (by omega)
          have a2 := e2 kk (by omega)
          rw [Pt.d_eq x, Pt.d_eq x'] at a1
          rw [Pt.d_eq] at a2
          rw [hdd]
          exact develop_b2 kk 3 n 2 n1 _ _ _ _ _ _ _ _ _ _ _ _ _ _ (hred kk hkk) ⟨⟨by decide, by simp⟩, rfl⟩ ⟨⟨by decide, by simp⟩, rfl⟩ a1 ⟨⟨by decide, by simp⟩, rfl⟩ a2
        | some y' =>
          have e2 := hy1 y' hdy
          simp only [Option.bind_some]
          have hgx := good_small (dev_good hdx)
          have hgy := good_small (dev_good hdy)
          have hlamd : (Pt.lam 0 x').d = T 2 0 [T x'.kd x'.num (x'.kids.map Pt.d)] := by rw [← Pt.d_eq]; rfl
          have hlg : ∀ kk, d + 3000 ≤ kk → den cfg kk 69 [.dat (T 2 0 [T x'.kd x'.num (x'.kids.map Pt.d)])] [] [] = some ([.dat (B (Pt.lam 0 x').good)], [], []) := fun kk hkk => by
            rw [← hlamd]
            exact ev_good (.lam 0 x') (by simp only [Pt.size]; omega) 41 (by simp only [Pt.depth]; omega) kk (by omega)
          have hll : ∀ kk, d + 3000 ≤ kk → den cfg kk 74 [.dat (T x'.kd x'.num (x'.kids.map Pt.d))] [] [] = some ([.dat (T 2 0 [T x'.kd x'.num (x'.kids.map Pt.d)])], [], []) := fun kk hkk => by
            rw [← hlamd, ← Pt.d_eq]
            exact ev_lam x' kk (by omega)
          cases hgl : (Pt.lam 0 x').good with
          | false =>
            rw [if_neg (by intro h; cases h)]
            refine ⟨fun r h => (by cases h), fun _ => ⟨0, 0, [], ?_⟩⟩
            refine EvN.mono (ev_fn Go.Proofs.Try.f37 (d + 3000) (by kernel_rfl) (by kernel_rfl) fun kk hkk => ?_) (by omega)
            have a1 := e1 kk (by omega)
            have a2 := e2 kk (by omega)
            have a3 := hlg kk (by omega)
            rw [hgl] at a3
            rw [Pt.d_eq x, Pt.d_eq x'] at a1
            rw [Pt.d_eq y, Pt.d_eq y'] at a2
            rw [hdd]
            exact develop_b3 kk 3 n 2 n1 _ _ _ _ _ _ _ _ _ _ _ _ _ _ (hred kk hkk) ⟨⟨by decide, by simp⟩, rfl⟩ ⟨⟨by decide, by simp⟩, rfl⟩ a1 ⟨⟨by decide, by simp⟩, rfl⟩ a2 (hll kk hkk) a3
          | true =>
            rw [if_pos rfl]
            have hbs := beta_size (n := 0) hgl (dev_good hdy)
            have hrun : ∀ kk, d + 3000 ≤ kk → runFn cfg kk (den cfg kk) 37 Go.Proofs.Try.f37 [.dat (Pt.app n (.lam n1 x) y).d] [] [] = some ([.dat (sub 0 y' 0 x').d, .dat (B (sub 0 y' 0 x').good)], [], []) := fun kk hkk => by
              have a1 := e1 kk (by omega)
              have a2 := e2 kk (by omega)
              have a3 := hlg kk (by omega)
              have a4 := ev_subst x' y' 0 (by omega) hgx.2.2 hgy.2.2 (by omega) (by omega) kk (by omega)
              have a5 := ev_good (sub 0 y' 0 x') (by omega) 80 (by omega) kk (by omega)
              rw [hgl] at a3
              rw [Pt.d_eq x, Pt.d_eq x'] at a1
              rw [Pt.d_eq y, Pt.d_eq y'] at a2
              rw [Pt.d_eq x', Pt.d_eq y', Pt.d_eq (sub 0 y' 0 x')] at a4
              rw [Pt.d_eq (sub 0 y' 0 x')] at a5
              rw [hdd, Pt.d_eq (sub 0 y' 0 x')]
              exact develop_redex kk 3 n 2 n1 _ _ _ _ _ _ _ _ _ _ _ _ _ _ _ _ _ _ (hred kk hkk) ⟨⟨by decide, by simp⟩, rfl⟩ ⟨⟨by decide, by simp⟩, rfl⟩ a1 ⟨⟨by decide, by simp⟩, rfl⟩ a2 (hll kk hkk) a3 a4 a5
            generalize sub 0 y' 0 x' = o at *
            unfold fine
            cases hg : o.good with
            | true =>
              rw [if_pos rfl]
              rw [hg] at hrun
              refine ⟨fun r h => ?_, fun h => (by cases h)⟩
              cases h
              exact EvN.mono (ev_fn Go.Proofs.Try.f37 (d + 3000) (by kernel_rfl) (by kernel_rfl) hrun) (by omega)
            | false =>
              rw [if_neg (by intro h; cases h)]
              rw [hg] at hrun
              refine ⟨fun r h => (by cases h), fun _ => ⟨o.kd, o.num, o.kids.map Pt.d, ?_⟩⟩
              rw [← Pt.d_eq]
              exact EvN.mono (ev_fn Go.Proofs.Try.f37 (d + 3000) (by kernel_rfl) (by kernel_rfl) hrun) (by omega)
    | false =>
      have hred : ∀ kk, d + 3000 ≤ kk → den cfg kk 70 [.dat (T t.kd t.num (t.kids.map Pt.d))] [] [] = some ([.dat (B false)], [], []) := fun kk hkk => by
        have h := ev_isRedex t kk (by omega)
        rw [hr] at h
        rw [← Pt.d_eq]
        exact h
      cases hall : t.kids.all fun x => (dev x).isSome with
      | false =>
        obtain ⟨j, x, h1, h2, h3⟩ := first_bad (fun x => (dev x).isSome) hall
        have hx : x ∈ t.kids := List.mem_of_getElem? h1
        have hnone := dev_bad hx h2
        rw [hnone]
        refine ⟨fun r h => (by cases h), fun _ => ⟨0, 0, [], ?_⟩⟩
        refine EvN.mono (ev_fn Go.Proofs.Try.f37 (d + 3000) (by kernel_rfl) (by kernel_rfl) fun kk hkk => ?_) (by omega)
        have hj := (List.getElem?_eq_some_iff.1 h1).1
        rw [Pt.d_eq]
        refine develop_ret kk _ _ _ ((t.kids.take j).map fun x => (devT x).d) (hred kk hkk) ?_
        refine loopAt_range (fun i => hd55 t.kd t.num (t.kids.map Pt.d) ((t.kids.take i).map fun x => (devT x).d) i) j (by omega) (fun i hi m s K hs hn => ?_) (fun m s K hs hK => ?_) (by simp)
        · obtain ⟨y, h4, h5, h6⟩ := kid_at (ks := t.kids) (i := i) (by omega)
          have hto : ((i : Int)).toNat = i := by simp
          obtain ⟨r, hr⟩ := Option.isSome_iff_exists.1 (h3 i y hi h4)
          have hev := (ev_develop d y (hkids y h5).1 (hkids y h5).2).1 r hr kk (by omega)
          rw [Pt.d_eq y, Pt.d_eq r] at hev
          refine develop_go kk m t.kd t.num _ _ _ y.kd y.num _ _ _ _ hs (decide_eq_true (by simp; omega)) ⟨⟨by omega, by simp; omega⟩, by rw [hto]; exact h6⟩ hev (by simp; omega) fun s' hs' => hn s' ?_
          have hstep : ((t.kids.take (i + 1)).map fun x => (devT x).d) = ((t.kids.take i).map fun x => (devT x).d) ++ [T r.kd r.num (r.kids.map Pt.d)] := by
            rw [List.take_add_one, h4, ← Pt.d_eq, List.map_append]
            simp [devT_eq hr]
          rw [hs', w64_eq (n := (i : Int) + 1) (by omega)]
          simp only [hd55, hstep]
          rfl
        · obtain ⟨y, h4, h5, h6⟩ := kid_at (ks := t.kids) (i := j) hj
          rw [h1] at h4
          cases h4
          have hto : ((j : Int)).toNat = j := by simp
          have hdn : dev x = none := by cases hdx : dev x with
            | none => rfl
            | some r => rw [hdx] at h2; cases h2
          obtain ⟨k', n', ds', hev⟩ := (ev_develop d x (hkids x h5).1 (hkids x h5).2).2 hdn
          have hev := hev kk (by omega)
          rw [Pt.d_eq x] at hev
          exact develop_bad kk m t.kd t.num _ _ _ x.kd x.num _ _ _ _ hs (decide_eq_true (by simp; omega)) ⟨⟨by omega, by simp; omega⟩, by rw [hto]; exact h6⟩ hev hK
      | true =>
        have hsome : ∀ x ∈ t.kids, (dev x).isSome = true := fun x hx => (List.all_eq_true.1 hall) x hx
        have hgood : ∀ x ∈ t.kids, (devT x).good = true := fun x hx => by
          obtain ⟨r, hr⟩ := Option.isSome_iff_exists.1 (hsome x hx)
          rw [devT_eq hr]
          exact dev_good hr
        have hov := over_small (g := devT) hgood
        rw [dev_all hsome, hr, if_neg (by intro h; cases h)]
        have hrun : ∀ kk, d + 3000 ≤ kk → runFn cfg kk (den cfg kk) 37 Go.Proofs.Try.f37 [.dat t.d] [] [] = some ([.dat (t.over devT).d, .dat (B (t.over devT).good)], [], []) := fun kk hkk => by
          have h2 := ev_good_b true (t.over devT) (by omega) 41 (by omega) kk (by omega)
          unfold Pt.db at h2
          rw [over_kd, over_num] at h2
          rw [Pt.d_eq t, Pt.d_eq (t.over devT), over_kd, over_num]
          refine develop_no kk t.kd t.num _ _ _ (hred kk hkk) ?_ h2
          refine loopAt_range (fun i => hd55 t.kd t.num (t.kids.map Pt.d) ((t.kids.take i).map fun x => (devT x).d) i) t.kids.length (by omega) (fun i hi m s K hs hn => ?_) (fun m s K hs hK => ?_) (by simp)
          · obtain ⟨y, h4, h5, h6⟩ := kid_at (ks := t.kids) (i := i) (by omega)
            have hto : ((i : Int)).toNat = i := by simp
            obtain ⟨r, hr⟩ := Option.isSome_iff_exists.1 (hsome y h5)
            have hev := (ev_develop d y (hkids y h5).1 (hkids y h5).2).1 r hr kk (by omega)
            rw [Pt.d_eq y, Pt.d_eq r] at hev
            refine develop_go kk m t.kd t.num _ _ _ y.kd y.num _ _ _ _ hs (decide_eq_true (by simp; omega)) ⟨⟨by omega, by simp; omega⟩, by rw [hto]; exact h6⟩ hev (by simp; omega) fun s' hs' => hn s' ?_
            have hstep : ((t.kids.take (i + 1)).map fun x => (devT x).d) = ((t.kids.take i).map fun x => (devT x).d) ++ [T r.kd r.num (r.kids.map Pt.d)] := by
              rw [List.take_add_one, h4, ← Pt.d_eq, List.map_append]
              simp [devT_eq hr]
            rw [hs', w64_eq (n := (i : Int) + 1) (by omega)]
            simp only [hd55, hstep]
            rfl
          · have hs' : s.norm _ = hd55 t.kd t.num (t.kids.map Pt.d) ((t.kids.take t.kids.length).map fun x => (devT x).d) t.kids.length := hs
            rw [List.take_length] at hs'
            refine develop_end kk m t.kd t.num _ _ _ hs' (decide_eq_false (by simp)) ?_
            rw [over_kids, List.map_map] at hK
            exact hK
        unfold fine
        cases hg : (t.over devT).good with
        | true =>
          rw [if_pos rfl]
          rw [hg] at hrun
          refine ⟨fun r h => ?_, fun h => (by cases h)⟩
          cases h
          exact EvN.mono (ev_fn Go.Proofs.Try.f37 (d + 3000) (by kernel_rfl) (by kernel_rfl) hrun) (by omega)
        | false =>
          rw [if_neg (by intro h; cases h)]
          rw [hg] at hrun
          refine ⟨fun r h => (by cases h), fun _ => ⟨(t.over devT).kd, (t.over devT).num, (t.over devT).kids.map Pt.d, ?_⟩⟩
          rw [← Pt.d_eq]
          exact EvN.mono (ev_fn Go.Proofs.Try.f37 (d + 3000) (by kernel_rfl) (by kernel_rfl) hrun) (by omega)
def devN (L : List Nd) : List Nd × Bool :=
  match termOfP L with
  | some t => match dev t with | some r => (r.flat 0 (-1), true) | none => ([], false)
  | none => ([], false)
theorem ev_iDev (L : List Nd) (b : Bool) (hL : L.length ≤ 1048576) : EvN 4000 12 [.dat (.lst b (L.map Nd.d))] [] [] ([.own 56 ((devN L).1.map Nd.d), .dat (B (devN L).2)], [], []) := by
  refine (ev_fn Go.Proofs.Try.f12 3900 (by kernel_rfl) (by kernel_rfl) fun kk hkk => ?_).mono (by omega)
  obtain ⟨hy, hn⟩ := ev_termOf L b hL
  unfold devN
  cases h1 : termOfP L with
  | none =>
    obtain ⟨k1, n1, d1, e1⟩ := hn h1
    exact iDevelop_no1 kk b _ _ _ _ (e1 kk (by omega))
  | some t =>
    have a1 := hy t h1 kk (by omega)
    have hg := good_facts ((termOfP_iff L t).1 h1).1
    obtain ⟨dy, dn⟩ := ev_develop 40 t hg.2.1 hg.2.2
    simp only
    cases h2 : dev t with
    | none =>
      obtain ⟨k2, n2, d2, e2⟩ := dn h2
      have a2 := e2 kk (by omega)
      rw [Pt.d_eq] at a1 a2
      exact iDevelop_no2 kk b _ _ _ _ _ _ _ a1 a2
    | some r =>
      have a2 := dy r h2 kk (by omega)
      have hgr := good_small (dev_good h2)
      have a3 := ev_nodes r (by omega) kk (by omega)
      rw [Pt.d_eq t] at a1
      rw [Pt.d_eq t, Pt.d_eq r] at a2
      rw [Pt.d_eq r] at a3
      exact iDevelop_go kk b _ _ _ _ _ _ _ _ a1 a2 a3
end Go.Den
namespace Go.Den
open Go
set_option linter.unusedVariables false
set_option maxRecDepth 100000
def hd58 (b : Bool) (es : List Dat) (out : List Dat) (i : Int) : St := Nm [0, 3, 6, 7, 8] [.dat (.lst b es), .own 3 out, .dat (.lst b es), .dat (I es.length), .dat (I i)] [none, none, none, none, none] [] []
theorem lcRedexes_no (kk m : Nat) {s : St} {K : X → St → Prop} (b : Bool) (es : List Dat) (out : List Dat) (i k n u : Int) (hs : s.norm ((envOf cfg kk 66 Go.Proofs.Try.f66).live (firstRegion (lp Go.Proofs.Try.f66 3))) = hd58 b es out i) (h1 : decide (i < (es.length : Int)) = true) (h2 : (0 ≤ i ∧ i < (es.length : Int)) ∧ es[i.toNat]? = some (N3 k n u)) (h3 : decide (k = 3) = false) (hn : ∀ s : St, s.norm ((envOf cfg kk 66 Go.Proofs.Try.f66).live (firstRegion (lp Go.Proofs.Try.f66 3))) = Nm [0, 3, 6, 7, 8] [D.dat (Dat.lst b es), D.own 3 out, D.dat (Dat.lst b es), D.dat (I (es.length : Int)), D.dat (I (w64 (i + 1)))] [none, none, none, none, none] [] [] → Rounds (envOf cfg kk 66 Go.Proofs.Try.f66) kk (lp Go.Proofs.Try.f66 3) m s K) : Rounds (envOf cfg kk 66 Go.Proofs.Try.f66) kk (lp Go.Proofs.Try.f66 3) (m + 1) s K :=
  rounds_go [(200009, .yes), (11, .at (N3 k n u)), (200016, .no)] hs (by kernel_rfl) (ob h1 (ob h2 (ob h3 (ob (rfl : false = false) (ob (rfl : false = false) (ob (rfl : false = false) (ob (rfl : false = false) (ob (rfl : false = false) (ob (rfl : false = false) ob0))))))))) (by kernel_rfl) hn
theorem lcRedexes_var (kk m : Nat) {s : St} {K : X → St → Prop} (b : Bool) (es : List Dat) (out : List Dat) (i k n u : Int) (k2 n2 u2 : Int) (hs : s.norm ((envOf cfg kk 66 Go.Proofs.Try.f66).live (firstRegion (lp Go.Proofs.Try.f66 3))) = hd58 b es out i) (h1 : decide (i < (es.length : Int)) = true) (h2 : (0 ≤ i ∧ i < (es.length : Int)) ∧ es[i.toNat]? = some (N3 k n u)) (h3 : decide (k = 3) = true) (h7 : (0 ≤ w64 (i + 1) ∧ w64 (i + 1) < (es.length : Int)) ∧ es[(w64 (i + 1)).toNat]? = some (N3 k2 n2 u2)) (h11 : decide (k2 = 2) = false) (hn : ∀ s : St, s.norm ((envOf cfg kk 66 Go.Proofs.Try.f66).live (firstRegion (lp Go.Proofs.Try.f66 3))) = Nm [0, 3, 6, 7, 8] [D.dat (Dat.lst b es), D.own 3 out, D.dat (Dat.lst b es), D.dat (I (es.length : Int)), D.dat (I (w64 (i + 1)))] [none, none, none, none, none] [] [] → Rounds (envOf cfg kk 66 Go.Proofs.Try.f66) kk (lp Go.Proofs.Try.f66 3) m s K) : Rounds (envOf cfg kk 66 Go.Proofs.Try.f66) kk (lp Go.Proofs.Try.f66 3) (m + 1) s K :=
  rounds_go [(200009, .yes), (11, .at (N3 k n u)), (200016, .yes), (20, .at (N3 k2 n2 u2)), (200024, .no)] hs (by kernel_rfl) (ob h1 (ob h2 (ob h3 (ob (rfl : true = true) (ob (rfl : true = true) (ob (rfl : true = true) (ob h7 (ob (rfl : true = true) (ob (rfl : true = true) (ob (rfl : true = true) (ob h11 ob0))))))))))) (by kernel_rfl) hn
theorem lcRedexes_hit (kk m : Nat) {s : St} {K : X → St → Prop} (b : Bool) (es : List Dat) (out : List Dat) (i k n u : Int) (k2 n2 u2 : Int) (hs : s.norm ((envOf cfg kk 66 Go.Proofs.Try.f66).live (firstRegion (lp Go.Proofs.Try.f66 3))) = hd58 b es out i) (h1 : decide (i < (es.length : Int)) = true) (h2 : (0 ≤ i ∧ i < (es.length : Int)) ∧ es[i.toNat]? = some (N3 k n u)) (h3 : decide (k = 3) = true) (h7 : (0 ≤ w64 (i + 1) ∧ w64 (i + 1) < (es.length : Int)) ∧ es[(w64 (i + 1)).toNat]? = some (N3 k2 n2 u2)) (h11 : decide (k2 = 2) = true) (h12 : out.length + 1 ≤ 2147483648) (hn : ∀ s : St, s.norm ((envOf cfg kk 66 Go.Proofs.Try.f66).live (firstRegion (lp Go.Proofs.Try.f66 3))) = Nm [0, 3, 6, 7, 8] [D.dat (Dat.lst b es), D.own 3 (out ++ [I i]), D.dat (Dat.lst b es), D.dat (I (es.length : Int)), D.dat (I (w64 (i + 1)))] [none, none, none, none, none] [] [] → Rounds (envOf cfg kk 66 Go.Proofs.Try.f66) kk (lp Go.Proofs.Try.f66 3) m s K) : Rounds (envOf cfg kk 66 Go.Proofs.Try.f66) kk (lp Go.Proofs.Try.f66 3) (m + 1) s K :=
  rounds_go [(200009, .yes), (11, .at (N3 k n u)), (200016, .yes), (20, .at (N3 k2 n2 u2)), (200024, .yes), (28, .ok)] hs (by kernel_rfl) (ob h1 (ob h2 (ob h3 (ob (rfl : true = true) (ob (rfl : true = true) (ob (rfl : true = true) (ob h7 (ob (rfl : true = true) (ob (rfl : true = true) (ob (rfl : true = true) (ob h11 (ob (obT h12) ob0)))))))))))) (by kernel_rfl) hn
theorem lcRedexes_end (kk m : Nat) {s : St} {K : X → St → Prop} (b : Bool) (es : List Dat) (out : List Dat) (i : Int) (hs : s.norm ((envOf cfg kk 66 Go.Proofs.Try.f66).live (firstRegion (lp Go.Proofs.Try.f66 3))) = hd58 b es out i) (h1 : decide (i < (es.length : Int)) = false) (hK : K (X.exit 0) (Nm [3] [D.own 3 out] [none] [] [])) : Rounds (envOf cfg kk 66 Go.Proofs.Try.f66) kk (lp Go.Proofs.Try.f66 3) (m + 1) s K :=
  rounds_end [(200009, .no)] hs (by kernel_rfl) rfl (ob h1 ob0) (by kernel_rfl) hK
theorem lcRedexes (kk : Nat) (b : Bool) (es : List Dat) (out : List Dat) (h2 : LoopAt cfg kk 66 Go.Proofs.Try.f66 3 (hd58 b es [] 0) (X.exit 0) (Nm [3] [D.own 3 out] [none] [] [])) : runFn cfg kk (den cfg kk) 66 Go.Proofs.Try.f66 [.dat (Dat.lst b es)] [] [] = some ([D.own 3 out], [], []) :=
  hrun_ok [(300003, .loop (hd58 b es [] 0) (.exit 0) (Nm [3] [.own 3 out] [none] [] []))] (ob (rfl : _ = hd58 b es [] 0) (ob h2 ob0)) (by kernel_rfl)
def hd59 (kk0 k n : Int) (ps out : List Dat) (i : Int) : St := Nm [1, 4, 6, 21, 22, 23] [.dat (I kk0), .ptr (.loc 4) 0, .ptr (.loc 6) 0, .dat (.lst false ps), .dat (I ps.length), .dat (I i)] [none, some [.dat (I 0), .dat (I 0), .own 71 []], some [.dat (I k), .dat (I n), .own 71 out], none, none, none] [] []
theorem lcAt_in (kk m : Nat) {s : St} {K : X → St → Prop} (kk0 k n : Int) (ps out : List Dat) (i : Int) (kx nx ky ny left : Int) (dx dy : List Dat) (hs : s.norm ((envOf cfg kk 67 Go.Proofs.Try.f67).live (firstRegion (lp Go.Proofs.Try.f67 6))) = hd59 kk0 k n ps out i) (h1 : decide (i < (ps.length : Int)) = true) (h2 : (0 ≤ i ∧ i < (ps.length : Int)) ∧ ps[i.toNat]? = some (T kx nx dx)) (h3 : decide (0 ≤ kk0) = true) (h4 : den cfg kk 67 [D.dat (T kx nx dx), D.dat (I kk0)] [] [] = some ([D.dat (T ky ny dy), D.dat (I left)], [], [])) (h5 : out.length + 1 ≤ 2147483648) (hn : ∀ s : St, s.norm ((envOf cfg kk 67 Go.Proofs.Try.f67).live (firstRegion (lp Go.Proofs.Try.f67 6))) = Nm [1, 4, 6, 21, 22, 23] [D.dat (I left), D.ptr (Ref.loc 4) 0, D.ptr (Ref.loc 6) 0, D.dat (Dat.lst false ps), D.dat (I (ps.length : Int)), D.dat (I (w64 (i + 1)))] [none, some [D.dat (I 0), D.dat (I 0), D.own 71 []], some [D.dat (I k), D.dat (I n), D.own 71 (out ++ [T ky ny dy])], none, none, none] [] [] → Rounds (envOf cfg kk 67 Go.Proofs.Try.f67) kk (lp Go.Proofs.Try.f67 6) m s K) : Rounds (envOf cfg kk 67 Go.Proofs.Try.f67) kk (lp Go.Proofs.Try.f67 6) (m + 1) s K :=
  rounds_go [(200024, .yes), (25, .at (T kx nx dx)), (200028, .yes), (32, .ret [.dat (T ky ny dy), .dat (I left)]), (39, .ok)] hs (by kernel_rfl) (ob h1 (ob h2 (ob h3 (ob h4 (ob (obT h5) ob0))))) (by kernel_rfl) hn
theorem lcAt_past (kk m : Nat) {s : St} {K : X → St → Prop} (kk0 k n : Int) (ps out : List Dat) (i : Int) (kx nx : Int) (dx : List Dat) (hs : s.norm ((envOf cfg kk 67 Go.Proofs.Try.f67).live (firstRegion (lp Go.Proofs.Try.f67 6))) = hd59 kk0 k n ps out i) (h1 : decide (i < (ps.length : Int)) = true) (h2 : (0 ≤ i ∧ i < (ps.length : Int)) ∧ ps[i.toNat]? = some (T kx nx dx)) (h3 : decide (0 ≤ kk0) = false) (h4 : out.length + 1 ≤ 2147483648) (hn : ∀ s : St, s.norm ((envOf cfg kk 67 Go.Proofs.Try.f67).live (firstRegion (lp Go.Proofs.Try.f67 6))) = Nm [1, 4, 6, 21, 22, 23] [D.dat (I kk0), D.ptr (Ref.loc 4) 0, D.ptr (Ref.loc 6) 0, D.dat (Dat.lst false ps), D.dat (I (ps.length : Int)), D.dat (I (w64 (i + 1)))] [none, some [D.dat (I 0), D.dat (I 0), D.own 71 []], some [D.dat (I k), D.dat (I n), D.own 71 (out ++ [T kx nx dx])], none, none, none] [] [] → Rounds (envOf cfg kk 67 Go.Proofs.Try.f67) kk (lp Go.Proofs.Try.f67 6) m s K) : Rounds (envOf cfg kk 67 Go.Proofs.Try.f67) kk (lp Go.Proofs.Try.f67 6) (m + 1) s K :=
  rounds_go [(200024, .yes), (25, .at (T kx nx dx)), (200028, .no), (39, .ok)] hs (by kernel_rfl) (ob h1 (ob h2 (ob h3 (ob (obT h4) ob0)))) (by kernel_rfl) hn
theorem lcAt_end (kk m : Nat) {s : St} {K : X → St → Prop} (kk0 k n : Int) (ps out : List Dat) (i : Int) (hs : s.norm ((envOf cfg kk 67 Go.Proofs.Try.f67).live (firstRegion (lp Go.Proofs.Try.f67 6))) = hd59 kk0 k n ps out i) (h1 : decide (i < (ps.length : Int)) = false) (hK : K (X.exit 0) (Nm [1, 4, 6] [D.dat (I kk0), D.ptr (Ref.loc 4) 0, D.ptr (Ref.loc 6) 0] [none, some [D.dat (I 0), D.dat (I 0), D.own 71 []], some [D.dat (I k), D.dat (I n), D.own 71 out]] [] [])) : Rounds (envOf cfg kk 67 Go.Proofs.Try.f67) kk (lp Go.Proofs.Try.f67 6) (m + 1) s K :=
  rounds_end [(200024, .no)] hs (by kernel_rfl) rfl (ob h1 ob0) (by kernel_rfl) hK
theorem lcAt_here (kk : Nat) (kk0 k n kr nr : Int) (ps dr : List Dat) (h1 : decide (kk0 = 0) = true) (h2 : den cfg kk 98 [D.dat (T k n ps)] [] [] = some ([D.dat (T kr nr dr)], [], [])) : runFn cfg kk (den cfg kk) 67 Go.Proofs.Try.f67 [.dat (T k n ps), .dat (I kk0)] [] [] = some ([D.dat (T kr nr dr), D.dat (I (-1))], [], []) :=
  hrun_ok [(200010, .yes), (12, .ret [.dat (T kr nr dr)])] (ob h1 (ob h2 ob0)) (by kernel_rfl)
theorem lcAt (kk : Nat) (kk0 k n left : Int) (ps out : List Dat) (h1 : decide (kk0 = 0) = false) (h3 : LoopAt cfg kk 67 Go.Proofs.Try.f67 6 (hd59 (w64 (kk0 - 1)) k n ps [] 0) (X.exit 0) (Nm [1, 4, 6] [D.dat (I left), D.ptr (Ref.loc 4) 0, D.ptr (Ref.loc 6) 0] [none, some [D.dat (I 0), D.dat (I 0), D.own 71 []], some [D.dat (I k), D.dat (I n), D.own 71 out]] [] [])) : runFn cfg kk (den cfg kk) 67 Go.Proofs.Try.f67 [.dat (T k n ps), .dat (I kk0)] [] [] = some ([D.dat (T k n out), D.dat (I left)], [], []) :=
  hrun_ok [(200010, .no), (300006, .loop (hd59 (w64 (kk0 - 1)) k n ps [] 0) (.exit 0) (Nm [1, 4, 6] [.dat (I left), .ptr (.loc 4) 0, .ptr (.loc 6) 0] [none, some [.dat (I 0), .dat (I 0), .own 71 []], some [.dat (I k), .dat (I n), .own 71 out]] [] []))] (ob h1 (ob (rfl : _ = hd59 (w64 (kk0 - 1)) k n ps [] 0) (ob h3 ob0))) (by kernel_rfl)
theorem containsI (kk : Nat) (b : Bool) (es : List Dat) (v j : Int) (h1 : den cfg kk 72 [D.dat (Dat.lst b es), D.dat (I v)] [] [] = some ([D.dat (I j)], [], [])) : runFn cfg kk (den cfg kk) 34 Go.Proofs.Try.f34 [.dat (Dat.lst b es), .dat (I v)] [] [] = some ([D.dat (B (decide (0 ≤ j)))], [], []) :=
  hrun_ok [(7, .ret [.dat (I j)])] (ob h1 ob0) (by kernel_rfl)
def hd98 (b : Bool) (es : List Dat) (v i : Int) : St := Nm [0, 1, 7, 8] [.dat (.lst b es), .dat (I v), .dat (I es.length), .dat (I i)] [none, none, none, none] [] []
theorem indexI_go (kk m : Nat) {s : St} {K : X → St → Prop} (b : Bool) (es : List Dat) (v i x : Int) (hs : s.norm ((envOf cfg kk 72 Go.Proofs.Try.f72).live (firstRegion (lp Go.Proofs.Try.f72 2))) = hd98 b es v i) (h1 : decide (i < (es.length : Int)) = true) (h2 : (0 ≤ i ∧ i < (es.length : Int)) ∧ es[i.toNat]? = some (I x)) (h3 : decide (v = x) = false) (hn : ∀ s : St, s.norm ((envOf cfg kk 72 Go.Proofs.Try.f72).live (firstRegion (lp Go.Proofs.Try.f72 2))) = Nm [0, 1, 7, 8] [D.dat (Dat.lst b es), D.dat (I v), D.dat (I (es.length : Int)), D.dat (I (w64 (i + 1)))] [none, none, none, none] [] [] → Rounds (envOf cfg kk 72 Go.Proofs.Try.f72) kk (lp Go.Proofs.Try.f72 2) m s K) : Rounds (envOf cfg kk 72 Go.Proofs.Try.f72) kk (lp Go.Proofs.Try.f72 2) (m + 1) s K :=
  rounds_go [(200009, .yes), (14, .at (I x)), (200016, .no)] hs (by kernel_rfl) (ob h1 (ob h2 (ob h3 ob0))) (by kernel_rfl) hn
theorem indexI_hit (kk m : Nat) {s : St} {K : X → St → Prop} (b : Bool) (es : List Dat) (v i x : Int) (hs : s.norm ((envOf cfg kk 72 Go.Proofs.Try.f72).live (firstRegion (lp Go.Proofs.Try.f72 2))) = hd98 b es v i) (h1 : decide (i < (es.length : Int)) = true) (h2 : (0 ≤ i ∧ i < (es.length : Int)) ∧ es[i.toNat]? = some (I x)) (h3 : decide (v = x) = true) (hK : K (X.ret) (Nm [4] [D.dat (I i)] [none] [] [])) : Rounds (envOf cfg kk 72 Go.Proofs.Try.f72) kk (lp Go.Proofs.Try.f72 2) (m + 1) s K :=
  rounds_end [(200009, .yes), (14, .at (I x)), (200016, .yes)] hs (by kernel_rfl) rfl (ob h1 (ob h2 (ob h3 ob0))) (by kernel_rfl) hK
theorem indexI_end (kk m : Nat) {s : St} {K : X → St → Prop} (b : Bool) (es : List Dat) (v i : Int) (hs : s.norm ((envOf cfg kk 72 Go.Proofs.Try.f72).live (firstRegion (lp Go.Proofs.Try.f72 2))) = hd98 b es v i) (h1 : decide (i < (es.length : Int)) = false) (hK : K (X.exit 0) (Nm [4] [D.junk] [none] [] [])) : Rounds (envOf cfg kk 72 Go.Proofs.Try.f72) kk (lp Go.Proofs.Try.f72 2) (m + 1) s K :=
  rounds_end [(200009, .no)] hs (by kernel_rfl) rfl (ob h1 ob0) (by kernel_rfl) hK
theorem indexI_y (kk : Nat) (b : Bool) (es : List Dat) (v j : Int) (h2 : LoopAt cfg kk 72 Go.Proofs.Try.f72 2 (hd98 b es v 0) X.ret (Nm [4] [D.dat (I j)] [none] [] [])) : runFn cfg kk (den cfg kk) 72 Go.Proofs.Try.f72 [.dat (Dat.lst b es), .dat (I v)] [] [] = some ([D.dat (I j)], [], []) :=
  hrun_ok [(300002, .loop (hd98 b es v 0) .ret (Nm [4] [.dat (I j)] [none] [] []))] (ob (rfl : _ = hd98 b es v 0) (ob h2 ob0)) (by kernel_rfl)
theorem indexI_n (kk : Nat) (b : Bool) (es : List Dat) (v : Int) (h2 : LoopAt cfg kk 72 Go.Proofs.Try.f72 2 (hd98 b es v 0) (X.exit 0) (Nm [4] [D.junk] [none] [] [])) : runFn cfg kk (den cfg kk) 72 Go.Proofs.Try.f72 [.dat (Dat.lst b es), .dat (I v)] [] [] = some ([D.dat (I (-1))], [], []) :=
  hrun_ok [(300002, .loop (hd98 b es v 0) (.exit 0) (Nm [4] [.junk] [none] [] []))] (ob (rfl : _ = hd98 b es v 0) (ob h2 ob0)) (by kernel_rfl)
def hd61 (at_ : Int) (ps out : List Dat) (i : Int) : St := Nm [1, 5, 18, 19, 20] [.dat (I at_), .own 3 out, .dat (.lst false ps), .dat (I ps.length), .dat (I i)] [none, none, none, none, none] [] []
theorem redexes_go (kk m : Nat) {s : St} {K : X → St → Prop} (at_ : Int) (ps out : List Dat) (i : Int) (kx nx z : Int) (dx more : List Dat) (hs : s.norm ((envOf cfg kk 33 Go.Proofs.Try.f33).live (firstRegion (lp Go.Proofs.Try.f33 6))) = hd61 at_ ps out i) (h1 : decide (i < (ps.length : Int)) = true) (h2 : (0 ≤ i ∧ i < (ps.length : Int)) ∧ ps[i.toNat]? = some (T kx nx dx)) (h3 : den cfg kk 33 [D.dat (T kx nx dx), D.dat (I at_)] [] [] = some ([D.own 3 more], [], [])) (h4 : (more.all fun d => d.cells.length.beq 1) = true ∧ out.length + more.length ≤ 2147483648) (h5 : den cfg kk 71 [D.dat (T kx nx dx)] [] [] = some ([D.dat (I z)], [], [])) (hn : ∀ s : St, s.norm ((envOf cfg kk 33 Go.Proofs.Try.f33).live (firstRegion (lp Go.Proofs.Try.f33 6))) = Nm [1, 5, 18, 19, 20] [D.dat (I (w64 (at_ + z))), D.own 3 (out ++ more), D.dat (Dat.lst false ps), D.dat (I (ps.length : Int)), D.dat (I (w64 (i + 1)))] [none, none, none, none, none] [] [] → Rounds (envOf cfg kk 33 Go.Proofs.Try.f33) kk (lp Go.Proofs.Try.f33 6) m s K) : Rounds (envOf cfg kk 33 Go.Proofs.Try.f33) kk (lp Go.Proofs.Try.f33 6) (m + 1) s K :=
  rounds_go [(200021, .yes), (22, .at (T kx nx dx)), (27, .ret [.own 3 more]), (28, .ok), (31, .ret [.dat (I z)])] hs (by kernel_rfl) (ob h1 (ob h2 (ob h3 (ob h4 (ob h5 ob0))))) (by kernel_rfl) hn
theorem redexes_end (kk m : Nat) {s : St} {K : X → St → Prop} (at_ : Int) (ps out : List Dat) (i : Int) (hs : s.norm ((envOf cfg kk 33 Go.Proofs.Try.f33).live (firstRegion (lp Go.Proofs.Try.f33 6))) = hd61 at_ ps out i) (h1 : decide (i < (ps.length : Int)) = false) (hK : K (X.exit 0) (Nm [5] [D.own 3 out] [none] [] [])) : Rounds (envOf cfg kk 33 Go.Proofs.Try.f33) kk (lp Go.Proofs.Try.f33 6) (m + 1) s K :=
  rounds_end [(200021, .no)] hs (by kernel_rfl) rfl (ob h1 ob0) (by kernel_rfl) hK
theorem redexes_y (kk : Nat) (k n at_ : Int) (ps out : List Dat) (at2 : Int) (h1 : den cfg kk 70 [D.dat (T k n ps)] [] [] = some ([D.dat (B true)], [], [])) (h2 : 1 ≤ 2147483648) (h4 : LoopAt cfg kk 33 Go.Proofs.Try.f33 6 (hd61 (w64 (at_ + 1)) ps [I at_] 0) (X.exit 0) (Nm [5] [D.own 3 out] [none] [] [])) : runFn cfg kk (den cfg kk) 33 Go.Proofs.Try.f33 [.dat (T k n ps), .dat (I at_)] [] [] = some ([D.own 3 out], [], []) :=
  hrun_ok [(10, .ret [.dat (B true)]), (14, .ok), (300006, .loop (hd61 (w64 (at_ + 1)) ps [I at_] 0) (.exit 0) (Nm [5] [.own 3 out] [none] [] []))] (ob h1 (ob (obT h2) (ob (rfl : _ = hd61 (w64 (at_ + 1)) ps [I at_] 0) (ob h4 ob0)))) (by kernel_rfl)
theorem redexes_n (kk : Nat) (k n at_ : Int) (ps out : List Dat) (at2 : Int) (h1 : den cfg kk 70 [D.dat (T k n ps)] [] [] = some ([D.dat (B false)], [], [])) (h3 : LoopAt cfg kk 33 Go.Proofs.Try.f33 6 (hd61 (w64 (at_ + 1)) ps [] 0) (X.exit 0) (Nm [5] [D.own 3 out] [none] [] [])) : runFn cfg kk (den cfg kk) 33 Go.Proofs.Try.f33 [.dat (T k n ps), .dat (I at_)] [] [] = some ([D.own 3 out], [], []) :=
  hrun_ok [(10, .ret [.dat (B false)]), (300006, .loop (hd61 (w64 (at_ + 1)) ps [] 0) (.exit 0) (Nm [5] [.own 3 out] [none] [] []))] (ob h1 (ob (rfl : _ = hd61 (w64 (at_ + 1)) ps [] 0) (ob h3 ob0))) (by kernel_rfl)
def hd62 (kk0 k n : Int) (ps out : List Dat) (i : Int) : St := Nm [1, 4, 5, 21, 22, 23] [.dat (I kk0), .ptr (.loc 4) 0, .ptr (.loc 5) 0, .dat (.lst false ps), .dat (I ps.length), .dat (I i)] [none, some [.dat (I 0), .dat (I 0), .own 59 []], some [.dat (I k), .dat (I n), .own 59 out], none, none, none] [] []
theorem reduceAt_in (kk m : Nat) {s : St} {K : X → St → Prop} (kk0 k n : Int) (ps out : List Dat) (i : Int) (kx nx z : Int) (dx : List Dat) (ky ny : Int) (dy : List Dat) (hs : s.norm ((envOf cfg kk 35 Go.Proofs.Try.f35).live (firstRegion (lp Go.Proofs.Try.f35 6))) = hd62 kk0 k n ps out i) (h1 : decide (i < (ps.length : Int)) = true) (h2 : (0 ≤ i ∧ i < (ps.length : Int)) ∧ ps[i.toNat]? = some (T kx nx dx)) (h3 : den cfg kk 71 [D.dat (T kx nx dx)] [] [] = some ([D.dat (I z)], [], [])) (h4 : decide (0 ≤ kk0) = true) (h7 : decide (kk0 < z) = true) (h8 : den cfg kk 35 [D.dat (T kx nx dx), D.dat (I kk0)] [] [] = some ([D.dat (T ky ny dy)], [], [])) (h9 : out.length + 1 ≤ 2147483648) (hn : ∀ s : St, s.norm ((envOf cfg kk 35 Go.Proofs.Try.f35).live (firstRegion (lp Go.Proofs.Try.f35 6))) = Nm [1, 4, 5, 21, 22, 23] [D.dat (I (-1)), D.ptr (Ref.loc 4) 0, D.ptr (Ref.loc 5) 0, D.dat (Dat.lst false ps), D.dat (I (ps.length : Int)), D.dat (I (w64 (i + 1)))] [none, some [D.dat (I 0), D.dat (I 0), D.own 59 []], some [D.dat (I k), D.dat (I n), D.own 59 (out ++ [T ky ny dy])], none, none, none] [] [] → Rounds (envOf cfg kk 35 Go.Proofs.Try.f35) kk (lp Go.Proofs.Try.f35 6) m s K) : Rounds (envOf cfg kk 35 Go.Proofs.Try.f35) kk (lp Go.Proofs.Try.f35 6) (m + 1) s K :=
  rounds_go [(200024, .yes), (25, .at (T kx nx dx)), (28, .ret [.dat (I z)]), (200031, .yes), (200035, .yes), (40, .ret [.dat (T ky ny dy)]), (42, .ok)] hs (by kernel_rfl) (ob h1 (ob h2 (ob h3 (ob h4 (ob (rfl : true = true) (ob (rfl : true = true) (ob h7 (ob h8 (ob (obT h9) ob0))))))))) (by kernel_rfl) hn
theorem reduceAt_on (kk m : Nat) {s : St} {K : X → St → Prop} (kk0 k n : Int) (ps out : List Dat) (i : Int) (kx nx z : Int) (dx : List Dat) (hs : s.norm ((envOf cfg kk 35 Go.Proofs.Try.f35).live (firstRegion (lp Go.Proofs.Try.f35 6))) = hd62 kk0 k n ps out i) (h1 : decide (i < (ps.length : Int)) = true) (h2 : (0 ≤ i ∧ i < (ps.length : Int)) ∧ ps[i.toNat]? = some (T kx nx dx)) (h3 : den cfg kk 71 [D.dat (T kx nx dx)] [] [] = some ([D.dat (I z)], [], [])) (h4 : decide (0 ≤ kk0) = true) (h7 : decide (kk0 < z) = false) (h8 : out.length + 1 ≤ 2147483648) (hn : ∀ s : St, s.norm ((envOf cfg kk 35 Go.Proofs.Try.f35).live (firstRegion (lp Go.Proofs.Try.f35 6))) = Nm [1, 4, 5, 21, 22, 23] [D.dat (I (w64 (kk0 - z))), D.ptr (Ref.loc 4) 0, D.ptr (Ref.loc 5) 0, D.dat (Dat.lst false ps), D.dat (I (ps.length : Int)), D.dat (I (w64 (i + 1)))] [none, some [D.dat (I 0), D.dat (I 0), D.own 59 []], some [D.dat (I k), D.dat (I n), D.own 59 (out ++ [T kx nx dx])], none, none, none] [] [] → Rounds (envOf cfg kk 35 Go.Proofs.Try.f35) kk (lp Go.Proofs.Try.f35 6) m s K) : Rounds (envOf cfg kk 35 Go.Proofs.Try.f35) kk (lp Go.Proofs.Try.f35 6) (m + 1) s K :=
  rounds_go [(200024, .yes), (25, .at (T kx nx dx)), (28, .ret [.dat (I z)]), (200031, .yes), (200035, .no), (48, .ok)] hs (by kernel_rfl) (ob h1 (ob h2 (ob h3 (ob h4 (ob (rfl : true = true) (ob (rfl : true = true) (ob h7 (ob (obT h8) ob0)))))))) (by kernel_rfl) hn
theorem reduceAt_past (kk m : Nat) {s : St} {K : X → St → Prop} (kk0 k n : Int) (ps out : List Dat) (i : Int) (kx nx z : Int) (dx : List Dat) (hs : s.norm ((envOf cfg kk 35 Go.Proofs.Try.f35).live (firstRegion (lp Go.Proofs.Try.f35 6))) = hd62 kk0 k n ps out i) (h1 : decide (i < (ps.length : Int)) = true) (h2 : (0 ≤ i ∧ i < (ps.length : Int)) ∧ ps[i.toNat]? = some (T kx nx dx)) (h3 : den cfg kk 71 [D.dat (T kx nx dx)] [] [] = some ([D.dat (I z)], [], [])) (h4 : decide (0 ≤ kk0) = false) (h7 : out.length + 1 ≤ 2147483648) (hn : ∀ s : St, s.norm ((envOf cfg kk 35 Go.Proofs.Try.f35).live (firstRegion (lp Go.Proofs.Try.f35 6))) = Nm [1, 4, 5, 21, 22, 23] [D.dat (I (w64 (kk0 - z))), D.ptr (Ref.loc 4) 0, D.ptr (Ref.loc 5) 0, D.dat (Dat.lst false ps), D.dat (I (ps.length : Int)), D.dat (I (w64 (i + 1)))] [none, some [D.dat (I 0), D.dat (I 0), D.own 59 []], some [D.dat (I k), D.dat (I n), D.own 59 (out ++ [T kx nx dx])], none, none, none] [] [] → Rounds (envOf cfg kk 35 Go.Proofs.Try.f35) kk (lp Go.Proofs.Try.f35 6) m s K) : Rounds (envOf cfg kk 35 Go.Proofs.Try.f35) kk (lp Go.Proofs.Try.f35 6) (m + 1) s K :=
  rounds_go [(200024, .yes), (25, .at (T kx nx dx)), (28, .ret [.dat (I z)]), (200031, .no), (48, .ok)] hs (by kernel_rfl) (ob h1 (ob h2 (ob h3 (ob h4 (ob (rfl : false = false) (ob (rfl : false = false) (ob (obT h7) ob0))))))) (by kernel_rfl) hn
theorem reduceAt_end (kk m : Nat) {s : St} {K : X → St → Prop} (kk0 k n : Int) (ps out : List Dat) (i : Int) (hs : s.norm ((envOf cfg kk 35 Go.Proofs.Try.f35).live (firstRegion (lp Go.Proofs.Try.f35 6))) = hd62 kk0 k n ps out i) (h1 : decide (i < (ps.length : Int)) = false) (hK : K (X.exit 0) (Nm [4, 5] [D.ptr (Ref.loc 4) 0, D.ptr (Ref.loc 5) 0] [some [D.dat (I 0), D.dat (I 0), D.own 59 []], some [D.dat (I k), D.dat (I n), D.own 59 out]] [] [])) : Rounds (envOf cfg kk 35 Go.Proofs.Try.f35) kk (lp Go.Proofs.Try.f35 6) (m + 1) s K :=
  rounds_end [(200024, .no)] hs (by kernel_rfl) rfl (ob h1 ob0) (by kernel_rfl) hK
theorem reduceAt_here (kk : Nat) (kk0 k n kr nr : Int) (ps dr : List Dat) (h1 : decide (kk0 = 0) = true) (h2 : den cfg kk 73 [D.dat (T k n ps)] [] [] = some ([D.dat (T kr nr dr)], [], [])) : runFn cfg kk (den cfg kk) 35 Go.Proofs.Try.f35 [.dat (T k n ps), .dat (I kk0)] [] [] = some ([D.dat (T kr nr dr)], [], []) :=
  hrun_ok [(200010, .yes), (12, .ret [.dat (T kr nr dr)])] (ob h1 (ob h2 ob0)) (by kernel_rfl)
theorem reduceAt (kk : Nat) (kk0 k n : Int) (ps out : List Dat) (h1 : decide (kk0 = 0) = false) (h3 : LoopAt cfg kk 35 Go.Proofs.Try.f35 6 (hd62 (w64 (kk0 - 1)) k n ps [] 0) (X.exit 0) (Nm [4, 5] [D.ptr (Ref.loc 4) 0, D.ptr (Ref.loc 5) 0] [some [D.dat (I 0), D.dat (I 0), D.own 59 []], some [D.dat (I k), D.dat (I n), D.own 59 out]] [] [])) : runFn cfg kk (den cfg kk) 35 Go.Proofs.Try.f35 [.dat (T k n ps), .dat (I kk0)] [] [] = some ([D.dat (T k n out)], [], []) :=
  hrun_ok [(200010, .no), (300006, .loop (hd62 (w64 (kk0 - 1)) k n ps [] 0) (.exit 0) (Nm [4, 5] [.ptr (.loc 4) 0, .ptr (.loc 5) 0] [some [.dat (I 0), .dat (I 0), .own 59 []], some [.dat (I k), .dat (I n), .own 59 out]] [] []))] (ob h1 (ob (rfl : _ = hd62 (w64 (kk0 - 1)) k n ps [] 0) (ob h3 ob0))) (by kernel_rfl)
theorem iReduceAt_no1 (kk : Nat) (b : Bool) (es : List Dat) (v : Int) (k n : Int) (d : List Dat) (h1 : den cfg kk 32 [D.dat (Dat.lst b es)] [] [] = some ([D.dat (T k n d), D.dat (B false)], [], [])) : runFn cfg kk (den cfg kk) 11 Go.Proofs.Try.f11 [.dat (Dat.lst b es), .dat (I v)] [] [] = some ([D.own 56 [], D.dat (B false)], [], []) :=
  hrun_ok [(10, .ret [.dat (T k n d), .dat (B false)])] (ob h1 ob0) (by kernel_rfl)
theorem iReduceAt_no2 (kk : Nat) (b : Bool) (es : List Dat) (v : Int) (k n : Int) (d rs : List Dat) (h1 : den cfg kk 32 [D.dat (Dat.lst b es)] [] [] = some ([D.dat (T k n d), D.dat (B true)], [], [])) (h2 : den cfg kk 33 [D.dat (T k n d), D.dat (I 0)] [] [] = some ([D.own 3 rs], [], [])) (h4 : den cfg kk 34 [D.dat (Dat.lst true rs), D.dat (I v)] [] [] = some ([D.dat (B false)], [], [])) : runFn cfg kk (den cfg kk) 11 Go.Proofs.Try.f11 [.dat (Dat.lst b es), .dat (I v)] [] [] = some ([D.own 56 [], D.dat (B false)], [], []) :=
  hrun_ok [(10, .ret [.dat (T k n d), .dat (B true)]), (17, .ret [.own 3 rs]), (19, .ret [.dat (B false)])] (ob h1 (ob h2 (ob (rfl : true = true) (ob h4 ob0)))) (by kernel_rfl)
theorem iReduceAt_go (kk : Nat) (b : Bool) (es : List Dat) (v : Int) (k n k2 n2 : Int) (d d2 rs out : List Dat) (r : Bool) (h1 : den cfg kk 32 [D.dat (Dat.lst b es)] [] [] = some ([D.dat (T k n d), D.dat (B true)], [], [])) (h2 : den cfg kk 33 [D.dat (T k n d), D.dat (I 0)] [] [] = some ([D.own 3 rs], [], [])) (h4 : den cfg kk 34 [D.dat (Dat.lst true rs), D.dat (I v)] [] [] = some ([D.dat (B true)], [], [])) (h5 : den cfg kk 35 [D.dat (T k n d), D.dat (I v)] [] [] = some ([D.dat (T k2 n2 d2)], [], [])) (h6 : den cfg kk 36 [D.dat (T k2 n2 d2)] [] [] = some ([D.own 56 out, D.dat (B r)], [], [])) : runFn cfg kk (den cfg kk) 11 Go.Proofs.Try.f11 [.dat (Dat.lst b es), .dat (I v)] [] [] = some ([D.own 56 out, D.dat (B r)], [], []) :=
  hrun_ok [(10, .ret [.dat (T k n d), .dat (B true)]), (17, .ret [.own 3 rs]), (19, .ret [.dat (B true)]), (24, .ret [.dat (T k2 n2 d2)]), (25, .ret [.own 56 out, .dat (B r)])] (ob h1 (ob h2 (ob (rfl : true = true) (ob h4 (ob h5 (ob h6 ob0)))))) (by kernel_rfl)
end Go.Den
namespace Go.Den
open Go
set_option linter.unusedVariables false
set_option maxRecDepth 100000
/-- The places of a term's redexes. -/
def rx : Pt → Nat → List Nat
  | .var _, _ => []
  | .lam _ x, at_ => rx x (at_ + 1)
  | .app _ a c, at_ => (if a.kd = 2 then [at_] else []) ++ (rx a (at_ + 1) ++ rx c (at_ + 1 + a.size))
/-- Whether the node of a number is a redex. -/
def rxAt : Pt → Nat → Bool
  | t, 0 => t.isRedex
  | .var _, _ + 1 => false
  | .lam _ x, k + 1 => rxAt x k
  | .app _ a c, k + 1 => if k < a.size then rxAt a k else rxAt c (k - a.size)
theorem rx_range : ∀ (t : Pt) (at_ q : Nat), q ∈ rx t at_ → at_ ≤ q ∧ q < at_ + t.size ∧ rxAt t (q - at_) = true
  | .var n, at_, q, h => by simp [rx] at h
  | .lam n x, at_, q, h => by
    obtain ⟨h1, h2, h3⟩ := rx_range x (at_ + 1) q h
    refine ⟨by omega, by simp only [Pt.size]; omega, ?_⟩
    rw [show q - at_ = (q - (at_ + 1)) + 1 by omega]
    exact h3
  | .app n a c, at_, q, h => by
    simp only [rx, List.mem_append] at h
    rcases h with h | h | h
    · split at h
      · rename_i hk
        rw [List.mem_singleton] at h
        subst h
        refine ⟨by omega, by simp only [Pt.size]; omega, ?_⟩
        rw [Nat.sub_self]
        exact decide_eq_true hk
      · cases h
    · obtain ⟨h1, h2, h3⟩ := rx_range a (at_ + 1) q h
      refine ⟨by omega, by simp only [Pt.size]; omega, ?_⟩
      rw [show q - at_ = (q - (at_ + 1)) + 1 by omega]
      simp only [rxAt]
      rw [if_pos (by omega)]
      exact h3
    · obtain ⟨h1, h2, h3⟩ := rx_range c (at_ + 1 + a.size) q h
      refine ⟨by omega, by simp only [Pt.size]; omega, ?_⟩
      rw [show q - at_ = (q - (at_ + 1)) + 1 by omega]
      simp only [rxAt]
      rw [if_neg (by omega), show q - (at_ + 1) - a.size = q - (at_ + 1 + a.size) by omega]
      exact h3
theorem rx_length : ∀ (t : Pt) (at_ : Nat), (rx t at_).length ≤ t.size
  | .var n, at_ => by simp [rx]
  | .lam n x, at_ => by have := rx_length x (at_ + 1); simp only [rx, Pt.size]; omega
  | .app n a c, at_ => by
    have h1 := rx_length a (at_ + 1)
    have h2 := rx_length c (at_ + 1 + a.size)
    simp only [rx, Pt.size, List.length_append]
    split <;> simp only [List.length_cons, List.length_nil] <;> omega
/-- Whether a number is among places. -/
def hasI (rs : List Nat) (v : Int) : Bool := rs.any fun q => decide ((q : Int) = v)
theorem hasI_mem {rs : List Nat} {v : Int} (h : hasI rs v = true) : ∃ q : Nat, v = q ∧ q ∈ rs := by
  obtain ⟨q, h1, h2⟩ := List.any_eq_true.1 h
  exact ⟨q, (of_decide_eq_true h2).symm, h1⟩
def isR (L : List Nd) (i : Nat) : Bool := match L[i]?, L[i + 1]? with | some x, some y => decide (x.k = 3) && decide (y.k = 2) | _, _ => false
theorem seg_rx {L : List Nd} : ∀ (t : Pt) (at_ : Nat) (up : Int) (rest : List Nd), L.drop at_ = t.flat at_ up ++ rest → (List.range' at_ t.size).filter (isR L) = rx t at_
  | .var n, at_, up, rest, h => by
    have h1 := seg_root h
    simp only [Pt.size, List.range'_one, rx, List.filter_cons, List.filter_nil]
    rw [if_neg]
    simp [isR, h1, Pt.kd]
    cases L[at_ + 1]? <;> simp
  | .lam n x, at_, up, rest, h => by
    have h1 := seg_root h
    have ih := seg_rx x _ _ _ (seg_lam h)
    simp only [Pt.size, rx]
    rw [Nat.add_comm 1, List.range'_succ, List.filter_cons, if_neg, ih]
    simp [isR, h1, Pt.kd]
    cases L[at_ + 1]? <;> simp
  | .app n a c, at_, up, rest, h => by
    have h1 := seg_root h
    have hs := seg_app h
    have h2 := seg_root hs.1
    have ih1 := seg_rx a _ _ _ hs.1
    have ih2 := seg_rx c _ _ _ hs.2
    simp only [Pt.size, rx]
    rw [show 1 + a.size + c.size = (a.size + c.size) + 1 by omega, List.range'_succ, ← List.range'_append_1, List.filter_cons, List.filter_append, ih1, ih2]
    have hd : isR L at_ = decide (a.kd = 2) := by
      simp only [isR, h1, h2]
      exact Bool.true_and _
    rw [hd]
    by_cases hk : a.kd = 2
    · simp [hk]
    · simp [hk]
theorem seg_next {L : List Nd} : ∀ (t : Pt) (at_ : Nat) (up : Int) (rest : List Nd), L.drop at_ = t.flat at_ up ++ rest → ∀ q x, at_ ≤ q → q < at_ + t.size → L[q]? = some x → x.k = 3 → q + 1 < at_ + t.size
  | .var n, at_, up, rest, h, q, x, h1, h2, hx, hk => by
    rcases seg_get h h1 h2 hx with ⟨rfl, rfl⟩ | ⟨h4, _, _⟩
    · simp [Pt.kd] at hk
    · simp only [Pt.size] at h2; omega
  | .lam n t, at_, up, rest, h, q, x, h1, h2, hx, hk => by
    rcases seg_get h h1 h2 hx with ⟨rfl, rfl⟩ | ⟨h4, _, _⟩
    · simp [Pt.kd] at hk
    · simp only [Pt.size] at h2 ⊢
      have := seg_next t _ _ _ (seg_lam h) q x (by omega) (by omega) hx hk
      omega
  | .app n a c, at_, up, rest, h, q, x, h1, h2, hx, hk => by
    have hs := seg_app h
    have hp := a.size_pos
    have hp2 := c.size_pos
    simp only [Pt.size] at h2 ⊢
    rcases seg_get h h1 (by simp only [Pt.size]; omega) hx with ⟨rfl, rfl⟩ | ⟨h4, _, _⟩
    · omega
    · by_cases hb : q < at_ + 1 + a.size
      · have := seg_next a _ _ _ hs.1 q x (by omega) (by omega) hx hk
        omega
      · have := seg_next c _ _ _ hs.2 q x (by omega) (by omega) hx hk
        omega
theorem flat_rx (t : Pt) : (List.range (t.flat 0 (-1)).length).filter (isR (t.flat 0 (-1))) = rx t 0 := by
  rw [t.flat_length, List.range_eq_range']
  exact seg_rx t 0 (-1) [] (flat_drop t)
theorem filter_range_succ (p : Nat → Bool) (i : Nat) : (List.range (i + 1)).filter p = (List.range i).filter p ++ (if p i = true then [i] else []) := by
  rw [List.range_succ, List.filter_append, List.filter_cons, List.filter_nil]
theorem ev_lcRedexes (t : Pt) (b : Bool) (hz : t.size ≤ 150) : EvN 2000 66 [.dat (.lst b ((t.flat 0 (-1)).map Nd.d))] [] [] ([.own 3 ((rx t 0).map IN)], [], []) := by
  refine (ev_fn Go.Proofs.Try.f66 1000 (by kernel_rfl) (by kernel_rfl) fun kk hkk => ?_).mono (by omega)
  have hL : (t.flat 0 (-1)).length = t.size := t.flat_length _ _
  have hnx := seg_next t 0 (-1) [] (flat_drop t)
  rw [← flat_rx t]
  generalize hE : t.flat 0 (-1) = L at *
  refine lcRedexes kk b _ _ ?_
  have hlen : ((L.map Nd.d).length : Int) = L.length := by simp
  let st := fun i : Nat => hd58 b (L.map Nd.d) (((List.range i).filter (isR L)).map IN) i
  refine loopAt_range st L.length (by omega) (fun i hi m s K hs hn => ?_) (fun m s K hs hK => ?_) (by simp [st])
  · obtain ⟨x, hx⟩ : ∃ x, L[i]? = some x := ⟨_, List.getElem?_eq_getElem hi⟩
    have hx3 := nd_at hx
    have hlt : decide ((i : Int) < ((L.map Nd.d).length : Int)) = true := decide_eq_true hx3.1.2
    have hw1 : w64 ((i : Int) + 1) = ((i + 1 : Nat) : Int) := (w64_eq (by omega)).trans (by omega)
    have hfl : ((List.range i).filter (isR L)).length ≤ i := by
      have := List.length_filter_le (isR L) (List.range i)
      rw [List.length_range] at this
      exact this
    have hout : ∀ r, isR L i = r → ((List.range (i + 1)).filter (isR L)).map IN = ((List.range i).filter (isR L)).map IN ++ (if r = true then [IN i] else []) := fun r hr => by
      rw [filter_range_succ, hr, List.map_append]
      cases r <;> rfl
    by_cases hk : x.k = 3
    · have hi1 := hnx i x (by omega) (by omega) hx hk
      obtain ⟨y, hy⟩ : ∃ y, L[i + 1]? = some y := ⟨_, List.getElem?_eq_getElem (by omega)⟩
      have hy3 := nd_at hy
      rw [← hw1] at hy3
      have hR : isR L i = decide (y.k = 2) := by simp [isR, hx, hy, hk]
      by_cases hk2 : y.k = 2
      · refine lcRedexes_hit kk m b _ _ i x.k x.n x.u y.k y.n y.u hs hlt hx3 (decide_eq_true hk) hy3 (decide_eq_true hk2) (by simp; omega) fun s' hs' => hn s' ?_
        rw [hs', hw1]
        simp only [st, hd58]
        rw [hout true (by rw [hR]; exact decide_eq_true hk2)]
        rfl
      · refine lcRedexes_var kk m b _ _ i x.k x.n x.u y.k y.n y.u hs hlt hx3 (decide_eq_true hk) hy3 (decide_eq_false hk2) fun s' hs' => hn s' ?_
        rw [hs', hw1]
        simp only [st, hd58]
        rw [hout false (by rw [hR]; exact decide_eq_false hk2), if_neg (by decide), List.append_nil]
    · have hR : isR L i = false := by
        unfold isR
        rw [hx]
        cases L[i + 1]? <;> simp [hk]
      refine lcRedexes_no kk m b _ _ i x.k x.n x.u hs hlt hx3 (decide_eq_false hk) fun s' hs' => hn s' ?_
      rw [hs', hw1]
      simp only [st, hd58]
      rw [hout false hR, if_neg (by decide), List.append_nil]
  · exact lcRedexes_end kk m b _ _ _ hs (decide_eq_false (by omega)) hK
theorem in_at {rs : List Nat} {i : Nat} (h : i < rs.length) : ∃ q, rs[i]? = some q ∧ (rs.map IN)[i]? = some (I (q : Int)) := by
  have hx := List.getElem?_eq_getElem h
  exact ⟨rs[i], hx, by rw [List.getElem?_map, hx]; rfl⟩
theorem any_first (rs : List Nat) (v : Int) (h : hasI rs v = true) : ∃ (j q : Nat), rs[j]? = some q ∧ (q : Int) = v ∧ ∀ i y, i < j → rs[i]? = some y → (y : Int) ≠ v := by
  have hb : (rs.all fun q => !decide ((q : Int) = v)) = false := by
    cases hc : rs.all fun q => !decide ((q : Int) = v) with
    | false => rfl
    | true =>
      obtain ⟨q, h1, h2⟩ := hasI_mem h
      have := (List.all_eq_true.1 hc) q h2
      rw [h1] at this
      simp at this
  obtain ⟨j, q, h1, h2, h3⟩ := first_bad (fun q : Nat => !decide ((q : Int) = v)) hb
  refine ⟨j, q, h1, ?_, fun i y hi hy => ?_⟩
  · simpa using h2
  · have := h3 i y hi hy
    simpa using this
theorem none_has (rs : List Nat) (v : Int) (h : hasI rs v = false) : ∀ (i y : Nat), rs[i]? = some y → (y : Int) ≠ v := fun i y hy e => by
  have : hasI rs v = true := List.any_eq_true.2 ⟨y, List.mem_of_getElem? hy, decide_eq_true e⟩
  rw [h] at this
  cases this
theorem ev_containsI (rs : List Nat) (b : Bool) (v : Int) (hr : rs.length ≤ 1000) : EvN 2000 34 [.dat (.lst b (rs.map IN)), .dat (I v)] [] [] ([.dat (B (hasI rs v))], [], []) := by
  have hlen : ((rs.map IN).length : Int) = rs.length := by simp
  have hidx : ∃ j : Int, EvN 1501 72 [.dat (.lst b (rs.map IN)), .dat (I v)] [] [] ([.dat (I j)], [], []) ∧ decide (0 ≤ j) = hasI rs v := by
    cases h : hasI rs v with
    | true =>
      obtain ⟨j, q, h1, h2, h3⟩ := any_first rs v h
      have hj := (List.getElem?_eq_some_iff.1 h1).1
      refine ⟨j, ev_fn Go.Proofs.Try.f72 1500 (by kernel_rfl) (by kernel_rfl) fun kk hkk => ?_, by simp⟩
      refine indexI_y kk b _ v j ?_
      refine loopAt_range (fun i => hd98 b (rs.map IN) v i) j (by omega) (fun i hi m s K hs hn => ?_) (fun m s K hs hK => ?_) rfl
      · obtain ⟨y, h4, h5⟩ := in_at (rs := rs) (i := i) (by omega)
        refine indexI_go kk m b _ v i y hs (decide_eq_true (by omega)) ⟨⟨by omega, by omega⟩, by simpa using h5⟩ (decide_eq_false (fun e => h3 i y hi h4 e.symm)) fun s' hs' => hn s' ?_
        rw [hs', w64_eq (n := (i : Int) + 1) (by omega)]
        rfl
      · obtain ⟨y, h4, h5⟩ := in_at (rs := rs) (i := j) hj
        rw [h1] at h4
        cases h4
        exact indexI_hit kk m b _ v j q hs (decide_eq_true (by omega)) ⟨⟨by omega, by omega⟩, by simpa using h5⟩ (decide_eq_true h2.symm) hK
    | false =>
      have h3 := none_has rs v h
      refine ⟨-1, ev_fn Go.Proofs.Try.f72 1500 (by kernel_rfl) (by kernel_rfl) fun kk hkk => ?_, rfl⟩
      refine indexI_n kk b _ v ?_
      refine loopAt_range (fun i => hd98 b (rs.map IN) v i) rs.length (by omega) (fun i hi m s K hs hn => ?_) (fun m s K hs hK => ?_) rfl
      · obtain ⟨y, h4, h5⟩ := in_at (rs := rs) (i := i) (by omega)
        refine indexI_go kk m b _ v i y hs (decide_eq_true (by omega)) ⟨⟨by omega, by omega⟩, by simpa using h5⟩ (decide_eq_false (fun e => h3 i y h4 e.symm)) fun s' hs' => hn s' ?_
        rw [hs', w64_eq (n := (i : Int) + 1) (by omega)]
        rfl
      · exact indexI_end kk m b _ v _ hs (decide_eq_false (by omega)) hK
  obtain ⟨j, hj, hjb⟩ := hidx
  refine (ev_fn Go.Proofs.Try.f34 1501 (by kernel_rfl) (by kernel_rfl) fun kk hkk => ?_).mono (by omega)
  rw [← hjb]
  exact containsI kk b _ v j (hj kk (by omega))
end Go.Den
namespace Go.Den
open Go
set_option linter.unusedVariables false
set_option maxRecDepth 100000
/-- A term with the redex of a number reduced. -/
def red : Pt → Nat → Pt
  | t, 0 => t.beta
  | .var n, _ + 1 => .var n
  | .lam n x, k + 1 => .lam n (red x k)
  | .app n a c, k + 1 => if k < a.size then .app n (red a k) c else .app n a (red c (k - a.size))
theorem red_kd (t : Pt) (k : Nat) : (red t (k + 1)).kd = t.kd ∧ (red t (k + 1)).num = t.num := by
  cases t with
  | var n => exact ⟨rfl, rfl⟩
  | lam n x => exact ⟨rfl, rfl⟩
  | app n a c => simp only [red]; split <;> exact ⟨rfl, rfl⟩
theorem red_size : ∀ (t : Pt) (k : Nat), rxAt t k = true → t.size ≤ 150 → (red t k).size ≤ t.size + 22500 ∧ (red t k).depth ≤ 2 * t.depth
  | .var n, 0, h, hz => by cases h
  | .var n, k + 1, h, hz => by cases h
  | .lam n x, 0, h, hz => by cases h
  | .lam n x, k + 1, h, hz => by
    simp only [Pt.size] at hz
    have := red_size x k h (by omega)
    simp only [red, Pt.size, Pt.depth]
    omega
  | .app n a c, 0, h, hz => by
    obtain ⟨n', n1, x, y, e⟩ := redex_app (t := .app n a c) h
    cases e
    simp only [Pt.size] at hz
    have h3 := sub_size 0 c x 0
    have hm : x.size * c.size ≤ 150 * 150 := Nat.mul_le_mul (by omega) (by omega)
    simp only [red, Pt.beta, Pt.size, Pt.depth]
    omega
  | .app n a c, k + 1, h, hz => by
    simp only [Pt.size] at hz
    simp only [rxAt] at h
    simp only [red]
    split
    · rename_i hk
      rw [if_pos hk] at h
      have := red_size a k h (by omega)
      simp only [Pt.size, Pt.depth]
      omega
    · rename_i hk
      rw [if_neg hk] at h
      have := red_size c _ h (by omega)
      simp only [Pt.size, Pt.depth]
      omega
/-- A part, on the way to a number. -/
def stepAt (r : List Pt × Int) (x : Pt) : List Pt × Int :=
  if 0 ≤ r.2 then (if r.2 < x.size then (r.1 ++ [red x r.2.toNat], -1) else (r.1 ++ [x], r.2 - x.size)) else (r.1 ++ [x], r.2)
def foldAt (t : Pt) (k : Int) (i : Nat) : List Pt × Int := (t.kids.take i).foldl stepAt ([], k)
theorem foldAt_succ {t x : Pt} {k : Int} {i : Nat} (h : t.kids[i]? = some x) : foldAt t k (i + 1) = stepAt (foldAt t k i) x := by
  unfold foldAt
  rw [List.take_add_one, h, List.foldl_append]
  rfl
theorem foldAt_len (t : Pt) (k : Int) : ∀ i, i ≤ t.kids.length → (foldAt t k i).1.length = i
  | 0, _ => rfl
  | i + 1, h => by
    have hx := List.getElem?_eq_getElem (l := t.kids) (i := i) (by omega)
    rw [foldAt_succ hx]
    have := foldAt_len t k i (by omega)
    unfold stepAt
    split
    · split <;> simp [this]
    · simp [this]
theorem foldAt_bound (t : Pt) (k : Int) : ∀ i, -1 ≤ k → -1 ≤ (foldAt t k i).2 ∧ (foldAt t k i).2 ≤ k
  | 0, h => ⟨h, Int.le_refl _⟩
  | i + 1, h => by
    have ih := foldAt_bound t k i h
    cases hx : t.kids[i]? with
    | none =>
      have : foldAt t k (i + 1) = foldAt t k i := by
        unfold foldAt
        rw [List.take_add_one, hx]
        simp
      rw [this]
      exact ih
    | some x =>
      rw [foldAt_succ hx]
      have := x.size_pos
      unfold stepAt
      split
      · split
        · simp only; omega
        · simp only; omega
      · exact ih
theorem foldAt_red {t : Pt} {j : Nat} (h : j + 1 < t.size) : foldAt t j t.kids.length = ((red t (j + 1)).kids, -1) := by
  unfold foldAt
  rw [List.take_length]
  cases t with
  | var n => simp only [Pt.size] at h; omega
  | lam n x =>
    simp only [Pt.size] at h
    simp only [Pt.kids, List.foldl_cons, List.foldl_nil, stepAt, red]
    rw [if_pos (by omega), if_pos (by omega)]
    simp
  | app n a c =>
    simp only [Pt.size] at h
    simp only [Pt.kids, List.foldl_cons, List.foldl_nil, red]
    by_cases hk : j < a.size
    · rw [if_pos hk]
      have e : stepAt ([], (j : Int)) a = ([red a j], -1) := by
        unfold stepAt
        simp only
        rw [if_pos (by omega), if_pos (by omega)]
        simp
      rw [e]
      unfold stepAt
      simp only
      rw [if_neg (by omega)]
      simp
    · rw [if_neg hk]
      have e : stepAt ([], (j : Int)) a = ([a], (j : Int) - a.size) := by
        unfold stepAt
        simp only
        rw [if_pos (by omega), if_neg (by omega)]
        simp
      rw [e]
      unfold stepAt
      simp only
      rw [if_pos (by omega), if_pos (by omega), show ((j : Int) - a.size).toNat = j - a.size by omega]
      simp
theorem foldAt_past {t : Pt} {j : Nat} (h : t.size ≤ j + 1) : foldAt t j t.kids.length = (t.kids, (j : Int) + 1 - t.size) := by
  unfold foldAt
  rw [List.take_length]
  cases t with
  | var n => simp [Pt.kids, Pt.size]
  | lam n x =>
    simp only [Pt.size] at h
    simp only [Pt.kids, List.foldl_cons, List.foldl_nil, stepAt, Pt.size]
    rw [if_pos (by omega), if_neg (by omega)]
    simp
    omega
  | app n a c =>
    simp only [Pt.size] at h
    simp only [Pt.kids, List.foldl_cons, List.foldl_nil, Pt.size]
    have e : stepAt ([], (j : Int)) a = ([a], (j : Int) - a.size) := by
      unfold stepAt
      simp only
      rw [if_pos (by omega), if_neg (by omega)]
      simp
    rw [e]
    unfold stepAt
    simp only
    rw [if_pos (by omega), if_neg (by omega)]
    simp
    omega
/-- Where a part is met with a number of its own, that is a redex of it. -/
theorem foldAt_rx {t x : Pt} {j i : Nat} (hr : j + 1 < t.size → rxAt t (j + 1) = true) (hx : t.kids[i]? = some x) (h0 : 0 ≤ (foldAt t j i).2) (h1 : (foldAt t j i).2 < x.size) : rxAt x (foldAt t j i).2.toNat = true := by
  cases t with
  | var n => simp [Pt.kids] at hx
  | lam n y =>
    match i, hx with
    | 0, hx =>
      simp [Pt.kids] at hx
      subst hx
      have e : (foldAt (.lam n y) j 0).2 = j := rfl
      rw [e] at h1 ⊢
      simp only [Pt.size] at hr
      exact hr (by omega)
    | i + 1, hx => simp [Pt.kids] at hx
  | app n a c =>
    match i, hx with
    | 0, hx =>
      simp [Pt.kids] at hx
      subst hx
      have e : (foldAt (.app n a c) j 0).2 = j := rfl
      rw [e] at h1 ⊢
      simp only [Pt.size] at hr
      have := hr (by omega)
      simp only [rxAt] at this
      rw [if_pos (by omega)] at this
      exact this
    | 1, hx =>
      simp [Pt.kids] at hx
      subst hx
      have e : (foldAt (.app n a c) j 1).2 = (stepAt ([], (j : Int)) a).2 := rfl
      rw [e] at h0 h1 ⊢
      by_cases hk : j < a.size
      · exfalso
        unfold stepAt at h0
        simp only at h0
        rw [if_pos (by omega), if_pos (by omega)] at h0
        simp at h0
      · have e2 : (stepAt ([], (j : Int)) a).2 = (j : Int) - a.size := by
          unfold stepAt
          simp only
          rw [if_pos (by omega), if_neg (by omega)]
        rw [e2] at h0 h1 ⊢
        simp only [Pt.size] at hr
        have := hr (by omega)
        simp only [rxAt] at this
        rw [if_neg hk] at this
        rw [show ((j : Int) - a.size).toNat = j - a.size by omega]
        exact this
    | i + 2, hx => simp [Pt.kids] at hx
/-- Small terms. -/
def small (t : Pt) : Prop := t.size ≤ 150 ∧ t.depth ≤ 40 ∧ t.within 1000000
theorem small_kid {t x : Pt} (h : small t) (hx : x ∈ t.kids) : small x := by
  have h1 := Pt.kids_lt hx
  refine ⟨by have := h.1; omega, by have := h.2.1; omega, ?_⟩
  have hw := h.2.2
  cases t with
  | var n => cases hx
  | lam n y =>
    simp only [Pt.kids, List.mem_singleton] at hx
    subst hx
    exact hw
  | app n a c =>
    simp only [Pt.kids, List.mem_cons, List.not_mem_nil, or_false] at hx
    rcases hx with rfl | rfl
    · exact hw.1
    · exact hw.2
theorem ev_lcAt : ∀ (d : Nat) (t : Pt) (k : Nat), t.depth ≤ d → small t → k ≤ 1000 → (k < t.size → rxAt t k = true) →
    EvN (d + 2100) 67 [.dat t.d, .dat (I k)] [] [] (if k < t.size then ([.dat (red t k).d, .dat (I (-1))], [], []) else ([.dat t.d, .dat (I ((k : Int) - t.size))], [], []))
  | 0, t, k, hd, hs, hk, hr => by have := t.depth_pos; omega
  | d + 1, t, 0, hd, hs, hk, hr => by
    have hp := t.size_pos
    rw [if_pos (by omega)]
    obtain ⟨n, n1, x, y, rfl⟩ := redex_app (t := t) (by have := hr (by omega); cases t <;> exact this)
    refine EvN.mono (ev_fn Go.Proofs.Try.f67 (d + 2100) (by kernel_rfl) (by kernel_rfl) fun kk hkk => ?_) (by omega)
    have h1 := hs.2.1
    simp only [Pt.depth] at h1
    have h := ev_lcBeta false n n1 x y hs.2.2.1 hs.2.2.2 (by omega) (by omega) kk (by omega)
    unfold Pt.db at h
    have e : red (.app n (.lam n1 x) y) 0 = sub 0 y 0 x := rfl
    rw [e, Pt.d_eq (sub 0 y 0 x)]
    rw [Pt.d_eq (sub 0 y 0 x)] at h
    rw [Pt.d_eq (.app n (.lam n1 x) y)]
    exact lcAt_here kk 0 _ _ _ _ _ _ rfl h
  | d + 1, t, j + 1, hd, hs, hk, hr => by
    have hle := t.kids_le
    have hw : w64 ((((j + 1 : Nat) : Int)) - 1) = (j : Int) := (w64_eq (by omega)).trans (by omega)
    have hloop : ∀ kk, d + 2100 ≤ kk → LoopAt cfg kk 67 Go.Proofs.Try.f67 6 (hd59 j t.kd t.num (t.kids.map Pt.d) [] 0) (X.exit 0) (Nm [1, 4, 6] [D.dat (I (foldAt t j t.kids.length).2), D.ptr (Ref.loc 4) 0, D.ptr (Ref.loc 6) 0] [none, some [D.dat (I 0), D.dat (I 0), D.own 71 []], some [D.dat (I t.kd), D.dat (I t.num), D.own 71 ((foldAt t j t.kids.length).1.map Pt.d)]] [] []) := by
      intro kk hkk
      refine loopAt_range (fun i => hd59 (foldAt t j i).2 t.kd t.num (t.kids.map Pt.d) ((foldAt t j i).1.map Pt.d) i) t.kids.length (by omega) (fun i hi m s K hs' hn => ?_) (fun m s K hs' hK => ?_) rfl
      · obtain ⟨x, h1, h2, h3⟩ := kid_at hi
        have hx := Pt.kids_lt h2
        have hto : ((i : Int)).toNat = i := by simp
        have hlen := foldAt_len t j i (by omega)
        have hb := foldAt_bound t j i (by omega)
        have hsuc := foldAt_succ (k := j) h1
        by_cases h0 : 0 ≤ (foldAt t j i).2
        · have hq : (((foldAt t j i).2.toNat : Nat) : Int) = (foldAt t j i).2 := by omega
          have ih := ev_lcAt d x (foldAt t j i).2.toNat (by omega) (small_kid hs h2) (by omega) (fun hlt => foldAt_rx hr h1 h0 (by omega)) kk (by omega)
          rw [hq] at ih
          by_cases hlt : (foldAt t j i).2 < x.size
          · rw [if_pos (by omega)] at ih
            rw [Pt.d_eq x, Pt.d_eq (red x _)] at ih
            refine lcAt_in kk m _ t.kd t.num _ _ _ x.kd x.num _ _ _ _ _ hs' (decide_eq_true (by simp; omega)) ⟨⟨by omega, by simp; omega⟩, by rw [hto]; exact h3⟩ (decide_eq_true h0) ih (by simp; omega) fun s' hs2 => hn s' ?_
            have hst : foldAt t j (i + 1) = ((foldAt t j i).1 ++ [red x (foldAt t j i).2.toNat], -1) := by
              rw [hsuc]
              unfold stepAt
              rw [if_pos h0, if_pos hlt]
            rw [hs2, w64_eq (n := (i : Int) + 1) (by omega)]
            simp only [hd59, hst, List.map_append, List.map_cons, List.map_nil, ← Pt.d_eq]
            rfl
          · rw [if_neg (by omega)] at ih
            rw [Pt.d_eq x] at ih
            refine lcAt_in kk m _ t.kd t.num _ _ _ x.kd x.num _ _ _ _ _ hs' (decide_eq_true (by simp; omega)) ⟨⟨by omega, by simp; omega⟩, by rw [hto]; exact h3⟩ (decide_eq_true h0) ih (by simp; omega) fun s' hs2 => hn s' ?_
            have hst : foldAt t j (i + 1) = ((foldAt t j i).1 ++ [x], (foldAt t j i).2 - x.size) := by
              rw [hsuc]
              unfold stepAt
              rw [if_pos h0, if_neg hlt]
            rw [hs2, w64_eq (n := (i : Int) + 1) (by omega)]
            simp only [hd59, hst, List.map_append, List.map_cons, List.map_nil, ← Pt.d_eq]
            rfl
        · refine lcAt_past kk m _ t.kd t.num _ _ _ x.kd x.num _ hs' (decide_eq_true (by simp; omega)) ⟨⟨by omega, by simp; omega⟩, by rw [hto]; exact h3⟩ (decide_eq_false h0) (by simp; omega) fun s' hs2 => hn s' ?_
          have hst : foldAt t j (i + 1) = ((foldAt t j i).1 ++ [x], (foldAt t j i).2) := by
            rw [hsuc]
            unfold stepAt
            rw [if_neg h0]
          rw [hs2, w64_eq (n := (i : Int) + 1) (by omega)]
          simp only [hd59, hst, List.map_append, List.map_cons, List.map_nil, ← Pt.d_eq]
          rfl
      · exact lcAt_end kk m _ t.kd t.num _ _ _ hs' (decide_eq_false (by simp)) hK
    refine EvN.mono (ev_fn Go.Proofs.Try.f67 (d + 2100) (by kernel_rfl) (by kernel_rfl) fun kk hkk => ?_) (by omega)
    have hl := hloop kk hkk
    have hl' : LoopAt cfg kk 67 Go.Proofs.Try.f67 6 (hd59 (w64 (((j + 1 : Nat) : Int) - 1)) t.kd t.num (t.kids.map Pt.d) [] 0) (X.exit 0) (Nm [1, 4, 6] [D.dat (I (foldAt t j t.kids.length).2), D.ptr (Ref.loc 4) 0, D.ptr (Ref.loc 6) 0] [none, some [D.dat (I 0), D.dat (I 0), D.own 71 []], some [D.dat (I t.kd), D.dat (I t.num), D.own 71 ((foldAt t j t.kids.length).1.map Pt.d)]] [] []) := by rw [hw]; exact hl
    have := lcAt kk _ t.kd t.num _ _ _ (decide_eq_false (by omega)) hl'
    rw [← Pt.d_eq] at this
    rw [this]
    by_cases hlt : j + 1 < t.size
    · rw [if_pos hlt, foldAt_red hlt, Pt.d_eq (red t (j + 1)), (red_kd t j).1, (red_kd t j).2]
    · rw [if_neg hlt, foldAt_past (by omega), ← Pt.d_eq]
      simp only
      rw [show ((j + 1 : Nat) : Int) = (j : Int) + 1 by omega]
def rxKids : Pt → Nat → Nat → List Nat
  | .lam _ x, at_, 1 => rx x (at_ + 1)
  | .app _ a _, at_, 1 => rx a (at_ + 1)
  | .app _ a c, at_, 2 => rx a (at_ + 1) ++ rx c (at_ + 1 + a.size)
  | _, _, _ => []
theorem ev_redexes : ∀ (d : Nat) (t : Pt) (at_ : Nat), t.depth ≤ d → t.size ≤ 150 → at_ ≤ 1000000 → at_ + t.size ≤ 1000000 → EvN (d + 100) 33 [.dat t.d, .dat (I at_)] [] [] ([.own 3 ((rx t at_).map IN)], [], [])
  | 0, t, at_, hd, hz, h0, h1 => by have := t.depth_pos; omega
  | d + 1, t, at_, hd, hz, h0, h1 => by
    have hle := t.kids_le
    have hw : w64 ((at_ : Int) + 1) = ((at_ + 1 : Nat) : Int) := (w64_eq (by omega)).trans (by omega)
    let pos := fun i : Nat => at_ + 1 + ((t.kids.take i).map Pt.size).sum
    let hd0 : List Nat := if t.isRedex = true then [at_] else []
    let acc := fun i : Nat => hd0 ++ rxKids t at_ i
    have hstep : ∀ i x, t.kids[i]? = some x → acc (i + 1) = acc i ++ rx x (pos i) ∧ pos (i + 1) = pos i + x.size ∧ pos i + x.size ≤ at_ + t.size := by
      intro i x hx
      cases t with
      | var n => simp [Pt.kids] at hx
      | lam n y =>
        match i, hx with
        | 0, hx =>
          simp [Pt.kids] at hx
          subst hx
          exact ⟨by simp [acc, pos, rxKids], by simp [pos, Pt.kids], by simp only [pos, Pt.size, List.take_zero, List.map_nil, List.sum_nil]; omega⟩
        | i + 1, hx => simp [Pt.kids] at hx
      | app n a c =>
        match i, hx with
        | 0, hx =>
          simp [Pt.kids] at hx
          subst hx
          exact ⟨by simp [acc, pos, rxKids], by simp [pos, Pt.kids], by simp only [pos, Pt.size, List.take_zero, List.map_nil, List.sum_nil]; omega⟩
        | 1, hx =>
          simp [Pt.kids] at hx
          subst hx
          exact ⟨by simp [acc, pos, Pt.kids, rxKids], by simp [pos, Pt.kids]; try omega, by simp only [pos, Pt.kids, Pt.size, List.take_succ_cons, List.take_zero, List.map_cons, List.map_nil, List.sum_cons, List.sum_nil]; omega⟩
        | i + 2, hx => simp [Pt.kids] at hx
    have hend : acc t.kids.length = rx t at_ := by
      cases t with
      | var n => rfl
      | lam n y => rfl
      | app n a c =>
        simp only [acc, hd0, Pt.kids, rx, Pt.isRedex, List.length_cons, List.length_nil, decide_eq_true_eq, rxKids]
    have hacc : ∀ i, i ≤ t.kids.length → (acc i).length ≤ 1 + 3 * 150 := by
      intro i hi
      have hh : hd0.length ≤ 1 := by
        simp only [hd0]
        split <;> simp
      have hz' := hz
      cases t with
      | var n => simp only [acc, List.length_append, rxKids]; simp; omega
      | lam n y =>
        have h1 := rx_length y (at_ + 1)
        simp only [Pt.size] at hz'
        match i, hi with
        | 0, _ => simp only [acc, List.length_append, rxKids]; simp; omega
        | 1, _ => simp only [acc, List.length_append, rxKids]; omega
        | i + 2, hi => simp [Pt.kids] at hi
      | app n a c =>
        have h1 := rx_length a (at_ + 1)
        have h2 := rx_length c (at_ + 1 + a.size)
        simp only [Pt.size] at hz'
        match i, hi with
        | 0, _ => simp only [acc, List.length_append, rxKids]; simp; omega
        | 1, _ => simp only [acc, List.length_append, rxKids]; omega
        | 2, _ => simp only [acc, List.length_append, rxKids]; omega
        | i + 3, hi => simp [Pt.kids] at hi
    have hloop : ∀ kk, d + 100 ≤ kk → LoopAt cfg kk 33 Go.Proofs.Try.f33 6 (hd61 (w64 ((at_ : Int) + 1)) (t.kids.map Pt.d) (hd0.map IN) 0) (X.exit 0) (Nm [5] [.own 3 ((rx t at_).map IN)] [none] [] []) := by
      intro kk hkk
      rw [hw, ← hend]
      refine loopAt_range (fun i => hd61 (pos i) (t.kids.map Pt.d) ((acc i).map IN) i) t.kids.length (by omega) (fun i hi m s K hs' hn => ?_) (fun m s K hs' hK => ?_) ?_
      · obtain ⟨x, h1, h2, h3⟩ := kid_at hi
        have hx := Pt.kids_lt h2
        have hto : ((i : Int)).toNat = i := by simp
        obtain ⟨e1, e2, e3⟩ := hstep i x h1
        have ih := ev_redexes d x (pos i) (by omega) (by omega) (by omega) (by omega) kk (by omega)
        have hsz := ev_size d x (by omega) (by omega) kk (by omega)
        rw [Pt.d_eq x] at ih hsz
        have hl1 := hacc i (by omega)
        have hl2 := rx_length x (pos i)
        refine redexes_go kk m _ _ _ _ x.kd x.num _ _ _ hs' (decide_eq_true (by simp; omega)) ⟨⟨by omega, by simp; omega⟩, by rw [hto]; exact h3⟩ ih ⟨?_, by simp; omega⟩ hsz fun s' hs2 => hn s' ?_
        · rw [List.all_eq_true]
          intro q hq
          obtain ⟨v, _, rfl⟩ := List.mem_map.1 hq
          rfl
        · rw [hs2, w64_eq (n := (i : Int) + 1) (by omega), w64_eq (n := ((pos i : Nat) : Int) + x.size) (by omega)]
          simp only [hd61, e1, e2, List.map_append]
          rfl
      · exact redexes_end kk m _ _ _ _ hs' (decide_eq_false (by simp)) hK
      · have e0 : rxKids t at_ 0 = [] := by cases t <;> rfl
        simp [pos, acc, e0]
    refine EvN.mono (ev_fn Go.Proofs.Try.f33 (d + 100) (by kernel_rfl) (by kernel_rfl) fun kk hkk => ?_) (by omega)
    have hr := ev_isRedex t kk (by omega)
    have hl := hloop kk hkk
    rw [Pt.d_eq t] at hr ⊢
    cases hb : t.isRedex with
    | true =>
      have e0 : hd0 = [at_] := if_pos hb
      rw [hb] at hr
      rw [e0] at hl
      exact redexes_y kk t.kd t.num at_ _ _ 0 hr (by omega) hl
    | false =>
      have e0 : hd0 = [] := if_neg (by rw [hb]; intro h; cases h)
      rw [hb] at hr
      rw [e0] at hl
      exact redexes_n kk t.kd t.num at_ _ _ 0 hr hl
theorem ev_reduceAt : ∀ (d : Nat) (t : Pt) (k : Nat), t.depth ≤ d → small t → rxAt t k = true → k < t.size → EvN (d + 2100) 35 [.dat t.d, .dat (I k)] [] [] ([.dat (red t k).d], [], [])
  | 0, t, k, hd, hs, hr, hk => by have := t.depth_pos; omega
  | d + 1, t, 0, hd, hs, hr, hk => by
    obtain ⟨n, n1, x, y, rfl⟩ := redex_app (t := t) (by cases t <;> exact hr)
    refine EvN.mono (ev_fn Go.Proofs.Try.f35 (d + 2100) (by kernel_rfl) (by kernel_rfl) fun kk hkk => ?_) (by omega)
    have h1 := hs.2.1
    simp only [Pt.depth] at h1
    have h := ev_reduced n n1 x y hs.2.2.1 hs.2.2.2 (by omega) (by omega) kk (by omega)
    have e : red (.app n (.lam n1 x) y) 0 = sub 0 y 0 x := rfl
    rw [e, Pt.d_eq (sub 0 y 0 x), Pt.d_eq (.app n (.lam n1 x) y)]
    rw [Pt.d_eq (sub 0 y 0 x), Pt.d_eq (.app n (.lam n1 x) y)] at h
    exact reduceAt_here kk 0 _ _ _ _ _ _ rfl h
  | d + 1, t, j + 1, hd, hs, hr, hk => by
    have hle := t.kids_le
    have hsz := hs.1
    have hw : w64 ((((j + 1 : Nat) : Int)) - 1) = (j : Int) := (w64_eq (by omega)).trans (by omega)
    -- the number goes on falling behind the part that has been reduced
    have hst : ∃ kf : Nat → Int, kf 0 = j ∧ ∀ i x, t.kids[i]? = some x → -1000 ≤ kf i ∧ kf i ≤ 1000 ∧
        ((0 ≤ kf i ∧ kf i < x.size ∧ (foldAt t j i).2 = kf i ∧ kf (i + 1) = -1) ∨ (0 ≤ kf i ∧ ¬ kf i < x.size ∧ (foldAt t j i).2 = kf i ∧ kf (i + 1) = kf i - x.size) ∨ (¬ 0 ≤ kf i ∧ ¬ 0 ≤ (foldAt t j i).2 ∧ kf (i + 1) = kf i - x.size)) := by
      cases t with
      | var n => exact ⟨fun _ => j, rfl, fun i x hx => by simp [Pt.kids] at hx⟩
      | lam n y =>
        simp only [Pt.size] at hk hsz
        refine ⟨fun i => if i = 0 then j else -1, rfl, fun i x hx => ?_⟩
        match i, hx with
        | 0, hx =>
          simp [Pt.kids] at hx
          subst hx
          refine ⟨by first | (simp; done) | (simp; omega), by first | (simp; done) | (simp; omega), .inl ⟨by simp, by first | (simp; done) | (simp; omega), rfl, rfl⟩⟩
        | i + 1, hx => simp [Pt.kids] at hx
      | app n a c =>
        simp only [Pt.size] at hk hsz
        by_cases hj : j < a.size
        · refine ⟨fun i => if i = 0 then j else if i = 1 then -1 else -1 - c.size, rfl, fun i x hx => ?_⟩
          match i, hx with
          | 0, hx =>
            simp [Pt.kids] at hx
            subst hx
            refine ⟨by first | (simp; done) | (simp; omega), by first | (simp; done) | (simp; omega), .inl ⟨by simp, by first | (simp; done) | (simp; omega), rfl, rfl⟩⟩
          | 1, hx =>
            simp [Pt.kids] at hx
            subst hx
            have e : (foldAt (.app n a c) j 1).2 = -1 := by
              have : foldAt (.app n a c) j 1 = stepAt ([], (j : Int)) a := rfl
              rw [this]
              unfold stepAt
              simp only
              rw [if_pos (by omega), if_pos (by omega)]
            refine ⟨by simp, by simp, .inr (.inr ⟨by simp, by rw [e]; decide, by simp⟩)⟩
          | i + 2, hx => simp [Pt.kids] at hx
        · refine ⟨fun i => if i = 0 then j else if i = 1 then (j : Int) - a.size else -1, rfl, fun i x hx => ?_⟩
          match i, hx with
          | 0, hx =>
            simp [Pt.kids] at hx
            subst hx
            refine ⟨by first | (simp; done) | (simp; omega), by first | (simp; done) | (simp; omega), .inr (.inl ⟨by simp, by first | (simp; done) | (simp; omega), rfl, by simp⟩)⟩
          | 1, hx =>
            simp [Pt.kids] at hx
            subst hx
            have e : (foldAt (.app n a c) j 1).2 = (j : Int) - a.size := by
              have : foldAt (.app n a c) j 1 = stepAt ([], (j : Int)) a := rfl
              rw [this]
              unfold stepAt
              simp only
              rw [if_pos (by omega), if_neg (by omega)]
            refine ⟨by first | (simp; done) | (simp; omega), by first | (simp; done) | (simp; omega), .inl ⟨by first | (simp; done) | (simp; omega), by first | (simp; done) | (simp; omega), by rw [e]; simp, by simp⟩⟩
          | i + 2, hx => simp [Pt.kids] at hx
    obtain ⟨kf, hk0, hkf⟩ := hst
    refine EvN.mono (ev_fn Go.Proofs.Try.f35 (d + 2100) (by kernel_rfl) (by kernel_rfl) fun kk hkk => ?_) (by omega)
    have hl : LoopAt cfg kk 35 Go.Proofs.Try.f35 6 (hd62 (w64 (((j + 1 : Nat) : Int) - 1)) t.kd t.num (t.kids.map Pt.d) [] 0) (X.exit 0) (Nm [4, 5] [.ptr (.loc 4) 0, .ptr (.loc 5) 0] [some [.dat (I 0), .dat (I 0), .own 59 []], some [.dat (I t.kd), .dat (I t.num), .own 59 ((red t (j + 1)).kids.map Pt.d)]] [] []) := by
      rw [hw]
      refine loopAt_range (fun i => hd62 (kf i) t.kd t.num (t.kids.map Pt.d) ((foldAt t j i).1.map Pt.d) i) t.kids.length (by omega) (fun i hi m s K hs' hn => ?_) (fun m s K hs' hK => ?_) ?_
      · obtain ⟨x, h1, h2, h3⟩ := kid_at hi
        have hx := Pt.kids_lt h2
        have hto : ((i : Int)).toNat = i := by simp
        have hlen := foldAt_len t j i (by omega)
        have hsuc := foldAt_succ (k := j) h1
        obtain ⟨b1, b2, hc⟩ := hkf i x h1
        have hsx := ev_size d x (by omega) (by omega) kk (by omega)
        rw [Pt.d_eq x] at hsx
        rcases hc with ⟨c1, c2, c3, c4⟩ | ⟨c1, c2, c3, c4⟩ | ⟨c1, c2, c4⟩
        · have hrx := foldAt_rx (fun _ => hr) h1 (by omega) (by omega)
          have ih := ev_reduceAt d x (kf i).toNat (by omega) (small_kid hs h2) (by rw [← c3]; exact hrx) (by omega) kk (by omega)
          rw [show (((kf i).toNat : Nat) : Int) = kf i by omega, Pt.d_eq x, Pt.d_eq (red x _)] at ih
          refine reduceAt_in kk m _ t.kd t.num _ _ _ x.kd x.num _ _ _ _ _ hs' (decide_eq_true (by simp; omega)) ⟨⟨by omega, by simp; omega⟩, by rw [hto]; exact h3⟩ hsx (decide_eq_true c1) (decide_eq_true c2) ih (by simp; omega) fun s' hs2 => hn s' ?_
          have hst : foldAt t j (i + 1) = ((foldAt t j i).1 ++ [red x (kf i).toNat], -1) := by
            rw [hsuc]
            unfold stepAt
            rw [c3, if_pos c1, if_pos c2]
          rw [hs2, w64_eq (n := (i : Int) + 1) (by omega)]
          simp only [hd62, hst, c4, List.map_append, List.map_cons, List.map_nil, ← Pt.d_eq]
          rfl
        · refine reduceAt_on kk m _ t.kd t.num _ _ _ x.kd x.num _ _ hs' (decide_eq_true (by simp; omega)) ⟨⟨by omega, by simp; omega⟩, by rw [hto]; exact h3⟩ hsx (decide_eq_true c1) (decide_eq_false c2) (by simp; omega) fun s' hs2 => hn s' ?_
          have hst : foldAt t j (i + 1) = ((foldAt t j i).1 ++ [x], kf i - x.size) := by
            rw [hsuc]
            unfold stepAt
            rw [c3, if_pos c1, if_neg c2]
          rw [hs2, w64_eq (n := (i : Int) + 1) (by omega), w64_eq (n := kf i - x.size) (by omega)]
          simp only [hd62, hst, c4, List.map_append, List.map_cons, List.map_nil, ← Pt.d_eq]
          rfl
        · refine reduceAt_past kk m _ t.kd t.num _ _ _ x.kd x.num _ _ hs' (decide_eq_true (by simp; omega)) ⟨⟨by omega, by simp; omega⟩, by rw [hto]; exact h3⟩ hsx (decide_eq_false c1) (by simp; omega) fun s' hs2 => hn s' ?_
          have hst : foldAt t j (i + 1) = ((foldAt t j i).1 ++ [x], (foldAt t j i).2) := by
            rw [hsuc]
            unfold stepAt
            rw [if_neg c2]
          rw [hs2, w64_eq (n := (i : Int) + 1) (by omega), w64_eq (n := kf i - x.size) (by omega)]
          simp only [hd62, hst, c4, List.map_append, List.map_cons, List.map_nil, ← Pt.d_eq]
          rfl
      · refine reduceAt_end kk m _ t.kd t.num _ _ _ hs' (decide_eq_false (by simp)) ?_
        rw [foldAt_red hk]
        exact hK
      · rw [hk0]
        rfl
    have := reduceAt kk _ t.kd t.num _ _ (decide_eq_false (by omega)) hl
    rw [← Pt.d_eq] at this
    rw [this, Pt.d_eq (red t (j + 1)), (red_kd t j).1, (red_kd t j).2]
def ratN (L : List Nd) (v : Int) : List Nd × Bool :=
  match termOfP L with
  | some t => if hasI (rx t 0) v = true then (if (red t v.toNat).good = true then (red t v.toNat).flat 0 (-1) else [], (red t v.toNat).good) else ([], false)
  | none => ([], false)
theorem rat_facts {t : Pt} {v : Int} (hs : small t) (h : hasI (rx t 0) v = true) : ∃ q : Nat, v = q ∧ q < t.size ∧ rxAt t q = true ∧ (red t q).size ≤ 22650 ∧ (red t q).depth ≤ 80 := by
  obtain ⟨q, h1, h2⟩ := hasI_mem h
  obtain ⟨_, h3, h4⟩ := rx_range t 0 q h2
  have h5 := red_size t q (by simpa using h4) hs.1
  have := hs.1
  have := hs.2.1
  exact ⟨q, h1, by omega, by simpa using h4, by omega, by omega⟩
theorem ev_iRat (L : List Nd) (b : Bool) (v : Int) (hL : L.length ≤ 1048576) : EvN 5000 11 [.dat (.lst b (L.map Nd.d)), .dat (I v)] [] [] ([.own 56 ((ratN L v).1.map Nd.d), .dat (B (ratN L v).2)], [], []) := by
  refine (ev_fn Go.Proofs.Try.f11 4900 (by kernel_rfl) (by kernel_rfl) fun kk hkk => ?_).mono (by omega)
  obtain ⟨hy, hn⟩ := ev_termOf L b hL
  unfold ratN
  cases h1 : termOfP L with
  | none =>
    obtain ⟨k1, n1, d1, e1⟩ := hn h1
    exact iReduceAt_no1 kk b _ v _ _ _ (e1 kk (by omega))
  | some t =>
    have a1 := hy t h1 kk (by omega)
    have hg : small t := good_small ((termOfP_iff L t).1 h1).1
    have a2 := ev_redexes 40 t 0 hg.2.1 hg.1 (by omega) (by have := hg.1; omega) kk (by omega)
    have hrl := rx_length t 0
    have a3 := ev_containsI (rx t 0) true v (by have := hg.1; omega) kk (by omega)
    simp only
    cases h2 : hasI (rx t 0) v with
    | false =>
      rw [if_neg (by intro h; cases h)]
      rw [h2] at a3
      rw [Pt.d_eq] at a1 a2
      exact iReduceAt_no2 kk b _ v _ _ _ _ a1 a2 a3
    | true =>
      rw [if_pos rfl]
      rw [h2] at a3
      obtain ⟨q, rfl, hq, hrx, hz1, hz2⟩ := rat_facts hg h2
      rw [show ((q : Int)).toNat = q by simp]
      have a4 := ev_reduceAt 40 t q hg.2.1 hg hrx hq kk (by omega)
      have a5 := ev_goodNodes (red t q) (by omega) kk (by omega)
      rw [Pt.d_eq t] at a1 a2
      rw [Pt.d_eq t, Pt.d_eq (red t q)] at a4
      rw [Pt.d_eq (red t q)] at a5
      exact iReduceAt_go kk b _ q _ _ _ _ _ _ _ _ _ a1 a2 a3 a4 a5
theorem ratN_len (L : List Nd) (v : Int) : (ratN L v).1.length ≤ 150 := by
  unfold ratN
  split
  · split
    · simp only
      split
      · rename_i h
        rw [Pt.flat_length]
        exact (good_small h).1
      · simp
    · simp
  · simp
end Go.Den
namespace Go.Den
open Go
set_option linter.unusedVariables false
set_option maxRecDepth 100000
def hd63 (es : List Dat) (fuel n : Int) : St := Nm [0, 1, 7] [.own 56 es, .dat (I fuel), .dat (I n)] [none, none, none] [] []
theorem lcNormal_done (kk m : Nat) {s : St} {K : X → St → Prop} (es : List Dat) (fuel n : Int) (rs : List Dat) (hs : s.norm ((envOf cfg kk 31 Go.Proofs.Try.f31).live (firstRegion (lp Go.Proofs.Try.f31 3))) = hd63 es fuel n) (h1 : D.cleans [D.own 3 rs] = true) (h2 : den cfg kk 66 [D.dat (Dat.lst true es)] [] [] = some ([D.own 3 rs], [], [])) (h3 : decide ((rs.length : Int) = 0) = true) (hK : K (X.ret) (Nm [4, 5, 6] [D.own 56 es, D.dat (I n), D.dat (B true)] [none, none, none] [] [])) : Rounds (envOf cfg kk 31 Go.Proofs.Try.f31) kk (lp Go.Proofs.Try.f31 3) (m + 1) s K :=
  rounds_end [(16, .ret [.own 3 rs]), (200019, .yes)] hs (by kernel_rfl) rfl (ob h1 (ob h2 (ob h3 ob0))) (by kernel_rfl) hK
theorem lcNormal_stop (kk m : Nat) {s : St} {K : X → St → Prop} (es : List Dat) (fuel n : Int) (rs : List Dat) (hs : s.norm ((envOf cfg kk 31 Go.Proofs.Try.f31).live (firstRegion (lp Go.Proofs.Try.f31 3))) = hd63 es fuel n) (h1 : D.cleans [D.own 3 rs] = true) (h2 : den cfg kk 66 [D.dat (Dat.lst true es)] [] [] = some ([D.own 3 rs], [], [])) (h3 : decide ((rs.length : Int) = 0) = false) (h4 : decide (n = fuel) = true) (hK : K (X.ret) (Nm [4, 5, 6] [D.own 56 [], D.dat (I 0), D.dat (B false)] [none, none, none] [] [])) : Rounds (envOf cfg kk 31 Go.Proofs.Try.f31) kk (lp Go.Proofs.Try.f31 3) (m + 1) s K :=
  rounds_end [(16, .ret [.own 3 rs]), (200019, .no), (200024, .yes)] hs (by kernel_rfl) rfl (ob h1 (ob h2 (ob h3 (ob h4 ob0)))) (by kernel_rfl) hK
theorem lcNormal_bad (kk m : Nat) {s : St} {K : X → St → Prop} (es : List Dat) (fuel n : Int) (rs d d2 out : List Dat) (k1 n1 k2 n2 r0 left : Int) (hs : s.norm ((envOf cfg kk 31 Go.Proofs.Try.f31).live (firstRegion (lp Go.Proofs.Try.f31 3))) = hd63 es fuel n) (h1 : D.cleans [D.own 3 rs] = true) (h2 : den cfg kk 66 [D.dat (Dat.lst true es)] [] [] = some ([D.own 3 rs], [], [])) (h3 : decide ((rs.length : Int) = 0) = false) (h4 : decide (n = fuel) = false) (h5 : (0 : Int) ≤ 0 ∧ 0 < (rs.length : Int)) (h6 : rs[0]? = some (I r0)) (h7 : D.cleans [D.dat (T k1 n1 d)] = true) (h8 : den cfg kk 45 [D.dat (Dat.lst true es), D.dat (I 0)] [] [] = some ([D.dat (T k1 n1 d)], [], [])) (h9 : den cfg kk 67 [D.dat (T k1 n1 d), D.dat (I r0)] [] [] = some ([D.dat (T k2 n2 d2), D.dat (I left)], [], [])) (h10 : den cfg kk 43 [D.dat (T k2 n2 d2)] [] [] = some ([D.own 56 out, D.dat (B false)], [], [])) (hK : K (X.ret) (Nm [4, 5, 6] [D.own 56 [], D.dat (I 0), D.dat (B false)] [none, none, none] [] [])) : Rounds (envOf cfg kk 31 Go.Proofs.Try.f31) kk (lp Go.Proofs.Try.f31 3) (m + 1) s K :=
  rounds_end [(16, .ret [.own 3 rs]), (200019, .no), (200024, .no), (27, .ret [.dat (T k1 n1 d)]), (29, .ok), (30, .at (I r0)), (31, .ret [.dat (T k2 n2 d2), .dat (I left)]), (36, .ret [.own 56 out, .dat (B false)])] hs (by kernel_rfl) rfl (ob h1 (ob h2 (ob h3 (ob h4 (ob h5 (ob h6 (ob h7 (ob h8 (ob h9 (ob h10 ob0)))))))))) (by kernel_rfl) hK
theorem lcNormal_go (kk m : Nat) {s : St} {K : X → St → Prop} (es : List Dat) (fuel n : Int) (rs d d2 out : List Dat) (k1 n1 k2 n2 r0 left : Int) (hs : s.norm ((envOf cfg kk 31 Go.Proofs.Try.f31).live (firstRegion (lp Go.Proofs.Try.f31 3))) = hd63 es fuel n) (h1 : D.cleans [D.own 3 rs] = true) (h2 : den cfg kk 66 [D.dat (Dat.lst true es)] [] [] = some ([D.own 3 rs], [], [])) (h3 : decide ((rs.length : Int) = 0) = false) (h4 : decide (n = fuel) = false) (h5 : (0 : Int) ≤ 0 ∧ 0 < (rs.length : Int)) (h6 : rs[0]? = some (I r0)) (h7 : D.cleans [D.dat (T k1 n1 d)] = true) (h8 : den cfg kk 45 [D.dat (Dat.lst true es), D.dat (I 0)] [] [] = some ([D.dat (T k1 n1 d)], [], [])) (h9 : den cfg kk 67 [D.dat (T k1 n1 d), D.dat (I r0)] [] [] = some ([D.dat (T k2 n2 d2), D.dat (I left)], [], [])) (h10 : den cfg kk 43 [D.dat (T k2 n2 d2)] [] [] = some ([D.own 56 out, D.dat (B true)], [], [])) (hn : ∀ s : St, s.norm ((envOf cfg kk 31 Go.Proofs.Try.f31).live (firstRegion (lp Go.Proofs.Try.f31 3))) = Nm [0, 1, 7] [D.own 56 out, D.dat (I fuel), D.dat (I (w64 (n + 1)))] [none, none, none] [] [] → Rounds (envOf cfg kk 31 Go.Proofs.Try.f31) kk (lp Go.Proofs.Try.f31 3) m s K) : Rounds (envOf cfg kk 31 Go.Proofs.Try.f31) kk (lp Go.Proofs.Try.f31 3) (m + 1) s K :=
  rounds_go [(16, .ret [.own 3 rs]), (200019, .no), (200024, .no), (27, .ret [.dat (T k1 n1 d)]), (29, .ok), (30, .at (I r0)), (31, .ret [.dat (T k2 n2 d2), .dat (I left)]), (36, .ret [.own 56 out, .dat (B true)])] hs (by kernel_rfl) (ob h1 (ob h2 (ob h3 (ob h4 (ob h5 (ob h6 (ob h7 (ob h8 (ob h9 (ob h10 ob0)))))))))) (by kernel_rfl) hn
theorem lcNormal (kk : Nat) (es out : List Dat) (fuel c : Int) (r : Bool) (h2 : LoopAt cfg kk 31 Go.Proofs.Try.f31 3 (hd63 es fuel 0) X.ret (Nm [4, 5, 6] [D.own 56 out, D.dat (I c), D.dat (B r)] [none, none, none] [] [])) : runFn cfg kk (den cfg kk) 31 Go.Proofs.Try.f31 [.own 56 es, .dat (I fuel)] [] [] = some ([D.own 56 out, D.dat (I c), D.dat (B r)], [], []) :=
  hrun_ok [(300003, .loop (hd63 es fuel 0) .ret (Nm [4, 5, 6] [.own 56 out, .dat (I c), .dat (B r)] [none, none, none] [] []))] (ob (rfl : _ = hd63 es fuel 0) (ob h2 ob0)) (by kernel_rfl)
theorem NormalTerm_no1 (kk : Nat) (b : Bool) (es : List Dat) (fuel : Int) (h1 : den cfg kk 29 [D.dat (Dat.lst b es)] [] [] = some ([D.dat (B false)], [], [])) : runFn cfg kk (den cfg kk) 8 Go.Proofs.Try.f8 [.dat (Dat.lst b es), .dat (I fuel)] [] [] = some ([D.own 56 [], D.dat (I 0), D.dat (B false)], [], []) :=
  hrun_ok [(8, .ret [.dat (B false)])] (ob h1 ob0) (by kernel_rfl)
theorem NormalTerm_no2 (kk : Nat) (b : Bool) (es : List Dat) (fuel : Int) (h1 : den cfg kk 29 [D.dat (Dat.lst b es)] [] [] = some ([D.dat (B true)], [], [])) (h2 : den cfg kk 30 [D.dat (I fuel), D.dat (I 0), D.dat (I 1000)] [] [] = some ([D.dat (B false)], [], [])) : runFn cfg kk (den cfg kk) 8 Go.Proofs.Try.f8 [.dat (Dat.lst b es), .dat (I fuel)] [] [] = some ([D.own 56 [], D.dat (I 0), D.dat (B false)], [], []) :=
  hrun_ok [(8, .ret [.dat (B true)]), (12, .ret [.dat (B false)])] (ob h1 (ob h2 ob0)) (by kernel_rfl)
theorem NormalTerm_go (kk : Nat) (b : Bool) (es : List Dat) (fuel : Int) (out : List Dat) (c : Int) (r : Bool) (h1 : den cfg kk 29 [D.dat (Dat.lst b es)] [] [] = some ([D.dat (B true)], [], [])) (h2 : den cfg kk 30 [D.dat (I fuel), D.dat (I 0), D.dat (I 1000)] [] [] = some ([D.dat (B true)], [], [])) (h3 : (es.all fun d => d.cells.length.beq 3) = true ∧ 0 + es.length ≤ 2147483648) (h4 : den cfg kk 31 [D.own 56 ([] ++ es), D.dat (I fuel)] [] [] = some ([D.own 56 out, D.dat (I c), D.dat (B r)], [], [])) : runFn cfg kk (den cfg kk) 8 Go.Proofs.Try.f8 [.dat (Dat.lst b es), .dat (I fuel)] [] [] = some ([D.own 56 out, D.dat (I c), D.dat (B r)], [], []) :=
  hrun_ok [(8, .ret [.dat (B true)]), (12, .ret [.dat (B true)]), (17, .ok), (19, .back [.own 56 out, .dat (I c), .dat (B r)] [] [])] (ob h1 (ob h2 (ob h3 (ob h4 (ob (rfl : false = false) ob0))))) (by kernel_rfl)
theorem iNormal (kk : Nat) (b : Bool) (es : List Dat) (fuel : Int) (out : List Dat) (c : Int) (r : Bool) (h1 : den cfg kk 27 [D.dat (Dat.lst b es), D.dat (I fuel), D.fn 28 []] [] [] = some ([D.own 56 out, D.dat (I c), D.dat (B r)], [], [])) : runFn cfg kk (den cfg kk) 7 Go.Proofs.Try.f7 [.dat (Dat.lst b es), .dat (I fuel)] [] [] = some ([D.own 56 out, D.dat (I c), D.dat (B r)], [], []) :=
  hrun_ok [(9, .back [.own 56 out, .dat (I c), .dat (B r)] [] [])] (ob h1 (ob (rfl : false = false) ob0)) (by kernel_rfl)
theorem goneOn_no1_f (kk : Nat) (b : Bool) (es : List Dat) (fuel : Int) (k n : Int) (d : List Dat) (h1 : den cfg kk 32 [D.dat (Dat.lst b es)] [] [] = some ([D.dat (T k n d), D.dat (B false)], [], [])) : runFn cfg kk (den cfg kk) 27 Go.Proofs.Try.f27 [.dat (Dat.lst b es), .dat (I fuel), .fn 28 []] [] [] = some ([D.own 56 [], D.dat (I 0), D.dat (B false)], [], []) :=
  hrun_ok [(15, .ret [.dat (T k n d), .dat (B false)])] (ob h1 ob0) (by kernel_rfl)
theorem goneOn_no2_f (kk : Nat) (b : Bool) (es : List Dat) (fuel : Int) (k n : Int) (d : List Dat) (h1 : den cfg kk 32 [D.dat (Dat.lst b es)] [] [] = some ([D.dat (T k n d), D.dat (B true)], [], [])) (h2 : den cfg kk 63 [D.dat (I fuel)] [] [] = some ([D.dat (B false)], [], [])) : runFn cfg kk (den cfg kk) 27 Go.Proofs.Try.f27 [.dat (Dat.lst b es), .dat (I fuel), .fn 28 []] [] [] = some ([D.own 56 [], D.dat (I 0), D.dat (B false)], [], []) :=
  hrun_ok [(15, .ret [.dat (T k n d), .dat (B true)]), (22, .ret [.dat (B false)])] (ob h1 (ob h2 ob0)) (by kernel_rfl)
theorem goneOn_no3_f (kk : Nat) (b : Bool) (es : List Dat) (fuel : Int) (k n k2 n2 c : Int) (d d2 : List Dat) (h1 : den cfg kk 32 [D.dat (Dat.lst b es)] [] [] = some ([D.dat (T k n d), D.dat (B true)], [], [])) (h2 : den cfg kk 63 [D.dat (I fuel)] [] [] = some ([D.dat (B true)], [], [])) (h3 : den cfg kk 64 [D.dat (T k n d), D.dat (I fuel), D.fn 28 []] [] [] = some ([D.dat (T k2 n2 d2), D.dat (I c), D.dat (B false)], [], [])) : runFn cfg kk (den cfg kk) 27 Go.Proofs.Try.f27 [.dat (Dat.lst b es), .dat (I fuel), .fn 28 []] [] [] = some ([D.own 56 [], D.dat (I 0), D.dat (B false)], [], []) :=
  hrun_ok [(15, .ret [.dat (T k n d), .dat (B true)]), (22, .ret [.dat (B true)]), (29, .back [.dat (T k2 n2 d2), .dat (I c), .dat (B false)] [] [])] (ob h1 (ob h2 (ob h3 (ob (rfl : false = false) ob0)))) (by kernel_rfl)
theorem goneOn_go_f (kk : Nat) (b : Bool) (es : List Dat) (fuel : Int) (k n k2 n2 c : Int) (d d2 out : List Dat) (h1 : den cfg kk 32 [D.dat (Dat.lst b es)] [] [] = some ([D.dat (T k n d), D.dat (B true)], [], [])) (h2 : den cfg kk 63 [D.dat (I fuel)] [] [] = some ([D.dat (B true)], [], [])) (h3 : den cfg kk 64 [D.dat (T k n d), D.dat (I fuel), D.fn 28 []] [] [] = some ([D.dat (T k2 n2 d2), D.dat (I c), D.dat (B true)], [], [])) (h5 : den cfg kk 38 [D.dat (T k2 n2 d2)] [] [] = some ([D.own 56 out], [], [])) : runFn cfg kk (den cfg kk) 27 Go.Proofs.Try.f27 [.dat (Dat.lst b es), .dat (I fuel), .fn 28 []] [] [] = some ([D.own 56 out, D.dat (I c), D.dat (B true)], [], []) :=
  hrun_ok [(15, .ret [.dat (T k n d), .dat (B true)]), (22, .ret [.dat (B true)]), (29, .back [.dat (T k2 n2 d2), .dat (I c), .dat (B true)] [] []), (36, .ret [.own 56 out])] (ob h1 (ob h2 (ob h3 (ob (rfl : false = false) (ob h5 ob0))))) (by kernel_rfl)
def hd102f (fuel k n : Int) (ps : List Dat) (made : Int) : St := Nm [1, 2, 3, 6, 9] [.dat (I fuel), .fn 28 [], .ptr (.loc 3) 0, .ptr (.loc 6) 0, .dat (I made)] [none, none, some [.dat (I k), .dat (I n), .dat (.lst false ps)], some [.dat (I 0), .dat (I 0), .own 59 []], none] [] []
theorem goOn_done_f (kk m : Nat) {s : St} {K : X → St → Prop} (fuel k n : Int) (ps : List Dat) (made : Int) (x : Int) (hs : s.norm ((envOf cfg kk 64 Go.Proofs.Try.f64).live (firstRegion (lp Go.Proofs.Try.f64 3))) = hd102f fuel k n ps made) (h1 : den cfg kk 28 [D.dat (T k n ps)] [] [] = some ([D.dat (I x)], [], [])) (h2 : decide (x < 0) = true) (hK : K (X.ret) (Nm [6, 7, 8] [D.ptr (Ref.loc 6) 0, D.dat (I made), D.dat (B true)] [some [D.dat (I k), D.dat (I n), D.dat (Dat.lst false ps)], none, none] [] [])) : Rounds (envOf cfg kk 64 Go.Proofs.Try.f64) kk (lp Go.Proofs.Try.f64 3) (m + 1) s K :=
  rounds_end [(15, .ret [.dat (I x)]), (200016, .yes)] hs (by kernel_rfl) rfl (ob h1 (ob h2 ob0)) (by kernel_rfl) hK
theorem goOn_stop_f (kk m : Nat) {s : St} {K : X → St → Prop} (fuel k n : Int) (ps : List Dat) (made : Int) (x : Int) (hs : s.norm ((envOf cfg kk 64 Go.Proofs.Try.f64).live (firstRegion (lp Go.Proofs.Try.f64 3))) = hd102f fuel k n ps made) (h1 : den cfg kk 28 [D.dat (T k n ps)] [] [] = some ([D.dat (I x)], [], [])) (h2 : decide (x < 0) = false) (h3 : decide (made = fuel) = true) (hK : K (X.ret) (Nm [6, 7, 8] [D.ptr (Ref.loc 6) 0, D.dat (I 0), D.dat (B false)] [some [D.dat (I 0), D.dat (I 0), D.own 59 []], none, none] [] [])) : Rounds (envOf cfg kk 64 Go.Proofs.Try.f64) kk (lp Go.Proofs.Try.f64 3) (m + 1) s K :=
  rounds_end [(15, .ret [.dat (I x)]), (200016, .no), (200021, .yes)] hs (by kernel_rfl) rfl (ob h1 (ob h2 (ob h3 ob0))) (by kernel_rfl) hK
theorem goOn_bad_f (kk m : Nat) {s : St} {K : X → St → Prop} (fuel k n : Int) (ps : List Dat) (made : Int) (x k2 n2 : Int) (d2 : List Dat) (hs : s.norm ((envOf cfg kk 64 Go.Proofs.Try.f64).live (firstRegion (lp Go.Proofs.Try.f64 3))) = hd102f fuel k n ps made) (h1 : den cfg kk 28 [D.dat (T k n ps)] [] [] = some ([D.dat (I x)], [], [])) (h2 : decide (x < 0) = false) (h3 : decide (made = fuel) = false) (h4 : den cfg kk 35 [D.dat (T k n ps), D.dat (I x)] [] [] = some ([D.dat (T k2 n2 d2)], [], [])) (h5 : den cfg kk 69 [D.dat (T k2 n2 d2)] [] [] = some ([D.dat (B false)], [], [])) (hK : K (X.ret) (Nm [6, 7, 8] [D.ptr (Ref.loc 6) 0, D.dat (I 0), D.dat (B false)] [some [D.dat (I 0), D.dat (I 0), D.own 59 []], none, none] [] [])) : Rounds (envOf cfg kk 64 Go.Proofs.Try.f64) kk (lp Go.Proofs.Try.f64 3) (m + 1) s K :=
  rounds_end [(15, .ret [.dat (I x)]), (200016, .no), (200021, .no), (28, .ret [.dat (T k2 n2 d2)]), (30, .ret [.dat (B false)])] hs (by kernel_rfl) rfl (ob h1 (ob h2 (ob h3 (ob h4 (ob h5 ob0))))) (by kernel_rfl) hK
theorem goOn_go_f (kk m : Nat) {s : St} {K : X → St → Prop} (fuel k n : Int) (ps : List Dat) (made : Int) (x k2 n2 : Int) (d2 : List Dat) (hs : s.norm ((envOf cfg kk 64 Go.Proofs.Try.f64).live (firstRegion (lp Go.Proofs.Try.f64 3))) = hd102f fuel k n ps made) (h1 : den cfg kk 28 [D.dat (T k n ps)] [] [] = some ([D.dat (I x)], [], [])) (h2 : decide (x < 0) = false) (h3 : decide (made = fuel) = false) (h4 : den cfg kk 35 [D.dat (T k n ps), D.dat (I x)] [] [] = some ([D.dat (T k2 n2 d2)], [], [])) (h5 : den cfg kk 69 [D.dat (T k2 n2 d2)] [] [] = some ([D.dat (B true)], [], [])) (hn : ∀ s : St, s.norm ((envOf cfg kk 64 Go.Proofs.Try.f64).live (firstRegion (lp Go.Proofs.Try.f64 3))) = Nm [1, 2, 3, 6, 9] [D.dat (I fuel), D.fn 28 [], D.ptr (Ref.loc 3) 0, D.ptr (Ref.loc 6) 0, D.dat (I (w64 (made + 1)))] [none, none, some [D.dat (I k2), D.dat (I n2), D.dat (Dat.lst false d2)], some [D.dat (I 0), D.dat (I 0), D.own 59 []], none] [] [] → Rounds (envOf cfg kk 64 Go.Proofs.Try.f64) kk (lp Go.Proofs.Try.f64 3) m s K) : Rounds (envOf cfg kk 64 Go.Proofs.Try.f64) kk (lp Go.Proofs.Try.f64 3) (m + 1) s K :=
  rounds_go [(15, .ret [.dat (I x)]), (200016, .no), (200021, .no), (28, .ret [.dat (T k2 n2 d2)]), (30, .ret [.dat (B true)])] hs (by kernel_rfl) (ob h1 (ob h2 (ob h3 (ob h4 (ob h5 ob0))))) (by kernel_rfl) hn
theorem goOn_y_f (kk : Nat) (fuel k n c k2 n2 : Int) (ps d2 : List Dat) (r : Bool) (h2 : LoopAt cfg kk 64 Go.Proofs.Try.f64 3 (hd102f fuel k n ps 0) X.ret (Nm [6, 7, 8] [D.ptr (Ref.loc 6) 0, D.dat (I c), D.dat (B r)] [some [D.dat (I k2), D.dat (I n2), D.dat (Dat.lst false d2)], none, none] [] [])) : runFn cfg kk (den cfg kk) 64 Go.Proofs.Try.f64 [.dat (T k n ps), .dat (I fuel), .fn 28 []] [] [] = some ([D.dat (T k2 n2 d2), D.dat (I c), D.dat (B r)], [], []) :=
  hrun_ok [(300003, .loop (hd102f fuel k n ps 0) .ret (Nm [6, 7, 8] [.ptr (.loc 6) 0, .dat (I c), .dat (B r)] [some [.dat (I k2), .dat (I n2), .dat (.lst false d2)], none, none] [] []))] (ob (rfl : _ = hd102f fuel k n ps 0) (ob h2 ob0)) (by kernel_rfl)
theorem goOn_n_f (kk : Nat) (fuel k n c : Int) (ps : List Dat) (r : Bool) (h2 : LoopAt cfg kk 64 Go.Proofs.Try.f64 3 (hd102f fuel k n ps 0) X.ret (Nm [6, 7, 8] [D.ptr (Ref.loc 6) 0, D.dat (I c), D.dat (B r)] [some [D.dat (I 0), D.dat (I 0), D.own 59 []], none, none] [] [])) : runFn cfg kk (den cfg kk) 64 Go.Proofs.Try.f64 [.dat (T k n ps), .dat (I fuel), .fn 28 []] [] [] = some ([D.dat (T 0 0 []), D.dat (I c), D.dat (B r)], [], []) :=
  hrun_ok [(300003, .loop (hd102f fuel k n ps 0) .ret (Nm [6, 7, 8] [.ptr (.loc 6) 0, .dat (I c), .dat (B r)] [some [.dat (I 0), .dat (I 0), .own 59 []], none, none] [] []))] (ob (rfl : _ = hd102f fuel k n ps 0) (ob h2 ob0)) (by kernel_rfl)
theorem firstRedex_y (kk : Nat) (k n x : Int) (d rs : List Dat) (h1 : den cfg kk 33 [D.dat (T k n d), D.dat (I 0)] [] [] = some ([D.own 3 rs], [], [])) (h2 : decide (0 < (rs.length : Int)) = true) (h3 : (0 : Int) ≤ 0 ∧ 0 < (rs.length : Int)) (h4 : rs[0]? = some (I x)) : runFn cfg kk (den cfg kk) 28 Go.Proofs.Try.f28 [.dat (T k n d)] [] [] = some ([D.dat (I x)], [], []) :=
  hrun_ok [(5, .ret [.own 3 rs]), (200008, .yes), (10, .ok), (11, .at (I x))] (ob h1 (ob h2 (ob h3 (ob h4 ob0)))) (by kernel_rfl)
theorem firstRedex_n (kk : Nat) (k n : Int) (d rs : List Dat) (h1 : den cfg kk 33 [D.dat (T k n d), D.dat (I 0)] [] [] = some ([D.own 3 rs], [], [])) (h2 : decide (0 < (rs.length : Int)) = false) : runFn cfg kk (den cfg kk) 28 Go.Proofs.Try.f28 [.dat (T k n d)] [] [] = some ([D.dat (I (-1))], [], []) :=
  hrun_ok [(5, .ret [.own 3 rs]), (200008, .no)] (ob h1 (ob h2 ob0)) (by kernel_rfl)
theorem isFuel_n (kk : Nat) (x : Int) (h1 : decide (0 ≤ x) = false) : runFn cfg kk (den cfg kk) 63 Go.Proofs.Try.f63 [.dat (I x)] [] [] = some ([D.dat (B false)], [], []) :=
  hrun_ok [(200005, .no)] (ob h1 (ob (rfl : false = false) ob0)) (by kernel_rfl)
theorem isFuel_y (kk : Nat) (x : Int) (h1 : decide (0 ≤ x) = true) : runFn cfg kk (den cfg kk) 63 Go.Proofs.Try.f63 [.dat (I x)] [] [] = some ([D.dat (B (decide (x ≤ 1000)))], [], []) :=
  hrun_ok [(200005, .yes)] (ob h1 (ob (rfl : true = true) ob0)) (by kernel_rfl)
end Go.Den
namespace Go.Den
open Go
set_option linter.unusedVariables false
set_option maxRecDepth 100000
/-- A term reduced again and again, where 'nx' says; with so much fuel. -/
def goOnP (nx : Pt → Option Nat) : Nat → Pt → Option (Pt × Nat)
  | 0, t => match nx t with | none => some (t, 0) | some _ => none
  | f + 1, t => match nx t with | none => some (t, 0) | some r => if (red t r).good = true then (goOnP nx f (red t r)).map fun q => (q.1, q.2 + 1) else none
theorem goOnP_good {nx : Pt → Option Nat} : ∀ {f : Nat} {t : Pt} {q : Pt × Nat}, t.good = true → goOnP nx f t = some q → q.1.good = true ∧ q.2 ≤ f
  | 0, t, q, hg, h => by
    unfold goOnP at h
    split at h
    · cases h; exact ⟨hg, Nat.le_refl _⟩
    · cases h
  | f + 1, t, q, hg, h => by
    unfold goOnP at h
    split at h
    · cases h; exact ⟨hg, by omega⟩
    · split at h
      · rename_i hr
        obtain ⟨p, hp, rfl⟩ := Option.map_eq_some_iff.1 h
        have := goOnP_good hr hp
        exact ⟨this.1, by simp only; omega⟩
      · cases h
def firstR (t : Pt) : Option Nat := (rx t 0).head?
theorem ins_clean (rs : List Nat) : D.cleans [.own 3 (rs.map IN)] = true := by
  have : ∀ rs : List Nat, Dat.cleans (rs.map IN) = true := fun rs => by
    induction rs with
    | nil => rfl
    | cons r rs ih => simp only [List.map_cons, Dat.cleans, ih]; rfl
  simp only [D.cleans, D.clean, this]
  rfl
/-- What the reference's loop leaves. -/
def outS (made : Nat) : Option (Pt × Nat) → St
  | some q => Nm [4, 5, 6] [.own 56 ((q.1.flat 0 (-1)).map Nd.d), .dat (I ((made + q.2 : Nat) : Int)), .dat (B true)] [none, none, none] [] []
  | none => Nm [4, 5, 6] [.own 56 [], .dat (I 0), .dat (B false)] [none, none, none] [] []
theorem normal_rounds (kk : Nat) (hkk : 1005000 ≤ kk) (fuel : Nat) (hf : fuel ≤ 1000) : ∀ (f made : Nat) (t : Pt) (m : Nat) (s : St) (K : X → St → Prop), t.good = true → made + f = fuel → f < m →
    s.norm ((envOf cfg kk 31 Go.Proofs.Try.f31).live (firstRegion (lp Go.Proofs.Try.f31 3))) = hd63 ((t.flat 0 (-1)).map Nd.d) fuel made → K .ret (outS made (goOnP firstR f t)) → Rounds (envOf cfg kk 31 Go.Proofs.Try.f31) kk (lp Go.Proofs.Try.f31 3) m s K := by
  have hround : ∀ (f made : Nat) (t : Pt) (m : Nat) (s : St) (K : X → St → Prop), t.good = true → made + f = fuel →
      s.norm ((envOf cfg kk 31 Go.Proofs.Try.f31).live (firstRegion (lp Go.Proofs.Try.f31 3))) = hd63 ((t.flat 0 (-1)).map Nd.d) fuel made →
      (firstR t = none → K .ret (outS made (some (t, 0)))) → (∀ r, firstR t = some r → f = 0 → K .ret (outS made none)) → (∀ r, firstR t = some r → f ≠ 0 → (red t r).good = false → K .ret (outS made none)) →
      (∀ r, firstR t = some r → f ≠ 0 → (red t r).good = true → ∀ s : St, s.norm ((envOf cfg kk 31 Go.Proofs.Try.f31).live (firstRegion (lp Go.Proofs.Try.f31 3))) = hd63 (((red t r).flat 0 (-1)).map Nd.d) fuel ((made + 1 : Nat) : Int) → Rounds (envOf cfg kk 31 Go.Proofs.Try.f31) kk (lp Go.Proofs.Try.f31 3) m s K) →
      Rounds (envOf cfg kk 31 Go.Proofs.Try.f31) kk (lp Go.Proofs.Try.f31 3) (m + 1) s K := by
    intro f made t m s K hg hfm hs k1 k2 k3 k4
    have hsm : small t := good_small hg
    have a1 := ev_lcRedexes t true hsm.1 kk (by omega)
    have hcl := ins_clean (rx t 0)
    have hrl := rx_length t 0
    cases hrs : rx t 0 with
    | nil =>
      have hn : firstR t = none := by unfold firstR; rw [hrs]; rfl
      rw [hrs] at a1 hcl
      exact lcNormal_done kk m _ _ _ _ hs hcl a1 (decide_eq_true (by simp)) (k1 hn)
    | cons r rs =>
      have hn : firstR t = some r := by unfold firstR; rw [hrs]; rfl
      rw [hrs] at a1 hcl
      have hne : decide (((((r :: rs).map IN).length : Nat) : Int) = 0) = false := decide_eq_false (by simp; omega)
      by_cases h0 : f = 0
      · exact lcNormal_stop kk m _ _ _ _ hs hcl a1 hne (decide_eq_true (by omega)) (k2 r hn h0)
      · obtain ⟨_, h3, h4⟩ := rx_range t 0 r (by rw [hrs]; simp)
        have h4 : rxAt t r = true := by simpa using h4
        have hz := red_size t r h4 hsm.1
        have a2 := ev_tree true ((termOfP_iff _ t).2 ⟨hg, rfl⟩) kk (by omega)
        have a3 := ev_lcAt 40 t r hsm.2.1 hsm (by have := hsm.1; omega) (fun _ => h4) kk (by omega)
        rw [if_pos (by omega)] at a3
        have a4 := ev_lcTold (red t r) (by have := hsm.1; omega) kk (by have := hsm.2.1; omega)
        have hct := clean1 t
        rw [Pt.d_eq t] at a2
        rw [Pt.d_eq t, Pt.d_eq (red t r)] at a3
        rw [Pt.d_eq (red t r)] at a4
        cases hgr : (red t r).good with
        | false =>
          rw [hgr] at a4
          exact lcNormal_bad kk m _ _ _ _ _ _ _ _ _ _ _ _ _ hs hcl a1 hne (decide_eq_false (by omega)) ⟨by decide, by simp⟩ rfl hct a2 a3 a4 (k3 r hn h0 hgr)
        | true =>
          rw [hgr, if_pos rfl] at a4
          refine lcNormal_go kk m _ _ _ _ _ _ _ _ _ _ _ _ _ hs hcl a1 hne (decide_eq_false (by omega)) ⟨by decide, by simp⟩ rfl hct a2 a3 a4 fun s' hs' => k4 r hn h0 hgr s' ?_
          rw [hs', w64_eq (by omega)]
          rfl
  intro f
  induction f with
  | zero =>
    intro made t m s K hg hfm hm hs hK
    obtain ⟨m, rfl⟩ : ∃ j, m = j + 1 := ⟨m - 1, by omega⟩
    refine hround 0 made t m s K hg hfm hs (fun h => ?_) (fun r h _ => ?_) (fun r h h0 => (h0 rfl).elim) (fun r h h0 => (h0 rfl).elim)
    · unfold goOnP at hK
      rw [h] at hK
      exact hK
    · unfold goOnP at hK
      rw [h] at hK
      exact hK
  | succ f ih =>
    intro made t m s K hg hfm hm hs hK
    obtain ⟨m, rfl⟩ : ∃ j, m = j + 1 := ⟨m - 1, by omega⟩
    refine hround (f + 1) made t m s K hg hfm hs (fun h => ?_) (fun r h h0 => by omega) (fun r h _ hgr => ?_) (fun r h _ hgr s' hs' => ?_)
    · unfold goOnP at hK
      rw [h] at hK
      exact hK
    · unfold goOnP at hK
      rw [h] at hK
      simp only [hgr] at hK
      exact hK
    · refine ih (made + 1) (red t r) m s' K hgr (by omega) (by omega) hs' ?_
      unfold goOnP at hK
      rw [h] at hK
      simp only [hgr, if_true] at hK
      cases hq : goOnP firstR f (red t r) with
      | none => rw [hq] at hK; exact hK
      | some q =>
        rw [hq] at hK
        simp only [Option.map_some, outS] at hK
        simp only [outS]
        rw [show made + 1 + q.2 = made + (q.2 + 1) by omega]
        exact hK
/-- What both sides come to. -/
def goneN (nx : Pt → Option Nat) (L : List Nd) (v : Int) : List Nd × Nat × Bool :=
  match termOfP L with
  | some t => if 0 ≤ v ∧ v ≤ 1000 then (match goOnP nx v.toNat t with | some q => (q.1.flat 0 (-1), q.2, true) | none => ([], 0, false)) else ([], 0, false)
  | none => ([], 0, false)
theorem ev_sNormal (L : List Nd) (b : Bool) (v : Int) (hL : L.length ≤ 1048576) : EvN 1006000 8 [.dat (.lst b (L.map Nd.d)), .dat (I v)] [] [] ([.own 56 ((goneN firstR L v).1.map Nd.d), .dat (I (goneN firstR L v).2.1), .dat (B (goneN firstR L v).2.2)], [], []) := by
  refine (ev_fn Go.Proofs.Try.f8 1005900 (by kernel_rfl) (by kernel_rfl) fun kk hkk => ?_).mono (by omega)
  have g := ev_GoodTerm L b hL kk (by omega)
  have hin := ev_l1In v 0 1000 kk (by omega)
  rw [goodS_term] at g
  unfold goneN
  cases h1 : termOfP L with
  | none =>
    rw [h1] at g
    exact NormalTerm_no1 kk b _ v g
  | some t =>
    rw [h1] at g
    have hgt := (termOfP_iff L t).1 h1
    have hlen : L.length ≤ 150 := by
      rw [hgt.2, Pt.flat_length]
      exact (good_small hgt.1).1
    simp only
    cases hk : (decide (0 ≤ v) && decide (v ≤ 1000)) with
    | false =>
      rw [hk] at hin
      rw [if_neg (fun h => by simp [h.1, h.2] at hk)]
      exact NormalTerm_no2 kk b _ v g hin
    | true =>
      rw [hk] at hin
      have hk' : 0 ≤ v ∧ v ≤ 1000 := by simpa using hk
      rw [if_pos hk']
      obtain ⟨fu, rfl⟩ : ∃ fu : Nat, v = fu := ⟨v.toNat, by omega⟩
      rw [show ((fu : Int)).toNat = fu by simp]
      have hnorm : ∀ (out : List Nd) (c : Nat) (r : Bool), outS 0 (goOnP firstR fu t) = Nm [4, 5, 6] [.own 56 (out.map Nd.d), .dat (I (c : Int)), .dat (B r)] [none, none, none] [] [] →
          den cfg kk 31 [.own 56 ([] ++ L.map Nd.d), .dat (I fu)] [] [] = some ([.own 56 (out.map Nd.d), .dat (I (c : Int)), .dat (B r)], [], []) := fun out c r ho => by
        refine (ev_fn Go.Proofs.Try.f31 1005800 (by kernel_rfl) (by kernel_rfl) fun k2 hk2 => ?_) kk (by omega)
        refine lcNormal k2 _ _ _ _ _ (loopOb_of fun s hs => ?_)
        rw [List.nil_append, hgt.2] at hs
        exact normal_rounds k2 (by omega) fu (by omega) fu 0 t k2 s _ hgt.1 (by omega) (by omega) hs ⟨rfl, by rw [ho]⟩
      have hall : ((L.map Nd.d).all fun d => d.cells.length.beq 3) = true := by
        rw [List.all_eq_true]
        intro x hx
        obtain ⟨y, _, rfl⟩ := List.mem_map.1 hx
        rfl
      cases hq : goOnP firstR fu t with
      | none => exact NormalTerm_go kk b _ _ _ _ _ g hin ⟨hall, by simp; omega⟩ (hnorm [] 0 false (by rw [hq]; rfl))
      | some q => exact NormalTerm_go kk b _ _ _ _ _ g hin ⟨hall, by simp; omega⟩ (hnorm (q.1.flat 0 (-1)) q.2 true (by rw [hq]; simp [outS]))
end Go.Den
namespace Go.Den
open Go
set_option linter.unusedVariables false
set_option maxRecDepth 100000
/-- What the program's loop leaves. -/
def outI (made : Nat) : Option (Pt × Nat) → St
  | some q => Nm [6, 7, 8] [.ptr (.loc 6) 0, .dat (I ((made + q.2 : Nat) : Int)), .dat (B true)] [some [.dat (I q.1.kd), .dat (I q.1.num), .dat (.lst false (q.1.kids.map Pt.d))], none, none] [] []
  | none => Nm [6, 7, 8] [.ptr (.loc 6) 0, .dat (I 0), .dat (B false)] [some [.dat (I 0), .dat (I 0), .own 59 []], none, none] [] []
/-- The number that a function value tells: of a redex, or less than 0. -/
def nxI : Option Nat → Int → Prop
  | some r, x => x = r
  | none, x => x < 0
theorem goOn_rounds_f (nx : Pt → Option Nat) (kk : Nat) (hkk : 4000 ≤ kk) (fuel : Nat) (hf : fuel ≤ 1000)
    (P : Pt → Prop) (hnx : ∀ t, P t → t.good = true → ∃ x : Int, den cfg kk 28 [.dat (T t.kd t.num (t.kids.map Pt.d))] [] [] = some ([.dat (I x)], [], []) ∧ nxI (nx t) x)
    (hrx : ∀ t r, P t → t.good = true → nx t = some r → rxAt t r = true ∧ r < t.size) (hP : ∀ t r, P t → t.good = true → nx t = some r → (red t r).good = true → P (red t r)) :
    ∀ (f made : Nat) (t : Pt) (m : Nat) (s : St) (K : X → St → Prop), P t → t.good = true → made + f = fuel → f < m →
    s.norm ((envOf cfg kk 64 Go.Proofs.Try.f64).live (firstRegion (lp Go.Proofs.Try.f64 3))) = hd102f fuel t.kd t.num (t.kids.map Pt.d) made → K .ret (outI made (goOnP nx f t)) → Rounds (envOf cfg kk 64 Go.Proofs.Try.f64) kk (lp Go.Proofs.Try.f64 3) m s K := by
  have hround : ∀ (f made : Nat) (t : Pt) (m : Nat) (s : St) (K : X → St → Prop), P t → t.good = true → made + f = fuel →
      s.norm ((envOf cfg kk 64 Go.Proofs.Try.f64).live (firstRegion (lp Go.Proofs.Try.f64 3))) = hd102f fuel t.kd t.num (t.kids.map Pt.d) made →
      (nx t = none → K .ret (outI made (some (t, 0)))) → (∀ r, nx t = some r → f = 0 → K .ret (outI made none)) → (∀ r, nx t = some r → f ≠ 0 → (red t r).good = false → K .ret (outI made none)) →
      (∀ r, nx t = some r → f ≠ 0 → (red t r).good = true → ∀ s : St, s.norm ((envOf cfg kk 64 Go.Proofs.Try.f64).live (firstRegion (lp Go.Proofs.Try.f64 3))) = hd102f fuel (red t r).kd (red t r).num ((red t r).kids.map Pt.d) ((made + 1 : Nat) : Int) → Rounds (envOf cfg kk 64 Go.Proofs.Try.f64) kk (lp Go.Proofs.Try.f64 3) m s K) →
      Rounds (envOf cfg kk 64 Go.Proofs.Try.f64) kk (lp Go.Proofs.Try.f64 3) (m + 1) s K := by
    intro f made t m s K hPt hg hfm hs k1 k2 k3 k4
    have hsm : small t := good_small hg
    obtain ⟨x, a1, hx⟩ := hnx t hPt hg
    cases hn : nx t with
    | none =>
      rw [hn] at hx
      have hx : x < 0 := hx
      exact goOn_done_f kk m _ _ _ _ _ x hs a1 (decide_eq_true hx) (k1 hn)
    | some r =>
      rw [hn] at hx
      have hx : x = r := hx
      subst hx
      have hlt : decide ((r : Int) < 0) = false := decide_eq_false (by omega)
      by_cases h0 : f = 0
      · exact goOn_stop_f kk m _ _ _ _ _ _ hs a1 hlt (decide_eq_true (by omega)) (k2 r hn h0)
      · obtain ⟨h4, h3⟩ := hrx t r hPt hg hn
        have hz := red_size t r h4 hsm.1
        have a3 := ev_reduceAt 40 t r hsm.2.1 hsm h4 h3 kk (by omega)
        have a4 := ev_good (red t r) (by have := hsm.1; omega) 80 (by have := hsm.2.1; omega) kk (by omega)
        rw [Pt.d_eq t, Pt.d_eq (red t r)] at a3
        rw [Pt.d_eq (red t r)] at a4
        cases hgr : (red t r).good with
        | false =>
          rw [hgr] at a4
          exact goOn_bad_f kk m _ _ _ _ _ _ _ _ _ hs a1 hlt (decide_eq_false (by omega)) a3 a4 (k3 r hn h0 hgr)
        | true =>
          rw [hgr] at a4
          refine goOn_go_f kk m _ _ _ _ _ _ _ _ _ hs a1 hlt (decide_eq_false (by omega)) a3 a4 fun s' hs' => k4 r hn h0 hgr s' ?_
          rw [hs', w64_eq (by omega)]
          rfl
  intro f
  induction f with
  | zero =>
    intro made t m s K hPt hg hfm hm hs hK
    obtain ⟨m, rfl⟩ : ∃ j, m = j + 1 := ⟨m - 1, by omega⟩
    refine hround 0 made t m s K hPt hg hfm hs (fun h => ?_) (fun r h _ => ?_) (fun r h h0 => (h0 rfl).elim) (fun r h h0 => (h0 rfl).elim)
    · unfold goOnP at hK
      rw [h] at hK
      exact hK
    · unfold goOnP at hK
      rw [h] at hK
      exact hK
  | succ f ih =>
    intro made t m s K hPt hg hfm hm hs hK
    obtain ⟨m, rfl⟩ : ∃ j, m = j + 1 := ⟨m - 1, by omega⟩
    refine hround (f + 1) made t m s K hPt hg hfm hs (fun h => ?_) (fun r h h0 => by omega) (fun r h _ hgr => ?_) (fun r h _ hgr s' hs' => ?_)
    · unfold goOnP at hK
      rw [h] at hK
      exact hK
    · unfold goOnP at hK
      rw [h] at hK
      simp only [hgr] at hK
      exact hK
    · refine ih (made + 1) (red t r) m s' K (hP t r hPt hg h hgr) hgr (by omega) (by omega) hs' ?_
      unfold goOnP at hK
      rw [h] at hK
      simp only [hgr, if_true] at hK
      cases hq : goOnP nx f (red t r) with
      | none => rw [hq] at hK; exact hK
      | some q =>
        rw [hq] at hK
        simp only [Option.map_some, outI] at hK
        simp only [outI]
        rw [show made + 1 + q.2 = made + (q.2 + 1) by omega]
        exact hK
theorem ev_firstRedex (t : Pt) (hg : t.good = true) (kk : Nat) (hkk : 500 ≤ kk) : ∃ x : Int, den cfg kk 28 [.dat (T t.kd t.num (t.kids.map Pt.d))] [] [] = some ([.dat (I x)], [], []) ∧ nxI (firstR t) x := by
  have hsm : small t := good_small hg
  have hrl := rx_length t 0
  unfold firstR
  cases hrs : rx t 0 with
  | nil =>
    refine ⟨-1, ?_, by show (-1 : Int) < 0; decide⟩
    refine (ev_fn Go.Proofs.Try.f28 400 (by kernel_rfl) (by kernel_rfl) fun k2 hk2 => ?_) kk (by omega)
    have a1 := ev_redexes 40 t 0 hsm.2.1 hsm.1 (by omega) (by have := hsm.1; omega) k2 (by omega)
    rw [hrs, Pt.d_eq t] at a1
    exact firstRedex_n k2 _ _ _ _ a1 (decide_eq_false (by simp))
  | cons r rs =>
    refine ⟨r, ?_, rfl⟩
    refine (ev_fn Go.Proofs.Try.f28 400 (by kernel_rfl) (by kernel_rfl) fun k2 hk2 => ?_) kk (by omega)
    have a1 := ev_redexes 40 t 0 hsm.2.1 hsm.1 (by omega) (by have := hsm.1; omega) k2 (by omega)
    rw [hrs, Pt.d_eq t] at a1
    exact firstRedex_y k2 _ _ _ _ _ a1 (decide_eq_true (by simp)) ⟨by decide, by simp⟩ rfl
theorem firstR_rx {t : Pt} {r : Nat} (h : firstR t = some r) : rxAt t r = true ∧ r < t.size := by
  unfold firstR at h
  obtain ⟨_, h3, h4⟩ := rx_range t 0 r (List.mem_of_mem_head? h)
  exact ⟨by simpa using h4, by omega⟩
theorem ev_isFuel (v : Int) : EvN 1 63 [.dat (I v)] [] [] ([.dat (B (decide (0 ≤ v) && decide (v ≤ 1000)))], [], []) := by
  refine ev_fn Go.Proofs.Try.f63 0 (by kernel_rfl) (by kernel_rfl) fun kk _ => ?_
  by_cases h : 0 ≤ v
  · rw [isFuel_y kk v (decide_eq_true h), decide_eq_true h, Bool.true_and]
  · rw [isFuel_n kk v (decide_eq_false h), decide_eq_false h, Bool.false_and]
theorem ev_iNormal (L : List Nd) (b : Bool) (v : Int) (hL : L.length ≤ 1048576) : EvN 6000 7 [.dat (.lst b (L.map Nd.d)), .dat (I v)] [] [] ([.own 56 ((goneN firstR L v).1.map Nd.d), .dat (I (goneN firstR L v).2.1), .dat (B (goneN firstR L v).2.2)], [], []) := by
  refine (ev_fn Go.Proofs.Try.f7 5900 (by kernel_rfl) (by kernel_rfl) fun k1 hk1 => ?_).mono (by omega)
  refine iNormal k1 b _ v _ _ _ ?_
  refine (ev_fn Go.Proofs.Try.f27 5800 (by kernel_rfl) (by kernel_rfl) fun kk hkk => ?_) k1 (by omega)
  obtain ⟨hy, hn⟩ := ev_termOf L b hL
  have hin := ev_isFuel v kk (by omega)
  unfold goneN
  cases h1 : termOfP L with
  | none =>
    obtain ⟨k1, n1, d1, e1⟩ := hn h1
    exact goneOn_no1_f kk b _ v _ _ _ (e1 kk (by omega))
  | some t =>
    have a1 := hy t h1 kk (by omega)
    have hgt := ((termOfP_iff L t).1 h1).1
    rw [Pt.d_eq] at a1
    simp only
    cases hk : (decide (0 ≤ v) && decide (v ≤ 1000)) with
    | false =>
      rw [hk] at hin
      rw [if_neg (fun h => by simp [h.1, h.2] at hk)]
      exact goneOn_no2_f kk b _ v _ _ _ a1 hin
    | true =>
      rw [hk] at hin
      have hk' : 0 ≤ v ∧ v ≤ 1000 := by simpa using hk
      rw [if_pos hk']
      obtain ⟨fu, rfl⟩ : ∃ fu : Nat, v = fu := ⟨v.toNat, by omega⟩
      rw [show ((fu : Int)).toNat = fu by simp]
      have hloop : ∀ k2, 5000 ≤ k2 → LoopAt cfg k2 64 Go.Proofs.Try.f64 3 (hd102f fu t.kd t.num (t.kids.map Pt.d) 0) X.ret (outI 0 (goOnP firstR fu t)) := fun k2 hk2 => loopOb_of fun s hs =>
        goOn_rounds_f firstR k2 (by omega) fu (by omega) (fun _ => True) (fun t _ hg => ev_firstRedex t hg k2 (by omega)) (fun t r _ _ h => firstR_rx h) (fun _ _ _ _ _ _ => trivial) fu 0 t k2 s _ trivial hgt (by omega) (by omega) hs ⟨rfl, rfl⟩
      cases hq : goOnP firstR fu t with
      | none =>
        rw [hq] at hloop
        refine goneOn_no3_f kk b _ _ _ _ 0 0 0 _ [] a1 hin ?_
        refine (ev_fn Go.Proofs.Try.f64 5000 (by kernel_rfl) (by kernel_rfl) fun k2 hk2 => ?_) kk (by omega)
        exact goOn_n_f k2 _ _ _ 0 _ false (hloop k2 hk2)
      | some q =>
        rw [hq] at hloop
        have hgq := good_small (goOnP_good hgt hq).1
        have a5 := ev_nodes q.1 (by omega) kk (by omega)
        rw [Pt.d_eq q.1] at a5
        refine goneOn_go_f kk b _ _ _ _ _ _ _ _ _ _ a1 hin ?_ a5
        refine (ev_fn Go.Proofs.Try.f64 5000 (by kernel_rfl) (by kernel_rfl) fun k2 hk2 => ?_) kk (by omega)
        have hl := hloop k2 hk2
        simp only [outI, Nat.zero_add] at hl
        exact goOn_y_f k2 _ _ _ _ _ _ _ _ true hl
end Go.Den
namespace Go.Den
open Go
set_option linter.unusedVariables false
set_option maxRecDepth 100000
/-- What a good term's nodes are, if it is good. -/
def told (t : Pt) : List Nd × Bool := (if t.good = true then t.flat 0 (-1) else [], t.good)
end Go.Den
namespace Go.Den
open Go
set_option linter.unusedVariables false
set_option maxRecDepth 100000
/-- The number of the redex that is reduced next, by value or by name. -/
def nx (v : Bool) : Pt → Option Nat
  | .var _ => none
  | .lam _ _ => none
  | .app _ x y => if x.kd ≠ 2 then (nx v x).map (1 + ·) else if v = true ∧ y.kd ≠ 2 then (nx v y).map (1 + x.size + ·) else some 0
theorem own_clean3 (L : List Nd) (n : Int) (r : Bool) : D.cleans [.own 56 (L.map Nd.d), .dat (I n), .dat (B r)] = true := by
  simp only [D.cleans, D.clean, nds_clean]
  rfl
end Go.Den
namespace Go.Den
inductive Tm where
  | var (n : Nat)
  | lam (t : Tm)
  | app (a b : Tm)
namespace Tm
def upr (r : Nat → Nat) : Nat → Nat
  | 0 => 0
  | n + 1 => r n + 1
def ren (r : Nat → Nat) : Tm → Tm
  | .var n => .var (r n)
  | .lam t => .lam (ren (upr r) t)
  | .app a b => .app (ren r a) (ren r b)
def ups (σ : Nat → Tm) : Nat → Tm
  | 0 => .var 0
  | n + 1 => ren Nat.succ (σ n)
def sb (σ : Nat → Tm) : Tm → Tm
  | .var n => σ n
  | .lam t => .lam (sb (ups σ) t)
  | .app a b => .app (sb σ a) (sb σ b)
def inst (s : Tm) : Nat → Tm
  | 0 => s
  | n + 1 => .var n
theorem upr_ext {r s : Nat → Nat} (h : ∀ n, r n = s n) : ∀ n, upr r n = upr s n
  | 0 => rfl
  | n + 1 => by simp only [upr, h n]
theorem ren_ext : ∀ (t : Tm) {r s : Nat → Nat}, (∀ n, r n = s n) → ren r t = ren s t
  | .var n, r, s, h => by simp only [ren, h n]
  | .lam t, r, s, h => by simp only [ren, ren_ext t (upr_ext h)]
  | .app a b, r, s, h => by simp only [ren, ren_ext a h, ren_ext b h]
theorem ups_ext {σ τ : Nat → Tm} (h : ∀ n, σ n = τ n) : ∀ n, ups σ n = ups τ n
  | 0 => rfl
  | n + 1 => by simp only [ups, h n]
theorem sb_ext : ∀ (t : Tm) {σ τ : Nat → Tm}, (∀ n, σ n = τ n) → sb σ t = sb τ t
  | .var n, σ, τ, h => h n
  | .lam t, σ, τ, h => by simp only [sb, sb_ext t (ups_ext h)]
  | .app a b, σ, τ, h => by simp only [sb, sb_ext a h, sb_ext b h]
theorem ren_ren : ∀ (t : Tm) (r s : Nat → Nat), ren r (ren s t) = ren (fun n => r (s n)) t
  | .var n, r, s => rfl
  | .lam t, r, s => by
    simp only [ren, ren_ren t]
    rw [ren_ext t (s := upr fun n => r (s n)) (fun n => by cases n <;> rfl)]
  | .app a b, r, s => by simp only [ren, ren_ren a, ren_ren b]
theorem sb_ren : ∀ (t : Tm) (σ : Nat → Tm) (r : Nat → Nat), sb σ (ren r t) = sb (fun n => σ (r n)) t
  | .var n, σ, r => rfl
  | .lam t, σ, r => by
    simp only [ren, sb, sb_ren t]
    rw [sb_ext t (τ := ups fun n => σ (r n)) (fun n => by cases n <;> rfl)]
  | .app a b, σ, r => by simp only [ren, sb, sb_ren a, sb_ren b]
theorem ren_sb : ∀ (t : Tm) (r : Nat → Nat) (σ : Nat → Tm), ren r (sb σ t) = sb (fun n => ren r (σ n)) t
  | .var n, r, σ => rfl
  | .lam t, r, σ => by
    simp only [ren, sb, ren_sb t]
    rw [sb_ext t (τ := ups fun n => ren r (σ n)) (fun n => by
      cases n with
      | zero => rfl
      | succ n => simp only [ups, ren_ren]; exact ren_ext _ fun _ => rfl)]
  | .app a b, r, σ => by simp only [ren, sb, ren_sb a, ren_sb b]
theorem sb_sb : ∀ (t : Tm) (σ τ : Nat → Tm), sb σ (sb τ t) = sb (fun n => sb σ (τ n)) t
  | .var n, σ, τ => rfl
  | .lam t, σ, τ => by
    simp only [sb, sb_sb t]
    rw [sb_ext t (τ := ups fun n => sb σ (τ n)) (fun n => by
      cases n with
      | zero => rfl
      | succ n => simp only [ups, sb_ren, ren_sb])]
  | .app a b, σ, τ => by simp only [sb, sb_sb a, sb_sb b]
theorem sb_id : ∀ (t : Tm) {σ : Nat → Tm}, (∀ n, σ n = .var n) → sb σ t = t
  | .var n, σ, h => h n
  | .lam t, σ, h => by
    simp only [sb]
    rw [sb_id t (fun n => by cases n with | zero => rfl | succ n => simp only [ups, h n]; rfl)]
  | .app a b, σ, h => by simp only [sb, sb_id a h, sb_id b h]
theorem ren_as_sb : ∀ (t : Tm) (r : Nat → Nat), ren r t = sb (fun n => .var (r n)) t
  | .var n, r => rfl
  | .lam t, r => by
    simp only [ren, sb, ren_as_sb t]
    rw [sb_ext t (τ := ups fun n => .var (r n)) (fun n => by cases n <;> rfl)]
  | .app a b, r => by simp only [ren, sb, ren_as_sb a, ren_as_sb b]
theorem ren_inst (r : Nat → Nat) (s : Tm) (t : Tm) : ren r (sb (inst s) t) = sb (inst (ren r s)) (ren (upr r) t) := by
  rw [ren_sb, sb_ren]
  exact sb_ext t fun n => by cases n <;> rfl
theorem sb_inst (σ : Nat → Tm) (s : Tm) (t : Tm) : sb σ (sb (inst s) t) = sb (inst (sb σ s)) (sb (ups σ) t) := by
  rw [sb_sb, sb_sb]
  refine sb_ext t fun n => ?_
  cases n with
  | zero => rfl
  | succ n =>
    simp only [inst, ups, sb, sb_ren]
    exact (sb_id _ fun _ => rfl).symm
/-- Redexes reduced at once. -/
inductive Par : Tm → Tm → Prop where
  | var (n : Nat) : Par (.var n) (.var n)
  | lam {t t' : Tm} : Par t t' → Par (.lam t) (.lam t')
  | app {a a' b b' : Tm} : Par a a' → Par b b' → Par (.app a b) (.app a' b')
  | beta {t t' s s' : Tm} : Par t t' → Par s s' → Par (.app (.lam t) s) (sb (inst s') t')
theorem Par.refl : ∀ t : Tm, Par t t
  | .var n => .var n
  | .lam t => .lam (Par.refl t)
  | .app a b => .app (Par.refl a) (Par.refl b)
theorem Par.ren {t t' : Tm} (h : Par t t') : ∀ r : Nat → Nat, Par (Tm.ren r t) (Tm.ren r t') := by
  induction h with
  | var n => intro r; exact .var _
  | lam h ih => intro r; exact .lam (ih _)
  | app h1 h2 ih1 ih2 => intro r; exact .app (ih1 r) (ih2 r)
  | beta h1 h2 ih1 ih2 => intro r; rw [ren_inst]; exact .beta (ih1 _) (ih2 r)
theorem Par.ups {σ τ : Nat → Tm} (h : ∀ n, Par (σ n) (τ n)) : ∀ n, Par (Tm.ups σ n) (Tm.ups τ n)
  | 0 => .var 0
  | n + 1 => (h n).ren _
theorem Par.sb {t t' : Tm} (h : Par t t') : ∀ {σ τ : Nat → Tm}, (∀ n, Par (σ n) (τ n)) → Par (Tm.sb σ t) (Tm.sb τ t') := by
  induction h with
  | var n => intro σ τ hs; exact hs n
  | lam h ih => intro σ τ hs; exact .lam (ih (Par.ups hs))
  | app h1 h2 ih1 ih2 => intro σ τ hs; exact .app (ih1 hs) (ih2 hs)
  | beta h1 h2 ih1 ih2 => intro σ τ hs; rw [sb_inst]; exact .beta (ih1 (Par.ups hs)) (ih2 hs)
theorem Par.inst {s s' : Tm} (h : Par s s') : ∀ n, Par (Tm.inst s n) (Tm.inst s' n)
  | 0 => h
  | n + 1 => .var n
/-- All redexes reduced at once. -/
def cd : Tm → Tm
  | .var n => .var n
  | .lam t => .lam (cd t)
  | .app (.lam t) s => Tm.sb (Tm.inst (cd s)) (cd t)
  | .app a b => .app (cd a) (cd b)
theorem cd_app {a b : Tm} (h : ∀ t, a ≠ .lam t) : cd (.app a b) = .app (cd a) (cd b) := by
  cases a with
  | var n => simp only [cd]
  | lam t => exact (h t rfl).elim
  | app x y => simp only [cd]
/-- Takahashi's triangle. -/
theorem Par.triangle {t u : Tm} (h : Par t u) : Par u (cd t) := by
  induction h with
  | var n => exact .var n
  | lam h ih => exact .lam ih
  | @app a a' b b' h1 h2 ih1 ih2 =>
    cases a with
    | lam x =>
      cases h1 with
      | lam h1 =>
        simp only [cd] at ih1 ⊢
        cases ih1 with
        | lam ih1 => exact .beta ih1 ih2
    | var n => exact .app ih1 ih2
    | app x y => rw [cd_app (fun t h => by cases h)]; exact .app ih1 ih2
  | beta h1 h2 ih1 ih2 => simp only [cd]; exact ih1.sb (Par.inst ih2)
/-- Reduced again and again. -/
inductive Red : Tm → Tm → Prop where
  | refl (t : Tm) : Red t t
  | step {a b c : Tm} : Par a b → Red b c → Red a c
theorem Red.strip {a b : Tm} (h : Red a b) : ∀ {c : Tm}, Par a c → ∃ d, Par b d ∧ Red c d := by
  induction h with
  | refl t => intro c hc; exact ⟨c, hc, .refl c⟩
  | step h1 _ ih =>
    intro c hc
    obtain ⟨d, h3, h4⟩ := ih h1.triangle
    exact ⟨d, h3, .step hc.triangle h4⟩
/-- Church and Rosser. -/
theorem Red.confluent {a b : Tm} (h : Red a b) : ∀ {c : Tm}, Red a c → ∃ d, Red b d ∧ Red c d := by
  induction h with
  | refl t => intro c hc; exact ⟨c, hc, .refl c⟩
  | step h1 _ ih =>
    intro c hc
    obtain ⟨d, h3, h4⟩ := hc.strip h1
    obtain ⟨e, h5, h6⟩ := ih h4
    exact ⟨e, h5, .step h3 h6⟩
def Normal (t : Tm) : Prop := ∀ u, Par t u → u = t
theorem Red.normal {a b : Tm} (h : Red a b) (hn : Normal a) : b = a := by
  induction h with
  | refl => rfl
  | step h1 _ ih =>
    have := hn _ h1
    subst this
    exact ih hn
theorem Red.unique {a b c : Tm} (h1 : Red a b) (h2 : Red a c) (hb : Normal b) (hc : Normal c) : b = c := by
  obtain ⟨d, h3, h4⟩ := h1.confluent h2
  rw [← h3.normal hb, h4.normal hc]
/-- No redex is in it. -/
def nf : Tm → Prop
  | .var _ => True
  | .lam t => nf t
  | .app (.lam _) _ => False
  | .app a b => nf a ∧ nf b
theorem nf_app {a b : Tm} (h : ∀ t, a ≠ .lam t) (ha : nf a) (hb : nf b) : nf (.app a b) := by
  cases a with
  | var n => exact ⟨ha, hb⟩
  | lam t => exact (h t rfl).elim
  | app x y => exact ⟨ha, hb⟩
theorem nf_normal : ∀ (t : Tm), nf t → Normal t
  | .var n, _, u, h => by cases h; rfl
  | .lam t, hn, u, h => by
    cases h with
    | lam h => rw [nf_normal t hn _ h]
  | .app a b, hn, u, h => by
    cases h with
    | app h1 h2 =>
      cases a with
      | lam t => exact hn.elim
      | var n => rw [nf_normal (.var n) trivial _ h1, nf_normal b hn.2 _ h2]
      | app x y => rw [nf_normal (.app x y) hn.1 _ h1, nf_normal b hn.2 _ h2]
    | beta h1 h2 => exact hn.elim
end Tm
end Go.Den
namespace Go.Den
open Tm
set_option linter.unusedVariables false
def Pt.tm : Pt → Tm
  | .var n => .var n.toNat
  | .lam _ t => .lam t.tm
  | .app _ a b => .app a.tm b.tm
/-- No index is below 0. -/
def Pt.nn : Pt → Prop
  | .var n => 0 ≤ n
  | .lam _ t => t.nn
  | .app _ a b => a.nn ∧ b.nn
theorem nums_nn' : ∀ (t : Pt), t.nums = true → t.nn
  | .var n, h => by
    have h' : 0 ≤ n ∧ n ≤ 99 := by simpa [Pt.nums] using h
    exact h'.1
  | .lam n t, h => by
    have h' : n = 0 ∧ t.nums = true := by simpa [Pt.nums] using h
    exact nums_nn' t h'.2
  | .app n x y, h => by
    have h' : n = 0 ∧ x.nums = true ∧ y.nums = true := by simpa [Pt.nums] using h
    exact ⟨nums_nn' x h'.2.1, nums_nn' y h'.2.2⟩
theorem nums_nn {t : Pt} (h : t.nums = true) : t.nn := nums_nn' t h
theorem tm_inj : ∀ {t s : Pt}, t.nums = true → s.nums = true → t.tm = s.tm → t = s
  | .var n, .var m, h1, h2, h => by
    have a : 0 ≤ n ∧ n ≤ 99 := by simpa [Pt.nums] using h1
    have b : 0 ≤ m ∧ m ≤ 99 := by simpa [Pt.nums] using h2
    simp only [Pt.tm, Tm.var.injEq] at h
    have : n = m := by omega
    rw [this]
  | .lam n t, .lam m s, h1, h2, h => by
    have a : n = 0 ∧ t.nums = true := by simpa [Pt.nums] using h1
    have b : m = 0 ∧ s.nums = true := by simpa [Pt.nums] using h2
    simp only [Pt.tm, Tm.lam.injEq] at h
    rw [a.1, b.1, tm_inj a.2 b.2 h]
  | .app n x y, .app m z w, h1, h2, h => by
    have a : n = 0 ∧ x.nums = true ∧ y.nums = true := by simpa [Pt.nums] using h1
    have b : m = 0 ∧ z.nums = true ∧ w.nums = true := by simpa [Pt.nums] using h2
    simp only [Pt.tm, Tm.app.injEq] at h
    rw [a.1, b.1, tm_inj a.2.1 b.2.1 h.1, tm_inj a.2.2 b.2.2 h.2]
  | .var _, .lam _ _, _, _, h => by cases h
  | .var _, .app _ _ _, _, _, h => by cases h
  | .lam _ _, .var _, _, _, h => by cases h
  | .lam _ _, .app _ _ _, _, _, h => by cases h
  | .app _ _ _, .var _, _, _, h => by cases h
  | .app _ _ _, .lam _ _, _, _, h => by cases h
/-- Moved up from f on. -/
def mv (b f : Nat) : Nat → Nat := fun i => if f ≤ i then i + b else i
theorem mv_up (b f : Nat) : ∀ i, upr (mv b f) i = mv b (f + 1) i
  | 0 => by simp [upr, mv]
  | i + 1 => by
    simp only [upr, mv]
    by_cases h : f ≤ i
    · rw [if_pos h, if_pos (by omega)]; omega
    · rw [if_neg h, if_neg (by omega)]
theorem tm_sh (b : Nat) : ∀ (t : Pt) (f : Nat), t.nn → (sh (b : Int) (f : Int) t).tm = ren (mv b f) t.tm ∧ (sh (b : Int) (f : Int) t).nn
  | .var n, f, h => by
    have h : 0 ≤ n := h
    simp only [sh]
    by_cases hf : (f : Int) ≤ n
    · rw [if_pos hf]
      refine ⟨?_, ?_⟩
      · simp only [Pt.tm, ren, mv]
        rw [if_pos (by omega)]
        congr 1
        omega
      · show 0 ≤ n + (b : Int)
        omega
    · rw [if_neg hf]
      refine ⟨?_, h⟩
      simp only [Pt.tm, ren, mv]
      rw [if_neg (by omega)]
  | .lam n t, f, h => by
    obtain ⟨h1, h2⟩ := tm_sh b t (f + 1) h
    simp only [sh, Pt.tm, ren]
    refine ⟨?_, h2⟩
    rw [show ((f : Int) + 1) = ((f + 1 : Nat) : Int) by omega, h1, ren_ext _ (mv_up b f)]
  | .app n x y, f, h => by
    obtain ⟨h1, h2⟩ := tm_sh b x f h.1
    obtain ⟨h3, h4⟩ := tm_sh b y f h.2
    simp only [sh, Pt.tm, ren, h1, h3]
    exact ⟨trivial, h2, h4⟩
/-- Put in for k, under u lambdas. -/
def pt (k : Nat) (s : Tm) (u : Nat) : Nat → Tm := fun i => if i = k + u then ren (mv u 0) s else if k + u < i then .var (i - 1) else .var i
theorem pt_up (k : Nat) (s : Tm) (u : Nat) : ∀ i, ups (pt k s u) i = pt k s (u + 1) i
  | 0 => by
    have h1 : ¬ 0 = k + (u + 1) := by omega
    have h2 : ¬ k + (u + 1) < 0 := by omega
    simp only [ups, pt, if_neg h1, if_neg h2]
  | i + 1 => by
    simp only [ups, pt]
    by_cases h : i = k + u
    · have h' : i + 1 = k + (u + 1) := by omega
      simp only [if_pos h, if_pos h', ren_ren]
      refine ren_ext _ fun n => ?_
      simp only [mv, Nat.zero_le, if_true]
      omega
    · have h' : ¬ i + 1 = k + (u + 1) := by omega
      simp only [if_neg h, if_neg h']
      by_cases h2 : k + u < i
      · have h3 : k + (u + 1) < i + 1 := by omega
        simp only [if_pos h2, if_pos h3, ren]
        congr 1
        omega
      · have h3 : ¬ k + (u + 1) < i + 1 := by omega
        simp only [if_neg h2, if_neg h3]
        rfl
theorem tm_sub (k : Nat) (s : Pt) (hs : s.nn) : ∀ (t : Pt) (u : Nat), t.nn → (sub (k : Int) s (u : Int) t).tm = sb (pt k s.tm u) t.tm ∧ (sub (k : Int) s (u : Int) t).nn
  | .var n, u, h => by
    have h : 0 ≤ n := h
    simp only [sub]
    by_cases h1 : n = (k : Int) + u
    · rw [if_pos h1]
      obtain ⟨a, b⟩ := tm_sh u s 0 hs
      refine ⟨?_, b⟩
      simp only [Pt.tm, sb, pt]
      rw [if_pos (by omega)]
      exact a
    · rw [if_neg h1]
      by_cases h2 : (k : Int) + u < n
      · rw [if_pos h2]
        refine ⟨?_, ?_⟩
        · simp only [Pt.tm, sb, pt]
          rw [if_neg (by omega), if_pos (by omega)]
          congr 1
          omega
        · show 0 ≤ n - 1
          omega
      · rw [if_neg h2]
        refine ⟨?_, h⟩
        simp only [Pt.tm, sb, pt]
        rw [if_neg (by omega), if_neg (by omega)]
  | .lam n t, u, h => by
    obtain ⟨h1, h2⟩ := tm_sub k s hs t (u + 1) h
    simp only [sub, Pt.tm, sb]
    refine ⟨?_, h2⟩
    rw [show ((u : Int) + 1) = ((u + 1 : Nat) : Int) by omega, h1, sb_ext _ (pt_up k s.tm u)]
  | .app n x y, u, h => by
    obtain ⟨h1, h2⟩ := tm_sub k s hs x u h.1
    obtain ⟨h3, h4⟩ := tm_sub k s hs y u h.2
    simp only [sub, Pt.tm, sb, h1, h3]
    exact ⟨trivial, h2, h4⟩
theorem pt_inst (s : Tm) : ∀ i, pt 0 s 0 i = inst s i
  | 0 => by
    simp only [pt, inst, Nat.add_zero, if_true]
    rw [ren_as_sb]
    exact sb_id _ fun n => by simp [mv]
  | i + 1 => by
    simp only [pt, inst]
    rw [if_neg (by omega), if_pos (by omega)]
    rfl
theorem tm_beta {x y : Pt} (hx : x.nn) (hy : y.nn) : (sub 0 y 0 x).tm = sb (inst y.tm) x.tm ∧ (sub 0 y 0 x).nn := by
  obtain ⟨h1, h2⟩ := tm_sub 0 y hy x 0 hx
  refine ⟨?_, h2⟩
  have h1 : (sub 0 y 0 x).tm = sb (pt 0 y.tm 0) x.tm := h1
  rw [h1, sb_ext _ (pt_inst y.tm)]
/-- A redex reduced. -/
theorem red_par : ∀ (t : Pt) (r : Nat), t.nn → rxAt t r = true → Par t.tm (red t r).tm ∧ (red t r).nn
  | .var n, 0, _, h => by cases h
  | .var n, r + 1, _, h => by cases h
  | .lam n x, 0, _, h => by cases h
  | .lam n x, r + 1, hn, h => by
    obtain ⟨h1, h2⟩ := red_par x r hn h
    exact ⟨.lam h1, h2⟩
  | .app n a c, 0, hn, h => by
    obtain ⟨m, m1, x, y, he⟩ := redex_app (t := .app n a c) h
    cases he
    obtain ⟨h1, h2⟩ := tm_beta (x := x) (y := c) hn.1 hn.2
    simp only [red, Pt.beta]
    refine ⟨?_, h2⟩
    rw [h1]
    exact .beta (Par.refl _) (Par.refl _)
  | .app n a c, r + 1, hn, h => by
    simp only [rxAt] at h
    simp only [red]
    split at h
    · rename_i hlt
      rw [if_pos hlt]
      obtain ⟨h1, h2⟩ := red_par a r hn.1 h
      exact ⟨.app h1 (Par.refl _), h2, hn.2⟩
    · rename_i hlt
      rw [if_neg hlt]
      obtain ⟨h1, h2⟩ := red_par c (r - a.size) hn.2 h
      exact ⟨.app (Par.refl _) h1, hn.1, h2⟩
theorem rx_nf : ∀ (t : Pt) (at_ : Nat), rx t at_ = [] → nf t.tm
  | .var n, _, _ => trivial
  | .lam n x, at_, h => rx_nf x (at_ + 1) h
  | .app n a c, at_, h => by
    simp only [rx] at h
    rw [List.append_eq_nil_iff, List.append_eq_nil_iff] at h
    obtain ⟨h1, h2, h3⟩ := h
    have ha : a.kd ≠ 2 := fun e => by rw [if_pos e] at h1; cases h1
    refine nf_app (fun t e => ?_) (rx_nf a _ h2) (rx_nf c _ h3)
    cases a with
    | var m => cases e
    | lam m x => exact ha rfl
    | app m x y => cases e
/-- Going on reduces, and ends where no redex is. -/
theorem goOnP_red : ∀ (f : Nat) (t : Pt) (q : Pt × Nat), t.good = true → goOnP firstR f t = some q → Red t.tm q.1.tm ∧ rx q.1 0 = []
  | 0, t, q, hg, h => by
    unfold goOnP at h
    split at h
    · rename_i hn
      cases h
      refine ⟨.refl _, ?_⟩
      unfold firstR at hn
      cases hr : rx t 0 with
      | nil => rfl
      | cons a l => rw [hr] at hn; cases hn
    · cases h
  | f + 1, t, q, hg, h => by
    unfold goOnP at h
    split at h
    · rename_i hn
      cases h
      refine ⟨.refl _, ?_⟩
      unfold firstR at hn
      cases hr : rx t 0 with
      | nil => rfl
      | cons a l => rw [hr] at hn; cases hn
    · rename_i r hr
      split at h
      · rename_i hrg
        obtain ⟨p, hp, rfl⟩ := Option.map_eq_some_iff.1 h
        obtain ⟨h1, h2⟩ := goOnP_red f (red t r) p hrg hp
        have h3 := red_par t r (nums_nn (good_facts hg).2.2) (firstR_rx hr).1
        exact ⟨.step h3.1 h1, h2⟩
      · cases h
theorem normal_unique {t a b : Pt} (ha : a.good = true) (hb : b.good = true) (h1 : Red t.tm a.tm) (h2 : Red t.tm b.tm) (h3 : rx a 0 = []) (h4 : rx b 0 = []) : a = b :=
  tm_inj (good_facts ha).2.2 (good_facts hb).2.2 (h1.unique h2 (nf_normal _ (rx_nf a 0 h3)) (nf_normal _ (rx_nf b 0 h4)))
/-- Developing reduces all redexes at once. -/
theorem dev_cd : ∀ {t r : Pt}, t.nn → dev t = some r → r.tm = cd t.tm ∧ r.nn
  | .var n, r, hn, h => by
    obtain ⟨rfl, hg⟩ := fine_some h
    exact ⟨rfl, hn⟩
  | .lam n x, r, hn, h => by
    obtain ⟨x', hx, rfl, _⟩ := dev_lam h
    obtain ⟨h1, h2⟩ := dev_cd (t := x) hn hx
    exact ⟨by simp only [Pt.tm, cd, h1], h2⟩
  | .app n a c, r, hn, h => by
    simp only [dev, Option.bind_eq_some_iff] at h
    obtain ⟨a', ha, c', hc, h⟩ := h
    obtain ⟨rfl, hg⟩ := fine_some h
    obtain ⟨h1, h2⟩ := dev_cd (t := a) hn.1 ha
    obtain ⟨h3, h4⟩ := dev_cd (t := c) hn.2 hc
    cases hr : (Pt.app n a c).isRedex with
    | true =>
      obtain ⟨m, m1, x, y, he⟩ := redex_app hr
      cases he
      obtain ⟨x', hx, rfl, _⟩ := dev_lam ha
      simp only [if_true, Pt.beta]
      simp only [Pt.tm, cd, Tm.lam.injEq] at h1
      obtain ⟨h5, h6⟩ := tm_beta (x := x') (y := c') h2 h4
      refine ⟨?_, h6⟩
      rw [h5, h1, h3]
      simp only [Pt.tm, cd]
    | false =>
      simp only [Bool.false_eq_true, if_false]
      refine ⟨?_, h2, h4⟩
      simp only [Pt.tm]
      rw [cd_app (fun t e => ?_), h1, h3]
      cases a with
      | var m => cases e
      | lam m x => cases hr
      | app m x y => cases e
theorem dev_par {t r : Pt} (hn : t.nn) (h : dev t = some r) : Par t.tm r.tm := by
  rw [(dev_cd hn h).1]
  exact (Par.refl _).triangle
end Go.Den
namespace Go.Den
open Go
set_option linter.unusedVariables false
set_option maxRecDepth 100000
theorem ev_same (L : List Nd) (b1 b2 : Bool) (hL : L.length ≤ 1048576) : EvN 1048600 9 [.dat (.lst b1 (L.map Nd.d)), .dat (.lst b2 (L.map Nd.d))] [] [] ([.dat (B true)], [], []) := by
  refine (ev_fn Go.Proofs.Try.f9 (L.length + 5) (by kernel_rfl) (by kernel_rfl) fun kk hk => ?_).mono (by omega)
  refine same_y kk b1 b2 _ _ (by simp) ?_
  let st := fun i : Nat => h2_9 b1 b2 (L.map Nd.d) (L.map Nd.d) i
  have hlen : ((L.map Nd.d).length : Int) = L.length := by simp
  refine loopAt_range st L.length (by omega) (fun i hi m s K hs hn => ?_) (fun m s K hs hK => ?_) rfl
  · have hget : (L.map Nd.d)[((i : Nat) : Int).toNat]? = some (N3 L[i].k L[i].n L[i].u) := by
      rw [Int.toNat_natCast, List.getElem?_map, List.getElem?_eq_getElem hi]
      rfl
    refine same_go kk m b1 b2 _ _ (i : Int) _ _ _ _ _ _ hs (decide_eq_true (by omega)) ⟨⟨by omega, by omega⟩, hget⟩ ⟨⟨by omega, by omega⟩, hget⟩ (by simp) fun s' hs' => hn s' ?_
    rw [hs', w64_eq (by omega)]
    rfl
  · exact same_end kk m b1 b2 _ _ _ hs (decide_eq_false (by omega)) hK
theorem ev_redexesIn (L : List Nd) (b : Bool) (t : Pt) (hL : L.length ≤ 1048576) (ht : termOfP L = some t) : EvN 2000 10 [.dat (.lst b (L.map Nd.d))] [] [] ([.own 3 ((rx t 0).map IN), .dat (B true)], [], []) := by
  refine (ev_fn Go.Proofs.Try.f10 1900 (by kernel_rfl) (by kernel_rfl) fun kk hkk => ?_).mono (by omega)
  have hg : small t := good_small ((termOfP_iff L t).1 ht).1
  have a1 := (ev_termOf L b hL).1 t ht kk (by omega)
  have a2 := ev_redexes 40 t 0 hg.2.1 hg.1 (by omega) (by have := hg.1; omega) kk (by omega)
  rw [Pt.d_eq] at a1 a2
  exact redexesIn_go kk b _ _ _ _ _ a1 a2
theorem gone_cases (L : List Nd) (v : Int) : goneN firstR L v = ([], 0, false) ∨ ∃ t q, termOfP L = some t ∧ goOnP firstR v.toNat t = some q ∧ goneN firstR L v = (q.1.flat 0 (-1), q.2, true) := by
  unfold goneN
  cases h1 : termOfP L with
  | none => exact .inl rfl
  | some t =>
    simp only
    split
    · cases h2 : goOnP firstR v.toNat t with
      | none => exact .inl rfl
      | some q => exact .inr ⟨t, q, rfl, h2, rfl⟩
    · exact .inl rfl
theorem goOnP_zero {f : Nat} {t : Pt} {q : Pt × Nat} (h : goOnP firstR f t = some q) : q.2 = 0 ↔ rx t 0 = [] := by
  have hh : ∀ r, firstR t = some r → rx t 0 ≠ [] := fun r hr h0 => by unfold firstR at hr; rw [h0] at hr; cases hr
  have hn : firstR t = none → rx t 0 = [] := fun hr => by
    unfold firstR at hr
    cases h0 : rx t 0 with
    | nil => rfl
    | cons a l => rw [h0] at hr; cases hr
  cases f with
  | zero =>
    unfold goOnP at h
    split at h
    · rename_i h1; cases h; exact ⟨fun _ => hn h1, fun _ => rfl⟩
    · cases h
  | succ f =>
    unfold goOnP at h
    split at h
    · rename_i h1; cases h; exact ⟨fun _ => hn h1, fun _ => rfl⟩
    · rename_i r h1
      split at h
      · obtain ⟨p, hp, rfl⟩ := Option.map_eq_some_iff.1 h
        exact ⟨fun h => by simp at h, fun h => absurd h (hh r h1)⟩
      · cases h
/-- One normal form. -/
theorem normal_same {L M : List Nd} {t t' : Pt} {f g : Nat} {q q' : Pt × Nat} (ht : termOfP L = some t) (ht' : termOfP M = some t') (hq : goOnP firstR f t = some q) (hq' : goOnP firstR g t' = some q') (hp : Tm.Par t.tm t'.tm) : q'.1 = q.1 := by
  have hg := ((termOfP_iff L t).1 ht).1
  have hg' := ((termOfP_iff M t').1 ht').1
  have h1 := goOnP_red f t q hg hq
  have h2 := goOnP_red g t' q' hg' hq'
  exact normal_unique (goOnP_good hg' hq').1 (goOnP_good hg hq).1 (.step hp h2.1) h1.1 h2.2 h1.2
theorem rs_clean (rs : List Nat) (r : Bool) : D.cleans [.own 3 (rs.map IN), .dat (B r)] = true := by
  have h := ins_clean rs
  simp only [D.cleans, Bool.and_true] at h ⊢
  rw [h]
  rfl
theorem fnNormal_den : ∀ (d0 : Dat), WT cfg.ty 22 d0 → ∃ k, den cfg k 3 [.dat d0] [] [] = some ([.dat (.val (.bool true))], [], []) := by
  intro d0 w0
  obtain ⟨cs, rfl, hb⟩ := bytes_of w0
  refine ⟨1100001, ev_fn Go.Proofs.Try.f3 1100000 (by kernel_rfl) (by kernel_rfl) (fun kk hkk => ?_) 1100001 (Nat.le_refl _)⟩
  by_cases hbig : 1048576 < (cs.length : Int)
  · exact fnNorm_big kk cs (decide_eq_true hbig)
  have hsmall := decide_eq_false hbig
  obtain ⟨L, n, hL, _, _, hev⟩ := ev_drawN hb
  have s1 := hev kk (by omega)
  have s2 := ev_iNormal L true n (by omega) kk (by omega)
  have s3 := ev_sNormal L true n (by omega) kk (by omega)
  rcases gone_cases L n with h | ⟨t, q, ht, hq, h⟩
  · rw [h] at s2 s3
    exact fnNorm_no kk cs _ n 0 hsmall s1 s2 s3 (by simp) (ev_same [] true true (by simp) kk (by omega))
  rw [h] at s2 s3
  have hgood := ((termOfP_iff L t).1 ht).1
  have hsm := good_small hgood
  have hqg := (goOnP_good hgood hq).1
  have hqs := good_small hqg
  have hqt : termOfP (q.1.flat 0 (-1)) = some q.1 := (termOfP_iff _ _).2 ⟨hqg, rfl⟩
  have hql : (q.1.flat 0 (-1)).length ≤ 150 := by rw [Pt.flat_length]; exact hqs.1
  have s4 := ev_redexesIn L true t (by omega) ht kk (by omega)
  have s5 := ev_redexesIn (q.1.flat 0 (-1)) true q.1 (by omega) hqt kk (by omega)
  rw [(goOnP_red _ t q hgood hq).2] at s5
  have hrl := rx_length t 0
  have hsz := hsm.1
  have hz : (!decide ((q.2 : Int) = 0) == decide ((((rx t 0).map IN).length : Int) = 0)) = false := by
    have h0 := goOnP_zero hq
    by_cases h1 : rx t 0 = []
    · have := h0.2 h1; rw [h1, this]; rfl
    · have h2 : q.2 ≠ 0 := fun h2 => h1 (h0.1 h2)
      have h3 : (rx t 0).length ≠ 0 := fun h3 => h1 (List.length_eq_zero_iff.1 h3)
      rw [decide_eq_false (by omega), decide_eq_false (by rw [List.length_map]; omega)]
      rfl
  have hloop : LoopAt cfg kk 3 Go.Proofs.Try.f3 15 (hd3 (L.map Nd.d) ((q.1.flat 0 (-1)).map Nd.d) ((rx t 0).map IN) 0) (.exit 0) (Nm [2, 3, 5] [.junk, .own 56 (L.map Nd.d), .own 56 ((q.1.flat 0 (-1)).map Nd.d)] [none, none, none] [] []) := by
    let st := fun i : Nat => hd3 (L.map Nd.d) ((q.1.flat 0 (-1)).map Nd.d) ((rx t 0).map IN) i
    have hlen : (((rx t 0).map IN).length : Int) = (rx t 0).length := by simp
    refine loopAt_range st (rx t 0).length (by omega) (fun i hi m s K hs hn => ?_) (fun m s K hs hK => ?_) rfl
    · have hget : ((rx t 0).map IN)[((i : Nat) : Int).toNat]? = some (I ((rx t 0)[i] : Nat)) := by
        rw [Int.toNat_natCast, List.getElem?_map, List.getElem?_eq_getElem hi]
        rfl
      have hmem : (rx t 0)[i] ∈ rx t 0 := List.getElem_mem hi
      have r1 := ev_iRat L true ((rx t 0)[i] : Nat) (by omega) kk (by omega)
      have hnext : ∀ s' : St, s'.norm ((envOf cfg kk 3 Go.Proofs.Try.f3).live (firstRegion (lp Go.Proofs.Try.f3 15))) = hd3 (L.map Nd.d) ((q.1.flat 0 (-1)).map Nd.d) ((rx t 0).map IN) (w64 ((i : Int) + 1)) → Rounds (envOf cfg kk 3 Go.Proofs.Try.f3) kk (lp Go.Proofs.Try.f3 15) m s' K := fun s' hs' => by
        refine hn s' ?_
        rw [hs', w64_eq (by omega)]
        rfl
      have g1 : decide ((i : Int) < (((rx t 0).map IN).length : Int)) = true := decide_eq_true (by omega)
      have g2 : 0 ≤ (i : Int) ∧ (i : Int) < (((rx t 0).map IN).length : Int) := ⟨by omega, by omega⟩
      cases hr : (ratN L ((rx t 0)[i] : Nat)).2 with
      | false =>
        rw [hr] at r1
        exact fnNorm_skip kk m _ _ _ i _ _ hs g1 g2 hget (own_clean _ _) r1 hnext
      | true =>
        rw [hr] at r1
        have c1 := own_clean (ratN L ((rx t 0)[i] : Nat)).1 true
        have hMl := ratN_len L ((rx t 0)[i] : Nat)
        have r2 := ev_iNormal (ratN L ((rx t 0)[i] : Nat)).1 true 200 (by omega) kk (by omega)
        rcases gone_cases (ratN L ((rx t 0)[i] : Nat)).1 200 with h' | ⟨t', q', ht', hq', h'⟩
        · rw [h'] at r2
          exact fnNorm_open kk m _ _ _ i _ _ _ _ hs g1 g2 hget c1 r1 (own_clean3 [] 0 false) r2 hnext
        · rw [h'] at r2
          have he : q'.1 = q.1 := by
            refine normal_same ht ht' hq hq' ?_
            have ht2 := (termOfP_iff _ _).1 ht'
            have hr' := hr
            have hM := ht2.2
            unfold ratN at hM hr'
            rw [ht] at hM hr'
            simp only at hM hr'
            split at hr'
            · rename_i hh
              rw [if_pos hh] at hM
              simp only at hM hr'
              rw [if_pos hr'] at hM
              have h5 := rx_range t 0 _ hmem
              have h6 := red_par t (rx t 0)[i] (nums_nn (good_facts hgood).2.2) (by simpa using h5.2.2)
              have h7 : termOfP ((red t (rx t 0)[i]).flat 0 (-1)) = some (red t (rx t 0)[i]) := (termOfP_iff _ _).2 ⟨by simpa using hr', rfl⟩
              have h8 : termOfP ((red t (rx t 0)[i]).flat 0 (-1)) = some t' := (termOfP_iff _ _).2 ⟨ht2.1, by simpa using hM⟩
              rw [h7] at h8
              cases h8
              exact h6.1
            · cases hr'
          rw [he] at r2
          exact fnNorm_same kk m _ _ _ i _ _ _ _ hs g1 g2 hget c1 r1 (own_clean3 (q.1.flat 0 (-1)) q'.2 true) r2 (ev_same (q.1.flat 0 (-1)) true true (by omega) kk (by omega)) hnext
    · exact fnNorm_end kk m _ _ _ _ hs (decide_eq_false (by omega)) hK
  have hsame := ev_same (q.1.flat 0 (-1)) true true (by omega) kk (by omega)
  have c0 := own_clean3 (q.1.flat 0 (-1)) q.2 true
  have d1 := ev_iDev L true (by omega) kk (by omega)
  cases hd : (devN L).2 with
  | false =>
    rw [hd] at d1
    exact fnNorm_d0 kk cs _ _ _ _ [] n q.2 0 hsmall s1 c0 s2 c0 s3 (by simp) hsame (rs_clean _ _) s4 s5 hz hloop (own_clean _ _) d1
  | true =>
    rw [hd] at d1
    have hdl : (devN L).1.length ≤ 150 := by
      unfold devN at hd ⊢
      rw [ht] at hd ⊢
      simp only at hd ⊢
      cases h1 : dev t with
      | none => simp
      | some r => simp only [Pt.flat_length]; exact (good_small (dev_good h1)).1
    have r2 := ev_iNormal (devN L).1 true 200 (by omega) kk (by omega)
    rcases gone_cases (devN L).1 200 with h' | ⟨t', q', ht', hq', h'⟩
    · rw [h'] at r2
      exact fnNorm_d1 kk cs _ _ _ _ _ n q.2 _ hsmall s1 c0 s2 c0 s3 (by simp) hsame (rs_clean _ _) s4 s5 hz hloop (own_clean _ _) d1 (own_clean3 [] 0 false) r2
    · rw [h'] at r2
      have he : q'.1 = q.1 := by
        refine normal_same ht ht' hq hq' ?_
        have ht2 := (termOfP_iff _ _).1 ht'
        have hM := ht2.2
        unfold devN at hM hd
        rw [ht] at hM hd
        simp only at hM hd
        cases h1 : dev t with
        | none => rw [h1] at hd; cases hd
        | some r =>
          rw [h1] at hM
          have h7 : termOfP (r.flat 0 (-1)) = some r := (termOfP_iff _ _).2 ⟨dev_good h1, rfl⟩
          have h8 : termOfP (r.flat 0 (-1)) = some t' := (termOfP_iff _ _).2 ⟨ht2.1, hM⟩
          rw [h7] at h8
          cases h8
          exact dev_par (nums_nn (good_facts hgood).2.2) h1
      rw [he] at r2
      exact fnNorm_d2 kk cs _ _ _ _ _ n q.2 _ hsmall s1 c0 s2 c0 s3 (by simp) hsame (rs_clean _ _) s4 s5 hz hloop (own_clean _ _) d1 (own_clean3 (q.1.flat 0 (-1)) q'.2 true) r2 hsame
end Go.Den
namespace Go.Proofs.Ytjmljfpnofjkeaa.fnNormal
open Go.ChangeShapes Go.WideShapes Go.ChangeAt Go.RowKit Go.Den
set_option linter.unusedVariables false
theorem own : ownKnob Try.prog.godebug = none := by kernel_rfl
theorem laidOut : laidOutB Try.prog = true := by kernel_rfl
theorem body : (Try.f3.body).isSome = true := by kernel_rfl
theorem fnThere : cfg.fn 3 = some Try.f3 := by kernel_rfl
theorem plain22 : plainTy cfg.ty 8 22 = true := by kernel_rfl
set_option maxRecDepth 100000 in
theorem lifted (os : Os) (started : os.Started) (H : Type) (enc : TypeId × Value → H) :
    ReturnsInHanded {} Try.checked os 3 .any (Rows.fnNormalSpec.pre6 enc Try.prog Try.f3 Rows.fnNormalRow.domain false) (Rows.fnNormalSpec.post enc Try.prog Try.f3 false true false false) := by
  refine returnsInHanded_of_change (C := Try.checked) own started (by kernel_rfl) Try.func3
    (ChangeSpec.witness6 (enc := enc) (C := Try.checked) false ⟨#[], #[.slice none 0 0], []⟩ 8 (by kernel_rfl) (by kernel_rfl) (by kernel_rfl) (by kernel_rfl)) ?_
  intro W base args ds gs before hval0 hW hcnd _
  have hval : ∀ (j : Nat) t v, Try.f3.params[j]? = some t → args[j]? = some v → Value.okWide Try.prog W .any base t v := hval0
  have hW' := hW
  obtain ⟨p, q, hA0, hV, rfl, hfz, hnd⟩ := hW
  have hA : DataW.TrodAll enc Try.prog W 0 (fun _ => true) true Try.f3.params.toList args.toList ds p := hA0
  rw [Try.params3] at hA hval
  obtain ⟨v0, vs0, d0, ds0, p0, q0, hargs, rfl, rfl, h0, r0⟩ := trodAll_cons hA
  obtain ⟨rfl, rfl, rfl⟩ := trodAll_nil r0
  obtain rfl : args = #[v0] := by cases args; simp_all
  obtain ⟨rfl, rfl⟩ := trodVars_none hV
  have k0 := h0
  have lt0 : ∀ x ∈ p0, x.block < W.heap.size := by obtain ⟨m, hm⟩ := k0; exact DataW.trod_lt m _ _ _ hm
  obtain ⟨e0, cv0, R0, V0, T0⟩ := arg_dat cfg_ty plain22 (hval 0 22 v0 rfl rfl) h0
  clear hA0 hval0
  have hden := fnNormal_den e0 T0
  refine (law_calls (P := Try.prog) (C := cfg) (f := 3) (fn := Try.f3) (vals := #[v0]) (ds := [e0]) (W := W) (b := true) den_true.out (cfg_fn fnThere) body rfl (fun j d v hj hv => ?_) hden).mono fun e W' hh => ?_
  · match j, hj, hv with
    | 0, hj, hv => cases hj; cases hv; exact ⟨cv0, R0, V0⟩
    | j + 1, hj, hv => simp at hj
  · obtain ⟨he, bel⟩ := hh
    subst he
    exact ⟨_, rfl, _, _, _, [], _, [], hW', trodAll_mk1 (shut_bool Try.underlying4 _), (trodAll_cons_mk (Below.trod laidOut (by kernel_rfl) (of_decide_eq_true (by kernel_rfl)) k0 bel lt0) trodAll_mk0), rfl, bel.frame _, fun h => by cases h⟩
theorem over : Rows.fnNormalRow.holds Try.pinned (OpenSpec.ofChange Rows.fnNormalSpec) :=
  OpenClaim.holds_of_wide 3 Try.f3 rfl rfl rfl rfl rfl rfl rfl ⟨rfl, rfl, rfl, rfl, rfl⟩ rfl rfl rfl rfl rfl (by kernel_rfl) Try.func3 (by kernel_rfl)
    (of_decide_eq_true (by kernel_rfl)) (by unfold Func.isWrapper; first | (rw [if_pos (by decide +kernel)]; kernel_rfl) | (rw [if_neg (by decide +kernel)]; exact ⟨rfl, rfl⟩))
    (fun os started H enc _ => lifted os started H enc)
theorem proved : Rows.FnNormalSaid := over
end Go.Proofs.Ytjmljfpnofjkeaa.fnNormal
namespace Go.Proofs.Ytjmljfpnofjkeaa
/-- The row, under a short name, for the claim. -/
theorem fnNormal_holds : Rows.FnNormalSaid := fnNormal.proved
end Go.Proofs.Ytjmljfpnofjkeaa
