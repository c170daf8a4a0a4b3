/- Merged out of: WM WO WP WQ YFnExactRunPassed LFnExactRunPassed (prune.py, a program of this work's). -/
import Derived.Test.YtcehfbegcapmnaaZf4
import Derived.KernelRfl
import Derived.Test.YtcehfbegcapmnaaZf6
import Derived.Test.YtcehfbegcapmnaaRows
import Derived.WalkKit
import Derived.ProofKit
import Derived.OpenShut
import Derived.ShutString
import Derived.ChangeOld
import Derived.Below
set_option linter.unusedVariables false
set_option linter.unusedSimpArgs false
set_option linter.unnecessarySimpa false
namespace Go.Den
open Go
set_option linter.unusedVariables false
set_option maxRecDepth 100000
theorem lfPass_var (kk : Nat) (n : Int) (ps : List Dat) (k1 n1 : Int) (d1 : List Dat) (k2 n2 : Int) (d2 : List Dat) (k3 n3 : Int) (d3 : List Dat) (k4 n4 : Int) (d4 : List Dat) (h1 : den cfg kk 83 [D.dat (I 0)] [] [] = some ([D.dat (T k1 n1 d1)], [], [])) (h2 : den cfg kk 83 [D.dat (I (w64 (n + 1)))] [] [] = some ([D.dat (T k2 n2 d2)], [], [])) (h3 : den cfg kk 68 [D.dat (T k1 n1 d1), D.dat (T k2 n2 d2)] [] [] = some ([D.dat (T k3 n3 d3)], [], [])) (h4 : den cfg kk 77 [D.dat (T k3 n3 d3)] [] [] = some ([D.dat (T k4 n4 d4)], [], [])) : runFn cfg kk (den cfg kk) 75 Go.Proofs.Try.f75 [.dat (T 1 n ps)] [] [] = some ([D.dat (T k4 n4 d4)], [], []) :=
  hrun_ok [(10, .ret [.dat (T k1 n1 d1)]), (14, .ret [.dat (T k2 n2 d2)]), (15, .ret [.dat (T k3 n3 d3)]), (16, .ret [.dat (T k4 n4 d4)])] (ob h1 (ob h2 (ob h3 (ob h4 ob0)))) (by kernel_rfl)
theorem lfPass_lam (kk : Nat) (n : Int) (ps : List Dat) (kx nx : Int) (dx : List Dat) (k1 n1 : Int) (d1 : List Dat) (k2 n2 : Int) (d2 : List Dat) (k3 n3 : Int) (d3 : List Dat) (k4 n4 : Int) (d4 : List Dat) (k5 n5 : Int) (d5 : List Dat) (k6 n6 : Int) (d6 : List Dat) (h1 : ((0 : Int) ≤ 0 ∧ 0 < ((T kx nx dx :: ps).length : Int)) ∧ some (T kx nx dx) = some (T kx nx dx)) (h2 : den cfg kk 83 [D.dat (I 0)] [] [] = some ([D.dat (T k1 n1 d1)], [], [])) (h3 : den cfg kk 75 [D.dat (T kx nx dx)] [] [] = some ([D.dat (T k2 n2 d2)], [], [])) (h4 : den cfg kk 77 [D.dat (T k2 n2 d2)] [] [] = some ([D.dat (T k3 n3 d3)], [], [])) (h5 : den cfg kk 110 [D.dat (T k3 n3 d3), D.dat (I 1)] [] [] = some ([D.dat (T k4 n4 d4)], [], [])) (h6 : den cfg kk 68 [D.dat (T k1 n1 d1), D.dat (T k4 n4 d4)] [] [] = some ([D.dat (T k5 n5 d5)], [], [])) (h7 : den cfg kk 77 [D.dat (T k5 n5 d5)] [] [] = some ([D.dat (T k6 n6 d6)], [], [])) : runFn cfg kk (den cfg kk) 75 Go.Proofs.Try.f75 [.dat (T 2 n (T kx nx dx :: ps))] [] [] = some ([D.dat (T k6 n6 d6)], [], []) :=
  hrun_ok [(22, .at (T kx nx dx)), (19, .ret [.dat (T k1 n1 d1)]), (24, .ret [.dat (T k2 n2 d2)]), (25, .ret [.dat (T k3 n3 d3)]), (26, .ret [.dat (T k4 n4 d4)]), (27, .ret [.dat (T k5 n5 d5)]), (28, .ret [.dat (T k6 n6 d6)])] (ob h1 (ob h2 (ob h3 (ob h4 (ob h5 (ob h6 (ob h7 ob0))))))) (by kernel_rfl)
theorem lfPass_app (kk : Nat) (n : Int) (ps : List Dat) (kx nx : Int) (dx : List Dat) (ky ny : Int) (dy : List Dat) (k1 n1 : Int) (d1 : List Dat) (k2 n2 : Int) (d2 : List Dat) (k3 n3 : Int) (d3 : List Dat) (k4 n4 : Int) (d4 : List Dat) (k5 n5 : Int) (d5 : List Dat) (k6 n6 : Int) (d6 : List Dat) (k7 n7 : Int) (d7 : List Dat) (k8 n8 : Int) (d8 : List Dat) (k9 n9 : Int) (d9 : List Dat) (k10 n10 : Int) (d10 : List Dat) (k11 n11 : Int) (d11 : List Dat) (k12 n12 : Int) (d12 : List Dat) (k13 n13 : Int) (d13 : List Dat) (k14 n14 : Int) (d14 : List Dat) (h1 : ((0 : Int) ≤ 0 ∧ 0 < ((T kx nx dx :: T ky ny dy :: ps).length : Int)) ∧ some (T kx nx dx) = some (T kx nx dx)) (h2 : den cfg kk 75 [D.dat (T kx nx dx)] [] [] = some ([D.dat (T k1 n1 d1)], [], [])) (h3 : den cfg kk 110 [D.dat (T k1 n1 d1), D.dat (I 1)] [] [] = some ([D.dat (T k2 n2 d2)], [], [])) (h4 : ((0 : Int) ≤ 1 ∧ 1 < ((T kx nx dx :: T ky ny dy :: ps).length : Int)) ∧ some (T ky ny dy) = some (T ky ny dy)) (h5 : den cfg kk 75 [D.dat (T ky ny dy)] [] [] = some ([D.dat (T k3 n3 d3)], [], [])) (h6 : den cfg kk 110 [D.dat (T k3 n3 d3), D.dat (I 2)] [] [] = some ([D.dat (T k4 n4 d4)], [], [])) (h7 : den cfg kk 83 [D.dat (I 1)] [] [] = some ([D.dat (T k5 n5 d5)], [], [])) (h8 : den cfg kk 83 [D.dat (I 0)] [] [] = some ([D.dat (T k6 n6 d6)], [], [])) (h9 : den cfg kk 68 [D.dat (T k5 n5 d5), D.dat (T k6 n6 d6)] [] [] = some ([D.dat (T k7 n7 d7)], [], [])) (h10 : den cfg kk 83 [D.dat (I 2)] [] [] = some ([D.dat (T k8 n8 d8)], [], [])) (h11 : den cfg kk 68 [D.dat (T k7 n7 d7), D.dat (T k8 n8 d8)] [] [] = some ([D.dat (T k9 n9 d9)], [], [])) (h12 : den cfg kk 77 [D.dat (T k9 n9 d9)] [] [] = some ([D.dat (T k10 n10 d10)], [], [])) (h13 : den cfg kk 68 [D.dat (T k4 n4 d4), D.dat (T k10 n10 d10)] [] [] = some ([D.dat (T k11 n11 d11)], [], [])) (h14 : den cfg kk 77 [D.dat (T k11 n11 d11)] [] [] = some ([D.dat (T k12 n12 d12)], [], [])) (h15 : den cfg kk 68 [D.dat (T k2 n2 d2), D.dat (T k12 n12 d12)] [] [] = some ([D.dat (T k13 n13 d13)], [], [])) (h16 : den cfg kk 77 [D.dat (T k13 n13 d13)] [] [] = some ([D.dat (T k14 n14 d14)], [], [])) : runFn cfg kk (den cfg kk) 75 Go.Proofs.Try.f75 [.dat (T 3 n (T kx nx dx :: T ky ny dy :: ps))] [] [] = some ([D.dat (T k14 n14 d14)], [], []) :=
  hrun_ok [(31, .at (T kx nx dx)), (37, .at (T ky ny dy)), (33, .ret [.dat (T k1 n1 d1)]), (34, .ret [.dat (T k2 n2 d2)]), (39, .ret [.dat (T k3 n3 d3)]), (40, .ret [.dat (T k4 n4 d4)]), (41, .ret [.dat (T k5 n5 d5)]), (42, .ret [.dat (T k6 n6 d6)]), (43, .ret [.dat (T k7 n7 d7)]), (44, .ret [.dat (T k8 n8 d8)]), (45, .ret [.dat (T k9 n9 d9)]), (46, .ret [.dat (T k10 n10 d10)]), (50, .ret [.dat (T k11 n11 d11)]), (51, .ret [.dat (T k12 n12 d12)]), (52, .ret [.dat (T k13 n13 d13)]), (53, .ret [.dat (T k14 n14 d14)])] (ob h1 (ob h2 (ob h3 (ob h4 (ob h5 (ob h6 (ob h7 (ob h8 (ob h9 (ob h10 (ob h11 (ob h12 (ob h13 (ob h14 (ob h15 (ob h16 ob0)))))))))))))))) (by kernel_rfl)
theorem pass_var (kk : Nat) (n : Int) (ps : List Dat) (k1 n1 : Int) (d1 : List Dat) (k2 n2 : Int) (d2 : List Dat) (k3 n3 : Int) (d3 : List Dat) (k4 n4 : Int) (d4 : List Dat) (h1 : den cfg kk 87 [D.dat (I 0)] [] [] = some ([D.dat (T k1 n1 d1)], [], [])) (h2 : den cfg kk 87 [D.dat (I (w64 (n + 1)))] [] [] = some ([D.dat (T k2 n2 d2)], [], [])) (h3 : den cfg kk 69 [D.dat (T k1 n1 d1), D.dat (T k2 n2 d2)] [] [] = some ([D.dat (T k3 n3 d3)], [], [])) (h4 : den cfg kk 86 [D.dat (T k3 n3 d3)] [] [] = some ([D.dat (T k4 n4 d4)], [], [])) : runFn cfg kk (den cfg kk) 76 Go.Proofs.Try.f76 [.dat (T 1 n ps)] [] [] = some ([D.dat (T k4 n4 d4)], [], []) :=
  hrun_ok [(9, .ret [.dat (T k1 n1 d1)]), (13, .ret [.dat (T k2 n2 d2)]), (14, .ret [.dat (T k3 n3 d3)]), (15, .ret [.dat (T k4 n4 d4)])] (ob h1 (ob h2 (ob h3 (ob h4 ob0)))) (by kernel_rfl)
theorem pass_lam (kk : Nat) (n : Int) (ps : List Dat) (k1 n1 : Int) (d1 : List Dat) (k2 n2 : Int) (d2 : List Dat) (k3 n3 : Int) (d3 : List Dat) (k4 n4 : Int) (d4 : List Dat) (k5 n5 : Int) (d5 : List Dat) (h1 : den cfg kk 87 [D.dat (I 0)] [] [] = some ([D.dat (T k1 n1 d1)], [], [])) (h2 : den cfg kk 78 [D.dat (T 2 n ps)] [] [] = some ([D.dat (T k2 n2 d2)], [], [])) (h3 : den cfg kk 74 [D.dat (T k2 n2 d2), D.dat (I 1), D.dat (I 0)] [] [] = some ([D.dat (T k3 n3 d3)], [], [])) (h4 : den cfg kk 69 [D.dat (T k1 n1 d1), D.dat (T k3 n3 d3)] [] [] = some ([D.dat (T k4 n4 d4)], [], [])) (h5 : den cfg kk 86 [D.dat (T k4 n4 d4)] [] [] = some ([D.dat (T k5 n5 d5)], [], [])) : runFn cfg kk (den cfg kk) 76 Go.Proofs.Try.f76 [.dat (T 2 n ps)] [] [] = some ([D.dat (T k5 n5 d5)], [], []) :=
  hrun_ok [(18, .ret [.dat (T k1 n1 d1)]), (20, .ret [.dat (T k2 n2 d2)]), (21, .ret [.dat (T k3 n3 d3)]), (22, .ret [.dat (T k4 n4 d4)]), (23, .ret [.dat (T k5 n5 d5)])] (ob h1 (ob h2 (ob h3 (ob h4 (ob h5 ob0))))) (by kernel_rfl)
theorem pass_app (kk : Nat) (n : Int) (ps : List Dat) (kx nx : Int) (dx : List Dat) (ky ny : Int) (dy : List Dat) (k1 n1 : Int) (d1 : List Dat) (k2 n2 : Int) (d2 : List Dat) (k3 n3 : Int) (d3 : List Dat) (k4 n4 : Int) (d4 : List Dat) (k5 n5 : Int) (d5 : List Dat) (k6 n6 : Int) (d6 : List Dat) (k7 n7 : Int) (d7 : List Dat) (k8 n8 : Int) (d8 : List Dat) (k9 n9 : Int) (d9 : List Dat) (k10 n10 : Int) (d10 : List Dat) (k11 n11 : Int) (d11 : List Dat) (k12 n12 : Int) (d12 : List Dat) (k13 n13 : Int) (d13 : List Dat) (k14 n14 : Int) (d14 : List Dat) (h1 : den cfg kk 87 [D.dat (I 1)] [] [] = some ([D.dat (T k1 n1 d1)], [], [])) (h2 : den cfg kk 87 [D.dat (I 0)] [] [] = some ([D.dat (T k2 n2 d2)], [], [])) (h3 : den cfg kk 69 [D.dat (T k1 n1 d1), D.dat (T k2 n2 d2)] [] [] = some ([D.dat (T k3 n3 d3)], [], [])) (h4 : den cfg kk 87 [D.dat (I 2)] [] [] = some ([D.dat (T k4 n4 d4)], [], [])) (h5 : den cfg kk 69 [D.dat (T k3 n3 d3), D.dat (T k4 n4 d4)] [] [] = some ([D.dat (T k5 n5 d5)], [], [])) (h6 : den cfg kk 86 [D.dat (T k5 n5 d5)] [] [] = some ([D.dat (T k6 n6 d6)], [], [])) (h7 : ((0 : Int) ≤ 1 ∧ 1 < ((T kx nx dx :: T ky ny dy :: ps).length : Int)) ∧ some (T ky ny dy) = some (T ky ny dy)) (h8 : den cfg kk 76 [D.dat (T ky ny dy)] [] [] = some ([D.dat (T k7 n7 d7)], [], [])) (h9 : den cfg kk 74 [D.dat (T k7 n7 d7), D.dat (I 2), D.dat (I 0)] [] [] = some ([D.dat (T k8 n8 d8)], [], [])) (h10 : den cfg kk 69 [D.dat (T k8 n8 d8), D.dat (T k6 n6 d6)] [] [] = some ([D.dat (T k9 n9 d9)], [], [])) (h11 : den cfg kk 86 [D.dat (T k9 n9 d9)] [] [] = some ([D.dat (T k10 n10 d10)], [], [])) (h12 : ((0 : Int) ≤ 0 ∧ 0 < ((T kx nx dx :: T ky ny dy :: ps).length : Int)) ∧ some (T kx nx dx) = some (T kx nx dx)) (h13 : den cfg kk 76 [D.dat (T kx nx dx)] [] [] = some ([D.dat (T k11 n11 d11)], [], [])) (h14 : den cfg kk 74 [D.dat (T k11 n11 d11), D.dat (I 1), D.dat (I 0)] [] [] = some ([D.dat (T k12 n12 d12)], [], [])) (h15 : den cfg kk 69 [D.dat (T k12 n12 d12), D.dat (T k10 n10 d10)] [] [] = some ([D.dat (T k13 n13 d13)], [], [])) (h16 : den cfg kk 86 [D.dat (T k13 n13 d13)] [] [] = some ([D.dat (T k14 n14 d14)], [], [])) : runFn cfg kk (den cfg kk) 76 Go.Proofs.Try.f76 [.dat (T 3 n (T kx nx dx :: T ky ny dy :: ps))] [] [] = some ([D.dat (T k14 n14 d14)], [], []) :=
  hrun_ok [(32, .at (T ky ny dy)), (41, .at (T kx nx dx)), (24, .ret [.dat (T k1 n1 d1)]), (25, .ret [.dat (T k2 n2 d2)]), (26, .ret [.dat (T k3 n3 d3)]), (27, .ret [.dat (T k4 n4 d4)]), (28, .ret [.dat (T k5 n5 d5)]), (29, .ret [.dat (T k6 n6 d6)]), (34, .ret [.dat (T k7 n7 d7)]), (35, .ret [.dat (T k8 n8 d8)]), (37, .ret [.dat (T k9 n9 d9)]), (38, .ret [.dat (T k10 n10 d10)]), (43, .ret [.dat (T k11 n11 d11)]), (44, .ret [.dat (T k12 n12 d12)]), (46, .ret [.dat (T k13 n13 d13)]), (47, .ret [.dat (T k14 n14 d14)])] (ob h1 (ob h2 (ob h3 (ob h4 (ob h5 (ob h6 (ob h7 (ob h8 (ob h9 (ob h10 (ob h11 (ob h12 (ob h13 (ob h14 (ob h15 (ob h16 ob0)))))))))))))))) (by kernel_rfl)
theorem passLambda (kk : Nat) (k n : Int) (ps : List Dat) (kx nx : Int) (dx : List Dat) (k1 n1 : Int) (d1 : List Dat) (k2 n2 : Int) (d2 : List Dat) (h1 : ((0 : Int) ≤ 0 ∧ 0 < ((T kx nx dx :: ps).length : Int)) ∧ some (T kx nx dx) = some (T kx nx dx)) (h2 : den cfg kk 76 [D.dat (T kx nx dx)] [] [] = some ([D.dat (T k1 n1 d1)], [], [])) (h3 : den cfg kk 86 [D.dat (T k1 n1 d1)] [] [] = some ([D.dat (T k2 n2 d2)], [], [])) : runFn cfg kk (den cfg kk) 78 Go.Proofs.Try.f78 [.dat (T k n (T kx nx dx :: ps))] [] [] = some ([D.dat (T k2 n2 d2)], [], []) :=
  hrun_ok [(5, .at (T kx nx dx)), (7, .ret [.dat (T k1 n1 d1)]), (8, .ret [.dat (T k2 n2 d2)])] (ob h1 (ob h2 (ob h3 ob0))) (by kernel_rfl)
theorem lfUp (kk : Nat) (v : Int) (r : Bool) (k n : Int) (d : List Dat) (k2 n2 : Int) (d2 : List Dat) (h1 : den cfg kk 70 [D.dat (T k n d), D.dat (I v), D.dat (I 0)] [] [] = some ([D.dat (T k2 n2 d2), D.dat (B r)], [], [])) : runFn cfg kk (den cfg kk) 110 Go.Proofs.Try.f110 [.dat (T k n d), .dat (I v)] [] [] = some ([D.dat (T k2 n2 d2)], [], []) :=
  hrun_ok [(10, .ret [.dat (T k2 n2 d2), .dat (B r)])] (ob h1 ob0) (by kernel_rfl)
theorem sPass_no (kk : Nat) (b : Bool) (es : List Dat) (h1 : den cfg kk 66 [D.dat (Dat.lst b es)] [] [] = some ([D.dat (B false)], [], [])) : runFn cfg kk (den cfg kk) 34 Go.Proofs.Try.f34 [.dat (Dat.lst b es)] [] [] = some ([D.own 50 [], D.dat (B false)], [], []) :=
  hrun_ok [(5, .ret [.dat (B false)])] (ob h1 ob0) (by kernel_rfl)
theorem sPass_go (kk : Nat) (b : Bool) (es : List Dat) (out : List Dat) (r : Bool) (k n : Int) (d : List Dat) (k2 n2 : Int) (d2 : List Dat) (h1 : den cfg kk 66 [D.dat (Dat.lst b es)] [] [] = some ([D.dat (B true)], [], [])) (h2 : den cfg kk 48 [D.dat (Dat.lst b es), D.dat (I 0)] [] [] = some ([D.dat (T k n d)], [], [])) (h3 : den cfg kk 75 [D.dat (T k n d)] [] [] = some ([D.dat (T k2 n2 d2)], [], [])) (h4 : den cfg kk 46 [D.dat (T k2 n2 d2)] [] [] = some ([D.own 50 out, D.dat (B r)], [], [])) : runFn cfg kk (den cfg kk) 34 Go.Proofs.Try.f34 [.dat (Dat.lst b es)] [] [] = some ([D.own 50 out, D.dat (B r)], [], []) :=
  hrun_ok [(5, .ret [.dat (B true)]), (8, .ret [.dat (T k n d)]), (9, .ret [.dat (T k2 n2 d2)]), (10, .ret [.own 50 out, .dat (B r)])] (ob h1 (ob h2 (ob h3 (ob h4 ob0)))) (by kernel_rfl)
theorem iPass_no (kk : Nat) (b : Bool) (es : List Dat) (k n : Int) (d : List Dat) (h1 : den cfg kk 67 [D.dat (Dat.lst b es)] [] [] = some ([D.dat (T k n d), D.dat (B false)], [], [])) : runFn cfg kk (den cfg kk) 35 Go.Proofs.Try.f35 [.dat (Dat.lst b es)] [] [] = some ([D.own 50 [], D.dat (B false)], [], []) :=
  hrun_ok [(8, .ret [.dat (T k n d), .dat (B false)])] (ob h1 ob0) (by kernel_rfl)
theorem iPass_go (kk : Nat) (b : Bool) (es : List Dat) (out : List Dat) (r : Bool) (k n : Int) (d : List Dat) (k2 n2 : Int) (d2 : List Dat) (h1 : den cfg kk 67 [D.dat (Dat.lst b es)] [] [] = some ([D.dat (T k n d), D.dat (B true)], [], [])) (h2 : den cfg kk 76 [D.dat (T k n d)] [] [] = some ([D.dat (T k2 n2 d2)], [], [])) (h3 : den cfg kk 52 [D.dat (T k2 n2 d2)] [] [] = some ([D.own 50 out, D.dat (B r)], [], [])) : runFn cfg kk (den cfg kk) 35 Go.Proofs.Try.f35 [.dat (Dat.lst b es)] [] [] = some ([D.own 50 out, D.dat (B r)], [], []) :=
  hrun_ok [(8, .ret [.dat (T k n d), .dat (B true)]), (14, .ret [.dat (T k2 n2 d2)]), (15, .ret [.own 50 out, .dat (B r)])] (ob h1 (ob h2 (ob h3 ob0))) (by kernel_rfl)
theorem nextIn_no2 (kk : Nat) (n : Int) (ps : List Dat) (v : Bool)  : runFn cfg kk (den cfg kk) 111 Go.Proofs.Try.f111 [.dat (T 2 n ps), .dat (B v)] [] [] = some ([D.dat (I (-1))], [], []) :=
  hrun_ok [] ob0 (by kernel_rfl)
theorem nextIn_l (kk : Nat) (n z : Int) (ps : List Dat) (v : Bool) (kx nx : Int) (dx : List Dat) (h1 : ((0 : Int) ≤ 0 ∧ 0 < ((T kx nx dx :: ps).length : Int)) ∧ some (T kx nx dx) = some (T kx nx dx)) (h2 : (!decide (kx = 2)) = true) (h3 : ((0 : Int) ≤ 0 ∧ 0 < ((T kx nx dx :: ps).length : Int)) ∧ some (T kx nx dx) = some (T kx nx dx)) (h4 : den cfg kk 111 [D.dat (T kx nx dx), D.dat (B v)] [] [] = some ([D.dat (I z)], [], [])) : runFn cfg kk (den cfg kk) 111 Go.Proofs.Try.f111 [.dat (T 3 n (T kx nx dx :: ps)), .dat (B v)] [] [] = some ([D.dat (I (w64 (1 + z)))], [], []) :=
  hrun_ok [(12, .at (T kx nx dx)), (200009, .yes), (18, .at (T kx nx dx)), (21, .ret [.dat (I z)])] (ob h1 (ob h2 (ob h3 (ob h4 ob0)))) (by kernel_rfl)
theorem nextIn_name (kk : Nat) (n : Int) (ps : List Dat) (kx nx : Int) (dx : List Dat) (h1 : ((0 : Int) ≤ 0 ∧ 0 < ((T kx nx dx :: ps).length : Int)) ∧ some (T kx nx dx) = some (T kx nx dx)) (h2 : (!decide (kx = 2)) = false) : runFn cfg kk (den cfg kk) 111 Go.Proofs.Try.f111 [.dat (T 3 n (T kx nx dx :: ps)), .dat (B false)] [] [] = some ([D.dat (I 0)], [], []) :=
  hrun_ok [(12, .at (T kx nx dx)), (200009, .no)] (ob h1 (ob h2 ob0)) (by kernel_rfl)
theorem nextIn_r (kk : Nat) (n z z2 : Int) (ps : List Dat) (kx nx : Int) (dx : List Dat) (ky ny : Int) (dy : List Dat) (h1 : ((0 : Int) ≤ 0 ∧ 0 < ((T kx nx dx :: T ky ny dy :: ps).length : Int)) ∧ some (T kx nx dx) = some (T kx nx dx)) (h2 : (!decide (kx = 2)) = false) (h3 : ((0 : Int) ≤ 1 ∧ 1 < ((T kx nx dx :: T ky ny dy :: ps).length : Int)) ∧ some (T ky ny dy) = some (T ky ny dy)) (h4 : (!decide (ky = 2)) = true) (h5 : ((0 : Int) ≤ 0 ∧ 0 < ((T kx nx dx :: T ky ny dy :: ps).length : Int)) ∧ some (T kx nx dx) = some (T kx nx dx)) (h6 : ((0 : Int) ≤ 1 ∧ 1 < ((T kx nx dx :: T ky ny dy :: ps).length : Int)) ∧ some (T ky ny dy) = some (T ky ny dy)) (h7 : den cfg kk 99 [D.dat (T kx nx dx)] [] [] = some ([D.dat (I z)], [], [])) (h8 : den cfg kk 111 [D.dat (T ky ny dy), D.dat (B true)] [] [] = some ([D.dat (I z2)], [], [])) : runFn cfg kk (den cfg kk) 111 Go.Proofs.Try.f111 [.dat (T 3 n (T kx nx dx :: T ky ny dy :: ps)), .dat (B true)] [] [] = some ([D.dat (I (w64 (w64 (1 + z) + z2)))], [], []) :=
  hrun_ok [(12, .at (T kx nx dx)), (200009, .no), (28, .at (T ky ny dy)), (200023, .yes), (35, .at (T kx nx dx)), (37, .ret [.dat (I z)]), (41, .at (T ky ny dy)), (44, .ret [.dat (I z2)])] (ob h1 (ob h2 (ob h3 (ob h4 (ob h5 (ob h6 (ob h7 (ob h8 ob0)))))))) (by kernel_rfl)
theorem nextIn_here (kk : Nat) (n : Int) (ps : List Dat) (kx nx : Int) (dx : List Dat) (ky ny : Int) (dy : List Dat) (h1 : ((0 : Int) ≤ 0 ∧ 0 < ((T kx nx dx :: T ky ny dy :: ps).length : Int)) ∧ some (T kx nx dx) = some (T kx nx dx)) (h2 : (!decide (kx = 2)) = false) (h3 : ((0 : Int) ≤ 1 ∧ 1 < ((T kx nx dx :: T ky ny dy :: ps).length : Int)) ∧ some (T ky ny dy) = some (T ky ny dy)) (h4 : (!decide (ky = 2)) = false) : runFn cfg kk (den cfg kk) 111 Go.Proofs.Try.f111 [.dat (T 3 n (T kx nx dx :: T ky ny dy :: ps)), .dat (B true)] [] [] = some ([D.dat (I 0)], [], []) :=
  hrun_ok [(12, .at (T kx nx dx)), (200009, .no), (28, .at (T ky ny dy)), (200023, .no)] (ob h1 (ob h2 (ob h3 (ob h4 ob0)))) (by kernel_rfl)
theorem next_n (kk : Nat) (z : Int) (k n : Int) (d : List Dat) (h1 : den cfg kk 111 [D.dat (T k n d), D.dat (B false)] [] [] = some ([D.dat (I z)], [], [])) : runFn cfg kk (den cfg kk) 81 Go.Proofs.Try.f81 [.dat (T k n d)] [] [] = some ([D.dat (I z)], [], []) :=
  hrun_ok [(4, .ret [.dat (I z)])] (ob h1 ob0) (by kernel_rfl)
theorem lfStep_no2 (kk : Nat) (n : Int) (ps : List Dat) (v : Bool)  : runFn cfg kk (den cfg kk) 112 Go.Proofs.Try.f112 [.dat (T 2 n ps), .dat (B v)] [] [] = some ([D.dat (T 2 n ps), D.dat (B false)], [], []) :=
  hrun_ok [] ob0 (by kernel_rfl)
theorem lfStep_fst (kk : Nat) (n : Int) (ps : List Dat) (kx nx : Int) (dx : List Dat) (ky ny : Int) (dy : List Dat) (k1 n1 : Int) (d1 : List Dat) (v : Bool) (k2 n2 : Int) (d2 : List Dat) (h1 : ((0 : Int) ≤ 0 ∧ 0 < ((T kx nx dx :: T ky ny dy :: ps).length : Int)) ∧ some (T kx nx dx) = some (T kx nx dx)) (h2 : ((0 : Int) ≤ 1 ∧ 1 < ((T kx nx dx :: T ky ny dy :: ps).length : Int)) ∧ some (T ky ny dy) = some (T ky ny dy)) (h3 : den cfg kk 112 [D.dat (T kx nx dx), D.dat (B v)] [] [] = some ([D.dat (T k1 n1 d1), D.dat (B true)], [], [])) (h4 : den cfg kk 68 [D.dat (T k1 n1 d1), D.dat (T ky ny dy)] [] [] = some ([D.dat (T k2 n2 d2)], [], [])) : runFn cfg kk (den cfg kk) 112 Go.Proofs.Try.f112 [.dat (T 3 n (T kx nx dx :: T ky ny dy :: ps)), .dat (B v)] [] [] = some ([D.dat (T k2 n2 d2), D.dat (B true)], [], []) :=
  hrun_ok [(18, .at (T kx nx dx)), (22, .at (T ky ny dy)), (27, .ret [.dat (T k1 n1 d1), .dat (B true)]), (33, .ret [.dat (T k2 n2 d2)])] (ob h1 (ob h2 (ob h3 (ob h4 ob0)))) (by kernel_rfl)
theorem lfStep_name (kk : Nat) (n : Int) (ps : List Dat) (kx nx : Int) (dx : List Dat) (ky ny : Int) (dy : List Dat) (k1 n1 : Int) (d1 : List Dat) (k2 n2 : Int) (d2 : List Dat) (h1 : ((0 : Int) ≤ 0 ∧ 0 < ((T kx nx dx :: T ky ny dy :: ps).length : Int)) ∧ some (T kx nx dx) = some (T kx nx dx)) (h2 : ((0 : Int) ≤ 1 ∧ 1 < ((T kx nx dx :: T ky ny dy :: ps).length : Int)) ∧ some (T ky ny dy) = some (T ky ny dy)) (h3 : den cfg kk 112 [D.dat (T kx nx dx), D.dat (B false)] [] [] = some ([D.dat (T k1 n1 d1), D.dat (B false)], [], [])) (h4 : den cfg kk 95 [D.dat (Dat.agg [I 3, I n, Dat.lst false (T kx nx dx :: T ky ny dy :: ps)])] [] [] = some ([D.dat (T k2 n2 d2)], [], [])) : runFn cfg kk (den cfg kk) 112 Go.Proofs.Try.f112 [.dat (T 3 n (T kx nx dx :: T ky ny dy :: ps)), .dat (B false)] [] [] = some ([D.dat (T k2 n2 d2), D.dat (B true)], [], []) :=
  hrun_ok [(18, .at (T kx nx dx)), (22, .at (T ky ny dy)), (27, .ret [.dat (T k1 n1 d1), .dat (B false)]), (46, .ret [.dat (T k2 n2 d2)])] (ob h1 (ob h2 (ob h3 (ob h4 ob0)))) (by kernel_rfl)
theorem lfStep_snd (kk : Nat) (n : Int) (ps : List Dat) (kx nx : Int) (dx : List Dat) (ky ny : Int) (dy : List Dat) (k1 n1 : Int) (d1 : List Dat) (k2 n2 : Int) (d2 : List Dat) (k3 n3 : Int) (d3 : List Dat) (h1 : ((0 : Int) ≤ 0 ∧ 0 < ((T kx nx dx :: T ky ny dy :: ps).length : Int)) ∧ some (T kx nx dx) = some (T kx nx dx)) (h2 : ((0 : Int) ≤ 1 ∧ 1 < ((T kx nx dx :: T ky ny dy :: ps).length : Int)) ∧ some (T ky ny dy) = some (T ky ny dy)) (h3 : den cfg kk 112 [D.dat (T kx nx dx), D.dat (B true)] [] [] = some ([D.dat (T k1 n1 d1), D.dat (B false)], [], [])) (h4 : den cfg kk 112 [D.dat (T ky ny dy), D.dat (B true)] [] [] = some ([D.dat (T k2 n2 d2), D.dat (B true)], [], [])) (h5 : den cfg kk 68 [D.dat (T kx nx dx), D.dat (T k2 n2 d2)] [] [] = some ([D.dat (T k3 n3 d3)], [], [])) : runFn cfg kk (den cfg kk) 112 Go.Proofs.Try.f112 [.dat (T 3 n (T kx nx dx :: T ky ny dy :: ps)), .dat (B true)] [] [] = some ([D.dat (T k3 n3 d3), D.dat (B true)], [], []) :=
  hrun_ok [(18, .at (T kx nx dx)), (22, .at (T ky ny dy)), (27, .ret [.dat (T k1 n1 d1), .dat (B false)]), (38, .ret [.dat (T k2 n2 d2), .dat (B true)]), (44, .ret [.dat (T k3 n3 d3)])] (ob h1 (ob h2 (ob h3 (ob h4 (ob h5 ob0))))) (by kernel_rfl)
theorem lfStep_val (kk : Nat) (n : Int) (ps : List Dat) (kx nx : Int) (dx : List Dat) (ky ny : Int) (dy : List Dat) (k1 n1 : Int) (d1 : List Dat) (k2 n2 : Int) (d2 : List Dat) (k3 n3 : Int) (d3 : List Dat) (h1 : ((0 : Int) ≤ 0 ∧ 0 < ((T kx nx dx :: T ky ny dy :: ps).length : Int)) ∧ some (T kx nx dx) = some (T kx nx dx)) (h2 : ((0 : Int) ≤ 1 ∧ 1 < ((T kx nx dx :: T ky ny dy :: ps).length : Int)) ∧ some (T ky ny dy) = some (T ky ny dy)) (h3 : den cfg kk 112 [D.dat (T kx nx dx), D.dat (B true)] [] [] = some ([D.dat (T k1 n1 d1), D.dat (B false)], [], [])) (h4 : den cfg kk 112 [D.dat (T ky ny dy), D.dat (B true)] [] [] = some ([D.dat (T k2 n2 d2), D.dat (B false)], [], [])) (h5 : den cfg kk 95 [D.dat (Dat.agg [I 3, I n, Dat.lst false (T kx nx dx :: T ky ny dy :: ps)])] [] [] = some ([D.dat (T k3 n3 d3)], [], [])) : runFn cfg kk (den cfg kk) 112 Go.Proofs.Try.f112 [.dat (T 3 n (T kx nx dx :: T ky ny dy :: ps)), .dat (B true)] [] [] = some ([D.dat (T k3 n3 d3), D.dat (B true)], [], []) :=
  hrun_ok [(18, .at (T kx nx dx)), (22, .at (T ky ny dy)), (27, .ret [.dat (T k1 n1 d1), .dat (B false)]), (38, .ret [.dat (T k2 n2 d2), .dat (B false)]), (46, .ret [.dat (T k3 n3 d3)])] (ob h1 (ob h2 (ob h3 (ob h4 (ob h5 ob0))))) (by kernel_rfl)
def hd85 (fuel k n i : Int) (ps : List Dat) (v : Bool) : St := Nm [1, 2, 3, 6, 9] [.dat (I fuel), .dat (B v), .ptr (.loc 3) 0, .ptr (.loc 6) 0, .dat (I i)] [none, none, some [.dat (I k), .dat (I n), .dat (.lst false ps)], some [.dat (I 0), .dat (I 0), .own 46 []], none] [] []
theorem lfRun_done (kk m : Nat) {s : St} {K : X → St → Prop} (fuel k n i : Int) (ps : List Dat) (v : Bool) (k2 n2 : Int) (d2 : List Dat) (hs : s.norm ((envOf cfg kk 85 Go.Proofs.Try.f85).live (firstRegion (lp Go.Proofs.Try.f85 3))) = hd85 fuel k n i ps v) (h1 : den cfg kk 112 [D.dat (T k n ps), D.dat (B v)] [] [] = some ([D.dat (T k2 n2 d2), D.dat (B false)], [], [])) (hK : K (X.ret) (Nm [6, 7, 8] [D.ptr (Ref.loc 6) 0, D.dat (I i), D.dat (B true)] [some [D.dat (I k), D.dat (I n), D.dat (Dat.lst false ps)], none, none] [] [])) : Rounds (envOf cfg kk 85 Go.Proofs.Try.f85) kk (lp Go.Proofs.Try.f85 3) (m + 1) s K :=
  rounds_end [(17, .ret [.dat (T k2 n2 d2), .dat (B false)])] hs (by kernel_rfl) rfl (ob h1 ob0) (by kernel_rfl) hK
theorem lfRun_stop (kk m : Nat) {s : St} {K : X → St → Prop} (fuel k n i : Int) (ps : List Dat) (v : Bool) (k2 n2 : Int) (d2 : List Dat) (hs : s.norm ((envOf cfg kk 85 Go.Proofs.Try.f85).live (firstRegion (lp Go.Proofs.Try.f85 3))) = hd85 fuel k n i ps v) (h1 : den cfg kk 112 [D.dat (T k n ps), D.dat (B v)] [] [] = some ([D.dat (T k2 n2 d2), D.dat (B true)], [], [])) (h2 : decide (i = fuel) = true) (hK : K (X.ret) (Nm [6, 7, 8] [D.ptr (Ref.loc 6) 0, D.dat (I 0), D.dat (B false)] [some [D.dat (I k), D.dat (I n), D.dat (Dat.lst false ps)], none, none] [] [])) : Rounds (envOf cfg kk 85 Go.Proofs.Try.f85) kk (lp Go.Proofs.Try.f85 3) (m + 1) s K :=
  rounds_end [(17, .ret [.dat (T k2 n2 d2), .dat (B true)]), (200027, .yes)] hs (by kernel_rfl) rfl (ob h1 (ob h2 (ob (rfl : true = true) (ob (rfl : true = true) ob0)))) (by kernel_rfl) hK
theorem lfRun_bad (kk m : Nat) {s : St} {K : X → St → Prop} (fuel k n i : Int) (ps : List Dat) (v : Bool) (k2 n2 : Int) (d2 : List Dat) (hs : s.norm ((envOf cfg kk 85 Go.Proofs.Try.f85).live (firstRegion (lp Go.Proofs.Try.f85 3))) = hd85 fuel k n i ps v) (h1 : den cfg kk 112 [D.dat (T k n ps), D.dat (B v)] [] [] = some ([D.dat (T k2 n2 d2), D.dat (B true)], [], [])) (h2 : decide (i = fuel) = false) (h4 : den cfg kk 84 [D.dat (T k2 n2 d2)] [] [] = some ([D.dat (B false)], [], [])) (hK : K (X.ret) (Nm [6, 7, 8] [D.ptr (Ref.loc 6) 0, D.dat (I 0), D.dat (B false)] [some [D.dat (I k), D.dat (I n), D.dat (Dat.lst false ps)], none, none] [] [])) : Rounds (envOf cfg kk 85 Go.Proofs.Try.f85) kk (lp Go.Proofs.Try.f85 3) (m + 1) s K :=
  rounds_end [(17, .ret [.dat (T k2 n2 d2), .dat (B true)]), (200027, .no), (29, .ret [.dat (B false)])] hs (by kernel_rfl) rfl (ob h1 (ob h2 (ob (rfl : false = false) (ob h4 (ob (rfl : false = false) ob0))))) (by kernel_rfl) hK
theorem lfRun_go (kk m : Nat) {s : St} {K : X → St → Prop} (fuel k n i : Int) (ps : List Dat) (v : Bool) (k2 n2 : Int) (d2 : List Dat) (hs : s.norm ((envOf cfg kk 85 Go.Proofs.Try.f85).live (firstRegion (lp Go.Proofs.Try.f85 3))) = hd85 fuel k n i ps v) (h1 : den cfg kk 112 [D.dat (T k n ps), D.dat (B v)] [] [] = some ([D.dat (T k2 n2 d2), D.dat (B true)], [], [])) (h2 : decide (i = fuel) = false) (h4 : den cfg kk 84 [D.dat (T k2 n2 d2)] [] [] = some ([D.dat (B true)], [], [])) (hn : ∀ s : St, s.norm ((envOf cfg kk 85 Go.Proofs.Try.f85).live (firstRegion (lp Go.Proofs.Try.f85 3))) = Nm [1, 2, 3, 6, 9] [D.dat (I fuel), D.dat (B v), D.ptr (Ref.loc 3) 0, D.ptr (Ref.loc 6) 0, D.dat (I (w64 (i + 1)))] [none, none, some [D.dat (I k2), D.dat (I n2), D.dat (Dat.lst false d2)], some [D.dat (I 0), D.dat (I 0), D.own 46 []], none] [] [] → Rounds (envOf cfg kk 85 Go.Proofs.Try.f85) kk (lp Go.Proofs.Try.f85 3) m s K) : Rounds (envOf cfg kk 85 Go.Proofs.Try.f85) kk (lp Go.Proofs.Try.f85 3) (m + 1) s K :=
  rounds_go [(17, .ret [.dat (T k2 n2 d2), .dat (B true)]), (200027, .no), (29, .ret [.dat (B true)])] hs (by kernel_rfl) (ob h1 (ob h2 (ob (rfl : false = false) (ob h4 (ob (rfl : false = false) ob0))))) (by kernel_rfl) hn
theorem lfRun (kk : Nat) (fuel c : Int) (v r : Bool) (k n : Int) (d : List Dat) (k2 n2 : Int) (d2 : List Dat) (h2 : LoopAt cfg kk 85 Go.Proofs.Try.f85 3 (hd85 fuel k n 0 d v) X.ret (Nm [6, 7, 8] [D.ptr (Ref.loc 6) 0, D.dat (I c), D.dat (B r)] [some [D.dat (I k2), D.dat (I n2), D.dat (Dat.lst false d2)], none, none] [] [])) : runFn cfg kk (den cfg kk) 85 Go.Proofs.Try.f85 [.dat (T k n d), .dat (I fuel), .dat (B v)] [] [] = some ([D.dat (T k2 n2 d2), D.dat (I c), D.dat (B r)], [], []) :=
  hrun_ok [(300003, .loop (hd85 fuel k n 0 d v) .ret (Nm [6, 7, 8] [.ptr (.loc 6) 0, .dat (I c), .dat (B r)] [some [.dat (I k2), .dat (I n2), .dat (.lst false d2)], none, none] [] []))] (ob (rfl : _ = hd85 fuel k n 0 d v) (ob h2 ob0)) (by kernel_rfl)
theorem iRun_n (kk : Nat) (b : Bool) (es : List Dat) (fuel : Int) (out : List Dat) (c : Int) (r : Bool) (h1 : den cfg kk 80 [D.dat (Dat.lst b es), D.dat (I fuel), D.fn 81 []] [] [] = some ([D.own 50 out, D.dat (I c), D.dat (B r)], [], [])) : runFn cfg kk (den cfg kk) 39 Go.Proofs.Try.f39 [.dat (Dat.lst b es), .dat (I fuel)] [] [] = some ([D.own 50 out, D.dat (I c), D.dat (B r)], [], []) :=
  hrun_ok [(9, .back [.own 50 out, .dat (I c), .dat (B r)] [] [])] (ob h1 (ob (rfl : false = false) ob0)) (by kernel_rfl)
theorem closedOn_no_n (kk : Nat) (b : Bool) (es : List Dat) (fuel : Int) (k n : Int) (d : List Dat) (h1 : den cfg kk 67 [D.dat (Dat.lst b es)] [] [] = some ([D.dat (T k n d), D.dat (B false)], [], [])) : runFn cfg kk (den cfg kk) 80 Go.Proofs.Try.f80 [.dat (Dat.lst b es), .dat (I fuel), .fn 81 []] [] [] = some ([D.own 50 [], D.dat (I 0), D.dat (B false)], [], []) :=
  hrun_ok [(13, .ret [.dat (T k n d), .dat (B false)])] (ob h1 ob0) (by kernel_rfl)
theorem closedOn_go_n (kk : Nat) (b : Bool) (es : List Dat) (fuel : Int) (out : List Dat) (c : Int) (r : Bool) (k n : Int) (d : List Dat) (h1 : den cfg kk 67 [D.dat (Dat.lst b es)] [] [] = some ([D.dat (T k n d), D.dat (B true)], [], [])) (h2 : den cfg kk 64 [D.dat (Dat.lst b es), D.dat (I fuel), D.fn 81 []] [] [] = some ([D.own 50 out, D.dat (I c), D.dat (B r)], [], [])) : runFn cfg kk (den cfg kk) 80 Go.Proofs.Try.f80 [.dat (Dat.lst b es), .dat (I fuel), .fn 81 []] [] [] = some ([D.own 50 out, D.dat (I c), D.dat (B r)], [], []) :=
  hrun_ok [(13, .ret [.dat (T k n d), .dat (B true)]), (21, .back [.own 50 out, .dat (I c), .dat (B r)] [] [])] (ob h1 (ob h2 (ob (rfl : false = false) ob0))) (by kernel_rfl)
theorem goneOn_no2_n (kk : Nat) (b : Bool) (es : List Dat) (fuel : Int) (k n : Int) (d : List Dat) (h1 : den cfg kk 50 [D.dat (Dat.lst b es)] [] [] = some ([D.dat (T k n d), D.dat (B true)], [], [])) (h2 : den cfg kk 101 [D.dat (I fuel)] [] [] = some ([D.dat (B false)], [], [])) : runFn cfg kk (den cfg kk) 64 Go.Proofs.Try.f64 [.dat (Dat.lst b es), .dat (I fuel), .fn 81 []] [] [] = some ([D.own 50 [], D.dat (I 0), D.dat (B false)], [], []) :=
  hrun_ok [(15, .ret [.dat (T k n d), .dat (B true)]), (22, .ret [.dat (B false)])] (ob h1 (ob h2 ob0)) (by kernel_rfl)
theorem goneOn_no3_n (kk : Nat) (b : Bool) (es : List Dat) (fuel : Int) (k n k2 n2 c : Int) (d d2 : List Dat) (h1 : den cfg kk 50 [D.dat (Dat.lst b es)] [] [] = some ([D.dat (T k n d), D.dat (B true)], [], [])) (h2 : den cfg kk 101 [D.dat (I fuel)] [] [] = some ([D.dat (B true)], [], [])) (h3 : den cfg kk 102 [D.dat (T k n d), D.dat (I fuel), D.fn 81 []] [] [] = some ([D.dat (T k2 n2 d2), D.dat (I c), D.dat (B false)], [], [])) : runFn cfg kk (den cfg kk) 64 Go.Proofs.Try.f64 [.dat (Dat.lst b es), .dat (I fuel), .fn 81 []] [] [] = some ([D.own 50 [], D.dat (I 0), D.dat (B false)], [], []) :=
  hrun_ok [(15, .ret [.dat (T k n d), .dat (B true)]), (22, .ret [.dat (B true)]), (29, .back [.dat (T k2 n2 d2), .dat (I c), .dat (B false)] [] [])] (ob h1 (ob h2 (ob h3 (ob (rfl : false = false) ob0)))) (by kernel_rfl)
theorem goneOn_go_n (kk : Nat) (b : Bool) (es : List Dat) (fuel : Int) (k n k2 n2 c : Int) (d d2 out : List Dat) (h1 : den cfg kk 50 [D.dat (Dat.lst b es)] [] [] = some ([D.dat (T k n d), D.dat (B true)], [], [])) (h2 : den cfg kk 101 [D.dat (I fuel)] [] [] = some ([D.dat (B true)], [], [])) (h3 : den cfg kk 102 [D.dat (T k n d), D.dat (I fuel), D.fn 81 []] [] [] = some ([D.dat (T k2 n2 d2), D.dat (I c), D.dat (B true)], [], [])) (h5 : den cfg kk 56 [D.dat (T k2 n2 d2)] [] [] = some ([D.own 50 out], [], [])) : runFn cfg kk (den cfg kk) 64 Go.Proofs.Try.f64 [.dat (Dat.lst b es), .dat (I fuel), .fn 81 []] [] [] = some ([D.own 50 out, D.dat (I c), D.dat (B true)], [], []) :=
  hrun_ok [(15, .ret [.dat (T k n d), .dat (B true)]), (22, .ret [.dat (B true)]), (29, .back [.dat (T k2 n2 d2), .dat (I c), .dat (B true)] [] []), (36, .ret [.own 50 out])] (ob h1 (ob h2 (ob h3 (ob (rfl : false = false) (ob h5 ob0))))) (by kernel_rfl)
def hd102n (fuel k n : Int) (ps : List Dat) (made : Int) : St := Nm [1, 2, 3, 6, 9] [.dat (I fuel), .fn 81 [], .ptr (.loc 3) 0, .ptr (.loc 6) 0, .dat (I made)] [none, none, some [.dat (I k), .dat (I n), .dat (.lst false ps)], some [.dat (I 0), .dat (I 0), .own 55 []], none] [] []
theorem goOn_done_n (kk m : Nat) {s : St} {K : X → St → Prop} (fuel k n : Int) (ps : List Dat) (made : Int) (x : Int) (hs : s.norm ((envOf cfg kk 102 Go.Proofs.Try.f102).live (firstRegion (lp Go.Proofs.Try.f102 3))) = hd102n fuel k n ps made) (h1 : den cfg kk 81 [D.dat (T k n ps)] [] [] = some ([D.dat (I x)], [], [])) (h2 : decide (x < 0) = true) (hK : K (X.ret) (Nm [6, 7, 8] [D.ptr (Ref.loc 6) 0, D.dat (I made), D.dat (B true)] [some [D.dat (I k), D.dat (I n), D.dat (Dat.lst false ps)], none, none] [] [])) : Rounds (envOf cfg kk 102 Go.Proofs.Try.f102) kk (lp Go.Proofs.Try.f102 3) (m + 1) s K :=
  rounds_end [(15, .ret [.dat (I x)]), (200016, .yes)] hs (by kernel_rfl) rfl (ob h1 (ob h2 ob0)) (by kernel_rfl) hK
theorem goOn_stop_n (kk m : Nat) {s : St} {K : X → St → Prop} (fuel k n : Int) (ps : List Dat) (made : Int) (x : Int) (hs : s.norm ((envOf cfg kk 102 Go.Proofs.Try.f102).live (firstRegion (lp Go.Proofs.Try.f102 3))) = hd102n fuel k n ps made) (h1 : den cfg kk 81 [D.dat (T k n ps)] [] [] = some ([D.dat (I x)], [], [])) (h2 : decide (x < 0) = false) (h3 : decide (made = fuel) = true) (hK : K (X.ret) (Nm [6, 7, 8] [D.ptr (Ref.loc 6) 0, D.dat (I 0), D.dat (B false)] [some [D.dat (I 0), D.dat (I 0), D.own 55 []], none, none] [] [])) : Rounds (envOf cfg kk 102 Go.Proofs.Try.f102) kk (lp Go.Proofs.Try.f102 3) (m + 1) s K :=
  rounds_end [(15, .ret [.dat (I x)]), (200016, .no), (200021, .yes)] hs (by kernel_rfl) rfl (ob h1 (ob h2 (ob h3 ob0))) (by kernel_rfl) hK
theorem goOn_bad_n (kk m : Nat) {s : St} {K : X → St → Prop} (fuel k n : Int) (ps : List Dat) (made : Int) (x k2 n2 : Int) (d2 : List Dat) (hs : s.norm ((envOf cfg kk 102 Go.Proofs.Try.f102).live (firstRegion (lp Go.Proofs.Try.f102 3))) = hd102n fuel k n ps made) (h1 : den cfg kk 81 [D.dat (T k n ps)] [] [] = some ([D.dat (I x)], [], [])) (h2 : decide (x < 0) = false) (h3 : decide (made = fuel) = false) (h4 : den cfg kk 62 [D.dat (T k n ps), D.dat (I x)] [] [] = some ([D.dat (T k2 n2 d2)], [], [])) (h5 : den cfg kk 91 [D.dat (T k2 n2 d2)] [] [] = some ([D.dat (B false)], [], [])) (hK : K (X.ret) (Nm [6, 7, 8] [D.ptr (Ref.loc 6) 0, D.dat (I 0), D.dat (B false)] [some [D.dat (I 0), D.dat (I 0), D.own 55 []], none, none] [] [])) : Rounds (envOf cfg kk 102 Go.Proofs.Try.f102) kk (lp Go.Proofs.Try.f102 3) (m + 1) s K :=
  rounds_end [(15, .ret [.dat (I x)]), (200016, .no), (200021, .no), (28, .ret [.dat (T k2 n2 d2)]), (30, .ret [.dat (B false)])] hs (by kernel_rfl) rfl (ob h1 (ob h2 (ob h3 (ob h4 (ob h5 ob0))))) (by kernel_rfl) hK
theorem goOn_go_n (kk m : Nat) {s : St} {K : X → St → Prop} (fuel k n : Int) (ps : List Dat) (made : Int) (x k2 n2 : Int) (d2 : List Dat) (hs : s.norm ((envOf cfg kk 102 Go.Proofs.Try.f102).live (firstRegion (lp Go.Proofs.Try.f102 3))) = hd102n fuel k n ps made) (h1 : den cfg kk 81 [D.dat (T k n ps)] [] [] = some ([D.dat (I x)], [], [])) (h2 : decide (x < 0) = false) (h3 : decide (made = fuel) = false) (h4 : den cfg kk 62 [D.dat (T k n ps), D.dat (I x)] [] [] = some ([D.dat (T k2 n2 d2)], [], [])) (h5 : den cfg kk 91 [D.dat (T k2 n2 d2)] [] [] = some ([D.dat (B true)], [], [])) (hn : ∀ s : St, s.norm ((envOf cfg kk 102 Go.Proofs.Try.f102).live (firstRegion (lp Go.Proofs.Try.f102 3))) = Nm [1, 2, 3, 6, 9] [D.dat (I fuel), D.fn 81 [], D.ptr (Ref.loc 3) 0, D.ptr (Ref.loc 6) 0, D.dat (I (w64 (made + 1)))] [none, none, some [D.dat (I k2), D.dat (I n2), D.dat (Dat.lst false d2)], some [D.dat (I 0), D.dat (I 0), D.own 55 []], none] [] [] → Rounds (envOf cfg kk 102 Go.Proofs.Try.f102) kk (lp Go.Proofs.Try.f102 3) m s K) : Rounds (envOf cfg kk 102 Go.Proofs.Try.f102) kk (lp Go.Proofs.Try.f102 3) (m + 1) s K :=
  rounds_go [(15, .ret [.dat (I x)]), (200016, .no), (200021, .no), (28, .ret [.dat (T k2 n2 d2)]), (30, .ret [.dat (B true)])] hs (by kernel_rfl) (ob h1 (ob h2 (ob h3 (ob h4 (ob h5 ob0))))) (by kernel_rfl) hn
theorem goOn_y_n (kk : Nat) (fuel k n c k2 n2 : Int) (ps d2 : List Dat) (r : Bool) (h2 : LoopAt cfg kk 102 Go.Proofs.Try.f102 3 (hd102n fuel k n ps 0) X.ret (Nm [6, 7, 8] [D.ptr (Ref.loc 6) 0, D.dat (I c), D.dat (B r)] [some [D.dat (I k2), D.dat (I n2), D.dat (Dat.lst false d2)], none, none] [] [])) : runFn cfg kk (den cfg kk) 102 Go.Proofs.Try.f102 [.dat (T k n ps), .dat (I fuel), .fn 81 []] [] [] = some ([D.dat (T k2 n2 d2), D.dat (I c), D.dat (B r)], [], []) :=
  hrun_ok [(300003, .loop (hd102n fuel k n ps 0) .ret (Nm [6, 7, 8] [.ptr (.loc 6) 0, .dat (I c), .dat (B r)] [some [.dat (I k2), .dat (I n2), .dat (.lst false d2)], none, none] [] []))] (ob (rfl : _ = hd102n fuel k n ps 0) (ob h2 ob0)) (by kernel_rfl)
theorem goOn_n_n (kk : Nat) (fuel k n c : Int) (ps : List Dat) (r : Bool) (h2 : LoopAt cfg kk 102 Go.Proofs.Try.f102 3 (hd102n fuel k n ps 0) X.ret (Nm [6, 7, 8] [D.ptr (Ref.loc 6) 0, D.dat (I c), D.dat (B r)] [some [D.dat (I 0), D.dat (I 0), D.own 55 []], none, none] [] [])) : runFn cfg kk (den cfg kk) 102 Go.Proofs.Try.f102 [.dat (T k n ps), .dat (I fuel), .fn 81 []] [] [] = some ([D.dat (T 0 0 []), D.dat (I c), D.dat (B r)], [], []) :=
  hrun_ok [(300003, .loop (hd102n fuel k n ps 0) .ret (Nm [6, 7, 8] [.ptr (.loc 6) 0, .dat (I c), .dat (B r)] [some [.dat (I 0), .dat (I 0), .own 55 []], none, none] [] []))] (ob (rfl : _ = hd102n fuel k n ps 0) (ob h2 ob0)) (by kernel_rfl)
theorem sRp_no1 (kk : Nat) (b : Bool) (es : List Dat) (fuel : Int) (ws : List Dat) (h1 : den cfg kk 34 [D.dat (Dat.lst b es)] [] [] = some ([D.own 50 ws, D.dat (B false)], [], [])) : runFn cfg kk (den cfg kk) 42 Go.Proofs.Try.f42 [.dat (Dat.lst b es), .dat (I fuel)] [] [] = some ([D.own 50 [], D.dat (B false)], [], []) :=
  hrun_ok [(14, .ret [.own 50 ws, .dat (B false)])] (ob h1 ob0) (by kernel_rfl)
theorem sRp_no2 (kk : Nat) (b : Bool) (es : List Dat) (fuel : Int) (ws : List Dat) (k1 n1 : Int) (d1 : List Dat) (k2 n2 : Int) (d2 : List Dat) (k3 n3 : Int) (d3 : List Dat) (k4 n4 : Int) (d4 : List Dat) (h1 : den cfg kk 34 [D.dat (Dat.lst b es)] [] [] = some ([D.own 50 ws, D.dat (B true)], [], [])) (h2 : D.cleans [D.dat (T k1 n1 d1)] = true) (h3 : den cfg kk 48 [D.dat (Dat.lst true ws), D.dat (I 0)] [] [] = some ([D.dat (T k1 n1 d1)], [], [])) (h4 : den cfg kk 83 [D.dat (I 0)] [] [] = some ([D.dat (T k2 n2 d2)], [], [])) (h5 : den cfg kk 77 [D.dat (T k2 n2 d2)] [] [] = some ([D.dat (T k3 n3 d3)], [], [])) (h6 : den cfg kk 68 [D.dat (T k1 n1 d1), D.dat (T k3 n3 d3)] [] [] = some ([D.dat (T k4 n4 d4)], [], [])) (h7 : den cfg kk 84 [D.dat (T k4 n4 d4)] [] [] = some ([D.dat (B false)], [], [])) : runFn cfg kk (den cfg kk) 42 Go.Proofs.Try.f42 [.dat (Dat.lst b es), .dat (I fuel)] [] [] = some ([D.own 50 [], D.dat (B false)], [], []) :=
  hrun_ok [(14, .ret [.own 50 ws, .dat (B true)]), (20, .ret [.dat (T k1 n1 d1)]), (21, .ret [.dat (T k2 n2 d2)]), (22, .ret [.dat (T k3 n3 d3)]), (23, .ret [.dat (T k4 n4 d4)]), (25, .ret [.dat (B false)])] (ob h1 (ob h2 (ob h3 (ob h4 (ob h5 (ob h6 (ob h7 ob0))))))) (by kernel_rfl)
theorem sRp_no3 (kk : Nat) (b : Bool) (es : List Dat) (fuel : Int) (ws : List Dat) (k1 n1 : Int) (d1 : List Dat) (k2 n2 : Int) (d2 : List Dat) (k3 n3 : Int) (d3 : List Dat) (k4 n4 : Int) (d4 : List Dat) (h1 : den cfg kk 34 [D.dat (Dat.lst b es)] [] [] = some ([D.own 50 ws, D.dat (B true)], [], [])) (h2 : D.cleans [D.dat (T k1 n1 d1)] = true) (h3 : den cfg kk 48 [D.dat (Dat.lst true ws), D.dat (I 0)] [] [] = some ([D.dat (T k1 n1 d1)], [], [])) (h4 : den cfg kk 83 [D.dat (I 0)] [] [] = some ([D.dat (T k2 n2 d2)], [], [])) (h5 : den cfg kk 77 [D.dat (T k2 n2 d2)] [] [] = some ([D.dat (T k3 n3 d3)], [], [])) (h6 : den cfg kk 68 [D.dat (T k1 n1 d1), D.dat (T k3 n3 d3)] [] [] = some ([D.dat (T k4 n4 d4)], [], [])) (h7 : den cfg kk 84 [D.dat (T k4 n4 d4)] [] [] = some ([D.dat (B true)], [], [])) (h8 : den cfg kk 45 [D.dat (I fuel), D.dat (I 0), D.dat (I 1000)] [] [] = some ([D.dat (B false)], [], [])) : runFn cfg kk (den cfg kk) 42 Go.Proofs.Try.f42 [.dat (Dat.lst b es), .dat (I fuel)] [] [] = some ([D.own 50 [], D.dat (B false)], [], []) :=
  hrun_ok [(14, .ret [.own 50 ws, .dat (B true)]), (20, .ret [.dat (T k1 n1 d1)]), (21, .ret [.dat (T k2 n2 d2)]), (22, .ret [.dat (T k3 n3 d3)]), (23, .ret [.dat (T k4 n4 d4)]), (25, .ret [.dat (B true)]), (29, .ret [.dat (B false)])] (ob h1 (ob h2 (ob h3 (ob h4 (ob h5 (ob h6 (ob h7 (ob h8 ob0)))))))) (by kernel_rfl)
theorem sRp_no4 (kk : Nat) (b : Bool) (es : List Dat) (fuel : Int) (ws : List Dat) (k1 n1 : Int) (d1 : List Dat) (k2 n2 : Int) (d2 : List Dat) (k3 n3 : Int) (d3 : List Dat) (k4 n4 : Int) (d4 : List Dat) (c : Int) (k5 n5 : Int) (d5 : List Dat) (h1 : den cfg kk 34 [D.dat (Dat.lst b es)] [] [] = some ([D.own 50 ws, D.dat (B true)], [], [])) (h2 : D.cleans [D.dat (T k1 n1 d1)] = true) (h3 : den cfg kk 48 [D.dat (Dat.lst true ws), D.dat (I 0)] [] [] = some ([D.dat (T k1 n1 d1)], [], [])) (h4 : den cfg kk 83 [D.dat (I 0)] [] [] = some ([D.dat (T k2 n2 d2)], [], [])) (h5 : den cfg kk 77 [D.dat (T k2 n2 d2)] [] [] = some ([D.dat (T k3 n3 d3)], [], [])) (h6 : den cfg kk 68 [D.dat (T k1 n1 d1), D.dat (T k3 n3 d3)] [] [] = some ([D.dat (T k4 n4 d4)], [], [])) (h7 : den cfg kk 84 [D.dat (T k4 n4 d4)] [] [] = some ([D.dat (B true)], [], [])) (h8 : den cfg kk 45 [D.dat (I fuel), D.dat (I 0), D.dat (I 1000)] [] [] = some ([D.dat (B true)], [], [])) (h9 : den cfg kk 85 [D.dat (T k4 n4 d4), D.dat (I fuel), D.dat (B false)] [] [] = some ([D.dat (T k5 n5 d5), D.dat (I c), D.dat (B false)], [], [])) : runFn cfg kk (den cfg kk) 42 Go.Proofs.Try.f42 [.dat (Dat.lst b es), .dat (I fuel)] [] [] = some ([D.own 50 [], D.dat (B false)], [], []) :=
  hrun_ok [(14, .ret [.own 50 ws, .dat (B true)]), (20, .ret [.dat (T k1 n1 d1)]), (21, .ret [.dat (T k2 n2 d2)]), (22, .ret [.dat (T k3 n3 d3)]), (23, .ret [.dat (T k4 n4 d4)]), (25, .ret [.dat (B true)]), (29, .ret [.dat (B true)]), (35, .ret [.dat (T k5 n5 d5), .dat (I c), .dat (B false)])] (ob h1 (ob h2 (ob h3 (ob h4 (ob h5 (ob h6 (ob h7 (ob h8 (ob h9 ob0))))))))) (by kernel_rfl)
theorem sRp_go (kk : Nat) (b : Bool) (es : List Dat) (fuel : Int) (ws : List Dat) (k1 n1 : Int) (d1 : List Dat) (k2 n2 : Int) (d2 : List Dat) (k3 n3 : Int) (d3 : List Dat) (k4 n4 : Int) (d4 : List Dat) (c : Int) (out : List Dat) (g : Bool) (k5 n5 : Int) (d5 : List Dat) (h1 : den cfg kk 34 [D.dat (Dat.lst b es)] [] [] = some ([D.own 50 ws, D.dat (B true)], [], [])) (h2 : D.cleans [D.dat (T k1 n1 d1)] = true) (h3 : den cfg kk 48 [D.dat (Dat.lst true ws), D.dat (I 0)] [] [] = some ([D.dat (T k1 n1 d1)], [], [])) (h4 : den cfg kk 83 [D.dat (I 0)] [] [] = some ([D.dat (T k2 n2 d2)], [], [])) (h5 : den cfg kk 77 [D.dat (T k2 n2 d2)] [] [] = some ([D.dat (T k3 n3 d3)], [], [])) (h6 : den cfg kk 68 [D.dat (T k1 n1 d1), D.dat (T k3 n3 d3)] [] [] = some ([D.dat (T k4 n4 d4)], [], [])) (h7 : den cfg kk 84 [D.dat (T k4 n4 d4)] [] [] = some ([D.dat (B true)], [], [])) (h8 : den cfg kk 45 [D.dat (I fuel), D.dat (I 0), D.dat (I 1000)] [] [] = some ([D.dat (B true)], [], [])) (h9 : den cfg kk 85 [D.dat (T k4 n4 d4), D.dat (I fuel), D.dat (B false)] [] [] = some ([D.dat (T k5 n5 d5), D.dat (I c), D.dat (B true)], [], [])) (h10 : den cfg kk 46 [D.dat (T k5 n5 d5)] [] [] = some ([D.own 50 out, D.dat (B g)], [], [])) : runFn cfg kk (den cfg kk) 42 Go.Proofs.Try.f42 [.dat (Dat.lst b es), .dat (I fuel)] [] [] = some ([D.own 50 out, D.dat (B g)], [], []) :=
  hrun_ok [(14, .ret [.own 50 ws, .dat (B true)]), (20, .ret [.dat (T k1 n1 d1)]), (21, .ret [.dat (T k2 n2 d2)]), (22, .ret [.dat (T k3 n3 d3)]), (23, .ret [.dat (T k4 n4 d4)]), (25, .ret [.dat (B true)]), (29, .ret [.dat (B true)]), (35, .ret [.dat (T k5 n5 d5), .dat (I c), .dat (B true)]), (42, .ret [.own 50 out, .dat (B g)])] (ob h1 (ob h2 (ob h3 (ob h4 (ob h5 (ob h6 (ob h7 (ob h8 (ob h9 (ob h10 ob0)))))))))) (by kernel_rfl)
theorem iRp_no1 (kk : Nat) (b : Bool) (es : List Dat) (fuel : Int) (ws us os : List Dat) (k1 n1 : Int) (d1 : List Dat) (k2 n2 : Int) (d2 : List Dat) (r2 : Bool) (h1 : den cfg kk 35 [D.dat (Dat.lst b es)] [] [] = some ([D.own 50 ws, D.dat (B false)], [], [])) (h2 : den cfg kk 87 [D.dat (I 0)] [] [] = some ([D.dat (T k1 n1 d1)], [], [])) (h3 : den cfg kk 86 [D.dat (T k1 n1 d1)] [] [] = some ([D.dat (T k2 n2 d2)], [], [])) (h4 : den cfg kk 56 [D.dat (T k2 n2 d2)] [] [] = some ([D.own 50 us], [], [])) (h5 : D.cleans [D.own 50 os, D.dat (B r2)] = true) (h6 : den cfg kk 31 [D.dat (Dat.lst true ws), D.dat (Dat.lst true us)] [] [] = some ([D.own 50 os, D.dat (B r2)], [], [])) : runFn cfg kk (den cfg kk) 43 Go.Proofs.Try.f43 [.dat (Dat.lst b es), .dat (I fuel)] [] [] = some ([D.own 50 [], D.dat (B false)], [], []) :=
  hrun_ok [(15, .ret [.own 50 ws, .dat (B false)]), (20, .ret [.dat (T k1 n1 d1)]), (21, .ret [.dat (T k2 n2 d2)]), (22, .ret [.own 50 us]), (23, .ret [.own 50 os, .dat (B r2)])] (ob h1 (ob h2 (ob h3 (ob h4 (ob h5 (ob h6 ob0)))))) (by kernel_rfl)
theorem iRp_no2 (kk : Nat) (b : Bool) (es : List Dat) (fuel : Int) (ws us os : List Dat) (k1 n1 : Int) (d1 : List Dat) (k2 n2 : Int) (d2 : List Dat) (h1 : den cfg kk 35 [D.dat (Dat.lst b es)] [] [] = some ([D.own 50 ws, D.dat (B true)], [], [])) (h2 : den cfg kk 87 [D.dat (I 0)] [] [] = some ([D.dat (T k1 n1 d1)], [], [])) (h3 : den cfg kk 86 [D.dat (T k1 n1 d1)] [] [] = some ([D.dat (T k2 n2 d2)], [], [])) (h4 : den cfg kk 56 [D.dat (T k2 n2 d2)] [] [] = some ([D.own 50 us], [], [])) (h5 : D.cleans [D.own 50 os, D.dat (B false)] = true) (h6 : den cfg kk 31 [D.dat (Dat.lst true ws), D.dat (Dat.lst true us)] [] [] = some ([D.own 50 os, D.dat (B false)], [], [])) : runFn cfg kk (den cfg kk) 43 Go.Proofs.Try.f43 [.dat (Dat.lst b es), .dat (I fuel)] [] [] = some ([D.own 50 [], D.dat (B false)], [], []) :=
  hrun_ok [(15, .ret [.own 50 ws, .dat (B true)]), (20, .ret [.dat (T k1 n1 d1)]), (21, .ret [.dat (T k2 n2 d2)]), (22, .ret [.own 50 us]), (23, .ret [.own 50 os, .dat (B false)])] (ob h1 (ob h2 (ob h3 (ob h4 (ob h5 (ob h6 ob0)))))) (by kernel_rfl)
theorem iRp_go (kk : Nat) (b : Bool) (es : List Dat) (fuel : Int) (ws us os : List Dat) (k1 n1 : Int) (d1 : List Dat) (k2 n2 : Int) (d2 : List Dat) (out : List Dat) (c : Int) (r : Bool) (h1 : den cfg kk 35 [D.dat (Dat.lst b es)] [] [] = some ([D.own 50 ws, D.dat (B true)], [], [])) (h2 : den cfg kk 87 [D.dat (I 0)] [] [] = some ([D.dat (T k1 n1 d1)], [], [])) (h3 : den cfg kk 86 [D.dat (T k1 n1 d1)] [] [] = some ([D.dat (T k2 n2 d2)], [], [])) (h4 : den cfg kk 56 [D.dat (T k2 n2 d2)] [] [] = some ([D.own 50 us], [], [])) (h5 : D.cleans [D.own 50 os, D.dat (B true)] = true) (h6 : den cfg kk 31 [D.dat (Dat.lst true ws), D.dat (Dat.lst true us)] [] [] = some ([D.own 50 os, D.dat (B true)], [], [])) (h7 : D.cleans [D.own 50 out, D.dat (I c), D.dat (B r)] = true) (h8 : den cfg kk 39 [D.dat (Dat.lst true os), D.dat (I fuel)] [] [] = some ([D.own 50 out, D.dat (I c), D.dat (B r)], [], [])) : runFn cfg kk (den cfg kk) 43 Go.Proofs.Try.f43 [.dat (Dat.lst b es), .dat (I fuel)] [] [] = some ([D.own 50 out, D.dat (B r)], [], []) :=
  hrun_ok [(15, .ret [.own 50 ws, .dat (B true)]), (20, .ret [.dat (T k1 n1 d1)]), (21, .ret [.dat (T k2 n2 d2)]), (22, .ret [.own 50 us]), (23, .ret [.own 50 os, .dat (B true)]), (35, .ret [.own 50 out, .dat (I c), .dat (B r)])] (ob h1 (ob h2 (ob h3 (ob h4 (ob h5 (ob h6 (ob h7 (ob h8 ob0)))))))) (by kernel_rfl)
theorem rps_true (kk : Nat) (v1 : Int) (as_ : List Dat) (l1 : Int) (xs : List Dat) (ws : List Dat) (xs' : List Dat) (k1 : Int) (ws' : List Dat) (k2 : Int) (q1 : Int) (q2 : Int) (h1 : den cfg kk 15 [D.dat (Dat.lst false as_), D.dat (I 1048576)] [] [] = some ([D.dat (I l1)], [], [])) (h2 : decide (l1 < 0) = false) (h3 : den cfg kk 17 [D.dat (Dat.lst false as_)] [] [] = some ([D.own 50 xs], [], [])) (h4 : D.cleans [D.own 50 ws, D.dat (B true)] = true) (h5 : den cfg kk 42 [D.dat (Dat.lst true xs), D.dat (I v1)] [] [] = some ([D.own 50 ws, D.dat (B true)], [], [])) (h6 : den cfg kk 17 [D.dat (Dat.lst false as_)] [] [] = some ([D.own 50 xs], [], [])) (h7 : D.cleans [D.own 50 ws, D.dat (B true)] = true) (h8 : den cfg kk 43 [D.dat (Dat.lst true xs), D.dat (I v1)] [] [] = some ([D.own 50 ws, D.dat (B true)], [], [])) (h10 : den cfg kk 19 [D.dat (Dat.lst true ws), D.dat (Dat.lst true ws)] [] [] = some ([D.dat (B true)], [], [])) (h15 : den cfg kk 17 [D.dat (Dat.lst false as_)] [] [] = some ([D.own 50 xs], [], [])) (h17 : den cfg kk 19 [D.dat (Dat.lst true xs), D.dat (Dat.lst true xs)] [] [] = some ([D.dat (B true)], [], [])) (h19 : den cfg kk 20 [D.bor (Pl.lent 0) none, D.dat (I 1)] [] [some (50, xs)] = some ([D.dat (I k1)], [], [some (50, xs')])) (h21 : decide (k1 < 0) = false) (h25 : den cfg kk 19 [D.dat (Dat.lst true ws), D.dat (Dat.lst true ws)] [] [] = some ([D.dat (B true)], [], [])) (h31 : den cfg kk 20 [D.bor (Pl.lent 0) none, D.dat (I 1)] [] [some (50, ws)] = some ([D.dat (I k2)], [], [some (50, ws')])) (h34 : den cfg kk 21 [D.dat (Dat.lst true ws'), D.dat (I 1)] [] [] = some ([D.dat (I q1)], [], [])) (h35 : decide (q1 < 0) = false) (h36 : (!decide (q1 = k2)) = false) (h37 : den cfg kk 17 [D.dat (Dat.lst false as_)] [] [] = some ([D.own 50 xs], [], [])) (h38 : D.cleans [D.own 50 ws, D.dat (B true)] = true) (h39 : den cfg kk 43 [D.dat (Dat.lst true xs), D.dat (I v1)] [] [] = some ([D.own 50 ws, D.dat (B true)], [], [])) (h41 : den cfg kk 19 [D.dat (Dat.lst true ws), D.dat (Dat.lst true ws)] [] [] = some ([D.dat (B true)], [], [])) (h47 : den cfg kk 21 [D.dat (Dat.lst true ws'), D.dat (I 1)] [] [] = some ([D.dat (I q2)], [], [])) (h48 : decide (q2 < 0) = false) (h49 : (!decide (q2 = k2)) = false) : runFn cfg kk (den cfg kk) 14 Go.Proofs.Try.f14 [.dat (Dat.lst false as_), .dat (I v1)] [] [] = some ([D.dat (B true)], [], []) :=
  hrun_ok [(18, .ret [.dat (I l1)]), (200020, .no), (23, .ret [.own 50 xs]), (25, .ret [.own 50 ws, .dat (B true)]), (29, .ret [.own 50 xs]), (33, .ret [.own 50 ws, .dat (B true)]), (38, .ret [.dat (B true)]), (200040, .no), (200044, .no), (47, .ret [.own 50 xs]), (48, .ret [.dat (B true)]), (200049, .no), (52, .back [.dat (I k1)] [] [some (50, xs')]), (200055, .no), (58, .ret [.dat (B true)]), (200061, .no), (200065, .no), (68, .back [.dat (I k2)] [] [some (50, ws')]), (71, .ret [.dat (I q1)]), (200073, .no), (200076, .no), (79, .ret [.own 50 xs]), (81, .ret [.own 50 ws, .dat (B true)]), (86, .ret [.dat (B true)]), (200088, .no), (200092, .no), (95, .ret [.dat (I q2)]), (200097, .no), (200100, .no)] (ob h1 (ob h2 (ob h3 (ob h4 (ob h5 (ob h6 (ob h7 (ob h8 (ob (rfl : true = true) (ob h10 (ob (rfl : false = false) (ob (rfl : false = false) (ob (rfl : false = false) (ob (rfl : false = false) (ob h15 (ob (rfl : true = true) (ob h17 (ob (rfl : false = false) (ob h19 (ob (rfl : false = false) (ob h21 (ob (rfl : false = false) (ob (rfl : false = false) (ob (rfl : true = true) (ob h25 (ob (rfl : false = false) (ob (rfl : false = false) (ob (rfl : false = false) (ob (rfl : false = false) (ob (rfl : false = false) (ob h31 (ob (rfl : false = false) (ob (rfl : true = true) (ob h34 (ob h35 (ob h36 (ob h37 (ob h38 (ob h39 (ob (rfl : true = true) (ob h41 (ob (rfl : false = false) (ob (rfl : false = false) (ob (rfl : false = false) (ob (rfl : false = false) (ob (rfl : true = true) (ob h47 (ob h48 (ob h49 ob0))))))))))))))))))))))))))))))))))))))))))))))))) (by kernel_rfl)
theorem rps_false (kk : Nat) (v1 : Int) (as_ : List Dat) (l1 : Int) (xs : List Dat) (ws : List Dat) (xs' : List Dat) (k1 : Int) (ws' : List Dat) (k2 : Int) (q1 : Int) (q2 : Int) (h1 : den cfg kk 15 [D.dat (Dat.lst false as_), D.dat (I 1048576)] [] [] = some ([D.dat (I l1)], [], [])) (h2 : decide (l1 < 0) = false) (h3 : den cfg kk 17 [D.dat (Dat.lst false as_)] [] [] = some ([D.own 50 xs], [], [])) (h4 : D.cleans [D.own 50 ws, D.dat (B false)] = true) (h5 : den cfg kk 42 [D.dat (Dat.lst true xs), D.dat (I v1)] [] [] = some ([D.own 50 ws, D.dat (B false)], [], [])) (h6 : den cfg kk 17 [D.dat (Dat.lst false as_)] [] [] = some ([D.own 50 xs], [], [])) (h7 : D.cleans [D.own 50 ws, D.dat (B false)] = true) (h8 : den cfg kk 43 [D.dat (Dat.lst true xs), D.dat (I v1)] [] [] = some ([D.own 50 ws, D.dat (B false)], [], [])) (h10 : den cfg kk 19 [D.dat (Dat.lst true ws), D.dat (Dat.lst true ws)] [] [] = some ([D.dat (B true)], [], [])) (h15 : den cfg kk 17 [D.dat (Dat.lst false as_)] [] [] = some ([D.own 50 xs], [], [])) (h17 : den cfg kk 19 [D.dat (Dat.lst true xs), D.dat (Dat.lst true xs)] [] [] = some ([D.dat (B true)], [], [])) (h19 : den cfg kk 20 [D.bor (Pl.lent 0) none, D.dat (I 1)] [] [some (50, xs)] = some ([D.dat (I k1)], [], [some (50, xs')])) (h21 : decide (k1 < 0) = false) (h25 : den cfg kk 19 [D.dat (Dat.lst true ws), D.dat (Dat.lst true ws)] [] [] = some ([D.dat (B true)], [], [])) (h31 : den cfg kk 20 [D.bor (Pl.lent 0) none, D.dat (I 1)] [] [some (50, ws)] = some ([D.dat (I k2)], [], [some (50, ws')])) (h34 : den cfg kk 21 [D.dat (Dat.lst true ws'), D.dat (I 1)] [] [] = some ([D.dat (I q1)], [], [])) (h35 : decide (q1 < 0) = false) (h36 : (!decide (q1 = k2)) = false) (h37 : den cfg kk 17 [D.dat (Dat.lst false as_)] [] [] = some ([D.own 50 xs], [], [])) (h38 : D.cleans [D.own 50 ws, D.dat (B false)] = true) (h39 : den cfg kk 43 [D.dat (Dat.lst true xs), D.dat (I v1)] [] [] = some ([D.own 50 ws, D.dat (B false)], [], [])) (h41 : den cfg kk 19 [D.dat (Dat.lst true ws), D.dat (Dat.lst true ws)] [] [] = some ([D.dat (B true)], [], [])) (h47 : den cfg kk 21 [D.dat (Dat.lst true ws'), D.dat (I 1)] [] [] = some ([D.dat (I q2)], [], [])) (h48 : decide (q2 < 0) = false) (h49 : (!decide (q2 = k2)) = false) : runFn cfg kk (den cfg kk) 14 Go.Proofs.Try.f14 [.dat (Dat.lst false as_), .dat (I v1)] [] [] = some ([D.dat (B true)], [], []) :=
  hrun_ok [(18, .ret [.dat (I l1)]), (200020, .no), (23, .ret [.own 50 xs]), (25, .ret [.own 50 ws, .dat (B false)]), (29, .ret [.own 50 xs]), (33, .ret [.own 50 ws, .dat (B false)]), (38, .ret [.dat (B true)]), (200040, .no), (200044, .no), (47, .ret [.own 50 xs]), (48, .ret [.dat (B true)]), (200049, .no), (52, .back [.dat (I k1)] [] [some (50, xs')]), (200055, .no), (58, .ret [.dat (B true)]), (200061, .no), (200065, .no), (68, .back [.dat (I k2)] [] [some (50, ws')]), (71, .ret [.dat (I q1)]), (200073, .no), (200076, .no), (79, .ret [.own 50 xs]), (81, .ret [.own 50 ws, .dat (B false)]), (86, .ret [.dat (B true)]), (200088, .no), (200092, .no), (95, .ret [.dat (I q2)]), (200097, .no), (200100, .no)] (ob h1 (ob h2 (ob h3 (ob h4 (ob h5 (ob h6 (ob h7 (ob h8 (ob (rfl : true = true) (ob h10 (ob (rfl : false = false) (ob (rfl : false = false) (ob (rfl : false = false) (ob (rfl : false = false) (ob h15 (ob (rfl : true = true) (ob h17 (ob (rfl : false = false) (ob h19 (ob (rfl : false = false) (ob h21 (ob (rfl : false = false) (ob (rfl : false = false) (ob (rfl : true = true) (ob h25 (ob (rfl : false = false) (ob (rfl : false = false) (ob (rfl : false = false) (ob (rfl : false = false) (ob (rfl : false = false) (ob h31 (ob (rfl : false = false) (ob (rfl : true = true) (ob h34 (ob h35 (ob h36 (ob h37 (ob h38 (ob h39 (ob (rfl : true = true) (ob h41 (ob (rfl : false = false) (ob (rfl : false = false) (ob (rfl : false = false) (ob (rfl : false = false) (ob (rfl : true = true) (ob h47 (ob h48 (ob h49 ob0))))))))))))))))))))))))))))))))))))))))))))))))) (by kernel_rfl)
theorem rps_small1 (kk : Nat) (v1 : Int) (as_ : List Dat) (l1 : Int) (h1 : den cfg kk 15 [D.dat (Dat.lst false as_), D.dat (I 1048576)] [] [] = some ([D.dat (I l1)], [], [])) (h2 : decide (l1 < 0) = true) : runFn cfg kk (den cfg kk) 14 Go.Proofs.Try.f14 [.dat (Dat.lst false as_), .dat (I v1)] [] [] = some ([D.dat (B true)], [], []) :=
  hrun_ok [(18, .ret [.dat (I l1)]), (200020, .yes)] (ob h1 (ob h2 ob0)) (by kernel_rfl)
end Go.Den
namespace Go.Den
open Go
set_option linter.unusedVariables false
set_option maxRecDepth 100000
/-- A term as one that is told what is to be done then (Plotkin). -/
def passT : Pt → Pt
  | .var n => .lam 0 (.app 0 (.var 0) (.var (n + 1)))
  | .lam _ x => .lam 0 (.app 0 (.var 0) (sh 1 0 (.lam 0 (passT x))))
  | .app _ x y => .lam 0 (.app 0 (sh 1 0 (passT x)) (.lam 0 (.app 0 (sh 2 0 (passT y)) (.lam 0 (.app 0 (.app 0 (.var 1) (.var 0)) (.var 2))))))
theorem sh_within (b : Int) (hb : 0 ≤ b) (M : Int) : ∀ (t : Pt) (f : Int), t.within M → (sh b f t).within (M + b)
  | .var n, f, h => by
    have h : -M ≤ n ∧ n ≤ M := h
    simp only [sh]
    split
    · show -(M + b) ≤ n + b ∧ n + b ≤ M + b
      omega
    · show -(M + b) ≤ n ∧ n ≤ M + b
      omega
  | .lam n t, f, h => sh_within b hb M t (f + 1) h
  | .app n x y, f, h => by
    have h : x.within M ∧ y.within M := h
    exact ⟨sh_within b hb M x f h.1, sh_within b hb M y f h.2⟩
theorem passT_size : ∀ t : Pt, (passT t).size ≤ 10 * t.size ∧ (passT t).depth ≤ 8 * t.depth
  | .var n => by simp [passT, Pt.size, Pt.depth]
  | .lam n x => by
    have h := passT_size x
    have h2 := sh_size 1 (.lam 0 (passT x)) 0
    simp only [passT, Pt.size, Pt.depth] at h2 ⊢
    omega
  | .app n x y => by
    have h := passT_size x
    have k := passT_size y
    have h2 := sh_size 1 (passT x) 0
    have k2 := sh_size 2 (passT y) 0
    simp only [passT, Pt.size, Pt.depth] at h2 k2 ⊢
    omega
theorem passT_within (M : Int) (hM : 2 ≤ M) : ∀ t : Pt, t.within M → (passT t).within (M + 3 * t.depth)
  | .var n, h => by
    have h : -M ≤ n ∧ n ≤ M := h
    simp only [passT, Pt.within, Pt.depth]
    omega
  | .lam n x, h => by
    have ih := passT_within M hM x h
    have h2 : (sh 1 0 (.lam 0 (passT x))).within (M + 3 * x.depth + 1) := sh_within 1 (by omega) _ (.lam 0 (passT x)) 0 ih
    have h3 := within_mono (show M + 3 * (x.depth : Int) + 1 ≤ M + 3 * ((x.depth + 1 : Nat) : Int) by omega) _ h2
    show ((.app 0 (.var 0) (sh 1 0 (.lam 0 (passT x))) : Pt)).within _
    refine ⟨?_, h3⟩
    show -(M + 3 * ((x.depth + 1 : Nat) : Int)) ≤ 0 ∧ (0 : Int) ≤ M + 3 * ((x.depth + 1 : Nat) : Int)
    omega
  | .app n x y, h => by
    have h : x.within M ∧ y.within M := h
    have i1 := passT_within M hM x h.1
    have i2 := passT_within M hM y h.2
    have j1 := sh_within 1 (by omega) _ (passT x) 0 i1
    have j2 := sh_within 2 (by omega) _ (passT y) 0 i2
    have hd : (Pt.app n x y).depth = max x.depth y.depth + 1 := rfl
    have k1 := within_mono (show M + 3 * (x.depth : Int) + 1 ≤ M + 3 * ((Pt.app n x y).depth : Int) by omega) _ j1
    have k2 := within_mono (show M + 3 * (y.depth : Int) + 2 ≤ M + 3 * ((Pt.app n x y).depth : Int) by omega) _ j2
    refine ⟨k1, k2, ⟨?_, ?_⟩, ?_⟩
    · show -(M + 3 * ((Pt.app n x y).depth : Int)) ≤ 1 ∧ (1 : Int) ≤ M + 3 * ((Pt.app n x y).depth : Int); omega
    · show -(M + 3 * ((Pt.app n x y).depth : Int)) ≤ 0 ∧ (0 : Int) ≤ M + 3 * ((Pt.app n x y).depth : Int); omega
    · show -(M + 3 * ((Pt.app n x y).depth : Int)) ≤ 2 ∧ (2 : Int) ≤ M + 3 * ((Pt.app n x y).depth : Int); omega
/-- What is small enough to be passed. -/
def fit (t : Pt) : Prop := t.depth ≤ 41 ∧ t.within 1000
theorem fit_kid {t x : Pt} (h : fit t) (hx : x ∈ t.kids) : fit x := ⟨by have := Pt.kids_lt hx; have := h.1; omega, within_kids h.2 hx⟩
theorem pass_fit {t : Pt} (h : fit t) : (passT t).depth ≤ 328 ∧ (passT t).within 10000 := by
  have h1 := passT_size t
  have h2 := passT_within 1000 (by omega) t h.2
  have := h.1
  exact ⟨by omega, within_mono (by omega) _ h2⟩
theorem ev_lfUp (t : Pt) (b : Int) (hb : 0 ≤ b ∧ b ≤ 10) (hd : t.depth ≤ 400) (hw : t.within 100000) : EvN 1000 110 [.dat t.d, .dat (I b)] [] [] ([.dat (sh b 0 t).d], [], []) := by
  refine (ev_fn Go.Proofs.Try.f110 900 (by kernel_rfl) (by kernel_rfl) fun kk hkk => ?_).mono (by omega)
  have a := ev_lcShift b (by omega) 400 t 0 hd (by omega) (by omega) (within_mono (by omega) _ hw) kk (by omega)
  rw [Pt.d_eq t, Pt.d_eq (sh b 0 t)] at a ⊢
  exact lfUp kk b true _ _ _ _ _ _ a
theorem ev_lfPass : ∀ (d : Nat) (t : Pt), t.depth ≤ d → fit t → EvN (d + 1100) 75 [.dat t.d] [] [] ([.dat (passT t).d], [], [])
  | 0, t, hd, _ => by have := t.depth_pos; omega
  | d + 1, t, hd, hf => by
    refine ev_fn Go.Proofs.Try.f75 (d + 1100) (by kernel_rfl) (by kernel_rfl) fun kk hkk => ?_
    have v0 := ev_lcVar 0 kk (by omega)
    have ih : ∀ x ∈ t.kids, den cfg kk 75 [.dat x.d] [] [] = some ([.dat (passT x).d], [], []) := fun x hx => ev_lfPass d x (by have := Pt.kids_lt hx; omega) (fit_kid hf hx) kk (by omega)
    have hfit : ∀ x ∈ t.kids, _ := fun x hx => pass_fit (fit_kid hf hx)
    cases t with
    | var n =>
      have hw : -1000 ≤ n ∧ n ≤ 1000 := hf.2
      have e : w64 (n + 1) = n + 1 := w64_eq (by omega)
      have v1 := ev_lcVar (n + 1) kk (by omega)
      have a := ev_lcApp (.var 0) (.var (n + 1)) kk (by omega)
      have l := ev_lcLam (.app 0 (.var 0) (.var (n + 1))) kk (by omega)
      refine lfPass_var kk n [] _ _ _ _ _ _ _ _ _ _ _ _ v0 ?_ a l
      rw [e]
      exact v1
    | lam n x =>
      have i := ih x (by simp [Pt.kids])
      have hx := hfit x (by simp [Pt.kids])
      have l := ev_lcLam (passT x) kk (by omega)
      have u := ev_lfUp (.lam 0 (passT x)) 1 (by omega) (by simp only [Pt.depth]; omega) (within_mono (by omega) _ hx.2) kk (by omega)
      have a := ev_lcApp (.var 0) (sh 1 0 (.lam 0 (passT x))) kk (by omega)
      have l2 := ev_lcLam (.app 0 (.var 0) (sh 1 0 (.lam 0 (passT x)))) kk (by omega)
      rw [Pt.d_eq x, Pt.d_eq (passT x)] at i
      rw [Pt.d_eq (passT x)] at l
      rw [Pt.d_eq (sh 1 0 (.lam 0 (passT x)))] at u a
      have e : (Pt.lam n x).d = T 2 n [T x.kd x.num (x.kids.map Pt.d)] := by rw [← Pt.d_eq]; rfl
      rw [e]
      apply lfPass_lam kk <;> first | assumption | exact ⟨⟨by decide, by simp⟩, rfl⟩ | (simp; done)
    | app n x y =>
      have i1 := ih x (by simp [Pt.kids])
      have i2 := ih y (by simp [Pt.kids])
      have hx := hfit x (by simp [Pt.kids])
      have hy := hfit y (by simp [Pt.kids])
      have u1 := ev_lfUp (passT x) 1 (by omega) (by omega) (within_mono (by omega) _ hx.2) kk (by omega)
      have u2 := ev_lfUp (passT y) 2 (by omega) (by omega) (within_mono (by omega) _ hy.2) kk (by omega)
      have v1 := ev_lcVar 1 kk (by omega)
      have v2 := ev_lcVar 2 kk (by omega)
      have a1 := ev_lcApp (.var 1) (.var 0) kk (by omega)
      have a2 := ev_lcApp (.app 0 (.var 1) (.var 0)) (.var 2) kk (by omega)
      have l1 := ev_lcLam (.app 0 (.app 0 (.var 1) (.var 0)) (.var 2)) kk (by omega)
      have a3 := ev_lcApp (sh 2 0 (passT y)) (.lam 0 (.app 0 (.app 0 (.var 1) (.var 0)) (.var 2))) kk (by omega)
      have l2 := ev_lcLam (.app 0 (sh 2 0 (passT y)) (.lam 0 (.app 0 (.app 0 (.var 1) (.var 0)) (.var 2)))) kk (by omega)
      have a4 := ev_lcApp (sh 1 0 (passT x)) (.lam 0 (.app 0 (sh 2 0 (passT y)) (.lam 0 (.app 0 (.app 0 (.var 1) (.var 0)) (.var 2))))) kk (by omega)
      have l3 := ev_lcLam (.app 0 (sh 1 0 (passT x)) (.lam 0 (.app 0 (sh 2 0 (passT y)) (.lam 0 (.app 0 (.app 0 (.var 1) (.var 0)) (.var 2)))))) kk (by omega)
      rw [Pt.d_eq x, Pt.d_eq (passT x)] at i1
      rw [Pt.d_eq y, Pt.d_eq (passT y)] at i2
      rw [Pt.d_eq (passT x), Pt.d_eq (sh 1 0 (passT x))] at u1
      rw [Pt.d_eq (passT y), Pt.d_eq (sh 2 0 (passT y))] at u2
      rw [Pt.d_eq (sh 2 0 (passT y))] at a3
      rw [Pt.d_eq (sh 1 0 (passT x))] at a4
      have e : (Pt.app n x y).d = T 3 n [T x.kd x.num (x.kids.map Pt.d), T y.kd y.num (y.kids.map Pt.d)] := by rw [← Pt.d_eq, ← Pt.d_eq]; rfl
      rw [e]
      refine lfPass_app kk n [] _ _ _ _ _ _ _ _ _ _ _ _ _ _ _ _ _ _ _ _ _ _ _ _ _ _ _ _ _ _ _ _ _ _ _ _ _ _ _ _ _ _ _ _ _ _ _ _ ?_ i1 u1 ?_ i2 u2 v1 v0 a1 v2 a2 l1 a3 l2 a4 l3
      · exact ⟨⟨by decide, by simp⟩, rfl⟩
      · exact ⟨⟨by decide, by simp⟩, rfl⟩
theorem ev_pass : ∀ (d : Nat) (t : Pt), t.depth ≤ d → fit t → EvN (2 * d + 1100) 76 [.dat t.d] [] [] ([.dat (passT t).d], [], [])
  | 0, t, hd, _ => by have := t.depth_pos; omega
  | d + 1, t, hd, hf => by
    refine (ev_fn Go.Proofs.Try.f76 (2 * d + 1101) (by kernel_rfl) (by kernel_rfl) fun kk hkk => ?_).mono (by omega)
    have v0 := ev_variable 0 kk (by omega)
    have ih : ∀ x ∈ t.kids, ∀ kk, 2 * d + 1100 ≤ kk → den cfg kk 76 [.dat x.d] [] [] = some ([.dat (passT x).d], [], []) := fun x hx kk hkk => ev_pass d x (by have := Pt.kids_lt hx; omega) (fit_kid hf hx) kk (by omega)
    have hfit : ∀ x ∈ t.kids, _ := fun x hx => pass_fit (fit_kid hf hx)
    cases t with
    | var n =>
      have hw : -1000 ≤ n ∧ n ≤ 1000 := hf.2
      have e : w64 (n + 1) = n + 1 := w64_eq (by omega)
      have v1 := ev_variable (n + 1) kk (by omega)
      have a := ev_app (.var 0) (.var (n + 1)) kk (by omega)
      have l := ev_lam (.app 0 (.var 0) (.var (n + 1))) kk (by omega)
      refine pass_var kk n [] _ _ _ _ _ _ _ _ _ _ _ _ v0 ?_ a l
      rw [e]
      exact v1
    | lam n x =>
      have hx := hfit x (by simp [Pt.kids])
      have pl : den cfg kk 78 [.dat (Pt.lam n x).d] [] [] = some ([.dat (Pt.lam 0 (passT x)).d], [], []) := by
        refine (ev_fn Go.Proofs.Try.f78 (2 * d + 1100) (by kernel_rfl) (by kernel_rfl) fun k2 hk2 => ?_) kk (by omega)
        have i := ih x (by simp [Pt.kids]) k2 hk2
        have l := ev_lam (passT x) k2 (by omega)
        rw [Pt.d_eq x, Pt.d_eq (passT x)] at i
        rw [Pt.d_eq (passT x)] at l
        have e : (Pt.lam n x).d = T 2 n [T x.kd x.num (x.kids.map Pt.d)] := by rw [← Pt.d_eq]; rfl
        rw [e]
        exact passLambda k2 2 n [] _ _ _ _ _ _ _ _ _ ⟨⟨by decide, by simp⟩, rfl⟩ i l
      have u := ev_shift (.lam 0 (passT x)) 1 0 (by omega) (by omega) (by simp only [Pt.depth]; omega) (within_mono (by omega) _ hx.2) kk (by simp only [Pt.depth]; omega)
      have a := ev_app (.var 0) (sh 1 0 (.lam 0 (passT x))) kk (by omega)
      have l2 := ev_lam (.app 0 (.var 0) (sh 1 0 (.lam 0 (passT x)))) kk (by omega)
      rw [Pt.d_eq (sh 1 0 (.lam 0 (passT x)))] at u a
      exact pass_lam kk n _ _ _ _ _ _ _ _ _ _ _ _ _ _ _ _ v0 pl u a l2
    | app n x y =>
      have i1 := ih x (by simp [Pt.kids]) kk (by omega)
      have i2 := ih y (by simp [Pt.kids]) kk (by omega)
      have hx := hfit x (by simp [Pt.kids])
      have hy := hfit y (by simp [Pt.kids])
      have u1 := ev_shift (passT x) 1 0 (by omega) (by omega) (by omega) (within_mono (by omega) _ hx.2) kk (by omega)
      have u2 := ev_shift (passT y) 2 0 (by omega) (by omega) (by omega) (within_mono (by omega) _ hy.2) kk (by omega)
      have v1 := ev_variable 1 kk (by omega)
      have v2 := ev_variable 2 kk (by omega)
      have a1 := ev_app (.var 1) (.var 0) kk (by omega)
      have a2 := ev_app (.app 0 (.var 1) (.var 0)) (.var 2) kk (by omega)
      have l1 := ev_lam (.app 0 (.app 0 (.var 1) (.var 0)) (.var 2)) kk (by omega)
      have a3 := ev_app (sh 2 0 (passT y)) (.lam 0 (.app 0 (.app 0 (.var 1) (.var 0)) (.var 2))) kk (by omega)
      have l2 := ev_lam (.app 0 (sh 2 0 (passT y)) (.lam 0 (.app 0 (.app 0 (.var 1) (.var 0)) (.var 2)))) kk (by omega)
      have a4 := ev_app (sh 1 0 (passT x)) (.lam 0 (.app 0 (sh 2 0 (passT y)) (.lam 0 (.app 0 (.app 0 (.var 1) (.var 0)) (.var 2))))) kk (by omega)
      have l3 := ev_lam (.app 0 (sh 1 0 (passT x)) (.lam 0 (.app 0 (sh 2 0 (passT y)) (.lam 0 (.app 0 (.app 0 (.var 1) (.var 0)) (.var 2)))))) kk (by omega)
      rw [Pt.d_eq x, Pt.d_eq (passT x)] at i1
      rw [Pt.d_eq y, Pt.d_eq (passT y)] at i2
      rw [Pt.d_eq (passT x), Pt.d_eq (sh 1 0 (passT x))] at u1
      rw [Pt.d_eq (passT y), Pt.d_eq (sh 2 0 (passT y))] at u2
      rw [Pt.d_eq (sh 2 0 (passT y))] at a3
      rw [Pt.d_eq (sh 1 0 (passT x))] at a4
      have e : (Pt.app n x y).d = T 3 n [T x.kd x.num (x.kids.map Pt.d), T y.kd y.num (y.kids.map Pt.d)] := by rw [← Pt.d_eq, ← Pt.d_eq]; rfl
      rw [e]
      exact pass_app kk n [] _ _ _ _ _ _ _ _ _ _ _ _ _ _ _ _ _ _ _ _ _ _ _ _ _ _ _ _ _ _ _ _ _ _ _ _ _ _ _ _ _ _ _ _ _ _ _ _ v1 v0 a1 v2 a2 l1 ⟨⟨by decide, by simp⟩, rfl⟩ i2 u2 a3 l2 ⟨⟨by decide, by simp⟩, rfl⟩ i1 u1 a4 l3
def passN (L : List Nd) : List Nd × Bool := match closedOfP L with | some t => told (passT t) | none => ([], false)
theorem passN_len (L : List Nd) : (passN L).1.length ≤ 150 := by
  unfold passN
  split
  · exact told_len _
  · simp
theorem good_fit {t : Pt} (h : t.good = true) : fit t := by
  have h1 := good_facts h
  exact ⟨by omega, within_mono (by omega) _ (nums_within t h1.2.2)⟩
theorem ev_sPass (L : List Nd) (b : Bool) (hL : L.length ≤ 1048576) : EvN 1002000 34 [.dat (.lst b (L.map Nd.d))] [] [] ([.own 50 ((passN L).1.map Nd.d), .dat (B (passN L).2)], [], []) := by
  refine (ev_fn Go.Proofs.Try.f34 1001900 (by kernel_rfl) (by kernel_rfl) fun kk hkk => ?_).mono (by omega)
  have a1 := ev_lfClosed L b hL kk (by omega)
  unfold passN
  cases h1 : closedOfP L with
  | none => rw [h1] at a1; exact sPass_no kk b _ a1
  | some t =>
    rw [h1] at a1
    have hg := closedOfP_good h1
    have hf := good_fit hg
    have hsm := good_small hg
    have hp := pass_fit hf
    have hz := passT_size t
    have a2 := ev_tree b (closedOfP_some h1).1 kk (by omega)
    have a3 := ev_lfPass 40 t hsm.2.1 hf kk (by omega)
    have a4 := ev_lcTold (passT t) (by omega) kk (by omega)
    rw [Pt.d_eq t] at a2
    rw [Pt.d_eq t, Pt.d_eq (passT t)] at a3
    rw [Pt.d_eq (passT t)] at a4
    exact sPass_go kk b _ _ _ _ _ _ _ _ _ a1 a2 a3 a4
theorem ev_iPass (L : List Nd) (b : Bool) (hL : L.length ≤ 1048576) : EvN 5000 35 [.dat (.lst b (L.map Nd.d))] [] [] ([.own 50 ((passN L).1.map Nd.d), .dat (B (passN L).2)], [], []) := by
  refine (ev_fn Go.Proofs.Try.f35 4900 (by kernel_rfl) (by kernel_rfl) fun kk hkk => ?_).mono (by omega)
  obtain ⟨k1, n1, d1, a1, e1⟩ := ev_closedOf_any L b hL
  have a1 := a1 kk (by omega)
  unfold passN
  cases h1 : closedOfP L with
  | none => rw [h1] at a1; exact iPass_no kk b _ _ _ _ a1
  | some t =>
    rw [h1, e1 t h1, Pt.d_eq t] at a1
    have hg := closedOfP_good h1
    have hf := good_fit hg
    have hsm := good_small hg
    have hp := pass_fit hf
    have hz := passT_size t
    have a3 := ev_pass 40 t hsm.2.1 hf kk (by omega)
    have a4 := ev_goodNodes (passT t) (by omega) kk (by omega)
    rw [Pt.d_eq t, Pt.d_eq (passT t)] at a3
    rw [Pt.d_eq (passT t)] at a4
    exact iPass_go kk b _ _ _ _ _ _ _ _ _ a1 a3 a4
end Go.Den
namespace Go.Den
open Go
set_option linter.unusedVariables false
set_option maxRecDepth 100000
/-- The number of the redex that is reduced next, by value or by name. -/
def nx (v : Bool) : Pt → Option Nat
  | .var _ => none
  | .lam _ _ => none
  | .app _ x y => if x.kd ≠ 2 then (nx v x).map (1 + ·) else if v = true ∧ y.kd ≠ 2 then (nx v y).map (1 + x.size + ·) else some 0
theorem closed_app {n : Int} {x y : Pt} {a : Int} : fv (.app n x y) a = [] ↔ fv x a = [] ∧ fv y a = [] := by simp [fv]
theorem closedP_iff (t : Pt) : closedP t = true ↔ fv t 0 = [] := by unfold closedP; exact List.isEmpty_iff
/-- Closed, its numbers as they have to be. -/
def Cl (t : Pt) : Prop := fv t 0 = [] ∧ t.nums = true
theorem Cl.app {n : Int} {x y : Pt} (h : Cl (.app n x y)) : n = 0 ∧ Cl x ∧ Cl y := by
  obtain ⟨h1, h2⟩ := h
  rw [closed_app] at h1
  have h' : n = 0 ∧ x.nums = true ∧ y.nums = true := by simpa [Pt.nums] using h2
  exact ⟨h'.1, ⟨h1.1, h'.2.1⟩, ⟨h1.2, h'.2.2⟩⟩
theorem Cl.var {n : Int} (h : Cl (.var n)) : False := by
  obtain ⟨h1, h2⟩ := h
  have h' : 0 ≤ n ∧ n ≤ 99 := by simpa [Pt.nums] using h2
  simp only [fv] at h1
  rw [if_pos h'.1] at h1
  cases h1
theorem nx_app (v : Bool) : ∀ (t : Pt), Cl t → t.kd ≠ 2 → ∃ r, nx v t = some r
  | .var n, h, _ => h.var.elim
  | .lam n x, _, h => (h rfl).elim
  | .app n x y, h, _ => by
    have h := h.app
    simp only [nx]
    split
    · rename_i hx
      obtain ⟨r, hr⟩ := nx_app v x h.2.1 hx
      exact ⟨_, by rw [hr]; rfl⟩
    · split
      · rename_i hy
        obtain ⟨r, hr⟩ := nx_app v y h.2.2 hy.2
        exact ⟨_, by rw [hr]; rfl⟩
      · exact ⟨0, rfl⟩
theorem nx_lam (v : Bool) {t : Pt} (h : t.kd = 2) : nx v t = none := by
  cases t with
  | var n => cases h
  | lam n x => rfl
  | app n x y => cases h
theorem kd_lam {t : Pt} (h : t.kd = 2) : ∃ n x, t = .lam n x := by
  cases t with
  | var n => cases h
  | lam n x => exact ⟨n, x, rfl⟩
  | app n x y => cases h
theorem nx_rx (v : Bool) : ∀ (t : Pt) (r : Nat), nx v t = some r → rxAt t r = true ∧ r < t.size
  | .var n, r, h => by cases h
  | .lam n x, r, h => by cases h
  | .app n x y, r, h => by
    simp only [nx] at h
    split at h
    · obtain ⟨q, hq, rfl⟩ := Option.map_eq_some_iff.1 h
      obtain ⟨h1, h2⟩ := nx_rx v x q hq
      rw [Nat.add_comm 1 q]
      simp only [rxAt, Pt.size, if_pos h2]
      exact ⟨h1, by omega⟩
    · rename_i hx
      split at h
      · obtain ⟨q, hq, rfl⟩ := Option.map_eq_some_iff.1 h
        obtain ⟨h1, h2⟩ := nx_rx v y q hq
        rw [show 1 + x.size + q = (x.size + q) + 1 by omega]
        simp only [rxAt, Pt.size, if_neg (show ¬ x.size + q < x.size by omega), show x.size + q - x.size = q by omega]
        exact ⟨h1, by omega⟩
      · cases h
        refine ⟨?_, by simp only [Pt.size]; omega⟩
        simp only [rxAt, Pt.isRedex]
        exact decide_eq_true (by omega)
theorem fv_sh (b : Int) : ∀ (s : Pt) (a f : Int), fv s a = [] → a ≤ f → fv (sh b f s) a = []
  | .var n, a, f, h, hf => by
    have hn : ¬ a ≤ n := fun hn => by simp only [fv] at h; rw [if_pos hn] at h; cases h
    simp only [sh]
    rw [if_neg (by omega)]
    exact h
  | .lam n t, a, f, h, hf => fv_sh b t (a + 1) (f + 1) h (by omega)
  | .app n x y, a, f, h, hf => by
    rw [closed_app] at h
    simp only [sh]
    rw [closed_app]
    exact ⟨fv_sh b x a f h.1 hf, fv_sh b y a f h.2 hf⟩
theorem fv_up : ∀ (t : Pt) (a b : Int), fv t a = [] → a ≤ b → fv t b = []
  | .var n, a, b, h, hb => by
    have hn : ¬ a ≤ n := fun hn => by simp only [fv] at h; rw [if_pos hn] at h; cases h
    simp only [fv]
    rw [if_neg (by omega)]
  | .lam n t, a, b, h, hb => fv_up t (a + 1) (b + 1) h (by omega)
  | .app n x y, a, b, h, hb => by
    rw [closed_app] at h ⊢
    exact ⟨fv_up x a b h.1 hb, fv_up y a b h.2 hb⟩
theorem fv_sub (s : Pt) (hs : fv s 0 = []) : ∀ (t : Pt) (u : Int), 0 ≤ u → fv t (u + 1) = [] → fv (sub 0 s u t) u = []
  | .var n, u, hu, h => by
    have hn : ¬ u + 1 ≤ n := fun hn => by simp only [fv] at h; rw [if_pos hn] at h; cases h
    simp only [sub]
    split
    · exact fv_up _ 0 u (fv_sh u s 0 0 hs (by omega)) hu
    · rw [if_neg (by omega)]
      simp only [fv]
      rw [if_neg (by omega)]
  | .lam n t, u, hu, h => fv_sub s hs t (u + 1) (by omega) h
  | .app n x y, u, hu, h => by
    rw [closed_app] at h
    simp only [sub]
    rw [closed_app]
    exact ⟨fv_sub s hs x u hu h.1, fv_sub s hs y u hu h.2⟩
theorem nx_closed (v : Bool) : ∀ (t : Pt) (r : Nat), fv t 0 = [] → nx v t = some r → fv (red t r) 0 = []
  | .var n, r, _, h => by cases h
  | .lam n x, r, _, h => by cases h
  | .app n x y, r, hc, h => by
    rw [closed_app] at hc
    simp only [nx] at h
    split at h
    · obtain ⟨q, hq, rfl⟩ := Option.map_eq_some_iff.1 h
      have h2 := (nx_rx v x q hq).2
      rw [Nat.add_comm 1 q]
      simp only [red, if_pos h2]
      rw [closed_app]
      exact ⟨nx_closed v x q hc.1 hq, hc.2⟩
    · rename_i hx
      split at h
      · obtain ⟨q, hq, rfl⟩ := Option.map_eq_some_iff.1 h
        rw [show 1 + x.size + q = (x.size + q) + 1 by omega]
        simp only [red, if_neg (show ¬ x.size + q < x.size by omega), show x.size + q - x.size = q by omega]
        rw [closed_app]
        exact ⟨hc.1, nx_closed v y q hc.2 hq⟩
      · cases h
        obtain ⟨n1, z, rfl⟩ := kd_lam (t := x) (by omega)
        simp only [red, Pt.beta]
        exact fv_sub y hc.2 z 0 (by omega) hc.1
theorem ev_nextIn (v : Bool) : ∀ (d : Nat) (t : Pt), t.depth ≤ d → Cl t → t.size ≤ 1000 → ∃ x : Int, EvN (d + 200) 111 [.dat t.d, .dat (B v)] [] [] ([.dat (I x)], [], []) ∧ nxI (nx v t) x
  | 0, t, hd, _, _ => by have := t.depth_pos; omega
  | d + 1, t, hd, hc, hz => by
    cases t with
    | var n => exact hc.var.elim
    | lam n x =>
      refine ⟨-1, ?_, by show (-1 : Int) < 0; decide⟩
      exact ev_fn Go.Proofs.Try.f111 (d + 200) (by kernel_rfl) (by kernel_rfl) fun kk hkk => nextIn_no2 kk n _ v
    | app n x y =>
      have hca := hc.app
      simp only [Pt.depth] at hd
      simp only [Pt.size] at hz
      have e : (Pt.app n x y).d = T 3 n [T x.kd x.num (x.kids.map Pt.d), T y.kd y.num (y.kids.map Pt.d)] := by rw [← Pt.d_eq, ← Pt.d_eq]; rfl
      rw [e]
      simp only [nx]
      by_cases hx : x.kd = 2
      · rw [if_neg (by simpa using hx)]
        have kx : (!decide (x.kd = 2)) = false := by rw [decide_eq_true hx]; rfl
        cases v with
        | false =>
          rw [if_neg (fun h => by cases h.1)]
          exact ⟨0, ev_fn Go.Proofs.Try.f111 (d + 200) (by kernel_rfl) (by kernel_rfl) fun kk hkk => nextIn_name kk n [T y.kd y.num (y.kids.map Pt.d)] _ _ _ ⟨⟨by decide, by simp; try omega⟩, rfl⟩ kx, rfl⟩
        | true =>
          by_cases hy : y.kd = 2
          · rw [if_neg (fun h => h.2 hy)]
            have ky : (!decide (y.kd = 2)) = false := by rw [decide_eq_true hy]; rfl
            exact ⟨0, ev_fn Go.Proofs.Try.f111 (d + 200) (by kernel_rfl) (by kernel_rfl) fun kk hkk => nextIn_here kk n [] _ _ _ _ _ _ ⟨⟨by decide, by simp; try omega⟩, rfl⟩ kx ⟨⟨by decide, by simp; try omega⟩, rfl⟩ ky, rfl⟩
          · rw [if_pos ⟨rfl, hy⟩]
            have ky : (!decide (y.kd = 2)) = true := by rw [decide_eq_false hy]; rfl
            obtain ⟨z, h1, h2⟩ := ev_nextIn true d y (by omega) hca.2.2 (by omega)
            obtain ⟨r, hr⟩ := nx_app true y hca.2.2 hy
            rw [hr] at h2
            have h2 : z = r := h2
            have hlt := (nx_rx true y r hr).2
            refine ⟨((1 + x.size + r : Nat) : Int), ev_fn Go.Proofs.Try.f111 (d + 200) (by kernel_rfl) (by kernel_rfl) fun kk hkk => ?_, by rw [hr]; rfl⟩
            have h1 := h1 kk (by omega)
            have hs := ev_size d x (by omega) (by omega) kk (by omega)
            rw [Pt.d_eq y] at h1
            rw [Pt.d_eq x] at hs
            have := nextIn_r kk n _ _ [] _ _ _ _ _ _ ⟨⟨by decide, by simp; try omega⟩, rfl⟩ kx ⟨⟨by decide, by simp; try omega⟩, rfl⟩ ky ⟨⟨by decide, by simp; try omega⟩, rfl⟩ ⟨⟨by decide, by simp; try omega⟩, rfl⟩ hs h1
            rw [this, w64_eq (n := 1 + (x.size : Int)) (by omega), w64_eq (by omega), h2]
            simp only [Int.natCast_add, Int.natCast_one]
      · rw [if_pos hx]
        have kx : (!decide (x.kd = 2)) = true := by rw [decide_eq_false hx]; rfl
        obtain ⟨z, h1, h2⟩ := ev_nextIn v d x (by omega) hca.2.1 (by omega)
        obtain ⟨r, hr⟩ := nx_app v x hca.2.1 hx
        rw [hr] at h2
        have h2 : z = r := h2
        have hlt := (nx_rx v x r hr).2
        refine ⟨((1 + r : Nat) : Int), ev_fn Go.Proofs.Try.f111 (d + 200) (by kernel_rfl) (by kernel_rfl) fun kk hkk => ?_, by rw [hr]; rfl⟩
        have h1 := h1 kk (by omega)
        rw [Pt.d_eq x] at h1
        have := nextIn_l kk n _ [T y.kd y.num (y.kids.map Pt.d)] v _ _ _ ⟨⟨by decide, by simp; try omega⟩, rfl⟩ kx ⟨⟨by decide, by simp; try omega⟩, rfl⟩ h1
        rw [this, w64_eq (by omega), h2]
        simp only [Int.natCast_add, Int.natCast_one]
theorem goOn_rounds_n (nx : Pt → Option Nat) (kk : Nat) (hkk : 4000 ≤ kk) (fuel : Nat) (hf : fuel ≤ 1000)
    (P : Pt → Prop) (hnx : ∀ t, P t → t.good = true → ∃ x : Int, den cfg kk 81 [.dat (T t.kd t.num (t.kids.map Pt.d))] [] [] = some ([.dat (I x)], [], []) ∧ nxI (nx t) x)
    (hrx : ∀ t r, P t → t.good = true → nx t = some r → rxAt t r = true ∧ r < t.size) (hP : ∀ t r, P t → t.good = true → nx t = some r → (red t r).good = true → P (red t r)) :
    ∀ (f made : Nat) (t : Pt) (m : Nat) (s : St) (K : X → St → Prop), P t → t.good = true → made + f = fuel → f < m →
    s.norm ((envOf cfg kk 102 Go.Proofs.Try.f102).live (firstRegion (lp Go.Proofs.Try.f102 3))) = hd102n fuel t.kd t.num (t.kids.map Pt.d) made → K .ret (outI made (goOnP nx f t)) → Rounds (envOf cfg kk 102 Go.Proofs.Try.f102) kk (lp Go.Proofs.Try.f102 3) m s K := by
  have hround : ∀ (f made : Nat) (t : Pt) (m : Nat) (s : St) (K : X → St → Prop), P t → t.good = true → made + f = fuel →
      s.norm ((envOf cfg kk 102 Go.Proofs.Try.f102).live (firstRegion (lp Go.Proofs.Try.f102 3))) = hd102n fuel t.kd t.num (t.kids.map Pt.d) made →
      (nx t = none → K .ret (outI made (some (t, 0)))) → (∀ r, nx t = some r → f = 0 → K .ret (outI made none)) → (∀ r, nx t = some r → f ≠ 0 → (red t r).good = false → K .ret (outI made none)) →
      (∀ r, nx t = some r → f ≠ 0 → (red t r).good = true → ∀ s : St, s.norm ((envOf cfg kk 102 Go.Proofs.Try.f102).live (firstRegion (lp Go.Proofs.Try.f102 3))) = hd102n fuel (red t r).kd (red t r).num ((red t r).kids.map Pt.d) ((made + 1 : Nat) : Int) → Rounds (envOf cfg kk 102 Go.Proofs.Try.f102) kk (lp Go.Proofs.Try.f102 3) m s K) →
      Rounds (envOf cfg kk 102 Go.Proofs.Try.f102) kk (lp Go.Proofs.Try.f102 3) (m + 1) s K := by
    intro f made t m s K hPt hg hfm hs k1 k2 k3 k4
    have hsm : small t := good_small hg
    obtain ⟨x, a1, hx⟩ := hnx t hPt hg
    cases hn : nx t with
    | none =>
      rw [hn] at hx
      have hx : x < 0 := hx
      exact goOn_done_n kk m _ _ _ _ _ x hs a1 (decide_eq_true hx) (k1 hn)
    | some r =>
      rw [hn] at hx
      have hx : x = r := hx
      subst hx
      have hlt : decide ((r : Int) < 0) = false := decide_eq_false (by omega)
      by_cases h0 : f = 0
      · exact goOn_stop_n kk m _ _ _ _ _ _ hs a1 hlt (decide_eq_true (by omega)) (k2 r hn h0)
      · obtain ⟨h4, h3⟩ := hrx t r hPt hg hn
        have hz := red_size t r h4 hsm.1
        have a3 := ev_reduceAt 40 t r hsm.2.1 hsm h4 h3 kk (by omega)
        have a4 := ev_good (red t r) (by have := hsm.1; omega) 80 (by have := hsm.2.1; omega) kk (by omega)
        rw [Pt.d_eq t, Pt.d_eq (red t r)] at a3
        rw [Pt.d_eq (red t r)] at a4
        cases hgr : (red t r).good with
        | false =>
          rw [hgr] at a4
          exact goOn_bad_n kk m _ _ _ _ _ _ _ _ _ hs a1 hlt (decide_eq_false (by omega)) a3 a4 (k3 r hn h0 hgr)
        | true =>
          rw [hgr] at a4
          refine goOn_go_n kk m _ _ _ _ _ _ _ _ _ hs a1 hlt (decide_eq_false (by omega)) a3 a4 fun s' hs' => k4 r hn h0 hgr s' ?_
          rw [hs', w64_eq (by omega)]
          rfl
  intro f
  induction f with
  | zero =>
    intro made t m s K hPt hg hfm hm hs hK
    obtain ⟨m, rfl⟩ : ∃ j, m = j + 1 := ⟨m - 1, by omega⟩
    refine hround 0 made t m s K hPt hg hfm hs (fun h => ?_) (fun r h _ => ?_) (fun r h h0 => (h0 rfl).elim) (fun r h h0 => (h0 rfl).elim)
    · unfold goOnP at hK
      rw [h] at hK
      exact hK
    · unfold goOnP at hK
      rw [h] at hK
      exact hK
  | succ f ih =>
    intro made t m s K hPt hg hfm hm hs hK
    obtain ⟨m, rfl⟩ : ∃ j, m = j + 1 := ⟨m - 1, by omega⟩
    refine hround (f + 1) made t m s K hPt hg hfm hs (fun h => ?_) (fun r h h0 => by omega) (fun r h _ hgr => ?_) (fun r h _ hgr s' hs' => ?_)
    · unfold goOnP at hK
      rw [h] at hK
      exact hK
    · unfold goOnP at hK
      rw [h] at hK
      simp only [hgr] at hK
      exact hK
    · refine ih (made + 1) (red t r) m s' K (hP t r hPt hg h hgr) hgr (by omega) (by omega) hs' ?_
      unfold goOnP at hK
      rw [h] at hK
      simp only [hgr, if_true] at hK
      cases hq : goOnP nx f (red t r) with
      | none => rw [hq] at hK; exact hK
      | some q =>
        rw [hq] at hK
        simp only [Option.map_some, outI] at hK
        simp only [outI]
        rw [show made + 1 + q.2 = made + (q.2 + 1) by omega]
        exact hK
/-- What both sides come to. -/
def clN (v : Bool) (L : List Nd) (f : Int) : List Nd × Nat × Bool := match closedOfP L with | some _ => goneN (nx v) L f | none => ([], 0, false)
theorem ev_next_n (t : Pt) (hc : fv t 0 = []) (hg : t.good = true) (kk : Nat) (hkk : 500 ≤ kk) : ∃ x : Int, den cfg kk 81 [.dat (T t.kd t.num (t.kids.map Pt.d))] [] [] = some ([.dat (I x)], [], []) ∧ nxI (nx false t) x := by
  have hsm : small t := good_small hg
  obtain ⟨x, h1, h2⟩ := ev_nextIn false 40 t hsm.2.1 ⟨hc, (good_facts hg).2.2⟩ (by have := hsm.1; omega)
  refine ⟨x, ?_, h2⟩
  refine (ev_fn Go.Proofs.Try.f81 400 (by kernel_rfl) (by kernel_rfl) fun k2 hk2 => ?_) kk (by omega)
  have h1 := h1 k2 (by omega)
  rw [Pt.d_eq t] at h1
  exact next_n k2 _ _ _ _ h1
theorem ev_goneOn_n (L : List Nd) (b : Bool) (v : Int) (t : Pt) (ht : termOfP L = some t) (hc : fv t 0 = []) (hL : L.length ≤ 1048576) :
    EvN 5900 64 [.dat (.lst b (L.map Nd.d)), .dat (I v), .fn 81 []] [] [] ([.own 50 ((goneN (nx false) L v).1.map Nd.d), .dat (I (goneN (nx false) L v).2.1), .dat (B (goneN (nx false) L v).2.2)], [], []) := by
  refine (ev_fn Go.Proofs.Try.f64 5800 (by kernel_rfl) (by kernel_rfl) fun kk hkk => ?_).mono (by omega)
  have a1 := (ev_termOf L b hL).1 t ht kk (by omega)
  have hin := ev_isFuel v kk (by omega)
  have hgt := ((termOfP_iff L t).1 ht).1
  unfold goneN
  rw [ht]
  rw [Pt.d_eq] at a1
  simp only
  cases hk : (decide (0 ≤ v) && decide (v ≤ 1000)) with
  | false =>
    rw [hk] at hin
    rw [if_neg (fun h => by simp [h.1, h.2] at hk)]
    exact goneOn_no2_n kk b _ v _ _ _ a1 hin
  | true =>
    rw [hk] at hin
    have hk' : 0 ≤ v ∧ v ≤ 1000 := by simpa using hk
    rw [if_pos hk']
    obtain ⟨fu, rfl⟩ : ∃ fu : Nat, v = fu := ⟨v.toNat, by omega⟩
    rw [show ((fu : Int)).toNat = fu by simp]
    have hloop : ∀ k2, 5000 ≤ k2 → LoopAt cfg k2 102 Go.Proofs.Try.f102 3 (hd102n fu t.kd t.num (t.kids.map Pt.d) 0) X.ret (outI 0 (goOnP (nx false) fu t)) := fun k2 hk2 => loopOb_of fun s hs =>
      goOn_rounds_n (nx false) k2 (by omega) fu (by omega) (fun t => fv t 0 = []) (fun t hc hg => ev_next_n t hc hg k2 (by omega)) (fun t r _ _ h => nx_rx false t r h) (fun t r hc _ h _ => nx_closed false t r hc h) fu 0 t k2 s _ hc hgt (by omega) (by omega) hs ⟨rfl, rfl⟩
    cases hq : goOnP (nx false) fu t with
    | none =>
      rw [hq] at hloop
      refine goneOn_no3_n kk b _ _ _ _ 0 0 0 _ [] a1 hin ?_
      refine (ev_fn Go.Proofs.Try.f102 5000 (by kernel_rfl) (by kernel_rfl) fun k2 hk2 => ?_) kk (by omega)
      exact goOn_n_n k2 _ _ _ 0 _ false (hloop k2 hk2)
    | some q =>
      rw [hq] at hloop
      have hgq := good_small (goOnP_good hgt hq).1
      have a5 := ev_nodes q.1 (by omega) kk (by omega)
      rw [Pt.d_eq q.1] at a5
      refine goneOn_go_n kk b _ _ _ _ _ _ _ _ _ _ a1 hin ?_ a5
      refine (ev_fn Go.Proofs.Try.f102 5000 (by kernel_rfl) (by kernel_rfl) fun k2 hk2 => ?_) kk (by omega)
      have hl := hloop k2 hk2
      simp only [outI, Nat.zero_add] at hl
      exact goOn_y_n k2 _ _ _ _ _ _ _ _ true hl
theorem ev_iHead (L : List Nd) (b : Bool) (v : Int) (hL : L.length ≤ 1048576) : EvN 7000 39 [.dat (.lst b (L.map Nd.d)), .dat (I v)] [] [] ([.own 50 ((clN false L v).1.map Nd.d), .dat (I (clN false L v).2.1), .dat (B (clN false L v).2.2)], [], []) := by
  refine (ev_fn Go.Proofs.Try.f39 6900 (by kernel_rfl) (by kernel_rfl) fun k1 hk1 => ?_).mono (by omega)
  refine iRun_n k1 b _ v _ _ _ ?_
  refine (ev_fn Go.Proofs.Try.f80 6800 (by kernel_rfl) (by kernel_rfl) fun kk hkk => ?_) k1 (by omega)
  obtain ⟨k, n, ds, e, he⟩ := ev_closedOf_any L b hL
  have e := e kk (by omega)
  unfold clN
  cases hc : closedOfP L with
  | none => rw [hc] at e; exact closedOn_no_n kk b _ v _ _ _ e
  | some t =>
    rw [hc] at e
    have h2 := closedOfP_some hc
    exact closedOn_go_n kk b _ v _ _ _ _ _ _ e (ev_goneOn_n L b v t h2.1 ((closedP_iff t).1 h2.2) hL kk (by omega))
theorem ev_lfStep (v : Bool) : ∀ (d : Nat) (t : Pt), t.depth ≤ d → Cl t → small t →
    (∀ r, nx v t = some r → EvN (d + 2200) 112 [.dat t.d, .dat (B v)] [] [] ([.dat (red t r).d, .dat (B true)], [], [])) ∧
    (nx v t = none → EvN (d + 2200) 112 [.dat t.d, .dat (B v)] [] [] ([.dat t.d, .dat (B false)], [], []))
  | 0, t, hd, _, _ => by have := t.depth_pos; omega
  | d + 1, t, hd, hc, hs => by
    cases t with
    | var n => exact hc.var.elim
    | lam n x =>
      refine ⟨fun r h => (by cases h), fun _ => ?_⟩
      exact ev_fn Go.Proofs.Try.f112 (d + 2200) (by kernel_rfl) (by kernel_rfl) fun kk hkk => lfStep_no2 kk n _ v
    | app n x y =>
      have hca := hc.app
      obtain ⟨rfl, hcx, hcy⟩ := hca
      simp only [Pt.depth] at hd
      have hsx := small_kid hs (x := x) (by simp [Pt.kids])
      have hsy := small_kid hs (x := y) (by simp [Pt.kids])
      have ihx := ev_lfStep v d x (by omega) hcx hsx
      have ihy := ev_lfStep v d y (by omega) hcy hsy
      have e : (Pt.app 0 x y).d = T 3 0 [T x.kd x.num (x.kids.map Pt.d), T y.kd y.num (y.kids.map Pt.d)] := by rw [← Pt.d_eq, ← Pt.d_eq]; rfl
      refine ⟨fun r hr => ?_, fun hn => ?_⟩
      · refine ev_fn Go.Proofs.Try.f112 (d + 2200) (by kernel_rfl) (by kernel_rfl) fun kk hkk => ?_
        rw [e]
        have hg1 : ((0 : Int) ≤ 0 ∧ 0 < (([T x.kd x.num (x.kids.map Pt.d), T y.kd y.num (y.kids.map Pt.d)] : List Dat).length : Int)) ∧ some (T x.kd x.num (x.kids.map Pt.d)) = some (T x.kd x.num (x.kids.map Pt.d)) := ⟨⟨by decide, by simp⟩, rfl⟩
        have hg2 : ((0 : Int) ≤ 1 ∧ 1 < (([T x.kd x.num (x.kids.map Pt.d), T y.kd y.num (y.kids.map Pt.d)] : List Dat).length : Int)) ∧ some (T y.kd y.num (y.kids.map Pt.d)) = some (T y.kd y.num (y.kids.map Pt.d)) := ⟨⟨by decide, by simp⟩, rfl⟩
        simp only [nx] at hr
        by_cases hx : x.kd = 2
        · rw [if_neg (by simpa using hx)] at hr
          have h1 := ihx.2 (nx_lam v hx) kk (by omega)
          rw [Pt.d_eq x] at h1
          obtain ⟨n1, z, rfl⟩ := kd_lam hx
          have hbeta := ev_lcBeta false 0 n1 z y hsx.2.2 hsy.2.2 (by have := hsx.2.1; simp only [Pt.depth] at this; omega) (by have := hsy.2.1; omega) kk (by omega)
          have hbeta : den cfg kk 95 [.dat (Dat.agg [I 3, I 0, Dat.lst false [T (Pt.lam n1 z).kd (Pt.lam n1 z).num ((Pt.lam n1 z).kids.map Pt.d), T y.kd y.num (y.kids.map Pt.d)]])] [] [] = some ([.dat (sub 0 y 0 z).d], [], []) := by
            rw [← Pt.d_eq, ← Pt.d_eq]
            exact hbeta
          rw [Pt.d_eq (sub 0 y 0 z)] at hbeta
          cases v with
          | false =>
            rw [if_neg (fun h => by cases h.1)] at hr
            cases hr
            have hres : (red (.app 0 (.lam n1 z) y) 0).d = T (sub 0 y 0 z).kd (sub 0 y 0 z).num ((sub 0 y 0 z).kids.map Pt.d) := by rw [← Pt.d_eq]; rfl
            rw [hres]
            exact lfStep_name kk 0 [] _ _ _ _ _ _ _ _ _ _ _ _ hg1 hg2 h1 hbeta
          | true =>
            by_cases hy : y.kd = 2
            · rw [if_neg (fun h => h.2 hy)] at hr
              cases hr
              have h2 := ihy.2 (nx_lam true hy) kk (by omega)
              rw [Pt.d_eq y] at h2
              have hres : (red (.app 0 (.lam n1 z) y) 0).d = T (sub 0 y 0 z).kd (sub 0 y 0 z).num ((sub 0 y 0 z).kids.map Pt.d) := by rw [← Pt.d_eq]; rfl
              rw [hres]
              exact lfStep_val kk 0 [] _ _ _ _ _ _ _ _ _ _ _ _ _ _ _ hg1 hg2 h1 h2 hbeta
            · rw [if_pos ⟨rfl, hy⟩] at hr
              obtain ⟨q, hq, rfl⟩ := Option.map_eq_some_iff.1 hr
              have h2 := ihy.1 q hq kk (by omega)
              have h3 := ev_lcApp (.lam n1 z) (red y q) kk (by omega)
              rw [Pt.d_eq y, Pt.d_eq (red y q)] at h2
              rw [Pt.d_eq (.lam n1 z), Pt.d_eq (red y q), Pt.d_eq (Pt.app 0 (.lam n1 z) (red y q))] at h3
              have hres : red (.app 0 (.lam n1 z) y) (1 + (Pt.lam n1 z).size + q) = .app 0 (.lam n1 z) (red y q) := by
                rw [show 1 + (Pt.lam n1 z).size + q = ((Pt.lam n1 z).size + q) + 1 by omega]
                simp only [red, if_neg (show ¬ (Pt.lam n1 z).size + q < (Pt.lam n1 z).size by omega), show (Pt.lam n1 z).size + q - (Pt.lam n1 z).size = q by omega]
              rw [hres, Pt.d_eq (Pt.app 0 (.lam n1 z) (red y q))]
              exact lfStep_snd kk 0 [] _ _ _ _ _ _ _ _ _ _ _ _ _ _ _ hg1 hg2 h1 h2 h3
        · rw [if_pos hx] at hr
          obtain ⟨q, hq, rfl⟩ := Option.map_eq_some_iff.1 hr
          have hlt := (nx_rx v x q hq).2
          have h1 := ihx.1 q hq kk (by omega)
          have h3 := ev_lcApp (red x q) y kk (by omega)
          rw [Pt.d_eq x, Pt.d_eq (red x q)] at h1
          rw [Pt.d_eq (red x q), Pt.d_eq y, Pt.d_eq (Pt.app 0 (red x q) y)] at h3
          have hres : red (.app 0 x y) (1 + q) = .app 0 (red x q) y := by
            rw [Nat.add_comm 1 q]
            simp only [red, if_pos hlt]
          rw [hres, Pt.d_eq (Pt.app 0 (red x q) y)]
          exact lfStep_fst kk 0 [] _ _ _ _ _ _ _ _ _ v _ _ _ hg1 hg2 h1 h3
      · obtain ⟨r, hr⟩ := nx_app v (.app 0 x y) hc (by simp [Pt.kd])
        rw [hn] at hr
        cases hr
/-- What the reference's loop leaves. -/
def outR (made : Nat) (t : Pt) : Option (Pt × Nat) → St
  | some q => Nm [6, 7, 8] [.ptr (.loc 6) 0, .dat (I ((made + q.2 : Nat) : Int)), .dat (B true)] [some [.dat (I q.1.kd), .dat (I q.1.num), .dat (.lst false (q.1.kids.map Pt.d))], none, none] [] []
  | none => Nm [6, 7, 8] [.ptr (.loc 6) 0, .dat (I 0), .dat (B false)] [some [.dat (I t.kd), .dat (I t.num), .dat (.lst false (t.kids.map Pt.d))], none, none] [] []
/-- The term at which it stops. -/
def lastP (nx : Pt → Option Nat) : Nat → Pt → Pt
  | 0, t => t
  | f + 1, t => match nx t with | none => t | some r => if (red t r).good = true then lastP nx f (red t r) else t
theorem lfRun_rounds (v : Bool) (kk : Nat) (hkk : 1002000 ≤ kk) (fuel : Nat) (hf : fuel ≤ 1000) :
    ∀ (f made : Nat) (t : Pt) (m : Nat) (s : St) (K : X → St → Prop), fv t 0 = [] → t.good = true → made + f = fuel → f < m →
    s.norm ((envOf cfg kk 85 Go.Proofs.Try.f85).live (firstRegion (lp Go.Proofs.Try.f85 3))) = hd85 fuel t.kd t.num made (t.kids.map Pt.d) v → K .ret (outR made (lastP (nx v) f t) (goOnP (nx v) f t)) → Rounds (envOf cfg kk 85 Go.Proofs.Try.f85) kk (lp Go.Proofs.Try.f85 3) m s K := by
  intro f
  induction f with
  | zero =>
    intro made t m s K hc hg hfm hm hs hK
    obtain ⟨m, rfl⟩ : ∃ j, m = j + 1 := ⟨m - 1, by omega⟩
    have hsm : small t := good_small hg
    have hst := ev_lfStep v 40 t hsm.2.1 ⟨hc, (good_facts hg).2.2⟩ hsm
    unfold goOnP lastP at hK
    cases hn : nx v t with
    | none =>
      rw [hn] at hK
      have a := hst.2 hn kk (by omega)
      rw [Pt.d_eq t] at a
      exact lfRun_done kk m _ _ _ _ _ _ _ _ _ hs a hK
    | some r =>
      rw [hn] at hK
      have a := hst.1 r hn kk (by omega)
      rw [Pt.d_eq t, Pt.d_eq (red t r)] at a
      exact lfRun_stop kk m _ _ _ _ _ _ _ _ _ hs a (decide_eq_true (by omega)) hK
  | succ f ih =>
    intro made t m s K hc hg hfm hm hs hK
    obtain ⟨m, rfl⟩ : ∃ j, m = j + 1 := ⟨m - 1, by omega⟩
    have hsm : small t := good_small hg
    have hst := ev_lfStep v 40 t hsm.2.1 ⟨hc, (good_facts hg).2.2⟩ hsm
    unfold goOnP lastP at hK
    cases hn : nx v t with
    | none =>
      rw [hn] at hK
      have a := hst.2 hn kk (by omega)
      rw [Pt.d_eq t] at a
      exact lfRun_done kk m _ _ _ _ _ _ _ _ _ hs a hK
    | some r =>
      rw [hn] at hK
      have a := hst.1 r hn kk (by omega)
      have hrx := nx_rx v t r hn
      have hz := red_size t r hrx.1 hsm.1
      have a2 := ev_lcFine false (red t r) (by have := hsm.1; omega) kk (by have := hsm.2.1; omega)
      rw [← Pt.d_db] at a2
      rw [Pt.d_eq t, Pt.d_eq (red t r)] at a
      rw [Pt.d_eq (red t r)] at a2
      cases hgr : (red t r).good with
      | false =>
        rw [hgr] at a2
        simp only [hgr] at hK
        exact lfRun_bad kk m _ _ _ _ _ _ _ _ _ hs a (decide_eq_false (by omega)) a2 hK
      | true =>
        rw [hgr] at a2
        simp only [hgr, if_true] at hK
        refine lfRun_go kk m _ _ _ _ _ _ _ _ _ hs a (decide_eq_false (by omega)) a2 fun s' hs' => ih (made + 1) (red t r) m s' K (nx_closed v t r hc hn) hgr (by omega) (by omega) ?_ ?_
        · rw [hs', w64_eq (by omega)]
          rfl
        · cases hq : goOnP (nx v) f (red t r) with
          | none => rw [hq] at hK; exact hK
          | some q =>
            rw [hq] at hK
            simp only [Option.map_some, outR] at hK
            simp only [outR]
            rw [show made + 1 + q.2 = made + (q.2 + 1) by omega]
            exact hK
theorem ev_lfRun (v : Bool) (t : Pt) (fu : Nat) (hf : fu ≤ 1000) (hc : fv t 0 = []) (hg : t.good = true) :
    (∀ q, goOnP (nx v) fu t = some q → EvN 1002500 85 [.dat t.d, .dat (I fu), .dat (B v)] [] [] ([.dat q.1.d, .dat (I q.2), .dat (B true)], [], [])) ∧
    (goOnP (nx v) fu t = none → EvN 1002500 85 [.dat t.d, .dat (I fu), .dat (B v)] [] [] ([.dat (lastP (nx v) fu t).d, .dat (I 0), .dat (B false)], [], [])) := by
  refine ⟨fun q hq => ?_, fun hq => ?_⟩
  · refine (ev_fn Go.Proofs.Try.f85 1002400 (by kernel_rfl) (by kernel_rfl) fun kk hkk => ?_).mono (by omega)
    rw [Pt.d_eq t, Pt.d_eq q.1]
    refine lfRun kk _ _ v true _ _ _ _ _ _ (loopOb_of fun s hs => lfRun_rounds v kk (by omega) fu hf fu 0 t kk s _ hc hg (by omega) (by omega) hs ?_)
    rw [hq]
    simp only [outR, Nat.zero_add]
    exact ⟨trivial, trivial⟩
  · refine (ev_fn Go.Proofs.Try.f85 1002400 (by kernel_rfl) (by kernel_rfl) fun kk hkk => ?_).mono (by omega)
    rw [Pt.d_eq t, Pt.d_eq (lastP (nx v) fu t)]
    refine lfRun kk _ _ v false _ _ _ _ _ _ (loopOb_of fun s hs => lfRun_rounds v kk (by omega) fu hf fu 0 t kk s _ hc hg (by omega) (by omega) hs ?_)
    rw [hq]
    exact ⟨rfl, rfl⟩
theorem own_clean3 (L : List Nd) (n : Int) (r : Bool) : D.cleans [.own 50 (L.map Nd.d), .dat (I n), .dat (B r)] = true := by
  simp only [D.cleans, D.clean, nds_clean]
  rfl
end Go.Den
namespace Go.Den
open Go
set_option linter.unusedVariables false
set_option maxRecDepth 100000
theorem fv_shift (b : Int) (hb : 0 ≤ b) : ∀ (s : Pt) (a f : Int), fv s a = [] → fv (sh b f s) (a + b) = []
  | .var n, a, f, h => by
    have hn : ¬ a ≤ n := fun hn => by simp only [fv] at h; rw [if_pos hn] at h; cases h
    simp only [sh]
    split
    · simp only [fv]; rw [if_neg (by omega)]
    · simp only [fv]; rw [if_neg (by omega)]
  | .lam n t, a, f, h => by
    have := fv_shift b hb t (a + 1) (f + 1) h
    simp only [sh, fv]
    rw [show a + b + 1 = a + 1 + b by omega]
    exact this
  | .app n x y, a, f, h => by
    rw [closed_app] at h
    simp only [sh]
    rw [closed_app]
    exact ⟨fv_shift b hb x a f h.1, fv_shift b hb y a f h.2⟩
theorem passT_closed : ∀ (t : Pt) (a : Int), 0 ≤ a → fv t a = [] → fv (passT t) a = []
  | .var n, a, ha, h => by
    have hn : ¬ a ≤ n := fun hn => by simp only [fv] at h; rw [if_pos hn] at h; cases h
    simp only [passT, fv]
    rw [if_neg (by omega), if_neg (by omega)]
    rfl
  | .lam n x, a, ha, h => by
    have ih := passT_closed x (a + 1) (by omega) h
    have h2 : fv (sh 1 0 (.lam 0 (passT x))) (a + 1) = [] := fv_shift 1 (by omega) (.lam 0 (passT x)) a 0 ih
    simp only [passT]
    show fv (.app 0 (.var 0) (sh 1 0 (.lam 0 (passT x)))) (a + 1) = []
    rw [closed_app]
    refine ⟨?_, h2⟩
    simp only [fv]
    rw [if_neg (by omega)]
  | .app n x y, a, ha, h => by
    rw [closed_app] at h
    have h1 := fv_shift 1 (by omega) (passT x) a 0 (passT_closed x a ha h.1)
    have h2 := fv_shift 2 (by omega) (passT y) a 0 (passT_closed y a ha h.2)
    simp only [passT]
    show fv (.app 0 (sh 1 0 (passT x)) (.lam 0 (.app 0 (sh 2 0 (passT y)) (.lam 0 (.app 0 (.app 0 (.var 1) (.var 0)) (.var 2)))))) (a + 1) = []
    rw [closed_app]
    refine ⟨h1, ?_⟩
    show fv (.app 0 (sh 2 0 (passT y)) (.lam 0 (.app 0 (.app 0 (.var 1) (.var 0)) (.var 2)))) (a + 1 + 1) = []
    rw [closed_app, show a + 1 + 1 = a + 2 by omega]
    refine ⟨h2, ?_⟩
    simp only [fv]
    rw [if_neg (by omega), if_neg (by omega), if_neg (by omega)]
    rfl
/-- A passed term with what is to be done then. -/
def whole (t : Pt) : Pt := .app 0 (passT t) (.lam 0 (.var 0))
theorem whole_closed {t : Pt} (h : fv t 0 = []) : fv (whole t) 0 = [] := by
  unfold whole
  rw [closed_app]
  exact ⟨passT_closed t 0 (by omega) h, rfl⟩
def runT (t : Pt) (f : Int) : List Nd × Bool :=
  if (passT t).good = true then (if (whole t).good = true then (if 0 ≤ f ∧ f ≤ 1000 then (match goOnP (nx false) f.toNat (whole t) with | some q => (q.1.flat 0 (-1), true) | none => ([], false)) else ([], false)) else ([], false)) else ([], false)
def runN (L : List Nd) (f : Int) : List Nd × Bool := match closedOfP L with | some t => runT t f | none => ([], false)
theorem runN_len (L : List Nd) (f : Int) : (runN L f).1.length ≤ 150 := by
  unfold runN
  split
  · unfold runT
    split
    · split
      · rename_i hw
        split
        · split
          · rename_i q hq
            rw [Pt.flat_length]
            exact (good_small (goOnP_good hw hq).1).1
          · simp
        · simp
      · simp
    · simp
  · simp
theorem termOfP_flat {t : Pt} (h : t.good = true) : termOfP (t.flat 0 (-1)) = some t := (termOfP_iff _ t).2 ⟨h, rfl⟩
theorem closedOfP_flat {t : Pt} (h : t.good = true) (hc : fv t 0 = []) : closedOfP (t.flat 0 (-1)) = some t := by
  unfold closedOfP
  rw [termOfP_flat h]
  simp only [Option.bind_some]
  rw [if_pos ((closedP_iff t).2 hc)]
theorem ev_sRunP (L : List Nd) (b : Bool) (f : Int) (hL : L.length ≤ 1048576) : EvN 1005000 42 [.dat (.lst b (L.map Nd.d)), .dat (I f)] [] [] ([.own 50 ((runN L f).1.map Nd.d), .dat (B (runN L f).2)], [], []) := by
  refine (ev_fn Go.Proofs.Try.f42 1004500 (by kernel_rfl) (by kernel_rfl) fun kk hkk => ?_).mono (by omega)
  have a1 := ev_sPass L b hL kk (by omega)
  have hin := ev_l1In f 0 1000 kk (by omega)
  unfold runN
  unfold passN at a1
  cases hc : closedOfP L with
  | none => rw [hc] at a1; exact sRp_no1 kk b _ _ _ a1
  | some t =>
    rw [hc] at a1
    simp only
    have hcl := (closedP_iff t).1 (closedOfP_some hc).2
    have hg := closedOfP_good hc
    have hz := passT_size t
    have hsm := good_small hg
    unfold runT
    unfold told at a1
    simp only at a1
    cases hp : (passT t).good with
    | false =>
      rw [hp] at a1
      exact sRp_no1 kk b _ _ _ a1
    | true =>
      rw [hp, if_pos rfl] at a1
      rw [if_pos rfl]
      have a2 := ev_tree true (termOfP_flat hp) kk (by omega)
      have v0 := ev_lcVar 0 kk (by omega)
      have l0 := ev_lcLam (.var 0) kk (by omega)
      have a3 := ev_lcApp (passT t) (.lam 0 (.var 0)) kk (by omega)
      have a4 := ev_lcFine false (whole t) (by simp only [whole, Pt.size]; omega) kk (by simp only [whole, Pt.depth]; omega)
      rw [← Pt.d_db] at a4
      rw [Pt.d_eq (passT t)] at a2 a3
      have a3 : den cfg kk 68 [.dat (T (passT t).kd (passT t).num ((passT t).kids.map Pt.d)), .dat (Pt.lam 0 (.var 0)).d] [] [] = some ([.dat (whole t).d], [], []) := a3
      rw [Pt.d_eq (whole t)] at a3 a4
      cases hw : (whole t).good with
      | false =>
        rw [hw] at a4
        exact sRp_no2 kk b _ _ _ _ _ _ _ _ _ _ _ _ _ _ _ a1 (clean1 (passT t)) a2 v0 l0 a3 a4
      | true =>
        rw [hw] at a4
        rw [if_pos rfl]
        cases hk : (decide (0 ≤ f) && decide (f ≤ 1000)) with
        | false =>
          rw [hk] at hin
          rw [if_neg (fun h => by simp [h.1, h.2] at hk)]
          exact sRp_no3 kk b _ _ _ _ _ _ _ _ _ _ _ _ _ _ _ a1 (clean1 (passT t)) a2 v0 l0 a3 a4 hin
        | true =>
          rw [hk] at hin
          have hk' : 0 ≤ f ∧ f ≤ 1000 := by simpa using hk
          rw [if_pos hk']
          obtain ⟨fu, rfl⟩ : ∃ fu : Nat, f = fu := ⟨f.toNat, by omega⟩
          rw [show ((fu : Int)).toNat = fu by simp]
          obtain ⟨h1, h2⟩ := ev_lfRun false (whole t) fu (by omega) (whole_closed hcl) hw
          cases hq : goOnP (nx false) fu (whole t) with
          | none =>
            have a5 := h2 hq kk (by omega)
            rw [Pt.d_eq (whole t), Pt.d_eq (lastP (nx false) fu (whole t))] at a5
            exact sRp_no4 kk b _ _ _ _ _ _ _ _ _ _ _ _ _ _ _ _ _ _ _ a1 (clean1 (passT t)) a2 v0 l0 a3 a4 hin a5
          | some q =>
            have a5 := h1 q hq kk (by omega)
            have hgq := (goOnP_good hw hq).1
            have hsq := good_small hgq
            have a6 := ev_lcTold q.1 (by omega) kk (by omega)
            rw [hgq, if_pos rfl] at a6
            rw [Pt.d_eq (whole t), Pt.d_eq q.1] at a5
            rw [Pt.d_eq q.1] at a6
            exact sRp_go kk b _ _ _ _ _ _ _ _ _ _ _ _ _ _ _ _ _ _ _ _ _ a1 (clean1 (passT t)) a2 v0 l0 a3 a4 hin a5 a6
theorem ev_iRunP (L : List Nd) (b : Bool) (f : Int) (hL : L.length ≤ 1048576) : EvN 9000 43 [.dat (.lst b (L.map Nd.d)), .dat (I f)] [] [] ([.own 50 ((runN L f).1.map Nd.d), .dat (B (runN L f).2)], [], []) := by
  refine (ev_fn Go.Proofs.Try.f43 8900 (by kernel_rfl) (by kernel_rfl) fun kk hkk => ?_).mono (by omega)
  have a1 := ev_iPass L b hL kk (by omega)
  have v0 := ev_variable 0 kk (by omega)
  have l0 := ev_lam (.var 0) kk (by omega)
  have n0 := ev_nodes (.lam 0 (.var 0)) (by simp [Pt.size]) kk (by simp only [Pt.depth]; omega)
  have hp0 := passN_len L
  have a2 := ev_iApply (passN L).1 ((Pt.lam 0 (.var 0)).flat 0 (-1)) true true (by omega) (by rw [Pt.flat_length]; decide) kk (by omega)
  have hap := applyN_len (passN L).1 ((Pt.lam 0 (.var 0)).flat 0 (-1))
  have hid : closedOfP ((Pt.lam 0 (.var 0)).flat 0 (-1)) = some (.lam 0 (.var 0)) := closedOfP_flat (by decide) rfl
  have c2 : D.cleans [.own 50 ((applyN (passN L).1 ((Pt.lam 0 (.var 0)).flat 0 (-1))).1.map Nd.d), .dat (B (applyN (passN L).1 ((Pt.lam 0 (.var 0)).flat 0 (-1))).2)] = true := own_clean _ _
  unfold runN
  cases hc : closedOfP L with
  | none =>
    have hpn : passN L = ([], false) := by unfold passN; rw [hc]
    rw [hpn] at a1 a2 c2
    exact iRp_no1 kk b _ _ _ _ _ _ _ _ _ _ _ _ a1 v0 l0 n0 c2 a2
  | some t =>
    simp only
    have hcl := (closedP_iff t).1 (closedOfP_some hc).2
    unfold runT
    have hpn : passN L = told (passT t) := by unfold passN; rw [hc]
    rw [hpn] at a1 a2 c2 hap
    cases hp : (passT t).good with
    | false =>
      have htt : told (passT t) = ([], false) := by unfold told; rw [hp]; rfl
      rw [htt] at a1 a2 c2
      exact iRp_no1 kk b _ _ _ _ _ _ _ _ _ _ _ _ a1 v0 l0 n0 c2 a2
    | true =>
      have htt : told (passT t) = ((passT t).flat 0 (-1), true) := by unfold told; rw [hp]; rfl
      rw [htt] at a1 a2 c2 hap
      rw [if_pos rfl]
      have hcp := closedOfP_flat hp (passT_closed t 0 (by omega) hcl)
      have hapn : applyN ((passT t).flat 0 (-1)) ((Pt.lam 0 (.var 0)).flat 0 (-1)) = told (whole t) := by unfold applyN; rw [hcp, hid]; rfl
      rw [hapn] at a2 c2 hap
      cases hw : (whole t).good with
      | false =>
        have htw : told (whole t) = ([], false) := by unfold told; rw [hw]; rfl
        rw [htw] at a2 c2
        exact iRp_no2 kk b _ _ _ _ _ _ _ _ _ _ _ a1 v0 l0 n0 c2 a2
      | true =>
        have htw : told (whole t) = ((whole t).flat 0 (-1), true) := by unfold told; rw [hw]; rfl
        rw [htw] at a2 c2 hap
        rw [if_pos rfl]
        have a3 := ev_iHead ((whole t).flat 0 (-1)) true f (by simp only at hap; omega) kk (by omega)
        have hcw := closedOfP_flat hw (whole_closed hcl)
        have c3 : D.cleans [.own 50 ((clN false ((whole t).flat 0 (-1)) f).1.map Nd.d), .dat (I (clN false ((whole t).flat 0 (-1)) f).2.1), .dat (B (clN false ((whole t).flat 0 (-1)) f).2.2)] = true := own_clean3 _ _ _
        have hres : clN false ((whole t).flat 0 (-1)) f = if 0 ≤ f ∧ f ≤ 1000 then (match goOnP (nx false) f.toNat (whole t) with | some q => (q.1.flat 0 (-1), q.2, true) | none => ([], 0, false)) else ([], 0, false) := by
          unfold clN goneN
          rw [hcw, termOfP_flat hw]
          rfl
        have := iRp_go kk b _ _ _ _ _ _ _ _ _ _ _ _ _ _ a1 v0 l0 n0 c2 a2 c3 a3
        rw [this, hres]
        split
        · split <;> rfl
        · rfl
end Go.Den
namespace Go.Den
open Go
set_option linter.unusedVariables false
set_option maxRecDepth 100000
theorem fnExactRunPassed_den : ∀ (d0 d1 : Dat), WT cfg.ty 22 d0 → WT cfg.ty 3 d1 → ∃ k, den cfg k 14 [.dat d0, .dat d1] [] [] = some ([.dat (.val (.bool true))], [], []) := by
  intro d0 d1 w0 w1
  obtain ⟨L, rfl, hL⟩ := terms_of w0
  obtain ⟨v1, rfl⟩ := int_of w1
  have hlL : (L.map Nd.d).length = L.length := by simp
  refine ⟨1100001, ev_fn Go.Proofs.Try.f14 1100000 (by kernel_rfl) (by kernel_rfl) (fun kk hkk => ?_) 1100001 (Nat.le_refl _)⟩
  by_cases h1 : 1048576 < L.length
  · have z1 := ev_sz_no (L.map Nd.d) (1048576) false (by omega) (by omega) (by omega) kk (by omega)
    apply rps_small1 kk <;> first | assumption | exact decide_eq_false (by omega) | decide
  have z1 := ev_sz_go (L.map Nd.d) (1048576) false (by omega) (by omega) kk (by omega)
  have bL : L.length ≤ 1048576 := by omega
  have tL := ev_toTermS L bL kk (by omega)
  have eL := ev_eqTermS L true true bL kk (by omega)
  have s1 := ev_sRunP L true v1 bL kk (by omega)
  have s2 := ev_iRunP L true v1 bL kk (by omega)
  have m1 := ev_mark L (1) bL (by omega) (by omega) kk (by omega)
  have hw := runN_len L v1
  have ew := ev_eqTermS (runN L v1).1 true true (by omega) kk (by omega)
  have mw := ev_mark (runN L v1).1 1 (by omega) (by omega) (by omega) kk (by omega)
  have qw := ev_held (runN L v1).1.length 1 true (by omega) (by omega) (by omega) kk (by omega)
  have c := own_clean (runN L v1).1 (runN L v1).2
  generalize (runN L v1).1 = W at *
  generalize (runN L v1).2 = r at *
  cases r with
  | false => apply rps_false kk <;> first | assumption | exact decide_eq_false (by omega) | (simp; done)
  | true => apply rps_true kk <;> first | assumption | exact decide_eq_false (by omega) | (simp; done)
end Go.Den
namespace Go.Proofs.Ytcehfbegcapmnaa.fnExactRunPassed
open Go.ChangeShapes Go.WideShapes Go.ChangeAt Go.RowKit Go.Den
set_option linter.unusedVariables false
theorem own : ownKnob Try.prog.godebug = none := by kernel_rfl
theorem laidOut : laidOutB Try.prog = true := by kernel_rfl
theorem body : (Try.f14.body).isSome = true := by kernel_rfl
theorem fnThere : cfg.fn 14 = some Try.f14 := by kernel_rfl
theorem plain3 : plainTy cfg.ty 8 3 = true := by kernel_rfl
theorem plain22 : plainTy cfg.ty 8 22 = true := by kernel_rfl
set_option maxRecDepth 100000 in
theorem lifted (os : Os) (started : os.Started) (H : Type) (enc : TypeId × Value → H) :
    ReturnsInHanded {} Try.checked os 14 .any (Rows.fnExactRunPassedSpec.pre6 enc Try.prog Try.f14 Rows.fnExactRunPassedRow.domain false) (Rows.fnExactRunPassedSpec.post enc Try.prog Try.f14 false true false false) := by
  refine returnsInHanded_of_change (C := Try.checked) own started (by kernel_rfl) Try.func14
    (ChangeSpec.witness6 (enc := enc) (C := Try.checked) false ⟨#[], #[.slice none 0 0, .int .i64 0], []⟩ 8 (by kernel_rfl) (by kernel_rfl) (by kernel_rfl) (by kernel_rfl)) ?_
  intro W base args ds gs before hval0 hW hcnd _
  have hval : ∀ (j : Nat) t v, Try.f14.params[j]? = some t → args[j]? = some v → Value.okWide Try.prog W .any base t v := hval0
  have hW' := hW
  obtain ⟨p, q, hA0, hV, rfl, hfz, hnd⟩ := hW
  have hA : DataW.TrodAll enc Try.prog W 0 (fun _ => true) true Try.f14.params.toList args.toList ds p := hA0
  rw [Try.params14] at hA hval
  obtain ⟨v0, vs0, d0, ds0, p0, q0, hargs, rfl, rfl, h0, r0⟩ := trodAll_cons hA
  obtain ⟨v1, vs1, d1, ds1, p1, q1, rfl, rfl, rfl, h1, r1⟩ := trodAll_cons r0
  obtain ⟨rfl, rfl, rfl⟩ := trodAll_nil r1
  obtain rfl : args = #[v0, v1] := by cases args; simp_all
  obtain ⟨rfl, rfl⟩ := trodVars_none hV
  have k0 := h0
  have lt0 : ∀ x ∈ p0, x.block < W.heap.size := by obtain ⟨m, hm⟩ := k0; exact DataW.trod_lt m _ _ _ hm
  obtain ⟨e0, cv0, R0, V0, T0⟩ := arg_dat cfg_ty plain22 (hval 0 22 v0 rfl rfl) h0
  have k1 := h1
  have lt1 : ∀ x ∈ p1, x.block < W.heap.size := by obtain ⟨m, hm⟩ := k1; exact DataW.trod_lt m _ _ _ hm
  obtain ⟨e1, cv1, R1, V1, T1⟩ := arg_dat cfg_ty plain3 (hval 1 3 v1 rfl rfl) h1
  clear hA0 hval0
  have hden := fnExactRunPassed_den e0 e1 T0 T1
  refine (law_calls (P := Try.prog) (C := cfg) (f := 14) (fn := Try.f14) (vals := #[v0, v1]) (ds := [e0, e1]) (W := W) (b := true) den_true.out (cfg_fn fnThere) body rfl (fun j d v hj hv => ?_) hden).mono fun e W' hh => ?_
  · match j, hj, hv with
    | 0, hj, hv => cases hj; cases hv; exact ⟨cv0, R0, V0⟩
    | 1, hj, hv => cases hj; cases hv; exact ⟨cv1, R1, V1⟩
    | j + 2, hj, hv => simp at hj
  · obtain ⟨he, bel⟩ := hh
    subst he
    exact ⟨_, rfl, _, _, _, [], _, [], hW', trodAll_mk1 (shut_bool Try.underlying4 _), (trodAll_cons_mk (Below.trod laidOut (by kernel_rfl) (of_decide_eq_true (by kernel_rfl)) k0 bel lt0) (trodAll_cons_mk (Below.trod laidOut (by kernel_rfl) (of_decide_eq_true (by kernel_rfl)) k1 bel lt1) trodAll_mk0)), rfl, bel.frame _, fun h => by cases h⟩
theorem over : Rows.fnExactRunPassedRow.holds Try.pinned (OpenSpec.ofChange Rows.fnExactRunPassedSpec) :=
  OpenClaim.holds_of_wide 14 Try.f14 rfl rfl rfl rfl rfl rfl rfl ⟨rfl, rfl, rfl, rfl, rfl⟩ rfl rfl rfl rfl rfl (by kernel_rfl) Try.func14 (by kernel_rfl)
    (of_decide_eq_true (by kernel_rfl)) (by unfold Func.isWrapper; first | (rw [if_pos (by decide +kernel)]; kernel_rfl) | (rw [if_neg (by decide +kernel)]; exact ⟨rfl, rfl⟩))
    (fun os started H enc _ => lifted os started H enc)
theorem proved : Rows.FnExactRunPassedSaid := over
end Go.Proofs.Ytcehfbegcapmnaa.fnExactRunPassed
namespace Go.Proofs.Ytcehfbegcapmnaa
/-- The row, under a short name, for the claim. -/
theorem fnExactRunPassed_holds : Rows.FnExactRunPassedSaid := fnExactRunPassed.proved
end Go.Proofs.Ytcehfbegcapmnaa
