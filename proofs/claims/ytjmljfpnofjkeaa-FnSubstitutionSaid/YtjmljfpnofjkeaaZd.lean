/- Merged out of: V3 WA WC WG WK WL WN WP WQ T1 T2 V4 V5 LFnSubstitution (prune.py, a program of this work's). -/
import Derived.Test.YtjmljfpnofjkeaaZc4
import Derived.KernelRfl
import Derived.Test.YtjmljfpnofjkeaaZc6
import Derived.Test.YtjmljfpnofjkeaaRows
import Derived.WalkKit
import Derived.ProofKit
import Derived.OpenShut
import Derived.ShutString
import Derived.ChangeOld
import Derived.Below
set_option linter.unusedVariables false
set_option linter.unusedSimpArgs false
set_option linter.unnecessarySimpa false
namespace Go.Den
open Go
set_option linter.unusedVariables false
set_option maxRecDepth 100000
theorem fnSub_big (kk : Nat) (cs cs2 : List Dat) (h1 : decide (1048576 < w64 ((cs.length : Int) + (cs2.length : Int))) = true) : runFn cfg kk (den cfg kk) 4 Go.Proofs.Try.f4 [.dat (Dat.lst false cs), .dat (Dat.lst false cs2)] [] [] = some ([D.dat (B true)], [], []) :=
  hrun_ok [(200030, .yes)] (ob h1 ob0) (by kernel_rfl)
theorem fnSub_1 (kk : Nat) (cs cs2 ls ls2 ss rr a_ bb up c_ d_ e_ : List Dat) (v v2 : Int) (b2 b3 : Bool) (h1 : decide (1048576 < w64 ((cs.length : Int) + (cs2.length : Int))) = false) (h2 : den cfg kk 13 [D.dat (Dat.lst false cs)] [] [] = some ([D.own 56 ls, D.dat (I v), D.own 56 ss], [], [])) (h3 : den cfg kk 13 [D.dat (Dat.lst false cs2)] [] [] = some ([D.own 56 ls2, D.dat (I v2), D.own 56 rr], [], [])) (h4 : D.cleans [D.own 56 a_, D.dat (B false)] = true) (h5 : den cfg kk 14 [D.dat (Dat.lst true ls), D.dat (I 0), D.dat (Dat.lst true ss)] [] [] = some ([D.own 56 a_, D.dat (B false)], [], [])) (h6 : D.cleans [D.own 56 a_, D.dat (B false)] = true) (h7 : den cfg kk 15 [D.dat (Dat.lst true ls), D.dat (I 0), D.dat (Dat.lst true ss)] [] [] = some ([D.own 56 a_, D.dat (B false)], [], [])) (h12 : den cfg kk 9 [D.dat (Dat.lst true a_), D.dat (Dat.lst true a_)] [] [] = some ([D.dat (B true)], [], [])) (h15 : D.cleans [D.own 56 bb, D.dat (B b2)] = true) (h16 : den cfg kk 14 [D.dat (Dat.lst true a_), D.dat (I 0), D.dat (Dat.lst true rr)] [] [] = some ([D.own 56 bb, D.dat (B b2)], [], [])) (h17 : D.cleans [D.own 56 up, D.dat (B b3)] = true) (h18 : den cfg kk 16 [D.dat (Dat.lst true rr), D.dat (I 1), D.dat (I 0)] [] [] = some ([D.own 56 up, D.dat (B b3)], [], [])) : runFn cfg kk (den cfg kk) 4 Go.Proofs.Try.f4 [.dat (Dat.lst false cs), .dat (Dat.lst false cs2)] [] [] = some ([D.dat (B true)], [], []) :=
  hrun_ok [(200030, .no), (33, .ret [.own 56 ls, .dat (I v), .own 56 ss]), (39, .ret [.own 56 ls2, .dat (I v2), .own 56 rr]), (46, .ret [.own 56 a_, .dat (B false)]), (52, .ret [.own 56 a_, .dat (B false)]), (200058, .no), (61, .ret [.dat (B true)]), (200063, .no), (67, .ret [.own 56 bb, .dat (B b2)]), (72, .ret [.own 56 up, .dat (B b3)]), (200077, .yes), (200081, .yes), (200084, .yes)] (ob h1 (ob h2 (ob h3 (ob h4 (ob h5 (ob h6 (ob h7 (ob (rfl : false = false) (ob (rfl : false = false) (ob (rfl : false = false) (ob (rfl : true = true) (ob h12 (ob (rfl : false = false) (ob (rfl : false = false) (ob h15 (ob h16 (ob h17 (ob h18 (ob (rfl : true = true) (ob (rfl : true = true) (ob (rfl : true = true) (ob (rfl : true = true) (ob (rfl : true = true) ob0))))))))))))))))))))))) (by kernel_rfl)
theorem fnSub_2 (kk : Nat) (cs cs2 ls ls2 ss rr a_ bb up c_ d_ e_ : List Dat) (v v2 : Int) (b2 b3 : Bool) (h1 : decide (1048576 < w64 ((cs.length : Int) + (cs2.length : Int))) = false) (h2 : den cfg kk 13 [D.dat (Dat.lst false cs)] [] [] = some ([D.own 56 ls, D.dat (I v), D.own 56 ss], [], [])) (h3 : den cfg kk 13 [D.dat (Dat.lst false cs2)] [] [] = some ([D.own 56 ls2, D.dat (I v2), D.own 56 rr], [], [])) (h4 : D.cleans [D.own 56 a_, D.dat (B true)] = true) (h5 : den cfg kk 14 [D.dat (Dat.lst true ls), D.dat (I 0), D.dat (Dat.lst true ss)] [] [] = some ([D.own 56 a_, D.dat (B true)], [], [])) (h6 : D.cleans [D.own 56 a_, D.dat (B true)] = true) (h7 : den cfg kk 15 [D.dat (Dat.lst true ls), D.dat (I 0), D.dat (Dat.lst true ss)] [] [] = some ([D.own 56 a_, D.dat (B true)], [], [])) (h12 : den cfg kk 9 [D.dat (Dat.lst true a_), D.dat (Dat.lst true a_)] [] [] = some ([D.dat (B true)], [], [])) (h15 : D.cleans [D.own 56 bb, D.dat (B false)] = true) (h16 : den cfg kk 14 [D.dat (Dat.lst true a_), D.dat (I 0), D.dat (Dat.lst true rr)] [] [] = some ([D.own 56 bb, D.dat (B false)], [], [])) (h17 : D.cleans [D.own 56 up, D.dat (B b3)] = true) (h18 : den cfg kk 16 [D.dat (Dat.lst true rr), D.dat (I 1), D.dat (I 0)] [] [] = some ([D.own 56 up, D.dat (B b3)], [], [])) : runFn cfg kk (den cfg kk) 4 Go.Proofs.Try.f4 [.dat (Dat.lst false cs), .dat (Dat.lst false cs2)] [] [] = some ([D.dat (B true)], [], []) :=
  hrun_ok [(200030, .no), (33, .ret [.own 56 ls, .dat (I v), .own 56 ss]), (39, .ret [.own 56 ls2, .dat (I v2), .own 56 rr]), (46, .ret [.own 56 a_, .dat (B true)]), (52, .ret [.own 56 a_, .dat (B true)]), (200058, .no), (61, .ret [.dat (B true)]), (200063, .no), (67, .ret [.own 56 bb, .dat (B false)]), (72, .ret [.own 56 up, .dat (B b3)]), (200077, .no), (200081, .yes), (200084, .yes)] (ob h1 (ob h2 (ob h3 (ob h4 (ob h5 (ob h6 (ob h7 (ob (rfl : false = false) (ob (rfl : false = false) (ob (rfl : false = false) (ob (rfl : true = true) (ob h12 (ob (rfl : false = false) (ob (rfl : false = false) (ob h15 (ob h16 (ob h17 (ob h18 (ob (rfl : false = false) (ob (rfl : false = false) (ob (rfl : true = true) (ob (rfl : true = true) (ob (rfl : true = true) ob0))))))))))))))))))))))) (by kernel_rfl)
theorem fnSub_3 (kk : Nat) (cs cs2 ls ls2 ss rr a_ bb up c_ d_ e_ : List Dat) (v v2 : Int) (b2 b3 : Bool) (h1 : decide (1048576 < w64 ((cs.length : Int) + (cs2.length : Int))) = false) (h2 : den cfg kk 13 [D.dat (Dat.lst false cs)] [] [] = some ([D.own 56 ls, D.dat (I v), D.own 56 ss], [], [])) (h3 : den cfg kk 13 [D.dat (Dat.lst false cs2)] [] [] = some ([D.own 56 ls2, D.dat (I v2), D.own 56 rr], [], [])) (h4 : D.cleans [D.own 56 a_, D.dat (B true)] = true) (h5 : den cfg kk 14 [D.dat (Dat.lst true ls), D.dat (I 0), D.dat (Dat.lst true ss)] [] [] = some ([D.own 56 a_, D.dat (B true)], [], [])) (h6 : D.cleans [D.own 56 a_, D.dat (B true)] = true) (h7 : den cfg kk 15 [D.dat (Dat.lst true ls), D.dat (I 0), D.dat (Dat.lst true ss)] [] [] = some ([D.own 56 a_, D.dat (B true)], [], [])) (h12 : den cfg kk 9 [D.dat (Dat.lst true a_), D.dat (Dat.lst true a_)] [] [] = some ([D.dat (B true)], [], [])) (h15 : D.cleans [D.own 56 bb, D.dat (B true)] = true) (h16 : den cfg kk 14 [D.dat (Dat.lst true a_), D.dat (I 0), D.dat (Dat.lst true rr)] [] [] = some ([D.own 56 bb, D.dat (B true)], [], [])) (h17 : D.cleans [D.own 56 up, D.dat (B false)] = true) (h18 : den cfg kk 16 [D.dat (Dat.lst true rr), D.dat (I 1), D.dat (I 0)] [] [] = some ([D.own 56 up, D.dat (B false)], [], [])) : runFn cfg kk (den cfg kk) 4 Go.Proofs.Try.f4 [.dat (Dat.lst false cs), .dat (Dat.lst false cs2)] [] [] = some ([D.dat (B true)], [], []) :=
  hrun_ok [(200030, .no), (33, .ret [.own 56 ls, .dat (I v), .own 56 ss]), (39, .ret [.own 56 ls2, .dat (I v2), .own 56 rr]), (46, .ret [.own 56 a_, .dat (B true)]), (52, .ret [.own 56 a_, .dat (B true)]), (200058, .no), (61, .ret [.dat (B true)]), (200063, .no), (67, .ret [.own 56 bb, .dat (B true)]), (72, .ret [.own 56 up, .dat (B false)]), (200077, .no), (200081, .no), (200084, .yes)] (ob h1 (ob h2 (ob h3 (ob h4 (ob h5 (ob h6 (ob h7 (ob (rfl : false = false) (ob (rfl : false = false) (ob (rfl : false = false) (ob (rfl : true = true) (ob h12 (ob (rfl : false = false) (ob (rfl : false = false) (ob h15 (ob h16 (ob h17 (ob h18 (ob (rfl : false = false) (ob (rfl : false = false) (ob (rfl : false = false) (ob (rfl : false = false) (ob (rfl : true = true) ob0))))))))))))))))))))))) (by kernel_rfl)
theorem fnSub_4 (kk : Nat) (cs cs2 ls ls2 ss rr a_ bb up c_ d_ e_ : List Dat) (v v2 : Int) (b2 b3 : Bool) (h1 : decide (1048576 < w64 ((cs.length : Int) + (cs2.length : Int))) = false) (h2 : den cfg kk 13 [D.dat (Dat.lst false cs)] [] [] = some ([D.own 56 ls, D.dat (I v), D.own 56 ss], [], [])) (h3 : den cfg kk 13 [D.dat (Dat.lst false cs2)] [] [] = some ([D.own 56 ls2, D.dat (I v2), D.own 56 rr], [], [])) (h4 : D.cleans [D.own 56 a_, D.dat (B true)] = true) (h5 : den cfg kk 14 [D.dat (Dat.lst true ls), D.dat (I 0), D.dat (Dat.lst true ss)] [] [] = some ([D.own 56 a_, D.dat (B true)], [], [])) (h6 : D.cleans [D.own 56 a_, D.dat (B true)] = true) (h7 : den cfg kk 15 [D.dat (Dat.lst true ls), D.dat (I 0), D.dat (Dat.lst true ss)] [] [] = some ([D.own 56 a_, D.dat (B true)], [], [])) (h12 : den cfg kk 9 [D.dat (Dat.lst true a_), D.dat (Dat.lst true a_)] [] [] = some ([D.dat (B true)], [], [])) (h15 : D.cleans [D.own 56 bb, D.dat (B true)] = true) (h16 : den cfg kk 14 [D.dat (Dat.lst true a_), D.dat (I 0), D.dat (Dat.lst true rr)] [] [] = some ([D.own 56 bb, D.dat (B true)], [], [])) (h17 : D.cleans [D.own 56 up, D.dat (B true)] = true) (h18 : den cfg kk 16 [D.dat (Dat.lst true rr), D.dat (I 1), D.dat (I 0)] [] [] = some ([D.own 56 up, D.dat (B true)], [], [])) (h24 : D.cleans [D.own 56 c_, D.dat (B false)] = true) (h25 : den cfg kk 14 [D.dat (Dat.lst true ls), D.dat (I 1), D.dat (Dat.lst true up)] [] [] = some ([D.own 56 c_, D.dat (B false)], [], [])) (h26 : D.cleans [D.own 56 d_, D.dat (B b2)] = true) (h27 : den cfg kk 14 [D.dat (Dat.lst true ss), D.dat (I 0), D.dat (Dat.lst true rr)] [] [] = some ([D.own 56 d_, D.dat (B b2)], [], [])) : runFn cfg kk (den cfg kk) 4 Go.Proofs.Try.f4 [.dat (Dat.lst false cs), .dat (Dat.lst false cs2)] [] [] = some ([D.dat (B true)], [], []) :=
  hrun_ok [(200030, .no), (33, .ret [.own 56 ls, .dat (I v), .own 56 ss]), (39, .ret [.own 56 ls2, .dat (I v2), .own 56 rr]), (46, .ret [.own 56 a_, .dat (B true)]), (52, .ret [.own 56 a_, .dat (B true)]), (200058, .no), (61, .ret [.dat (B true)]), (200063, .no), (67, .ret [.own 56 bb, .dat (B true)]), (72, .ret [.own 56 up, .dat (B true)]), (200077, .no), (200081, .no), (200084, .no), (88, .ret [.own 56 c_, .dat (B false)]), (94, .ret [.own 56 d_, .dat (B b2)]), (200099, .yes), (200102, .yes)] (ob h1 (ob h2 (ob h3 (ob h4 (ob h5 (ob h6 (ob h7 (ob (rfl : false = false) (ob (rfl : false = false) (ob (rfl : false = false) (ob (rfl : true = true) (ob h12 (ob (rfl : false = false) (ob (rfl : false = false) (ob h15 (ob h16 (ob h17 (ob h18 (ob (rfl : false = false) (ob (rfl : false = false) (ob (rfl : false = false) (ob (rfl : false = false) (ob (rfl : false = false) (ob h24 (ob h25 (ob h26 (ob h27 (ob (rfl : true = true) (ob (rfl : true = true) (ob (rfl : true = true) ob0)))))))))))))))))))))))))))))) (by kernel_rfl)
theorem fnSub_5 (kk : Nat) (cs cs2 ls ls2 ss rr a_ bb up c_ d_ e_ : List Dat) (v v2 : Int) (b2 b3 : Bool) (h1 : decide (1048576 < w64 ((cs.length : Int) + (cs2.length : Int))) = false) (h2 : den cfg kk 13 [D.dat (Dat.lst false cs)] [] [] = some ([D.own 56 ls, D.dat (I v), D.own 56 ss], [], [])) (h3 : den cfg kk 13 [D.dat (Dat.lst false cs2)] [] [] = some ([D.own 56 ls2, D.dat (I v2), D.own 56 rr], [], [])) (h4 : D.cleans [D.own 56 a_, D.dat (B true)] = true) (h5 : den cfg kk 14 [D.dat (Dat.lst true ls), D.dat (I 0), D.dat (Dat.lst true ss)] [] [] = some ([D.own 56 a_, D.dat (B true)], [], [])) (h6 : D.cleans [D.own 56 a_, D.dat (B true)] = true) (h7 : den cfg kk 15 [D.dat (Dat.lst true ls), D.dat (I 0), D.dat (Dat.lst true ss)] [] [] = some ([D.own 56 a_, D.dat (B true)], [], [])) (h12 : den cfg kk 9 [D.dat (Dat.lst true a_), D.dat (Dat.lst true a_)] [] [] = some ([D.dat (B true)], [], [])) (h15 : D.cleans [D.own 56 bb, D.dat (B true)] = true) (h16 : den cfg kk 14 [D.dat (Dat.lst true a_), D.dat (I 0), D.dat (Dat.lst true rr)] [] [] = some ([D.own 56 bb, D.dat (B true)], [], [])) (h17 : D.cleans [D.own 56 up, D.dat (B true)] = true) (h18 : den cfg kk 16 [D.dat (Dat.lst true rr), D.dat (I 1), D.dat (I 0)] [] [] = some ([D.own 56 up, D.dat (B true)], [], [])) (h24 : D.cleans [D.own 56 c_, D.dat (B true)] = true) (h25 : den cfg kk 14 [D.dat (Dat.lst true ls), D.dat (I 1), D.dat (Dat.lst true up)] [] [] = some ([D.own 56 c_, D.dat (B true)], [], [])) (h26 : D.cleans [D.own 56 d_, D.dat (B false)] = true) (h27 : den cfg kk 14 [D.dat (Dat.lst true ss), D.dat (I 0), D.dat (Dat.lst true rr)] [] [] = some ([D.own 56 d_, D.dat (B false)], [], [])) : runFn cfg kk (den cfg kk) 4 Go.Proofs.Try.f4 [.dat (Dat.lst false cs), .dat (Dat.lst false cs2)] [] [] = some ([D.dat (B true)], [], []) :=
  hrun_ok [(200030, .no), (33, .ret [.own 56 ls, .dat (I v), .own 56 ss]), (39, .ret [.own 56 ls2, .dat (I v2), .own 56 rr]), (46, .ret [.own 56 a_, .dat (B true)]), (52, .ret [.own 56 a_, .dat (B true)]), (200058, .no), (61, .ret [.dat (B true)]), (200063, .no), (67, .ret [.own 56 bb, .dat (B true)]), (72, .ret [.own 56 up, .dat (B true)]), (200077, .no), (200081, .no), (200084, .no), (88, .ret [.own 56 c_, .dat (B true)]), (94, .ret [.own 56 d_, .dat (B false)]), (200099, .no), (200102, .yes)] (ob h1 (ob h2 (ob h3 (ob h4 (ob h5 (ob h6 (ob h7 (ob (rfl : false = false) (ob (rfl : false = false) (ob (rfl : false = false) (ob (rfl : true = true) (ob h12 (ob (rfl : false = false) (ob (rfl : false = false) (ob h15 (ob h16 (ob h17 (ob h18 (ob (rfl : false = false) (ob (rfl : false = false) (ob (rfl : false = false) (ob (rfl : false = false) (ob (rfl : false = false) (ob h24 (ob h25 (ob h26 (ob h27 (ob (rfl : false = false) (ob (rfl : false = false) (ob (rfl : true = true) ob0)))))))))))))))))))))))))))))) (by kernel_rfl)
theorem fnSub_6 (kk : Nat) (cs cs2 ls ls2 ss rr a_ bb up c_ d_ e_ : List Dat) (v v2 : Int) (b2 b3 : Bool) (h1 : decide (1048576 < w64 ((cs.length : Int) + (cs2.length : Int))) = false) (h2 : den cfg kk 13 [D.dat (Dat.lst false cs)] [] [] = some ([D.own 56 ls, D.dat (I v), D.own 56 ss], [], [])) (h3 : den cfg kk 13 [D.dat (Dat.lst false cs2)] [] [] = some ([D.own 56 ls2, D.dat (I v2), D.own 56 rr], [], [])) (h4 : D.cleans [D.own 56 a_, D.dat (B true)] = true) (h5 : den cfg kk 14 [D.dat (Dat.lst true ls), D.dat (I 0), D.dat (Dat.lst true ss)] [] [] = some ([D.own 56 a_, D.dat (B true)], [], [])) (h6 : D.cleans [D.own 56 a_, D.dat (B true)] = true) (h7 : den cfg kk 15 [D.dat (Dat.lst true ls), D.dat (I 0), D.dat (Dat.lst true ss)] [] [] = some ([D.own 56 a_, D.dat (B true)], [], [])) (h12 : den cfg kk 9 [D.dat (Dat.lst true a_), D.dat (Dat.lst true a_)] [] [] = some ([D.dat (B true)], [], [])) (h15 : D.cleans [D.own 56 bb, D.dat (B true)] = true) (h16 : den cfg kk 14 [D.dat (Dat.lst true a_), D.dat (I 0), D.dat (Dat.lst true rr)] [] [] = some ([D.own 56 bb, D.dat (B true)], [], [])) (h17 : D.cleans [D.own 56 up, D.dat (B true)] = true) (h18 : den cfg kk 16 [D.dat (Dat.lst true rr), D.dat (I 1), D.dat (I 0)] [] [] = some ([D.own 56 up, D.dat (B true)], [], [])) (h24 : D.cleans [D.own 56 c_, D.dat (B true)] = true) (h25 : den cfg kk 14 [D.dat (Dat.lst true ls), D.dat (I 1), D.dat (Dat.lst true up)] [] [] = some ([D.own 56 c_, D.dat (B true)], [], [])) (h26 : D.cleans [D.own 56 d_, D.dat (B true)] = true) (h27 : den cfg kk 14 [D.dat (Dat.lst true ss), D.dat (I 0), D.dat (Dat.lst true rr)] [] [] = some ([D.own 56 d_, D.dat (B true)], [], [])) (h31 : D.cleans [D.own 56 e_, D.dat (B false)] = true) (h32 : den cfg kk 14 [D.dat (Dat.lst true c_), D.dat (I 0), D.dat (Dat.lst true d_)] [] [] = some ([D.own 56 e_, D.dat (B false)], [], [])) : runFn cfg kk (den cfg kk) 4 Go.Proofs.Try.f4 [.dat (Dat.lst false cs), .dat (Dat.lst false cs2)] [] [] = some ([D.dat (B true)], [], []) :=
  hrun_ok [(200030, .no), (33, .ret [.own 56 ls, .dat (I v), .own 56 ss]), (39, .ret [.own 56 ls2, .dat (I v2), .own 56 rr]), (46, .ret [.own 56 a_, .dat (B true)]), (52, .ret [.own 56 a_, .dat (B true)]), (200058, .no), (61, .ret [.dat (B true)]), (200063, .no), (67, .ret [.own 56 bb, .dat (B true)]), (72, .ret [.own 56 up, .dat (B true)]), (200077, .no), (200081, .no), (200084, .no), (88, .ret [.own 56 c_, .dat (B true)]), (94, .ret [.own 56 d_, .dat (B true)]), (200099, .no), (200102, .no), (106, .ret [.own 56 e_, .dat (B false)]), (200111, .yes)] (ob h1 (ob h2 (ob h3 (ob h4 (ob h5 (ob h6 (ob h7 (ob (rfl : false = false) (ob (rfl : false = false) (ob (rfl : false = false) (ob (rfl : true = true) (ob h12 (ob (rfl : false = false) (ob (rfl : false = false) (ob h15 (ob h16 (ob h17 (ob h18 (ob (rfl : false = false) (ob (rfl : false = false) (ob (rfl : false = false) (ob (rfl : false = false) (ob (rfl : false = false) (ob h24 (ob h25 (ob h26 (ob h27 (ob (rfl : false = false) (ob (rfl : false = false) (ob (rfl : false = false) (ob h31 (ob h32 (ob (rfl : true = true) (ob (rfl : true = true) (ob (rfl : true = true) ob0))))))))))))))))))))))))))))))))))) (by kernel_rfl)
theorem fnSub_7 (kk : Nat) (cs cs2 ls ls2 ss rr a_ bb up c_ d_ e_ : List Dat) (v v2 : Int) (b2 b3 : Bool) (h1 : decide (1048576 < w64 ((cs.length : Int) + (cs2.length : Int))) = false) (h2 : den cfg kk 13 [D.dat (Dat.lst false cs)] [] [] = some ([D.own 56 ls, D.dat (I v), D.own 56 ss], [], [])) (h3 : den cfg kk 13 [D.dat (Dat.lst false cs2)] [] [] = some ([D.own 56 ls2, D.dat (I v2), D.own 56 rr], [], [])) (h4 : D.cleans [D.own 56 a_, D.dat (B true)] = true) (h5 : den cfg kk 14 [D.dat (Dat.lst true ls), D.dat (I 0), D.dat (Dat.lst true ss)] [] [] = some ([D.own 56 a_, D.dat (B true)], [], [])) (h6 : D.cleans [D.own 56 a_, D.dat (B true)] = true) (h7 : den cfg kk 15 [D.dat (Dat.lst true ls), D.dat (I 0), D.dat (Dat.lst true ss)] [] [] = some ([D.own 56 a_, D.dat (B true)], [], [])) (h12 : den cfg kk 9 [D.dat (Dat.lst true a_), D.dat (Dat.lst true a_)] [] [] = some ([D.dat (B true)], [], [])) (h15 : D.cleans [D.own 56 bb, D.dat (B true)] = true) (h16 : den cfg kk 14 [D.dat (Dat.lst true a_), D.dat (I 0), D.dat (Dat.lst true rr)] [] [] = some ([D.own 56 bb, D.dat (B true)], [], [])) (h17 : D.cleans [D.own 56 up, D.dat (B true)] = true) (h18 : den cfg kk 16 [D.dat (Dat.lst true rr), D.dat (I 1), D.dat (I 0)] [] [] = some ([D.own 56 up, D.dat (B true)], [], [])) (h24 : D.cleans [D.own 56 c_, D.dat (B true)] = true) (h25 : den cfg kk 14 [D.dat (Dat.lst true ls), D.dat (I 1), D.dat (Dat.lst true up)] [] [] = some ([D.own 56 c_, D.dat (B true)], [], [])) (h26 : D.cleans [D.own 56 d_, D.dat (B true)] = true) (h27 : den cfg kk 14 [D.dat (Dat.lst true ss), D.dat (I 0), D.dat (Dat.lst true rr)] [] [] = some ([D.own 56 d_, D.dat (B true)], [], [])) (h31 : D.cleans [D.own 56 e_, D.dat (B true)] = true) (h32 : den cfg kk 14 [D.dat (Dat.lst true c_), D.dat (I 0), D.dat (Dat.lst true d_)] [] [] = some ([D.own 56 e_, D.dat (B true)], [], [])) (h37 : den cfg kk 9 [D.dat (Dat.lst true bb), D.dat (Dat.lst true e_)] [] [] = some ([D.dat (B true)], [], [])) : runFn cfg kk (den cfg kk) 4 Go.Proofs.Try.f4 [.dat (Dat.lst false cs), .dat (Dat.lst false cs2)] [] [] = some ([D.dat (B true)], [], []) :=
  hrun_ok [(200030, .no), (33, .ret [.own 56 ls, .dat (I v), .own 56 ss]), (39, .ret [.own 56 ls2, .dat (I v2), .own 56 rr]), (46, .ret [.own 56 a_, .dat (B true)]), (52, .ret [.own 56 a_, .dat (B true)]), (200058, .no), (61, .ret [.dat (B true)]), (200063, .no), (67, .ret [.own 56 bb, .dat (B true)]), (72, .ret [.own 56 up, .dat (B true)]), (200077, .no), (200081, .no), (200084, .no), (88, .ret [.own 56 c_, .dat (B true)]), (94, .ret [.own 56 d_, .dat (B true)]), (200099, .no), (200102, .no), (106, .ret [.own 56 e_, .dat (B true)]), (200111, .no), (114, .ret [.dat (B true)])] (ob h1 (ob h2 (ob h3 (ob h4 (ob h5 (ob h6 (ob h7 (ob (rfl : false = false) (ob (rfl : false = false) (ob (rfl : false = false) (ob (rfl : true = true) (ob h12 (ob (rfl : false = false) (ob (rfl : false = false) (ob h15 (ob h16 (ob h17 (ob h18 (ob (rfl : false = false) (ob (rfl : false = false) (ob (rfl : false = false) (ob (rfl : false = false) (ob (rfl : false = false) (ob h24 (ob h25 (ob h26 (ob h27 (ob (rfl : false = false) (ob (rfl : false = false) (ob (rfl : false = false) (ob h31 (ob h32 (ob (rfl : false = false) (ob (rfl : false = false) (ob (rfl : false = false) (ob (rfl : true = true) (ob h37 ob0))))))))))))))))))))))))))))))))))))) (by kernel_rfl)
end Go.Den
namespace Go.Den
open Go
set_option linter.unusedVariables false
set_option maxRecDepth 100000
theorem reduced (kk : Nat) (k n k1 n1 k2 n2 k3 n3 kr nr : Int) (d2 d3 dr r1 ps : List Dat) (h1 : ((0 : Int) ≤ 0 ∧ 0 < ((Dat.agg [I k1, I n1, Dat.lst false (T k2 n2 d2 :: r1)] :: T k3 n3 d3 :: ps).length : Int)) ∧ some (Dat.agg [I k1, I n1, Dat.lst false (T k2 n2 d2 :: r1)]) = some (Dat.agg [I k1, I n1, Dat.lst false (T k2 n2 d2 :: r1)])) (h2 : ((0 : Int) ≤ 0 ∧ 0 < ((T k2 n2 d2 :: r1).length : Int)) ∧ some (T k2 n2 d2) = some (T k2 n2 d2)) (h3 : ((0 : Int) ≤ 1 ∧ 1 < ((Dat.agg [I k1, I n1, Dat.lst false (T k2 n2 d2 :: r1)] :: T k3 n3 d3 :: ps).length : Int)) ∧ some (T k3 n3 d3) = some (T k3 n3 d3)) (h4 : den cfg kk 42 [D.dat (T k2 n2 d2), D.dat (I 0), D.dat (T k3 n3 d3)] [] [] = some ([D.dat (T kr nr dr)], [], [])) : runFn cfg kk (den cfg kk) 73 Go.Proofs.Try.f73 [.dat (T k n (T k1 n1 (T k2 n2 d2 :: r1) :: T k3 n3 d3 :: ps))] [] [] = some ([D.dat (T kr nr dr)], [], []) :=
  hrun_ok [(5, .at (T k1 n1 (T k2 n2 d2 :: r1))), (8, .at (T k2 n2 d2)), (12, .at (T k3 n3 d3)), (14, .ret [.dat (T kr nr dr)])] (ob h1 (ob h2 (ob h3 (ob h4 ob0)))) (by kernel_rfl)
end Go.Den
namespace Go.Den
open Go
set_option linter.unusedVariables false
set_option maxRecDepth 100000
/-- Good terms are small. -/
theorem good_small {t : Pt} (h : t.good = true) : t.size ≤ 150 ∧ t.depth ≤ 40 ∧ t.within 1000000 := by
  have := good_facts h
  exact ⟨this.1, this.2.1, within_mono (by omega) t (nums_within t this.2.2)⟩
end Go.Den
namespace Go.Den
open Go
set_option linter.unusedVariables false
set_option maxRecDepth 100000
/-- Small terms. -/
def small (t : Pt) : Prop := t.size ≤ 150 ∧ t.depth ≤ 40 ∧ t.within 1000000
end Go.Den
namespace Go.Den
open Go
set_option linter.unusedVariables false
set_option maxRecDepth 100000
def hd105 (a : Int) (ps out : List Dat) (i : Int) : St := Nm [1, 2, 29, 30, 31] [.dat (I a), .fn 85 [.up 0], .dat (.lst false ps), .dat (I ps.length), .dat (I i)] [none, none, none, none, none] [[.own 3 out]] []
theorem free_go (kk m : Nat) {s : St} {K : X → St → Prop} (a : Int) (ps out : List Dat) (i : Int) (out' : List Dat) (kx nx : Int) (dx : List Dat) (hs : s.norm ((envOf cfg kk 84 Go.Proofs.Try.f84).live (firstRegion (lp Go.Proofs.Try.f84 6))) = hd105 a ps out i) (h1 : decide (i < (ps.length : Int)) = true) (h2 : (0 ≤ i ∧ i < (ps.length : Int)) ∧ ps[i.toNat]? = some (T kx nx dx)) (h3 : den cfg kk 84 [D.dat (T kx nx dx), D.dat (I a), D.fn 85 [Ref.up 0]] [[D.own 3 out]] [] = some ([], [[D.own 3 out']], [])) (hn : ∀ s : St, s.norm ((envOf cfg kk 84 Go.Proofs.Try.f84).live (firstRegion (lp Go.Proofs.Try.f84 6))) = Nm [1, 2, 29, 30, 31] [D.dat (I a), D.fn 85 [Ref.up 0], D.dat (Dat.lst false ps), D.dat (I (ps.length : Int)), D.dat (I (w64 (i + 1)))] [none, none, none, none, none] [[D.own 3 out']] [] → Rounds (envOf cfg kk 84 Go.Proofs.Try.f84) kk (lp Go.Proofs.Try.f84 6) m s K) : Rounds (envOf cfg kk 84 Go.Proofs.Try.f84) kk (lp Go.Proofs.Try.f84 6) (m + 1) s K :=
  rounds_go [(200032, .yes), (33, .at (T kx nx dx)), (38, .back [] [[.own 3 out']] [])] hs (by kernel_rfl) (ob h1 (ob h2 (ob h3 (ob (rfl : false = false) ob0)))) (by kernel_rfl) hn
theorem free_end (kk m : Nat) {s : St} {K : X → St → Prop} (a : Int) (ps out : List Dat) (i : Int) (hs : s.norm ((envOf cfg kk 84 Go.Proofs.Try.f84).live (firstRegion (lp Go.Proofs.Try.f84 6))) = hd105 a ps out i) (h1 : decide (i < (ps.length : Int)) = false) (hK : K (X.exit 0) (Nm [] [] [] [[D.own 3 out]] [])) : Rounds (envOf cfg kk 84 Go.Proofs.Try.f84) kk (lp Go.Proofs.Try.f84 6) (m + 1) s K :=
  rounds_end [(200032, .no)] hs (by kernel_rfl) rfl (ob h1 ob0) (by kernel_rfl) hK
theorem free_hit (kk : Nat) (n a : Int) (ps out out1 out2 : List Dat) (h1 : decide (a ≤ n) = true) (h2 : den cfg kk 85 [D.dat (I (w64 (n - a))), D.ptr (Ref.up 0) 0] [[D.own 3 out]] [] = some ([], [[D.own 3 out1]], [])) (h5 : LoopAt cfg kk 84 Go.Proofs.Try.f84 6 (hd105 a ps out1 0) (X.exit 0) (Nm [] [] [] [[D.own 3 out2]] [])) : runFn cfg kk (den cfg kk) 84 Go.Proofs.Try.f84 [.dat (T 1 n ps), .dat (I a), .fn 85 [.up 0]] [[.own 3 out]] [] = some ([], [[D.own 3 out2]], []) :=
  hrun_ok [(200016, .yes), (22, .back [] [[.own 3 out1]] []), (300006, .loop (hd105 a ps out1 0) (.exit 0) (Nm [] [] [] [[.own 3 out2]] []))] (ob h1 (ob h2 (ob (rfl : false = false) (ob (rfl : _ = hd105 a ps out1 0) (ob h5 ob0))))) (by kernel_rfl)
theorem free_miss (kk : Nat) (n a : Int) (ps out out2 : List Dat) (h1 : decide (a ≤ n) = false) (h3 : LoopAt cfg kk 84 Go.Proofs.Try.f84 6 (hd105 a ps out 0) (X.exit 0) (Nm [] [] [] [[D.own 3 out2]] [])) : runFn cfg kk (den cfg kk) 84 Go.Proofs.Try.f84 [.dat (T 1 n ps), .dat (I a), .fn 85 [.up 0]] [[.own 3 out]] [] = some ([], [[D.own 3 out2]], []) :=
  hrun_ok [(200016, .no), (300006, .loop (hd105 a ps out 0) (.exit 0) (Nm [] [] [] [[.own 3 out2]] []))] (ob h1 (ob (rfl : _ = hd105 a ps out 0) (ob h3 ob0))) (by kernel_rfl)
theorem free_lam (kk : Nat) (n a : Int) (ps out out2 : List Dat) (h2 : LoopAt cfg kk 84 Go.Proofs.Try.f84 6 (hd105 (w64 (a + 1)) ps out 0) (X.exit 0) (Nm [] [] [] [[D.own 3 out2]] [])) : runFn cfg kk (den cfg kk) 84 Go.Proofs.Try.f84 [.dat (T 2 n ps), .dat (I a), .fn 85 [.up 0]] [[.own 3 out]] [] = some ([], [[D.own 3 out2]], []) :=
  hrun_ok [(300006, .loop (hd105 (w64 (a + 1)) ps out 0) (.exit 0) (Nm [] [] [] [[.own 3 out2]] []))] (ob (rfl : _ = hd105 (w64 (a + 1)) ps out 0) (ob h2 ob0)) (by kernel_rfl)
theorem free_app (kk : Nat) (n a : Int) (ps out out2 : List Dat) (h2 : LoopAt cfg kk 84 Go.Proofs.Try.f84 6 (hd105 a ps out 0) (X.exit 0) (Nm [] [] [] [[D.own 3 out2]] [])) : runFn cfg kk (den cfg kk) 84 Go.Proofs.Try.f84 [.dat (T 3 n ps), .dat (I a), .fn 85 [.up 0]] [[.own 3 out]] [] = some ([], [[D.own 3 out2]], []) :=
  hrun_ok [(300006, .loop (hd105 a ps out 0) (.exit 0) (Nm [] [] [] [[.own 3 out2]] []))] (ob (rfl : _ = hd105 a ps out 0) (ob h2 ob0)) (by kernel_rfl)
theorem freeIn1 (kk : Nat) (x : Int) (out : List Dat) (h1 : out.length + 1 ≤ 2147483648) : runFn cfg kk (den cfg kk) 85 Go.Proofs.Try.f85 [.dat (I x), .ptr (.up 0) 0] [[.own 3 out]] [] = some ([], [[D.own 3 (out ++ [I x])]], []) :=
  hrun_ok [(6, .ok)] (ob (obT h1) ob0) (by kernel_rfl)
theorem freeIn (kk : Nat) (k n : Int) (d : List Dat) (out srt cmp : List Dat) (h1 : den cfg kk 84 [D.dat (T k n d), D.dat (I 0), D.fn 85 [Ref.up 0]] [[D.own 3 []]] [] = some ([], [[D.own 3 out]], [])) (h3 : den cfg kk 86 [D.bor (Pl.lent 0) none] [] [some (3, out)] = some ([], [], [some (3, srt)])) (h5 : den cfg kk 87 [D.own 3 srt] [] [] = some ([D.own 3 cmp], [], [])) : runFn cfg kk (den cfg kk) 47 Go.Proofs.Try.f47 [.dat (T k n d)] [] [] = some ([D.own 3 cmp], [], []) :=
  hrun_ok [(7, .back [] [[.own 3 out]] []), (9, .back [] [] [some (3, srt)]), (11, .back [.own 3 cmp] [] [])] (ob h1 (ob (rfl : false = false) (ob h3 (ob (rfl : false = false) (ob h5 (ob (rfl : false = false) ob0)))))) (by kernel_rfl)
theorem iShift_no1 (kk : Nat) (b : Bool) (es : List Dat) (v w : Int) (k n : Int) (d : List Dat) (h1 : den cfg kk 32 [D.dat (Dat.lst b es)] [] [] = some ([D.dat (T k n d), D.dat (B false)], [], [])) : runFn cfg kk (den cfg kk) 16 Go.Proofs.Try.f16 [.dat (Dat.lst b es), .dat (I v), .dat (I w)] [] [] = some ([D.own 56 [], D.dat (B false)], [], []) :=
  hrun_ok [(12, .ret [.dat (T k n d), .dat (B false)])] (ob h1 ob0) (by kernel_rfl)
theorem iShift_no2 (kk : Nat) (b : Bool) (es : List Dat) (v w : Int) (k n : Int) (d : List Dat) (h1 : den cfg kk 32 [D.dat (Dat.lst b es)] [] [] = some ([D.dat (T k n d), D.dat (B true)], [], [])) (h2 : decide (v < -99) = true) : runFn cfg kk (den cfg kk) 16 Go.Proofs.Try.f16 [.dat (Dat.lst b es), .dat (I v), .dat (I w)] [] [] = some ([D.own 56 [], D.dat (B false)], [], []) :=
  hrun_ok [(12, .ret [.dat (T k n d), .dat (B true)]), (200021, .yes)] (ob h1 (ob h2 (ob (rfl : true = true) ob0))) (by kernel_rfl)
theorem iShift_no3 (kk : Nat) (b : Bool) (es : List Dat) (v w : Int) (k n : Int) (d : List Dat) (h1 : den cfg kk 32 [D.dat (Dat.lst b es)] [] [] = some ([D.dat (T k n d), D.dat (B true)], [], [])) (h2 : decide (v < -99) = false) (h4 : decide (99 < v) = true) : runFn cfg kk (den cfg kk) 16 Go.Proofs.Try.f16 [.dat (Dat.lst b es), .dat (I v), .dat (I w)] [] [] = some ([D.own 56 [], D.dat (B false)], [], []) :=
  hrun_ok [(12, .ret [.dat (T k n d), .dat (B true)]), (200021, .no), (200025, .yes)] (ob h1 (ob h2 (ob (rfl : false = false) (ob h4 (ob (rfl : true = true) ob0))))) (by kernel_rfl)
theorem iShift_no4 (kk : Nat) (b : Bool) (es : List Dat) (v w : Int) (k n : Int) (d : List Dat) (h1 : den cfg kk 32 [D.dat (Dat.lst b es)] [] [] = some ([D.dat (T k n d), D.dat (B true)], [], [])) (h2 : decide (v < -99) = false) (h4 : decide (99 < v) = false) (h6 : decide (w < 0) = true) : runFn cfg kk (den cfg kk) 16 Go.Proofs.Try.f16 [.dat (Dat.lst b es), .dat (I v), .dat (I w)] [] [] = some ([D.own 56 [], D.dat (B false)], [], []) :=
  hrun_ok [(12, .ret [.dat (T k n d), .dat (B true)]), (200021, .no), (200025, .no), (200029, .yes)] (ob h1 (ob h2 (ob (rfl : false = false) (ob h4 (ob (rfl : false = false) (ob h6 (ob (rfl : true = true) ob0))))))) (by kernel_rfl)
theorem iShift_no5 (kk : Nat) (b : Bool) (es : List Dat) (v w : Int) (k n : Int) (d : List Dat) (h1 : den cfg kk 32 [D.dat (Dat.lst b es)] [] [] = some ([D.dat (T k n d), D.dat (B true)], [], [])) (h2 : decide (v < -99) = false) (h4 : decide (99 < v) = false) (h6 : decide (w < 0) = false) (h8 : decide (99 < w) = true) : runFn cfg kk (den cfg kk) 16 Go.Proofs.Try.f16 [.dat (Dat.lst b es), .dat (I v), .dat (I w)] [] [] = some ([D.own 56 [], D.dat (B false)], [], []) :=
  hrun_ok [(12, .ret [.dat (T k n d), .dat (B true)]), (200021, .no), (200025, .no), (200029, .no), (200032, .yes)] (ob h1 (ob h2 (ob (rfl : false = false) (ob h4 (ob (rfl : false = false) (ob h6 (ob (rfl : false = false) (ob h8 ob0)))))))) (by kernel_rfl)
theorem iShift_no6 (kk : Nat) (b : Bool) (es : List Dat) (v w : Int) (rs : List Dat) (k n : Int) (d : List Dat) (h1 : den cfg kk 32 [D.dat (Dat.lst b es)] [] [] = some ([D.dat (T k n d), D.dat (B true)], [], [])) (h2 : decide (v < -99) = false) (h4 : decide (99 < v) = false) (h6 : decide (w < 0) = false) (h8 : decide (99 < w) = false) (h9 : den cfg kk 47 [D.dat (T k n d)] [] [] = some ([D.own 3 rs], [], [])) (h10 : den cfg kk 46 [D.dat (Dat.lst true rs), D.fn 48 [Ref.up 0, Ref.up 1]] [[D.dat (I w)], [D.dat (I v)]] [] = some ([D.dat (B true)], [[D.dat (I w)], [D.dat (I v)]], [])) : runFn cfg kk (den cfg kk) 16 Go.Proofs.Try.f16 [.dat (Dat.lst b es), .dat (I v), .dat (I w)] [] [] = some ([D.own 56 [], D.dat (B false)], [], []) :=
  hrun_ok [(12, .ret [.dat (T k n d), .dat (B true)]), (200021, .no), (200025, .no), (200029, .no), (200032, .no), (34, .ret [.own 3 rs]), (36, .back [.dat (B true)] [[.dat (I w)],[.dat (I v)]] [])] (ob h1 (ob h2 (ob (rfl : false = false) (ob h4 (ob (rfl : false = false) (ob h6 (ob (rfl : false = false) (ob h8 (ob h9 (ob h10 (ob (rfl : false = false) ob0))))))))))) (by kernel_rfl)
theorem iShift_go (kk : Nat) (b : Bool) (es : List Dat) (v w : Int) (rs out : List Dat) (r : Bool) (k n : Int) (d : List Dat) (k2 n2 : Int) (d2 : List Dat) (h1 : den cfg kk 32 [D.dat (Dat.lst b es)] [] [] = some ([D.dat (T k n d), D.dat (B true)], [], [])) (h2 : decide (v < -99) = false) (h4 : decide (99 < v) = false) (h6 : decide (w < 0) = false) (h8 : decide (99 < w) = false) (h9 : den cfg kk 47 [D.dat (T k n d)] [] [] = some ([D.own 3 rs], [], [])) (h10 : den cfg kk 46 [D.dat (Dat.lst true rs), D.fn 48 [Ref.up 0, Ref.up 1]] [[D.dat (I w)], [D.dat (I v)]] [] = some ([D.dat (B false)], [[D.dat (I w)], [D.dat (I v)]], [])) (h12 : den cfg kk 49 [D.dat (T k n d), D.dat (I v), D.dat (I w)] [] [] = some ([D.dat (T k2 n2 d2)], [], [])) (h13 : den cfg kk 36 [D.dat (T k2 n2 d2)] [] [] = some ([D.own 56 out, D.dat (B r)], [], [])) : runFn cfg kk (den cfg kk) 16 Go.Proofs.Try.f16 [.dat (Dat.lst b es), .dat (I v), .dat (I w)] [] [] = some ([D.own 56 out, D.dat (B r)], [], []) :=
  hrun_ok [(12, .ret [.dat (T k n d), .dat (B true)]), (200021, .no), (200025, .no), (200029, .no), (200032, .no), (34, .ret [.own 3 rs]), (36, .back [.dat (B false)] [[.dat (I w)],[.dat (I v)]] []), (40, .ret [.dat (T k2 n2 d2)]), (41, .ret [.own 56 out, .dat (B r)])] (ob h1 (ob h2 (ob (rfl : false = false) (ob h4 (ob (rfl : false = false) (ob h6 (ob (rfl : false = false) (ob h8 (ob h9 (ob h10 (ob (rfl : false = false) (ob h12 (ob h13 ob0))))))))))))) (by kernel_rfl)
theorem contF (kk : Nat) (b : Bool) (es : List Dat) (f v j : Int) (h1 : den cfg kk 83 [D.dat (Dat.lst b es), D.fn 48 [Ref.up 0, Ref.up 1]] [[D.dat (I f)], [D.dat (I v)]] [] = some ([D.dat (I j)], [[D.dat (I f)], [D.dat (I v)]], [])) : runFn cfg kk (den cfg kk) 46 Go.Proofs.Try.f46 [.dat (Dat.lst b es), .fn 48 [.up 0, .up 1]] [[.dat (I f)], [.dat (I v)]] [] = some ([D.dat (B (decide (0 ≤ j)))], [[D.dat (I f)], [D.dat (I v)]], []) :=
  hrun_ok [(7, .back [.dat (I j)] [[.dat (I f)], [.dat (I v)]] [])] (ob h1 (ob (rfl : false = false) ob0)) (by kernel_rfl)
def hd104 (b : Bool) (es : List Dat) (f v i : Int) : St := Nm [0, 1, 7, 8] [.dat (.lst b es), .fn 48 [.up 0, .up 1], .dat (I es.length), .dat (I i)] [none, none, none, none] [[.dat (I f)], [.dat (I v)]] []
theorem idxF_go (kk m : Nat) {s : St} {K : X → St → Prop} (b : Bool) (es : List Dat) (f v i : Int) (x : Int) (hs : s.norm ((envOf cfg kk 83 Go.Proofs.Try.f83).live (firstRegion (lp Go.Proofs.Try.f83 2))) = hd104 b es f v i) (h1 : decide (i < (es.length : Int)) = true) (h2 : (0 ≤ i ∧ i < (es.length : Int)) ∧ es[i.toNat]? = some (I x)) (h3 : den cfg kk 48 [D.dat (I x), D.ptr (Ref.up 0) 0, D.ptr (Ref.up 1) 0] [[D.dat (I f)], [D.dat (I v)]] [] = some ([D.dat (B false)], [[D.dat (I f)], [D.dat (I v)]], [])) (hn : ∀ s : St, s.norm ((envOf cfg kk 83 Go.Proofs.Try.f83).live (firstRegion (lp Go.Proofs.Try.f83 2))) = Nm [0, 1, 7, 8] [D.dat (Dat.lst b es), D.fn 48 [Ref.up 0, Ref.up 1], D.dat (I (es.length : Int)), D.dat (I (w64 (i + 1)))] [none, none, none, none] [[D.dat (I f)], [D.dat (I v)]] [] → Rounds (envOf cfg kk 83 Go.Proofs.Try.f83) kk (lp Go.Proofs.Try.f83 2) m s K) : Rounds (envOf cfg kk 83 Go.Proofs.Try.f83) kk (lp Go.Proofs.Try.f83 2) (m + 1) s K :=
  rounds_go [(200009, .yes), (14, .at (I x)), (16, .back [.dat (B false)] [[.dat (I f)], [.dat (I v)]] [])] hs (by kernel_rfl) (ob h1 (ob h2 (ob h3 (ob (rfl : false = false) ob0)))) (by kernel_rfl) hn
theorem idxF_hit (kk m : Nat) {s : St} {K : X → St → Prop} (b : Bool) (es : List Dat) (f v i : Int) (x : Int) (hs : s.norm ((envOf cfg kk 83 Go.Proofs.Try.f83).live (firstRegion (lp Go.Proofs.Try.f83 2))) = hd104 b es f v i) (h1 : decide (i < (es.length : Int)) = true) (h2 : (0 ≤ i ∧ i < (es.length : Int)) ∧ es[i.toNat]? = some (I x)) (h3 : den cfg kk 48 [D.dat (I x), D.ptr (Ref.up 0) 0, D.ptr (Ref.up 1) 0] [[D.dat (I f)], [D.dat (I v)]] [] = some ([D.dat (B true)], [[D.dat (I f)], [D.dat (I v)]], [])) (hK : K (X.ret) (Nm [4] [D.dat (I i)] [none] [[D.dat (I f)], [D.dat (I v)]] [])) : Rounds (envOf cfg kk 83 Go.Proofs.Try.f83) kk (lp Go.Proofs.Try.f83 2) (m + 1) s K :=
  rounds_end [(200009, .yes), (14, .at (I x)), (16, .back [.dat (B true)] [[.dat (I f)], [.dat (I v)]] [])] hs (by kernel_rfl) rfl (ob h1 (ob h2 (ob h3 (ob (rfl : false = false) ob0)))) (by kernel_rfl) hK
theorem idxF_end (kk m : Nat) {s : St} {K : X → St → Prop} (b : Bool) (es : List Dat) (f v i : Int) (hs : s.norm ((envOf cfg kk 83 Go.Proofs.Try.f83).live (firstRegion (lp Go.Proofs.Try.f83 2))) = hd104 b es f v i) (h1 : decide (i < (es.length : Int)) = false) (hK : K (X.exit 0) (Nm [4] [D.junk] [none] [[D.dat (I f)], [D.dat (I v)]] [])) : Rounds (envOf cfg kk 83 Go.Proofs.Try.f83) kk (lp Go.Proofs.Try.f83 2) (m + 1) s K :=
  rounds_end [(200009, .no)] hs (by kernel_rfl) rfl (ob h1 ob0) (by kernel_rfl) hK
theorem idxF_y (kk : Nat) (b : Bool) (es : List Dat) (f v j : Int) (h2 : LoopAt cfg kk 83 Go.Proofs.Try.f83 2 (hd104 b es f v 0) X.ret (Nm [4] [D.dat (I j)] [none] [[D.dat (I f)], [D.dat (I v)]] [])) : runFn cfg kk (den cfg kk) 83 Go.Proofs.Try.f83 [.dat (Dat.lst b es), .fn 48 [.up 0, .up 1]] [[.dat (I f)], [.dat (I v)]] [] = some ([D.dat (I j)], [[D.dat (I f)], [D.dat (I v)]], []) :=
  hrun_ok [(300002, .loop (hd104 b es f v 0) .ret (Nm [4] [.dat (I j)] [none] [[.dat (I f)], [.dat (I v)]] []))] (ob (rfl : _ = hd104 b es f v 0) (ob h2 ob0)) (by kernel_rfl)
theorem idxF_n (kk : Nat) (b : Bool) (es : List Dat) (f v : Int) (h2 : LoopAt cfg kk 83 Go.Proofs.Try.f83 2 (hd104 b es f v 0) (X.exit 0) (Nm [4] [D.junk] [none] [[D.dat (I f)], [D.dat (I v)]] [])) : runFn cfg kk (den cfg kk) 83 Go.Proofs.Try.f83 [.dat (Dat.lst b es), .fn 48 [.up 0, .up 1]] [[.dat (I f)], [.dat (I v)]] [] = some ([D.dat (I (-1))], [[D.dat (I f)], [D.dat (I v)]], []) :=
  hrun_ok [(300002, .loop (hd104 b es f v 0) (.exit 0) (Nm [4] [.junk] [none] [[.dat (I f)], [.dat (I v)]] []))] (ob (rfl : _ = hd104 b es f v 0) (ob h2 ob0)) (by kernel_rfl)
theorem shift1_no (kk : Nat) (x f v : Int) (h1 : decide (f ≤ x) = false) : runFn cfg kk (den cfg kk) 48 Go.Proofs.Try.f48 [.dat (I x), .ptr (.up 0) 0, .ptr (.up 1) 0] [[.dat (I f)], [.dat (I v)]] [] = some ([D.dat (B false)], [[D.dat (I f)], [D.dat (I v)]], []) :=
  hrun_ok [(200008, .no)] (ob h1 (ob (rfl : false = false) (ob (rfl : false = false) (ob (rfl : false = false) (ob (rfl : false = false) ob0))))) (by kernel_rfl)
theorem shift1_y (kk : Nat) (x f v : Int) (h1 : decide (f ≤ x) = true) : runFn cfg kk (den cfg kk) 48 Go.Proofs.Try.f48 [.dat (I x), .ptr (.up 0) 0, .ptr (.up 1) 0] [[.dat (I f)], [.dat (I v)]] [] = some ([D.dat (B (decide (w64 (x + v) < f)))], [[D.dat (I f)], [D.dat (I v)]], []) :=
  hrun_ok [(200008, .yes)] (ob h1 (ob (rfl : true = true) (ob (rfl : true = true) (ob (rfl : true = true) (ob (rfl : true = true) ob0))))) (by kernel_rfl)
end Go.Den
namespace Go.Den
open Go
set_option linter.unusedVariables false
set_option maxRecDepth 100000
/-- A loop over a term's parts. -/
theorem kids_loop {kk f : Nat} {fn : Func} {r : Nat} {x : X} {s' s0 : St} (t : Pt) (hk : 5 ≤ kk) (st : Nat → St)
    (hgo : ∀ (i : Nat) (y : Pt), t.kids[i]? = some y → y ∈ t.kids → decide ((i : Int) < ((t.kids.map Pt.d).length : Int)) = true → ((0 ≤ (i : Int) ∧ (i : Int) < ((t.kids.map Pt.d).length : Int)) ∧ (t.kids.map Pt.d)[(i : Int).toNat]? = some (T y.kd y.num (y.kids.map Pt.d))) → w64 ((i : Int) + 1) = ((i + 1 : Nat) : Int) →
      ∀ (m : Nat) (s : St) (K : X → St → Prop), s.norm ((envOf cfg kk f fn).live (firstRegion (lp fn r))) = st i → (∀ s : St, s.norm ((envOf cfg kk f fn).live (firstRegion (lp fn r))) = st (i + 1) → Rounds (envOf cfg kk f fn) kk (lp fn r) m s K) → Rounds (envOf cfg kk f fn) kk (lp fn r) (m + 1) s K)
    (hend : decide ((t.kids.length : Int) < ((t.kids.map Pt.d).length : Int)) = false → ∀ (m : Nat) (s : St) (K : X → St → Prop), s.norm ((envOf cfg kk f fn).live (firstRegion (lp fn r))) = st t.kids.length → K x s' → Rounds (envOf cfg kk f fn) kk (lp fn r) (m + 1) s K) (h0 : s0 = st 0) : LoopAt cfg kk f fn r s0 x s' := by
  have hle := t.kids_le
  refine loopAt_range st t.kids.length (by omega) (fun i hi m s K hs hn => ?_) (hend (decide_eq_false (by simp))) h0
  obtain ⟨y, h1, h2, h3⟩ := kid_at hi
  have hto : ((i : Int)).toNat = i := by simp
  exact hgo i y h1 h2 (decide_eq_true (by simp; omega)) ⟨⟨by omega, by simp; omega⟩, by rw [hto]; exact h3⟩ (by rw [w64_eq (by omega)]; rfl) m s K hs hn
theorem takeF_step {α β : Type} {ks : List α} {i : Nat} {x : α} (h : ks[i]? = some x) (g : α → List β) : (ks.take (i + 1)).flatMap g = (ks.take i).flatMap g ++ g x := by
  rw [List.take_add_one, h]
  simp
/-- The indices of the free variables, as they stand. -/
def fv : Pt → Int → List Int
  | .var n, a => if a ≤ n then [n - a] else []
  | .lam _ t, a => fv t (a + 1)
  | .app _ x y, a => fv x a ++ fv y a
def Pt.under (t : Pt) (a : Int) : Int := match t with | .lam _ _ => a + 1 | _ => a
theorem fv_kids (t : Pt) (a : Int) (h : ∀ n, t ≠ .var n) : fv t a = t.kids.flatMap fun x => fv x (t.under a) := by
  cases t with
  | var n => exact (h n rfl).elim
  | lam n x => simp [fv, Pt.kids, Pt.under]
  | app n x y => simp [fv, Pt.kids, Pt.under]
theorem fv_range : ∀ (t : Pt) (a : Int), t.nums = true → 0 ≤ a → ∀ z ∈ fv t a, 0 ≤ z ∧ z ≤ 99
  | .var n, a, h, ha, z, hz => by
    have h' : 0 ≤ n ∧ n ≤ 99 := by simpa [Pt.nums] using h
    simp only [fv] at hz
    split at hz
    · simp only [List.mem_singleton] at hz; omega
    · cases hz
  | .lam n t, a, h, ha, z, hz => by
    have h' : n = 0 ∧ t.nums = true := by simpa [Pt.nums] using h
    exact fv_range t (a + 1) h'.2 (by omega) z hz
  | .app n x y, a, h, ha, z, hz => by
    have h' : n = 0 ∧ x.nums = true ∧ y.nums = true := by simpa [Pt.nums] using h
    simp only [fv, List.mem_append] at hz
    rcases hz with hz | hz
    · exact fv_range x a h'.2.1 ha z hz
    · exact fv_range y a h'.2.2 ha z hz
theorem fv_length : ∀ (t : Pt) (a : Int), (fv t a).length ≤ t.size
  | .var n, a => by simp only [fv, Pt.size]; split <;> simp
  | .lam n t, a => by have := fv_length t (a + 1); simp only [fv, Pt.size]; omega
  | .app n x y, a => by have h1 := fv_length x a; have h2 := fv_length y a; simp only [fv, Pt.size, List.length_append]; omega
theorem ev_free : ∀ (d : Nat) (t : Pt) (a : Int) (out : List Int), t.depth ≤ d → t.within 1000000 → 0 ≤ a → a + t.depth ≤ 1000000 → out.length + t.size ≤ 1000000 →
    EvN (d + 10) 84 [.dat t.d, .dat (I a), .fn 85 [.up 0]] [[.own 3 (out.map I)]] [] ([], [[.own 3 ((out ++ fv t a).map I)]], [])
  | 0, t, a, out, hd, _, _, _, _ => by have := t.depth_pos; omega
  | d + 1, t, a, out, hd, hw, ha, had, ho => by
    refine ev_fn Go.Proofs.Try.f84 (d + 10) (by kernel_rfl) (by kernel_rfl) fun kk hkk => ?_
    have hwk : ∀ x ∈ t.kids, x.within 1000000 := by
      intro x hx
      cases t with
      | var n => cases hx
      | lam n y => simp only [Pt.kids, List.mem_singleton] at hx; subst hx; exact hw
      | app n y z =>
        have hw : y.within 1000000 ∧ z.within 1000000 := hw
        simp only [Pt.kids, List.mem_cons, List.not_mem_nil, or_false] at hx
        rcases hx with rfl | rfl
        · exact hw.1
        · exact hw.2
    have hloop : (∀ n, t ≠ .var n) → LoopAt cfg kk 84 Go.Proofs.Try.f84 6 (hd105 (t.under a) (t.kids.map Pt.d) (out.map I) 0) (X.exit 0) (Nm [] [] [] [[.own 3 ((out ++ fv t a).map I)]] []) := by
      intro hv
      refine kids_loop t (by omega) (fun i => hd105 (t.under a) (t.kids.map Pt.d) ((out ++ (t.kids.take i).flatMap fun x => fv x (t.under a)).map I) i) (fun i y hy hmem h1 h2 h3 m s K hs hn' => ?_) (fun h1 m s K hs hK => ?_) (by simp)
      · have hlt := Pt.kids_lt hmem
        have hu2 : t.under a ≤ a + 1 ∧ a ≤ t.under a := by cases t <;> simp [Pt.under] <;> omega
        have hsz : ((t.kids.take i).flatMap fun x => fv x (t.under a)).length + y.size ≤ t.size := by
          have h5 : ∀ ks : List Pt, (ks.flatMap fun x => fv x (t.under a)).length ≤ (ks.map Pt.size).sum := fun ks => by
            induction ks with
            | nil => simp
            | cons k ks ih => have := fv_length k (t.under a); simp only [List.flatMap_cons, List.length_append, List.map_cons, List.sum_cons]; omega
          have h6 := h5 (t.kids.take i)
          have h7 := sum_le (ks := t.kids) (i + 1)
          rw [List.take_add_one, hy] at h7
          simp only [List.map_append, List.sum_append, Option.toList_some, List.map_cons, List.map_nil, List.sum_cons, List.sum_nil] at h7
          have := t.size_kids
          omega
        have hr := ev_free d y (t.under a) (out ++ (t.kids.take i).flatMap fun x => fv x (t.under a)) (by omega) (hwk y hmem) (by omega) (by omega) (by simp only [List.length_append]; omega) kk (by omega)
        rw [Pt.d_eq y] at hr
        refine free_go kk m _ _ _ _ _ _ _ _ hs h1 h2 hr fun s' hs' => hn' s' ?_
        rw [hs', h3, takeF_step hy, List.append_assoc]
        rfl
      · refine free_end kk m _ _ _ _ hs h1 ?_
        rw [List.take_length, ← fv_kids t a hv]
        exact hK
    cases t with
    | var n =>
      have hw : -1000000 ≤ n ∧ n ≤ 1000000 := hw
      have hend : ∀ L : List Dat, LoopAt cfg kk 84 Go.Proofs.Try.f84 6 (hd105 a [] L 0) (X.exit 0) (Nm [] [] [] [[.own 3 L]] []) := fun L =>
        kids_loop (.var n) (by omega) (fun i => hd105 a [] L i) (fun i y hy => by simp [Pt.kids] at hy) (fun h1 m s K hs hK => free_end kk m _ _ _ _ hs h1 hK) rfl
      simp only [Pt.depth] at had
      simp only [Pt.size] at ho
      by_cases h : a ≤ n
      · have e : w64 (n - a) = n - a := w64_eq (by omega)
        have hfv : fv (.var n) a = [n - a] := by simp only [fv]; rw [if_pos h]
        rw [hfv]
        refine free_hit kk n a [] _ _ _ (decide_eq_true h) ?_ (hend _)
        rw [e]
        refine (ev_fn Go.Proofs.Try.f85 0 (by kernel_rfl) (by kernel_rfl) fun k2 _ => ?_) kk (by omega)
        have := freeIn1 k2 (n - a) (out.map I) (by simp; omega)
        rw [this]
        simp
      · have hfv : fv (.var n) a = [] := by simp only [fv]; rw [if_neg h]
        rw [hfv, List.append_nil]
        exact free_miss kk n a [] _ _ (decide_eq_false h) (hend _)
    | lam n x =>
      have e : w64 (a + 1) = a + 1 := w64_eq (by simp only [Pt.depth] at had; omega)
      have := hloop (fun _ h => by cases h)
      refine free_lam kk n a _ _ _ ?_
      rw [e]
      exact this
    | app n x y => exact free_app kk n a _ _ _ (hloop (fun _ h => by cases h))
/-- The free variables, sorted, each once. -/
def freeL (t : Pt) : List Int := Lib.compact ((fv t 0).mergeSort fun x y => decide (x ≤ y))
theorem den_ext {f k : Nat} {g : List D → List (List D) → List (Option Row) → Option (List D × List (List D) × List (Option Row))} (h : cfg.ext f = some g) (args : List D) (u : List (List D)) (l : List (Option Row)) : den cfg (k + 1) f args u l = g args u l := by
  simp only [den, h]
theorem ev_Sort (zs : List Int) (h : zs.length ≤ 1000000) : EvN 1 86 [.bor (.lent 0) none] [] [some (3, zs.map I)] ([], [], [some (3, (zs.mergeSort fun x y => decide (x ≤ y)).map I)]) := fun k hk => by
  obtain ⟨m, rfl⟩ : ∃ m, k = m + 1 := ⟨k - 1, by omega⟩
  rw [den_ext (g := extSort 3) (by kernel_rfl)]
  have e : intsOf (zs.map I) = some zs := intsOf_map zs
  have e2 : Nat.ble (zs.map I).length 1000000 = true := Nat.ble_eq_true_of_le (by simpa using h)
  show (match Nat.ble (zs.map I).length 1000000 with | true => sortI (zs.map I) | false => none).map (fun es' => (([], [], [some (3, es')]) : List D × List (List D) × List (Option Row))) = _
  rw [e2]
  simp only [sortI, e, Option.map_some]
  rfl
theorem ev_Compact (zs : List Int) (h : zs.length ≤ 1000000) : EvN 1 87 [.own 3 (zs.map I)] [] [] ([.own 3 ((Lib.compact zs).map I)], [], []) := fun k hk => by
  obtain ⟨m, rfl⟩ : ∃ m, k = m + 1 := ⟨k - 1, by omega⟩
  rw [den_ext (g := extComp 3) (by kernel_rfl)]
  have e : intsOf (zs.map I) = some zs := intsOf_map zs
  have e2 : Nat.ble (zs.map I).length 1000000 = true := Nat.ble_eq_true_of_le (by simpa using h)
  show (match Nat.ble (zs.map I).length 1000000 with | true => compI (zs.map I) | false => none).map (fun es' => (([.own 3 es'], [], []) : List D × List (List D) × List (Option Row))) = _
  rw [e2]
  simp only [compI, e, Option.map_some]
  rfl
theorem ev_freeIn (t : Pt) (hg : t.good = true) : EvN 100 47 [.dat t.d] [] [] ([.own 3 ((freeL t).map I)], [], []) := by
  refine (ev_fn Go.Proofs.Try.f47 80 (by kernel_rfl) (by kernel_rfl) fun kk hkk => ?_).mono (by omega)
  have hsm := good_small hg
  have hl := fv_length t 0
  have a1 := ev_free 40 t 0 [] hsm.2.1 hsm.2.2 (by omega) (by have := hsm.2.1; omega) (by simpa using (show t.size ≤ 1000000 by omega)) kk (by omega)
  have a2 := ev_Sort (fv t 0) (by omega) kk (by omega)
  have a3 := ev_Compact ((fv t 0).mergeSort fun x y => decide (x ≤ y)) (by simp; omega) kk (by omega)
  rw [Pt.d_eq] at a1 ⊢
  simp only [List.nil_append] at a1
  exact freeIn kk _ _ _ _ _ _ a1 a2 a3
theorem compact_mem (zs : List Int) (x : Int) : x ∈ Lib.compact zs ↔ x ∈ zs := by
  unfold Lib.compact Lib.compactUpTo
  simp only [List.mem_map, List.mem_filter, List.mem_range]
  constructor
  · rintro ⟨j, ⟨h1, _⟩, rfl⟩
    have : (zs.toArray[j]!) = zs[j] := by simp [h1]
    rw [this]
    exact List.getElem_mem h1
  · intro hx
    obtain ⟨j, hj, rfl⟩ := List.getElem_of_mem hx
    have key : ∀ j, (hj : j < zs.length) → ∃ i, (i < zs.length ∧ Lib.keeps zs.toArray i = true) ∧ zs.toArray[i]! = zs[j] := by
      intro j
      induction j with
      | zero => intro hj; exact ⟨0, ⟨hj, by simp [Lib.keeps]⟩, by simp [hj]⟩
      | succ j ih =>
        intro hj
        cases hk : Lib.keeps zs.toArray (j + 1) with
        | true => exact ⟨j + 1, ⟨hj, hk⟩, by simp [hj]⟩
        | false =>
          have h2 : zs[j + 1] = zs[j] := by
            simp [Lib.keeps] at hk
            have e1 : zs.toArray[j + 1]! = zs[j + 1] := by simp [hj]
            have e2 : zs.toArray[j]! = zs[j] := by simp [show j < zs.length by omega]
            first
              | (rw [← e1, ← e2]; simpa using hk)
              | (simp at hk; simpa using hk)
          obtain ⟨i, hi, he⟩ := ih (by omega)
          exact ⟨i, hi, by rw [he, h2]⟩
    obtain ⟨i, hi, he⟩ := key j hj
    exact ⟨i, hi, he⟩
theorem freeL_mem (t : Pt) (x : Int) : x ∈ freeL t ↔ x ∈ fv t 0 := by
  unfold freeL
  rw [compact_mem]
  simp
end Go.Den
namespace Go.Den
open Go
set_option linter.unusedVariables false
set_option maxRecDepth 100000
/-- What a good term's nodes are, if it is good. -/
def told (t : Pt) : List Nd × Bool := (if t.good = true then t.flat 0 (-1) else [], t.good)
theorem told_len (t : Pt) : (told t).1.length ≤ 150 := by
  unfold told
  simp only
  split
  · rename_i hg
    rw [Pt.flat_length]
    exact (good_facts hg).1
  · simp
/-- No free variable from f on comes below f. -/
def shOk (b : Int) : Int → Pt → Bool
  | f, .var n => if f ≤ n then decide (f ≤ n + b) else true
  | f, .lam _ t => shOk b (f + 1) t
  | f, .app _ x y => shOk b f x && shOk b f y
theorem shOk_fv (b : Int) : ∀ (t : Pt) (f a : Int), 0 ≤ a → 0 ≤ f → shOk b (f + a) t = !(fv t a).any fun z => decide (f ≤ z) && decide (z + b < f)
  | .var n, f, a, ha, hf => by
    simp only [shOk, fv]
    by_cases h1 : f + a ≤ n
    · rw [if_pos h1, if_pos (by omega)]
      simp only [List.any_cons, List.any_nil, Bool.or_false]
      have e1 : decide (f ≤ n - a) = true := decide_eq_true (by omega)
      rw [e1, Bool.true_and]
      by_cases h2 : f + a ≤ n + b
      · rw [decide_eq_true h2, decide_eq_false (by omega)]; rfl
      · rw [decide_eq_false h2, decide_eq_true (by omega)]; rfl
    · rw [if_neg h1]
      split
      · simp only [List.any_cons, List.any_nil, Bool.or_false]
        have e1 : decide (f ≤ n - a) = false := decide_eq_false (by omega)
        rw [e1]
        rfl
      · rfl
  | .lam n t, f, a, ha, hf => by
    have := shOk_fv b t f (a + 1) (by omega) hf
    simp only [shOk, fv]
    rw [show f + a + 1 = f + (a + 1) by omega]
    exact this
  | .app n x y, f, a, ha, hf => by
    simp only [shOk, fv, shOk_fv b x f a ha hf, shOk_fv b y f a ha hf, List.any_append, Bool.not_or]
/-- 'ContainsFunc' with the program's question. -/
theorem ev_contF (zs : List Int) (b : Bool) (f v : Int) (hl : zs.length ≤ 1000) (hz : ∀ z ∈ zs, 0 ≤ z ∧ z ≤ 99) (hv : -1000 ≤ v ∧ v ≤ 1000) :
    EvN 2000 46 [.dat (.lst b (zs.map I)), .fn 48 [.up 0, .up 1]] [[.dat (I f)], [.dat (I v)]] [] ([.dat (B (zs.any fun z => decide (f ≤ z) && decide (z + v < f)))], [[.dat (I f)], [.dat (I v)]], []) := by
  have hq : ∀ z, 0 ≤ z ∧ z ≤ 99 → EvN 1 48 [.dat (I z), .ptr (.up 0) 0, .ptr (.up 1) 0] [[.dat (I f)], [.dat (I v)]] [] ([.dat (B (decide (f ≤ z) && decide (z + v < f)))], [[.dat (I f)], [.dat (I v)]], []) := by
    intro z hz
    refine ev_fn Go.Proofs.Try.f48 0 (by kernel_rfl) (by kernel_rfl) fun kk _ => ?_
    have e : w64 (z + v) = z + v := w64_eq (by omega)
    by_cases h : f ≤ z
    · have := shift1_y kk z f v (decide_eq_true h)
      rw [this, e, decide_eq_true h, Bool.true_and]
    · have := shift1_no kk z f v (decide_eq_false h)
      rw [this, decide_eq_false h, Bool.false_and]
  have hml : (zs.map I).length = zs.length := by simp
  have hget : ∀ (i : Nat) (z : Int), zs[i]? = some z → (zs.map I)[((i : Int)).toNat]? = some (I z) := fun i z h => by
    rw [show ((i : Int)).toNat = i by simp, List.getElem?_map, h]; rfl
  have hidx : ∃ j : Int, EvN 1501 83 [.dat (.lst b (zs.map I)), .fn 48 [.up 0, .up 1]] [[.dat (I f)], [.dat (I v)]] [] ([.dat (I j)], [[.dat (I f)], [.dat (I v)]], []) ∧ decide (0 ≤ j) = zs.any fun z => decide (f ≤ z) && decide (z + v < f) := by
    cases h : zs.any fun z => decide (f ≤ z) && decide (z + v < f) with
    | true =>
      have hall : zs.all (fun z => !(decide (f ≤ z) && decide (z + v < f))) = false := by
        cases hc : zs.all (fun z => !(decide (f ≤ z) && decide (z + v < f))) with
        | false => rfl
        | true =>
          rw [List.all_eq_true] at hc
          obtain ⟨z, h1, h2⟩ := List.any_eq_true.1 h
          have := hc z h1
          rw [h2] at this
          cases this
      obtain ⟨j, z, h1, h2, h3⟩ := first_bad _ hall
      have hj := (List.getElem?_eq_some_iff.1 h1).1
      refine ⟨j, ?_, decide_eq_true (by omega)⟩
      refine ev_fn Go.Proofs.Try.f83 1500 (by kernel_rfl) (by kernel_rfl) fun kk hkk => ?_
      refine idxF_y kk b _ f v j ?_
      refine loopAt_range (fun i => hd104 b (zs.map I) f v i) j (by omega) (fun i hi m s K hs hn => ?_) (fun m s K hs hK => ?_) rfl
      · have hi2 : i < zs.length := by omega
        have hy := List.getElem?_eq_getElem hi2
        have hp : (decide (f ≤ zs[i]) && decide (zs[i] + v < f)) = false := by
          have := h3 i _ hi hy
          cases hc : (decide (f ≤ zs[i]) && decide (zs[i] + v < f)) with
          | false => rfl
          | true => rw [hc] at this; cases this
        have hqq := hq zs[i] (hz _ (List.getElem_mem hi2)) kk (by omega)
        rw [hp] at hqq
        refine idxF_go kk m b _ f v i zs[i] hs (decide_eq_true (by omega)) ⟨⟨by omega, by omega⟩, hget i _ hy⟩ hqq fun s' hs' => hn s' ?_
        rw [hs', w64_eq (n := (i : Int) + 1) (by omega)]
        rfl
      · have hp : (decide (f ≤ z) && decide (z + v < f)) = true := by
          cases hc : (decide (f ≤ z) && decide (z + v < f)) with
          | true => rfl
          | false => rw [hc] at h2; cases h2
        have hqq := hq z (hz _ (List.mem_of_getElem? h1)) kk (by omega)
        rw [hp] at hqq
        exact idxF_hit kk m b _ f v j z hs (decide_eq_true (by omega)) ⟨⟨by omega, by omega⟩, hget j _ h1⟩ hqq hK
    | false =>
      refine ⟨-1, ?_, rfl⟩
      refine ev_fn Go.Proofs.Try.f83 1500 (by kernel_rfl) (by kernel_rfl) fun kk hkk => ?_
      refine idxF_n kk b _ f v ?_
      refine loopAt_range (fun i => hd104 b (zs.map I) f v i) zs.length (by omega) (fun i hi m s K hs hn => ?_) (fun m s K hs hK => ?_) rfl
      · have hy := List.getElem?_eq_getElem hi
        have hp : (decide (f ≤ zs[i]) && decide (zs[i] + v < f)) = false := by
          cases hc : (decide (f ≤ zs[i]) && decide (zs[i] + v < f)) with
          | false => rfl
          | true =>
            have : zs.any (fun z => decide (f ≤ z) && decide (z + v < f)) = true := List.any_eq_true.2 ⟨_, List.getElem_mem hi, hc⟩
            rw [h] at this
            cases this
        have hqq := hq zs[i] (hz _ (List.getElem_mem hi)) kk (by omega)
        rw [hp] at hqq
        refine idxF_go kk m b _ f v i zs[i] hs (decide_eq_true (by omega)) ⟨⟨by omega, by omega⟩, hget i _ hy⟩ hqq fun s' hs' => hn s' ?_
        rw [hs', w64_eq (n := (i : Int) + 1) (by omega)]
        rfl
      · exact idxF_end kk m b _ f v _ hs (decide_eq_false (by omega)) hK
  obtain ⟨j, e1, e2⟩ := hidx
  refine (ev_fn Go.Proofs.Try.f46 1600 (by kernel_rfl) (by kernel_rfl) fun kk hkk => ?_).mono (by omega)
  rw [← e2]
  exact contF kk b _ f v j (e1 kk (by omega))
def shiftN (L : List Nd) (v w : Int) : List Nd × Bool :=
  match termOfP L with
  | some t => if ((-99 ≤ v ∧ v ≤ 99) ∧ (0 ≤ w ∧ w ≤ 99)) ∧ shOk v w t = true then told (sh v w t) else ([], false)
  | none => ([], false)
theorem shiftN_len (L : List Nd) (v w : Int) : (shiftN L v w).1.length ≤ 150 := by
  unfold shiftN
  split
  · split
    · exact told_len _
    · simp
  · simp
theorem ev_iShift (L : List Nd) (b : Bool) (v w : Int) (hL : L.length ≤ 1048576) : EvN 4000 16 [.dat (.lst b (L.map Nd.d)), .dat (I v), .dat (I w)] [] [] ([.own 56 ((shiftN L v w).1.map Nd.d), .dat (B (shiftN L v w).2)], [], []) := by
  refine (ev_fn Go.Proofs.Try.f16 3900 (by kernel_rfl) (by kernel_rfl) fun kk hkk => ?_).mono (by omega)
  obtain ⟨hy, hn⟩ := ev_termOf L b hL
  unfold shiftN
  cases h1 : termOfP L with
  | none =>
    obtain ⟨k, n, ds, e⟩ := hn h1
    exact iShift_no1 kk b _ v w _ _ _ (e kk (by omega))
  | some t =>
    have a1 := hy t h1 kk (by omega)
    rw [Pt.d_eq t] at a1
    simp only
    by_cases c1 : v < -99
    · rw [if_neg (by omega)]; exact iShift_no2 kk b _ v w _ _ _ a1 (decide_eq_true c1)
    by_cases c2 : 99 < v
    · rw [if_neg (by omega)]; exact iShift_no3 kk b _ v w _ _ _ a1 (decide_eq_false c1) (decide_eq_true c2)
    by_cases c3 : w < 0
    · rw [if_neg (by omega)]; exact iShift_no4 kk b _ v w _ _ _ a1 (decide_eq_false c1) (decide_eq_false c2) (decide_eq_true c3)
    by_cases c4 : 99 < w
    · rw [if_neg (by omega)]; exact iShift_no5 kk b _ v w _ _ _ a1 (decide_eq_false c1) (decide_eq_false c2) (decide_eq_false c3) (decide_eq_true c4)
    have hg := ((termOfP_iff L t).1 h1).1
    have hsm := good_small hg
    have hnum := (good_facts hg).2.2
    have a2 := ev_freeIn t hg kk (by omega)
    have hlen : (freeL t).length ≤ 1000 := by
      have h2 := comp_le ((fv t 0).mergeSort fun x y => decide (x ≤ y))
      have h3 := fv_length t 0
      simp only [List.length_mergeSort] at h2
      unfold freeL
      omega
    have a3 := ev_contF (freeL t) true w v hlen (fun z hz => fv_range t 0 hnum (by omega) z ((freeL_mem t z).1 hz)) (by omega) kk (by omega)
    have hany : ((freeL t).any fun z => decide (w ≤ z) && decide (z + v < w)) = !shOk v w t := by
      have h5 := shOk_fv v t w 0 (by omega) (by omega)
      rw [Int.add_zero] at h5
      rw [h5, Bool.not_not, Bool.eq_iff_iff, List.any_eq_true, List.any_eq_true]
      constructor
      · rintro ⟨z, hz, hp⟩; exact ⟨z, (freeL_mem t z).1 hz, hp⟩
      · rintro ⟨z, hz, hp⟩; exact ⟨z, (freeL_mem t z).2 hz, hp⟩
    rw [hany] at a3
    rw [Pt.d_eq t] at a2
    cases hok : shOk v w t with
    | false =>
      rw [hok] at a3
      rw [if_neg (fun h => by cases h.2)]
      exact iShift_no6 kk b _ v w _ _ _ _ a1 (decide_eq_false c1) (decide_eq_false c2) (decide_eq_false c3) (decide_eq_false c4) a2 a3
    | true =>
      rw [hok] at a3
      rw [if_pos ⟨by omega, rfl⟩]
      have hz := sh_size v t w
      have a4 := ev_shift t v w (by omega) (by omega) (by omega) hsm.2.2 kk (by omega)
      have a5 := ev_goodNodes (sh v w t) (by omega) kk (by omega)
      rw [Pt.d_eq t, Pt.d_eq (sh v w t)] at a4
      rw [Pt.d_eq (sh v w t)] at a5
      exact iShift_go kk b _ v w _ _ _ _ _ _ _ _ _ a1 (decide_eq_false c1) (decide_eq_false c2) (decide_eq_false c3) (decide_eq_false c4) a2 a3 a4 a5
end Go.Den
namespace Go.Den
open Go
set_option linter.unusedVariables false
set_option maxRecDepth 100000
/-- The number of the redex that is reduced next, by value or by name. -/
def nx (v : Bool) : Pt → Option Nat
  | .var _ => none
  | .lam _ _ => none
  | .app _ x y => if x.kd ≠ 2 then (nx v x).map (1 + ·) else if v = true ∧ y.kd ≠ 2 then (nx v y).map (1 + x.size + ·) else some 0
end Go.Den
namespace Go.Den
open Go
set_option linter.unusedVariables false
set_option maxRecDepth 100000
theorem termOfP_flat {t : Pt} (h : t.good = true) : termOfP (t.flat 0 (-1)) = some t := (termOfP_iff _ t).2 ⟨h, rfl⟩
end Go.Den
namespace Go.Den
inductive Tm where
  | var (n : Nat)
  | lam (t : Tm)
  | app (a b : Tm)
namespace Tm
def upr (r : Nat → Nat) : Nat → Nat
  | 0 => 0
  | n + 1 => r n + 1
def ren (r : Nat → Nat) : Tm → Tm
  | .var n => .var (r n)
  | .lam t => .lam (ren (upr r) t)
  | .app a b => .app (ren r a) (ren r b)
def ups (σ : Nat → Tm) : Nat → Tm
  | 0 => .var 0
  | n + 1 => ren Nat.succ (σ n)
def sb (σ : Nat → Tm) : Tm → Tm
  | .var n => σ n
  | .lam t => .lam (sb (ups σ) t)
  | .app a b => .app (sb σ a) (sb σ b)
theorem upr_ext {r s : Nat → Nat} (h : ∀ n, r n = s n) : ∀ n, upr r n = upr s n
  | 0 => rfl
  | n + 1 => by simp only [upr, h n]
theorem ren_ext : ∀ (t : Tm) {r s : Nat → Nat}, (∀ n, r n = s n) → ren r t = ren s t
  | .var n, r, s, h => by simp only [ren, h n]
  | .lam t, r, s, h => by simp only [ren, ren_ext t (upr_ext h)]
  | .app a b, r, s, h => by simp only [ren, ren_ext a h, ren_ext b h]
theorem ups_ext {σ τ : Nat → Tm} (h : ∀ n, σ n = τ n) : ∀ n, ups σ n = ups τ n
  | 0 => rfl
  | n + 1 => by simp only [ups, h n]
theorem sb_ext : ∀ (t : Tm) {σ τ : Nat → Tm}, (∀ n, σ n = τ n) → sb σ t = sb τ t
  | .var n, σ, τ, h => h n
  | .lam t, σ, τ, h => by simp only [sb, sb_ext t (ups_ext h)]
  | .app a b, σ, τ, h => by simp only [sb, sb_ext a h, sb_ext b h]
theorem ren_ren : ∀ (t : Tm) (r s : Nat → Nat), ren r (ren s t) = ren (fun n => r (s n)) t
  | .var n, r, s => rfl
  | .lam t, r, s => by
    simp only [ren, ren_ren t]
    rw [ren_ext t (s := upr fun n => r (s n)) (fun n => by cases n <;> rfl)]
  | .app a b, r, s => by simp only [ren, ren_ren a, ren_ren b]
theorem sb_ren : ∀ (t : Tm) (σ : Nat → Tm) (r : Nat → Nat), sb σ (ren r t) = sb (fun n => σ (r n)) t
  | .var n, σ, r => rfl
  | .lam t, σ, r => by
    simp only [ren, sb, sb_ren t]
    rw [sb_ext t (τ := ups fun n => σ (r n)) (fun n => by cases n <;> rfl)]
  | .app a b, σ, r => by simp only [ren, sb, sb_ren a, sb_ren b]
theorem ren_sb : ∀ (t : Tm) (r : Nat → Nat) (σ : Nat → Tm), ren r (sb σ t) = sb (fun n => ren r (σ n)) t
  | .var n, r, σ => rfl
  | .lam t, r, σ => by
    simp only [ren, sb, ren_sb t]
    rw [sb_ext t (τ := ups fun n => ren r (σ n)) (fun n => by
      cases n with
      | zero => rfl
      | succ n => simp only [ups, ren_ren]; exact ren_ext _ fun _ => rfl)]
  | .app a b, r, σ => by simp only [ren, sb, ren_sb a, ren_sb b]
theorem sb_sb : ∀ (t : Tm) (σ τ : Nat → Tm), sb σ (sb τ t) = sb (fun n => sb σ (τ n)) t
  | .var n, σ, τ => rfl
  | .lam t, σ, τ => by
    simp only [sb, sb_sb t]
    rw [sb_ext t (τ := ups fun n => sb σ (τ n)) (fun n => by
      cases n with
      | zero => rfl
      | succ n => simp only [ups, sb_ren, ren_sb])]
  | .app a b, σ, τ => by simp only [sb, sb_sb a, sb_sb b]
theorem sb_id : ∀ (t : Tm) {σ : Nat → Tm}, (∀ n, σ n = .var n) → sb σ t = t
  | .var n, σ, h => h n
  | .lam t, σ, h => by
    simp only [sb]
    rw [sb_id t (fun n => by cases n with | zero => rfl | succ n => simp only [ups, h n]; rfl)]
  | .app a b, σ, h => by simp only [sb, sb_id a h, sb_id b h]
theorem ren_as_sb : ∀ (t : Tm) (r : Nat → Nat), ren r t = sb (fun n => .var (r n)) t
  | .var n, r => rfl
  | .lam t, r => by
    simp only [ren, sb, ren_as_sb t]
    rw [sb_ext t (τ := ups fun n => .var (r n)) (fun n => by cases n <;> rfl)]
  | .app a b, r => by simp only [ren, sb, ren_as_sb a, ren_as_sb b]
end Tm
end Go.Den
namespace Go.Den
open Tm
set_option linter.unusedVariables false
def Pt.tm : Pt → Tm
  | .var n => .var n.toNat
  | .lam _ t => .lam t.tm
  | .app _ a b => .app a.tm b.tm
/-- No index is below 0. -/
def Pt.nn : Pt → Prop
  | .var n => 0 ≤ n
  | .lam _ t => t.nn
  | .app _ a b => a.nn ∧ b.nn
theorem nums_nn' : ∀ (t : Pt), t.nums = true → t.nn
  | .var n, h => by
    have h' : 0 ≤ n ∧ n ≤ 99 := by simpa [Pt.nums] using h
    exact h'.1
  | .lam n t, h => by
    have h' : n = 0 ∧ t.nums = true := by simpa [Pt.nums] using h
    exact nums_nn' t h'.2
  | .app n x y, h => by
    have h' : n = 0 ∧ x.nums = true ∧ y.nums = true := by simpa [Pt.nums] using h
    exact ⟨nums_nn' x h'.2.1, nums_nn' y h'.2.2⟩
theorem nums_nn {t : Pt} (h : t.nums = true) : t.nn := nums_nn' t h
theorem tm_inj : ∀ {t s : Pt}, t.nums = true → s.nums = true → t.tm = s.tm → t = s
  | .var n, .var m, h1, h2, h => by
    have a : 0 ≤ n ∧ n ≤ 99 := by simpa [Pt.nums] using h1
    have b : 0 ≤ m ∧ m ≤ 99 := by simpa [Pt.nums] using h2
    simp only [Pt.tm, Tm.var.injEq] at h
    have : n = m := by omega
    rw [this]
  | .lam n t, .lam m s, h1, h2, h => by
    have a : n = 0 ∧ t.nums = true := by simpa [Pt.nums] using h1
    have b : m = 0 ∧ s.nums = true := by simpa [Pt.nums] using h2
    simp only [Pt.tm, Tm.lam.injEq] at h
    rw [a.1, b.1, tm_inj a.2 b.2 h]
  | .app n x y, .app m z w, h1, h2, h => by
    have a : n = 0 ∧ x.nums = true ∧ y.nums = true := by simpa [Pt.nums] using h1
    have b : m = 0 ∧ z.nums = true ∧ w.nums = true := by simpa [Pt.nums] using h2
    simp only [Pt.tm, Tm.app.injEq] at h
    rw [a.1, b.1, tm_inj a.2.1 b.2.1 h.1, tm_inj a.2.2 b.2.2 h.2]
  | .var _, .lam _ _, _, _, h => by cases h
  | .var _, .app _ _ _, _, _, h => by cases h
  | .lam _ _, .var _, _, _, h => by cases h
  | .lam _ _, .app _ _ _, _, _, h => by cases h
  | .app _ _ _, .var _, _, _, h => by cases h
  | .app _ _ _, .lam _ _, _, _, h => by cases h
/-- Moved up from f on. -/
def mv (b f : Nat) : Nat → Nat := fun i => if f ≤ i then i + b else i
theorem mv_up (b f : Nat) : ∀ i, upr (mv b f) i = mv b (f + 1) i
  | 0 => by simp [upr, mv]
  | i + 1 => by
    simp only [upr, mv]
    by_cases h : f ≤ i
    · rw [if_pos h, if_pos (by omega)]; omega
    · rw [if_neg h, if_neg (by omega)]
theorem tm_sh (b : Nat) : ∀ (t : Pt) (f : Nat), t.nn → (sh (b : Int) (f : Int) t).tm = ren (mv b f) t.tm ∧ (sh (b : Int) (f : Int) t).nn
  | .var n, f, h => by
    have h : 0 ≤ n := h
    simp only [sh]
    by_cases hf : (f : Int) ≤ n
    · rw [if_pos hf]
      refine ⟨?_, ?_⟩
      · simp only [Pt.tm, ren, mv]
        rw [if_pos (by omega)]
        congr 1
        omega
      · show 0 ≤ n + (b : Int)
        omega
    · rw [if_neg hf]
      refine ⟨?_, h⟩
      simp only [Pt.tm, ren, mv]
      rw [if_neg (by omega)]
  | .lam n t, f, h => by
    obtain ⟨h1, h2⟩ := tm_sh b t (f + 1) h
    simp only [sh, Pt.tm, ren]
    refine ⟨?_, h2⟩
    rw [show ((f : Int) + 1) = ((f + 1 : Nat) : Int) by omega, h1, ren_ext _ (mv_up b f)]
  | .app n x y, f, h => by
    obtain ⟨h1, h2⟩ := tm_sh b x f h.1
    obtain ⟨h3, h4⟩ := tm_sh b y f h.2
    simp only [sh, Pt.tm, ren, h1, h3]
    exact ⟨trivial, h2, h4⟩
/-- Put in for k, under u lambdas. -/
def pt (k : Nat) (s : Tm) (u : Nat) : Nat → Tm := fun i => if i = k + u then ren (mv u 0) s else if k + u < i then .var (i - 1) else .var i
theorem pt_up (k : Nat) (s : Tm) (u : Nat) : ∀ i, ups (pt k s u) i = pt k s (u + 1) i
  | 0 => by
    have h1 : ¬ 0 = k + (u + 1) := by omega
    have h2 : ¬ k + (u + 1) < 0 := by omega
    simp only [ups, pt, if_neg h1, if_neg h2]
  | i + 1 => by
    simp only [ups, pt]
    by_cases h : i = k + u
    · have h' : i + 1 = k + (u + 1) := by omega
      simp only [if_pos h, if_pos h', ren_ren]
      refine ren_ext _ fun n => ?_
      simp only [mv, Nat.zero_le, if_true]
      omega
    · have h' : ¬ i + 1 = k + (u + 1) := by omega
      simp only [if_neg h, if_neg h']
      by_cases h2 : k + u < i
      · have h3 : k + (u + 1) < i + 1 := by omega
        simp only [if_pos h2, if_pos h3, ren]
        congr 1
        omega
      · have h3 : ¬ k + (u + 1) < i + 1 := by omega
        simp only [if_neg h2, if_neg h3]
        rfl
theorem tm_sub (k : Nat) (s : Pt) (hs : s.nn) : ∀ (t : Pt) (u : Nat), t.nn → (sub (k : Int) s (u : Int) t).tm = sb (pt k s.tm u) t.tm ∧ (sub (k : Int) s (u : Int) t).nn
  | .var n, u, h => by
    have h : 0 ≤ n := h
    simp only [sub]
    by_cases h1 : n = (k : Int) + u
    · rw [if_pos h1]
      obtain ⟨a, b⟩ := tm_sh u s 0 hs
      refine ⟨?_, b⟩
      simp only [Pt.tm, sb, pt]
      rw [if_pos (by omega)]
      exact a
    · rw [if_neg h1]
      by_cases h2 : (k : Int) + u < n
      · rw [if_pos h2]
        refine ⟨?_, ?_⟩
        · simp only [Pt.tm, sb, pt]
          rw [if_neg (by omega), if_pos (by omega)]
          congr 1
          omega
        · show 0 ≤ n - 1
          omega
      · rw [if_neg h2]
        refine ⟨?_, h⟩
        simp only [Pt.tm, sb, pt]
        rw [if_neg (by omega), if_neg (by omega)]
  | .lam n t, u, h => by
    obtain ⟨h1, h2⟩ := tm_sub k s hs t (u + 1) h
    simp only [sub, Pt.tm, sb]
    refine ⟨?_, h2⟩
    rw [show ((u : Int) + 1) = ((u + 1 : Nat) : Int) by omega, h1, sb_ext _ (pt_up k s.tm u)]
  | .app n x y, u, h => by
    obtain ⟨h1, h2⟩ := tm_sub k s hs x u h.1
    obtain ⟨h3, h4⟩ := tm_sub k s hs y u h.2
    simp only [sub, Pt.tm, sb, h1, h3]
    exact ⟨trivial, h2, h4⟩
end Go.Den
namespace Go.Den
open Go
set_option linter.unusedVariables false
set_option maxRecDepth 100000
theorem ev_same (L : List Nd) (b1 b2 : Bool) (hL : L.length ≤ 1048576) : EvN 1048600 9 [.dat (.lst b1 (L.map Nd.d)), .dat (.lst b2 (L.map Nd.d))] [] [] ([.dat (B true)], [], []) := by
  refine (ev_fn Go.Proofs.Try.f9 (L.length + 5) (by kernel_rfl) (by kernel_rfl) fun kk hk => ?_).mono (by omega)
  refine same_y kk b1 b2 _ _ (by simp) ?_
  let st := fun i : Nat => h2_9 b1 b2 (L.map Nd.d) (L.map Nd.d) i
  have hlen : ((L.map Nd.d).length : Int) = L.length := by simp
  refine loopAt_range st L.length (by omega) (fun i hi m s K hs hn => ?_) (fun m s K hs hK => ?_) rfl
  · have hget : (L.map Nd.d)[((i : Nat) : Int).toNat]? = some (N3 L[i].k L[i].n L[i].u) := by
      rw [Int.toNat_natCast, List.getElem?_map, List.getElem?_eq_getElem hi]
      rfl
    refine same_go kk m b1 b2 _ _ (i : Int) _ _ _ _ _ _ hs (decide_eq_true (by omega)) ⟨⟨by omega, by omega⟩, hget⟩ ⟨⟨by omega, by omega⟩, hget⟩ (by simp) fun s' hs' => hn s' ?_
    rw [hs', w64_eq (by omega)]
    rfl
  · exact same_end kk m b1 b2 _ _ _ hs (decide_eq_false (by omega)) hK
end Go.Den
namespace Go.Den
open Go Tm
set_option linter.unusedVariables false
set_option maxRecDepth 100000
theorem ren_0 (t : Tm) : ren (mv 0 0) t = t := by rw [ren_as_sb]; exact sb_id _ fun n => by simp [mv]
/-- The substitution lemma. -/
theorem subst_lemma (t s r : Tm) : sb (pt 0 r 0) (sb (pt 0 s 0) t) = sb (pt 0 (sb (pt 0 r 0) s) 0) (sb (pt 1 (ren (mv 1 0) r) 0) t) := by
  rw [sb_sb, sb_sb]
  refine sb_ext _ fun n => ?_
  match n with
  | 0 => 
    show sb (pt 0 r 0) (ren (mv 0 0) s) = ren (mv 0 0) (sb (pt 0 r 0) s)
    rw [ren_0, ren_0]
  | 1 =>
    show ren (mv 0 0) r = sb (pt 0 (sb (pt 0 r 0) s) 0) (ren (mv 0 0) (ren (mv 1 0) r))
    rw [ren_0, ren_0, sb_ren]
    exact (sb_id _ fun n => by simp [mv, pt]).symm
  | n + 2 => 
    have h1 : pt 0 s 0 (n + 2) = .var (n + 1) := by simp [pt]
    have h2 : pt 1 (ren (mv 1 0) r) 0 (n + 2) = .var (n + 1) := by simp [pt]
    rw [h1, h2]
    simp [sb, pt]
theorem subst_cases (L : List Nd) (k : Int) (M : List Nd) (hk : 0 ≤ k ∧ k ≤ 99) : (substN L k M).2 = false ∨ ∃ t s, termOfP L = some t ∧ termOfP M = some s ∧ (sub k s 0 t).good = true ∧ substN L k M = ((sub k s 0 t).flat 0 (-1), true) := by
  unfold substN
  cases h1 : termOfP L with
  | none => exact .inl rfl
  | some t =>
    cases h2 : termOfP M with
    | none => exact .inl rfl
    | some s =>
      simp only [if_pos hk]
      cases h3 : (sub k s 0 t).good with
      | false => exact .inl rfl
      | true => exact .inr ⟨t, s, rfl, rfl, h3, by simp⟩
theorem substN_len (L : List Nd) (k : Int) (M : List Nd) : (substN L k M).1.length ≤ 150 := by
  unfold substN
  split
  · split
    · simp only
      split
      · rename_i h; rw [Pt.flat_length]; exact (good_facts h).1
      · simp
    · simp
  · simp
theorem shift_up (L : List Nd) : (shiftN L 1 0).2 = false ∨ ∃ t, termOfP L = some t ∧ (sh 1 0 t).good = true ∧ shiftN L 1 0 = ((sh 1 0 t).flat 0 (-1), true) := by
  unfold shiftN
  cases h1 : termOfP L with
  | none => exact .inl rfl
  | some t =>
    simp only
    split
    · unfold told
      cases h3 : (sh 1 0 t).good with
      | false => exact .inl (by simp)
      | true => exact .inr ⟨t, rfl, h3, by simp⟩
    · exact .inl rfl
theorem fnSubstitution_den : ∀ (d0 d1 : Dat), WT cfg.ty 22 d0 → WT cfg.ty 22 d1 → ∃ k, den cfg k 4 [.dat d0, .dat d1] [] [] = some ([.dat (.val (.bool true))], [], []) := by
  intro d0 d1 w0 w1
  obtain ⟨cs, rfl, hb⟩ := bytes_of w0
  obtain ⟨cs2, rfl, hb2⟩ := bytes_of w1
  refine ⟨1100001, ev_fn Go.Proofs.Try.f4 1100000 (by kernel_rfl) (by kernel_rfl) (fun kk hkk => ?_) 1100001 (Nat.le_refl _)⟩
  cases hbig : decide (1048576 < w64 ((cs.length : Int) + (cs2.length : Int))) with
  | true => exact fnSub_big kk cs cs2 hbig
  | false =>
  obtain ⟨L, S, v, hL, hS, hev⟩ := ev_drawS hb
  obtain ⟨L2, R, v2, hL2, hR, hev2⟩ := ev_drawS hb2
  have s1 := hev kk (by omega)
  have s2 := hev2 kk (by omega)
  have s3 := ev_iSubst L S true true 0 (by omega) (by omega) kk (by omega)
  have s4 := ev_sSubst L S true true 0 (by omega) (by omega) kk (by omega)
  have hal := substN_len L 0 S
  have s5 := ev_iSubst (substN L 0 S).1 R true true 0 (by omega) (by omega) kk (by omega)
  have hbl := substN_len (substN L 0 S).1 0 R
  have s6 := ev_iShift R true 1 0 (by omega) kk (by omega)
  have hul := shiftN_len R 1 0
  have e1 := ev_same (substN L 0 S).1 true true (by omega) kk (by omega)
  cases b1 : (substN L 0 S).2 with
  | false =>
    rw [b1] at s3 s4
    exact fnSub_1 kk cs cs2 _ _ _ _ _ _ _ [] [] [] v v2 _ _ hbig s1 s2 (own_clean _ _) s3 (own_clean _ _) s4 e1 (own_clean _ _) s5 (own_clean _ _) s6
  | true =>
  rw [b1] at s3 s4
  cases b2 : (substN (substN L 0 S).1 0 R).2 with
  | false =>
    rw [b2] at s5
    exact fnSub_2 kk cs cs2 _ _ _ _ _ _ _ [] [] [] v v2 false _ hbig s1 s2 (own_clean _ _) s3 (own_clean _ _) s4 e1 (own_clean _ _) s5 (own_clean _ _) s6
  | true =>
  rw [b2] at s5
  cases b3 : (shiftN R 1 0).2 with
  | false =>
    rw [b3] at s6
    exact fnSub_3 kk cs cs2 _ _ _ _ _ _ _ [] [] [] v v2 false false hbig s1 s2 (own_clean _ _) s3 (own_clean _ _) s4 e1 (own_clean _ _) s5 (own_clean _ _) s6
  | true =>
  rw [b3] at s6
  have s7 := ev_iSubst L (shiftN R 1 0).1 true true 1 (by omega) (by omega) kk (by omega)
  have hcl := substN_len L 1 (shiftN R 1 0).1
  have s8 := ev_iSubst S R true true 0 (by omega) (by omega) kk (by omega)
  have hdl := substN_len S 0 R
  cases b4 : (substN L 1 (shiftN R 1 0).1).2 with
  | false =>
    rw [b4] at s7
    exact fnSub_4 kk cs cs2 _ _ _ _ _ _ _ _ _ [] v v2 _ false hbig s1 s2 (own_clean _ _) s3 (own_clean _ _) s4 e1 (own_clean _ _) s5 (own_clean _ _) s6 (own_clean _ _) s7 (own_clean _ _) s8
  | true =>
  rw [b4] at s7
  cases b5 : (substN S 0 R).2 with
  | false =>
    rw [b5] at s8
    exact fnSub_5 kk cs cs2 _ _ _ _ _ _ _ _ _ [] v v2 false false hbig s1 s2 (own_clean _ _) s3 (own_clean _ _) s4 e1 (own_clean _ _) s5 (own_clean _ _) s6 (own_clean _ _) s7 (own_clean _ _) s8
  | true =>
  rw [b5] at s8
  have s9 := ev_iSubst (substN L 1 (shiftN R 1 0).1).1 (substN S 0 R).1 true true 0 (by omega) (by omega) kk (by omega)
  cases b6 : (substN (substN L 1 (shiftN R 1 0).1).1 0 (substN S 0 R).1).2 with
  | false =>
    rw [b6] at s9
    exact fnSub_6 kk cs cs2 _ _ _ _ _ _ _ _ _ _ v v2 false false hbig s1 s2 (own_clean _ _) s3 (own_clean _ _) s4 e1 (own_clean _ _) s5 (own_clean _ _) s6 (own_clean _ _) s7 (own_clean _ _) s8 (own_clean _ _) s9
  | true =>
  rw [b6] at s9
  have he : (substN (substN L 1 (shiftN R 1 0).1).1 0 (substN S 0 R).1).1 = (substN (substN L 0 S).1 0 R).1 := by
    obtain ⟨t, s, ht, hs, hg1, h1⟩ := (subst_cases L 0 S (by omega)).resolve_left (by rw [b1]; decide)
    obtain ⟨a, r, ha, hr, hg2, h2⟩ := (subst_cases (substN L 0 S).1 0 R (by omega)).resolve_left (by rw [b2]; decide)
    obtain ⟨r', hr', hg3, h3⟩ := (shift_up R).resolve_left (by rw [b3]; decide)
    obtain ⟨t', u, ht', hu, hg4, h4⟩ := (subst_cases L 1 (shiftN R 1 0).1 (by omega)).resolve_left (by rw [b4]; decide)
    obtain ⟨s', r2, hs', hr2, hg5, h5⟩ := (subst_cases S 0 R (by omega)).resolve_left (by rw [b5]; decide)
    obtain ⟨c, d, hc, hd, hg6, h6⟩ := (subst_cases (substN L 1 (shiftN R 1 0).1).1 0 (substN S 0 R).1 (by omega)).resolve_left (by rw [b6]; decide)
    rw [h6, h2]
    rw [ht] at ht'; cases ht'
    rw [hs] at hs'; cases hs'
    rw [hr] at hr'; cases hr'
    rw [hr] at hr2; cases hr2
    rw [h1] at ha
    rw [termOfP_flat hg1] at ha; cases ha
    rw [h3] at hu
    rw [termOfP_flat hg3] at hu; cases hu
    rw [h4] at hc
    rw [termOfP_flat hg4] at hc; cases hc
    rw [h5] at hd
    rw [termOfP_flat hg5] at hd; cases hd
    have nt := nums_nn (good_facts ((termOfP_iff _ _).1 ht).1).2.2
    have ns := nums_nn (good_facts ((termOfP_iff _ _).1 hs).1).2.2
    have nr := nums_nn (good_facts ((termOfP_iff _ _).1 hr).1).2.2
    obtain ⟨q1, n1⟩ := tm_sub 0 s ns t 0 nt
    obtain ⟨q2, n2⟩ := tm_sub 0 r nr (sub 0 s 0 t) 0 n1
    obtain ⟨q3, n3⟩ := tm_sh 1 r 0 nr
    obtain ⟨q4, n4⟩ := tm_sub 1 (sh 1 0 r) n3 t 0 nt
    obtain ⟨q5, n5⟩ := tm_sub 0 r nr s 0 ns
    obtain ⟨q6, n6⟩ := tm_sub 0 (sub 0 r 0 s) n5 (sub 1 (sh 1 0 r) 0 t) 0 n4
    have := tm_inj (good_facts hg6).2.2 (good_facts hg2).2.2 (by
      refine q6.trans ?_
      refine Eq.trans ?_ q2.symm
      have q1' : (sub 0 s 0 t).tm = sb (pt 0 s.tm 0) t.tm := q1
      have q3' : (sh 1 0 r).tm = ren (mv 1 0) r.tm := q3
      have q4' : (sub 1 (sh 1 0 r) 0 t).tm = sb (pt 1 (sh 1 0 r).tm 0) t.tm := q4
      have q5' : (sub 0 r 0 s).tm = sb (pt 0 r.tm 0) s.tm := q5
      show sb (pt 0 (sub 0 r 0 s).tm 0) (sub 1 (sh 1 0 r) 0 t).tm = sb (pt 0 r.tm 0) (sub 0 s 0 t).tm
      rw [q1', q4', q3', q5', subst_lemma])
    rw [this]
  rw [he] at s9
  exact fnSub_7 kk cs cs2 _ _ _ _ _ _ _ _ _ _ v v2 false false hbig s1 s2 (own_clean _ _) s3 (own_clean _ _) s4 e1 (own_clean _ _) s5 (own_clean _ _) s6 (own_clean _ _) s7 (own_clean _ _) s8 (own_clean _ _) s9 (ev_same _ true true (by omega) kk (by omega))
end Go.Den
namespace Go.Proofs.Ytjmljfpnofjkeaa.fnSubstitution
open Go.ChangeShapes Go.WideShapes Go.ChangeAt Go.RowKit Go.Den
set_option linter.unusedVariables false
theorem own : ownKnob Try.prog.godebug = none := by kernel_rfl
theorem laidOut : laidOutB Try.prog = true := by kernel_rfl
theorem body : (Try.f4.body).isSome = true := by kernel_rfl
theorem fnThere : cfg.fn 4 = some Try.f4 := by kernel_rfl
theorem plain22 : plainTy cfg.ty 8 22 = true := by kernel_rfl
set_option maxRecDepth 100000 in
theorem lifted (os : Os) (started : os.Started) (H : Type) (enc : TypeId × Value → H) :
    ReturnsInHanded {} Try.checked os 4 .any (Rows.fnSubstitutionSpec.pre6 enc Try.prog Try.f4 Rows.fnSubstitutionRow.domain false) (Rows.fnSubstitutionSpec.post enc Try.prog Try.f4 false true false false) := by
  refine returnsInHanded_of_change (C := Try.checked) own started (by kernel_rfl) Try.func4
    (ChangeSpec.witness6 (enc := enc) (C := Try.checked) false ⟨#[], #[.slice none 0 0, .slice none 0 0], []⟩ 8 (by kernel_rfl) (by kernel_rfl) (by kernel_rfl) (by kernel_rfl)) ?_
  intro W base args ds gs before hval0 hW hcnd _
  have hval : ∀ (j : Nat) t v, Try.f4.params[j]? = some t → args[j]? = some v → Value.okWide Try.prog W .any base t v := hval0
  have hW' := hW
  obtain ⟨p, q, hA0, hV, rfl, hfz, hnd⟩ := hW
  have hA : DataW.TrodAll enc Try.prog W 0 (fun _ => true) true Try.f4.params.toList args.toList ds p := hA0
  rw [Try.params4] at hA hval
  obtain ⟨v0, vs0, d0, ds0, p0, q0, hargs, rfl, rfl, h0, r0⟩ := trodAll_cons hA
  obtain ⟨v1, vs1, d1, ds1, p1, q1, rfl, rfl, rfl, h1, r1⟩ := trodAll_cons r0
  obtain ⟨rfl, rfl, rfl⟩ := trodAll_nil r1
  obtain rfl : args = #[v0, v1] := by cases args; simp_all
  obtain ⟨rfl, rfl⟩ := trodVars_none hV
  have k0 := h0
  have lt0 : ∀ x ∈ p0, x.block < W.heap.size := by obtain ⟨m, hm⟩ := k0; exact DataW.trod_lt m _ _ _ hm
  obtain ⟨e0, cv0, R0, V0, T0⟩ := arg_dat cfg_ty plain22 (hval 0 22 v0 rfl rfl) h0
  have k1 := h1
  have lt1 : ∀ x ∈ p1, x.block < W.heap.size := by obtain ⟨m, hm⟩ := k1; exact DataW.trod_lt m _ _ _ hm
  obtain ⟨e1, cv1, R1, V1, T1⟩ := arg_dat cfg_ty plain22 (hval 1 22 v1 rfl rfl) h1
  clear hA0 hval0
  have hden := fnSubstitution_den e0 e1 T0 T1
  refine (law_calls (P := Try.prog) (C := cfg) (f := 4) (fn := Try.f4) (vals := #[v0, v1]) (ds := [e0, e1]) (W := W) (b := true) den_true.out (cfg_fn fnThere) body rfl (fun j d v hj hv => ?_) hden).mono fun e W' hh => ?_
  · match j, hj, hv with
    | 0, hj, hv => cases hj; cases hv; exact ⟨cv0, R0, V0⟩
    | 1, hj, hv => cases hj; cases hv; exact ⟨cv1, R1, V1⟩
    | j + 2, hj, hv => simp at hj
  · obtain ⟨he, bel⟩ := hh
    subst he
    exact ⟨_, rfl, _, _, _, [], _, [], hW', trodAll_mk1 (shut_bool Try.underlying4 _), (trodAll_cons_mk (Below.trod laidOut (by kernel_rfl) (of_decide_eq_true (by kernel_rfl)) k0 bel lt0) (trodAll_cons_mk (Below.trod laidOut (by kernel_rfl) (of_decide_eq_true (by kernel_rfl)) k1 bel lt1) trodAll_mk0)), rfl, bel.frame _, fun h => by cases h⟩
theorem over : Rows.fnSubstitutionRow.holds Try.pinned (OpenSpec.ofChange Rows.fnSubstitutionSpec) :=
  OpenClaim.holds_of_wide 4 Try.f4 rfl rfl rfl rfl rfl rfl rfl ⟨rfl, rfl, rfl, rfl, rfl⟩ rfl rfl rfl rfl rfl (by kernel_rfl) Try.func4 (by kernel_rfl)
    (of_decide_eq_true (by kernel_rfl)) (by unfold Func.isWrapper; first | (rw [if_pos (by decide +kernel)]; kernel_rfl) | (rw [if_neg (by decide +kernel)]; exact ⟨rfl, rfl⟩))
    (fun os started H enc _ => lifted os started H enc)
theorem proved : Rows.FnSubstitutionSaid := over
end Go.Proofs.Ytjmljfpnofjkeaa.fnSubstitution
namespace Go.Proofs.Ytjmljfpnofjkeaa
/-- The row, under a short name, for the claim. -/
theorem fnSubstitution_holds : Rows.FnSubstitutionSaid := fnSubstitution.proved
end Go.Proofs.Ytjmljfpnofjkeaa
