/- Merged out of: WA WB WC WD WE WF (dmerge.py, a program of this work's). -/
import Derived.Test.YtcehfbegcapmnaaM4
import Derived.KernelRfl
import Derived.Test.YtcehfbegcapmnaaM6
set_option linter.unusedVariables false
set_option linter.unusedSimpArgs false
set_option linter.unnecessarySimpa false
/- The ways through functions, told by den (written by gen.py, a program of this session's, out of hints). -/
namespace Go.Den
open Go
set_option linter.unusedVariables false
set_option maxRecDepth 100000
theorem lcRedex_no (kk : Nat) (k n : Int) (ps : List Dat) (h1 : decide (k = 3) = false) : runFn cfg kk (den cfg kk) 94 Go.Proofs.Try.f94 [.dat (T k n ps)] [] [] = some ([D.dat (B false)], [], []) :=
  hrun_sound [(200006, .no)] (q := ([decide (k = 3) = false, false = false, false = false, false = false, false = false, false = false], [D.dat (B false)], [], [])) (by kernel_rfl) ⟨h1, rfl, rfl, rfl, rfl, rfl, trivial⟩
theorem lcRedex_app (kk : Nat) (k n k1 n1 : Int) (d1 ps : List Dat) (h1 : decide (k = 3) = true) (h4 : ((0 : Int) ≤ 0 ∧ 0 < ((T k1 n1 d1 :: ps).length : Int)) ∧ some (T k1 n1 d1) = some (T k1 n1 d1)) : runFn cfg kk (den cfg kk) 94 Go.Proofs.Try.f94 [.dat (T k n (T k1 n1 d1 :: ps))] [] [] = some ([D.dat (B (decide (k1 = 2)))], [], []) :=
  hrun_sound [(200006, .yes), (9, .at (T k1 n1 d1))] (q := ([decide (k = 3) = true, true = true, true = true, ((0 : Int) ≤ 0 ∧ 0 < ((T k1 n1 d1 :: ps).length : Int)) ∧ some (T k1 n1 d1) = some (T k1 n1 d1), true = true, true = true, true = true], [D.dat (B (decide (k1 = 2)))], [], [])) (by kernel_rfl) ⟨h1, rfl, rfl, h4, rfl, rfl, rfl, trivial⟩
theorem isRedex_no (kk : Nat) (k n : Int) (ps : List Dat) (h1 : decide (k = 3) = false) : runFn cfg kk (den cfg kk) 96 Go.Proofs.Try.f96 [.dat (T k n ps)] [] [] = some ([D.dat (B false)], [], []) :=
  hrun_sound [(200006, .no)] (q := ([decide (k = 3) = false, false = false, false = false, false = false, false = false, false = false], [D.dat (B false)], [], [])) (by kernel_rfl) ⟨h1, rfl, rfl, rfl, rfl, rfl, trivial⟩
theorem isRedex_app (kk : Nat) (k n k1 n1 : Int) (d1 ps : List Dat) (h1 : decide (k = 3) = true) (h4 : ((0 : Int) ≤ 0 ∧ 0 < ((T k1 n1 d1 :: ps).length : Int)) ∧ some (T k1 n1 d1) = some (T k1 n1 d1)) : runFn cfg kk (den cfg kk) 96 Go.Proofs.Try.f96 [.dat (T k n (T k1 n1 d1 :: ps))] [] [] = some ([D.dat (B (decide (k1 = 2)))], [], []) :=
  hrun_sound [(200006, .yes), (9, .at (T k1 n1 d1))] (q := ([decide (k = 3) = true, true = true, true = true, ((0 : Int) ≤ 0 ∧ 0 < ((T k1 n1 d1 :: ps).length : Int)) ∧ some (T k1 n1 d1) = some (T k1 n1 d1), true = true, true = true, true = true], [D.dat (B (decide (k1 = 2)))], [], [])) (by kernel_rfl) ⟨h1, rfl, rfl, h4, rfl, rfl, rfl, trivial⟩
theorem lcBeta (kk : Nat) (k n k1 n1 k2 n2 k3 n3 kr nr : Int) (d2 d3 dr r1 ps : List Dat) (h1 : ((0 : Int) ≤ 0 ∧ 0 < ((Dat.agg [I k1, I n1, Dat.lst false (T k2 n2 d2 :: r1)] :: T k3 n3 d3 :: ps).length : Int)) ∧ some (Dat.agg [I k1, I n1, Dat.lst false (T k2 n2 d2 :: r1)]) = some (Dat.agg [I k1, I n1, Dat.lst false (T k2 n2 d2 :: r1)])) (h2 : ((0 : Int) ≤ 0 ∧ 0 < ((T k2 n2 d2 :: r1).length : Int)) ∧ some (T k2 n2 d2) = some (T k2 n2 d2)) (h3 : ((0 : Int) ≤ 1 ∧ 1 < ((Dat.agg [I k1, I n1, Dat.lst false (T k2 n2 d2 :: r1)] :: T k3 n3 d3 :: ps).length : Int)) ∧ some (T k3 n3 d3) = some (T k3 n3 d3)) (h4 : den cfg kk 47 [D.dat (T k2 n2 d2), D.dat (I 0), D.dat (T k3 n3 d3), D.dat (I 0)] [] [] = some ([D.dat (T kr nr dr)], [], [])) : runFn cfg kk (den cfg kk) 95 Go.Proofs.Try.f95 [.dat (T k n (T k1 n1 (T k2 n2 d2 :: r1) :: T k3 n3 d3 :: ps))] [] [] = some ([D.dat (T kr nr dr)], [], []) :=
  hrun_sound [(5, .at (T k1 n1 (T k2 n2 d2 :: r1))), (8, .at (T k2 n2 d2)), (12, .at (T k3 n3 d3)), (14, .ret [.dat (T kr nr dr)])] (q := ([((0 : Int) ≤ 0 ∧ 0 < ((Dat.agg [I k1, I n1, Dat.lst false (T k2 n2 d2 :: r1)] :: T k3 n3 d3 :: ps).length : Int)) ∧ some (Dat.agg [I k1, I n1, Dat.lst false (T k2 n2 d2 :: r1)]) = some (Dat.agg [I k1, I n1, Dat.lst false (T k2 n2 d2 :: r1)]), ((0 : Int) ≤ 0 ∧ 0 < ((T k2 n2 d2 :: r1).length : Int)) ∧ some (T k2 n2 d2) = some (T k2 n2 d2), ((0 : Int) ≤ 1 ∧ 1 < ((Dat.agg [I k1, I n1, Dat.lst false (T k2 n2 d2 :: r1)] :: T k3 n3 d3 :: ps).length : Int)) ∧ some (T k3 n3 d3) = some (T k3 n3 d3), den cfg kk 47 [D.dat (T k2 n2 d2), D.dat (I 0), D.dat (T k3 n3 d3), D.dat (I 0)] [] [] = some ([D.dat (T kr nr dr)], [], [])], [D.dat (T kr nr dr)], [], [])) (by kernel_rfl) ⟨h1, h2, h3, h4, trivial⟩
theorem reduced (kk : Nat) (k n k1 n1 k2 n2 k3 n3 kr nr : Int) (d2 d3 dr r1 ps : List Dat) (h1 : ((0 : Int) ≤ 0 ∧ 0 < ((Dat.agg [I k1, I n1, Dat.lst false (T k2 n2 d2 :: r1)] :: T k3 n3 d3 :: ps).length : Int)) ∧ some (Dat.agg [I k1, I n1, Dat.lst false (T k2 n2 d2 :: r1)]) = some (Dat.agg [I k1, I n1, Dat.lst false (T k2 n2 d2 :: r1)])) (h2 : ((0 : Int) ≤ 0 ∧ 0 < ((T k2 n2 d2 :: r1).length : Int)) ∧ some (T k2 n2 d2) = some (T k2 n2 d2)) (h3 : ((0 : Int) ≤ 1 ∧ 1 < ((Dat.agg [I k1, I n1, Dat.lst false (T k2 n2 d2 :: r1)] :: T k3 n3 d3 :: ps).length : Int)) ∧ some (T k3 n3 d3) = some (T k3 n3 d3)) (h4 : den cfg kk 51 [D.dat (T k2 n2 d2), D.dat (I 0), D.dat (T k3 n3 d3)] [] [] = some ([D.dat (T kr nr dr)], [], [])) : runFn cfg kk (den cfg kk) 100 Go.Proofs.Try.f100 [.dat (T k n (T k1 n1 (T k2 n2 d2 :: r1) :: T k3 n3 d3 :: ps))] [] [] = some ([D.dat (T kr nr dr)], [], []) :=
  hrun_sound [(5, .at (T k1 n1 (T k2 n2 d2 :: r1))), (8, .at (T k2 n2 d2)), (12, .at (T k3 n3 d3)), (14, .ret [.dat (T kr nr dr)])] (q := ([((0 : Int) ≤ 0 ∧ 0 < ((Dat.agg [I k1, I n1, Dat.lst false (T k2 n2 d2 :: r1)] :: T k3 n3 d3 :: ps).length : Int)) ∧ some (Dat.agg [I k1, I n1, Dat.lst false (T k2 n2 d2 :: r1)]) = some (Dat.agg [I k1, I n1, Dat.lst false (T k2 n2 d2 :: r1)]), ((0 : Int) ≤ 0 ∧ 0 < ((T k2 n2 d2 :: r1).length : Int)) ∧ some (T k2 n2 d2) = some (T k2 n2 d2), ((0 : Int) ≤ 1 ∧ 1 < ((Dat.agg [I k1, I n1, Dat.lst false (T k2 n2 d2 :: r1)] :: T k3 n3 d3 :: ps).length : Int)) ∧ some (T k3 n3 d3) = some (T k3 n3 d3), den cfg kk 51 [D.dat (T k2 n2 d2), D.dat (I 0), D.dat (T k3 n3 d3)] [] [] = some ([D.dat (T kr nr dr)], [], [])], [D.dat (T kr nr dr)], [], [])) (by kernel_rfl) ⟨h1, h2, h3, h4, trivial⟩
theorem lcFine (kk : Nat) (k n : Int) (ps out : List Dat) (r : Bool) (h1 : den cfg kk 46 [D.dat (T k n ps)] [] [] = some ([D.own 50 out, D.dat (B r)], [], [])) : runFn cfg kk (den cfg kk) 84 Go.Proofs.Try.f84 [.dat (T k n ps)] [] [] = some ([D.dat (B r)], [], []) :=
  hrun_sound [(7, .ret [.own 50 out, .dat (B r)])] (q := ([den cfg kk 46 [D.dat (T k n ps)] [] [] = some ([D.own 50 out, D.dat (B r)], [], [])], [D.dat (B r)], [], [])) (by kernel_rfl) ⟨h1, trivial⟩
def hd54 (k n : Int) (ps out : List Dat) (i : Int) : St := Nm [1, 2, 4, 15, 16, 17] [.ptr (.loc 1) 0, .ptr (.loc 2) 0, .ptr (.loc 4) 0, .dat (.lst false ps), .dat (I ps.length), .dat (I i)] [some [.dat (I k), .dat (I n), .dat (.lst false ps)], some [.dat (I 0), .dat (I 0), .own 46 []], some [.dat (I k), .dat (I n), .own 46 out], none, none, none] [] []
theorem lcDevelop_go (kk m : Nat) {s : St} {K : X → St → Prop} (k n : Int) (ps out : List Dat) (i : Int) (kx nx ky ny : Int) (dx dy : List Dat) (hs : s.norm ((envOf cfg kk 54 Go.Proofs.Try.f54).live (firstRegion (lp Go.Proofs.Try.f54 3))) = hd54 k n ps out i) (h1 : decide (i < (ps.length : Int)) = true) (h2 : (0 ≤ i ∧ i < (ps.length : Int)) ∧ ps[i.toNat]? = some (T kx nx dx)) (h3 : den cfg kk 54 [D.dat (T kx nx dx)] [] [] = some ([D.dat (T ky ny dy), D.dat (B true)], [], [])) (h4 : out.length + 1 ≤ 2147483648) (hn : ∀ s : St, s.norm ((envOf cfg kk 54 Go.Proofs.Try.f54).live (firstRegion (lp Go.Proofs.Try.f54 3))) = Nm [1, 2, 4, 15, 16, 17] [D.ptr (Ref.loc 1) 0, D.ptr (Ref.loc 2) 0, D.ptr (Ref.loc 4) 0, D.dat (Dat.lst false ps), D.dat (I (ps.length : Int)), D.dat (I (w64 (i + 1)))] [some [D.dat (I k), D.dat (I n), D.dat (Dat.lst false ps)], some [D.dat (I 0), D.dat (I 0), D.own 46 []], some [D.dat (I k), D.dat (I n), D.own 46 (out ++ [T ky ny dy])], none, none, none] [] [] → Rounds (envOf cfg kk 54 Go.Proofs.Try.f54) kk (lp Go.Proofs.Try.f54 3) m s K) : Rounds (envOf cfg kk 54 Go.Proofs.Try.f54) kk (lp Go.Proofs.Try.f54 3) (m + 1) s K :=
  rounds_go [(200018, .yes), (19, .at (T kx nx dx)), (23, .ret [.dat (T ky ny dy), .dat (B true)]), (33, .ok)] hs (ps := [decide (i < (ps.length : Int)) = true, (0 ≤ i ∧ i < (ps.length : Int)) ∧ ps[i.toNat]? = some (T kx nx dx), den cfg kk 54 [D.dat (T kx nx dx)] [] [] = some ([D.dat (T ky ny dy), D.dat (B true)], [], []), true = true ∧ out.length + 1 ≤ 2147483648]) (by kernel_rfl) ⟨h1, h2, h3, ⟨rfl, h4⟩, trivial⟩ (by kernel_rfl) hn
theorem lcDevelop_bad (kk m : Nat) {s : St} {K : X → St → Prop} (k n : Int) (ps out : List Dat) (i : Int) (kx nx ky ny : Int) (dx dy : List Dat) (hs : s.norm ((envOf cfg kk 54 Go.Proofs.Try.f54).live (firstRegion (lp Go.Proofs.Try.f54 3))) = hd54 k n ps out i) (h1 : decide (i < (ps.length : Int)) = true) (h2 : (0 ≤ i ∧ i < (ps.length : Int)) ∧ ps[i.toNat]? = some (T kx nx dx)) (h3 : den cfg kk 54 [D.dat (T kx nx dx)] [] [] = some ([D.dat (T ky ny dy), D.dat (B false)], [], [])) (hK : K (X.ret) (Nm [1, 2, 3, 4] [D.ptr (Ref.loc 1) 0, D.ptr (Ref.loc 2) 0, D.dat (B false), D.ptr (Ref.loc 4) 0] [some [D.dat (I k), D.dat (I n), D.dat (Dat.lst false ps)], some [D.dat (I k), D.dat (I n), D.dat (Dat.lst false ps)], none, some [D.dat (I k), D.dat (I n), D.own 46 out]] [] [])) : Rounds (envOf cfg kk 54 Go.Proofs.Try.f54) kk (lp Go.Proofs.Try.f54 3) (m + 1) s K :=
  rounds_end [(200018, .yes), (19, .at (T kx nx dx)), (23, .ret [.dat (T ky ny dy), .dat (B false)])] hs (ps := [decide (i < (ps.length : Int)) = true, (0 ≤ i ∧ i < (ps.length : Int)) ∧ ps[i.toNat]? = some (T kx nx dx), den cfg kk 54 [D.dat (T kx nx dx)] [] [] = some ([D.dat (T ky ny dy), D.dat (B false)], [], [])]) (x := X.ret) (by kernel_rfl) rfl ⟨h1, h2, h3, trivial⟩ (by kernel_rfl) hK
theorem lcDevelop_end (kk m : Nat) {s : St} {K : X → St → Prop} (k n : Int) (ps out : List Dat) (i : Int) (hs : s.norm ((envOf cfg kk 54 Go.Proofs.Try.f54).live (firstRegion (lp Go.Proofs.Try.f54 3))) = hd54 k n ps out i) (h1 : decide (i < (ps.length : Int)) = false) (hK : K (X.exit 0) (Nm [1, 2, 3, 4] [D.ptr (Ref.loc 1) 0, D.ptr (Ref.loc 2) 0, D.junk, D.ptr (Ref.loc 4) 0] [some [D.dat (I k), D.dat (I n), D.dat (Dat.lst false ps)], some [D.dat (I 0), D.dat (I 0), D.own 46 []], none, some [D.dat (I k), D.dat (I n), D.own 46 out]] [] [])) : Rounds (envOf cfg kk 54 Go.Proofs.Try.f54) kk (lp Go.Proofs.Try.f54 3) (m + 1) s K :=
  rounds_end [(200018, .no)] hs (ps := [decide (i < (ps.length : Int)) = false]) (x := X.exit 0) (by kernel_rfl) rfl ⟨h1, trivial⟩ (by kernel_rfl) hK
theorem lcDevelop_redex (kk : Nat) (k n kr nr : Int) (ps out dr : List Dat) (g : Bool) (h2 : LoopAt cfg kk 54 Go.Proofs.Try.f54 3 (hd54 k n ps [] 0) (X.exit 0) (Nm [1, 2, 3, 4] [D.ptr (Ref.loc 1) 0, D.ptr (Ref.loc 2) 0, D.junk, D.ptr (Ref.loc 4) 0] [some [D.dat (I k), D.dat (I n), D.dat (Dat.lst false ps)], some [D.dat (I 0), D.dat (I 0), D.own 46 []], none, some [D.dat (I k), D.dat (I n), D.own 46 out]] [] [])) (h3 : den cfg kk 94 [D.dat (T k n ps)] [] [] = some ([D.dat (B true)], [], [])) (h4 : D.cleans [D.dat (T kr nr dr)] = true) (h5 : den cfg kk 95 [D.dat (Dat.agg [I k, I n, Dat.lst true out])] [] [] = some ([D.dat (T kr nr dr)], [], [])) (h6 : den cfg kk 84 [D.dat (T kr nr dr)] [] [] = some ([D.dat (B g)], [], [])) : runFn cfg kk (den cfg kk) 54 Go.Proofs.Try.f54 [.dat (T k n ps)] [] [] = some ([D.dat (T kr nr dr), D.dat (B g)], [], []) :=
  hrun_sound [(300003, .loop (hd54 k n ps [] 0) (.exit 0) (Nm [1, 2, 3, 4] [.ptr (.loc 1) 0, .ptr (.loc 2) 0, .junk, .ptr (.loc 4) 0] [some [.dat (I k), .dat (I n), .dat (.lst false ps)], some [.dat (I 0), .dat (I 0), .own 46 []], none, some [.dat (I k), .dat (I n), .own 46 out]] [] [])), (37, .ret [.dat (B true)]), (39, .ret [.dat (T kr nr dr)]), (42, .ret [.dat (B g)])] (q := ([Nm [1, 2, 4, 15, 16, 17] [D.ptr (Ref.loc 1) 0, D.ptr (Ref.loc 2) 0, D.ptr (Ref.loc 4) 0, D.dat (Dat.lst false ps), D.dat (I (ps.length : Int)), D.dat (I 0)] [some [D.dat (I k), D.dat (I n), D.dat (Dat.lst false ps)], some [D.dat (I 0), D.dat (I 0), D.own 46 []], some [D.dat (I k), D.dat (I n), D.own 46 []], none, none, none] [] [] = hd54 k n ps [] 0, LoopAt cfg kk 54 Go.Proofs.Try.f54 3 (hd54 k n ps [] 0) (X.exit 0) (Nm [1, 2, 3, 4] [D.ptr (Ref.loc 1) 0, D.ptr (Ref.loc 2) 0, D.junk, D.ptr (Ref.loc 4) 0] [some [D.dat (I k), D.dat (I n), D.dat (Dat.lst false ps)], some [D.dat (I 0), D.dat (I 0), D.own 46 []], none, some [D.dat (I k), D.dat (I n), D.own 46 out]] [] []), den cfg kk 94 [D.dat (T k n ps)] [] [] = some ([D.dat (B true)], [], []), D.cleans [D.dat (T kr nr dr)] = true, den cfg kk 95 [D.dat (Dat.agg [I k, I n, Dat.lst true out])] [] [] = some ([D.dat (T kr nr dr)], [], []), den cfg kk 84 [D.dat (T kr nr dr)] [] [] = some ([D.dat (B g)], [], [])], [D.dat (T kr nr dr), D.dat (B g)], [], [])) (by kernel_rfl) ⟨rfl, h2, h3, h4, h5, h6, trivial⟩
theorem lcDevelop_no (kk : Nat) (k n : Int) (ps out : List Dat) (g : Bool) (h2 : LoopAt cfg kk 54 Go.Proofs.Try.f54 3 (hd54 k n ps [] 0) (X.exit 0) (Nm [1, 2, 3, 4] [D.ptr (Ref.loc 1) 0, D.ptr (Ref.loc 2) 0, D.junk, D.ptr (Ref.loc 4) 0] [some [D.dat (I k), D.dat (I n), D.dat (Dat.lst false ps)], some [D.dat (I 0), D.dat (I 0), D.own 46 []], none, some [D.dat (I k), D.dat (I n), D.own 46 out]] [] [])) (h3 : den cfg kk 94 [D.dat (T k n ps)] [] [] = some ([D.dat (B false)], [], [])) (h5 : den cfg kk 84 [D.dat (Dat.agg [I k, I n, Dat.lst true out])] [] [] = some ([D.dat (B g)], [], [])) : runFn cfg kk (den cfg kk) 54 Go.Proofs.Try.f54 [.dat (T k n ps)] [] [] = some ([D.dat (T k n out), D.dat (B g)], [], []) :=
  hrun_sound [(300003, .loop (hd54 k n ps [] 0) (.exit 0) (Nm [1, 2, 3, 4] [.ptr (.loc 1) 0, .ptr (.loc 2) 0, .junk, .ptr (.loc 4) 0] [some [.dat (I k), .dat (I n), .dat (.lst false ps)], some [.dat (I 0), .dat (I 0), .own 46 []], none, some [.dat (I k), .dat (I n), .own 46 out]] [] [])), (37, .ret [.dat (B false)]), (42, .ret [.dat (B g)])] (q := ([Nm [1, 2, 4, 15, 16, 17] [D.ptr (Ref.loc 1) 0, D.ptr (Ref.loc 2) 0, D.ptr (Ref.loc 4) 0, D.dat (Dat.lst false ps), D.dat (I (ps.length : Int)), D.dat (I 0)] [some [D.dat (I k), D.dat (I n), D.dat (Dat.lst false ps)], some [D.dat (I 0), D.dat (I 0), D.own 46 []], some [D.dat (I k), D.dat (I n), D.own 46 []], none, none, none] [] [] = hd54 k n ps [] 0, LoopAt cfg kk 54 Go.Proofs.Try.f54 3 (hd54 k n ps [] 0) (X.exit 0) (Nm [1, 2, 3, 4] [D.ptr (Ref.loc 1) 0, D.ptr (Ref.loc 2) 0, D.junk, D.ptr (Ref.loc 4) 0] [some [D.dat (I k), D.dat (I n), D.dat (Dat.lst false ps)], some [D.dat (I 0), D.dat (I 0), D.own 46 []], none, some [D.dat (I k), D.dat (I n), D.own 46 out]] [] []), den cfg kk 94 [D.dat (T k n ps)] [] [] = some ([D.dat (B false)], [], []), true = true, den cfg kk 84 [D.dat (Dat.agg [I k, I n, Dat.lst true out])] [] [] = some ([D.dat (B g)], [], [])], [D.dat (T k n out), D.dat (B g)], [], [])) (by kernel_rfl) ⟨rfl, h2, h3, rfl, h5, trivial⟩
theorem lcDevelop_ret (kk : Nat) (k n : Int) (ps out : List Dat) (h2 : LoopAt cfg kk 54 Go.Proofs.Try.f54 3 (hd54 k n ps [] 0) X.ret (Nm [1, 2, 3, 4] [D.ptr (Ref.loc 1) 0, D.ptr (Ref.loc 2) 0, D.dat (B false), D.ptr (Ref.loc 4) 0] [some [D.dat (I k), D.dat (I n), D.dat (Dat.lst false ps)], some [D.dat (I k), D.dat (I n), D.dat (Dat.lst false ps)], none, some [D.dat (I k), D.dat (I n), D.own 46 out]] [] [])) : runFn cfg kk (den cfg kk) 54 Go.Proofs.Try.f54 [.dat (T k n ps)] [] [] = some ([D.dat (T k n ps), D.dat (B false)], [], []) :=
  hrun_sound [(300003, .loop (hd54 k n ps [] 0) .ret (Nm [1, 2, 3, 4] [.ptr (.loc 1) 0, .ptr (.loc 2) 0, .dat (B false), .ptr (.loc 4) 0] [some [.dat (I k), .dat (I n), .dat (.lst false ps)], some [.dat (I k), .dat (I n), .dat (.lst false ps)], none, some [.dat (I k), .dat (I n), .own 46 out]] [] []))] (q := ([Nm [1, 2, 4, 15, 16, 17] [D.ptr (Ref.loc 1) 0, D.ptr (Ref.loc 2) 0, D.ptr (Ref.loc 4) 0, D.dat (Dat.lst false ps), D.dat (I (ps.length : Int)), D.dat (I 0)] [some [D.dat (I k), D.dat (I n), D.dat (Dat.lst false ps)], some [D.dat (I 0), D.dat (I 0), D.own 46 []], some [D.dat (I k), D.dat (I n), D.own 46 []], none, none, none] [] [] = hd54 k n ps [] 0, LoopAt cfg kk 54 Go.Proofs.Try.f54 3 (hd54 k n ps [] 0) X.ret (Nm [1, 2, 3, 4] [D.ptr (Ref.loc 1) 0, D.ptr (Ref.loc 2) 0, D.dat (B false), D.ptr (Ref.loc 4) 0] [some [D.dat (I k), D.dat (I n), D.dat (Dat.lst false ps)], some [D.dat (I k), D.dat (I n), D.dat (Dat.lst false ps)], none, some [D.dat (I k), D.dat (I n), D.own 46 out]] [] [])], [D.dat (T k n ps), D.dat (B false)], [], [])) (by kernel_rfl) ⟨rfl, h2, trivial⟩
def hd55 (k n : Int) (ps out : List Dat) (i : Int) : St := Nm [2, 9, 60, 61, 62] [.ptr (.loc 2) 0, .ptr (.loc 9) 0, .dat (.lst false ps), .dat (I ps.length), .dat (I i)] [some [.dat (I 0), .dat (I 0), .own 55 []], some [.dat (I k), .dat (I n), .own 55 out], none, none, none] [] []
theorem develop_go (kk m : Nat) {s : St} {K : X → St → Prop} (k n : Int) (ps out : List Dat) (i : Int) (kx nx ky ny : Int) (dx dy : List Dat) (hs : s.norm ((envOf cfg kk 55 Go.Proofs.Try.f55).live (firstRegion (lp Go.Proofs.Try.f55 10))) = hd55 k n ps out i) (h1 : decide (i < (ps.length : Int)) = true) (h2 : (0 ≤ i ∧ i < (ps.length : Int)) ∧ ps[i.toNat]? = some (T kx nx dx)) (h3 : den cfg kk 55 [D.dat (T kx nx dx)] [] [] = some ([D.dat (T ky ny dy), D.dat (B true)], [], [])) (h4 : out.length + 1 ≤ 2147483648) (hn : ∀ s : St, s.norm ((envOf cfg kk 55 Go.Proofs.Try.f55).live (firstRegion (lp Go.Proofs.Try.f55 10))) = Nm [2, 9, 60, 61, 62] [D.ptr (Ref.loc 2) 0, D.ptr (Ref.loc 9) 0, D.dat (Dat.lst false ps), D.dat (I (ps.length : Int)), D.dat (I (w64 (i + 1)))] [some [D.dat (I 0), D.dat (I 0), D.own 55 []], some [D.dat (I k), D.dat (I n), D.own 55 (out ++ [T ky ny dy])], none, none, none] [] [] → Rounds (envOf cfg kk 55 Go.Proofs.Try.f55) kk (lp Go.Proofs.Try.f55 10) m s K) : Rounds (envOf cfg kk 55 Go.Proofs.Try.f55) kk (lp Go.Proofs.Try.f55 10) (m + 1) s K :=
  rounds_go [(200063, .yes), (64, .at (T kx nx dx)), (68, .ret [.dat (T ky ny dy), .dat (B true)]), (78, .ok)] hs (ps := [decide (i < (ps.length : Int)) = true, (0 ≤ i ∧ i < (ps.length : Int)) ∧ ps[i.toNat]? = some (T kx nx dx), den cfg kk 55 [D.dat (T kx nx dx)] [] [] = some ([D.dat (T ky ny dy), D.dat (B true)], [], []), true = true ∧ out.length + 1 ≤ 2147483648]) (by kernel_rfl) ⟨h1, h2, h3, ⟨rfl, h4⟩, trivial⟩ (by kernel_rfl) hn
theorem develop_bad (kk m : Nat) {s : St} {K : X → St → Prop} (k n : Int) (ps out : List Dat) (i : Int) (kx nx ky ny : Int) (dx dy : List Dat) (hs : s.norm ((envOf cfg kk 55 Go.Proofs.Try.f55).live (firstRegion (lp Go.Proofs.Try.f55 10))) = hd55 k n ps out i) (h1 : decide (i < (ps.length : Int)) = true) (h2 : (0 ≤ i ∧ i < (ps.length : Int)) ∧ ps[i.toNat]? = some (T kx nx dx)) (h3 : den cfg kk 55 [D.dat (T kx nx dx)] [] [] = some ([D.dat (T ky ny dy), D.dat (B false)], [], [])) (hK : K (X.ret) (Nm [2, 3, 9] [D.ptr (Ref.loc 2) 0, D.dat (B false), D.ptr (Ref.loc 9) 0] [some [D.dat (I 0), D.dat (I 0), D.own 55 []], none, some [D.dat (I k), D.dat (I n), D.own 55 out]] [] [])) : Rounds (envOf cfg kk 55 Go.Proofs.Try.f55) kk (lp Go.Proofs.Try.f55 10) (m + 1) s K :=
  rounds_end [(200063, .yes), (64, .at (T kx nx dx)), (68, .ret [.dat (T ky ny dy), .dat (B false)])] hs (ps := [decide (i < (ps.length : Int)) = true, (0 ≤ i ∧ i < (ps.length : Int)) ∧ ps[i.toNat]? = some (T kx nx dx), den cfg kk 55 [D.dat (T kx nx dx)] [] [] = some ([D.dat (T ky ny dy), D.dat (B false)], [], [])]) (x := X.ret) (by kernel_rfl) rfl ⟨h1, h2, h3, trivial⟩ (by kernel_rfl) hK
theorem develop_end (kk m : Nat) {s : St} {K : X → St → Prop} (k n : Int) (ps out : List Dat) (i : Int) (hs : s.norm ((envOf cfg kk 55 Go.Proofs.Try.f55).live (firstRegion (lp Go.Proofs.Try.f55 10))) = hd55 k n ps out i) (h1 : decide (i < (ps.length : Int)) = false) (hK : K (X.exit 0) (Nm [2, 3, 9] [D.ptr (Ref.loc 2) 0, D.junk, D.ptr (Ref.loc 9) 0] [some [D.dat (I 0), D.dat (I 0), D.own 55 []], none, some [D.dat (I k), D.dat (I n), D.own 55 out]] [] [])) : Rounds (envOf cfg kk 55 Go.Proofs.Try.f55) kk (lp Go.Proofs.Try.f55 10) (m + 1) s K :=
  rounds_end [(200063, .no)] hs (ps := [decide (i < (ps.length : Int)) = false]) (x := X.exit 0) (by kernel_rfl) rfl ⟨h1, trivial⟩ (by kernel_rfl) hK
theorem develop_no (kk : Nat) (k n : Int) (ps out : List Dat) (g : Bool) (h1 : den cfg kk 96 [D.dat (T k n ps)] [] [] = some ([D.dat (B false)], [], [])) (h3 : LoopAt cfg kk 55 Go.Proofs.Try.f55 10 (hd55 k n ps [] 0) (X.exit 0) (Nm [2, 3, 9] [D.ptr (Ref.loc 2) 0, D.junk, D.ptr (Ref.loc 9) 0] [some [D.dat (I 0), D.dat (I 0), D.own 55 []], none, some [D.dat (I k), D.dat (I n), D.own 55 out]] [] [])) (h5 : den cfg kk 91 [D.dat (Dat.agg [I k, I n, Dat.lst true out])] [] [] = some ([D.dat (B g)], [], [])) : runFn cfg kk (den cfg kk) 55 Go.Proofs.Try.f55 [.dat (T k n ps)] [] [] = some ([D.dat (T k n out), D.dat (B g)], [], []) :=
  hrun_sound [(15, .ret [.dat (B false)]), (300010, .loop (hd55 k n ps [] 0) (.exit 0) (Nm [2, 3, 9] [.ptr (.loc 2) 0, .junk, .ptr (.loc 9) 0] [some [.dat (I 0), .dat (I 0), .own 55 []], none, some [.dat (I k), .dat (I n), .own 55 out]] [] [])), (83, .ret [.dat (B g)])] (q := ([den cfg kk 96 [D.dat (T k n ps)] [] [] = some ([D.dat (B false)], [], []), Nm [2, 9, 60, 61, 62] [D.ptr (Ref.loc 2) 0, D.ptr (Ref.loc 9) 0, D.dat (Dat.lst false ps), D.dat (I (ps.length : Int)), D.dat (I 0)] [some [D.dat (I 0), D.dat (I 0), D.own 55 []], some [D.dat (I k), D.dat (I n), D.own 55 []], none, none, none] [] [] = hd55 k n ps [] 0, LoopAt cfg kk 55 Go.Proofs.Try.f55 10 (hd55 k n ps [] 0) (X.exit 0) (Nm [2, 3, 9] [D.ptr (Ref.loc 2) 0, D.junk, D.ptr (Ref.loc 9) 0] [some [D.dat (I 0), D.dat (I 0), D.own 55 []], none, some [D.dat (I k), D.dat (I n), D.own 55 out]] [] []), true = true, den cfg kk 91 [D.dat (Dat.agg [I k, I n, Dat.lst true out])] [] [] = some ([D.dat (B g)], [], [])], [D.dat (T k n out), D.dat (B g)], [], [])) (by kernel_rfl) ⟨h1, rfl, h3, rfl, h5, trivial⟩
theorem develop_ret (kk : Nat) (k n : Int) (ps out : List Dat) (h1 : den cfg kk 96 [D.dat (T k n ps)] [] [] = some ([D.dat (B false)], [], [])) (h3 : LoopAt cfg kk 55 Go.Proofs.Try.f55 10 (hd55 k n ps [] 0) X.ret (Nm [2, 3, 9] [D.ptr (Ref.loc 2) 0, D.dat (B false), D.ptr (Ref.loc 9) 0] [some [D.dat (I 0), D.dat (I 0), D.own 55 []], none, some [D.dat (I k), D.dat (I n), D.own 55 out]] [] [])) : runFn cfg kk (den cfg kk) 55 Go.Proofs.Try.f55 [.dat (T k n ps)] [] [] = some ([D.dat (T 0 0 []), D.dat (B false)], [], []) :=
  hrun_sound [(15, .ret [.dat (B false)]), (300010, .loop (hd55 k n ps [] 0) .ret (Nm [2, 3, 9] [.ptr (.loc 2) 0, .dat (B false), .ptr (.loc 9) 0] [some [.dat (I 0), .dat (I 0), .own 55 []], none, some [.dat (I k), .dat (I n), .own 55 out]] [] []))] (q := ([den cfg kk 96 [D.dat (T k n ps)] [] [] = some ([D.dat (B false)], [], []), Nm [2, 9, 60, 61, 62] [D.ptr (Ref.loc 2) 0, D.ptr (Ref.loc 9) 0, D.dat (Dat.lst false ps), D.dat (I (ps.length : Int)), D.dat (I 0)] [some [D.dat (I 0), D.dat (I 0), D.own 55 []], some [D.dat (I k), D.dat (I n), D.own 55 []], none, none, none] [] [] = hd55 k n ps [] 0, LoopAt cfg kk 55 Go.Proofs.Try.f55 10 (hd55 k n ps [] 0) X.ret (Nm [2, 3, 9] [D.ptr (Ref.loc 2) 0, D.dat (B false), D.ptr (Ref.loc 9) 0] [some [D.dat (I 0), D.dat (I 0), D.own 55 []], none, some [D.dat (I k), D.dat (I n), D.own 55 out]] [] [])], [D.dat (T 0 0 []), D.dat (B false)], [], [])) (by kernel_rfl) ⟨h1, rfl, h3, trivial⟩
theorem develop_b1 (kk : Nat) (k n k1 n1 k2 n2 k3 n3 ka na kb nb : Int) (d2 d3 da db r1 ps : List Dat) (o2 : Bool) (h1 : den cfg kk 96 [D.dat (Dat.agg [I k, I n, Dat.lst false (Dat.agg [I k1, I n1, Dat.lst false (T k2 n2 d2 :: r1)] :: T k3 n3 d3 :: ps)])] [] [] = some ([D.dat (B true)], [], [])) (h2 : ((0 : Int) ≤ 0 ∧ 0 < ((Dat.agg [I k1, I n1, Dat.lst false (T k2 n2 d2 :: r1)] :: T k3 n3 d3 :: ps).length : Int)) ∧ some (Dat.agg [I k1, I n1, Dat.lst false (T k2 n2 d2 :: r1)]) = some (Dat.agg [I k1, I n1, Dat.lst false (T k2 n2 d2 :: r1)])) (h3 : ((0 : Int) ≤ 0 ∧ 0 < ((T k2 n2 d2 :: r1).length : Int)) ∧ some (T k2 n2 d2) = some (T k2 n2 d2)) (h4 : den cfg kk 55 [D.dat (T k2 n2 d2)] [] [] = some ([D.dat (T ka na da), D.dat (B false)], [], [])) (h5 : ((0 : Int) ≤ 1 ∧ 1 < ((Dat.agg [I k1, I n1, Dat.lst false (T k2 n2 d2 :: r1)] :: T k3 n3 d3 :: ps).length : Int)) ∧ some (T k3 n3 d3) = some (T k3 n3 d3)) (h6 : den cfg kk 55 [D.dat (T k3 n3 d3)] [] [] = some ([D.dat (T kb nb db), D.dat (B o2)], [], [])) : runFn cfg kk (den cfg kk) 55 Go.Proofs.Try.f55 [.dat (T k n (T k1 n1 (T k2 n2 d2 :: r1) :: T k3 n3 d3 :: ps))] [] [] = some ([D.dat (T 0 0 []), D.dat (B false)], [], []) :=
  hrun_sound [(15, .ret [.dat (B true)]), (19, .at (T k1 n1 (T k2 n2 d2 :: r1))), (22, .at (T k2 n2 d2)), (24, .ret [.dat (T ka na da), .dat (B false)]), (30, .at (T k3 n3 d3)), (32, .ret [.dat (T kb nb db), .dat (B o2)])] (q := ([den cfg kk 96 [D.dat (Dat.agg [I k, I n, Dat.lst false (Dat.agg [I k1, I n1, Dat.lst false (T k2 n2 d2 :: r1)] :: T k3 n3 d3 :: ps)])] [] [] = some ([D.dat (B true)], [], []), ((0 : Int) ≤ 0 ∧ 0 < ((Dat.agg [I k1, I n1, Dat.lst false (T k2 n2 d2 :: r1)] :: T k3 n3 d3 :: ps).length : Int)) ∧ some (Dat.agg [I k1, I n1, Dat.lst false (T k2 n2 d2 :: r1)]) = some (Dat.agg [I k1, I n1, Dat.lst false (T k2 n2 d2 :: r1)]), ((0 : Int) ≤ 0 ∧ 0 < ((T k2 n2 d2 :: r1).length : Int)) ∧ some (T k2 n2 d2) = some (T k2 n2 d2), den cfg kk 55 [D.dat (T k2 n2 d2)] [] [] = some ([D.dat (T ka na da), D.dat (B false)], [], []), ((0 : Int) ≤ 1 ∧ 1 < ((Dat.agg [I k1, I n1, Dat.lst false (T k2 n2 d2 :: r1)] :: T k3 n3 d3 :: ps).length : Int)) ∧ some (T k3 n3 d3) = some (T k3 n3 d3), den cfg kk 55 [D.dat (T k3 n3 d3)] [] [] = some ([D.dat (T kb nb db), D.dat (B o2)], [], [])], [D.dat (T 0 0 []), D.dat (B false)], [], [])) (by kernel_rfl) ⟨h1, h2, h3, h4, h5, h6, trivial⟩
theorem develop_b2 (kk : Nat) (k n k1 n1 k2 n2 k3 n3 ka na kb nb : Int) (d2 d3 da db r1 ps : List Dat) (h1 : den cfg kk 96 [D.dat (Dat.agg [I k, I n, Dat.lst false (Dat.agg [I k1, I n1, Dat.lst false (T k2 n2 d2 :: r1)] :: T k3 n3 d3 :: ps)])] [] [] = some ([D.dat (B true)], [], [])) (h2 : ((0 : Int) ≤ 0 ∧ 0 < ((Dat.agg [I k1, I n1, Dat.lst false (T k2 n2 d2 :: r1)] :: T k3 n3 d3 :: ps).length : Int)) ∧ some (Dat.agg [I k1, I n1, Dat.lst false (T k2 n2 d2 :: r1)]) = some (Dat.agg [I k1, I n1, Dat.lst false (T k2 n2 d2 :: r1)])) (h3 : ((0 : Int) ≤ 0 ∧ 0 < ((T k2 n2 d2 :: r1).length : Int)) ∧ some (T k2 n2 d2) = some (T k2 n2 d2)) (h4 : den cfg kk 55 [D.dat (T k2 n2 d2)] [] [] = some ([D.dat (T ka na da), D.dat (B true)], [], [])) (h5 : ((0 : Int) ≤ 1 ∧ 1 < ((Dat.agg [I k1, I n1, Dat.lst false (T k2 n2 d2 :: r1)] :: T k3 n3 d3 :: ps).length : Int)) ∧ some (T k3 n3 d3) = some (T k3 n3 d3)) (h6 : den cfg kk 55 [D.dat (T k3 n3 d3)] [] [] = some ([D.dat (T kb nb db), D.dat (B false)], [], [])) : runFn cfg kk (den cfg kk) 55 Go.Proofs.Try.f55 [.dat (T k n (T k1 n1 (T k2 n2 d2 :: r1) :: T k3 n3 d3 :: ps))] [] [] = some ([D.dat (T 0 0 []), D.dat (B false)], [], []) :=
  hrun_sound [(15, .ret [.dat (B true)]), (19, .at (T k1 n1 (T k2 n2 d2 :: r1))), (22, .at (T k2 n2 d2)), (24, .ret [.dat (T ka na da), .dat (B true)]), (30, .at (T k3 n3 d3)), (32, .ret [.dat (T kb nb db), .dat (B false)])] (q := ([den cfg kk 96 [D.dat (Dat.agg [I k, I n, Dat.lst false (Dat.agg [I k1, I n1, Dat.lst false (T k2 n2 d2 :: r1)] :: T k3 n3 d3 :: ps)])] [] [] = some ([D.dat (B true)], [], []), ((0 : Int) ≤ 0 ∧ 0 < ((Dat.agg [I k1, I n1, Dat.lst false (T k2 n2 d2 :: r1)] :: T k3 n3 d3 :: ps).length : Int)) ∧ some (Dat.agg [I k1, I n1, Dat.lst false (T k2 n2 d2 :: r1)]) = some (Dat.agg [I k1, I n1, Dat.lst false (T k2 n2 d2 :: r1)]), ((0 : Int) ≤ 0 ∧ 0 < ((T k2 n2 d2 :: r1).length : Int)) ∧ some (T k2 n2 d2) = some (T k2 n2 d2), den cfg kk 55 [D.dat (T k2 n2 d2)] [] [] = some ([D.dat (T ka na da), D.dat (B true)], [], []), ((0 : Int) ≤ 1 ∧ 1 < ((Dat.agg [I k1, I n1, Dat.lst false (T k2 n2 d2 :: r1)] :: T k3 n3 d3 :: ps).length : Int)) ∧ some (T k3 n3 d3) = some (T k3 n3 d3), den cfg kk 55 [D.dat (T k3 n3 d3)] [] [] = some ([D.dat (T kb nb db), D.dat (B false)], [], [])], [D.dat (T 0 0 []), D.dat (B false)], [], [])) (by kernel_rfl) ⟨h1, h2, h3, h4, h5, h6, trivial⟩
theorem develop_b3 (kk : Nat) (k n k1 n1 k2 n2 k3 n3 ka na kb nb : Int) (d2 d3 da db r1 ps : List Dat) (h1 : den cfg kk 96 [D.dat (Dat.agg [I k, I n, Dat.lst false (Dat.agg [I k1, I n1, Dat.lst false (T k2 n2 d2 :: r1)] :: T k3 n3 d3 :: ps)])] [] [] = some ([D.dat (B true)], [], [])) (h2 : ((0 : Int) ≤ 0 ∧ 0 < ((Dat.agg [I k1, I n1, Dat.lst false (T k2 n2 d2 :: r1)] :: T k3 n3 d3 :: ps).length : Int)) ∧ some (Dat.agg [I k1, I n1, Dat.lst false (T k2 n2 d2 :: r1)]) = some (Dat.agg [I k1, I n1, Dat.lst false (T k2 n2 d2 :: r1)])) (h3 : ((0 : Int) ≤ 0 ∧ 0 < ((T k2 n2 d2 :: r1).length : Int)) ∧ some (T k2 n2 d2) = some (T k2 n2 d2)) (h4 : den cfg kk 55 [D.dat (T k2 n2 d2)] [] [] = some ([D.dat (T ka na da), D.dat (B true)], [], [])) (h5 : ((0 : Int) ≤ 1 ∧ 1 < ((Dat.agg [I k1, I n1, Dat.lst false (T k2 n2 d2 :: r1)] :: T k3 n3 d3 :: ps).length : Int)) ∧ some (T k3 n3 d3) = some (T k3 n3 d3)) (h6 : den cfg kk 55 [D.dat (T k3 n3 d3)] [] [] = some ([D.dat (T kb nb db), D.dat (B true)], [], [])) (h7 : den cfg kk 86 [D.dat (T ka na da)] [] [] = some ([D.dat (Dat.agg [I 2, I 0, Dat.lst false [T ka na da]])], [], [])) (h8 : den cfg kk 91 [D.dat (Dat.agg [I 2, I 0, Dat.lst false [T ka na da]])] [] [] = some ([D.dat (B false)], [], [])) : runFn cfg kk (den cfg kk) 55 Go.Proofs.Try.f55 [.dat (T k n (T k1 n1 (T k2 n2 d2 :: r1) :: T k3 n3 d3 :: ps))] [] [] = some ([D.dat (T 0 0 []), D.dat (B false)], [], []) :=
  hrun_sound [(15, .ret [.dat (B true)]), (19, .at (T k1 n1 (T k2 n2 d2 :: r1))), (22, .at (T k2 n2 d2)), (24, .ret [.dat (T ka na da), .dat (B true)]), (30, .at (T k3 n3 d3)), (32, .ret [.dat (T kb nb db), .dat (B true)]), (43, .ret [.dat (T 2 0 [T ka na da])]), (44, .ret [.dat (B false)])] (q := ([den cfg kk 96 [D.dat (Dat.agg [I k, I n, Dat.lst false (Dat.agg [I k1, I n1, Dat.lst false (T k2 n2 d2 :: r1)] :: T k3 n3 d3 :: ps)])] [] [] = some ([D.dat (B true)], [], []), ((0 : Int) ≤ 0 ∧ 0 < ((Dat.agg [I k1, I n1, Dat.lst false (T k2 n2 d2 :: r1)] :: T k3 n3 d3 :: ps).length : Int)) ∧ some (Dat.agg [I k1, I n1, Dat.lst false (T k2 n2 d2 :: r1)]) = some (Dat.agg [I k1, I n1, Dat.lst false (T k2 n2 d2 :: r1)]), ((0 : Int) ≤ 0 ∧ 0 < ((T k2 n2 d2 :: r1).length : Int)) ∧ some (T k2 n2 d2) = some (T k2 n2 d2), den cfg kk 55 [D.dat (T k2 n2 d2)] [] [] = some ([D.dat (T ka na da), D.dat (B true)], [], []), ((0 : Int) ≤ 1 ∧ 1 < ((Dat.agg [I k1, I n1, Dat.lst false (T k2 n2 d2 :: r1)] :: T k3 n3 d3 :: ps).length : Int)) ∧ some (T k3 n3 d3) = some (T k3 n3 d3), den cfg kk 55 [D.dat (T k3 n3 d3)] [] [] = some ([D.dat (T kb nb db), D.dat (B true)], [], []), den cfg kk 86 [D.dat (T ka na da)] [] [] = some ([D.dat (Dat.agg [I 2, I 0, Dat.lst false [T ka na da]])], [], []), den cfg kk 91 [D.dat (Dat.agg [I 2, I 0, Dat.lst false [T ka na da]])] [] [] = some ([D.dat (B false)], [], [])], [D.dat (T 0 0 []), D.dat (B false)], [], [])) (by kernel_rfl) ⟨h1, h2, h3, h4, h5, h6, h7, h8, trivial⟩
theorem develop_redex (kk : Nat) (k n k1 n1 k2 n2 k3 n3 ka na kb nb : Int) (d2 d3 da db r1 ps : List Dat) (kr nr : Int) (dr : List Dat) (g : Bool) (h1 : den cfg kk 96 [D.dat (Dat.agg [I k, I n, Dat.lst false (Dat.agg [I k1, I n1, Dat.lst false (T k2 n2 d2 :: r1)] :: T k3 n3 d3 :: ps)])] [] [] = some ([D.dat (B true)], [], [])) (h2 : ((0 : Int) ≤ 0 ∧ 0 < ((Dat.agg [I k1, I n1, Dat.lst false (T k2 n2 d2 :: r1)] :: T k3 n3 d3 :: ps).length : Int)) ∧ some (Dat.agg [I k1, I n1, Dat.lst false (T k2 n2 d2 :: r1)]) = some (Dat.agg [I k1, I n1, Dat.lst false (T k2 n2 d2 :: r1)])) (h3 : ((0 : Int) ≤ 0 ∧ 0 < ((T k2 n2 d2 :: r1).length : Int)) ∧ some (T k2 n2 d2) = some (T k2 n2 d2)) (h4 : den cfg kk 55 [D.dat (T k2 n2 d2)] [] [] = some ([D.dat (T ka na da), D.dat (B true)], [], [])) (h5 : ((0 : Int) ≤ 1 ∧ 1 < ((Dat.agg [I k1, I n1, Dat.lst false (T k2 n2 d2 :: r1)] :: T k3 n3 d3 :: ps).length : Int)) ∧ some (T k3 n3 d3) = some (T k3 n3 d3)) (h6 : den cfg kk 55 [D.dat (T k3 n3 d3)] [] [] = some ([D.dat (T kb nb db), D.dat (B true)], [], [])) (h7 : den cfg kk 86 [D.dat (T ka na da)] [] [] = some ([D.dat (Dat.agg [I 2, I 0, Dat.lst false [T ka na da]])], [], [])) (h8 : den cfg kk 91 [D.dat (Dat.agg [I 2, I 0, Dat.lst false [T ka na da]])] [] [] = some ([D.dat (B true)], [], [])) (h9 : den cfg kk 51 [D.dat (T ka na da), D.dat (I 0), D.dat (T kb nb db)] [] [] = some ([D.dat (T kr nr dr)], [], [])) (h10 : den cfg kk 91 [D.dat (T kr nr dr)] [] [] = some ([D.dat (B g)], [], [])) : runFn cfg kk (den cfg kk) 55 Go.Proofs.Try.f55 [.dat (T k n (T k1 n1 (T k2 n2 d2 :: r1) :: T k3 n3 d3 :: ps))] [] [] = some ([D.dat (T kr nr dr), D.dat (B g)], [], []) :=
  hrun_sound [(15, .ret [.dat (B true)]), (19, .at (T k1 n1 (T k2 n2 d2 :: r1))), (22, .at (T k2 n2 d2)), (24, .ret [.dat (T ka na da), .dat (B true)]), (30, .at (T k3 n3 d3)), (32, .ret [.dat (T kb nb db), .dat (B true)]), (43, .ret [.dat (T 2 0 [T ka na da])]), (44, .ret [.dat (B true)]), (50, .ret [.dat (T kr nr dr)]), (53, .ret [.dat (B g)])] (q := ([den cfg kk 96 [D.dat (Dat.agg [I k, I n, Dat.lst false (Dat.agg [I k1, I n1, Dat.lst false (T k2 n2 d2 :: r1)] :: T k3 n3 d3 :: ps)])] [] [] = some ([D.dat (B true)], [], []), ((0 : Int) ≤ 0 ∧ 0 < ((Dat.agg [I k1, I n1, Dat.lst false (T k2 n2 d2 :: r1)] :: T k3 n3 d3 :: ps).length : Int)) ∧ some (Dat.agg [I k1, I n1, Dat.lst false (T k2 n2 d2 :: r1)]) = some (Dat.agg [I k1, I n1, Dat.lst false (T k2 n2 d2 :: r1)]), ((0 : Int) ≤ 0 ∧ 0 < ((T k2 n2 d2 :: r1).length : Int)) ∧ some (T k2 n2 d2) = some (T k2 n2 d2), den cfg kk 55 [D.dat (T k2 n2 d2)] [] [] = some ([D.dat (T ka na da), D.dat (B true)], [], []), ((0 : Int) ≤ 1 ∧ 1 < ((Dat.agg [I k1, I n1, Dat.lst false (T k2 n2 d2 :: r1)] :: T k3 n3 d3 :: ps).length : Int)) ∧ some (T k3 n3 d3) = some (T k3 n3 d3), den cfg kk 55 [D.dat (T k3 n3 d3)] [] [] = some ([D.dat (T kb nb db), D.dat (B true)], [], []), den cfg kk 86 [D.dat (T ka na da)] [] [] = some ([D.dat (Dat.agg [I 2, I 0, Dat.lst false [T ka na da]])], [], []), den cfg kk 91 [D.dat (Dat.agg [I 2, I 0, Dat.lst false [T ka na da]])] [] [] = some ([D.dat (B true)], [], []), den cfg kk 51 [D.dat (T ka na da), D.dat (I 0), D.dat (T kb nb db)] [] [] = some ([D.dat (T kr nr dr)], [], []), den cfg kk 91 [D.dat (T kr nr dr)] [] [] = some ([D.dat (B g)], [], [])], [D.dat (T kr nr dr), D.dat (B g)], [], [])) (by kernel_rfl) ⟨h1, h2, h3, h4, h5, h6, h7, h8, h9, h10, trivial⟩
theorem DevelopTerm_no1 (kk : Nat) (b : Bool) (es : List Dat) (h1 : den cfg kk 44 [D.dat (Dat.lst b es)] [] [] = some ([D.dat (B false)], [], [])) : runFn cfg kk (den cfg kk) 22 Go.Proofs.Try.f22 [.dat (Dat.lst b es)] [] [] = some ([D.own 50 [], D.dat (B false)], [], []) :=
  hrun_sound [(7, .ret [.dat (B false)])] (q := ([den cfg kk 44 [D.dat (Dat.lst b es)] [] [] = some ([D.dat (B false)], [], [])], [D.own 50 [], D.dat (B false)], [], [])) (by kernel_rfl) ⟨h1, trivial⟩
theorem DevelopTerm_no2 (kk : Nat) (b : Bool) (es : List Dat) (k n k2 n2 : Int) (d d2 : List Dat) (h1 : den cfg kk 44 [D.dat (Dat.lst b es)] [] [] = some ([D.dat (B true)], [], [])) (h2 : den cfg kk 48 [D.dat (Dat.lst b es), D.dat (I 0)] [] [] = some ([D.dat (T k n d)], [], [])) (h3 : den cfg kk 54 [D.dat (T k n d)] [] [] = some ([D.dat (T k2 n2 d2), D.dat (B false)], [], [])) : runFn cfg kk (den cfg kk) 22 Go.Proofs.Try.f22 [.dat (Dat.lst b es)] [] [] = some ([D.own 50 [], D.dat (B false)], [], []) :=
  hrun_sound [(7, .ret [.dat (B true)]), (11, .ret [.dat (T k n d)]), (12, .ret [.dat (T k2 n2 d2), .dat (B false)])] (q := ([den cfg kk 44 [D.dat (Dat.lst b es)] [] [] = some ([D.dat (B true)], [], []), den cfg kk 48 [D.dat (Dat.lst b es), D.dat (I 0)] [] [] = some ([D.dat (T k n d)], [], []), den cfg kk 54 [D.dat (T k n d)] [] [] = some ([D.dat (T k2 n2 d2), D.dat (B false)], [], [])], [D.own 50 [], D.dat (B false)], [], [])) (by kernel_rfl) ⟨h1, h2, h3, trivial⟩
theorem DevelopTerm_go (kk : Nat) (b : Bool) (es : List Dat) (k n k2 n2 : Int) (d d2 out : List Dat) (r : Bool) (h1 : den cfg kk 44 [D.dat (Dat.lst b es)] [] [] = some ([D.dat (B true)], [], [])) (h2 : den cfg kk 48 [D.dat (Dat.lst b es), D.dat (I 0)] [] [] = some ([D.dat (T k n d)], [], [])) (h3 : den cfg kk 54 [D.dat (T k n d)] [] [] = some ([D.dat (T k2 n2 d2), D.dat (B true)], [], [])) (h4 : den cfg kk 46 [D.dat (T k2 n2 d2)] [] [] = some ([D.own 50 out, D.dat (B r)], [], [])) : runFn cfg kk (den cfg kk) 22 Go.Proofs.Try.f22 [.dat (Dat.lst b es)] [] [] = some ([D.own 50 out, D.dat (B r)], [], []) :=
  hrun_sound [(7, .ret [.dat (B true)]), (11, .ret [.dat (T k n d)]), (12, .ret [.dat (T k2 n2 d2), .dat (B true)]), (18, .ret [.own 50 out, .dat (B r)])] (q := ([den cfg kk 44 [D.dat (Dat.lst b es)] [] [] = some ([D.dat (B true)], [], []), den cfg kk 48 [D.dat (Dat.lst b es), D.dat (I 0)] [] [] = some ([D.dat (T k n d)], [], []), den cfg kk 54 [D.dat (T k n d)] [] [] = some ([D.dat (T k2 n2 d2), D.dat (B true)], [], []), den cfg kk 46 [D.dat (T k2 n2 d2)] [] [] = some ([D.own 50 out, D.dat (B r)], [], [])], [D.own 50 out, D.dat (B r)], [], [])) (by kernel_rfl) ⟨h1, h2, h3, h4, trivial⟩
theorem iDevelop_no1 (kk : Nat) (b : Bool) (es : List Dat) (k n : Int) (d : List Dat) (h1 : den cfg kk 50 [D.dat (Dat.lst b es)] [] [] = some ([D.dat (T k n d), D.dat (B false)], [], [])) : runFn cfg kk (den cfg kk) 23 Go.Proofs.Try.f23 [.dat (Dat.lst b es)] [] [] = some ([D.own 50 [], D.dat (B false)], [], []) :=
  hrun_sound [(9, .ret [.dat (T k n d), .dat (B false)])] (q := ([den cfg kk 50 [D.dat (Dat.lst b es)] [] [] = some ([D.dat (T k n d), D.dat (B false)], [], [])], [D.own 50 [], D.dat (B false)], [], [])) (by kernel_rfl) ⟨h1, trivial⟩
theorem iDevelop_no2 (kk : Nat) (b : Bool) (es : List Dat) (k n k2 n2 : Int) (d d2 : List Dat) (h1 : den cfg kk 50 [D.dat (Dat.lst b es)] [] [] = some ([D.dat (T k n d), D.dat (B true)], [], [])) (h2 : den cfg kk 55 [D.dat (T k n d)] [] [] = some ([D.dat (T k2 n2 d2), D.dat (B false)], [], [])) : runFn cfg kk (den cfg kk) 23 Go.Proofs.Try.f23 [.dat (Dat.lst b es)] [] [] = some ([D.own 50 [], D.dat (B false)], [], []) :=
  hrun_sound [(9, .ret [.dat (T k n d), .dat (B true)]), (16, .ret [.dat (T k2 n2 d2), .dat (B false)])] (q := ([den cfg kk 50 [D.dat (Dat.lst b es)] [] [] = some ([D.dat (T k n d), D.dat (B true)], [], []), den cfg kk 55 [D.dat (T k n d)] [] [] = some ([D.dat (T k2 n2 d2), D.dat (B false)], [], [])], [D.own 50 [], D.dat (B false)], [], [])) (by kernel_rfl) ⟨h1, h2, trivial⟩
theorem iDevelop_go (kk : Nat) (b : Bool) (es : List Dat) (k n k2 n2 : Int) (d d2 out : List Dat) (h1 : den cfg kk 50 [D.dat (Dat.lst b es)] [] [] = some ([D.dat (T k n d), D.dat (B true)], [], [])) (h2 : den cfg kk 55 [D.dat (T k n d)] [] [] = some ([D.dat (T k2 n2 d2), D.dat (B true)], [], [])) (h3 : den cfg kk 56 [D.dat (T k2 n2 d2)] [] [] = some ([D.own 50 out], [], [])) : runFn cfg kk (den cfg kk) 23 Go.Proofs.Try.f23 [.dat (Dat.lst b es)] [] [] = some ([D.own 50 out, D.dat (B true)], [], []) :=
  hrun_sound [(9, .ret [.dat (T k n d), .dat (B true)]), (16, .ret [.dat (T k2 n2 d2), .dat (B true)]), (22, .ret [.own 50 out])] (q := ([den cfg kk 50 [D.dat (Dat.lst b es)] [] [] = some ([D.dat (T k n d), D.dat (B true)], [], []), den cfg kk 55 [D.dat (T k n d)] [] [] = some ([D.dat (T k2 n2 d2), D.dat (B true)], [], []), den cfg kk 56 [D.dat (T k2 n2 d2)] [] [] = some ([D.own 50 out], [], [])], [D.own 50 out, D.dat (B true)], [], [])) (by kernel_rfl) ⟨h1, h2, h3, trivial⟩
theorem dev_small (kk : Nat) (l1 : Int) (as_ : List Dat) (h1 : den cfg kk 15 [D.dat (Dat.lst false as_), D.dat (I 1048576)] [] [] = some ([D.dat (I l1)], [], [])) (h2 : decide (l1 < 0) = true) : runFn cfg kk (den cfg kk) 4 Go.Proofs.Try.f4 [.dat (Dat.lst false as_)] [] [] = some ([D.dat (B true)], [], []) :=
  hrun_sound [(16, .ret [.dat (I l1)]), (200018, .yes)] (q := ([den cfg kk 15 [D.dat (Dat.lst false as_), D.dat (I 1048576)] [] [] = some ([D.dat (I l1)], [], []), decide (l1 < 0) = true], [D.dat (B true)], [], [])) (by kernel_rfl) ⟨h1, h2, trivial⟩
theorem dev_true (kk : Nat) (l1 : Int) (as_ : List Dat) (xs ws xs' ws' : List Dat) (k1 m q q2 : Int) (h1 : den cfg kk 15 [D.dat (Dat.lst false as_), D.dat (I 1048576)] [] [] = some ([D.dat (I l1)], [], [])) (h2 : decide (l1 < 0) = false) (h3 : den cfg kk 17 [D.dat (Dat.lst false as_)] [] [] = some ([D.own 50 xs], [], [])) (h4 : D.cleans [D.own 50 ws, D.dat (B true)] = true) (h5 : den cfg kk 22 [D.dat (Dat.lst true xs)] [] [] = some ([D.own 50 ws, D.dat (B true)], [], [])) (h6 : den cfg kk 17 [D.dat (Dat.lst false as_)] [] [] = some ([D.own 50 xs], [], [])) (h7 : D.cleans [D.own 50 ws, D.dat (B true)] = true) (h8 : den cfg kk 23 [D.dat (Dat.lst true xs)] [] [] = some ([D.own 50 ws, D.dat (B true)], [], [])) (h10 : den cfg kk 19 [D.dat (Dat.lst true ws), D.dat (Dat.lst true ws)] [] [] = some ([D.dat (B true)], [], [])) (h11 : den cfg kk 17 [D.dat (Dat.lst false as_)] [] [] = some ([D.own 50 xs], [], [])) (h13 : den cfg kk 19 [D.dat (Dat.lst true xs), D.dat (Dat.lst true xs)] [] [] = some ([D.dat (B true)], [], [])) (h14 : den cfg kk 20 [D.bor (Pl.lent 0) none, D.dat (I 1)] [] [some (50, xs)] = some ([D.dat (I k1)], [], [some (50, xs')])) (h16 : decide (k1 < 0) = false) (h20 : den cfg kk 19 [D.dat (Dat.lst true ws), D.dat (Dat.lst true ws)] [] [] = some ([D.dat (B true)], [], [])) (h22 : den cfg kk 20 [D.bor (Pl.lent 0) none, D.dat (I 1)] [] [some (50, ws)] = some ([D.dat (I m)], [], [some (50, ws')])) (h25 : den cfg kk 21 [D.dat (Dat.lst true ws'), D.dat (I 1)] [] [] = some ([D.dat (I q)], [], [])) (h26 : decide (q < 0) = false) (h27 : (!decide (q = m)) = false) (h28 : den cfg kk 17 [D.dat (Dat.lst false as_)] [] [] = some ([D.own 50 xs], [], [])) (h29 : D.cleans [D.own 50 ws, D.dat (B true)] = true) (h30 : den cfg kk 23 [D.dat (Dat.lst true xs)] [] [] = some ([D.own 50 ws, D.dat (B true)], [], [])) (h32 : den cfg kk 19 [D.dat (Dat.lst true ws), D.dat (Dat.lst true ws)] [] [] = some ([D.dat (B true)], [], [])) (h34 : den cfg kk 21 [D.dat (Dat.lst true ws'), D.dat (I 1)] [] [] = some ([D.dat (I q2)], [], [])) (h35 : decide (q2 < 0) = false) (h36 : (!decide (q2 = m)) = false) : runFn cfg kk (den cfg kk) 4 Go.Proofs.Try.f4 [.dat (Dat.lst false as_)] [] [] = some ([D.dat (B true)], [], []) :=
  hrun_sound [(16, .ret [.dat (I l1)]), (200018, .no), (21, .ret [.own 50 xs]), (22, .ret [.own 50 ws, .dat (B true)]), (26, .ret [.own 50 xs]), (29, .ret [.own 50 ws, .dat (B true)]), (34, .ret [.dat (B true)]), (43, .ret [.own 50 xs]), (44, .ret [.dat (B true)]), (48, .back [.dat (I k1)] [] [some (50, xs')]), (200051, .no), (54, .ret [.dat (B true)]), (64, .back [.dat (I m)] [] [some (50, ws')]), (67, .ret [.dat (I q)]), (200069, .no), (200072, .no), (75, .ret [.own 50 xs]), (76, .ret [.own 50 ws, .dat (B true)]), (81, .ret [.dat (B true)]), (90, .ret [.dat (I q2)]), (200092, .no), (200095, .no)] (q := ([den cfg kk 15 [D.dat (Dat.lst false as_), D.dat (I 1048576)] [] [] = some ([D.dat (I l1)], [], []), decide (l1 < 0) = false, den cfg kk 17 [D.dat (Dat.lst false as_)] [] [] = some ([D.own 50 xs], [], []), D.cleans [D.own 50 ws, D.dat (B true)] = true, den cfg kk 22 [D.dat (Dat.lst true xs)] [] [] = some ([D.own 50 ws, D.dat (B true)], [], []), den cfg kk 17 [D.dat (Dat.lst false as_)] [] [] = some ([D.own 50 xs], [], []), D.cleans [D.own 50 ws, D.dat (B true)] = true, den cfg kk 23 [D.dat (Dat.lst true xs)] [] [] = some ([D.own 50 ws, D.dat (B true)], [], []), true = true, den cfg kk 19 [D.dat (Dat.lst true ws), D.dat (Dat.lst true ws)] [] [] = some ([D.dat (B true)], [], []), den cfg kk 17 [D.dat (Dat.lst false as_)] [] [] = some ([D.own 50 xs], [], []), true = true, den cfg kk 19 [D.dat (Dat.lst true xs), D.dat (Dat.lst true xs)] [] [] = some ([D.dat (B true)], [], []), den cfg kk 20 [D.bor (Pl.lent 0) none, D.dat (I 1)] [] [some (50, xs)] = some ([D.dat (I k1)], [], [some (50, xs')]), false = false, decide (k1 < 0) = false, false = false, false = false, true = true, den cfg kk 19 [D.dat (Dat.lst true ws), D.dat (Dat.lst true ws)] [] [] = some ([D.dat (B true)], [], []), false = false, den cfg kk 20 [D.bor (Pl.lent 0) none, D.dat (I 1)] [] [some (50, ws)] = some ([D.dat (I m)], [], [some (50, ws')]), false = false, true = true, den cfg kk 21 [D.dat (Dat.lst true ws'), D.dat (I 1)] [] [] = some ([D.dat (I q)], [], []), decide (q < 0) = false, (!decide (q = m)) = false, den cfg kk 17 [D.dat (Dat.lst false as_)] [] [] = some ([D.own 50 xs], [], []), D.cleans [D.own 50 ws, D.dat (B true)] = true, den cfg kk 23 [D.dat (Dat.lst true xs)] [] [] = some ([D.own 50 ws, D.dat (B true)], [], []), true = true, den cfg kk 19 [D.dat (Dat.lst true ws), D.dat (Dat.lst true ws)] [] [] = some ([D.dat (B true)], [], []), true = true, den cfg kk 21 [D.dat (Dat.lst true ws'), D.dat (I 1)] [] [] = some ([D.dat (I q2)], [], []), decide (q2 < 0) = false, (!decide (q2 = m)) = false], [D.dat (B true)], [], [])) (by kernel_rfl) ⟨h1, h2, h3, h4, h5, h6, h7, h8, rfl, h10, h11, rfl, h13, h14, rfl, h16, rfl, rfl, rfl, h20, rfl, h22, rfl, rfl, h25, h26, h27, h28, h29, h30, rfl, h32, rfl, h34, h35, h36, trivial⟩
theorem dev_false (kk : Nat) (l1 : Int) (as_ : List Dat) (xs ws xs' ws' : List Dat) (k1 m q q2 : Int) (h1 : den cfg kk 15 [D.dat (Dat.lst false as_), D.dat (I 1048576)] [] [] = some ([D.dat (I l1)], [], [])) (h2 : decide (l1 < 0) = false) (h3 : den cfg kk 17 [D.dat (Dat.lst false as_)] [] [] = some ([D.own 50 xs], [], [])) (h4 : D.cleans [D.own 50 ws, D.dat (B false)] = true) (h5 : den cfg kk 22 [D.dat (Dat.lst true xs)] [] [] = some ([D.own 50 ws, D.dat (B false)], [], [])) (h6 : den cfg kk 17 [D.dat (Dat.lst false as_)] [] [] = some ([D.own 50 xs], [], [])) (h7 : D.cleans [D.own 50 ws, D.dat (B false)] = true) (h8 : den cfg kk 23 [D.dat (Dat.lst true xs)] [] [] = some ([D.own 50 ws, D.dat (B false)], [], [])) (h10 : den cfg kk 19 [D.dat (Dat.lst true ws), D.dat (Dat.lst true ws)] [] [] = some ([D.dat (B true)], [], [])) (h11 : den cfg kk 17 [D.dat (Dat.lst false as_)] [] [] = some ([D.own 50 xs], [], [])) (h13 : den cfg kk 19 [D.dat (Dat.lst true xs), D.dat (Dat.lst true xs)] [] [] = some ([D.dat (B true)], [], [])) (h14 : den cfg kk 20 [D.bor (Pl.lent 0) none, D.dat (I 1)] [] [some (50, xs)] = some ([D.dat (I k1)], [], [some (50, xs')])) (h16 : decide (k1 < 0) = false) (h20 : den cfg kk 19 [D.dat (Dat.lst true ws), D.dat (Dat.lst true ws)] [] [] = some ([D.dat (B true)], [], [])) (h22 : den cfg kk 20 [D.bor (Pl.lent 0) none, D.dat (I 1)] [] [some (50, ws)] = some ([D.dat (I m)], [], [some (50, ws')])) (h25 : den cfg kk 21 [D.dat (Dat.lst true ws'), D.dat (I 1)] [] [] = some ([D.dat (I q)], [], [])) (h26 : decide (q < 0) = false) (h27 : (!decide (q = m)) = false) (h28 : den cfg kk 17 [D.dat (Dat.lst false as_)] [] [] = some ([D.own 50 xs], [], [])) (h29 : D.cleans [D.own 50 ws, D.dat (B false)] = true) (h30 : den cfg kk 23 [D.dat (Dat.lst true xs)] [] [] = some ([D.own 50 ws, D.dat (B false)], [], [])) (h32 : den cfg kk 19 [D.dat (Dat.lst true ws), D.dat (Dat.lst true ws)] [] [] = some ([D.dat (B true)], [], [])) (h34 : den cfg kk 21 [D.dat (Dat.lst true ws'), D.dat (I 1)] [] [] = some ([D.dat (I q2)], [], [])) (h35 : decide (q2 < 0) = false) (h36 : (!decide (q2 = m)) = false) : runFn cfg kk (den cfg kk) 4 Go.Proofs.Try.f4 [.dat (Dat.lst false as_)] [] [] = some ([D.dat (B true)], [], []) :=
  hrun_sound [(16, .ret [.dat (I l1)]), (200018, .no), (21, .ret [.own 50 xs]), (22, .ret [.own 50 ws, .dat (B false)]), (26, .ret [.own 50 xs]), (29, .ret [.own 50 ws, .dat (B false)]), (34, .ret [.dat (B true)]), (43, .ret [.own 50 xs]), (44, .ret [.dat (B true)]), (48, .back [.dat (I k1)] [] [some (50, xs')]), (200051, .no), (54, .ret [.dat (B true)]), (64, .back [.dat (I m)] [] [some (50, ws')]), (67, .ret [.dat (I q)]), (200069, .no), (200072, .no), (75, .ret [.own 50 xs]), (76, .ret [.own 50 ws, .dat (B false)]), (81, .ret [.dat (B true)]), (90, .ret [.dat (I q2)]), (200092, .no), (200095, .no)] (q := ([den cfg kk 15 [D.dat (Dat.lst false as_), D.dat (I 1048576)] [] [] = some ([D.dat (I l1)], [], []), decide (l1 < 0) = false, den cfg kk 17 [D.dat (Dat.lst false as_)] [] [] = some ([D.own 50 xs], [], []), D.cleans [D.own 50 ws, D.dat (B false)] = true, den cfg kk 22 [D.dat (Dat.lst true xs)] [] [] = some ([D.own 50 ws, D.dat (B false)], [], []), den cfg kk 17 [D.dat (Dat.lst false as_)] [] [] = some ([D.own 50 xs], [], []), D.cleans [D.own 50 ws, D.dat (B false)] = true, den cfg kk 23 [D.dat (Dat.lst true xs)] [] [] = some ([D.own 50 ws, D.dat (B false)], [], []), true = true, den cfg kk 19 [D.dat (Dat.lst true ws), D.dat (Dat.lst true ws)] [] [] = some ([D.dat (B true)], [], []), den cfg kk 17 [D.dat (Dat.lst false as_)] [] [] = some ([D.own 50 xs], [], []), true = true, den cfg kk 19 [D.dat (Dat.lst true xs), D.dat (Dat.lst true xs)] [] [] = some ([D.dat (B true)], [], []), den cfg kk 20 [D.bor (Pl.lent 0) none, D.dat (I 1)] [] [some (50, xs)] = some ([D.dat (I k1)], [], [some (50, xs')]), false = false, decide (k1 < 0) = false, false = false, false = false, true = true, den cfg kk 19 [D.dat (Dat.lst true ws), D.dat (Dat.lst true ws)] [] [] = some ([D.dat (B true)], [], []), false = false, den cfg kk 20 [D.bor (Pl.lent 0) none, D.dat (I 1)] [] [some (50, ws)] = some ([D.dat (I m)], [], [some (50, ws')]), false = false, true = true, den cfg kk 21 [D.dat (Dat.lst true ws'), D.dat (I 1)] [] [] = some ([D.dat (I q)], [], []), decide (q < 0) = false, (!decide (q = m)) = false, den cfg kk 17 [D.dat (Dat.lst false as_)] [] [] = some ([D.own 50 xs], [], []), D.cleans [D.own 50 ws, D.dat (B false)] = true, den cfg kk 23 [D.dat (Dat.lst true xs)] [] [] = some ([D.own 50 ws, D.dat (B false)], [], []), true = true, den cfg kk 19 [D.dat (Dat.lst true ws), D.dat (Dat.lst true ws)] [] [] = some ([D.dat (B true)], [], []), true = true, den cfg kk 21 [D.dat (Dat.lst true ws'), D.dat (I 1)] [] [] = some ([D.dat (I q2)], [], []), decide (q2 < 0) = false, (!decide (q2 = m)) = false], [D.dat (B true)], [], [])) (by kernel_rfl) ⟨h1, h2, h3, h4, h5, h6, h7, h8, rfl, h10, h11, rfl, h13, h14, rfl, h16, rfl, rfl, rfl, h20, rfl, h22, rfl, rfl, h25, h26, h27, h28, h29, h30, rfl, h32, rfl, h34, h35, h36, trivial⟩
theorem lcBeta_b (kk : Nat) (k n k1 n1 k2 n2 k3 n3 kr nr : Int) (d2 d3 dr r1 ps : List Dat) (b : Bool) (h1 : ((0 : Int) ≤ 0 ∧ 0 < ((Dat.agg [I k1, I n1, Dat.lst false (T k2 n2 d2 :: r1)] :: T k3 n3 d3 :: ps).length : Int)) ∧ some (Dat.agg [I k1, I n1, Dat.lst false (T k2 n2 d2 :: r1)]) = some (Dat.agg [I k1, I n1, Dat.lst false (T k2 n2 d2 :: r1)])) (h2 : ((0 : Int) ≤ 0 ∧ 0 < ((T k2 n2 d2 :: r1).length : Int)) ∧ some (T k2 n2 d2) = some (T k2 n2 d2)) (h3 : ((0 : Int) ≤ 1 ∧ 1 < ((Dat.agg [I k1, I n1, Dat.lst false (T k2 n2 d2 :: r1)] :: T k3 n3 d3 :: ps).length : Int)) ∧ some (T k3 n3 d3) = some (T k3 n3 d3)) (h4 : den cfg kk 47 [D.dat (T k2 n2 d2), D.dat (I 0), D.dat (T k3 n3 d3), D.dat (I 0)] [] [] = some ([D.dat (T kr nr dr)], [], [])) : runFn cfg kk (den cfg kk) 95 Go.Proofs.Try.f95 [.dat (Dat.agg [I k, I n, Dat.lst b (T k1 n1 (T k2 n2 d2 :: r1) :: T k3 n3 d3 :: ps)])] [] [] = some ([D.dat (T kr nr dr)], [], []) :=
  hrun_sound [(5, .at (T k1 n1 (T k2 n2 d2 :: r1))), (8, .at (T k2 n2 d2)), (12, .at (T k3 n3 d3)), (14, .ret [.dat (T kr nr dr)])] (q := ([((0 : Int) ≤ 0 ∧ 0 < ((Dat.agg [I k1, I n1, Dat.lst false (T k2 n2 d2 :: r1)] :: T k3 n3 d3 :: ps).length : Int)) ∧ some (Dat.agg [I k1, I n1, Dat.lst false (T k2 n2 d2 :: r1)]) = some (Dat.agg [I k1, I n1, Dat.lst false (T k2 n2 d2 :: r1)]), ((0 : Int) ≤ 0 ∧ 0 < ((T k2 n2 d2 :: r1).length : Int)) ∧ some (T k2 n2 d2) = some (T k2 n2 d2), ((0 : Int) ≤ 1 ∧ 1 < ((Dat.agg [I k1, I n1, Dat.lst false (T k2 n2 d2 :: r1)] :: T k3 n3 d3 :: ps).length : Int)) ∧ some (T k3 n3 d3) = some (T k3 n3 d3), den cfg kk 47 [D.dat (T k2 n2 d2), D.dat (I 0), D.dat (T k3 n3 d3), D.dat (I 0)] [] [] = some ([D.dat (T kr nr dr)], [], [])], [D.dat (T kr nr dr)], [], [])) (by kernel_rfl) ⟨h1, h2, h3, h4, trivial⟩
theorem lcFine_b (kk : Nat) (b : Bool) (k n : Int) (ps out : List Dat) (r : Bool) (h1 : den cfg kk 46 [D.dat (Dat.agg [I k, I n, Dat.lst b ps])] [] [] = some ([D.own 50 out, D.dat (B r)], [], [])) : runFn cfg kk (den cfg kk) 84 Go.Proofs.Try.f84 [.dat (Dat.agg [I k, I n, Dat.lst b ps])] [] [] = some ([D.dat (B r)], [], []) :=
  hrun_sound [(7, .ret [.own 50 out, .dat (B r)])] (q := ([den cfg kk 46 [D.dat (Dat.agg [I k, I n, Dat.lst b ps])] [] [] = some ([D.own 50 out, D.dat (B r)], [], [])], [D.dat (B r)], [], [])) (by kernel_rfl) ⟨h1, trivial⟩
def hd89b (b : Bool) (out : List Dat) (at_ : Int) (ps : List Dat) (i : Int) : St := Nm [0, 7, 22, 23, 24] [.own 50 out, .dat (I at_), .dat (.lst b ps), .dat (I ps.length), .dat (I i)] [none, none, none, none, none] [] []
theorem lcFlat_go_b (kk m : Nat) {s : St} {K : X → St → Prop} (b : Bool) (out : List Dat) (at_ : Int) (ps : List Dat) (i kx nx : Int) (dx out' : List Dat) (hs : s.norm ((envOf cfg kk 89 Go.Proofs.Try.f89).live (firstRegion (lp Go.Proofs.Try.f89 4))) = hd89b b out at_ ps i) (h1 : decide (i < (ps.length : Int)) = true) (h2 : (0 ≤ i ∧ i < (ps.length : Int)) ∧ ps[i.toNat]? = some (T kx nx dx)) (h3 : decide ((out.length : Int) ≤ 150) = true) (h4 : den cfg kk 89 [D.own 50 out, D.dat (T kx nx dx), D.dat (I at_)] [] [] = some ([D.own 50 out'], [], [])) (hn : ∀ s : St, s.norm ((envOf cfg kk 89 Go.Proofs.Try.f89).live (firstRegion (lp Go.Proofs.Try.f89 4))) = Nm [0, 7, 22, 23, 24] [D.own 50 out', D.dat (I at_), D.dat (Dat.lst b ps), D.dat (I (ps.length : Int)), D.dat (I (w64 (i + 1)))] [none, none, none, none, none] [] [] → Rounds (envOf cfg kk 89 Go.Proofs.Try.f89) kk (lp Go.Proofs.Try.f89 4) m s K) : Rounds (envOf cfg kk 89 Go.Proofs.Try.f89) kk (lp Go.Proofs.Try.f89 4) (m + 1) s K :=
  rounds_go [(200025, .yes), (26, .at (T kx nx dx)), (200030, .yes), (34, .back [.own 50 out'] [] [])] hs (ps := [decide (i < (ps.length : Int)) = true, (0 ≤ i ∧ i < (ps.length : Int)) ∧ ps[i.toNat]? = some (T kx nx dx), decide ((out.length : Int) ≤ 150) = true, den cfg kk 89 [D.own 50 out, D.dat (T kx nx dx), D.dat (I at_)] [] [] = some ([D.own 50 out'], [], []), false = false]) (by kernel_rfl) ⟨h1, h2, h3, h4, rfl, trivial⟩ (by kernel_rfl) hn
theorem lcFlat_skip_b (kk m : Nat) {s : St} {K : X → St → Prop} (b : Bool) (out : List Dat) (at_ : Int) (ps : List Dat) (i kx nx : Int) (dx : List Dat) (hs : s.norm ((envOf cfg kk 89 Go.Proofs.Try.f89).live (firstRegion (lp Go.Proofs.Try.f89 4))) = hd89b b out at_ ps i) (h1 : decide (i < (ps.length : Int)) = true) (h2 : (0 ≤ i ∧ i < (ps.length : Int)) ∧ ps[i.toNat]? = some (T kx nx dx)) (h3 : decide ((out.length : Int) ≤ 150) = false) (hn : ∀ s : St, s.norm ((envOf cfg kk 89 Go.Proofs.Try.f89).live (firstRegion (lp Go.Proofs.Try.f89 4))) = Nm [0, 7, 22, 23, 24] [D.own 50 out, D.dat (I at_), D.dat (Dat.lst b ps), D.dat (I (ps.length : Int)), D.dat (I (w64 (i + 1)))] [none, none, none, none, none] [] [] → Rounds (envOf cfg kk 89 Go.Proofs.Try.f89) kk (lp Go.Proofs.Try.f89 4) m s K) : Rounds (envOf cfg kk 89 Go.Proofs.Try.f89) kk (lp Go.Proofs.Try.f89 4) (m + 1) s K :=
  rounds_go [(200025, .yes), (26, .at (T kx nx dx)), (200030, .no)] hs (ps := [decide (i < (ps.length : Int)) = true, (0 ≤ i ∧ i < (ps.length : Int)) ∧ ps[i.toNat]? = some (T kx nx dx), decide ((out.length : Int) ≤ 150) = false]) (by kernel_rfl) ⟨h1, h2, h3, trivial⟩ (by kernel_rfl) hn
theorem lcFlat_end_b (kk m : Nat) {s : St} {K : X → St → Prop} (b : Bool) (out : List Dat) (at_ : Int) (ps : List Dat) (i : Int) (hs : s.norm ((envOf cfg kk 89 Go.Proofs.Try.f89).live (firstRegion (lp Go.Proofs.Try.f89 4))) = hd89b b out at_ ps i) (h1 : decide (i < (ps.length : Int)) = false) (hK : K (X.exit 0) (Nm [0] [D.own 50 out] [none] [] [])) : Rounds (envOf cfg kk 89 Go.Proofs.Try.f89) kk (lp Go.Proofs.Try.f89 4) (m + 1) s K :=
  rounds_end [(200025, .no)] hs (ps := [decide (i < (ps.length : Int)) = false]) (x := X.exit 0) (by kernel_rfl) rfl ⟨h1, trivial⟩ (by kernel_rfl) hK
theorem lcFlat_b (kk : Nat) (b : Bool) (l : List Dat) (k n up : Int) (ps out : List Dat) (h1 : l.length + 1 ≤ 2147483648) (h3 : LoopAt cfg kk 89 Go.Proofs.Try.f89 4 (hd89b b (l ++ [N3 k n up]) ((l.length : Int)) ps 0) (X.exit 0) (Nm [0] [D.own 50 out] [none] [] [])) : runFn cfg kk (den cfg kk) 89 Go.Proofs.Try.f89 [.own 50 l, .dat (Dat.agg [I k, I n, Dat.lst b ps]), .dat (I up)] [] [] = some ([D.own 50 out], [], []) :=
  hrun_sound [(20, .ok), (300004, .loop (hd89b b (l ++ [N3 k n up]) l.length ps 0) (.exit 0) (Nm [0] [.own 50 out] [none] [] []))] (q := ([true = true ∧ l.length + 1 ≤ 2147483648, Nm [0, 7, 22, 23, 24] [D.own 50 (l ++ [N3 k n up]), D.dat (I (l.length : Int)), D.dat (Dat.lst b ps), D.dat (I (ps.length : Int)), D.dat (I 0)] [none, none, none, none, none] [] [] = hd89b b (l ++ [N3 k n up]) ((l.length : Int)) ps 0, LoopAt cfg kk 89 Go.Proofs.Try.f89 4 (hd89b b (l ++ [N3 k n up]) ((l.length : Int)) ps 0) (X.exit 0) (Nm [0] [D.own 50 out] [none] [] [])], [D.own 50 out], [], [])) (by kernel_rfl) ⟨⟨rfl, h1⟩, rfl, h3, trivial⟩
theorem lcTold_b_false (kk : Nat) (b : Bool) (k n : Int) (ps out : List Dat) (h1 : den cfg kk 89 [D.own 50 [], D.dat (Dat.agg [I k, I n, Dat.lst b ps]), D.dat (I (-1))] [] [] = some ([D.own 50 out], [], [])) (h4 : den cfg kk 44 [D.dat (Dat.lst true out)] [] [] = some ([D.dat (B false)], [], [])) : runFn cfg kk (den cfg kk) 46 Go.Proofs.Try.f46 [.dat (Dat.agg [I k, I n, Dat.lst b ps])] [] [] = some ([D.own 50 [], D.dat (B false)], [], []) :=
  hrun_sound [(6, .back [.own 50 out] [] []), (8, .ret [.dat (B false)])] (q := ([den cfg kk 89 [D.own 50 [], D.dat (Dat.agg [I k, I n, Dat.lst b ps]), D.dat (I (-1))] [] [] = some ([D.own 50 out], [], []), false = false, true = true, den cfg kk 44 [D.dat (Dat.lst true out)] [] [] = some ([D.dat (B false)], [], [])], [D.own 50 [], D.dat (B false)], [], [])) (by kernel_rfl) ⟨h1, rfl, rfl, h4, trivial⟩
theorem lcTold_b_true (kk : Nat) (b : Bool) (k n : Int) (ps out : List Dat) (h1 : den cfg kk 89 [D.own 50 [], D.dat (Dat.agg [I k, I n, Dat.lst b ps]), D.dat (I (-1))] [] [] = some ([D.own 50 out], [], [])) (h4 : den cfg kk 44 [D.dat (Dat.lst true out)] [] [] = some ([D.dat (B true)], [], [])) : runFn cfg kk (den cfg kk) 46 Go.Proofs.Try.f46 [.dat (Dat.agg [I k, I n, Dat.lst b ps])] [] [] = some ([D.own 50 out, D.dat (B true)], [], []) :=
  hrun_sound [(6, .back [.own 50 out] [] []), (8, .ret [.dat (B true)])] (q := ([den cfg kk 89 [D.own 50 [], D.dat (Dat.agg [I k, I n, Dat.lst b ps]), D.dat (I (-1))] [] [] = some ([D.own 50 out], [], []), false = false, true = true, den cfg kk 44 [D.dat (Dat.lst true out)] [] [] = some ([D.dat (B true)], [], [])], [D.own 50 out, D.dat (B true)], [], [])) (by kernel_rfl) ⟨h1, rfl, rfl, h4, trivial⟩
theorem isGood_big_b (kk : Nat) (b : Bool) (k n z : Int) (ps : List Dat) (h1 : den cfg kk 99 [D.dat (Dat.agg [I k, I n, Dat.lst b ps])] [] [] = some ([D.dat (I z)], [], [])) (h2 : decide (z ≤ 150) = false) : runFn cfg kk (den cfg kk) 91 Go.Proofs.Try.f91 [.dat (Dat.agg [I k, I n, Dat.lst b ps])] [] [] = some ([D.dat (B false)], [], []) :=
  hrun_sound [(4, .ret [.dat (I z)]), (200006, .no)] (q := ([den cfg kk 99 [D.dat (Dat.agg [I k, I n, Dat.lst b ps])] [] [] = some ([D.dat (I z)], [], []), decide (z ≤ 150) = false, false = false, false = false], [D.dat (B false)], [], [])) (by kernel_rfl) ⟨h1, h2, rfl, rfl, trivial⟩
theorem isGood_deep_b (kk : Nat) (b : Bool) (k n z d : Int) (ps : List Dat) (h1 : den cfg kk 99 [D.dat (Dat.agg [I k, I n, Dat.lst b ps])] [] [] = some ([D.dat (I z)], [], [])) (h2 : decide (z ≤ 150) = true) (h4 : den cfg kk 113 [D.dat (Dat.agg [I k, I n, Dat.lst b ps])] [] [] = some ([D.dat (I d)], [], [])) (h6 : decide (d ≤ 40) = false) : runFn cfg kk (den cfg kk) 91 Go.Proofs.Try.f91 [.dat (Dat.agg [I k, I n, Dat.lst b ps])] [] [] = some ([D.dat (B false)], [], []) :=
  hrun_sound [(4, .ret [.dat (I z)]), (200006, .yes), (8, .ret [.dat (I d)]), (200011, .no)] (q := ([den cfg kk 99 [D.dat (Dat.agg [I k, I n, Dat.lst b ps])] [] [] = some ([D.dat (I z)], [], []), decide (z ≤ 150) = true, true = true, den cfg kk 113 [D.dat (Dat.agg [I k, I n, Dat.lst b ps])] [] [] = some ([D.dat (I d)], [], []), true = true, decide (d ≤ 40) = false, false = false], [D.dat (B false)], [], [])) (by kernel_rfl) ⟨h1, h2, rfl, h4, rfl, h6, rfl, trivial⟩
theorem isGood_go_b (kk : Nat) (b : Bool) (k n z d : Int) (ps : List Dat) (g : Bool) (h1 : den cfg kk 99 [D.dat (Dat.agg [I k, I n, Dat.lst b ps])] [] [] = some ([D.dat (I z)], [], [])) (h2 : decide (z ≤ 150) = true) (h4 : den cfg kk 113 [D.dat (Dat.agg [I k, I n, Dat.lst b ps])] [] [] = some ([D.dat (I d)], [], [])) (h6 : decide (d ≤ 40) = true) (h8 : den cfg kk 114 [D.dat (Dat.agg [I k, I n, Dat.lst b ps])] [] [] = some ([D.dat (B g)], [], [])) : runFn cfg kk (den cfg kk) 91 Go.Proofs.Try.f91 [.dat (Dat.agg [I k, I n, Dat.lst b ps])] [] [] = some ([D.dat (B g)], [], []) :=
  hrun_sound [(4, .ret [.dat (I z)]), (200006, .yes), (8, .ret [.dat (I d)]), (200011, .yes), (13, .ret [.dat (B g)])] (q := ([den cfg kk 99 [D.dat (Dat.agg [I k, I n, Dat.lst b ps])] [] [] = some ([D.dat (I z)], [], []), decide (z ≤ 150) = true, true = true, den cfg kk 113 [D.dat (Dat.agg [I k, I n, Dat.lst b ps])] [] [] = some ([D.dat (I d)], [], []), true = true, decide (d ≤ 40) = true, true = true, den cfg kk 114 [D.dat (Dat.agg [I k, I n, Dat.lst b ps])] [] [] = some ([D.dat (B g)], [], [])], [D.dat (B g)], [], [])) (by kernel_rfl) ⟨h1, h2, rfl, h4, rfl, h6, rfl, h8, trivial⟩
def hd99b (b : Bool) (ps : List Dat) (acc i : Int) : St := Nm [3, 7, 8, 9] [.dat (I acc), .dat (.lst b ps), .dat (I ps.length), .dat (I i)] [none, none, none, none] [] []
theorem size_go_b (kk m : Nat) {s : St} {K : X → St → Prop} (b : Bool) (ps : List Dat) (acc i kx nx z : Int) (dx : List Dat) (hs : s.norm ((envOf cfg kk 99 Go.Proofs.Try.f99).live (firstRegion (lp Go.Proofs.Try.f99 3))) = hd99b b ps acc i) (h1 : decide (i < (ps.length : Int)) = true) (h2 : (0 ≤ i ∧ i < (ps.length : Int)) ∧ ps[i.toNat]? = some (T kx nx dx)) (h3 : den cfg kk 99 [D.dat (T kx nx dx)] [] [] = some ([D.dat (I z)], [], [])) (hn : ∀ s : St, s.norm ((envOf cfg kk 99 Go.Proofs.Try.f99).live (firstRegion (lp Go.Proofs.Try.f99 3))) = Nm [3, 7, 8, 9] [D.dat (I (w64 (acc + z))), D.dat (Dat.lst b ps), D.dat (I (ps.length : Int)), D.dat (I (w64 (i + 1)))] [none, none, none, none] [] [] → Rounds (envOf cfg kk 99 Go.Proofs.Try.f99) kk (lp Go.Proofs.Try.f99 3) m s K) : Rounds (envOf cfg kk 99 Go.Proofs.Try.f99) kk (lp Go.Proofs.Try.f99 3) (m + 1) s K :=
  rounds_go [(200010, .yes), (11, .at (T kx nx dx)), (15, .ret [.dat (I z)])] hs (ps := [decide (i < (ps.length : Int)) = true, (0 ≤ i ∧ i < (ps.length : Int)) ∧ ps[i.toNat]? = some (T kx nx dx), den cfg kk 99 [D.dat (T kx nx dx)] [] [] = some ([D.dat (I z)], [], [])]) (by kernel_rfl) ⟨h1, h2, h3, trivial⟩ (by kernel_rfl) hn
theorem size_end_b (kk m : Nat) {s : St} {K : X → St → Prop} (b : Bool) (ps : List Dat) (acc i : Int) (hs : s.norm ((envOf cfg kk 99 Go.Proofs.Try.f99).live (firstRegion (lp Go.Proofs.Try.f99 3))) = hd99b b ps acc i) (h1 : decide (i < (ps.length : Int)) = false) (hK : K (X.exit 0) (Nm [3] [D.dat (I acc)] [none] [] [])) : Rounds (envOf cfg kk 99 Go.Proofs.Try.f99) kk (lp Go.Proofs.Try.f99 3) (m + 1) s K :=
  rounds_end [(200010, .no)] hs (ps := [decide (i < (ps.length : Int)) = false]) (x := X.exit 0) (by kernel_rfl) rfl ⟨h1, trivial⟩ (by kernel_rfl) hK
theorem size_b (kk : Nat) (b : Bool) (k n acc : Int) (ps : List Dat) (h2 : LoopAt cfg kk 99 Go.Proofs.Try.f99 3 (hd99b b ps 1 0) (X.exit 0) (Nm [3] [D.dat (I acc)] [none] [] [])) : runFn cfg kk (den cfg kk) 99 Go.Proofs.Try.f99 [.dat (Dat.agg [I k, I n, Dat.lst b ps])] [] [] = some ([D.dat (I acc)], [], []) :=
  hrun_sound [(300003, .loop (hd99b b ps 1 0) (.exit 0) (Nm [3] [.dat (I acc)] [none] [] []))] (q := ([Nm [3, 7, 8, 9] [D.dat (I 1), D.dat (Dat.lst b ps), D.dat (I (ps.length : Int)), D.dat (I 0)] [none, none, none, none] [] [] = hd99b b ps 1 0, LoopAt cfg kk 99 Go.Proofs.Try.f99 3 (hd99b b ps 1 0) (X.exit 0) (Nm [3] [D.dat (I acc)] [none] [] [])], [D.dat (I acc)], [], [])) (by kernel_rfl) ⟨rfl, h2, trivial⟩
theorem depth_go_b (kk m : Nat) {s : St} {K : X → St → Prop} (b : Bool) (ps : List Dat) (acc i kx nx z : Int) (dx : List Dat) (hs : s.norm ((envOf cfg kk 113 Go.Proofs.Try.f113).live (firstRegion (lp Go.Proofs.Try.f113 3))) = hd99b b ps acc i) (h1 : decide (i < (ps.length : Int)) = true) (h2 : (0 ≤ i ∧ i < (ps.length : Int)) ∧ ps[i.toNat]? = some (T kx nx dx)) (h3 : den cfg kk 113 [D.dat (T kx nx dx)] [] [] = some ([D.dat (I z)], [], [])) (hn : ∀ s : St, s.norm ((envOf cfg kk 113 Go.Proofs.Try.f113).live (firstRegion (lp Go.Proofs.Try.f113 3))) = Nm [3, 7, 8, 9] [D.dat (I (if z > acc then z else acc)), D.dat (Dat.lst b ps), D.dat (I (ps.length : Int)), D.dat (I (w64 (i + 1)))] [none, none, none, none] [] [] → Rounds (envOf cfg kk 113 Go.Proofs.Try.f113) kk (lp Go.Proofs.Try.f113 3) m s K) : Rounds (envOf cfg kk 113 Go.Proofs.Try.f113) kk (lp Go.Proofs.Try.f113 3) (m + 1) s K :=
  rounds_go [(200010, .yes), (11, .at (T kx nx dx)), (15, .ret [.dat (I z)])] hs (ps := [decide (i < (ps.length : Int)) = true, (0 ≤ i ∧ i < (ps.length : Int)) ∧ ps[i.toNat]? = some (T kx nx dx), den cfg kk 113 [D.dat (T kx nx dx)] [] [] = some ([D.dat (I z)], [], [])]) (by kernel_rfl) ⟨h1, h2, h3, trivial⟩ (by kernel_rfl) hn
theorem depth_end_b (kk m : Nat) {s : St} {K : X → St → Prop} (b : Bool) (ps : List Dat) (acc i : Int) (hs : s.norm ((envOf cfg kk 113 Go.Proofs.Try.f113).live (firstRegion (lp Go.Proofs.Try.f113 3))) = hd99b b ps acc i) (h1 : decide (i < (ps.length : Int)) = false) (hK : K (X.exit 0) (Nm [3] [D.dat (I acc)] [none] [] [])) : Rounds (envOf cfg kk 113 Go.Proofs.Try.f113) kk (lp Go.Proofs.Try.f113 3) (m + 1) s K :=
  rounds_end [(200010, .no)] hs (ps := [decide (i < (ps.length : Int)) = false]) (x := X.exit 0) (by kernel_rfl) rfl ⟨h1, trivial⟩ (by kernel_rfl) hK
theorem depth_b (kk : Nat) (b : Bool) (k n acc : Int) (ps : List Dat) (h2 : LoopAt cfg kk 113 Go.Proofs.Try.f113 3 (hd99b b ps 0 0) (X.exit 0) (Nm [3] [D.dat (I acc)] [none] [] [])) : runFn cfg kk (den cfg kk) 113 Go.Proofs.Try.f113 [.dat (Dat.agg [I k, I n, Dat.lst b ps])] [] [] = some ([D.dat (I (w64 (acc + 1)))], [], []) :=
  hrun_sound [(300003, .loop (hd99b b ps 0 0) (.exit 0) (Nm [3] [.dat (I acc)] [none] [] []))] (q := ([Nm [3, 7, 8, 9] [D.dat (I 0), D.dat (Dat.lst b ps), D.dat (I (ps.length : Int)), D.dat (I 0)] [none, none, none, none] [] [] = hd99b b ps 0 0, LoopAt cfg kk 113 Go.Proofs.Try.f113 3 (hd99b b ps 0 0) (X.exit 0) (Nm [3] [D.dat (I acc)] [none] [] [])], [D.dat (I (w64 (acc + 1)))], [], [])) (by kernel_rfl) ⟨rfl, h2, trivial⟩
theorem areNumbers_neg_b (kk : Nat) (b : Bool) (k n : Int) (ps : List Dat) (h1 : decide (n < 0) = true) : runFn cfg kk (den cfg kk) 114 Go.Proofs.Try.f114 [.dat (Dat.agg [I k, I n, Dat.lst b ps])] [] [] = some ([D.dat (B false)], [], []) :=
  hrun_sound [(200006, .yes)] (q := ([decide (n < 0) = true, true = true, true = true], [D.dat (B false)], [], [])) (by kernel_rfl) ⟨h1, rfl, rfl, trivial⟩
theorem areNumbers_big_b (kk : Nat) (b : Bool) (k n : Int) (ps : List Dat) (h1 : decide (n < 0) = false) (h4 : decide (99 < n) = true) : runFn cfg kk (den cfg kk) 114 Go.Proofs.Try.f114 [.dat (Dat.agg [I k, I n, Dat.lst b ps])] [] [] = some ([D.dat (B false)], [], []) :=
  hrun_sound [(200006, .no), (200011, .yes)] (q := ([decide (n < 0) = false, false = false, false = false, decide (99 < n) = true, true = true, true = true, true = true, true = true], [D.dat (B false)], [], [])) (by kernel_rfl) ⟨h1, rfl, rfl, h4, rfl, rfl, rfl, rfl, trivial⟩
theorem areNumbers_lam_b (kk : Nat) (b : Bool) (k n : Int) (ps : List Dat) (h1 : decide (n < 0) = false) (h4 : decide (99 < n) = false) (h8 : (!decide (k = 1)) = true) (h12 : (!decide (n = 0)) = true) : runFn cfg kk (den cfg kk) 114 Go.Proofs.Try.f114 [.dat (Dat.agg [I k, I n, Dat.lst b ps])] [] [] = some ([D.dat (B false)], [], []) :=
  hrun_sound [(200006, .no), (200011, .no), (200015, .yes), (200020, .yes)] (q := ([decide (n < 0) = false, false = false, false = false, decide (99 < n) = false, false = false, false = false, false = false, (!decide (k = 1)) = true, true = true, true = true, false = false, (!decide (n = 0)) = true], [D.dat (B false)], [], [])) (by kernel_rfl) ⟨h1, rfl, rfl, h4, rfl, rfl, rfl, h8, rfl, rfl, rfl, h12, trivial⟩
theorem areNumbers_ok0_b (kk : Nat) (b : Bool) (k n : Int) (ps : List Dat) (g : Bool) (h1 : decide (n < 0) = false) (h4 : decide (99 < n) = false) (h8 : (!decide (k = 1)) = true) (h12 : (!decide (n = 0)) = false) (h13 : den cfg kk 118 [D.dat (Dat.lst b ps), D.fn 119 []] [] [] = some ([D.dat (B g)], [], [])) : runFn cfg kk (den cfg kk) 114 Go.Proofs.Try.f114 [.dat (Dat.agg [I k, I n, Dat.lst b ps])] [] [] = some ([D.dat (B !g)], [], []) :=
  hrun_sound [(200006, .no), (200011, .no), (200015, .yes), (200020, .no), (23, .back [.dat (B g)] [] [])] (q := ([decide (n < 0) = false, false = false, false = false, decide (99 < n) = false, false = false, false = false, false = false, (!decide (k = 1)) = true, true = true, true = true, false = false, (!decide (n = 0)) = false, den cfg kk 118 [D.dat (Dat.lst b ps), D.fn 119 []] [] [] = some ([D.dat (B g)], [], []), false = false], [D.dat (B !g)], [], [])) (by kernel_rfl) ⟨h1, rfl, rfl, h4, rfl, rfl, rfl, h8, rfl, rfl, rfl, h12, h13, rfl, trivial⟩
theorem areNumbers_ok1_b (kk : Nat) (b : Bool) (k n : Int) (ps : List Dat) (g : Bool) (h1 : decide (n < 0) = false) (h4 : decide (99 < n) = false) (h8 : (!decide (k = 1)) = false) (h12 : den cfg kk 118 [D.dat (Dat.lst b ps), D.fn 119 []] [] [] = some ([D.dat (B g)], [], [])) : runFn cfg kk (den cfg kk) 114 Go.Proofs.Try.f114 [.dat (Dat.agg [I k, I n, Dat.lst b ps])] [] [] = some ([D.dat (B !g)], [], []) :=
  hrun_sound [(200006, .no), (200011, .no), (200015, .no), (23, .back [.dat (B g)] [] [])] (q := ([decide (n < 0) = false, false = false, false = false, decide (99 < n) = false, false = false, false = false, false = false, (!decide (k = 1)) = false, false = false, false = false, false = false, den cfg kk 118 [D.dat (Dat.lst b ps), D.fn 119 []] [] [] = some ([D.dat (B g)], [], []), false = false], [D.dat (B !g)], [], [])) (by kernel_rfl) ⟨h1, rfl, rfl, h4, rfl, rfl, rfl, h8, rfl, rfl, rfl, h12, rfl, trivial⟩
theorem contains_b (kk : Nat) (b : Bool) (es : List Dat) (i : Int) (h1 : den cfg kk 132 [D.dat (Dat.lst b es), D.fn 119 []] [] [] = some ([D.dat (I i)], [], [])) : runFn cfg kk (den cfg kk) 118 Go.Proofs.Try.f118 [.dat (Dat.lst b es), .fn 119 []] [] [] = some ([D.dat (B (decide (0 ≤ i)))], [], []) :=
  hrun_sound [(7, .back [.dat (I i)] [] [])] (q := ([den cfg kk 132 [D.dat (Dat.lst b es), D.fn 119 []] [] [] = some ([D.dat (I i)], [], []), false = false], [D.dat (B (decide (0 ≤ i)))], [], [])) (by kernel_rfl) ⟨h1, rfl, trivial⟩
def hd132b (b : Bool) (es : List Dat) (i : Int) : St := Nm [0, 1, 7, 8] [.dat (.lst b es), .fn 119 [], .dat (I es.length), .dat (I i)] [none, none, none, none] [] []
theorem index_go_b (kk m : Nat) {s : St} {K : X → St → Prop} (b : Bool) (es : List Dat) (i k n : Int) (ps : List Dat) (hs : s.norm ((envOf cfg kk 132 Go.Proofs.Try.f132).live (firstRegion (lp Go.Proofs.Try.f132 2))) = hd132b b es i) (h1 : decide (i < (es.length : Int)) = true) (h2 : (0 ≤ i ∧ i < (es.length : Int)) ∧ es[i.toNat]? = some (T k n ps)) (h3 : den cfg kk 119 [D.dat (T k n ps)] [] [] = some ([D.dat (B false)], [], [])) (hn : ∀ s : St, s.norm ((envOf cfg kk 132 Go.Proofs.Try.f132).live (firstRegion (lp Go.Proofs.Try.f132 2))) = Nm [0, 1, 7, 8] [D.dat (Dat.lst b es), D.fn 119 [], D.dat (I (es.length : Int)), D.dat (I (w64 (i + 1)))] [none, none, none, none] [] [] → Rounds (envOf cfg kk 132 Go.Proofs.Try.f132) kk (lp Go.Proofs.Try.f132 2) m s K) : Rounds (envOf cfg kk 132 Go.Proofs.Try.f132) kk (lp Go.Proofs.Try.f132 2) (m + 1) s K :=
  rounds_go [(200009, .yes), (14, .at (T k n ps)), (16, .ret [.dat (B false)])] hs (ps := [decide (i < (es.length : Int)) = true, (0 ≤ i ∧ i < (es.length : Int)) ∧ es[i.toNat]? = some (T k n ps), den cfg kk 119 [D.dat (T k n ps)] [] [] = some ([D.dat (B false)], [], [])]) (by kernel_rfl) ⟨h1, h2, h3, trivial⟩ (by kernel_rfl) hn
theorem index_hit_b (kk m : Nat) {s : St} {K : X → St → Prop} (b : Bool) (es : List Dat) (i k n : Int) (ps : List Dat) (hs : s.norm ((envOf cfg kk 132 Go.Proofs.Try.f132).live (firstRegion (lp Go.Proofs.Try.f132 2))) = hd132b b es i) (h1 : decide (i < (es.length : Int)) = true) (h2 : (0 ≤ i ∧ i < (es.length : Int)) ∧ es[i.toNat]? = some (T k n ps)) (h3 : den cfg kk 119 [D.dat (T k n ps)] [] [] = some ([D.dat (B true)], [], [])) (hK : K (X.ret) (Nm [4] [D.dat (I i)] [none] [] [])) : Rounds (envOf cfg kk 132 Go.Proofs.Try.f132) kk (lp Go.Proofs.Try.f132 2) (m + 1) s K :=
  rounds_end [(200009, .yes), (14, .at (T k n ps)), (16, .ret [.dat (B true)])] hs (ps := [decide (i < (es.length : Int)) = true, (0 ≤ i ∧ i < (es.length : Int)) ∧ es[i.toNat]? = some (T k n ps), den cfg kk 119 [D.dat (T k n ps)] [] [] = some ([D.dat (B true)], [], [])]) (x := X.ret) (by kernel_rfl) rfl ⟨h1, h2, h3, trivial⟩ (by kernel_rfl) hK
theorem index_end_b (kk m : Nat) {s : St} {K : X → St → Prop} (b : Bool) (es : List Dat) (i : Int) (hs : s.norm ((envOf cfg kk 132 Go.Proofs.Try.f132).live (firstRegion (lp Go.Proofs.Try.f132 2))) = hd132b b es i) (h1 : decide (i < (es.length : Int)) = false) (hK : K (X.exit 0) (Nm [4] [D.junk] [none] [] [])) : Rounds (envOf cfg kk 132 Go.Proofs.Try.f132) kk (lp Go.Proofs.Try.f132 2) (m + 1) s K :=
  rounds_end [(200009, .no)] hs (ps := [decide (i < (es.length : Int)) = false]) (x := X.exit 0) (by kernel_rfl) rfl ⟨h1, trivial⟩ (by kernel_rfl) hK
theorem index_n_b (kk : Nat) (b : Bool) (es : List Dat) (h2 : LoopAt cfg kk 132 Go.Proofs.Try.f132 2 (hd132b b es 0) (X.exit 0) (Nm [4] [D.junk] [none] [] [])) : runFn cfg kk (den cfg kk) 132 Go.Proofs.Try.f132 [.dat (Dat.lst b es), .fn 119 []] [] [] = some ([D.dat (I (-1))], [], []) :=
  hrun_sound [(300002, .loop (hd132b b es 0) (.exit 0) (Nm [4] [.junk] [none] [] []))] (q := ([Nm [0, 1, 7, 8] [D.dat (Dat.lst b es), D.fn 119 [], D.dat (I (es.length : Int)), D.dat (I 0)] [none, none, none, none] [] [] = hd132b b es 0, LoopAt cfg kk 132 Go.Proofs.Try.f132 2 (hd132b b es 0) (X.exit 0) (Nm [4] [D.junk] [none] [] [])], [D.dat (I (-1))], [], [])) (by kernel_rfl) ⟨rfl, h2, trivial⟩
theorem index_y_b (kk : Nat) (b : Bool) (es : List Dat) (j : Int) (h2 : LoopAt cfg kk 132 Go.Proofs.Try.f132 2 (hd132b b es 0) X.ret (Nm [4] [D.dat (I j)] [none] [] [])) : runFn cfg kk (den cfg kk) 132 Go.Proofs.Try.f132 [.dat (Dat.lst b es), .fn 119 []] [] [] = some ([D.dat (I j)], [], []) :=
  hrun_sound [(300002, .loop (hd132b b es 0) .ret (Nm [4] [.dat (I j)] [none] [] []))] (q := ([Nm [0, 1, 7, 8] [D.dat (Dat.lst b es), D.fn 119 [], D.dat (I (es.length : Int)), D.dat (I 0)] [none, none, none, none] [] [] = hd132b b es 0, LoopAt cfg kk 132 Go.Proofs.Try.f132 2 (hd132b b es 0) X.ret (Nm [4] [D.dat (I j)] [none] [] [])], [D.dat (I j)], [], [])) (by kernel_rfl) ⟨rfl, h2, trivial⟩
end Go.Den
/- What functions come to (10): terms whose parts are only lent. -/
namespace Go.Den
open Go
set_option linter.unusedVariables false
set_option maxRecDepth 100000

/-- A term's data, with its list of parts lent or not. -/
def Pt.db (b : Bool) (t : Pt) : Dat := .agg [I t.kd, I t.num, .lst b (t.kids.map Pt.d)]
theorem Pt.d_db (t : Pt) : t.d = t.db false := t.d_eq
theorem ev_size_b (b : Bool) : ∀ (d : Nat) (t : Pt), t.depth ≤ d → t.size ≤ 1000000000000 → EvN (d + 5) 99 [.dat (t.db b)] [] [] ([.dat (I t.size)], [], [])
  | 0, t, hd, hz => by have := t.depth_pos; omega
  | d + 1, t, hd, hz => by
    refine ev_fn Go.Proofs.Try.f99 (d + 5) (by kernel_rfl) (by kernel_rfl) fun kk hkk => ?_
    unfold Pt.db
    refine size_b kk b _ _ _ _ ?_
    have hle := t.kids_le
    have hsz := t.size_kids
    let st := fun i : Nat => hd99b b (t.kids.map Pt.d) ((1 + ((t.kids.take i).map Pt.size).sum : Nat) : Int) i
    refine loopAt_range st t.kids.length (by omega) (fun i hi m s K hs hn => ?_) (fun m s K hs hK => ?_) (by simp [st])
    · obtain ⟨x, h1, h2, h3⟩ := kid_at hi
      have hx := Pt.kids_lt h2
      have hev := ev_size d x (by omega) (by omega) kk (by omega)
      rw [Pt.d_eq] at hev
      have hto : ((i : Int)).toNat = i := by simp
      refine size_go_b kk m b _ _ _ x.kd x.num x.size _ hs (decide_eq_true (by simp; omega)) ⟨⟨by omega, by simp; omega⟩, by rw [hto]; exact h3⟩ hev fun s' hs' => hn s' ?_
      have hb := sum_le (ks := t.kids) i
      have hb2 := sum_le (ks := t.kids) (i + 1)
      have hstep : ((t.kids.take (i + 1)).map Pt.size).sum = ((t.kids.take i).map Pt.size).sum + x.size := by
        rw [List.take_add_one, h1]
        simp
      rw [hs', w64_eq (n := (i : Int) + 1) (by omega), w64_eq (by omega)]
      simp only [st, hd99b, hstep]
      congr 4
      · congr 1; omega
    · have hs' : s.norm _ = hd99b b (t.kids.map Pt.d) ((1 + ((t.kids.take t.kids.length).map Pt.size).sum : Nat) : Int) t.kids.length := hs
      rw [List.take_length, ← hsz] at hs'
      exact size_end_b kk m b _ _ _ hs' (decide_eq_false (by simp)) hK
theorem ev_depth_b (b : Bool) : ∀ (d : Nat) (t : Pt), t.depth ≤ d → t.size ≤ 1000000000000 → EvN (d + 5) 113 [.dat (t.db b)] [] [] ([.dat (I t.depth)], [], [])
  | 0, t, hd, hz => by have := t.depth_pos; omega
  | d + 1, t, hd, hz => by
    refine ev_fn Go.Proofs.Try.f113 (d + 5) (by kernel_rfl) (by kernel_rfl) fun kk hkk => ?_
    have hdle := t.depth_le
    have hdk := t.depth_kids
    have hfin : w64 ((maxd t.kids : Nat) + 1) = t.depth := (w64_eq (by omega)).trans (by omega)
    rw [← hfin]
    unfold Pt.db
    refine depth_b kk b _ _ _ _ ?_
    have hle := t.kids_le
    let st := fun i : Nat => hd99b b (t.kids.map Pt.d) (maxd (t.kids.take i) : Nat) i
    refine loopAt_range st t.kids.length (by omega) (fun i hi m s K hs hn => ?_) (fun m s K hs hK => ?_) (by simp [st, maxd])
    · obtain ⟨x, h1, h2, h3⟩ := kid_at hi
      have hx := Pt.kids_lt h2
      have hev := ev_depth d x (by omega) (by omega) kk (by omega)
      rw [Pt.d_eq] at hev
      have hto : ((i : Int)).toNat = i := by simp
      refine depth_go_b kk m b _ _ _ x.kd x.num x.depth _ hs (decide_eq_true (by simp; omega)) ⟨⟨by omega, by simp; omega⟩, by rw [hto]; exact h3⟩ hev fun s' hs' => hn s' ?_
      have hstep : maxd (t.kids.take (i + 1)) = max (maxd (t.kids.take i)) x.depth := by
        rw [List.take_add_one, h1, maxd_append]
        simp [maxd]
      rw [hs', w64_eq (n := (i : Int) + 1) (by omega)]
      simp only [st, hd99b, hstep]
      congr 4
      · congr 1
        split <;> omega
    · have hs' : s.norm _ = hd99b b (t.kids.map Pt.d) (maxd (t.kids.take t.kids.length) : Nat) t.kids.length := hs
      rw [List.take_length] at hs'
      exact depth_end_b kk m b _ _ _ hs' (decide_eq_false (by simp)) hK
theorem ev_nums_b (b : Bool) : ∀ (d : Nat) (t : Pt), t.depth ≤ d → EvN (4 * d + 5) 114 [.dat (t.db b)] [] [] ([.dat (B t.nums)], [], [])
  | 0, t, hd => by have := t.depth_pos; omega
  | d + 1, t, hd => by
    have hle := t.kids_le
    have hkid : ∀ x ∈ t.kids, EvN (4 * d + 6) 119 [.dat x.d] [] [] ([.dat (B !x.nums)], [], []) := fun x hx => by
      refine ev_fn Go.Proofs.Try.f119 (4 * d + 5) (by kernel_rfl) (by kernel_rfl) fun kk hkk => ?_
      have := ev_nums d x (by have := Pt.kids_lt hx; omega) kk (by omega)
      rw [Pt.d_eq] at this ⊢
      exact areNumbers1 kk _ _ _ _ this
    have hidx : ∃ j : Int, EvN (4 * d + 7) 132 [.dat (.lst b (t.kids.map Pt.d)), .fn 119 []] [] [] ([.dat (I j)], [], []) ∧ decide (0 ≤ j) = !(t.kids.all Pt.nums) := by
      cases hall : t.kids.all Pt.nums with
      | true =>
        refine ⟨-1, ev_fn Go.Proofs.Try.f132 (4 * d + 6) (by kernel_rfl) (by kernel_rfl) fun kk hkk => ?_, rfl⟩
        refine index_n_b kk b _ ?_
        refine loopAt_range (fun i => hd132b b (t.kids.map Pt.d) i) t.kids.length (by omega) (fun i hi m s K hs hn => ?_) (fun m s K hs hK => ?_) rfl
        · obtain ⟨x, h1, h2, h3⟩ := kid_at hi
          have hto : ((i : Int)).toNat = i := by simp
          have hev := hkid x h2 kk (by omega)
          rw [Pt.d_eq, (List.all_eq_true.1 hall) x h2] at hev
          refine index_go_b kk m b _ _ _ _ _ hs (decide_eq_true (by simp; omega)) ⟨⟨by omega, by simp; omega⟩, by rw [hto]; exact h3⟩ hev fun s' hs' => hn s' ?_
          rw [hs', w64_eq (n := (i : Int) + 1) (by omega)]
          rfl
        · exact index_end_b kk m b _ _ hs (decide_eq_false (by simp)) hK
      | false =>
        obtain ⟨j, x, h1, h2, h3⟩ := first_bad Pt.nums hall
        have hj := (List.getElem?_eq_some_iff.1 h1).1
        refine ⟨j, ev_fn Go.Proofs.Try.f132 (4 * d + 6) (by kernel_rfl) (by kernel_rfl) fun kk hkk => ?_, by simp⟩
        refine index_y_b kk b _ _ ?_
        refine loopAt_range (fun i => hd132b b (t.kids.map Pt.d) i) j (by omega) (fun i hi m s K hs hn => ?_) (fun m s K hs hK => ?_) rfl
        · obtain ⟨y, h4, h5, h6⟩ := kid_at (ks := t.kids) (i := i) (by omega)
          have hto : ((i : Int)).toNat = i := by simp
          have hev := hkid y h5 kk (by omega)
          rw [Pt.d_eq, h3 i y hi h4] at hev
          refine index_go_b kk m b _ _ _ _ _ hs (decide_eq_true (by simp; omega)) ⟨⟨by omega, by simp; omega⟩, by rw [hto]; exact h6⟩ hev fun s' hs' => hn s' ?_
          rw [hs', w64_eq (n := (i : Int) + 1) (by omega)]
          rfl
        · obtain ⟨y, h4, h5, h6⟩ := kid_at (ks := t.kids) (i := j) (by omega)
          rw [h1] at h4
          cases h4
          have hto : ((j : Int)).toNat = j := by simp
          have hev := hkid x h5 kk (by omega)
          rw [Pt.d_eq, h2] at hev
          exact index_hit_b kk m b _ _ _ _ _ hs (decide_eq_true (by simp; omega)) ⟨⟨by omega, by simp; omega⟩, by rw [hto]; exact h6⟩ hev hK
    obtain ⟨j, hj, hjb⟩ := hidx
    have hcon : EvN (4 * d + 8) 118 [.dat (.lst b (t.kids.map Pt.d)), .fn 119 []] [] [] ([.dat (B (!(t.kids.all Pt.nums)))], [], []) := by
      refine ev_fn Go.Proofs.Try.f118 (4 * d + 7) (by kernel_rfl) (by kernel_rfl) fun kk hkk => ?_
      rw [← hjb]
      exact contains_b kk b _ j (hj kk (by omega))
    refine ev_fn Go.Proofs.Try.f114 (4 * d + 8) (by kernel_rfl) (by kernel_rfl) fun kk hkk => ?_
    have hc := hcon kk (by omega)
    rw [Pt.nums_kids]
    unfold Pt.db
    by_cases h1 : t.num < 0
    · rw [areNumbers_neg_b kk b _ _ _ (decide_eq_true h1)]
      have : t.own = false := by
        cases t <;> simp only [Pt.num] at h1 <;> simp [Pt.own] <;> omega
      rw [this, Bool.false_and]
    · by_cases h2 : 99 < t.num
      · rw [areNumbers_big_b kk b _ _ _ (decide_eq_false h1) (decide_eq_true h2)]
        have : t.own = false := by
          cases t <;> simp only [Pt.num] at h2 <;> simp [Pt.own] <;> omega
        rw [this, Bool.false_and]
      · cases t with
        | var n =>
          have h3 : decide (0 ≤ n) = true := decide_eq_true (by simp only [Pt.num] at h1; omega)
          have h4 : decide (n ≤ 99) = true := decide_eq_true (by simp only [Pt.num] at h2; omega)
          rw [areNumbers_ok1_b kk b _ _ _ _ (decide_eq_false h1) (decide_eq_false h2) rfl hc]
          simp [Pt.own, h3, h4]
        | lam n x =>
          by_cases h5 : n = 0
          · rw [areNumbers_ok0_b kk b _ _ _ _ (decide_eq_false h1) (decide_eq_false h2) rfl (by simp [Pt.num, h5]) hc]
            simp [Pt.own, h5]
          · rw [areNumbers_lam_b kk b _ _ _ (decide_eq_false h1) (decide_eq_false h2) rfl (by simp [Pt.num, h5])]
            simp [Pt.own, h5]
        | app n x y =>
          by_cases h5 : n = 0
          · rw [areNumbers_ok0_b kk b _ _ _ _ (decide_eq_false h1) (decide_eq_false h2) rfl (by simp [Pt.num, h5]) hc]
            simp [Pt.own, h5]
          · rw [areNumbers_lam_b kk b _ _ _ (decide_eq_false h1) (decide_eq_false h2) rfl (by simp [Pt.num, h5])]
            simp [Pt.own, h5]
/-- 'isGood'. -/
theorem ev_good_b (b : Bool) (t : Pt) (hz : t.size ≤ 1000000000000) (d : Nat) (hd : t.depth ≤ d) : EvN (4 * d + 7) 91 [.dat (t.db b)] [] [] ([.dat (B t.good)], [], []) := by
  refine ev_fn Go.Proofs.Try.f91 (4 * d + 6) (by kernel_rfl) (by kernel_rfl) fun kk hkk => ?_
  have h1 := ev_size_b b d t hd hz kk (by omega)
  have h2 := ev_depth_b b d t hd hz kk (by omega)
  have h3 := ev_nums_b b d t hd kk (by omega)
  unfold Pt.db at h1 h2 h3 ⊢
  unfold Pt.good
  by_cases a1 : t.size ≤ 150
  · by_cases a2 : t.depth ≤ 40
    · rw [isGood_go_b kk b _ _ _ _ _ _ h1 (decide_eq_true (by omega)) h2 (decide_eq_true (by omega)) h3]
      simp [a1, a2]
    · rw [isGood_deep_b kk b _ _ _ _ _ h1 (decide_eq_true (by omega)) h2 (decide_eq_false (by omega))]
      simp [a1, a2]
  · rw [isGood_big_b kk b _ _ _ _ h1 (decide_eq_false (by omega))]
    simp [a1]
theorem ev_lcFlat_b (b : Bool) : ∀ (d : Nat) (t : Pt) (l : List Nd) (up : Int), t.depth ≤ d → l.length ≤ 150 → t.size ≤ 1000000000 →
    EvN (d + 5) 89 [.own 50 (l.map Nd.d), .dat (t.db b), .dat (I up)] [] [] ([.own 50 ((flatS t l up).map Nd.d)], [], [])
  | 0, t, l, up, hd, hl, hz => by have := t.depth_pos; omega
  | d + 1, t, l, up, hd, hl, hz => by
    refine ev_fn Go.Proofs.Try.f89 (d + 5) (by kernel_rfl) (by kernel_rfl) fun kk hkk => ?_
    have hle := t.kids_le
    have hsz := t.size_kids
    rw [flatS_kids]
    unfold Pt.db
    have hll : ((l.map Nd.d).length : Int) = l.length := by simp
    refine lcFlat_b kk b _ _ _ up _ _ (by simp; omega) ?_
    rw [hll]
    let acc := fun i : Nat => (t.kids.take i).foldl (stp l.length) (l ++ [⟨t.kd, t.num, up⟩])
    let st := fun i : Nat => hd89b b ((acc i).map Nd.d) l.length (t.kids.map Pt.d) i
    refine loopAt_range st t.kids.length (by omega) (fun i hi m s K hs hn => ?_) (fun m s K hs hK => ?_) (by simp [st, acc]; rfl)
    · obtain ⟨x, h1, h2, h3⟩ := kid_at hi
      have hx := Pt.kids_lt h2
      have hto : ((i : Int)).toNat = i := by simp
      have hal : (((acc i).map Nd.d).length : Int) = (acc i).length := by simp
      have hacc : acc (i + 1) = stp l.length (acc i) x := foldl_step h1 _ _
      by_cases hc : (acc i).length ≤ 150
      · have hev := ev_lcFlat d x (acc i) l.length (by omega) hc (by omega) kk (by omega)
        rw [Pt.d_eq] at hev
        refine lcFlat_go_b kk m b _ _ _ _ x.kd x.num _ _ hs (decide_eq_true (by simp; omega)) ⟨⟨by omega, by simp; omega⟩, by rw [hto]; exact h3⟩ (decide_eq_true (by omega)) hev fun s' hs' => hn s' ?_
        have : acc (i + 1) = flatS x (acc i) l.length := by rw [hacc]; unfold stp; rw [if_pos hc]
        rw [hs', w64_eq (n := (i : Int) + 1) (by omega), ← this]
        rfl
      · refine lcFlat_skip_b kk m b _ _ _ _ x.kd x.num _ hs (decide_eq_true (by simp; omega)) ⟨⟨by omega, by simp; omega⟩, by rw [hto]; exact h3⟩ (decide_eq_false (by omega)) fun s' hs' => hn s' ?_
        have : acc (i + 1) = acc i := by rw [hacc]; unfold stp; rw [if_neg hc]
        rw [hs', w64_eq (n := (i : Int) + 1) (by omega), ← this]
        rfl
    · refine lcFlat_end_b kk m b _ _ _ _ hs (decide_eq_false (by simp)) ?_
      have : acc t.kids.length = t.kids.foldl (stp l.length) (l ++ [⟨t.kd, t.num, up⟩]) := by simp only [acc, List.take_length]
      rw [this]
      exact hK

theorem ev_lcTold_b (b : Bool) (t : Pt) (hz : t.size ≤ 1000000) : EvN (t.depth + 1000210) 46 [.dat (t.db b)] [] [] ([.own 50 ((if t.good = true then t.flat 0 (-1) else []).map Nd.d), .dat (B t.good)], [], []) := by
  refine ev_fn Go.Proofs.Try.f46 (t.depth + 1000209) (by kernel_rfl) (by kernel_rfl) fun kk hkk => ?_
  have h1 := ev_lcFlat_b b t.depth t [] (-1) (Nat.le_refl _) (by simp) (by omega) kk (by omega)
  have hb := (flatS_facts t [] (-1) (by simp)).2
  have h2 := ev_GoodTerm (flatS t [] (-1)) true (by simp at hb; omega) kk (by omega)
  have hgood : goodS (flatS t [] (-1)) = t.good := by
    by_cases hs : t.size ≤ 150
    · rw [flatS_small hs, goodS_flat]
    · have h3 := flatS_big (t := t) (by omega)
      have : t.good = false := by
        cases hg : t.good with
        | false => rfl
        | true => exact (hs (good_facts hg).1).elim
      rw [this]
      cases hg : goodS (flatS t [] (-1)) with
      | false => rfl
      | true => have := (goodS_iff.1 hg).1.2; omega
  rw [hgood] at h2
  unfold Pt.db at h1 ⊢
  cases hg : t.good with
  | true =>
    rw [hg] at h2
    rw [flatS_small (good_facts hg).1] at h1 h2
    rw [if_pos rfl]
    exact lcTold_b_true kk b _ _ _ _ h1 h2
  | false =>
    rw [hg] at h2
    rw [if_neg (fun h => by cases h)]
    exact lcTold_b_false kk b _ _ _ _ h1 h2
/-- 'lcFine'. -/
theorem ev_lcFine (b : Bool) (t : Pt) (hz : t.size ≤ 1000000) : EvN (t.depth + 1000211) 84 [.dat (t.db b)] [] [] ([.dat (B t.good)], [], []) := by
  refine ev_fn Go.Proofs.Try.f84 (t.depth + 1000210) (by kernel_rfl) (by kernel_rfl) fun kk hkk => ?_
  have h := ev_lcTold_b b t hz kk (by omega)
  unfold Pt.db at h ⊢
  exact lcFine_b kk b _ _ _ _ _ h
end Go.Den
/- What functions come to (11): redexes, development. -/
namespace Go.Den
open Go
set_option linter.unusedVariables false
set_option maxRecDepth 100000

def Pt.isRedex : Pt → Bool
  | .app _ a _ => decide (a.kd = 2)
  | _ => false
def Pt.beta : Pt → Pt
  | .app _ (.lam _ x) y => sub 0 y 0 x
  | t => t
/-- A term with something done to each of its parts. -/
def Pt.over (g : Pt → Pt) : Pt → Pt
  | .var n => .var n
  | .lam n x => .lam n (g x)
  | .app n a c => .app n (g a) (g c)
theorem over_kids (g : Pt → Pt) (t : Pt) : (t.over g).kids = t.kids.map g := by cases t <;> rfl
theorem over_kd (g : Pt → Pt) (t : Pt) : (t.over g).kd = t.kd := by cases t <;> rfl
theorem over_num (g : Pt → Pt) (t : Pt) : (t.over g).num = t.num := by cases t <;> rfl
def fine (t : Pt) : Option Pt := if t.good = true then some t else none
theorem fine_some {t r : Pt} (h : fine t = some r) : r = t ∧ t.good = true := by
  unfold fine at h
  split at h
  · rename_i hg
    cases h
    exact ⟨rfl, hg⟩
  · cases h
/-- A term with all its redexes reduced at once. -/
def dev : Pt → Option Pt
  | .var n => fine (.var n)
  | .lam n x => (dev x).bind fun x' => fine (.lam n x')
  | .app n a c => (dev a).bind fun a' => (dev c).bind fun c' => fine (if (Pt.app n a c).isRedex = true then (Pt.app n a' c').beta else .app n a' c')
theorem dev_good : ∀ {t r : Pt}, dev t = some r → r.good = true
  | .var n, r, h => by
    obtain ⟨rfl, hg⟩ := fine_some h
    exact hg
  | .lam n x, r, h => by
    simp only [dev, Option.bind_eq_some_iff] at h
    obtain ⟨x', _, h⟩ := h
    obtain ⟨rfl, hg⟩ := fine_some h
    exact hg
  | .app n a c, r, h => by
    simp only [dev, Option.bind_eq_some_iff] at h
    obtain ⟨a', _, c', _, h⟩ := h
    obtain ⟨rfl, hg⟩ := fine_some h
    exact hg
/-- What a part comes to (if it comes to something). -/
def devT (t : Pt) : Pt := (dev t).getD t
theorem devT_eq {t r : Pt} (h : dev t = some r) : devT t = r := by unfold devT; rw [h]; rfl
theorem dev_all {t : Pt} (h : ∀ x ∈ t.kids, (dev x).isSome = true) : dev t = fine (if t.isRedex = true then (t.over devT).beta else t.over devT) := by
  cases t with
  | var n => rfl
  | lam n x =>
    obtain ⟨x', hx⟩ := Option.isSome_iff_exists.1 (h x (by simp [Pt.kids]))
    simp only [dev, hx, Option.bind_some, Pt.over, devT_eq hx]
    rfl
  | app n a c =>
    obtain ⟨a', ha⟩ := Option.isSome_iff_exists.1 (h a (by simp [Pt.kids]))
    obtain ⟨c', hc⟩ := Option.isSome_iff_exists.1 (h c (by simp [Pt.kids]))
    simp only [dev, ha, hc, Option.bind_some, Pt.over, devT_eq ha, devT_eq hc]
theorem dev_bad {t x : Pt} (hx : x ∈ t.kids) (h : (dev x).isSome = false) : dev t = none := by
  have h : dev x = none := by cases hd : dev x with
    | none => rfl
    | some r => rw [hd] at h; cases h
  cases t with
  | var n => cases hx
  | lam n y =>
    simp only [Pt.kids, List.mem_singleton] at hx
    subst hx
    simp only [dev, h, Option.bind_none]
  | app n a c =>
    simp only [Pt.kids, List.mem_cons, List.not_mem_nil, or_false] at hx
    rcases hx with rfl | rfl
    · simp only [dev, h, Option.bind_none]
    · simp only [dev, h, Option.bind_none]
      cases dev a <;> rfl
theorem pt_clean : ∀ t : Pt, Dat.clean t.d = true
  | .var n => rfl
  | .lam n x => by
    simp only [Pt.d, T, Dat.clean, Dat.cleans, pt_clean x]
    rfl
  | .app n a c => by
    simp only [Pt.d, T, Dat.clean, Dat.cleans, pt_clean a, pt_clean c]
    rfl
theorem clean1 (t : Pt) : D.cleans [.dat (T t.kd t.num (t.kids.map Pt.d))] = true := by
  rw [← Pt.d_eq]
  simp only [D.cleans, D.clean, pt_clean]
  rfl

/-! ### redexes -/
theorem ev_lcRedex (t : Pt) : EvN 1 94 [.dat t.d] [] [] ([.dat (B t.isRedex)], [], []) := by
  refine ev_fn Go.Proofs.Try.f94 0 (by kernel_rfl) (by kernel_rfl) fun kk _ => ?_
  cases t with
  | var n => exact lcRedex_no kk 1 n [] rfl
  | lam n x => exact lcRedex_no kk 2 n _ rfl
  | app n a c =>
    have := lcRedex_app kk 3 n a.kd a.num (a.kids.map Pt.d) [c.d] rfl ⟨⟨by decide, by simp⟩, rfl⟩
    rw [← Pt.d_eq] at this
    exact this
theorem ev_isRedex (t : Pt) : EvN 1 96 [.dat t.d] [] [] ([.dat (B t.isRedex)], [], []) := by
  refine ev_fn Go.Proofs.Try.f96 0 (by kernel_rfl) (by kernel_rfl) fun kk _ => ?_
  cases t with
  | var n => exact isRedex_no kk 1 n [] rfl
  | lam n x => exact isRedex_no kk 2 n _ rfl
  | app n a c =>
    have := isRedex_app kk 3 n a.kd a.num (a.kids.map Pt.d) [c.d] rfl ⟨⟨by decide, by simp⟩, rfl⟩
    rw [← Pt.d_eq] at this
    exact this
theorem redex_app {t : Pt} (h : t.isRedex = true) : ∃ n n1 x y, t = .app n (.lam n1 x) y := by
  cases t with
  | var n => cases h
  | lam n x => cases h
  | app n a c =>
    have h : decide (a.kd = 2) = true := h
    cases a with
    | var m => exact absurd (of_decide_eq_true h) (by simp [Pt.kd])
    | lam m x => exact ⟨n, m, x, c, rfl⟩
    | app m x y => exact absurd (of_decide_eq_true h) (by simp [Pt.kd])
/-- What a redex is reduced to, when its parts are small. -/
theorem ev_lcBeta (b : Bool) (n n1 : Int) (x y : Pt) (hx : x.within 1000000) (hy : y.within 1000000) (hxd : x.depth ≤ 900) (hyd : y.depth ≤ 900) :
    EvN 2000 95 [.dat ((Pt.app n (.lam n1 x) y).db b)] [] [] ([.dat (sub 0 y 0 x).d], [], []) := by
  refine (ev_fn Go.Proofs.Try.f95 1900 (by kernel_rfl) (by kernel_rfl) fun kk hkk => ?_).mono (by omega)
  have h := ev_lcSubst 0 y (by omega) hy (by omega) x 0 (by omega) (by omega) hx kk (by omega)
  rw [Pt.d_eq x, Pt.d_eq y, Pt.d_eq (sub 0 y 0 x)] at h
  have := lcBeta_b kk 3 n 2 n1 x.kd x.num y.kd y.num (sub 0 y 0 x).kd (sub 0 y 0 x).num (x.kids.map Pt.d) (y.kids.map Pt.d) ((sub 0 y 0 x).kids.map Pt.d) [] [] b ⟨⟨by decide, by simp⟩, rfl⟩ ⟨⟨by decide, by simp⟩, rfl⟩ ⟨⟨by decide, by simp⟩, rfl⟩ h
  rw [← Pt.d_eq x, ← Pt.d_eq y, ← Pt.d_eq (sub 0 y 0 x)] at this
  exact this
theorem ev_reduced (n n1 : Int) (x y : Pt) (hx : x.within 1000000) (hy : y.within 1000000) (hxd : x.depth ≤ 900) (hyd : y.depth ≤ 900) :
    EvN 2000 100 [.dat (Pt.app n (.lam n1 x) y).d] [] [] ([.dat (sub 0 y 0 x).d], [], []) := by
  refine (ev_fn Go.Proofs.Try.f100 1900 (by kernel_rfl) (by kernel_rfl) fun kk hkk => ?_).mono (by omega)
  have h := ev_subst x y 0 (by omega) hx hy (by omega) (by omega) kk (by omega)
  rw [Pt.d_eq x, Pt.d_eq y, Pt.d_eq (sub 0 y 0 x)] at h
  have := reduced kk 3 n 2 n1 x.kd x.num y.kd y.num (sub 0 y 0 x).kd (sub 0 y 0 x).num (x.kids.map Pt.d) (y.kids.map Pt.d) ((sub 0 y 0 x).kids.map Pt.d) [] [] ⟨⟨by decide, by simp⟩, rfl⟩ ⟨⟨by decide, by simp⟩, rfl⟩ ⟨⟨by decide, by simp⟩, rfl⟩ h
  rw [← Pt.d_eq x, ← Pt.d_eq y, ← Pt.d_eq (sub 0 y 0 x)] at this
  exact this
/-- Good terms are small. -/
theorem good_small {t : Pt} (h : t.good = true) : t.size ≤ 150 ∧ t.depth ≤ 40 ∧ t.within 1000000 := by
  have := good_facts h
  exact ⟨this.1, this.2.1, within_mono (by omega) t (nums_within t this.2.2)⟩
theorem beta_size {x y : Pt} {n n1 : Int} (hx : (Pt.lam n1 x).good = true) (hy : y.good = true) : (sub 0 y 0 x).size ≤ 22500 ∧ (sub 0 y 0 x).depth ≤ 80 ∧ x.within 1000000 ∧ y.within 1000000 ∧ x.depth ≤ 40 ∧ y.depth ≤ 40 := by
  have h1 := good_small hx
  have h2 := good_small hy
  simp only [Pt.size, Pt.depth] at h1
  have h3 := sub_size 0 y x 0
  have hm : x.size * y.size ≤ 150 * 150 := Nat.mul_le_mul (by omega) h2.1
  exact ⟨by omega, by omega, h1.2.2, h2.2.2, by omega, by omega⟩
theorem over_small {t : Pt} {g : Pt → Pt} (h : ∀ x ∈ t.kids, (g x).good = true) : (t.over g).size ≤ 301 ∧ (t.over g).depth ≤ 41 := by
  cases t with
  | var n => exact ⟨by simp [Pt.over, Pt.size], by simp [Pt.over, Pt.depth]⟩
  | lam n x =>
    have h1 := good_small (h x (by simp [Pt.kids]))
    exact ⟨by simp only [Pt.over, Pt.size]; omega, by simp only [Pt.over, Pt.depth]; omega⟩
  | app n a c =>
    have h1 := good_small (h a (by simp [Pt.kids]))
    have h2 := good_small (h c (by simp [Pt.kids]))
    exact ⟨by simp only [Pt.over, Pt.size]; omega, by simp only [Pt.over, Pt.depth]; omega⟩
/-- A lambda is developed to a lambda. -/
theorem dev_lam {n : Int} {x r : Pt} (h : dev (.lam n x) = some r) : ∃ x', dev x = some x' ∧ r = .lam n x' ∧ (Pt.lam n x').good = true := by
  simp only [dev, Option.bind_eq_some_iff] at h
  obtain ⟨x', h1, h2⟩ := h
  obtain ⟨h3, h4⟩ := fine_some h2
  exact ⟨x', h1, h3, h4⟩

/-! ### the reference's development -/
theorem ev_lcDevelop (N : Nat) (hN : 1003000 ≤ N) : ∀ (d : Nat) (t : Pt), t.depth ≤ d → t.size ≤ 1000000 →
    (∀ r, dev t = some r → EvN (d + N) 54 [.dat t.d] [] [] ([.dat r.d, .dat (B true)], [], [])) ∧
    (dev t = none → ∃ (k n : Int) (ds : List Dat), EvN (d + N) 54 [.dat t.d] [] [] ([.dat (T k n ds), .dat (B false)], [], []))
  | 0, t, hd, hz => by have := t.depth_pos; omega
  | d + 1, t, hd, hz => by
    have hle := t.kids_le
    have hkids : ∀ x ∈ t.kids, x.depth ≤ d ∧ x.size ≤ 1000000 := fun x hx => by
      have := Pt.kids_lt hx
      omega
    cases hall : t.kids.all fun x => (dev x).isSome with
    | false =>
      obtain ⟨j, x, h1, h2, h3⟩ := first_bad (fun x => (dev x).isSome) hall
      have hx : x ∈ t.kids := List.mem_of_getElem? h1
      have hnone := dev_bad hx h2
      rw [hnone]
      refine ⟨fun r h => (by cases h), fun _ => ⟨t.kd, t.num, t.kids.map Pt.d, ?_⟩⟩
      refine EvN.mono (ev_fn Go.Proofs.Try.f54 (d + N) (by kernel_rfl) (by kernel_rfl) fun kk hkk => ?_) (by omega)
      have hj := (List.getElem?_eq_some_iff.1 h1).1
      rw [Pt.d_eq]
      refine lcDevelop_ret kk _ _ _ ((t.kids.take j).map fun x => (devT x).d) ?_
      refine loopAt_range (fun i => hd54 t.kd t.num (t.kids.map Pt.d) ((t.kids.take i).map fun x => (devT x).d) i) j (by omega) (fun i hi m s K hs hn => ?_) (fun m s K hs hK => ?_) (by simp)
      · obtain ⟨y, h4, h5, h6⟩ := kid_at (ks := t.kids) (i := i) (by omega)
        have hto : ((i : Int)).toNat = i := by simp
        obtain ⟨r, hr⟩ := Option.isSome_iff_exists.1 (h3 i y hi h4)
        have hev := (ev_lcDevelop N hN d y (hkids y h5).1 (hkids y h5).2).1 r hr kk (by omega)
        rw [Pt.d_eq y, Pt.d_eq r] at hev
        refine lcDevelop_go kk m t.kd t.num _ _ _ y.kd y.num _ _ _ _ hs (decide_eq_true (by simp; omega)) ⟨⟨by omega, by simp; omega⟩, by rw [hto]; exact h6⟩ hev (by simp; omega) fun s' hs' => hn s' ?_
        have hstep : ((t.kids.take (i + 1)).map fun x => (devT x).d) = ((t.kids.take i).map fun x => (devT x).d) ++ [T r.kd r.num (r.kids.map Pt.d)] := by
          rw [List.take_add_one, h4, ← Pt.d_eq, List.map_append]
          simp [devT_eq hr]
        rw [hs', w64_eq (n := (i : Int) + 1) (by omega)]
        simp only [hd54, hstep]
        rfl
      · obtain ⟨y, h4, h5, h6⟩ := kid_at (ks := t.kids) (i := j) hj
        rw [h1] at h4
        cases h4
        have hto : ((j : Int)).toNat = j := by simp
        have hdn : dev x = none := by cases hdx : dev x with
          | none => rfl
          | some r => rw [hdx] at h2; cases h2
        obtain ⟨k', n', ds', hev⟩ := (ev_lcDevelop N hN d x (hkids x h5).1 (hkids x h5).2).2 hdn
        have hev := hev kk (by omega)
        rw [Pt.d_eq x] at hev
        exact lcDevelop_bad kk m t.kd t.num _ _ _ x.kd x.num _ _ _ _ hs (decide_eq_true (by simp; omega)) ⟨⟨by omega, by simp; omega⟩, by rw [hto]; exact h6⟩ hev hK
    | true =>
      have hsome : ∀ x ∈ t.kids, (dev x).isSome = true := fun x hx => (List.all_eq_true.1 hall) x hx
      have hgood : ∀ x ∈ t.kids, (devT x).good = true := fun x hx => by
        obtain ⟨r, hr⟩ := Option.isSome_iff_exists.1 (hsome x hx)
        rw [devT_eq hr]
        exact dev_good hr
      have hov := over_small (g := devT) hgood
      rw [dev_all hsome]
      have hloop : ∀ kk, d + N ≤ kk → LoopAt cfg kk 54 Go.Proofs.Try.f54 3 (hd54 t.kd t.num (t.kids.map Pt.d) [] 0) (X.exit 0) (Nm [1, 2, 3, 4] [D.ptr (Ref.loc 1) 0, D.ptr (Ref.loc 2) 0, D.junk, D.ptr (Ref.loc 4) 0] [some [D.dat (I t.kd), D.dat (I t.num), D.dat (Dat.lst false (t.kids.map Pt.d))], some [D.dat (I 0), D.dat (I 0), D.own 46 []], none, some [D.dat (I t.kd), D.dat (I t.num), D.own 46 ((t.over devT).kids.map Pt.d)]] [] []) := by
        intro kk hkk
        refine loopAt_range (fun i => hd54 t.kd t.num (t.kids.map Pt.d) ((t.kids.take i).map fun x => (devT x).d) i) t.kids.length (by omega) (fun i hi m s K hs hn => ?_) (fun m s K hs hK => ?_) (by simp)
        · obtain ⟨y, h4, h5, h6⟩ := kid_at (ks := t.kids) (i := i) (by omega)
          have hto : ((i : Int)).toNat = i := by simp
          obtain ⟨r, hr⟩ := Option.isSome_iff_exists.1 (hsome y h5)
          have hev := (ev_lcDevelop N hN d y (hkids y h5).1 (hkids y h5).2).1 r hr kk (by omega)
          rw [Pt.d_eq y, Pt.d_eq r] at hev
          refine lcDevelop_go kk m t.kd t.num _ _ _ y.kd y.num _ _ _ _ hs (decide_eq_true (by simp; omega)) ⟨⟨by omega, by simp; omega⟩, by rw [hto]; exact h6⟩ hev (by simp; omega) fun s' hs' => hn s' ?_
          have hstep : ((t.kids.take (i + 1)).map fun x => (devT x).d) = ((t.kids.take i).map fun x => (devT x).d) ++ [T r.kd r.num (r.kids.map Pt.d)] := by
            rw [List.take_add_one, h4, ← Pt.d_eq, List.map_append]
            simp [devT_eq hr]
          rw [hs', w64_eq (n := (i : Int) + 1) (by omega)]
          simp only [hd54, hstep]
          rfl
        · have hs' : s.norm _ = hd54 t.kd t.num (t.kids.map Pt.d) ((t.kids.take t.kids.length).map fun x => (devT x).d) t.kids.length := hs
          rw [List.take_length] at hs'
          refine lcDevelop_end kk m t.kd t.num _ _ _ hs' (decide_eq_false (by simp)) ?_
          rw [over_kids, List.map_map] at hK
          exact hK
      cases hr : t.isRedex with
      | false =>
        rw [if_neg (by intro h; cases h)]
        have hrun : ∀ kk, d + N ≤ kk → runFn cfg kk (den cfg kk) 54 Go.Proofs.Try.f54 [.dat t.d] [] [] = some ([.dat (t.over devT).d, .dat (B (t.over devT).good)], [], []) := fun kk hkk => by
          have h1 := ev_lcRedex t kk (by omega)
          have h2 := ev_lcFine true (t.over devT) (by omega) kk (by omega)
          rw [hr, Pt.d_eq t] at h1
          unfold Pt.db at h2
          rw [over_kd, over_num] at h2
          have := lcDevelop_no kk t.kd t.num _ _ _ (hloop kk hkk) h1 h2
          rw [Pt.d_eq t, Pt.d_eq (t.over devT), over_kd, over_num]
          exact this
        unfold fine
        cases hg : (t.over devT).good with
        | true =>
          rw [if_pos rfl]
          rw [hg] at hrun
          refine ⟨fun r h => ?_, fun h => (by cases h)⟩
          cases h
          exact EvN.mono (ev_fn Go.Proofs.Try.f54 (d + N) (by kernel_rfl) (by kernel_rfl) hrun) (by omega)
        | false =>
          rw [if_neg (by intro h; cases h)]
          rw [hg] at hrun
          refine ⟨fun r h => (by cases h), fun _ => ⟨(t.over devT).kd, (t.over devT).num, (t.over devT).kids.map Pt.d, ?_⟩⟩
          rw [← Pt.d_eq]
          exact EvN.mono (ev_fn Go.Proofs.Try.f54 (d + N) (by kernel_rfl) (by kernel_rfl) hrun) (by omega)
      | true =>
        rw [if_pos rfl]
        obtain ⟨n, n1, x, y, rfl⟩ := redex_app hr
        obtain ⟨r1, hr1⟩ := Option.isSome_iff_exists.1 (hsome (.lam n1 x) (by simp [Pt.kids]))
        obtain ⟨x', _, rfl, hgx⟩ := dev_lam hr1
        have hgy := hgood y (by simp [Pt.kids])
        have hob : (Pt.app n (.lam n1 x) y).over devT = .app n (.lam n1 x') (devT y) := by simp only [Pt.over, devT_eq hr1]
        rw [hob] at hloop ⊢
        have hbs := beta_size (n := 0) hgx hgy
        have hbe : (Pt.app n (.lam n1 x') (devT y)).beta = sub 0 (devT y) 0 x' := rfl
        rw [hbe]
        have hrun : ∀ kk, d + N ≤ kk → runFn cfg kk (den cfg kk) 54 Go.Proofs.Try.f54 [.dat (Pt.app n (.lam n1 x) y).d] [] [] = some ([.dat (sub 0 (devT y) 0 x').d, .dat (B (sub 0 (devT y) 0 x').good)], [], []) := fun kk hkk => by
          have h1 := ev_lcRedex (.app n (.lam n1 x) y) kk (by omega)
          have h2 := ev_lcBeta true n n1 x' (devT y) hbs.2.2.1 hbs.2.2.2.1 (by omega) (by omega) kk (by omega)
          have h3 := ev_lcFine false (sub 0 (devT y) 0 x') (by omega) kk (by omega)
          have hc := clean1 (sub 0 (devT y) 0 x')
          rw [hr, Pt.d_eq] at h1
          rw [Pt.d_eq] at h2
          unfold Pt.db at h2 h3
          have := lcDevelop_redex kk _ _ _ _ _ _ _ _ (hloop kk hkk) h1 hc h2 h3
          rw [Pt.d_eq (.app n (.lam n1 x) y), Pt.d_eq (sub 0 (devT y) 0 x')]
          exact this
        generalize sub 0 (devT y) 0 x' = o at *
        unfold fine
        cases hg : o.good with
        | true =>
          rw [if_pos rfl]
          rw [hg] at hrun
          refine ⟨fun r h => ?_, fun h => (by cases h)⟩
          cases h
          exact EvN.mono (ev_fn Go.Proofs.Try.f54 (d + N) (by kernel_rfl) (by kernel_rfl) hrun) (by omega)
        | false =>
          rw [if_neg (by intro h; cases h)]
          rw [hg] at hrun
          refine ⟨fun r h => (by cases h), fun _ => ⟨o.kd, o.num, o.kids.map Pt.d, ?_⟩⟩
          rw [← Pt.d_eq]
          exact EvN.mono (ev_fn Go.Proofs.Try.f54 (d + N) (by kernel_rfl) (by kernel_rfl) hrun) (by omega)
end Go.Den
/- What functions come to (12): the program's development; DevelopTerm. -/
namespace Go.Den
open Go
set_option linter.unusedVariables false
set_option maxRecDepth 100000

theorem dev_redex {n n1 : Int} {x y : Pt} (h1 : n1 = 0) : dev (.app n (.lam n1 x) y) = (dev x).bind fun x' => (dev y).bind fun y' => if (Pt.lam 0 x').good = true then fine (sub 0 y' 0 x') else none := by
  subst h1
  simp only [dev]
  cases hx : dev x with
  | none => rfl
  | some x' =>
    simp only [Option.bind_some]
    cases hy : dev y with
    | none =>
      simp only [Option.bind_none]
      cases fine (.lam 0 x') <;> rfl
    | some y' =>
      simp only [Option.bind_some]
      by_cases hg : (Pt.lam 0 x').good = true
      · unfold fine
        rw [if_pos hg, if_pos hg]
        rfl
      · unfold fine
        rw [if_neg hg, if_neg hg]
        rfl
theorem ev_develop : ∀ (d : Nat) (t : Pt), t.depth ≤ d → t.nums = true →
    (∀ r, dev t = some r → EvN (d + 3000) 55 [.dat t.d] [] [] ([.dat r.d, .dat (B true)], [], [])) ∧
    (dev t = none → ∃ (k n : Int) (ds : List Dat), EvN (d + 3000) 55 [.dat t.d] [] [] ([.dat (T k n ds), .dat (B false)], [], []))
  | 0, t, hd, hz => by have := t.depth_pos; omega
  | d + 1, t, hd, hz => by
    have hle := t.kids_le
    have hnk : t.own = true ∧ t.kids.all Pt.nums = true := by
      rw [Pt.nums_kids] at hz
      simpa using hz
    have hkids : ∀ x ∈ t.kids, x.depth ≤ d ∧ x.nums = true := fun x hx => by
      have := Pt.kids_lt hx
      exact ⟨by omega, (List.all_eq_true.1 hnk.2) x hx⟩
    cases hr : t.isRedex with
    | true =>
      obtain ⟨n, n1, x, y, rfl⟩ := redex_app hr
      have hlam := hkids (.lam n1 x) (by simp [Pt.kids])
      have hy := hkids y (by simp [Pt.kids])
      have hn1 : n1 = 0 ∧ x.nums = true := by
        have := hlam.2
        simp only [Pt.nums, Bool.and_eq_true, decide_eq_true_eq] at this
        exact this
      have hxd : x.depth ≤ d := by have := hlam.1; simp only [Pt.depth] at this; omega
      rw [dev_redex hn1.1]
      obtain ⟨hx1, hx2⟩ := ev_develop d x hxd hn1.2
      obtain ⟨hy1, hy2⟩ := ev_develop d y hy.1 hy.2
      have hred : ∀ kk, d + 3000 ≤ kk → den cfg kk 96 [.dat (T 3 n [T 2 n1 [T x.kd x.num (x.kids.map Pt.d)], T y.kd y.num (y.kids.map Pt.d)])] [] [] = some ([.dat (B true)], [], []) := fun kk hkk => by
        have h := ev_isRedex (.app n (.lam n1 x) y) kk (by omega)
        rw [hr] at h
        rw [← Pt.d_eq, ← Pt.d_eq]
        exact h
      have hdd : (Pt.app n (.lam n1 x) y).d = T 3 n [T 2 n1 [T x.kd x.num (x.kids.map Pt.d)], T y.kd y.num (y.kids.map Pt.d)] := by
        rw [← Pt.d_eq, ← Pt.d_eq]
        rfl
      cases hdx : dev x with
      | none =>
        obtain ⟨k1, m1, d1, e1⟩ := hx2 hdx
        have hyy : ∃ (k2 m2 : Int) (d2 : List Dat) (o : Bool), EvN (d + 3000) 55 [.dat y.d] [] [] ([.dat (T k2 m2 d2), .dat (B o)], [], []) := by
          cases hdy : dev y with
          | none =>
            obtain ⟨k2, m2, d2, e2⟩ := hy2 hdy
            exact ⟨k2, m2, d2, false, e2⟩
          | some y' =>
            have := hy1 y' hdy
            rw [Pt.d_eq y'] at this
            exact ⟨_, _, _, true, this⟩
        obtain ⟨k2, m2, d2, o, e2⟩ := hyy
        simp only [Option.bind_none]
        refine ⟨fun r h => (by cases h), fun _ => ⟨0, 0, [], ?_⟩⟩
        refine EvN.mono (ev_fn Go.Proofs.Try.f55 (d + 3000) (by kernel_rfl) (by kernel_rfl) fun kk hkk => ?_) (by omega)
        have a1 := e1 kk (by omega)
        have a2 := e2 kk (by omega)
        rw [Pt.d_eq] at a1 a2
        rw [hdd]
        exact develop_b1 kk 3 n 2 n1 _ _ _ _ _ _ _ _ _ _ _ _ _ _ o (hred kk hkk) ⟨⟨by decide, by simp⟩, rfl⟩ ⟨⟨by decide, by simp⟩, rfl⟩ a1 ⟨⟨by decide, by simp⟩, rfl⟩ a2
      | some x' =>
        have e1 := hx1 x' hdx
        simp only [Option.bind_some]
        cases hdy : dev y with
        | none =>
          obtain ⟨k2, m2, d2, e2⟩ := hy2 hdy
          simp only [Option.bind_none]
          refine ⟨fun r h => (by cases h), fun _ => ⟨0, 0, [], ?_⟩⟩
          refine EvN.mono (ev_fn Go.Proofs.Try.f55 (d + 3000) (by kernel_rfl) (by kernel_rfl) fun kk hkk => ?_) (by omega)
          have a1 := e1 kk (by omega)
          have a2 := e2 kk (by omega)
          rw [Pt.d_eq x, Pt.d_eq x'] at a1
          rw [Pt.d_eq] at a2
          rw [hdd]
          exact develop_b2 kk 3 n 2 n1 _ _ _ _ _ _ _ _ _ _ _ _ _ _ (hred kk hkk) ⟨⟨by decide, by simp⟩, rfl⟩ ⟨⟨by decide, by simp⟩, rfl⟩ a1 ⟨⟨by decide, by simp⟩, rfl⟩ a2
        | some y' =>
          have e2 := hy1 y' hdy
          simp only [Option.bind_some]
          have hgx := good_small (dev_good hdx)
          have hgy := good_small (dev_good hdy)
          have hlamd : (Pt.lam 0 x').d = T 2 0 [T x'.kd x'.num (x'.kids.map Pt.d)] := by rw [← Pt.d_eq]; rfl
          have hlg : ∀ kk, d + 3000 ≤ kk → den cfg kk 91 [.dat (T 2 0 [T x'.kd x'.num (x'.kids.map Pt.d)])] [] [] = some ([.dat (B (Pt.lam 0 x').good)], [], []) := fun kk hkk => by
            rw [← hlamd]
            exact ev_good (.lam 0 x') (by simp only [Pt.size]; omega) 41 (by simp only [Pt.depth]; omega) kk (by omega)
          have hll : ∀ kk, d + 3000 ≤ kk → den cfg kk 86 [.dat (T x'.kd x'.num (x'.kids.map Pt.d))] [] [] = some ([.dat (T 2 0 [T x'.kd x'.num (x'.kids.map Pt.d)])], [], []) := fun kk hkk => by
            rw [← hlamd, ← Pt.d_eq]
            exact ev_lam x' kk (by omega)
          cases hgl : (Pt.lam 0 x').good with
          | false =>
            rw [if_neg (by intro h; cases h)]
            refine ⟨fun r h => (by cases h), fun _ => ⟨0, 0, [], ?_⟩⟩
            refine EvN.mono (ev_fn Go.Proofs.Try.f55 (d + 3000) (by kernel_rfl) (by kernel_rfl) fun kk hkk => ?_) (by omega)
            have a1 := e1 kk (by omega)
            have a2 := e2 kk (by omega)
            have a3 := hlg kk (by omega)
            rw [hgl] at a3
            rw [Pt.d_eq x, Pt.d_eq x'] at a1
            rw [Pt.d_eq y, Pt.d_eq y'] at a2
            rw [hdd]
            exact develop_b3 kk 3 n 2 n1 _ _ _ _ _ _ _ _ _ _ _ _ _ _ (hred kk hkk) ⟨⟨by decide, by simp⟩, rfl⟩ ⟨⟨by decide, by simp⟩, rfl⟩ a1 ⟨⟨by decide, by simp⟩, rfl⟩ a2 (hll kk hkk) a3
          | true =>
            rw [if_pos rfl]
            have hbs := beta_size (n := 0) hgl (dev_good hdy)
            have hrun : ∀ kk, d + 3000 ≤ kk → runFn cfg kk (den cfg kk) 55 Go.Proofs.Try.f55 [.dat (Pt.app n (.lam n1 x) y).d] [] [] = some ([.dat (sub 0 y' 0 x').d, .dat (B (sub 0 y' 0 x').good)], [], []) := fun kk hkk => by
              have a1 := e1 kk (by omega)
              have a2 := e2 kk (by omega)
              have a3 := hlg kk (by omega)
              have a4 := ev_subst x' y' 0 (by omega) hgx.2.2 hgy.2.2 (by omega) (by omega) kk (by omega)
              have a5 := ev_good (sub 0 y' 0 x') (by omega) 80 (by omega) kk (by omega)
              rw [hgl] at a3
              rw [Pt.d_eq x, Pt.d_eq x'] at a1
              rw [Pt.d_eq y, Pt.d_eq y'] at a2
              rw [Pt.d_eq x', Pt.d_eq y', Pt.d_eq (sub 0 y' 0 x')] at a4
              rw [Pt.d_eq (sub 0 y' 0 x')] at a5
              rw [hdd, Pt.d_eq (sub 0 y' 0 x')]
              exact develop_redex kk 3 n 2 n1 _ _ _ _ _ _ _ _ _ _ _ _ _ _ _ _ _ _ (hred kk hkk) ⟨⟨by decide, by simp⟩, rfl⟩ ⟨⟨by decide, by simp⟩, rfl⟩ a1 ⟨⟨by decide, by simp⟩, rfl⟩ a2 (hll kk hkk) a3 a4 a5
            generalize sub 0 y' 0 x' = o at *
            unfold fine
            cases hg : o.good with
            | true =>
              rw [if_pos rfl]
              rw [hg] at hrun
              refine ⟨fun r h => ?_, fun h => (by cases h)⟩
              cases h
              exact EvN.mono (ev_fn Go.Proofs.Try.f55 (d + 3000) (by kernel_rfl) (by kernel_rfl) hrun) (by omega)
            | false =>
              rw [if_neg (by intro h; cases h)]
              rw [hg] at hrun
              refine ⟨fun r h => (by cases h), fun _ => ⟨o.kd, o.num, o.kids.map Pt.d, ?_⟩⟩
              rw [← Pt.d_eq]
              exact EvN.mono (ev_fn Go.Proofs.Try.f55 (d + 3000) (by kernel_rfl) (by kernel_rfl) hrun) (by omega)
    | false =>
      have hred : ∀ kk, d + 3000 ≤ kk → den cfg kk 96 [.dat (T t.kd t.num (t.kids.map Pt.d))] [] [] = some ([.dat (B false)], [], []) := fun kk hkk => by
        have h := ev_isRedex t kk (by omega)
        rw [hr] at h
        rw [← Pt.d_eq]
        exact h
      cases hall : t.kids.all fun x => (dev x).isSome with
      | false =>
        obtain ⟨j, x, h1, h2, h3⟩ := first_bad (fun x => (dev x).isSome) hall
        have hx : x ∈ t.kids := List.mem_of_getElem? h1
        have hnone := dev_bad hx h2
        rw [hnone]
        refine ⟨fun r h => (by cases h), fun _ => ⟨0, 0, [], ?_⟩⟩
        refine EvN.mono (ev_fn Go.Proofs.Try.f55 (d + 3000) (by kernel_rfl) (by kernel_rfl) fun kk hkk => ?_) (by omega)
        have hj := (List.getElem?_eq_some_iff.1 h1).1
        rw [Pt.d_eq]
        refine develop_ret kk _ _ _ ((t.kids.take j).map fun x => (devT x).d) (hred kk hkk) ?_
        refine loopAt_range (fun i => hd55 t.kd t.num (t.kids.map Pt.d) ((t.kids.take i).map fun x => (devT x).d) i) j (by omega) (fun i hi m s K hs hn => ?_) (fun m s K hs hK => ?_) (by simp)
        · obtain ⟨y, h4, h5, h6⟩ := kid_at (ks := t.kids) (i := i) (by omega)
          have hto : ((i : Int)).toNat = i := by simp
          obtain ⟨r, hr⟩ := Option.isSome_iff_exists.1 (h3 i y hi h4)
          have hev := (ev_develop d y (hkids y h5).1 (hkids y h5).2).1 r hr kk (by omega)
          rw [Pt.d_eq y, Pt.d_eq r] at hev
          refine develop_go kk m t.kd t.num _ _ _ y.kd y.num _ _ _ _ hs (decide_eq_true (by simp; omega)) ⟨⟨by omega, by simp; omega⟩, by rw [hto]; exact h6⟩ hev (by simp; omega) fun s' hs' => hn s' ?_
          have hstep : ((t.kids.take (i + 1)).map fun x => (devT x).d) = ((t.kids.take i).map fun x => (devT x).d) ++ [T r.kd r.num (r.kids.map Pt.d)] := by
            rw [List.take_add_one, h4, ← Pt.d_eq, List.map_append]
            simp [devT_eq hr]
          rw [hs', w64_eq (n := (i : Int) + 1) (by omega)]
          simp only [hd55, hstep]
          rfl
        · obtain ⟨y, h4, h5, h6⟩ := kid_at (ks := t.kids) (i := j) hj
          rw [h1] at h4
          cases h4
          have hto : ((j : Int)).toNat = j := by simp
          have hdn : dev x = none := by cases hdx : dev x with
            | none => rfl
            | some r => rw [hdx] at h2; cases h2
          obtain ⟨k', n', ds', hev⟩ := (ev_develop d x (hkids x h5).1 (hkids x h5).2).2 hdn
          have hev := hev kk (by omega)
          rw [Pt.d_eq x] at hev
          exact develop_bad kk m t.kd t.num _ _ _ x.kd x.num _ _ _ _ hs (decide_eq_true (by simp; omega)) ⟨⟨by omega, by simp; omega⟩, by rw [hto]; exact h6⟩ hev hK
      | true =>
        have hsome : ∀ x ∈ t.kids, (dev x).isSome = true := fun x hx => (List.all_eq_true.1 hall) x hx
        have hgood : ∀ x ∈ t.kids, (devT x).good = true := fun x hx => by
          obtain ⟨r, hr⟩ := Option.isSome_iff_exists.1 (hsome x hx)
          rw [devT_eq hr]
          exact dev_good hr
        have hov := over_small (g := devT) hgood
        rw [dev_all hsome, hr, if_neg (by intro h; cases h)]
        have hrun : ∀ kk, d + 3000 ≤ kk → runFn cfg kk (den cfg kk) 55 Go.Proofs.Try.f55 [.dat t.d] [] [] = some ([.dat (t.over devT).d, .dat (B (t.over devT).good)], [], []) := fun kk hkk => by
          have h2 := ev_good_b true (t.over devT) (by omega) 41 (by omega) kk (by omega)
          unfold Pt.db at h2
          rw [over_kd, over_num] at h2
          rw [Pt.d_eq t, Pt.d_eq (t.over devT), over_kd, over_num]
          refine develop_no kk t.kd t.num _ _ _ (hred kk hkk) ?_ h2
          refine loopAt_range (fun i => hd55 t.kd t.num (t.kids.map Pt.d) ((t.kids.take i).map fun x => (devT x).d) i) t.kids.length (by omega) (fun i hi m s K hs hn => ?_) (fun m s K hs hK => ?_) (by simp)
          · obtain ⟨y, h4, h5, h6⟩ := kid_at (ks := t.kids) (i := i) (by omega)
            have hto : ((i : Int)).toNat = i := by simp
            obtain ⟨r, hr⟩ := Option.isSome_iff_exists.1 (hsome y h5)
            have hev := (ev_develop d y (hkids y h5).1 (hkids y h5).2).1 r hr kk (by omega)
            rw [Pt.d_eq y, Pt.d_eq r] at hev
            refine develop_go kk m t.kd t.num _ _ _ y.kd y.num _ _ _ _ hs (decide_eq_true (by simp; omega)) ⟨⟨by omega, by simp; omega⟩, by rw [hto]; exact h6⟩ hev (by simp; omega) fun s' hs' => hn s' ?_
            have hstep : ((t.kids.take (i + 1)).map fun x => (devT x).d) = ((t.kids.take i).map fun x => (devT x).d) ++ [T r.kd r.num (r.kids.map Pt.d)] := by
              rw [List.take_add_one, h4, ← Pt.d_eq, List.map_append]
              simp [devT_eq hr]
            rw [hs', w64_eq (n := (i : Int) + 1) (by omega)]
            simp only [hd55, hstep]
            rfl
          · have hs' : s.norm _ = hd55 t.kd t.num (t.kids.map Pt.d) ((t.kids.take t.kids.length).map fun x => (devT x).d) t.kids.length := hs
            rw [List.take_length] at hs'
            refine develop_end kk m t.kd t.num _ _ _ hs' (decide_eq_false (by simp)) ?_
            rw [over_kids, List.map_map] at hK
            exact hK
        unfold fine
        cases hg : (t.over devT).good with
        | true =>
          rw [if_pos rfl]
          rw [hg] at hrun
          refine ⟨fun r h => ?_, fun h => (by cases h)⟩
          cases h
          exact EvN.mono (ev_fn Go.Proofs.Try.f55 (d + 3000) (by kernel_rfl) (by kernel_rfl) hrun) (by omega)
        | false =>
          rw [if_neg (by intro h; cases h)]
          rw [hg] at hrun
          refine ⟨fun r h => (by cases h), fun _ => ⟨(t.over devT).kd, (t.over devT).num, (t.over devT).kids.map Pt.d, ?_⟩⟩
          rw [← Pt.d_eq]
          exact EvN.mono (ev_fn Go.Proofs.Try.f55 (d + 3000) (by kernel_rfl) (by kernel_rfl) hrun) (by omega)

/-! ### both sides of DevelopTerm -/
def devN (L : List Nd) : List Nd × Bool :=
  match termOfP L with
  | some t => match dev t with | some r => (r.flat 0 (-1), true) | none => ([], false)
  | none => ([], false)
theorem ev_iDev (L : List Nd) (b : Bool) (hL : L.length ≤ 1048576) : EvN 4000 23 [.dat (.lst b (L.map Nd.d))] [] [] ([.own 50 ((devN L).1.map Nd.d), .dat (B (devN L).2)], [], []) := by
  refine (ev_fn Go.Proofs.Try.f23 3900 (by kernel_rfl) (by kernel_rfl) fun kk hkk => ?_).mono (by omega)
  obtain ⟨hy, hn⟩ := ev_termOf L b hL
  unfold devN
  cases h1 : termOfP L with
  | none =>
    obtain ⟨k1, n1, d1, e1⟩ := hn h1
    exact iDevelop_no1 kk b _ _ _ _ (e1 kk (by omega))
  | some t =>
    have a1 := hy t h1 kk (by omega)
    have hg := good_facts ((termOfP_iff L t).1 h1).1
    obtain ⟨dy, dn⟩ := ev_develop 40 t hg.2.1 hg.2.2
    simp only
    cases h2 : dev t with
    | none =>
      obtain ⟨k2, n2, d2, e2⟩ := dn h2
      have a2 := e2 kk (by omega)
      rw [Pt.d_eq] at a1 a2
      exact iDevelop_no2 kk b _ _ _ _ _ _ _ a1 a2
    | some r =>
      have a2 := dy r h2 kk (by omega)
      have hgr := good_small (dev_good h2)
      have a3 := ev_nodes r (by omega) kk (by omega)
      rw [Pt.d_eq t] at a1
      rw [Pt.d_eq t, Pt.d_eq r] at a2
      rw [Pt.d_eq r] at a3
      exact iDevelop_go kk b _ _ _ _ _ _ _ _ a1 a2 a3
theorem ev_sDev (L : List Nd) (b : Bool) (hL : L.length ≤ 1048576) : EvN 1005000 22 [.dat (.lst b (L.map Nd.d))] [] [] ([.own 50 ((devN L).1.map Nd.d), .dat (B (devN L).2)], [], []) := by
  refine (ev_fn Go.Proofs.Try.f22 1004900 (by kernel_rfl) (by kernel_rfl) fun kk hkk => ?_).mono (by omega)
  have g := ev_GoodTerm L b hL kk (by omega)
  rw [goodS_term] at g
  unfold devN
  cases h1 : termOfP L with
  | none =>
    rw [h1] at g
    exact DevelopTerm_no1 kk b _ g
  | some t =>
    rw [h1] at g
    have hg := good_small ((termOfP_iff L t).1 h1).1
    have a1 := ev_tree b h1 kk (by omega)
    obtain ⟨dy, dn⟩ := ev_lcDevelop 1003000 (Nat.le_refl _) 40 t hg.2.1 (by omega)
    simp only
    cases h2 : dev t with
    | none =>
      obtain ⟨k2, n2, d2, e2⟩ := dn h2
      have a2 := e2 kk (by omega)
      rw [Pt.d_eq] at a1 a2
      exact DevelopTerm_no2 kk b _ _ _ _ _ _ _ g a1 a2
    | some r =>
      have a2 := dy r h2 kk (by omega)
      have hgr := good_small (dev_good h2)
      have a3 := ev_lcTold r (by omega) kk (by omega)
      rw [dev_good h2, if_pos rfl] at a3
      rw [Pt.d_eq t] at a1
      rw [Pt.d_eq t, Pt.d_eq r] at a2
      rw [Pt.d_eq r] at a3
      exact DevelopTerm_go kk b _ _ _ _ _ _ _ _ _ g a1 a2 a3
theorem devN_len (L : List Nd) : (devN L).1.length ≤ 150 := by
  unfold devN
  split
  · split
    · rename_i h
      rw [Pt.flat_length]
      exact (good_small (dev_good h)).1
    · simp
  · simp
end Go.Den
/- The ways through functions, told by den (written by gen.py, a program of this session's, out of hints). -/
namespace Go.Den
open Go
set_option linter.unusedVariables false
set_option maxRecDepth 100000
def hd57 (b : Bool) (es : List Dat) (v i : Int) : St := Nm [1, 7, 8, 9] [.dat (I v), .dat (.lst b es), .dat (I es.length), .dat (I i)] [none, none, none, none] [] []
theorem lcHas_go (kk m : Nat) {s : St} {K : X → St → Prop} (b : Bool) (es : List Dat) (v i x : Int) (hs : s.norm ((envOf cfg kk 57 Go.Proofs.Try.f57).live (firstRegion (lp Go.Proofs.Try.f57 2))) = hd57 b es v i) (h1 : decide (i < (es.length : Int)) = true) (h2 : (0 ≤ i ∧ i < (es.length : Int)) ∧ es[i.toNat]? = some (I x)) (h3 : decide (x = v) = false) (hn : ∀ s : St, s.norm ((envOf cfg kk 57 Go.Proofs.Try.f57).live (firstRegion (lp Go.Proofs.Try.f57 2))) = Nm [1, 7, 8, 9] [D.dat (I v), D.dat (Dat.lst b es), D.dat (I (es.length : Int)), D.dat (I (w64 (i + 1)))] [none, none, none, none] [] [] → Rounds (envOf cfg kk 57 Go.Proofs.Try.f57) kk (lp Go.Proofs.Try.f57 2) m s K) : Rounds (envOf cfg kk 57 Go.Proofs.Try.f57) kk (lp Go.Proofs.Try.f57 2) (m + 1) s K :=
  rounds_go [(200010, .yes), (11, .at (I x)), (200015, .no)] hs (ps := [decide (i < (es.length : Int)) = true, (0 ≤ i ∧ i < (es.length : Int)) ∧ es[i.toNat]? = some (I x), decide (x = v) = false]) (by kernel_rfl) ⟨h1, h2, h3, trivial⟩ (by kernel_rfl) hn
theorem lcHas_hit (kk m : Nat) {s : St} {K : X → St → Prop} (b : Bool) (es : List Dat) (v i x : Int) (hs : s.norm ((envOf cfg kk 57 Go.Proofs.Try.f57).live (firstRegion (lp Go.Proofs.Try.f57 2))) = hd57 b es v i) (h1 : decide (i < (es.length : Int)) = true) (h2 : (0 ≤ i ∧ i < (es.length : Int)) ∧ es[i.toNat]? = some (I x)) (h3 : decide (x = v) = true) (hK : K (X.ret) (Nm [4] [D.dat (B true)] [none] [] [])) : Rounds (envOf cfg kk 57 Go.Proofs.Try.f57) kk (lp Go.Proofs.Try.f57 2) (m + 1) s K :=
  rounds_end [(200010, .yes), (11, .at (I x)), (200015, .yes)] hs (ps := [decide (i < (es.length : Int)) = true, (0 ≤ i ∧ i < (es.length : Int)) ∧ es[i.toNat]? = some (I x), decide (x = v) = true]) (x := X.ret) (by kernel_rfl) rfl ⟨h1, h2, h3, trivial⟩ (by kernel_rfl) hK
theorem lcHas_end (kk m : Nat) {s : St} {K : X → St → Prop} (b : Bool) (es : List Dat) (v i : Int) (hs : s.norm ((envOf cfg kk 57 Go.Proofs.Try.f57).live (firstRegion (lp Go.Proofs.Try.f57 2))) = hd57 b es v i) (h1 : decide (i < (es.length : Int)) = false) (hK : K (X.exit 0) (Nm [4] [D.junk] [none] [] [])) : Rounds (envOf cfg kk 57 Go.Proofs.Try.f57) kk (lp Go.Proofs.Try.f57 2) (m + 1) s K :=
  rounds_end [(200010, .no)] hs (ps := [decide (i < (es.length : Int)) = false]) (x := X.exit 0) (by kernel_rfl) rfl ⟨h1, trivial⟩ (by kernel_rfl) hK
theorem lcHas_y (kk : Nat) (b : Bool) (es : List Dat) (v : Int) (h2 : LoopAt cfg kk 57 Go.Proofs.Try.f57 2 (hd57 b es v 0) X.ret (Nm [4] [D.dat (B true)] [none] [] [])) : runFn cfg kk (den cfg kk) 57 Go.Proofs.Try.f57 [.dat (Dat.lst b es), .dat (I v)] [] [] = some ([D.dat (B true)], [], []) :=
  hrun_sound [(300002, .loop (hd57 b es v 0) .ret (Nm [4] [.dat (B true)] [none] [] []))] (q := ([Nm [1, 7, 8, 9] [D.dat (I v), D.dat (Dat.lst b es), D.dat (I (es.length : Int)), D.dat (I 0)] [none, none, none, none] [] [] = hd57 b es v 0, LoopAt cfg kk 57 Go.Proofs.Try.f57 2 (hd57 b es v 0) X.ret (Nm [4] [D.dat (B true)] [none] [] [])], [D.dat (B true)], [], [])) (by kernel_rfl) ⟨rfl, h2, trivial⟩
theorem lcHas_n (kk : Nat) (b : Bool) (es : List Dat) (v : Int) (h2 : LoopAt cfg kk 57 Go.Proofs.Try.f57 2 (hd57 b es v 0) (X.exit 0) (Nm [4] [D.junk] [none] [] [])) : runFn cfg kk (den cfg kk) 57 Go.Proofs.Try.f57 [.dat (Dat.lst b es), .dat (I v)] [] [] = some ([D.dat (B false)], [], []) :=
  hrun_sound [(300002, .loop (hd57 b es v 0) (.exit 0) (Nm [4] [.junk] [none] [] []))] (q := ([Nm [1, 7, 8, 9] [D.dat (I v), D.dat (Dat.lst b es), D.dat (I (es.length : Int)), D.dat (I 0)] [none, none, none, none] [] [] = hd57 b es v 0, LoopAt cfg kk 57 Go.Proofs.Try.f57 2 (hd57 b es v 0) (X.exit 0) (Nm [4] [D.junk] [none] [] [])], [D.dat (B false)], [], [])) (by kernel_rfl) ⟨rfl, h2, trivial⟩
def hd58 (b : Bool) (es : List Dat) (out : List Dat) (i : Int) : St := Nm [0, 3, 6, 7, 8] [.dat (.lst b es), .own 3 out, .dat (.lst b es), .dat (I es.length), .dat (I i)] [none, none, none, none, none] [] []
theorem lcRedexes_no (kk m : Nat) {s : St} {K : X → St → Prop} (b : Bool) (es : List Dat) (out : List Dat) (i k n u : Int) (hs : s.norm ((envOf cfg kk 58 Go.Proofs.Try.f58).live (firstRegion (lp Go.Proofs.Try.f58 3))) = hd58 b es out i) (h1 : decide (i < (es.length : Int)) = true) (h2 : (0 ≤ i ∧ i < (es.length : Int)) ∧ es[i.toNat]? = some (N3 k n u)) (h3 : decide (k = 3) = false) (hn : ∀ s : St, s.norm ((envOf cfg kk 58 Go.Proofs.Try.f58).live (firstRegion (lp Go.Proofs.Try.f58 3))) = Nm [0, 3, 6, 7, 8] [D.dat (Dat.lst b es), D.own 3 out, D.dat (Dat.lst b es), D.dat (I (es.length : Int)), D.dat (I (w64 (i + 1)))] [none, none, none, none, none] [] [] → Rounds (envOf cfg kk 58 Go.Proofs.Try.f58) kk (lp Go.Proofs.Try.f58 3) m s K) : Rounds (envOf cfg kk 58 Go.Proofs.Try.f58) kk (lp Go.Proofs.Try.f58 3) (m + 1) s K :=
  rounds_go [(200009, .yes), (11, .at (N3 k n u)), (200016, .no)] hs (ps := [decide (i < (es.length : Int)) = true, (0 ≤ i ∧ i < (es.length : Int)) ∧ es[i.toNat]? = some (N3 k n u), decide (k = 3) = false, false = false, false = false, false = false, false = false, false = false, false = false]) (by kernel_rfl) ⟨h1, h2, h3, rfl, rfl, rfl, rfl, rfl, rfl, trivial⟩ (by kernel_rfl) hn
theorem lcRedexes_var (kk m : Nat) {s : St} {K : X → St → Prop} (b : Bool) (es : List Dat) (out : List Dat) (i k n u : Int) (k2 n2 u2 : Int) (hs : s.norm ((envOf cfg kk 58 Go.Proofs.Try.f58).live (firstRegion (lp Go.Proofs.Try.f58 3))) = hd58 b es out i) (h1 : decide (i < (es.length : Int)) = true) (h2 : (0 ≤ i ∧ i < (es.length : Int)) ∧ es[i.toNat]? = some (N3 k n u)) (h3 : decide (k = 3) = true) (h7 : (0 ≤ w64 (i + 1) ∧ w64 (i + 1) < (es.length : Int)) ∧ es[(w64 (i + 1)).toNat]? = some (N3 k2 n2 u2)) (h11 : decide (k2 = 2) = false) (hn : ∀ s : St, s.norm ((envOf cfg kk 58 Go.Proofs.Try.f58).live (firstRegion (lp Go.Proofs.Try.f58 3))) = Nm [0, 3, 6, 7, 8] [D.dat (Dat.lst b es), D.own 3 out, D.dat (Dat.lst b es), D.dat (I (es.length : Int)), D.dat (I (w64 (i + 1)))] [none, none, none, none, none] [] [] → Rounds (envOf cfg kk 58 Go.Proofs.Try.f58) kk (lp Go.Proofs.Try.f58 3) m s K) : Rounds (envOf cfg kk 58 Go.Proofs.Try.f58) kk (lp Go.Proofs.Try.f58 3) (m + 1) s K :=
  rounds_go [(200009, .yes), (11, .at (N3 k n u)), (200016, .yes), (20, .at (N3 k2 n2 u2)), (200024, .no)] hs (ps := [decide (i < (es.length : Int)) = true, (0 ≤ i ∧ i < (es.length : Int)) ∧ es[i.toNat]? = some (N3 k n u), decide (k = 3) = true, true = true, true = true, true = true, (0 ≤ w64 (i + 1) ∧ w64 (i + 1) < (es.length : Int)) ∧ es[(w64 (i + 1)).toNat]? = some (N3 k2 n2 u2), true = true, true = true, true = true, decide (k2 = 2) = false]) (by kernel_rfl) ⟨h1, h2, h3, rfl, rfl, rfl, h7, rfl, rfl, rfl, h11, trivial⟩ (by kernel_rfl) hn
theorem lcRedexes_hit (kk m : Nat) {s : St} {K : X → St → Prop} (b : Bool) (es : List Dat) (out : List Dat) (i k n u : Int) (k2 n2 u2 : Int) (hs : s.norm ((envOf cfg kk 58 Go.Proofs.Try.f58).live (firstRegion (lp Go.Proofs.Try.f58 3))) = hd58 b es out i) (h1 : decide (i < (es.length : Int)) = true) (h2 : (0 ≤ i ∧ i < (es.length : Int)) ∧ es[i.toNat]? = some (N3 k n u)) (h3 : decide (k = 3) = true) (h7 : (0 ≤ w64 (i + 1) ∧ w64 (i + 1) < (es.length : Int)) ∧ es[(w64 (i + 1)).toNat]? = some (N3 k2 n2 u2)) (h11 : decide (k2 = 2) = true) (h12 : out.length + 1 ≤ 2147483648) (hn : ∀ s : St, s.norm ((envOf cfg kk 58 Go.Proofs.Try.f58).live (firstRegion (lp Go.Proofs.Try.f58 3))) = Nm [0, 3, 6, 7, 8] [D.dat (Dat.lst b es), D.own 3 (out ++ [I i]), D.dat (Dat.lst b es), D.dat (I (es.length : Int)), D.dat (I (w64 (i + 1)))] [none, none, none, none, none] [] [] → Rounds (envOf cfg kk 58 Go.Proofs.Try.f58) kk (lp Go.Proofs.Try.f58 3) m s K) : Rounds (envOf cfg kk 58 Go.Proofs.Try.f58) kk (lp Go.Proofs.Try.f58 3) (m + 1) s K :=
  rounds_go [(200009, .yes), (11, .at (N3 k n u)), (200016, .yes), (20, .at (N3 k2 n2 u2)), (200024, .yes), (28, .ok)] hs (ps := [decide (i < (es.length : Int)) = true, (0 ≤ i ∧ i < (es.length : Int)) ∧ es[i.toNat]? = some (N3 k n u), decide (k = 3) = true, true = true, true = true, true = true, (0 ≤ w64 (i + 1) ∧ w64 (i + 1) < (es.length : Int)) ∧ es[(w64 (i + 1)).toNat]? = some (N3 k2 n2 u2), true = true, true = true, true = true, decide (k2 = 2) = true, true = true ∧ out.length + 1 ≤ 2147483648]) (by kernel_rfl) ⟨h1, h2, h3, rfl, rfl, rfl, h7, rfl, rfl, rfl, h11, ⟨rfl, h12⟩, trivial⟩ (by kernel_rfl) hn
theorem lcRedexes_end (kk m : Nat) {s : St} {K : X → St → Prop} (b : Bool) (es : List Dat) (out : List Dat) (i : Int) (hs : s.norm ((envOf cfg kk 58 Go.Proofs.Try.f58).live (firstRegion (lp Go.Proofs.Try.f58 3))) = hd58 b es out i) (h1 : decide (i < (es.length : Int)) = false) (hK : K (X.exit 0) (Nm [3] [D.own 3 out] [none] [] [])) : Rounds (envOf cfg kk 58 Go.Proofs.Try.f58) kk (lp Go.Proofs.Try.f58 3) (m + 1) s K :=
  rounds_end [(200009, .no)] hs (ps := [decide (i < (es.length : Int)) = false]) (x := X.exit 0) (by kernel_rfl) rfl ⟨h1, trivial⟩ (by kernel_rfl) hK
theorem lcRedexes (kk : Nat) (b : Bool) (es : List Dat) (out : List Dat) (h2 : LoopAt cfg kk 58 Go.Proofs.Try.f58 3 (hd58 b es [] 0) (X.exit 0) (Nm [3] [D.own 3 out] [none] [] [])) : runFn cfg kk (den cfg kk) 58 Go.Proofs.Try.f58 [.dat (Dat.lst b es)] [] [] = some ([D.own 3 out], [], []) :=
  hrun_sound [(300003, .loop (hd58 b es [] 0) (.exit 0) (Nm [3] [.own 3 out] [none] [] []))] (q := ([Nm [0, 3, 6, 7, 8] [D.dat (Dat.lst b es), D.own 3 [], D.dat (Dat.lst b es), D.dat (I (es.length : Int)), D.dat (I 0)] [none, none, none, none, none] [] [] = hd58 b es [] 0, LoopAt cfg kk 58 Go.Proofs.Try.f58 3 (hd58 b es [] 0) (X.exit 0) (Nm [3] [D.own 3 out] [none] [] [])], [D.own 3 out], [], [])) (by kernel_rfl) ⟨rfl, h2, trivial⟩
def hd59 (kk0 k n : Int) (ps out : List Dat) (i : Int) : St := Nm [1, 4, 6, 21, 22, 23] [.dat (I kk0), .ptr (.loc 4) 0, .ptr (.loc 6) 0, .dat (.lst false ps), .dat (I ps.length), .dat (I i)] [none, some [.dat (I 0), .dat (I 0), .own 46 []], some [.dat (I k), .dat (I n), .own 46 out], none, none, none] [] []
theorem lcAt_in (kk m : Nat) {s : St} {K : X → St → Prop} (kk0 k n : Int) (ps out : List Dat) (i : Int) (kx nx ky ny left : Int) (dx dy : List Dat) (hs : s.norm ((envOf cfg kk 59 Go.Proofs.Try.f59).live (firstRegion (lp Go.Proofs.Try.f59 6))) = hd59 kk0 k n ps out i) (h1 : decide (i < (ps.length : Int)) = true) (h2 : (0 ≤ i ∧ i < (ps.length : Int)) ∧ ps[i.toNat]? = some (T kx nx dx)) (h3 : decide (0 ≤ kk0) = true) (h4 : den cfg kk 59 [D.dat (T kx nx dx), D.dat (I kk0)] [] [] = some ([D.dat (T ky ny dy), D.dat (I left)], [], [])) (h5 : out.length + 1 ≤ 2147483648) (hn : ∀ s : St, s.norm ((envOf cfg kk 59 Go.Proofs.Try.f59).live (firstRegion (lp Go.Proofs.Try.f59 6))) = Nm [1, 4, 6, 21, 22, 23] [D.dat (I left), D.ptr (Ref.loc 4) 0, D.ptr (Ref.loc 6) 0, D.dat (Dat.lst false ps), D.dat (I (ps.length : Int)), D.dat (I (w64 (i + 1)))] [none, some [D.dat (I 0), D.dat (I 0), D.own 46 []], some [D.dat (I k), D.dat (I n), D.own 46 (out ++ [T ky ny dy])], none, none, none] [] [] → Rounds (envOf cfg kk 59 Go.Proofs.Try.f59) kk (lp Go.Proofs.Try.f59 6) m s K) : Rounds (envOf cfg kk 59 Go.Proofs.Try.f59) kk (lp Go.Proofs.Try.f59 6) (m + 1) s K :=
  rounds_go [(200024, .yes), (25, .at (T kx nx dx)), (200028, .yes), (32, .ret [.dat (T ky ny dy), .dat (I left)]), (39, .ok)] hs (ps := [decide (i < (ps.length : Int)) = true, (0 ≤ i ∧ i < (ps.length : Int)) ∧ ps[i.toNat]? = some (T kx nx dx), decide (0 ≤ kk0) = true, den cfg kk 59 [D.dat (T kx nx dx), D.dat (I kk0)] [] [] = some ([D.dat (T ky ny dy), D.dat (I left)], [], []), true = true ∧ out.length + 1 ≤ 2147483648]) (by kernel_rfl) ⟨h1, h2, h3, h4, ⟨rfl, h5⟩, trivial⟩ (by kernel_rfl) hn
theorem lcAt_past (kk m : Nat) {s : St} {K : X → St → Prop} (kk0 k n : Int) (ps out : List Dat) (i : Int) (kx nx : Int) (dx : List Dat) (hs : s.norm ((envOf cfg kk 59 Go.Proofs.Try.f59).live (firstRegion (lp Go.Proofs.Try.f59 6))) = hd59 kk0 k n ps out i) (h1 : decide (i < (ps.length : Int)) = true) (h2 : (0 ≤ i ∧ i < (ps.length : Int)) ∧ ps[i.toNat]? = some (T kx nx dx)) (h3 : decide (0 ≤ kk0) = false) (h4 : out.length + 1 ≤ 2147483648) (hn : ∀ s : St, s.norm ((envOf cfg kk 59 Go.Proofs.Try.f59).live (firstRegion (lp Go.Proofs.Try.f59 6))) = Nm [1, 4, 6, 21, 22, 23] [D.dat (I kk0), D.ptr (Ref.loc 4) 0, D.ptr (Ref.loc 6) 0, D.dat (Dat.lst false ps), D.dat (I (ps.length : Int)), D.dat (I (w64 (i + 1)))] [none, some [D.dat (I 0), D.dat (I 0), D.own 46 []], some [D.dat (I k), D.dat (I n), D.own 46 (out ++ [T kx nx dx])], none, none, none] [] [] → Rounds (envOf cfg kk 59 Go.Proofs.Try.f59) kk (lp Go.Proofs.Try.f59 6) m s K) : Rounds (envOf cfg kk 59 Go.Proofs.Try.f59) kk (lp Go.Proofs.Try.f59 6) (m + 1) s K :=
  rounds_go [(200024, .yes), (25, .at (T kx nx dx)), (200028, .no), (39, .ok)] hs (ps := [decide (i < (ps.length : Int)) = true, (0 ≤ i ∧ i < (ps.length : Int)) ∧ ps[i.toNat]? = some (T kx nx dx), decide (0 ≤ kk0) = false, true = true ∧ out.length + 1 ≤ 2147483648]) (by kernel_rfl) ⟨h1, h2, h3, ⟨rfl, h4⟩, trivial⟩ (by kernel_rfl) hn
theorem lcAt_end (kk m : Nat) {s : St} {K : X → St → Prop} (kk0 k n : Int) (ps out : List Dat) (i : Int) (hs : s.norm ((envOf cfg kk 59 Go.Proofs.Try.f59).live (firstRegion (lp Go.Proofs.Try.f59 6))) = hd59 kk0 k n ps out i) (h1 : decide (i < (ps.length : Int)) = false) (hK : K (X.exit 0) (Nm [1, 4, 6] [D.dat (I kk0), D.ptr (Ref.loc 4) 0, D.ptr (Ref.loc 6) 0] [none, some [D.dat (I 0), D.dat (I 0), D.own 46 []], some [D.dat (I k), D.dat (I n), D.own 46 out]] [] [])) : Rounds (envOf cfg kk 59 Go.Proofs.Try.f59) kk (lp Go.Proofs.Try.f59 6) (m + 1) s K :=
  rounds_end [(200024, .no)] hs (ps := [decide (i < (ps.length : Int)) = false]) (x := X.exit 0) (by kernel_rfl) rfl ⟨h1, trivial⟩ (by kernel_rfl) hK
theorem lcAt_here (kk : Nat) (kk0 k n kr nr : Int) (ps dr : List Dat) (h1 : decide (kk0 = 0) = true) (h2 : den cfg kk 95 [D.dat (T k n ps)] [] [] = some ([D.dat (T kr nr dr)], [], [])) : runFn cfg kk (den cfg kk) 59 Go.Proofs.Try.f59 [.dat (T k n ps), .dat (I kk0)] [] [] = some ([D.dat (T kr nr dr), D.dat (I (-1))], [], []) :=
  hrun_sound [(200010, .yes), (12, .ret [.dat (T kr nr dr)])] (q := ([decide (kk0 = 0) = true, den cfg kk 95 [D.dat (T k n ps)] [] [] = some ([D.dat (T kr nr dr)], [], [])], [D.dat (T kr nr dr), D.dat (I (-1))], [], [])) (by kernel_rfl) ⟨h1, h2, trivial⟩
theorem lcAt (kk : Nat) (kk0 k n left : Int) (ps out : List Dat) (h1 : decide (kk0 = 0) = false) (h3 : LoopAt cfg kk 59 Go.Proofs.Try.f59 6 (hd59 (w64 (kk0 - 1)) k n ps [] 0) (X.exit 0) (Nm [1, 4, 6] [D.dat (I left), D.ptr (Ref.loc 4) 0, D.ptr (Ref.loc 6) 0] [none, some [D.dat (I 0), D.dat (I 0), D.own 46 []], some [D.dat (I k), D.dat (I n), D.own 46 out]] [] [])) : runFn cfg kk (den cfg kk) 59 Go.Proofs.Try.f59 [.dat (T k n ps), .dat (I kk0)] [] [] = some ([D.dat (T k n out), D.dat (I left)], [], []) :=
  hrun_sound [(200010, .no), (300006, .loop (hd59 (w64 (kk0 - 1)) k n ps [] 0) (.exit 0) (Nm [1, 4, 6] [.dat (I left), .ptr (.loc 4) 0, .ptr (.loc 6) 0] [none, some [.dat (I 0), .dat (I 0), .own 46 []], some [.dat (I k), .dat (I n), .own 46 out]] [] []))] (q := ([decide (kk0 = 0) = false, Nm [1, 4, 6, 21, 22, 23] [D.dat (I (w64 (kk0 - 1))), D.ptr (Ref.loc 4) 0, D.ptr (Ref.loc 6) 0, D.dat (Dat.lst false ps), D.dat (I (ps.length : Int)), D.dat (I 0)] [none, some [D.dat (I 0), D.dat (I 0), D.own 46 []], some [D.dat (I k), D.dat (I n), D.own 46 []], none, none, none] [] [] = hd59 (w64 (kk0 - 1)) k n ps [] 0, LoopAt cfg kk 59 Go.Proofs.Try.f59 6 (hd59 (w64 (kk0 - 1)) k n ps [] 0) (X.exit 0) (Nm [1, 4, 6] [D.dat (I left), D.ptr (Ref.loc 4) 0, D.ptr (Ref.loc 6) 0] [none, some [D.dat (I 0), D.dat (I 0), D.own 46 []], some [D.dat (I k), D.dat (I n), D.own 46 out]] [] [])], [D.dat (T k n out), D.dat (I left)], [], [])) (by kernel_rfl) ⟨h1, rfl, h3, trivial⟩
theorem containsI (kk : Nat) (b : Bool) (es : List Dat) (v j : Int) (h1 : den cfg kk 98 [D.dat (Dat.lst b es), D.dat (I v)] [] [] = some ([D.dat (I j)], [], [])) : runFn cfg kk (den cfg kk) 60 Go.Proofs.Try.f60 [.dat (Dat.lst b es), .dat (I v)] [] [] = some ([D.dat (B (decide (0 ≤ j)))], [], []) :=
  hrun_sound [(7, .ret [.dat (I j)])] (q := ([den cfg kk 98 [D.dat (Dat.lst b es), D.dat (I v)] [] [] = some ([D.dat (I j)], [], [])], [D.dat (B (decide (0 ≤ j)))], [], [])) (by kernel_rfl) ⟨h1, trivial⟩
def hd98 (b : Bool) (es : List Dat) (v i : Int) : St := Nm [0, 1, 7, 8] [.dat (.lst b es), .dat (I v), .dat (I es.length), .dat (I i)] [none, none, none, none] [] []
theorem indexI_go (kk m : Nat) {s : St} {K : X → St → Prop} (b : Bool) (es : List Dat) (v i x : Int) (hs : s.norm ((envOf cfg kk 98 Go.Proofs.Try.f98).live (firstRegion (lp Go.Proofs.Try.f98 2))) = hd98 b es v i) (h1 : decide (i < (es.length : Int)) = true) (h2 : (0 ≤ i ∧ i < (es.length : Int)) ∧ es[i.toNat]? = some (I x)) (h3 : decide (v = x) = false) (hn : ∀ s : St, s.norm ((envOf cfg kk 98 Go.Proofs.Try.f98).live (firstRegion (lp Go.Proofs.Try.f98 2))) = Nm [0, 1, 7, 8] [D.dat (Dat.lst b es), D.dat (I v), D.dat (I (es.length : Int)), D.dat (I (w64 (i + 1)))] [none, none, none, none] [] [] → Rounds (envOf cfg kk 98 Go.Proofs.Try.f98) kk (lp Go.Proofs.Try.f98 2) m s K) : Rounds (envOf cfg kk 98 Go.Proofs.Try.f98) kk (lp Go.Proofs.Try.f98 2) (m + 1) s K :=
  rounds_go [(200009, .yes), (14, .at (I x)), (200016, .no)] hs (ps := [decide (i < (es.length : Int)) = true, (0 ≤ i ∧ i < (es.length : Int)) ∧ es[i.toNat]? = some (I x), decide (v = x) = false]) (by kernel_rfl) ⟨h1, h2, h3, trivial⟩ (by kernel_rfl) hn
theorem indexI_hit (kk m : Nat) {s : St} {K : X → St → Prop} (b : Bool) (es : List Dat) (v i x : Int) (hs : s.norm ((envOf cfg kk 98 Go.Proofs.Try.f98).live (firstRegion (lp Go.Proofs.Try.f98 2))) = hd98 b es v i) (h1 : decide (i < (es.length : Int)) = true) (h2 : (0 ≤ i ∧ i < (es.length : Int)) ∧ es[i.toNat]? = some (I x)) (h3 : decide (v = x) = true) (hK : K (X.ret) (Nm [4] [D.dat (I i)] [none] [] [])) : Rounds (envOf cfg kk 98 Go.Proofs.Try.f98) kk (lp Go.Proofs.Try.f98 2) (m + 1) s K :=
  rounds_end [(200009, .yes), (14, .at (I x)), (200016, .yes)] hs (ps := [decide (i < (es.length : Int)) = true, (0 ≤ i ∧ i < (es.length : Int)) ∧ es[i.toNat]? = some (I x), decide (v = x) = true]) (x := X.ret) (by kernel_rfl) rfl ⟨h1, h2, h3, trivial⟩ (by kernel_rfl) hK
theorem indexI_end (kk m : Nat) {s : St} {K : X → St → Prop} (b : Bool) (es : List Dat) (v i : Int) (hs : s.norm ((envOf cfg kk 98 Go.Proofs.Try.f98).live (firstRegion (lp Go.Proofs.Try.f98 2))) = hd98 b es v i) (h1 : decide (i < (es.length : Int)) = false) (hK : K (X.exit 0) (Nm [4] [D.junk] [none] [] [])) : Rounds (envOf cfg kk 98 Go.Proofs.Try.f98) kk (lp Go.Proofs.Try.f98 2) (m + 1) s K :=
  rounds_end [(200009, .no)] hs (ps := [decide (i < (es.length : Int)) = false]) (x := X.exit 0) (by kernel_rfl) rfl ⟨h1, trivial⟩ (by kernel_rfl) hK
theorem indexI_y (kk : Nat) (b : Bool) (es : List Dat) (v j : Int) (h2 : LoopAt cfg kk 98 Go.Proofs.Try.f98 2 (hd98 b es v 0) X.ret (Nm [4] [D.dat (I j)] [none] [] [])) : runFn cfg kk (den cfg kk) 98 Go.Proofs.Try.f98 [.dat (Dat.lst b es), .dat (I v)] [] [] = some ([D.dat (I j)], [], []) :=
  hrun_sound [(300002, .loop (hd98 b es v 0) .ret (Nm [4] [.dat (I j)] [none] [] []))] (q := ([Nm [0, 1, 7, 8] [D.dat (Dat.lst b es), D.dat (I v), D.dat (I (es.length : Int)), D.dat (I 0)] [none, none, none, none] [] [] = hd98 b es v 0, LoopAt cfg kk 98 Go.Proofs.Try.f98 2 (hd98 b es v 0) X.ret (Nm [4] [D.dat (I j)] [none] [] [])], [D.dat (I j)], [], [])) (by kernel_rfl) ⟨rfl, h2, trivial⟩
theorem indexI_n (kk : Nat) (b : Bool) (es : List Dat) (v : Int) (h2 : LoopAt cfg kk 98 Go.Proofs.Try.f98 2 (hd98 b es v 0) (X.exit 0) (Nm [4] [D.junk] [none] [] [])) : runFn cfg kk (den cfg kk) 98 Go.Proofs.Try.f98 [.dat (Dat.lst b es), .dat (I v)] [] [] = some ([D.dat (I (-1))], [], []) :=
  hrun_sound [(300002, .loop (hd98 b es v 0) (.exit 0) (Nm [4] [.junk] [none] [] []))] (q := ([Nm [0, 1, 7, 8] [D.dat (Dat.lst b es), D.dat (I v), D.dat (I (es.length : Int)), D.dat (I 0)] [none, none, none, none] [] [] = hd98 b es v 0, LoopAt cfg kk 98 Go.Proofs.Try.f98 2 (hd98 b es v 0) (X.exit 0) (Nm [4] [D.junk] [none] [] [])], [D.dat (I (-1))], [], [])) (by kernel_rfl) ⟨rfl, h2, trivial⟩
def hd61 (at_ : Int) (ps out : List Dat) (i : Int) : St := Nm [1, 5, 18, 19, 20] [.dat (I at_), .own 3 out, .dat (.lst false ps), .dat (I ps.length), .dat (I i)] [none, none, none, none, none] [] []
theorem redexes_go (kk m : Nat) {s : St} {K : X → St → Prop} (at_ : Int) (ps out : List Dat) (i : Int) (kx nx z : Int) (dx more : List Dat) (hs : s.norm ((envOf cfg kk 61 Go.Proofs.Try.f61).live (firstRegion (lp Go.Proofs.Try.f61 6))) = hd61 at_ ps out i) (h1 : decide (i < (ps.length : Int)) = true) (h2 : (0 ≤ i ∧ i < (ps.length : Int)) ∧ ps[i.toNat]? = some (T kx nx dx)) (h3 : den cfg kk 61 [D.dat (T kx nx dx), D.dat (I at_)] [] [] = some ([D.own 3 more], [], [])) (h4 : (more.all fun d => d.cells.length.beq 1) = true ∧ out.length + more.length ≤ 2147483648) (h5 : den cfg kk 99 [D.dat (T kx nx dx)] [] [] = some ([D.dat (I z)], [], [])) (hn : ∀ s : St, s.norm ((envOf cfg kk 61 Go.Proofs.Try.f61).live (firstRegion (lp Go.Proofs.Try.f61 6))) = Nm [1, 5, 18, 19, 20] [D.dat (I (w64 (at_ + z))), D.own 3 (out ++ more), D.dat (Dat.lst false ps), D.dat (I (ps.length : Int)), D.dat (I (w64 (i + 1)))] [none, none, none, none, none] [] [] → Rounds (envOf cfg kk 61 Go.Proofs.Try.f61) kk (lp Go.Proofs.Try.f61 6) m s K) : Rounds (envOf cfg kk 61 Go.Proofs.Try.f61) kk (lp Go.Proofs.Try.f61 6) (m + 1) s K :=
  rounds_go [(200021, .yes), (22, .at (T kx nx dx)), (27, .ret [.own 3 more]), (28, .ok), (31, .ret [.dat (I z)])] hs (ps := [decide (i < (ps.length : Int)) = true, (0 ≤ i ∧ i < (ps.length : Int)) ∧ ps[i.toNat]? = some (T kx nx dx), den cfg kk 61 [D.dat (T kx nx dx), D.dat (I at_)] [] [] = some ([D.own 3 more], [], []), (more.all fun d => d.cells.length.beq 1) = true ∧ out.length + more.length ≤ 2147483648, den cfg kk 99 [D.dat (T kx nx dx)] [] [] = some ([D.dat (I z)], [], [])]) (by kernel_rfl) ⟨h1, h2, h3, h4, h5, trivial⟩ (by kernel_rfl) hn
theorem redexes_end (kk m : Nat) {s : St} {K : X → St → Prop} (at_ : Int) (ps out : List Dat) (i : Int) (hs : s.norm ((envOf cfg kk 61 Go.Proofs.Try.f61).live (firstRegion (lp Go.Proofs.Try.f61 6))) = hd61 at_ ps out i) (h1 : decide (i < (ps.length : Int)) = false) (hK : K (X.exit 0) (Nm [5] [D.own 3 out] [none] [] [])) : Rounds (envOf cfg kk 61 Go.Proofs.Try.f61) kk (lp Go.Proofs.Try.f61 6) (m + 1) s K :=
  rounds_end [(200021, .no)] hs (ps := [decide (i < (ps.length : Int)) = false]) (x := X.exit 0) (by kernel_rfl) rfl ⟨h1, trivial⟩ (by kernel_rfl) hK
theorem redexes_y (kk : Nat) (k n at_ : Int) (ps out : List Dat) (at2 : Int) (h1 : den cfg kk 96 [D.dat (T k n ps)] [] [] = some ([D.dat (B true)], [], [])) (h2 : 1 ≤ 2147483648) (h4 : LoopAt cfg kk 61 Go.Proofs.Try.f61 6 (hd61 (w64 (at_ + 1)) ps [I at_] 0) (X.exit 0) (Nm [5] [D.own 3 out] [none] [] [])) : runFn cfg kk (den cfg kk) 61 Go.Proofs.Try.f61 [.dat (T k n ps), .dat (I at_)] [] [] = some ([D.own 3 out], [], []) :=
  hrun_sound [(10, .ret [.dat (B true)]), (14, .ok), (300006, .loop (hd61 (w64 (at_ + 1)) ps [I at_] 0) (.exit 0) (Nm [5] [.own 3 out] [none] [] []))] (q := ([den cfg kk 96 [D.dat (T k n ps)] [] [] = some ([D.dat (B true)], [], []), true = true ∧ 1 ≤ 2147483648, Nm [1, 5, 18, 19, 20] [D.dat (I (w64 (at_ + 1))), D.own 3 [I at_], D.dat (Dat.lst false ps), D.dat (I (ps.length : Int)), D.dat (I 0)] [none, none, none, none, none] [] [] = hd61 (w64 (at_ + 1)) ps [I at_] 0, LoopAt cfg kk 61 Go.Proofs.Try.f61 6 (hd61 (w64 (at_ + 1)) ps [I at_] 0) (X.exit 0) (Nm [5] [D.own 3 out] [none] [] [])], [D.own 3 out], [], [])) (by kernel_rfl) ⟨h1, ⟨rfl, h2⟩, rfl, h4, trivial⟩
theorem redexes_n (kk : Nat) (k n at_ : Int) (ps out : List Dat) (at2 : Int) (h1 : den cfg kk 96 [D.dat (T k n ps)] [] [] = some ([D.dat (B false)], [], [])) (h3 : LoopAt cfg kk 61 Go.Proofs.Try.f61 6 (hd61 (w64 (at_ + 1)) ps [] 0) (X.exit 0) (Nm [5] [D.own 3 out] [none] [] [])) : runFn cfg kk (den cfg kk) 61 Go.Proofs.Try.f61 [.dat (T k n ps), .dat (I at_)] [] [] = some ([D.own 3 out], [], []) :=
  hrun_sound [(10, .ret [.dat (B false)]), (300006, .loop (hd61 (w64 (at_ + 1)) ps [] 0) (.exit 0) (Nm [5] [.own 3 out] [none] [] []))] (q := ([den cfg kk 96 [D.dat (T k n ps)] [] [] = some ([D.dat (B false)], [], []), Nm [1, 5, 18, 19, 20] [D.dat (I (w64 (at_ + 1))), D.own 3 [], D.dat (Dat.lst false ps), D.dat (I (ps.length : Int)), D.dat (I 0)] [none, none, none, none, none] [] [] = hd61 (w64 (at_ + 1)) ps [] 0, LoopAt cfg kk 61 Go.Proofs.Try.f61 6 (hd61 (w64 (at_ + 1)) ps [] 0) (X.exit 0) (Nm [5] [D.own 3 out] [none] [] [])], [D.own 3 out], [], [])) (by kernel_rfl) ⟨h1, rfl, h3, trivial⟩
def hd62 (kk0 k n : Int) (ps out : List Dat) (i : Int) : St := Nm [1, 4, 5, 21, 22, 23] [.dat (I kk0), .ptr (.loc 4) 0, .ptr (.loc 5) 0, .dat (.lst false ps), .dat (I ps.length), .dat (I i)] [none, some [.dat (I 0), .dat (I 0), .own 55 []], some [.dat (I k), .dat (I n), .own 55 out], none, none, none] [] []
theorem reduceAt_in (kk m : Nat) {s : St} {K : X → St → Prop} (kk0 k n : Int) (ps out : List Dat) (i : Int) (kx nx z : Int) (dx : List Dat) (ky ny : Int) (dy : List Dat) (hs : s.norm ((envOf cfg kk 62 Go.Proofs.Try.f62).live (firstRegion (lp Go.Proofs.Try.f62 6))) = hd62 kk0 k n ps out i) (h1 : decide (i < (ps.length : Int)) = true) (h2 : (0 ≤ i ∧ i < (ps.length : Int)) ∧ ps[i.toNat]? = some (T kx nx dx)) (h3 : den cfg kk 99 [D.dat (T kx nx dx)] [] [] = some ([D.dat (I z)], [], [])) (h4 : decide (0 ≤ kk0) = true) (h7 : decide (kk0 < z) = true) (h8 : den cfg kk 62 [D.dat (T kx nx dx), D.dat (I kk0)] [] [] = some ([D.dat (T ky ny dy)], [], [])) (h9 : out.length + 1 ≤ 2147483648) (hn : ∀ s : St, s.norm ((envOf cfg kk 62 Go.Proofs.Try.f62).live (firstRegion (lp Go.Proofs.Try.f62 6))) = Nm [1, 4, 5, 21, 22, 23] [D.dat (I (-1)), D.ptr (Ref.loc 4) 0, D.ptr (Ref.loc 5) 0, D.dat (Dat.lst false ps), D.dat (I (ps.length : Int)), D.dat (I (w64 (i + 1)))] [none, some [D.dat (I 0), D.dat (I 0), D.own 55 []], some [D.dat (I k), D.dat (I n), D.own 55 (out ++ [T ky ny dy])], none, none, none] [] [] → Rounds (envOf cfg kk 62 Go.Proofs.Try.f62) kk (lp Go.Proofs.Try.f62 6) m s K) : Rounds (envOf cfg kk 62 Go.Proofs.Try.f62) kk (lp Go.Proofs.Try.f62 6) (m + 1) s K :=
  rounds_go [(200024, .yes), (25, .at (T kx nx dx)), (28, .ret [.dat (I z)]), (200031, .yes), (200035, .yes), (40, .ret [.dat (T ky ny dy)]), (42, .ok)] hs (ps := [decide (i < (ps.length : Int)) = true, (0 ≤ i ∧ i < (ps.length : Int)) ∧ ps[i.toNat]? = some (T kx nx dx), den cfg kk 99 [D.dat (T kx nx dx)] [] [] = some ([D.dat (I z)], [], []), decide (0 ≤ kk0) = true, true = true, true = true, decide (kk0 < z) = true, den cfg kk 62 [D.dat (T kx nx dx), D.dat (I kk0)] [] [] = some ([D.dat (T ky ny dy)], [], []), true = true ∧ out.length + 1 ≤ 2147483648]) (by kernel_rfl) ⟨h1, h2, h3, h4, rfl, rfl, h7, h8, ⟨rfl, h9⟩, trivial⟩ (by kernel_rfl) hn
theorem reduceAt_on (kk m : Nat) {s : St} {K : X → St → Prop} (kk0 k n : Int) (ps out : List Dat) (i : Int) (kx nx z : Int) (dx : List Dat) (hs : s.norm ((envOf cfg kk 62 Go.Proofs.Try.f62).live (firstRegion (lp Go.Proofs.Try.f62 6))) = hd62 kk0 k n ps out i) (h1 : decide (i < (ps.length : Int)) = true) (h2 : (0 ≤ i ∧ i < (ps.length : Int)) ∧ ps[i.toNat]? = some (T kx nx dx)) (h3 : den cfg kk 99 [D.dat (T kx nx dx)] [] [] = some ([D.dat (I z)], [], [])) (h4 : decide (0 ≤ kk0) = true) (h7 : decide (kk0 < z) = false) (h8 : out.length + 1 ≤ 2147483648) (hn : ∀ s : St, s.norm ((envOf cfg kk 62 Go.Proofs.Try.f62).live (firstRegion (lp Go.Proofs.Try.f62 6))) = Nm [1, 4, 5, 21, 22, 23] [D.dat (I (w64 (kk0 - z))), D.ptr (Ref.loc 4) 0, D.ptr (Ref.loc 5) 0, D.dat (Dat.lst false ps), D.dat (I (ps.length : Int)), D.dat (I (w64 (i + 1)))] [none, some [D.dat (I 0), D.dat (I 0), D.own 55 []], some [D.dat (I k), D.dat (I n), D.own 55 (out ++ [T kx nx dx])], none, none, none] [] [] → Rounds (envOf cfg kk 62 Go.Proofs.Try.f62) kk (lp Go.Proofs.Try.f62 6) m s K) : Rounds (envOf cfg kk 62 Go.Proofs.Try.f62) kk (lp Go.Proofs.Try.f62 6) (m + 1) s K :=
  rounds_go [(200024, .yes), (25, .at (T kx nx dx)), (28, .ret [.dat (I z)]), (200031, .yes), (200035, .no), (48, .ok)] hs (ps := [decide (i < (ps.length : Int)) = true, (0 ≤ i ∧ i < (ps.length : Int)) ∧ ps[i.toNat]? = some (T kx nx dx), den cfg kk 99 [D.dat (T kx nx dx)] [] [] = some ([D.dat (I z)], [], []), decide (0 ≤ kk0) = true, true = true, true = true, decide (kk0 < z) = false, true = true ∧ out.length + 1 ≤ 2147483648]) (by kernel_rfl) ⟨h1, h2, h3, h4, rfl, rfl, h7, ⟨rfl, h8⟩, trivial⟩ (by kernel_rfl) hn
theorem reduceAt_past (kk m : Nat) {s : St} {K : X → St → Prop} (kk0 k n : Int) (ps out : List Dat) (i : Int) (kx nx z : Int) (dx : List Dat) (hs : s.norm ((envOf cfg kk 62 Go.Proofs.Try.f62).live (firstRegion (lp Go.Proofs.Try.f62 6))) = hd62 kk0 k n ps out i) (h1 : decide (i < (ps.length : Int)) = true) (h2 : (0 ≤ i ∧ i < (ps.length : Int)) ∧ ps[i.toNat]? = some (T kx nx dx)) (h3 : den cfg kk 99 [D.dat (T kx nx dx)] [] [] = some ([D.dat (I z)], [], [])) (h4 : decide (0 ≤ kk0) = false) (h7 : out.length + 1 ≤ 2147483648) (hn : ∀ s : St, s.norm ((envOf cfg kk 62 Go.Proofs.Try.f62).live (firstRegion (lp Go.Proofs.Try.f62 6))) = Nm [1, 4, 5, 21, 22, 23] [D.dat (I (w64 (kk0 - z))), D.ptr (Ref.loc 4) 0, D.ptr (Ref.loc 5) 0, D.dat (Dat.lst false ps), D.dat (I (ps.length : Int)), D.dat (I (w64 (i + 1)))] [none, some [D.dat (I 0), D.dat (I 0), D.own 55 []], some [D.dat (I k), D.dat (I n), D.own 55 (out ++ [T kx nx dx])], none, none, none] [] [] → Rounds (envOf cfg kk 62 Go.Proofs.Try.f62) kk (lp Go.Proofs.Try.f62 6) m s K) : Rounds (envOf cfg kk 62 Go.Proofs.Try.f62) kk (lp Go.Proofs.Try.f62 6) (m + 1) s K :=
  rounds_go [(200024, .yes), (25, .at (T kx nx dx)), (28, .ret [.dat (I z)]), (200031, .no), (48, .ok)] hs (ps := [decide (i < (ps.length : Int)) = true, (0 ≤ i ∧ i < (ps.length : Int)) ∧ ps[i.toNat]? = some (T kx nx dx), den cfg kk 99 [D.dat (T kx nx dx)] [] [] = some ([D.dat (I z)], [], []), decide (0 ≤ kk0) = false, false = false, false = false, true = true ∧ out.length + 1 ≤ 2147483648]) (by kernel_rfl) ⟨h1, h2, h3, h4, rfl, rfl, ⟨rfl, h7⟩, trivial⟩ (by kernel_rfl) hn
theorem reduceAt_end (kk m : Nat) {s : St} {K : X → St → Prop} (kk0 k n : Int) (ps out : List Dat) (i : Int) (hs : s.norm ((envOf cfg kk 62 Go.Proofs.Try.f62).live (firstRegion (lp Go.Proofs.Try.f62 6))) = hd62 kk0 k n ps out i) (h1 : decide (i < (ps.length : Int)) = false) (hK : K (X.exit 0) (Nm [4, 5] [D.ptr (Ref.loc 4) 0, D.ptr (Ref.loc 5) 0] [some [D.dat (I 0), D.dat (I 0), D.own 55 []], some [D.dat (I k), D.dat (I n), D.own 55 out]] [] [])) : Rounds (envOf cfg kk 62 Go.Proofs.Try.f62) kk (lp Go.Proofs.Try.f62 6) (m + 1) s K :=
  rounds_end [(200024, .no)] hs (ps := [decide (i < (ps.length : Int)) = false]) (x := X.exit 0) (by kernel_rfl) rfl ⟨h1, trivial⟩ (by kernel_rfl) hK
theorem reduceAt_here (kk : Nat) (kk0 k n kr nr : Int) (ps dr : List Dat) (h1 : decide (kk0 = 0) = true) (h2 : den cfg kk 100 [D.dat (T k n ps)] [] [] = some ([D.dat (T kr nr dr)], [], [])) : runFn cfg kk (den cfg kk) 62 Go.Proofs.Try.f62 [.dat (T k n ps), .dat (I kk0)] [] [] = some ([D.dat (T kr nr dr)], [], []) :=
  hrun_sound [(200010, .yes), (12, .ret [.dat (T kr nr dr)])] (q := ([decide (kk0 = 0) = true, den cfg kk 100 [D.dat (T k n ps)] [] [] = some ([D.dat (T kr nr dr)], [], [])], [D.dat (T kr nr dr)], [], [])) (by kernel_rfl) ⟨h1, h2, trivial⟩
theorem reduceAt (kk : Nat) (kk0 k n : Int) (ps out : List Dat) (h1 : decide (kk0 = 0) = false) (h3 : LoopAt cfg kk 62 Go.Proofs.Try.f62 6 (hd62 (w64 (kk0 - 1)) k n ps [] 0) (X.exit 0) (Nm [4, 5] [D.ptr (Ref.loc 4) 0, D.ptr (Ref.loc 5) 0] [some [D.dat (I 0), D.dat (I 0), D.own 55 []], some [D.dat (I k), D.dat (I n), D.own 55 out]] [] [])) : runFn cfg kk (den cfg kk) 62 Go.Proofs.Try.f62 [.dat (T k n ps), .dat (I kk0)] [] [] = some ([D.dat (T k n out)], [], []) :=
  hrun_sound [(200010, .no), (300006, .loop (hd62 (w64 (kk0 - 1)) k n ps [] 0) (.exit 0) (Nm [4, 5] [.ptr (.loc 4) 0, .ptr (.loc 5) 0] [some [.dat (I 0), .dat (I 0), .own 55 []], some [.dat (I k), .dat (I n), .own 55 out]] [] []))] (q := ([decide (kk0 = 0) = false, Nm [1, 4, 5, 21, 22, 23] [D.dat (I (w64 (kk0 - 1))), D.ptr (Ref.loc 4) 0, D.ptr (Ref.loc 5) 0, D.dat (Dat.lst false ps), D.dat (I (ps.length : Int)), D.dat (I 0)] [none, some [D.dat (I 0), D.dat (I 0), D.own 55 []], some [D.dat (I k), D.dat (I n), D.own 55 []], none, none, none] [] [] = hd62 (w64 (kk0 - 1)) k n ps [] 0, LoopAt cfg kk 62 Go.Proofs.Try.f62 6 (hd62 (w64 (kk0 - 1)) k n ps [] 0) (X.exit 0) (Nm [4, 5] [D.ptr (Ref.loc 4) 0, D.ptr (Ref.loc 5) 0] [some [D.dat (I 0), D.dat (I 0), D.own 55 []], some [D.dat (I k), D.dat (I n), D.own 55 out]] [] [])], [D.dat (T k n out)], [], [])) (by kernel_rfl) ⟨h1, rfl, h3, trivial⟩
theorem ReduceAt_no1 (kk : Nat) (b : Bool) (es : List Dat) (v : Int) (h1 : den cfg kk 44 [D.dat (Dat.lst b es)] [] [] = some ([D.dat (B false)], [], [])) : runFn cfg kk (den cfg kk) 24 Go.Proofs.Try.f24 [.dat (Dat.lst b es), .dat (I v)] [] [] = some ([D.own 50 [], D.dat (B false)], [], []) :=
  hrun_sound [(9, .ret [.dat (B false)])] (q := ([den cfg kk 44 [D.dat (Dat.lst b es)] [] [] = some ([D.dat (B false)], [], [])], [D.own 50 [], D.dat (B false)], [], [])) (by kernel_rfl) ⟨h1, trivial⟩
theorem ReduceAt_no2 (kk : Nat) (b : Bool) (es : List Dat) (v : Int) (rs : List Dat) (h1 : den cfg kk 44 [D.dat (Dat.lst b es)] [] [] = some ([D.dat (B true)], [], [])) (h2 : den cfg kk 58 [D.dat (Dat.lst b es)] [] [] = some ([D.own 3 rs], [], [])) (h4 : den cfg kk 57 [D.dat (Dat.lst true rs), D.dat (I v)] [] [] = some ([D.dat (B false)], [], [])) : runFn cfg kk (den cfg kk) 24 Go.Proofs.Try.f24 [.dat (Dat.lst b es), .dat (I v)] [] [] = some ([D.own 50 [], D.dat (B false)], [], []) :=
  hrun_sound [(9, .ret [.dat (B true)]), (13, .ret [.own 3 rs]), (15, .ret [.dat (B false)])] (q := ([den cfg kk 44 [D.dat (Dat.lst b es)] [] [] = some ([D.dat (B true)], [], []), den cfg kk 58 [D.dat (Dat.lst b es)] [] [] = some ([D.own 3 rs], [], []), true = true, den cfg kk 57 [D.dat (Dat.lst true rs), D.dat (I v)] [] [] = some ([D.dat (B false)], [], [])], [D.own 50 [], D.dat (B false)], [], [])) (by kernel_rfl) ⟨h1, h2, rfl, h4, trivial⟩
theorem ReduceAt_go (kk : Nat) (b : Bool) (es : List Dat) (v : Int) (rs d d2 out : List Dat) (k n k2 n2 left : Int) (r : Bool) (h1 : den cfg kk 44 [D.dat (Dat.lst b es)] [] [] = some ([D.dat (B true)], [], [])) (h2 : den cfg kk 58 [D.dat (Dat.lst b es)] [] [] = some ([D.own 3 rs], [], [])) (h4 : den cfg kk 57 [D.dat (Dat.lst true rs), D.dat (I v)] [] [] = some ([D.dat (B true)], [], [])) (h5 : den cfg kk 48 [D.dat (Dat.lst b es), D.dat (I 0)] [] [] = some ([D.dat (T k n d)], [], [])) (h6 : den cfg kk 59 [D.dat (T k n d), D.dat (I v)] [] [] = some ([D.dat (T k2 n2 d2), D.dat (I left)], [], [])) (h7 : den cfg kk 46 [D.dat (T k2 n2 d2)] [] [] = some ([D.own 50 out, D.dat (B r)], [], [])) : runFn cfg kk (den cfg kk) 24 Go.Proofs.Try.f24 [.dat (Dat.lst b es), .dat (I v)] [] [] = some ([D.own 50 out, D.dat (B r)], [], []) :=
  hrun_sound [(9, .ret [.dat (B true)]), (13, .ret [.own 3 rs]), (15, .ret [.dat (B true)]), (20, .ret [.dat (T k n d)]), (22, .ret [.dat (T k2 n2 d2), .dat (I left)]), (26, .ret [.own 50 out, .dat (B r)])] (q := ([den cfg kk 44 [D.dat (Dat.lst b es)] [] [] = some ([D.dat (B true)], [], []), den cfg kk 58 [D.dat (Dat.lst b es)] [] [] = some ([D.own 3 rs], [], []), true = true, den cfg kk 57 [D.dat (Dat.lst true rs), D.dat (I v)] [] [] = some ([D.dat (B true)], [], []), den cfg kk 48 [D.dat (Dat.lst b es), D.dat (I 0)] [] [] = some ([D.dat (T k n d)], [], []), den cfg kk 59 [D.dat (T k n d), D.dat (I v)] [] [] = some ([D.dat (T k2 n2 d2), D.dat (I left)], [], []), den cfg kk 46 [D.dat (T k2 n2 d2)] [] [] = some ([D.own 50 out, D.dat (B r)], [], [])], [D.own 50 out, D.dat (B r)], [], [])) (by kernel_rfl) ⟨h1, h2, rfl, h4, h5, h6, h7, trivial⟩
theorem iReduceAt_no1 (kk : Nat) (b : Bool) (es : List Dat) (v : Int) (k n : Int) (d : List Dat) (h1 : den cfg kk 50 [D.dat (Dat.lst b es)] [] [] = some ([D.dat (T k n d), D.dat (B false)], [], [])) : runFn cfg kk (den cfg kk) 25 Go.Proofs.Try.f25 [.dat (Dat.lst b es), .dat (I v)] [] [] = some ([D.own 50 [], D.dat (B false)], [], []) :=
  hrun_sound [(10, .ret [.dat (T k n d), .dat (B false)])] (q := ([den cfg kk 50 [D.dat (Dat.lst b es)] [] [] = some ([D.dat (T k n d), D.dat (B false)], [], [])], [D.own 50 [], D.dat (B false)], [], [])) (by kernel_rfl) ⟨h1, trivial⟩
theorem iReduceAt_no2 (kk : Nat) (b : Bool) (es : List Dat) (v : Int) (k n : Int) (d rs : List Dat) (h1 : den cfg kk 50 [D.dat (Dat.lst b es)] [] [] = some ([D.dat (T k n d), D.dat (B true)], [], [])) (h2 : den cfg kk 61 [D.dat (T k n d), D.dat (I 0)] [] [] = some ([D.own 3 rs], [], [])) (h4 : den cfg kk 60 [D.dat (Dat.lst true rs), D.dat (I v)] [] [] = some ([D.dat (B false)], [], [])) : runFn cfg kk (den cfg kk) 25 Go.Proofs.Try.f25 [.dat (Dat.lst b es), .dat (I v)] [] [] = some ([D.own 50 [], D.dat (B false)], [], []) :=
  hrun_sound [(10, .ret [.dat (T k n d), .dat (B true)]), (17, .ret [.own 3 rs]), (19, .ret [.dat (B false)])] (q := ([den cfg kk 50 [D.dat (Dat.lst b es)] [] [] = some ([D.dat (T k n d), D.dat (B true)], [], []), den cfg kk 61 [D.dat (T k n d), D.dat (I 0)] [] [] = some ([D.own 3 rs], [], []), true = true, den cfg kk 60 [D.dat (Dat.lst true rs), D.dat (I v)] [] [] = some ([D.dat (B false)], [], [])], [D.own 50 [], D.dat (B false)], [], [])) (by kernel_rfl) ⟨h1, h2, rfl, h4, trivial⟩
theorem iReduceAt_go (kk : Nat) (b : Bool) (es : List Dat) (v : Int) (k n k2 n2 : Int) (d d2 rs out : List Dat) (r : Bool) (h1 : den cfg kk 50 [D.dat (Dat.lst b es)] [] [] = some ([D.dat (T k n d), D.dat (B true)], [], [])) (h2 : den cfg kk 61 [D.dat (T k n d), D.dat (I 0)] [] [] = some ([D.own 3 rs], [], [])) (h4 : den cfg kk 60 [D.dat (Dat.lst true rs), D.dat (I v)] [] [] = some ([D.dat (B true)], [], [])) (h5 : den cfg kk 62 [D.dat (T k n d), D.dat (I v)] [] [] = some ([D.dat (T k2 n2 d2)], [], [])) (h6 : den cfg kk 52 [D.dat (T k2 n2 d2)] [] [] = some ([D.own 50 out, D.dat (B r)], [], [])) : runFn cfg kk (den cfg kk) 25 Go.Proofs.Try.f25 [.dat (Dat.lst b es), .dat (I v)] [] [] = some ([D.own 50 out, D.dat (B r)], [], []) :=
  hrun_sound [(10, .ret [.dat (T k n d), .dat (B true)]), (17, .ret [.own 3 rs]), (19, .ret [.dat (B true)]), (24, .ret [.dat (T k2 n2 d2)]), (25, .ret [.own 50 out, .dat (B r)])] (q := ([den cfg kk 50 [D.dat (Dat.lst b es)] [] [] = some ([D.dat (T k n d), D.dat (B true)], [], []), den cfg kk 61 [D.dat (T k n d), D.dat (I 0)] [] [] = some ([D.own 3 rs], [], []), true = true, den cfg kk 60 [D.dat (Dat.lst true rs), D.dat (I v)] [] [] = some ([D.dat (B true)], [], []), den cfg kk 62 [D.dat (T k n d), D.dat (I v)] [] [] = some ([D.dat (T k2 n2 d2)], [], []), den cfg kk 52 [D.dat (T k2 n2 d2)] [] [] = some ([D.own 50 out, D.dat (B r)], [], [])], [D.own 50 out, D.dat (B r)], [], [])) (by kernel_rfl) ⟨h1, h2, rfl, h4, h5, h6, trivial⟩
theorem rat_small (kk : Nat) (l1 v : Int) (as_ : List Dat) (h1 : den cfg kk 15 [D.dat (Dat.lst false as_), D.dat (I 1048576)] [] [] = some ([D.dat (I l1)], [], [])) (h2 : decide (l1 < 0) = true) : runFn cfg kk (den cfg kk) 5 Go.Proofs.Try.f5 [.dat (Dat.lst false as_), .dat (I v)] [] [] = some ([D.dat (B true)], [], []) :=
  hrun_sound [(18, .ret [.dat (I l1)]), (200020, .yes)] (q := ([den cfg kk 15 [D.dat (Dat.lst false as_), D.dat (I 1048576)] [] [] = some ([D.dat (I l1)], [], []), decide (l1 < 0) = true], [D.dat (B true)], [], [])) (by kernel_rfl) ⟨h1, h2, trivial⟩
theorem rat_true (kk : Nat) (l1 v : Int) (as_ : List Dat) (xs ws xs' ws' : List Dat) (k1 m q q2 : Int) (h1 : den cfg kk 15 [D.dat (Dat.lst false as_), D.dat (I 1048576)] [] [] = some ([D.dat (I l1)], [], [])) (h2 : decide (l1 < 0) = false) (h3 : den cfg kk 17 [D.dat (Dat.lst false as_)] [] [] = some ([D.own 50 xs], [], [])) (h4 : D.cleans [D.own 50 ws, D.dat (B true)] = true) (h5 : den cfg kk 24 [D.dat (Dat.lst true xs), D.dat (I v)] [] [] = some ([D.own 50 ws, D.dat (B true)], [], [])) (h6 : den cfg kk 17 [D.dat (Dat.lst false as_)] [] [] = some ([D.own 50 xs], [], [])) (h7 : D.cleans [D.own 50 ws, D.dat (B true)] = true) (h8 : den cfg kk 25 [D.dat (Dat.lst true xs), D.dat (I v)] [] [] = some ([D.own 50 ws, D.dat (B true)], [], [])) (h10 : den cfg kk 19 [D.dat (Dat.lst true ws), D.dat (Dat.lst true ws)] [] [] = some ([D.dat (B true)], [], [])) (h11 : den cfg kk 17 [D.dat (Dat.lst false as_)] [] [] = some ([D.own 50 xs], [], [])) (h13 : den cfg kk 19 [D.dat (Dat.lst true xs), D.dat (Dat.lst true xs)] [] [] = some ([D.dat (B true)], [], [])) (h14 : den cfg kk 20 [D.bor (Pl.lent 0) none, D.dat (I 1)] [] [some (50, xs)] = some ([D.dat (I k1)], [], [some (50, xs')])) (h16 : decide (k1 < 0) = false) (h20 : den cfg kk 19 [D.dat (Dat.lst true ws), D.dat (Dat.lst true ws)] [] [] = some ([D.dat (B true)], [], [])) (h22 : den cfg kk 20 [D.bor (Pl.lent 0) none, D.dat (I 1)] [] [some (50, ws)] = some ([D.dat (I m)], [], [some (50, ws')])) (h25 : den cfg kk 21 [D.dat (Dat.lst true ws'), D.dat (I 1)] [] [] = some ([D.dat (I q)], [], [])) (h26 : decide (q < 0) = false) (h27 : (!decide (q = m)) = false) (h28 : den cfg kk 17 [D.dat (Dat.lst false as_)] [] [] = some ([D.own 50 xs], [], [])) (h29 : D.cleans [D.own 50 ws, D.dat (B true)] = true) (h30 : den cfg kk 25 [D.dat (Dat.lst true xs), D.dat (I v)] [] [] = some ([D.own 50 ws, D.dat (B true)], [], [])) (h32 : den cfg kk 19 [D.dat (Dat.lst true ws), D.dat (Dat.lst true ws)] [] [] = some ([D.dat (B true)], [], [])) (h34 : den cfg kk 21 [D.dat (Dat.lst true ws'), D.dat (I 1)] [] [] = some ([D.dat (I q2)], [], [])) (h35 : decide (q2 < 0) = false) (h36 : (!decide (q2 = m)) = false) : runFn cfg kk (den cfg kk) 5 Go.Proofs.Try.f5 [.dat (Dat.lst false as_), .dat (I v)] [] [] = some ([D.dat (B true)], [], []) :=
  hrun_sound [(18, .ret [.dat (I l1)]), (200020, .no), (23, .ret [.own 50 xs]), (25, .ret [.own 50 ws, .dat (B true)]), (29, .ret [.own 50 xs]), (33, .ret [.own 50 ws, .dat (B true)]), (38, .ret [.dat (B true)]), (47, .ret [.own 50 xs]), (48, .ret [.dat (B true)]), (52, .back [.dat (I k1)] [] [some (50, xs')]), (200055, .no), (58, .ret [.dat (B true)]), (68, .back [.dat (I m)] [] [some (50, ws')]), (71, .ret [.dat (I q)]), (200073, .no), (200076, .no), (79, .ret [.own 50 xs]), (81, .ret [.own 50 ws, .dat (B true)]), (86, .ret [.dat (B true)]), (95, .ret [.dat (I q2)]), (200097, .no), (200100, .no)] (q := ([den cfg kk 15 [D.dat (Dat.lst false as_), D.dat (I 1048576)] [] [] = some ([D.dat (I l1)], [], []), decide (l1 < 0) = false, den cfg kk 17 [D.dat (Dat.lst false as_)] [] [] = some ([D.own 50 xs], [], []), D.cleans [D.own 50 ws, D.dat (B true)] = true, den cfg kk 24 [D.dat (Dat.lst true xs), D.dat (I v)] [] [] = some ([D.own 50 ws, D.dat (B true)], [], []), den cfg kk 17 [D.dat (Dat.lst false as_)] [] [] = some ([D.own 50 xs], [], []), D.cleans [D.own 50 ws, D.dat (B true)] = true, den cfg kk 25 [D.dat (Dat.lst true xs), D.dat (I v)] [] [] = some ([D.own 50 ws, D.dat (B true)], [], []), true = true, den cfg kk 19 [D.dat (Dat.lst true ws), D.dat (Dat.lst true ws)] [] [] = some ([D.dat (B true)], [], []), den cfg kk 17 [D.dat (Dat.lst false as_)] [] [] = some ([D.own 50 xs], [], []), true = true, den cfg kk 19 [D.dat (Dat.lst true xs), D.dat (Dat.lst true xs)] [] [] = some ([D.dat (B true)], [], []), den cfg kk 20 [D.bor (Pl.lent 0) none, D.dat (I 1)] [] [some (50, xs)] = some ([D.dat (I k1)], [], [some (50, xs')]), false = false, decide (k1 < 0) = false, false = false, false = false, true = true, den cfg kk 19 [D.dat (Dat.lst true ws), D.dat (Dat.lst true ws)] [] [] = some ([D.dat (B true)], [], []), false = false, den cfg kk 20 [D.bor (Pl.lent 0) none, D.dat (I 1)] [] [some (50, ws)] = some ([D.dat (I m)], [], [some (50, ws')]), false = false, true = true, den cfg kk 21 [D.dat (Dat.lst true ws'), D.dat (I 1)] [] [] = some ([D.dat (I q)], [], []), decide (q < 0) = false, (!decide (q = m)) = false, den cfg kk 17 [D.dat (Dat.lst false as_)] [] [] = some ([D.own 50 xs], [], []), D.cleans [D.own 50 ws, D.dat (B true)] = true, den cfg kk 25 [D.dat (Dat.lst true xs), D.dat (I v)] [] [] = some ([D.own 50 ws, D.dat (B true)], [], []), true = true, den cfg kk 19 [D.dat (Dat.lst true ws), D.dat (Dat.lst true ws)] [] [] = some ([D.dat (B true)], [], []), true = true, den cfg kk 21 [D.dat (Dat.lst true ws'), D.dat (I 1)] [] [] = some ([D.dat (I q2)], [], []), decide (q2 < 0) = false, (!decide (q2 = m)) = false], [D.dat (B true)], [], [])) (by kernel_rfl) ⟨h1, h2, h3, h4, h5, h6, h7, h8, rfl, h10, h11, rfl, h13, h14, rfl, h16, rfl, rfl, rfl, h20, rfl, h22, rfl, rfl, h25, h26, h27, h28, h29, h30, rfl, h32, rfl, h34, h35, h36, trivial⟩
theorem rat_false (kk : Nat) (l1 v : Int) (as_ : List Dat) (xs ws xs' ws' : List Dat) (k1 m q q2 : Int) (h1 : den cfg kk 15 [D.dat (Dat.lst false as_), D.dat (I 1048576)] [] [] = some ([D.dat (I l1)], [], [])) (h2 : decide (l1 < 0) = false) (h3 : den cfg kk 17 [D.dat (Dat.lst false as_)] [] [] = some ([D.own 50 xs], [], [])) (h4 : D.cleans [D.own 50 ws, D.dat (B false)] = true) (h5 : den cfg kk 24 [D.dat (Dat.lst true xs), D.dat (I v)] [] [] = some ([D.own 50 ws, D.dat (B false)], [], [])) (h6 : den cfg kk 17 [D.dat (Dat.lst false as_)] [] [] = some ([D.own 50 xs], [], [])) (h7 : D.cleans [D.own 50 ws, D.dat (B false)] = true) (h8 : den cfg kk 25 [D.dat (Dat.lst true xs), D.dat (I v)] [] [] = some ([D.own 50 ws, D.dat (B false)], [], [])) (h10 : den cfg kk 19 [D.dat (Dat.lst true ws), D.dat (Dat.lst true ws)] [] [] = some ([D.dat (B true)], [], [])) (h11 : den cfg kk 17 [D.dat (Dat.lst false as_)] [] [] = some ([D.own 50 xs], [], [])) (h13 : den cfg kk 19 [D.dat (Dat.lst true xs), D.dat (Dat.lst true xs)] [] [] = some ([D.dat (B true)], [], [])) (h14 : den cfg kk 20 [D.bor (Pl.lent 0) none, D.dat (I 1)] [] [some (50, xs)] = some ([D.dat (I k1)], [], [some (50, xs')])) (h16 : decide (k1 < 0) = false) (h20 : den cfg kk 19 [D.dat (Dat.lst true ws), D.dat (Dat.lst true ws)] [] [] = some ([D.dat (B true)], [], [])) (h22 : den cfg kk 20 [D.bor (Pl.lent 0) none, D.dat (I 1)] [] [some (50, ws)] = some ([D.dat (I m)], [], [some (50, ws')])) (h25 : den cfg kk 21 [D.dat (Dat.lst true ws'), D.dat (I 1)] [] [] = some ([D.dat (I q)], [], [])) (h26 : decide (q < 0) = false) (h27 : (!decide (q = m)) = false) (h28 : den cfg kk 17 [D.dat (Dat.lst false as_)] [] [] = some ([D.own 50 xs], [], [])) (h29 : D.cleans [D.own 50 ws, D.dat (B false)] = true) (h30 : den cfg kk 25 [D.dat (Dat.lst true xs), D.dat (I v)] [] [] = some ([D.own 50 ws, D.dat (B false)], [], [])) (h32 : den cfg kk 19 [D.dat (Dat.lst true ws), D.dat (Dat.lst true ws)] [] [] = some ([D.dat (B true)], [], [])) (h34 : den cfg kk 21 [D.dat (Dat.lst true ws'), D.dat (I 1)] [] [] = some ([D.dat (I q2)], [], [])) (h35 : decide (q2 < 0) = false) (h36 : (!decide (q2 = m)) = false) : runFn cfg kk (den cfg kk) 5 Go.Proofs.Try.f5 [.dat (Dat.lst false as_), .dat (I v)] [] [] = some ([D.dat (B true)], [], []) :=
  hrun_sound [(18, .ret [.dat (I l1)]), (200020, .no), (23, .ret [.own 50 xs]), (25, .ret [.own 50 ws, .dat (B false)]), (29, .ret [.own 50 xs]), (33, .ret [.own 50 ws, .dat (B false)]), (38, .ret [.dat (B true)]), (47, .ret [.own 50 xs]), (48, .ret [.dat (B true)]), (52, .back [.dat (I k1)] [] [some (50, xs')]), (200055, .no), (58, .ret [.dat (B true)]), (68, .back [.dat (I m)] [] [some (50, ws')]), (71, .ret [.dat (I q)]), (200073, .no), (200076, .no), (79, .ret [.own 50 xs]), (81, .ret [.own 50 ws, .dat (B false)]), (86, .ret [.dat (B true)]), (95, .ret [.dat (I q2)]), (200097, .no), (200100, .no)] (q := ([den cfg kk 15 [D.dat (Dat.lst false as_), D.dat (I 1048576)] [] [] = some ([D.dat (I l1)], [], []), decide (l1 < 0) = false, den cfg kk 17 [D.dat (Dat.lst false as_)] [] [] = some ([D.own 50 xs], [], []), D.cleans [D.own 50 ws, D.dat (B false)] = true, den cfg kk 24 [D.dat (Dat.lst true xs), D.dat (I v)] [] [] = some ([D.own 50 ws, D.dat (B false)], [], []), den cfg kk 17 [D.dat (Dat.lst false as_)] [] [] = some ([D.own 50 xs], [], []), D.cleans [D.own 50 ws, D.dat (B false)] = true, den cfg kk 25 [D.dat (Dat.lst true xs), D.dat (I v)] [] [] = some ([D.own 50 ws, D.dat (B false)], [], []), true = true, den cfg kk 19 [D.dat (Dat.lst true ws), D.dat (Dat.lst true ws)] [] [] = some ([D.dat (B true)], [], []), den cfg kk 17 [D.dat (Dat.lst false as_)] [] [] = some ([D.own 50 xs], [], []), true = true, den cfg kk 19 [D.dat (Dat.lst true xs), D.dat (Dat.lst true xs)] [] [] = some ([D.dat (B true)], [], []), den cfg kk 20 [D.bor (Pl.lent 0) none, D.dat (I 1)] [] [some (50, xs)] = some ([D.dat (I k1)], [], [some (50, xs')]), false = false, decide (k1 < 0) = false, false = false, false = false, true = true, den cfg kk 19 [D.dat (Dat.lst true ws), D.dat (Dat.lst true ws)] [] [] = some ([D.dat (B true)], [], []), false = false, den cfg kk 20 [D.bor (Pl.lent 0) none, D.dat (I 1)] [] [some (50, ws)] = some ([D.dat (I m)], [], [some (50, ws')]), false = false, true = true, den cfg kk 21 [D.dat (Dat.lst true ws'), D.dat (I 1)] [] [] = some ([D.dat (I q)], [], []), decide (q < 0) = false, (!decide (q = m)) = false, den cfg kk 17 [D.dat (Dat.lst false as_)] [] [] = some ([D.own 50 xs], [], []), D.cleans [D.own 50 ws, D.dat (B false)] = true, den cfg kk 25 [D.dat (Dat.lst true xs), D.dat (I v)] [] [] = some ([D.own 50 ws, D.dat (B false)], [], []), true = true, den cfg kk 19 [D.dat (Dat.lst true ws), D.dat (Dat.lst true ws)] [] [] = some ([D.dat (B true)], [], []), true = true, den cfg kk 21 [D.dat (Dat.lst true ws'), D.dat (I 1)] [] [] = some ([D.dat (I q2)], [], []), decide (q2 < 0) = false, (!decide (q2 = m)) = false], [D.dat (B true)], [], [])) (by kernel_rfl) ⟨h1, h2, h3, h4, h5, h6, h7, h8, rfl, h10, h11, rfl, h13, h14, rfl, h16, rfl, rfl, rfl, h20, rfl, h22, rfl, rfl, h25, h26, h27, h28, h29, h30, rfl, h32, rfl, h34, h35, h36, trivial⟩
end Go.Den
/- What functions come to (13): the places of redexes. -/
namespace Go.Den
open Go
set_option linter.unusedVariables false
set_option maxRecDepth 100000

/-- The places of a term's redexes. -/
def rx : Pt → Nat → List Nat
  | .var _, _ => []
  | .lam _ x, at_ => rx x (at_ + 1)
  | .app _ a c, at_ => (if a.kd = 2 then [at_] else []) ++ (rx a (at_ + 1) ++ rx c (at_ + 1 + a.size))
/-- Whether the node of a number is a redex. -/
def rxAt : Pt → Nat → Bool
  | t, 0 => t.isRedex
  | .var _, _ + 1 => false
  | .lam _ x, k + 1 => rxAt x k
  | .app _ a c, k + 1 => if k < a.size then rxAt a k else rxAt c (k - a.size)
theorem rx_range : ∀ (t : Pt) (at_ q : Nat), q ∈ rx t at_ → at_ ≤ q ∧ q < at_ + t.size ∧ rxAt t (q - at_) = true
  | .var n, at_, q, h => by simp [rx] at h
  | .lam n x, at_, q, h => by
    obtain ⟨h1, h2, h3⟩ := rx_range x (at_ + 1) q h
    refine ⟨by omega, by simp only [Pt.size]; omega, ?_⟩
    rw [show q - at_ = (q - (at_ + 1)) + 1 by omega]
    exact h3
  | .app n a c, at_, q, h => by
    simp only [rx, List.mem_append] at h
    rcases h with h | h | h
    · split at h
      · rename_i hk
        rw [List.mem_singleton] at h
        subst h
        refine ⟨by omega, by simp only [Pt.size]; omega, ?_⟩
        rw [Nat.sub_self]
        exact decide_eq_true hk
      · cases h
    · obtain ⟨h1, h2, h3⟩ := rx_range a (at_ + 1) q h
      refine ⟨by omega, by simp only [Pt.size]; omega, ?_⟩
      rw [show q - at_ = (q - (at_ + 1)) + 1 by omega]
      simp only [rxAt]
      rw [if_pos (by omega)]
      exact h3
    · obtain ⟨h1, h2, h3⟩ := rx_range c (at_ + 1 + a.size) q h
      refine ⟨by omega, by simp only [Pt.size]; omega, ?_⟩
      rw [show q - at_ = (q - (at_ + 1)) + 1 by omega]
      simp only [rxAt]
      rw [if_neg (by omega), show q - (at_ + 1) - a.size = q - (at_ + 1 + a.size) by omega]
      exact h3
theorem rx_length : ∀ (t : Pt) (at_ : Nat), (rx t at_).length ≤ t.size
  | .var n, at_ => by simp [rx]
  | .lam n x, at_ => by have := rx_length x (at_ + 1); simp only [rx, Pt.size]; omega
  | .app n a c, at_ => by
    have h1 := rx_length a (at_ + 1)
    have h2 := rx_length c (at_ + 1 + a.size)
    simp only [rx, Pt.size, List.length_append]
    split <;> simp only [List.length_cons, List.length_nil] <;> omega
/-- Whether a number is among places. -/
def hasI (rs : List Nat) (v : Int) : Bool := rs.any fun q => decide ((q : Int) = v)
theorem hasI_mem {rs : List Nat} {v : Int} (h : hasI rs v = true) : ∃ q : Nat, v = q ∧ q ∈ rs := by
  obtain ⟨q, h1, h2⟩ := List.any_eq_true.1 h
  exact ⟨q, (of_decide_eq_true h2).symm, h1⟩

/-! ### the reference: places out of nodes -/
def isR (L : List Nd) (i : Nat) : Bool := match L[i]?, L[i + 1]? with | some x, some y => decide (x.k = 3) && decide (y.k = 2) | _, _ => false
theorem seg_rx {L : List Nd} : ∀ (t : Pt) (at_ : Nat) (up : Int) (rest : List Nd), L.drop at_ = t.flat at_ up ++ rest → (List.range' at_ t.size).filter (isR L) = rx t at_
  | .var n, at_, up, rest, h => by
    have h1 := seg_root h
    simp only [Pt.size, List.range'_one, rx, List.filter_cons, List.filter_nil]
    rw [if_neg]
    simp [isR, h1, Pt.kd]
    cases L[at_ + 1]? <;> simp
  | .lam n x, at_, up, rest, h => by
    have h1 := seg_root h
    have ih := seg_rx x _ _ _ (seg_lam h)
    simp only [Pt.size, rx]
    rw [Nat.add_comm 1, List.range'_succ, List.filter_cons, if_neg, ih]
    simp [isR, h1, Pt.kd]
    cases L[at_ + 1]? <;> simp
  | .app n a c, at_, up, rest, h => by
    have h1 := seg_root h
    have hs := seg_app h
    have h2 := seg_root hs.1
    have ih1 := seg_rx a _ _ _ hs.1
    have ih2 := seg_rx c _ _ _ hs.2
    simp only [Pt.size, rx]
    rw [show 1 + a.size + c.size = (a.size + c.size) + 1 by omega, List.range'_succ, ← List.range'_append_1, List.filter_cons, List.filter_append, ih1, ih2]
    have hd : isR L at_ = decide (a.kd = 2) := by
      simp only [isR, h1, h2]
      exact Bool.true_and _
    rw [hd]
    by_cases hk : a.kd = 2
    · simp [hk]
    · simp [hk]
theorem seg_next {L : List Nd} : ∀ (t : Pt) (at_ : Nat) (up : Int) (rest : List Nd), L.drop at_ = t.flat at_ up ++ rest → ∀ q x, at_ ≤ q → q < at_ + t.size → L[q]? = some x → x.k = 3 → q + 1 < at_ + t.size
  | .var n, at_, up, rest, h, q, x, h1, h2, hx, hk => by
    rcases seg_get h h1 h2 hx with ⟨rfl, rfl⟩ | ⟨h4, _, _⟩
    · simp [Pt.kd] at hk
    · simp only [Pt.size] at h2; omega
  | .lam n t, at_, up, rest, h, q, x, h1, h2, hx, hk => by
    rcases seg_get h h1 h2 hx with ⟨rfl, rfl⟩ | ⟨h4, _, _⟩
    · simp [Pt.kd] at hk
    · simp only [Pt.size] at h2 ⊢
      have := seg_next t _ _ _ (seg_lam h) q x (by omega) (by omega) hx hk
      omega
  | .app n a c, at_, up, rest, h, q, x, h1, h2, hx, hk => by
    have hs := seg_app h
    have hp := a.size_pos
    have hp2 := c.size_pos
    simp only [Pt.size] at h2 ⊢
    rcases seg_get h h1 (by simp only [Pt.size]; omega) hx with ⟨rfl, rfl⟩ | ⟨h4, _, _⟩
    · omega
    · by_cases hb : q < at_ + 1 + a.size
      · have := seg_next a _ _ _ hs.1 q x (by omega) (by omega) hx hk
        omega
      · have := seg_next c _ _ _ hs.2 q x (by omega) (by omega) hx hk
        omega
theorem flat_rx (t : Pt) : (List.range (t.flat 0 (-1)).length).filter (isR (t.flat 0 (-1))) = rx t 0 := by
  rw [t.flat_length, List.range_eq_range']
  exact seg_rx t 0 (-1) [] (flat_drop t)
theorem filter_range_succ (p : Nat → Bool) (i : Nat) : (List.range (i + 1)).filter p = (List.range i).filter p ++ (if p i = true then [i] else []) := by
  rw [List.range_succ, List.filter_append, List.filter_cons, List.filter_nil]
theorem ev_lcRedexes (t : Pt) (b : Bool) (hz : t.size ≤ 150) : EvN 2000 58 [.dat (.lst b ((t.flat 0 (-1)).map Nd.d))] [] [] ([.own 3 ((rx t 0).map IN)], [], []) := by
  refine (ev_fn Go.Proofs.Try.f58 1000 (by kernel_rfl) (by kernel_rfl) fun kk hkk => ?_).mono (by omega)
  have hL : (t.flat 0 (-1)).length = t.size := t.flat_length _ _
  have hnx := seg_next t 0 (-1) [] (flat_drop t)
  rw [← flat_rx t]
  generalize hE : t.flat 0 (-1) = L at *
  refine lcRedexes kk b _ _ ?_
  have hlen : ((L.map Nd.d).length : Int) = L.length := by simp
  let st := fun i : Nat => hd58 b (L.map Nd.d) (((List.range i).filter (isR L)).map IN) i
  refine loopAt_range st L.length (by omega) (fun i hi m s K hs hn => ?_) (fun m s K hs hK => ?_) (by simp [st])
  · obtain ⟨x, hx⟩ : ∃ x, L[i]? = some x := ⟨_, List.getElem?_eq_getElem hi⟩
    have hx3 := nd_at hx
    have hlt : decide ((i : Int) < ((L.map Nd.d).length : Int)) = true := decide_eq_true hx3.1.2
    have hw1 : w64 ((i : Int) + 1) = ((i + 1 : Nat) : Int) := (w64_eq (by omega)).trans (by omega)
    have hfl : ((List.range i).filter (isR L)).length ≤ i := by
      have := List.length_filter_le (isR L) (List.range i)
      rw [List.length_range] at this
      exact this
    have hout : ∀ r, isR L i = r → ((List.range (i + 1)).filter (isR L)).map IN = ((List.range i).filter (isR L)).map IN ++ (if r = true then [IN i] else []) := fun r hr => by
      rw [filter_range_succ, hr, List.map_append]
      cases r <;> rfl
    by_cases hk : x.k = 3
    · have hi1 := hnx i x (by omega) (by omega) hx hk
      obtain ⟨y, hy⟩ : ∃ y, L[i + 1]? = some y := ⟨_, List.getElem?_eq_getElem (by omega)⟩
      have hy3 := nd_at hy
      rw [← hw1] at hy3
      have hR : isR L i = decide (y.k = 2) := by simp [isR, hx, hy, hk]
      by_cases hk2 : y.k = 2
      · refine lcRedexes_hit kk m b _ _ i x.k x.n x.u y.k y.n y.u hs hlt hx3 (decide_eq_true hk) hy3 (decide_eq_true hk2) (by simp; omega) fun s' hs' => hn s' ?_
        rw [hs', hw1]
        simp only [st, hd58]
        rw [hout true (by rw [hR]; exact decide_eq_true hk2)]
        rfl
      · refine lcRedexes_var kk m b _ _ i x.k x.n x.u y.k y.n y.u hs hlt hx3 (decide_eq_true hk) hy3 (decide_eq_false hk2) fun s' hs' => hn s' ?_
        rw [hs', hw1]
        simp only [st, hd58]
        rw [hout false (by rw [hR]; exact decide_eq_false hk2), if_neg (by decide), List.append_nil]
    · have hR : isR L i = false := by
        unfold isR
        rw [hx]
        cases L[i + 1]? <;> simp [hk]
      refine lcRedexes_no kk m b _ _ i x.k x.n x.u hs hlt hx3 (decide_eq_false hk) fun s' hs' => hn s' ?_
      rw [hs', hw1]
      simp only [st, hd58]
      rw [hout false hR, if_neg (by decide), List.append_nil]
  · exact lcRedexes_end kk m b _ _ _ hs (decide_eq_false (by omega)) hK
theorem in_at {rs : List Nat} {i : Nat} (h : i < rs.length) : ∃ q, rs[i]? = some q ∧ (rs.map IN)[i]? = some (I (q : Int)) := by
  have hx := List.getElem?_eq_getElem h
  exact ⟨rs[i], hx, by rw [List.getElem?_map, hx]; rfl⟩
theorem any_first (rs : List Nat) (v : Int) (h : hasI rs v = true) : ∃ (j q : Nat), rs[j]? = some q ∧ (q : Int) = v ∧ ∀ i y, i < j → rs[i]? = some y → (y : Int) ≠ v := by
  have hb : (rs.all fun q => !decide ((q : Int) = v)) = false := by
    cases hc : rs.all fun q => !decide ((q : Int) = v) with
    | false => rfl
    | true =>
      obtain ⟨q, h1, h2⟩ := hasI_mem h
      have := (List.all_eq_true.1 hc) q h2
      rw [h1] at this
      simp at this
  obtain ⟨j, q, h1, h2, h3⟩ := first_bad (fun q : Nat => !decide ((q : Int) = v)) hb
  refine ⟨j, q, h1, ?_, fun i y hi hy => ?_⟩
  · simpa using h2
  · have := h3 i y hi hy
    simpa using this
theorem none_has (rs : List Nat) (v : Int) (h : hasI rs v = false) : ∀ (i y : Nat), rs[i]? = some y → (y : Int) ≠ v := fun i y hy e => by
  have : hasI rs v = true := List.any_eq_true.2 ⟨y, List.mem_of_getElem? hy, decide_eq_true e⟩
  rw [h] at this
  cases this
theorem ev_lcHas (rs : List Nat) (b : Bool) (v : Int) (hr : rs.length ≤ 1000) : EvN 2000 57 [.dat (.lst b (rs.map IN)), .dat (I v)] [] [] ([.dat (B (hasI rs v))], [], []) := by
  refine (ev_fn Go.Proofs.Try.f57 1500 (by kernel_rfl) (by kernel_rfl) fun kk hkk => ?_).mono (by omega)
  have hlen : ((rs.map IN).length : Int) = rs.length := by simp
  cases h : hasI rs v with
  | true =>
    obtain ⟨j, q, h1, h2, h3⟩ := any_first rs v h
    have hj := (List.getElem?_eq_some_iff.1 h1).1
    refine lcHas_y kk b _ v ?_
    refine loopAt_range (fun i => hd57 b (rs.map IN) v i) j (by omega) (fun i hi m s K hs hn => ?_) (fun m s K hs hK => ?_) rfl
    · obtain ⟨y, h4, h5⟩ := in_at (rs := rs) (i := i) (by omega)
      refine lcHas_go kk m b _ v i y hs (decide_eq_true (by omega)) ⟨⟨by omega, by omega⟩, by simpa using h5⟩ (decide_eq_false (h3 i y hi h4)) fun s' hs' => hn s' ?_
      rw [hs', w64_eq (n := (i : Int) + 1) (by omega)]
      rfl
    · obtain ⟨y, h4, h5⟩ := in_at (rs := rs) (i := j) hj
      rw [h1] at h4
      cases h4
      exact lcHas_hit kk m b _ v j q hs (decide_eq_true (by omega)) ⟨⟨by omega, by omega⟩, by simpa using h5⟩ (decide_eq_true h2) hK
  | false =>
    have h3 := none_has rs v h
    refine lcHas_n kk b _ v ?_
    refine loopAt_range (fun i => hd57 b (rs.map IN) v i) rs.length (by omega) (fun i hi m s K hs hn => ?_) (fun m s K hs hK => ?_) rfl
    · obtain ⟨y, h4, h5⟩ := in_at (rs := rs) (i := i) (by omega)
      refine lcHas_go kk m b _ v i y hs (decide_eq_true (by omega)) ⟨⟨by omega, by omega⟩, by simpa using h5⟩ (decide_eq_false (h3 i y h4)) fun s' hs' => hn s' ?_
      rw [hs', w64_eq (n := (i : Int) + 1) (by omega)]
      rfl
    · exact lcHas_end kk m b _ v _ hs (decide_eq_false (by omega)) hK
theorem ev_containsI (rs : List Nat) (b : Bool) (v : Int) (hr : rs.length ≤ 1000) : EvN 2000 60 [.dat (.lst b (rs.map IN)), .dat (I v)] [] [] ([.dat (B (hasI rs v))], [], []) := by
  have hlen : ((rs.map IN).length : Int) = rs.length := by simp
  have hidx : ∃ j : Int, EvN 1501 98 [.dat (.lst b (rs.map IN)), .dat (I v)] [] [] ([.dat (I j)], [], []) ∧ decide (0 ≤ j) = hasI rs v := by
    cases h : hasI rs v with
    | true =>
      obtain ⟨j, q, h1, h2, h3⟩ := any_first rs v h
      have hj := (List.getElem?_eq_some_iff.1 h1).1
      refine ⟨j, ev_fn Go.Proofs.Try.f98 1500 (by kernel_rfl) (by kernel_rfl) fun kk hkk => ?_, by simp⟩
      refine indexI_y kk b _ v j ?_
      refine loopAt_range (fun i => hd98 b (rs.map IN) v i) j (by omega) (fun i hi m s K hs hn => ?_) (fun m s K hs hK => ?_) rfl
      · obtain ⟨y, h4, h5⟩ := in_at (rs := rs) (i := i) (by omega)
        refine indexI_go kk m b _ v i y hs (decide_eq_true (by omega)) ⟨⟨by omega, by omega⟩, by simpa using h5⟩ (decide_eq_false (fun e => h3 i y hi h4 e.symm)) fun s' hs' => hn s' ?_
        rw [hs', w64_eq (n := (i : Int) + 1) (by omega)]
        rfl
      · obtain ⟨y, h4, h5⟩ := in_at (rs := rs) (i := j) hj
        rw [h1] at h4
        cases h4
        exact indexI_hit kk m b _ v j q hs (decide_eq_true (by omega)) ⟨⟨by omega, by omega⟩, by simpa using h5⟩ (decide_eq_true h2.symm) hK
    | false =>
      have h3 := none_has rs v h
      refine ⟨-1, ev_fn Go.Proofs.Try.f98 1500 (by kernel_rfl) (by kernel_rfl) fun kk hkk => ?_, rfl⟩
      refine indexI_n kk b _ v ?_
      refine loopAt_range (fun i => hd98 b (rs.map IN) v i) rs.length (by omega) (fun i hi m s K hs hn => ?_) (fun m s K hs hK => ?_) rfl
      · obtain ⟨y, h4, h5⟩ := in_at (rs := rs) (i := i) (by omega)
        refine indexI_go kk m b _ v i y hs (decide_eq_true (by omega)) ⟨⟨by omega, by omega⟩, by simpa using h5⟩ (decide_eq_false (fun e => h3 i y h4 e.symm)) fun s' hs' => hn s' ?_
        rw [hs', w64_eq (n := (i : Int) + 1) (by omega)]
        rfl
      · exact indexI_end kk m b _ v _ hs (decide_eq_false (by omega)) hK
  obtain ⟨j, hj, hjb⟩ := hidx
  refine (ev_fn Go.Proofs.Try.f60 1501 (by kernel_rfl) (by kernel_rfl) fun kk hkk => ?_).mono (by omega)
  rw [← hjb]
  exact containsI kk b _ v j (hj kk (by omega))
end Go.Den
