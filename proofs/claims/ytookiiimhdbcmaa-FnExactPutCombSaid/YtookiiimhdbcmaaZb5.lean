/- Merged out of: K1 K2 KP (prune.py, a program of this work's). -/
import Derived.Test.YtookiiimhdbcmaaZb4
import Derived.KernelRfl
import Derived.IntWalk
set_option linter.unusedVariables false
set_option linter.unusedSimpArgs false
set_option linter.unnecessarySimpa false
namespace Go.Den
open Go
set_option linter.unusedVariables false
set_option maxRecDepth 100000
theorem sz_no (kk : Nat) (left : Int) (b : Bool) (es : List Dat) (h1 : decide (w64 (left - (es.length : Int)) < 0) = true) : runFn cfg kk (den cfg kk) 4 Go.Proofs.Try.f4 [.dat (Dat.lst b es), .dat (I left)] [] [] = some ([D.dat (I (-1))], [], []) :=
  hrun_ok [(200010, .yes)] (ob h1 ob0) (by kernel_rfl)
theorem sz_go (kk : Nat) (left : Int) (b : Bool) (es : List Dat) (h1 : decide (w64 (left - (es.length : Int)) < 0) = false) : runFn cfg kk (den cfg kk) 4 Go.Proofs.Try.f4 [.dat (Dat.lst b es), .dat (I left)] [] [] = some ([D.dat (I (w64 (left - (es.length : Int))))], [], []) :=
  hrun_ok [(200010, .no)] (ob h1 ob0) (by kernel_rfl)
theorem toTerm (kk : Nat) (k n u : Int)  : runFn cfg kk (den cfg kk) 16 Go.Proofs.Try.f16 [.dat (N3 k n u)] [] [] = some ([D.dat (N3 k n u)], [], []) :=
  hrun_ok [] ob0 (by kernel_rfl)
def hd17 (es out : List Dat) (i : Int) : St := Nm [0, 3, 4] [.dat (.lst false es), .own 40 out, .dat (I i)] [none, none, none] [] []
theorem toTermS_go (kk m : Nat) {s : St} {K : X → St → Prop} (es out : List Dat) (i : Int) (k n u k0 n0 u0 : Int) (hs : s.norm ((envOf cfg kk 6 Go.Proofs.Try.f6).live (firstRegion (lp Go.Proofs.Try.f6 3))) = hd17 es out i) (h1 : decide (i < (es.length : Int)) = true) (h2 : (0 ≤ i ∧ i < (es.length : Int)) ∧ es[i.toNat]? = some (N3 k n u)) (h3 : den cfg kk 16 [D.dat (N3 k n u)] [] [] = some ([D.dat (N3 k n u)], [], [])) (h4 : 0 ≤ i ∧ i < (out.length : Int)) (h5 : out[i.toNat]? = some (N3 k0 n0 u0)) (hn : ∀ s : St, s.norm ((envOf cfg kk 6 Go.Proofs.Try.f6).live (firstRegion (lp Go.Proofs.Try.f6 3))) = Nm [0, 3, 4] [D.dat (Dat.lst false es), D.own 40 (out.set i.toNat (N3 k n u)), D.dat (I (w64 (i + 1)))] [none, none, none] [] [] → Rounds (envOf cfg kk 6 Go.Proofs.Try.f6) kk (lp Go.Proofs.Try.f6 3) m s K) : Rounds (envOf cfg kk 6 Go.Proofs.Try.f6) kk (lp Go.Proofs.Try.f6 3) (m + 1) s K :=
  rounds_go [(200011, .yes), (18, .at (N3 k n u)), (20, .ret [.dat (N3 k n u)]), (21, .ok), (100021, .at (N3 k0 n0 u0))] hs (by kernel_rfl) (ob h1 (ob h2 (ob h3 (ob h4 (ob h5 ob0))))) (by kernel_rfl) hn
theorem toTermS_end (kk m : Nat) {s : St} {K : X → St → Prop} (es out : List Dat) (i : Int) (hs : s.norm ((envOf cfg kk 6 Go.Proofs.Try.f6).live (firstRegion (lp Go.Proofs.Try.f6 3))) = hd17 es out i) (h1 : decide (i < (es.length : Int)) = false) (hK : K (X.exit 0) (Nm [3] [D.own 40 out] [none] [] [])) : Rounds (envOf cfg kk 6 Go.Proofs.Try.f6) kk (lp Go.Proofs.Try.f6 3) (m + 1) s K :=
  rounds_end [(200011, .no)] hs (by kernel_rfl) rfl (ob h1 ob0) (by kernel_rfl) hK
theorem toTermS (kk : Nat) (es out : List Dat) (h1 : 0 ≤ (es.length : Int) ∧ (es.length : Int) ≤ (es.length : Int) ∧ (es.length : Int) ≤ 2147483648) (h3 : LoopAt cfg kk 6 Go.Proofs.Try.f6 3 (hd17 es (List.replicate es.length (N3 0 0 0)) 0) (X.exit 0) (Nm [3] [D.own 40 out] [none] [] [])) : runFn cfg kk (den cfg kk) 6 Go.Proofs.Try.f6 [.dat (Dat.lst false es)] [] [] = some ([D.own 40 out], [], []) :=
  hrun_ok [(7, .ok), (300003, .loop (hd17 es (List.replicate es.length (N3 0 0 0)) 0) (.exit 0) (Nm [3] [.own 40 out] [none] [] []))] (ob h1 (ob (rfl : _ = hd17 es (List.replicate es.length (N3 0 0 0)) 0) (ob h3 ob0))) (by kernel_rfl)
theorem eqTerm_y (kk : Nat) (a b c a' b' c' : Int) (h1 : (!decide (a = a')) = false) (h2 : (!decide (b = b')) = false) (h3 : (!decide (c = c')) = false) : runFn cfg kk (den cfg kk) 20 Go.Proofs.Try.f20 [.dat (N3 a b c), .dat (N3 a' b' c')] [] [] = some ([D.dat (B true)], [], []) :=
  hrun_ok [(200009, .no), (200014, .no), (200019, .no)] (ob h1 (ob h2 (ob h3 ob0))) (by kernel_rfl)
def hd19 (b1 b2 : Bool) (xs ys : List Dat) (i : Int) : St := Nm [0, 1, 5] [.dat (.lst b1 xs), .dat (.lst b2 ys), .dat (I i)] [none, none, none] [] []
theorem eqTermS_go (kk m : Nat) {s : St} {K : X → St → Prop} (b1 b2 : Bool) (xs ys : List Dat) (i a b c a' b' c' : Int) (hs : s.norm ((envOf cfg kk 8 Go.Proofs.Try.f8).live (firstRegion (lp Go.Proofs.Try.f8 4))) = hd19 b1 b2 xs ys i) (h1 : decide (i < (xs.length : Int)) = true) (h2 : (0 ≤ i ∧ i < (xs.length : Int)) ∧ xs[i.toNat]? = some (N3 a b c)) (h3 : (0 ≤ i ∧ i < (ys.length : Int)) ∧ ys[i.toNat]? = some (N3 a' b' c')) (h4 : den cfg kk 20 [D.dat (N3 a b c), D.dat (N3 a' b' c')] [] [] = some ([D.dat (B true)], [], [])) (hn : ∀ s : St, s.norm ((envOf cfg kk 8 Go.Proofs.Try.f8).live (firstRegion (lp Go.Proofs.Try.f8 4))) = Nm [0, 1, 5] [D.dat (Dat.lst b1 xs), D.dat (Dat.lst b2 ys), D.dat (I (w64 (i + 1)))] [none, none, none] [] [] → Rounds (envOf cfg kk 8 Go.Proofs.Try.f8) kk (lp Go.Proofs.Try.f8 4) m s K) : Rounds (envOf cfg kk 8 Go.Proofs.Try.f8) kk (lp Go.Proofs.Try.f8 4) (m + 1) s K :=
  rounds_go [(200014, .yes), (19, .at (N3 a b c)), (23, .at (N3 a' b' c')), (25, .ret [.dat (B true)])] hs (by kernel_rfl) (ob h1 (ob h2 (ob h3 (ob h4 ob0)))) (by kernel_rfl) hn
theorem eqTermS_end (kk m : Nat) {s : St} {K : X → St → Prop} (b1 b2 : Bool) (xs ys : List Dat) (i : Int) (hs : s.norm ((envOf cfg kk 8 Go.Proofs.Try.f8).live (firstRegion (lp Go.Proofs.Try.f8 4))) = hd19 b1 b2 xs ys i) (h1 : decide (i < (xs.length : Int)) = false) (hK : K (X.exit 0) (Nm [4] [D.junk] [none] [] [])) : Rounds (envOf cfg kk 8 Go.Proofs.Try.f8) kk (lp Go.Proofs.Try.f8 4) (m + 1) s K :=
  rounds_end [(200014, .no)] hs (by kernel_rfl) rfl (ob h1 ob0) (by kernel_rfl) hK
theorem eqTermS_y (kk : Nat) (b1 b2 : Bool) (xs ys : List Dat) (h1 : (!decide ((xs.length : Int) = (ys.length : Int))) = false) (h3 : LoopAt cfg kk 8 Go.Proofs.Try.f8 4 (hd19 b1 b2 xs ys 0) (X.exit 0) (Nm [4] [D.junk] [none] [] [])) : runFn cfg kk (den cfg kk) 8 Go.Proofs.Try.f8 [.dat (Dat.lst b1 xs), .dat (Dat.lst b2 ys)] [] [] = some ([D.dat (B true)], [], []) :=
  hrun_ok [(200010, .no), (300004, .loop (hd19 b1 b2 xs ys 0) (.exit 0) (Nm [4] [.junk] [none] [] []))] (ob h1 (ob (rfl : _ = hd19 b1 b2 xs ys 0) (ob h3 ob0))) (by kernel_rfl)
def hd20 (es : List Dat) (k i : Int) : St := Nm [0, 1, 5] [.bor (.lent 0) none, .dat (I k), .dat (I i)] [none, none, none] [] [some (40, es)]
theorem mark_go (kk m : Nat) {s : St} {K : X → St → Prop} (es : List Dat) (k i a b c : Int) (hs : s.norm ((envOf cfg kk 9 Go.Proofs.Try.f9).live (firstRegion (lp Go.Proofs.Try.f9 2))) = hd20 es k i) (h1 : decide (i < (es.length : Int)) = true) (h2 : 0 ≤ i ∧ i < (es.length : Int)) (h3 : es[i.toNat]? = some (N3 a b c)) (h4 : 0 ≤ i ∧ i < ((es.set i.toNat (N3 k b c)).length : Int)) (h5 : (es.set i.toNat (N3 k b c))[i.toNat]? = some (N3 k b c)) (h6 : 0 ≤ i ∧ i < (((es.set i.toNat (N3 k b c)).set i.toNat (N3 k (w64 (k + 1)) c)).length : Int)) (h7 : ((es.set i.toNat (N3 k b c)).set i.toNat (N3 k (w64 (k + 1)) c))[i.toNat]? = some (N3 k (w64 (k + 1)) c)) (hn : ∀ s : St, s.norm ((envOf cfg kk 9 Go.Proofs.Try.f9).live (firstRegion (lp Go.Proofs.Try.f9 2))) = Nm [0, 1, 5] [D.bor (Pl.lent 0) none, D.dat (Dat.val (Value.int IntKind.i64 (w64 (w64 (w64 (k + 1) + 1) + 1)))), D.dat (I (w64 (i + 1)))] [none, none, none] [] [some (40, ((es.set i.toNat (N3 k b c)).set i.toNat (N3 k (w64 (k + 1)) c)).set i.toNat (N3 k (w64 (k + 1)) (w64 (w64 (k + 1) + 1))))] → Rounds (envOf cfg kk 9 Go.Proofs.Try.f9) kk (lp Go.Proofs.Try.f9 2) m s K) : Rounds (envOf cfg kk 9 Go.Proofs.Try.f9) kk (lp Go.Proofs.Try.f9 2) (m + 1) s K :=
  rounds_go [(200009, .yes), (15, .ok), (100016, .at (N3 a b c)), (22, .ok), (100023, .at (N3 k b c)), (29, .ok), (100030, .at (N3 k (w64 (k + 1)) c))] hs (by kernel_rfl) (ob h1 (ob h2 (ob h3 (ob h4 (ob h5 (ob h6 (ob h7 ob0))))))) (by kernel_rfl) hn
theorem mark_end (kk m : Nat) {s : St} {K : X → St → Prop} (es : List Dat) (k i : Int) (hs : s.norm ((envOf cfg kk 9 Go.Proofs.Try.f9).live (firstRegion (lp Go.Proofs.Try.f9 2))) = hd20 es k i) (h1 : decide (i < (es.length : Int)) = false) (hK : K (X.exit 0) (Nm [1] [D.dat (I k)] [none] [] [some (40, es)])) : Rounds (envOf cfg kk 9 Go.Proofs.Try.f9) kk (lp Go.Proofs.Try.f9 2) (m + 1) s K :=
  rounds_end [(200009, .no)] hs (by kernel_rfl) rfl (ob h1 ob0) (by kernel_rfl) hK
theorem mark (kk : Nat) (es es' : List Dat) (k k' : Int) (h2 : LoopAt cfg kk 9 Go.Proofs.Try.f9 2 (hd20 es k 0) (X.exit 0) (Nm [1] [D.dat (I k')] [none] [] [some (40, es')])) : runFn cfg kk (den cfg kk) 9 Go.Proofs.Try.f9 [.bor (.lent 0) none, .dat (I k)] [] [some (40, es)] = some ([D.dat (I k')], [], [some (40, es')]) :=
  hrun_ok [(300002, .loop (hd20 es k 0) (.exit 0) (Nm [1] [.dat (I k')] [none] [] [some (40, es')]))] (ob (rfl : _ = hd20 es k 0) (ob h2 ob0)) (by kernel_rfl)
def hd21 (b : Bool) (es : List Dat) (k i : Int) : St := Nm [0, 1, 5] [.dat (.lst b es), .dat (I k), .dat (I i)] [none, none, none] [] []
theorem held_go (kk m : Nat) {s : St} {K : X → St → Prop} (b : Bool) (es : List Dat) (k i x y z : Int) (hs : s.norm ((envOf cfg kk 10 Go.Proofs.Try.f10).live (firstRegion (lp Go.Proofs.Try.f10 2))) = hd21 b es k i) (h1 : decide (i < (es.length : Int)) = true) (h2 : (0 ≤ i ∧ i < (es.length : Int)) ∧ es[i.toNat]? = some (N3 x y z)) (h3 : (!decide (x = k)) = false) (h4 : (0 ≤ i ∧ i < (es.length : Int)) ∧ es[i.toNat]? = some (N3 x y z)) (h5 : (!decide (y = w64 (k + 1))) = false) (h6 : (0 ≤ i ∧ i < (es.length : Int)) ∧ es[i.toNat]? = some (N3 x y z)) (h7 : (!decide (z = w64 (w64 (k + 1) + 1))) = false) (hn : ∀ s : St, s.norm ((envOf cfg kk 10 Go.Proofs.Try.f10).live (firstRegion (lp Go.Proofs.Try.f10 2))) = Nm [0, 1, 5] [D.dat (Dat.lst b es), D.dat (Dat.val (Value.int IntKind.i64 (w64 (w64 (w64 (k + 1) + 1) + 1)))), D.dat (I (w64 (i + 1)))] [none, none, none] [] [] → Rounds (envOf cfg kk 10 Go.Proofs.Try.f10) kk (lp Go.Proofs.Try.f10 2) m s K) : Rounds (envOf cfg kk 10 Go.Proofs.Try.f10) kk (lp Go.Proofs.Try.f10 2) (m + 1) s K :=
  rounds_go [(200009, .yes), (14, .at (N3 x y z)), (200018, .no), (23, .at (N3 x y z)), (200027, .no), (32, .at (N3 x y z)), (200036, .no)] hs (by kernel_rfl) (ob h1 (ob h2 (ob h3 (ob h4 (ob h5 (ob h6 (ob h7 ob0))))))) (by kernel_rfl) hn
theorem held_end (kk m : Nat) {s : St} {K : X → St → Prop} (b : Bool) (es : List Dat) (k i : Int) (hs : s.norm ((envOf cfg kk 10 Go.Proofs.Try.f10).live (firstRegion (lp Go.Proofs.Try.f10 2))) = hd21 b es k i) (h1 : decide (i < (es.length : Int)) = false) (hK : K (X.exit 0) (Nm [1, 4] [D.dat (I k), D.junk] [none, none] [] [])) : Rounds (envOf cfg kk 10 Go.Proofs.Try.f10) kk (lp Go.Proofs.Try.f10 2) (m + 1) s K :=
  rounds_end [(200009, .no)] hs (by kernel_rfl) rfl (ob h1 ob0) (by kernel_rfl) hK
theorem held (kk : Nat) (b : Bool) (es : List Dat) (k k' : Int) (h2 : LoopAt cfg kk 10 Go.Proofs.Try.f10 2 (hd21 b es k 0) (X.exit 0) (Nm [1, 4] [D.dat (I k'), D.junk] [none, none] [] [])) : runFn cfg kk (den cfg kk) 10 Go.Proofs.Try.f10 [.dat (Dat.lst b es), .dat (I k)] [] [] = some ([D.dat (I k')], [], []) :=
  hrun_ok [(300002, .loop (hd21 b es k 0) (.exit 0) (Nm [1, 4] [.dat (I k'), .junk] [none, none] [] []))] (ob (rfl : _ = hd21 b es k 0) (ob h2 ob0)) (by kernel_rfl)
theorem lcApp (kk : Nat) (k n k' n' : Int) (ds ds' : List Dat)  : runFn cfg kk (den cfg kk) 26 Go.Proofs.Try.f26 [.dat (T k n ds), .dat (T k' n' ds')] [] [] = some ([D.dat (Dat.agg [I 2, I 0, Dat.lst false [T k n ds, Dat.agg [I k', I n', Dat.lst false ds']]])], [], []) :=
  hrun_ok [] ob0 (by kernel_rfl)
theorem l1In_no (kk : Nat) (x lo hi : Int) (h1 : decide (lo ≤ x) = false) : runFn cfg kk (den cfg kk) 12 Go.Proofs.Try.f12 [.dat (I x), .dat (I lo), .dat (I hi)] [] [] = some ([D.dat (B false)], [], []) :=
  hrun_ok [(200010, .no)] (ob h1 (ob (rfl : false = false) (ob (rfl : false = false) ob0))) (by kernel_rfl)
theorem l1In_yes (kk : Nat) (x lo hi : Int) (h1 : decide (lo ≤ x) = true) : runFn cfg kk (den cfg kk) 12 Go.Proofs.Try.f12 [.dat (I x), .dat (I lo), .dat (I hi)] [] [] = some ([D.dat (B (decide (x ≤ hi)))], [], []) :=
  hrun_ok [(200010, .yes)] (ob h1 (ob (rfl : true = true) (ob (rfl : true = true) ob0))) (by kernel_rfl)
def hd88 (b : Bool) (es : List Dat) (k i : Int) (out : List Dat) : St := Nm [0, 1, 5, 6] [.dat (.lst b es), .dat (I k), .own 3 out, .dat (I i)] [none, none, none, none] [] []
theorem lcParts_in (kk m : Nat) {s : St} {K : X → St → Prop} (b : Bool) (es : List Dat) (k i x y z : Int) (out : List Dat) (hs : s.norm ((envOf cfg kk 21 Go.Proofs.Try.f21).live (firstRegion (lp Go.Proofs.Try.f21 3))) = hd88 b es k i out) (h1 : decide (i < (es.length : Int)) = true) (h2 : (0 ≤ i ∧ i < (es.length : Int)) ∧ es[i.toNat]? = some (N3 x y z)) (h3 : decide (z = k) = true) (h4 : out.length + 1 ≤ 2147483648) (hn : ∀ s : St, s.norm ((envOf cfg kk 21 Go.Proofs.Try.f21).live (firstRegion (lp Go.Proofs.Try.f21 3))) = Nm [0, 1, 5, 6] [D.dat (Dat.lst b es), D.dat (I k), D.own 3 (out ++ [I i]), D.dat (I (w64 (i + 1)))] [none, none, none, none] [] [] → Rounds (envOf cfg kk 21 Go.Proofs.Try.f21) kk (lp Go.Proofs.Try.f21 3) m s K) : Rounds (envOf cfg kk 21 Go.Proofs.Try.f21) kk (lp Go.Proofs.Try.f21 3) (m + 1) s K :=
  rounds_go [(200012, .yes), (17, .at (N3 x y z)), (200021, .yes), (25, .ok)] hs (by kernel_rfl) (ob h1 (ob h2 (ob h3 (ob (obT h4) ob0)))) (by kernel_rfl) hn
theorem lcParts_no (kk m : Nat) {s : St} {K : X → St → Prop} (b : Bool) (es : List Dat) (k i x y z : Int) (out : List Dat) (hs : s.norm ((envOf cfg kk 21 Go.Proofs.Try.f21).live (firstRegion (lp Go.Proofs.Try.f21 3))) = hd88 b es k i out) (h1 : decide (i < (es.length : Int)) = true) (h2 : (0 ≤ i ∧ i < (es.length : Int)) ∧ es[i.toNat]? = some (N3 x y z)) (h3 : decide (z = k) = false) (hn : ∀ s : St, s.norm ((envOf cfg kk 21 Go.Proofs.Try.f21).live (firstRegion (lp Go.Proofs.Try.f21 3))) = Nm [0, 1, 5, 6] [D.dat (Dat.lst b es), D.dat (I k), D.own 3 out, D.dat (I (w64 (i + 1)))] [none, none, none, none] [] [] → Rounds (envOf cfg kk 21 Go.Proofs.Try.f21) kk (lp Go.Proofs.Try.f21 3) m s K) : Rounds (envOf cfg kk 21 Go.Proofs.Try.f21) kk (lp Go.Proofs.Try.f21 3) (m + 1) s K :=
  rounds_go [(200012, .yes), (17, .at (N3 x y z)), (200021, .no)] hs (by kernel_rfl) (ob h1 (ob h2 (ob h3 ob0))) (by kernel_rfl) hn
theorem lcParts_end (kk m : Nat) {s : St} {K : X → St → Prop} (b : Bool) (es : List Dat) (k i : Int) (out : List Dat) (hs : s.norm ((envOf cfg kk 21 Go.Proofs.Try.f21).live (firstRegion (lp Go.Proofs.Try.f21 3))) = hd88 b es k i out) (h1 : decide (i < (es.length : Int)) = false) (hK : K (X.exit 0) (Nm [5] [D.own 3 out] [none] [] [])) : Rounds (envOf cfg kk 21 Go.Proofs.Try.f21) kk (lp Go.Proofs.Try.f21 3) (m + 1) s K :=
  rounds_end [(200012, .no)] hs (by kernel_rfl) rfl (ob h1 ob0) (by kernel_rfl) hK
theorem lcParts (kk : Nat) (b : Bool) (es : List Dat) (k : Int) (out : List Dat) (h2 : LoopAt cfg kk 21 Go.Proofs.Try.f21 3 (hd88 b es k (w64 (k + 1)) []) (X.exit 0) (Nm [5] [D.own 3 out] [none] [] [])) : runFn cfg kk (den cfg kk) 21 Go.Proofs.Try.f21 [.dat (Dat.lst b es), .dat (I k)] [] [] = some ([D.own 3 out], [], []) :=
  hrun_ok [(300003, .loop (hd88 b es k (w64 (k + 1)) []) (.exit 0) (Nm [5] [.own 3 out] [none] [] []))] (ob (rfl : _ = hd88 b es k (w64 (k + 1)) []) (ob h2 ob0)) (by kernel_rfl)
def hd48 (b : Bool) (es : List Dat) (k n : Int) (ps : List Dat) (i : Int) (out : List Dat) : St := Nm [0, 4, 5, 21, 22, 23] [.dat (.lst b es), .ptr (.loc 4) 0, .ptr (.loc 5) 0, .own 3 ps, .dat (I ps.length), .dat (I i)] [none, some [.dat (I 0), .dat (I 0), .own 36 []], some [.dat (I k), .dat (I n), .own 36 out], none, none, none] [] []
theorem lcTree_go (kk m : Nat) {s : St} {K : X → St → Prop} (b : Bool) (es : List Dat) (k n : Int) (ps : List Dat) (i p kx nx : Int) (dx out : List Dat) (hs : s.norm ((envOf cfg kk 15 Go.Proofs.Try.f15).live (firstRegion (lp Go.Proofs.Try.f15 3))) = hd48 b es k n ps i out) (h1 : decide (i < (ps.length : Int)) = true) (h2 : 0 ≤ i ∧ i < (ps.length : Int)) (h3 : ps[i.toNat]? = some (I p)) (h4 : den cfg kk 15 [D.dat (Dat.lst b es), D.dat (I p)] [] [] = some ([D.dat (T kx nx dx)], [], [])) (h5 : out.length + 1 ≤ 2147483648) (hn : ∀ s : St, s.norm ((envOf cfg kk 15 Go.Proofs.Try.f15).live (firstRegion (lp Go.Proofs.Try.f15 3))) = Nm [0, 4, 5, 21, 22, 23] [D.dat (Dat.lst b es), D.ptr (Ref.loc 4) 0, D.ptr (Ref.loc 5) 0, D.own 3 ps, D.dat (I (ps.length : Int)), D.dat (I (w64 (i + 1)))] [none, some [D.dat (I 0), D.dat (I 0), D.own 36 []], some [D.dat (I k), D.dat (I n), D.own 36 (out ++ [T kx nx dx])], none, none, none] [] [] → Rounds (envOf cfg kk 15 Go.Proofs.Try.f15) kk (lp Go.Proofs.Try.f15 3) m s K) : Rounds (envOf cfg kk 15 Go.Proofs.Try.f15) kk (lp Go.Proofs.Try.f15 3) (m + 1) s K :=
  rounds_go [(200024, .yes), (25, .ok), (26, .at (I p)), (31, .ret [.dat (T kx nx dx)]), (33, .ok)] hs (by kernel_rfl) (ob h1 (ob h2 (ob h3 (ob h4 (ob (obT h5) ob0))))) (by kernel_rfl) hn
theorem lcTree_end (kk m : Nat) {s : St} {K : X → St → Prop} (b : Bool) (es : List Dat) (k n : Int) (ps : List Dat) (i : Int) (out : List Dat) (hs : s.norm ((envOf cfg kk 15 Go.Proofs.Try.f15).live (firstRegion (lp Go.Proofs.Try.f15 3))) = hd48 b es k n ps i out) (h1 : decide (i < (ps.length : Int)) = false) (hK : K (X.exit 0) (Nm [4, 5] [D.ptr (Ref.loc 4) 0, D.ptr (Ref.loc 5) 0] [some [D.dat (I 0), D.dat (I 0), D.own 36 []], some [D.dat (I k), D.dat (I n), D.own 36 out]] [] [])) : Rounds (envOf cfg kk 15 Go.Proofs.Try.f15) kk (lp Go.Proofs.Try.f15 3) (m + 1) s K :=
  rounds_end [(200024, .no)] hs (by kernel_rfl) rfl (ob h1 ob0) (by kernel_rfl) hK
theorem lcTree (kk : Nat) (b : Bool) (es : List Dat) (a k n u : Int) (ps out : List Dat) (h1 : (0 ≤ a ∧ a < (es.length : Int)) ∧ es[a.toNat]? = some (N3 k n u)) (h2 : (0 ≤ a ∧ a < (es.length : Int)) ∧ es[a.toNat]? = some (N3 k n u)) (h3 : den cfg kk 21 [D.dat (Dat.lst b es), D.dat (I a)] [] [] = some ([D.own 3 ps], [], [])) (h5 : LoopAt cfg kk 15 Go.Proofs.Try.f15 3 (hd48 b es k n ps 0 []) (X.exit 0) (Nm [4, 5] [D.ptr (Ref.loc 4) 0, D.ptr (Ref.loc 5) 0] [some [D.dat (I 0), D.dat (I 0), D.own 36 []], some [D.dat (I k), D.dat (I n), D.own 36 out]] [] [])) : runFn cfg kk (den cfg kk) 15 Go.Proofs.Try.f15 [.dat (Dat.lst b es), .dat (I a)] [] [] = some ([D.dat (T k n out)], [], []) :=
  hrun_ok [(10, .at (N3 k n u)), (15, .at (N3 k n u)), (21, .ret [.own 3 ps]), (300003, .loop (hd48 b es k n ps 0 []) (.exit 0) (Nm [4, 5] [.ptr (.loc 4) 0, .ptr (.loc 5) 0] [some [.dat (I 0), .dat (I 0), .own 36 []], some [.dat (I k), .dat (I n), .own 36 out]] [] []))] (ob h1 (ob h2 (ob h3 (ob (rfl : _ = hd48 b es k n ps 0 []) (ob h5 ob0))))) (by kernel_rfl)
def hd89 (out : List Dat) (at_ : Int) (ps : List Dat) (i : Int) : St := Nm [0, 7, 22, 23, 24] [.own 40 out, .dat (I at_), .dat (.lst false ps), .dat (I ps.length), .dat (I i)] [none, none, none, none, none] [] []
theorem lcFlat_go (kk m : Nat) {s : St} {K : X → St → Prop} (out : List Dat) (at_ : Int) (ps : List Dat) (i kx nx : Int) (dx out' : List Dat) (hs : s.norm ((envOf cfg kk 22 Go.Proofs.Try.f22).live (firstRegion (lp Go.Proofs.Try.f22 4))) = hd89 out at_ ps i) (h1 : decide (i < (ps.length : Int)) = true) (h2 : (0 ≤ i ∧ i < (ps.length : Int)) ∧ ps[i.toNat]? = some (T kx nx dx)) (h3 : decide ((out.length : Int) ≤ 200) = true) (h4 : den cfg kk 22 [D.own 40 out, D.dat (T kx nx dx), D.dat (I at_)] [] [] = some ([D.own 40 out'], [], [])) (hn : ∀ s : St, s.norm ((envOf cfg kk 22 Go.Proofs.Try.f22).live (firstRegion (lp Go.Proofs.Try.f22 4))) = Nm [0, 7, 22, 23, 24] [D.own 40 out', D.dat (I at_), D.dat (Dat.lst false ps), D.dat (I (ps.length : Int)), D.dat (I (w64 (i + 1)))] [none, none, none, none, none] [] [] → Rounds (envOf cfg kk 22 Go.Proofs.Try.f22) kk (lp Go.Proofs.Try.f22 4) m s K) : Rounds (envOf cfg kk 22 Go.Proofs.Try.f22) kk (lp Go.Proofs.Try.f22 4) (m + 1) s K :=
  rounds_go [(200025, .yes), (26, .at (T kx nx dx)), (200030, .yes), (34, .back [.own 40 out'] [] [])] hs (by kernel_rfl) (ob h1 (ob h2 (ob h3 (ob h4 (ob (rfl : false = false) ob0))))) (by kernel_rfl) hn
theorem lcFlat_skip (kk m : Nat) {s : St} {K : X → St → Prop} (out : List Dat) (at_ : Int) (ps : List Dat) (i kx nx : Int) (dx : List Dat) (hs : s.norm ((envOf cfg kk 22 Go.Proofs.Try.f22).live (firstRegion (lp Go.Proofs.Try.f22 4))) = hd89 out at_ ps i) (h1 : decide (i < (ps.length : Int)) = true) (h2 : (0 ≤ i ∧ i < (ps.length : Int)) ∧ ps[i.toNat]? = some (T kx nx dx)) (h3 : decide ((out.length : Int) ≤ 200) = false) (hn : ∀ s : St, s.norm ((envOf cfg kk 22 Go.Proofs.Try.f22).live (firstRegion (lp Go.Proofs.Try.f22 4))) = Nm [0, 7, 22, 23, 24] [D.own 40 out, D.dat (I at_), D.dat (Dat.lst false ps), D.dat (I (ps.length : Int)), D.dat (I (w64 (i + 1)))] [none, none, none, none, none] [] [] → Rounds (envOf cfg kk 22 Go.Proofs.Try.f22) kk (lp Go.Proofs.Try.f22 4) m s K) : Rounds (envOf cfg kk 22 Go.Proofs.Try.f22) kk (lp Go.Proofs.Try.f22 4) (m + 1) s K :=
  rounds_go [(200025, .yes), (26, .at (T kx nx dx)), (200030, .no)] hs (by kernel_rfl) (ob h1 (ob h2 (ob h3 ob0))) (by kernel_rfl) hn
theorem lcFlat_end (kk m : Nat) {s : St} {K : X → St → Prop} (out : List Dat) (at_ : Int) (ps : List Dat) (i : Int) (hs : s.norm ((envOf cfg kk 22 Go.Proofs.Try.f22).live (firstRegion (lp Go.Proofs.Try.f22 4))) = hd89 out at_ ps i) (h1 : decide (i < (ps.length : Int)) = false) (hK : K (X.exit 0) (Nm [0] [D.own 40 out] [none] [] [])) : Rounds (envOf cfg kk 22 Go.Proofs.Try.f22) kk (lp Go.Proofs.Try.f22 4) (m + 1) s K :=
  rounds_end [(200025, .no)] hs (by kernel_rfl) rfl (ob h1 ob0) (by kernel_rfl) hK
theorem lcFlat (kk : Nat) (l : List Dat) (k n up : Int) (ps out : List Dat) (h1 : l.length + 1 ≤ 2147483648) (h3 : LoopAt cfg kk 22 Go.Proofs.Try.f22 4 (hd89 (l ++ [N3 k n up]) ((l.length : Int)) ps 0) (X.exit 0) (Nm [0] [D.own 40 out] [none] [] [])) : runFn cfg kk (den cfg kk) 22 Go.Proofs.Try.f22 [.own 40 l, .dat (T k n ps), .dat (I up)] [] [] = some ([D.own 40 out], [], []) :=
  hrun_ok [(20, .ok), (300004, .loop (hd89 (l ++ [N3 k n up]) l.length ps 0) (.exit 0) (Nm [0] [.own 40 out] [none] [] []))] (ob (obT h1) (ob (rfl : _ = hd89 (l ++ [N3 k n up]) ((l.length : Int)) ps 0) (ob h3 ob0))) (by kernel_rfl)
theorem lcTold_no (kk : Nat) (k n : Int) (ps out : List Dat) (h1 : den cfg kk 22 [D.own 40 [], D.dat (T k n ps), D.dat (I (-1))] [] [] = some ([D.own 40 out], [], [])) (h4 : den cfg kk 11 [D.dat (Dat.lst true out)] [] [] = some ([D.dat (B false)], [], [])) : runFn cfg kk (den cfg kk) 13 Go.Proofs.Try.f13 [.dat (T k n ps)] [] [] = some ([D.own 40 [], D.dat (B false)], [], []) :=
  hrun_ok [(6, .back [.own 40 out] [] []), (8, .ret [.dat (B false)])] (ob h1 (ob (rfl : false = false) (ob (rfl : true = true) (ob h4 ob0)))) (by kernel_rfl)
theorem lcTold_yes (kk : Nat) (k n : Int) (ps out : List Dat) (h1 : den cfg kk 22 [D.own 40 [], D.dat (T k n ps), D.dat (I (-1))] [] [] = some ([D.own 40 out], [], [])) (h4 : den cfg kk 11 [D.dat (Dat.lst true out)] [] [] = some ([D.dat (B true)], [], [])) : runFn cfg kk (den cfg kk) 13 Go.Proofs.Try.f13 [.dat (T k n ps)] [] [] = some ([D.own 40 out, D.dat (B true)], [], []) :=
  hrun_ok [(6, .back [.own 40 out] [] []), (8, .ret [.dat (B true)])] (ob h1 (ob (rfl : false = false) (ob (rfl : true = true) (ob h4 ob0)))) (by kernel_rfl)
def hd44 (b : Bool) (es : List Dat) (i : Int) : St := Nm [0, 14, 15, 16] [.dat (.lst b es), .dat (.lst b es), .dat (I es.length), .dat (I i)] [none, none, none, none] [] []
def hd44a (b : Bool) (es : List Dat) (i k n u : Int) (ar : Bool) (at_ : Int) : St := Nm [0, 3, 4, 5, 6, 14, 15, 16] [.dat (.lst b es), .dat (I i), .ptr (.loc 4) 0, .dat (B ar), .dat (I at_), .dat (.lst b es), .dat (I es.length), .dat (I i)] [none, none, some [.dat (I k), .dat (I n), .dat (I u)], none, none, none, none, none] [] []
def out44a (b : Bool) (es : List Dat) (i k n u : Int) (ar : Bool) : St := Nm [0, 3, 4, 5, 14, 15, 16] [.dat (.lst b es), .dat (I i), .ptr (.loc 4) 0, .dat (B ar), .dat (.lst b es), .dat (I es.length), .dat (I i)] [none, none, some [.dat (I k), .dat (I n), .dat (I u)], none, none, none, none] [] []
def hd44b (b : Bool) (es : List Dat) (i k n u : Int) (ar : Bool) (deep at_ : Int) : St := Nm [0, 3, 4, 5, 7, 8, 14, 15, 16] [.dat (.lst b es), .dat (I i), .ptr (.loc 4) 0, .dat (B ar), .dat (I deep), .dat (I at_), .dat (.lst b es), .dat (I es.length), .dat (I i)] [none, none, some [.dat (I k), .dat (I n), .dat (I u)], none, none, none, none, none, none] [] []
def out44b (b : Bool) (es : List Dat) (i k n u : Int) (ar : Bool) (deep : Int) : St := Nm [0, 3, 4, 5, 7, 14, 15, 16] [.dat (.lst b es), .dat (I i), .ptr (.loc 4) 0, .dat (B ar), .dat (I deep), .dat (.lst b es), .dat (I es.length), .dat (I i)] [none, none, some [.dat (I k), .dat (I n), .dat (I u)], none, none, none, none, none] [] []
theorem around_go (kk m : Nat) {s : St} {K : X → St → Prop} (b : Bool) (es : List Dat) (i k n u at_ x y z : Int) (hs : s.norm ((envOf cfg kk 11 Go.Proofs.Try.f11).live (firstRegion (lp Go.Proofs.Try.f11 10))) = hd44a b es i k n u false at_) (h1 : decide (0 ≤ at_) = true) (h3 : (0 ≤ at_ ∧ at_ < (es.length : Int)) ∧ es[at_.toNat]? = some (N3 x y z)) (hn : ∀ s : St, s.norm ((envOf cfg kk 11 Go.Proofs.Try.f11).live (firstRegion (lp Go.Proofs.Try.f11 10))) = Nm [0, 3, 4, 5, 6, 14, 15, 16] [D.dat (Dat.lst b es), D.dat (I i), D.ptr (Ref.loc 4) 0, D.dat (B (decide (at_ = u))), D.dat (I z), D.dat (Dat.lst b es), D.dat (I (es.length : Int)), D.dat (I i)] [none, none, some [D.dat (I k), D.dat (I n), D.dat (I u)], none, none, none, none, none] [] [] → Rounds (envOf cfg kk 11 Go.Proofs.Try.f11) kk (lp Go.Proofs.Try.f11 10) m s K) : Rounds (envOf cfg kk 11 Go.Proofs.Try.f11) kk (lp Go.Proofs.Try.f11 10) (m + 1) s K :=
  rounds_go [(200063, .yes), (69, .at (N3 x y z))] hs (by kernel_rfl) (ob h1 (ob (rfl : true = true) (ob h3 ob0))) (by kernel_rfl) hn
theorem around_out (kk m : Nat) {s : St} {K : X → St → Prop} (b : Bool) (es : List Dat) (i k n u at_ : Int) (ar : Bool) (hs : s.norm ((envOf cfg kk 11 Go.Proofs.Try.f11).live (firstRegion (lp Go.Proofs.Try.f11 10))) = hd44a b es i k n u ar at_) (h1 : decide (0 ≤ at_) = false) (hK : K (X.exit 2) (Nm [0, 3, 4, 5, 14, 15, 16] [D.dat (Dat.lst b es), D.dat (I i), D.ptr (Ref.loc 4) 0, D.dat (B ar), D.dat (Dat.lst b es), D.dat (I (es.length : Int)), D.dat (I i)] [none, none, some [D.dat (I k), D.dat (I n), D.dat (I u)], none, none, none, none] [] [])) : Rounds (envOf cfg kk 11 Go.Proofs.Try.f11) kk (lp Go.Proofs.Try.f11 10) (m + 1) s K :=
  rounds_end [(200063, .no)] hs (by kernel_rfl) rfl (ob h1 (ob (rfl : false = false) ob0)) (by kernel_rfl) hK
theorem around_yes (kk m : Nat) {s : St} {K : X → St → Prop} (b : Bool) (es : List Dat) (i k n u at_ : Int) (hs : s.norm ((envOf cfg kk 11 Go.Proofs.Try.f11).live (firstRegion (lp Go.Proofs.Try.f11 10))) = hd44a b es i k n u true at_) (h1 : decide (0 ≤ at_) = true) (hK : K (X.exit 2) (Nm [0, 3, 4, 5, 14, 15, 16] [D.dat (Dat.lst b es), D.dat (I i), D.ptr (Ref.loc 4) 0, D.dat (B true), D.dat (Dat.lst b es), D.dat (I (es.length : Int)), D.dat (I i)] [none, none, some [D.dat (I k), D.dat (I n), D.dat (I u)], none, none, none, none] [] [])) : Rounds (envOf cfg kk 11 Go.Proofs.Try.f11) kk (lp Go.Proofs.Try.f11 10) (m + 1) s K :=
  rounds_end [(200063, .yes)] hs (by kernel_rfl) rfl (ob h1 (ob (rfl : true = true) ob0)) (by kernel_rfl) hK
theorem deep_go (kk m : Nat) {s : St} {K : X → St → Prop} (b : Bool) (es : List Dat) (i k n u : Int) (ar : Bool) (deep at_ : Int) (x y z : Int) (hs : s.norm ((envOf cfg kk 11 Go.Proofs.Try.f11).live (firstRegion (lp Go.Proofs.Try.f11 15))) = hd44b b es i k n u ar deep at_) (h1 : decide (0 ≤ at_) = true) (h2 : (0 ≤ at_ ∧ at_ < (es.length : Int)) ∧ es[at_.toNat]? = some (N3 x y z)) (hn : ∀ s : St, s.norm ((envOf cfg kk 11 Go.Proofs.Try.f11).live (firstRegion (lp Go.Proofs.Try.f11 15))) = Nm [0, 3, 4, 5, 7, 8, 14, 15, 16] [D.dat (Dat.lst b es), D.dat (I i), D.ptr (Ref.loc 4) 0, D.dat (B ar), D.dat (I (w64 (deep + 1))), D.dat (I z), D.dat (Dat.lst b es), D.dat (I (es.length : Int)), D.dat (I i)] [none, none, some [D.dat (I k), D.dat (I n), D.dat (I u)], none, none, none, none, none, none] [] [] → Rounds (envOf cfg kk 11 Go.Proofs.Try.f11) kk (lp Go.Proofs.Try.f11 15) m s K) : Rounds (envOf cfg kk 11 Go.Proofs.Try.f11) kk (lp Go.Proofs.Try.f11 15) (m + 1) s K :=
  rounds_go [(200078, .yes), (81, .at (N3 x y z))] hs (by kernel_rfl) (ob h1 (ob h2 ob0)) (by kernel_rfl) hn
theorem deep_out (kk m : Nat) {s : St} {K : X → St → Prop} (b : Bool) (es : List Dat) (i k n u : Int) (ar : Bool) (deep at_ : Int) (hs : s.norm ((envOf cfg kk 11 Go.Proofs.Try.f11).live (firstRegion (lp Go.Proofs.Try.f11 15))) = hd44b b es i k n u ar deep at_) (h1 : decide (0 ≤ at_) = false) (hK : K (X.exit 4) (Nm [0, 3, 4, 5, 7, 14, 15, 16] [D.dat (Dat.lst b es), D.dat (I i), D.ptr (Ref.loc 4) 0, D.dat (B ar), D.dat (I deep), D.dat (Dat.lst b es), D.dat (I (es.length : Int)), D.dat (I i)] [none, none, some [D.dat (I k), D.dat (I n), D.dat (I u)], none, none, none, none, none] [] [])) : Rounds (envOf cfg kk 11 Go.Proofs.Try.f11) kk (lp Go.Proofs.Try.f11 15) (m + 1) s K :=
  rounds_end [(200078, .no)] hs (by kernel_rfl) rfl (ob h1 ob0) (by kernel_rfl) hK
theorem good_end (kk m : Nat) {s : St} {K : X → St → Prop} (b : Bool) (es : List Dat) (i : Int) (hs : s.norm ((envOf cfg kk 11 Go.Proofs.Try.f11).live (firstRegion (lp Go.Proofs.Try.f11 4))) = hd44 b es i) (h1 : decide (i < (es.length : Int)) = false) (hK : K (X.exit 0) (Nm [2] [D.junk] [none] [] [])) : Rounds (envOf cfg kk 11 Go.Proofs.Try.f11) kk (lp Go.Proofs.Try.f11 4) (m + 1) s K :=
  rounds_end [(200017, .no)] hs (by kernel_rfl) rfl (ob h1 ob0) (by kernel_rfl) hK
theorem good_up (kk m : Nat) {s : St} {K : X → St → Prop} (b : Bool) (es : List Dat) (i : Int) (n u k : Int) (hs : s.norm ((envOf cfg kk 11 Go.Proofs.Try.f11).live (firstRegion (lp Go.Proofs.Try.f11 4))) = hd44 b es i) (h1 : decide (i < (es.length : Int)) = true) (h2 : (0 ≤ i ∧ i < (es.length : Int)) ∧ es[i.toNat]? = some (N3 k n u)) (h3 : (!decide (i = 0) == decide (u = -1)) = true) (hK : K (X.ret) (Nm [2] [D.dat (B false)] [none] [] [])) : Rounds (envOf cfg kk 11 Go.Proofs.Try.f11) kk (lp Go.Proofs.Try.f11 4) (m + 1) s K :=
  rounds_end [(200017, .yes), (19, .at (N3 k n u)), (200027, .yes), (200035, .yes), (200041, .yes), (200047, .yes), (200056, .yes)] hs (by kernel_rfl) rfl (ob h1 (ob h2 (ob h3 (ob (rfl : true = true) (ob (rfl : true = true) (ob (rfl : true = true) (ob (rfl : true = true) (ob (rfl : true = true) (ob (rfl : true = true) (ob (rfl : true = true) (ob (rfl : true = true) (ob (rfl : true = true) (ob (rfl : true = true) (ob (rfl : true = true) (ob (rfl : true = true) (ob (rfl : true = true) (ob (rfl : true = true) (ob (rfl : true = true) (ob (rfl : true = true) (ob (rfl : true = true) (ob (rfl : true = true) (ob (rfl : true = true) ob0)))))))))))))))))))))) (by kernel_rfl) hK
theorem good_in (kk m : Nat) {s : St} {K : X → St → Prop} (b : Bool) (es : List Dat) (i : Int) (n u k : Int) (hs : s.norm ((envOf cfg kk 11 Go.Proofs.Try.f11).live (firstRegion (lp Go.Proofs.Try.f11 4))) = hd44 b es i) (h1 : decide (i < (es.length : Int)) = true) (h2 : (0 ≤ i ∧ i < (es.length : Int)) ∧ es[i.toNat]? = some (N3 k n u)) (h3 : (!decide (i = 0) == decide (u = -1)) = false) (h8 : den cfg kk 12 [D.dat (I u), D.dat (I (-1)), D.dat (I (w64 (i - 1)))] [] [] = some ([D.dat (B false)], [], [])) (hK : K (X.ret) (Nm [2] [D.dat (B false)] [none] [] [])) : Rounds (envOf cfg kk 11 Go.Proofs.Try.f11) kk (lp Go.Proofs.Try.f11 4) (m + 1) s K :=
  rounds_end [(200017, .yes), (19, .at (N3 k n u)), (200027, .no), (32, .ret [.dat (B false)]), (200035, .yes), (200041, .yes), (200047, .yes), (200056, .yes)] hs (by kernel_rfl) rfl (ob h1 (ob h2 (ob h3 (ob (rfl : false = false) (ob (rfl : false = false) (ob (rfl : false = false) (ob (rfl : false = false) (ob h8 (ob (rfl : false = false) (ob (rfl : true = true) (ob (rfl : true = true) (ob (rfl : true = true) (ob (rfl : true = true) (ob (rfl : true = true) (ob (rfl : true = true) (ob (rfl : true = true) (ob (rfl : true = true) (ob (rfl : true = true) (ob (rfl : true = true) (ob (rfl : true = true) (ob (rfl : true = true) (ob (rfl : true = true) (ob (rfl : true = true) ob0))))))))))))))))))))))) (by kernel_rfl) hK
theorem good_kind (kk m : Nat) {s : St} {K : X → St → Prop} (b : Bool) (es : List Dat) (i : Int) (n u k : Int) (hs : s.norm ((envOf cfg kk 11 Go.Proofs.Try.f11).live (firstRegion (lp Go.Proofs.Try.f11 4))) = hd44 b es i) (h1 : decide (i < (es.length : Int)) = true) (h2 : (0 ≤ i ∧ i < (es.length : Int)) ∧ es[i.toNat]? = some (N3 k n u)) (h3 : (!decide (i = 0) == decide (u = -1)) = false) (h8 : den cfg kk 12 [D.dat (I u), D.dat (I (-1)), D.dat (I (w64 (i - 1)))] [] [] = some ([D.dat (B true)], [], [])) (h13 : den cfg kk 12 [D.dat (I k), D.dat (I 1), D.dat (I 5)] [] [] = some ([D.dat (B false)], [], [])) (hK : K (X.ret) (Nm [2] [D.dat (B false)] [none] [] [])) : Rounds (envOf cfg kk 11 Go.Proofs.Try.f11) kk (lp Go.Proofs.Try.f11 4) (m + 1) s K :=
  rounds_end [(200017, .yes), (19, .at (N3 k n u)), (200027, .no), (32, .ret [.dat (B true)]), (200035, .no), (38, .ret [.dat (B false)]), (200041, .yes), (200047, .yes), (200056, .yes)] hs (by kernel_rfl) rfl (ob h1 (ob h2 (ob h3 (ob (rfl : false = false) (ob (rfl : false = false) (ob (rfl : false = false) (ob (rfl : false = false) (ob h8 (ob (rfl : false = false) (ob (rfl : false = false) (ob (rfl : false = false) (ob (rfl : false = false) (ob h13 (ob (rfl : false = false) (ob (rfl : true = true) (ob (rfl : true = true) (ob (rfl : true = true) (ob (rfl : true = true) (ob (rfl : true = true) (ob (rfl : true = true) (ob (rfl : true = true) (ob (rfl : true = true) (ob (rfl : true = true) (ob (rfl : true = true) ob0)))))))))))))))))))))))) (by kernel_rfl) hK
theorem good_n (kk m : Nat) {s : St} {K : X → St → Prop} (b : Bool) (es : List Dat) (i : Int) (n u k : Int) (hs : s.norm ((envOf cfg kk 11 Go.Proofs.Try.f11).live (firstRegion (lp Go.Proofs.Try.f11 4))) = hd44 b es i) (h1 : decide (i < (es.length : Int)) = true) (h2 : (0 ≤ i ∧ i < (es.length : Int)) ∧ es[i.toNat]? = some (N3 k n u)) (h3 : (!decide (i = 0) == decide (u = -1)) = false) (h8 : den cfg kk 12 [D.dat (I u), D.dat (I (-1)), D.dat (I (w64 (i - 1)))] [] [] = some ([D.dat (B true)], [], [])) (h13 : den cfg kk 12 [D.dat (I k), D.dat (I 1), D.dat (I 5)] [] [] = some ([D.dat (B true)], [], [])) (h18 : den cfg kk 12 [D.dat (I n), D.dat (I 0), D.dat (I 999)] [] [] = some ([D.dat (B false)], [], [])) (hK : K (X.ret) (Nm [2] [D.dat (B false)] [none] [] [])) : Rounds (envOf cfg kk 11 Go.Proofs.Try.f11) kk (lp Go.Proofs.Try.f11 4) (m + 1) s K :=
  rounds_end [(200017, .yes), (19, .at (N3 k n u)), (200027, .no), (32, .ret [.dat (B true)]), (200035, .no), (38, .ret [.dat (B true)]), (200041, .no), (44, .ret [.dat (B false)]), (200047, .yes), (200056, .yes)] hs (by kernel_rfl) rfl (ob h1 (ob h2 (ob h3 (ob (rfl : false = false) (ob (rfl : false = false) (ob (rfl : false = false) (ob (rfl : false = false) (ob h8 (ob (rfl : false = false) (ob (rfl : false = false) (ob (rfl : false = false) (ob (rfl : false = false) (ob h13 (ob (rfl : false = false) (ob (rfl : false = false) (ob (rfl : false = false) (ob (rfl : false = false) (ob h18 (ob (rfl : false = false) (ob (rfl : true = true) (ob (rfl : true = true) (ob (rfl : true = true) (ob (rfl : true = true) (ob (rfl : true = true) (ob (rfl : true = true) ob0))))))))))))))))))))))))) (by kernel_rfl) hK
theorem good_num (kk m : Nat) {s : St} {K : X → St → Prop} (b : Bool) (es : List Dat) (i : Int) (n u k : Int) (hs : s.norm ((envOf cfg kk 11 Go.Proofs.Try.f11).live (firstRegion (lp Go.Proofs.Try.f11 4))) = hd44 b es i) (h1 : decide (i < (es.length : Int)) = true) (h2 : (0 ≤ i ∧ i < (es.length : Int)) ∧ es[i.toNat]? = some (N3 k n u)) (h3 : (!decide (i = 0) == decide (u = -1)) = false) (h8 : den cfg kk 12 [D.dat (I u), D.dat (I (-1)), D.dat (I (w64 (i - 1)))] [] [] = some ([D.dat (B true)], [], [])) (h13 : den cfg kk 12 [D.dat (I k), D.dat (I 1), D.dat (I 5)] [] [] = some ([D.dat (B true)], [], [])) (h18 : den cfg kk 12 [D.dat (I n), D.dat (I 0), D.dat (I 999)] [] [] = some ([D.dat (B true)], [], [])) (h24 : (!decide (k = 1)) = true) (h28 : (!decide (n = 0)) = true) (hK : K (X.ret) (Nm [2] [D.dat (B false)] [none] [] [])) : Rounds (envOf cfg kk 11 Go.Proofs.Try.f11) kk (lp Go.Proofs.Try.f11 4) (m + 1) s K :=
  rounds_end [(200017, .yes), (19, .at (N3 k n u)), (200027, .no), (32, .ret [.dat (B true)]), (200035, .no), (38, .ret [.dat (B true)]), (200041, .no), (44, .ret [.dat (B true)]), (200047, .no), (200051, .yes), (200056, .yes)] hs (by kernel_rfl) rfl (ob h1 (ob h2 (ob h3 (ob (rfl : false = false) (ob (rfl : false = false) (ob (rfl : false = false) (ob (rfl : false = false) (ob h8 (ob (rfl : false = false) (ob (rfl : false = false) (ob (rfl : false = false) (ob (rfl : false = false) (ob h13 (ob (rfl : false = false) (ob (rfl : false = false) (ob (rfl : false = false) (ob (rfl : false = false) (ob h18 (ob (rfl : false = false) (ob (rfl : false = false) (ob (rfl : false = false) (ob (rfl : false = false) (ob (rfl : false = false) (ob h24 (ob (rfl : true = true) (ob (rfl : true = true) (ob (rfl : false = false) (ob h28 ob0)))))))))))))))))))))))))))) (by kernel_rfl) hK
theorem good_ar_1 (kk m : Nat) {s : St} {K : X → St → Prop} (b : Bool) (es : List Dat) (i : Int) (n u k : Int) (deep : Int) (hs : s.norm ((envOf cfg kk 11 Go.Proofs.Try.f11).live (firstRegion (lp Go.Proofs.Try.f11 4))) = hd44 b es i) (h1 : decide (i < (es.length : Int)) = true) (h2 : (0 ≤ i ∧ i < (es.length : Int)) ∧ es[i.toNat]? = some (N3 k n u)) (h3 : (!decide (i = 0) == decide (u = -1)) = false) (h8 : den cfg kk 12 [D.dat (I u), D.dat (I (-1)), D.dat (I (w64 (i - 1)))] [] [] = some ([D.dat (B true)], [], [])) (h13 : den cfg kk 12 [D.dat (I k), D.dat (I 1), D.dat (I 5)] [] [] = some ([D.dat (B true)], [], [])) (h18 : den cfg kk 12 [D.dat (I n), D.dat (I 0), D.dat (I 999)] [] [] = some ([D.dat (B true)], [], [])) (h24 : (!decide (k = 1)) = false) (h30 : LoopAt cfg kk 11 Go.Proofs.Try.f11 10 (hd44a b es i k n u (decide (i = 0)) (w64 (i - 1))) (X.exit 2) (out44a b es i k n u false)) (h32 : LoopAt cfg kk 11 Go.Proofs.Try.f11 15 (hd44b b es i k n u false 0 i) (X.exit 4) (out44b b es i k n u false deep)) (h33 : decide (k = 2) = false) (hK : K (X.ret) (Nm [2] [D.dat (B false)] [none] [] [])) : Rounds (envOf cfg kk 11 Go.Proofs.Try.f11) kk (lp Go.Proofs.Try.f11 4) (m + 1) s K :=
  rounds_end [(200017, .yes), (19, .at (N3 k n u)), (200027, .no), (32, .ret [.dat (B true)]), (200035, .no), (38, .ret [.dat (B true)]), (200041, .no), (44, .ret [.dat (B true)]), (200047, .no), (200051, .no), (200056, .no), (300010, .loop (hd44a b es i k n u (decide (i = 0)) (w64 (i - 1))) (.exit 2) (out44a b es i k n u false)), (300015, .loop (hd44b b es i k n u false 0 i) (.exit 4) (out44b b es i k n u false deep)), (200088, .no), (200091, .yes), (200095, .yes), (200102, .yes)] hs (by kernel_rfl) rfl (ob h1 (ob h2 (ob h3 (ob (rfl : false = false) (ob (rfl : false = false) (ob (rfl : false = false) (ob (rfl : false = false) (ob h8 (ob (rfl : false = false) (ob (rfl : false = false) (ob (rfl : false = false) (ob (rfl : false = false) (ob h13 (ob (rfl : false = false) (ob (rfl : false = false) (ob (rfl : false = false) (ob (rfl : false = false) (ob h18 (ob (rfl : false = false) (ob (rfl : false = false) (ob (rfl : false = false) (ob (rfl : false = false) (ob (rfl : false = false) (ob h24 (ob (rfl : false = false) (ob (rfl : false = false) (ob (rfl : false = false) (ob (rfl : false = false) (ob (rfl : _ = hd44a b es i k n u (decide (i = 0)) (w64 (i - 1))) (ob h30 (ob (rfl : _ = hd44b b es i k n u false 0 i) (ob h32 (ob h33 (ob (rfl : true = true) (ob (rfl : true = true) (ob (rfl : true = true) (ob (rfl : true = true) (ob (rfl : true = true) (ob (rfl : true = true) (ob (rfl : true = true) (ob (rfl : true = true) (ob (rfl : true = true) ob0)))))))))))))))))))))))))))))))))))))))))) (by kernel_rfl) hK
theorem good_deep_1 (kk m : Nat) {s : St} {K : X → St → Prop} (b : Bool) (es : List Dat) (i : Int) (n u k : Int) (deep : Int) (hs : s.norm ((envOf cfg kk 11 Go.Proofs.Try.f11).live (firstRegion (lp Go.Proofs.Try.f11 4))) = hd44 b es i) (h1 : decide (i < (es.length : Int)) = true) (h2 : (0 ≤ i ∧ i < (es.length : Int)) ∧ es[i.toNat]? = some (N3 k n u)) (h3 : (!decide (i = 0) == decide (u = -1)) = false) (h8 : den cfg kk 12 [D.dat (I u), D.dat (I (-1)), D.dat (I (w64 (i - 1)))] [] [] = some ([D.dat (B true)], [], [])) (h13 : den cfg kk 12 [D.dat (I k), D.dat (I 1), D.dat (I 5)] [] [] = some ([D.dat (B true)], [], [])) (h18 : den cfg kk 12 [D.dat (I n), D.dat (I 0), D.dat (I 999)] [] [] = some ([D.dat (B true)], [], [])) (h24 : (!decide (k = 1)) = false) (h30 : LoopAt cfg kk 11 Go.Proofs.Try.f11 10 (hd44a b es i k n u (decide (i = 0)) (w64 (i - 1))) (X.exit 2) (out44a b es i k n u true)) (h32 : LoopAt cfg kk 11 Go.Proofs.Try.f11 15 (hd44b b es i k n u true 0 i) (X.exit 4) (out44b b es i k n u true deep)) (h33 : decide (k = 2) = false) (h36 : decide (60 < deep) = true) (hK : K (X.ret) (Nm [2] [D.dat (B false)] [none] [] [])) : Rounds (envOf cfg kk 11 Go.Proofs.Try.f11) kk (lp Go.Proofs.Try.f11 4) (m + 1) s K :=
  rounds_end [(200017, .yes), (19, .at (N3 k n u)), (200027, .no), (32, .ret [.dat (B true)]), (200035, .no), (38, .ret [.dat (B true)]), (200041, .no), (44, .ret [.dat (B true)]), (200047, .no), (200051, .no), (200056, .no), (300010, .loop (hd44a b es i k n u (decide (i = 0)) (w64 (i - 1))) (.exit 2) (out44a b es i k n u true)), (300015, .loop (hd44b b es i k n u true 0 i) (.exit 4) (out44b b es i k n u true deep)), (200088, .no), (200091, .no), (200095, .yes), (200102, .yes)] hs (by kernel_rfl) rfl (ob h1 (ob h2 (ob h3 (ob (rfl : false = false) (ob (rfl : false = false) (ob (rfl : false = false) (ob (rfl : false = false) (ob h8 (ob (rfl : false = false) (ob (rfl : false = false) (ob (rfl : false = false) (ob (rfl : false = false) (ob h13 (ob (rfl : false = false) (ob (rfl : false = false) (ob (rfl : false = false) (ob (rfl : false = false) (ob h18 (ob (rfl : false = false) (ob (rfl : false = false) (ob (rfl : false = false) (ob (rfl : false = false) (ob (rfl : false = false) (ob h24 (ob (rfl : false = false) (ob (rfl : false = false) (ob (rfl : false = false) (ob (rfl : false = false) (ob (rfl : _ = hd44a b es i k n u (decide (i = 0)) (w64 (i - 1))) (ob h30 (ob (rfl : _ = hd44b b es i k n u true 0 i) (ob h32 (ob h33 (ob (rfl : false = false) (ob (rfl : false = false) (ob h36 (ob (rfl : true = true) (ob (rfl : true = true) (ob (rfl : true = true) (ob (rfl : true = true) (ob (rfl : true = true) (ob (rfl : true = true) ob0)))))))))))))))))))))))))))))))))))))))))) (by kernel_rfl) hK
theorem good_parts_1 (kk m : Nat) {s : St} {K : X → St → Prop} (b : Bool) (es : List Dat) (i : Int) (n u k : Int) (deep : Int) (ps : List Dat) (hs : s.norm ((envOf cfg kk 11 Go.Proofs.Try.f11).live (firstRegion (lp Go.Proofs.Try.f11 4))) = hd44 b es i) (h1 : decide (i < (es.length : Int)) = true) (h2 : (0 ≤ i ∧ i < (es.length : Int)) ∧ es[i.toNat]? = some (N3 k n u)) (h3 : (!decide (i = 0) == decide (u = -1)) = false) (h8 : den cfg kk 12 [D.dat (I u), D.dat (I (-1)), D.dat (I (w64 (i - 1)))] [] [] = some ([D.dat (B true)], [], [])) (h13 : den cfg kk 12 [D.dat (I k), D.dat (I 1), D.dat (I 5)] [] [] = some ([D.dat (B true)], [], [])) (h18 : den cfg kk 12 [D.dat (I n), D.dat (I 0), D.dat (I 999)] [] [] = some ([D.dat (B true)], [], [])) (h24 : (!decide (k = 1)) = false) (h30 : LoopAt cfg kk 11 Go.Proofs.Try.f11 10 (hd44a b es i k n u (decide (i = 0)) (w64 (i - 1))) (X.exit 2) (out44a b es i k n u true)) (h32 : LoopAt cfg kk 11 Go.Proofs.Try.f11 15 (hd44b b es i k n u true 0 i) (X.exit 4) (out44b b es i k n u true deep)) (h33 : decide (k = 2) = false) (h36 : decide (60 < deep) = false) (h39 : den cfg kk 21 [D.dat (Dat.lst b es), D.dat (I i)] [] [] = some ([D.own 3 ps], [], [])) (h43 : (!decide ((ps.length : Int) = 0)) = true) (hK : K (X.ret) (Nm [2] [D.dat (B false)] [none] [] [])) : Rounds (envOf cfg kk 11 Go.Proofs.Try.f11) kk (lp Go.Proofs.Try.f11 4) (m + 1) s K :=
  rounds_end [(200017, .yes), (19, .at (N3 k n u)), (200027, .no), (32, .ret [.dat (B true)]), (200035, .no), (38, .ret [.dat (B true)]), (200041, .no), (44, .ret [.dat (B true)]), (200047, .no), (200051, .no), (200056, .no), (300010, .loop (hd44a b es i k n u (decide (i = 0)) (w64 (i - 1))) (.exit 2) (out44a b es i k n u true)), (300015, .loop (hd44b b es i k n u true 0 i) (.exit 4) (out44b b es i k n u true deep)), (200088, .no), (200091, .no), (200095, .no), (98, .ret [.own 3 ps]), (200102, .yes)] hs (by kernel_rfl) rfl (ob h1 (ob h2 (ob h3 (ob (rfl : false = false) (ob (rfl : false = false) (ob (rfl : false = false) (ob (rfl : false = false) (ob h8 (ob (rfl : false = false) (ob (rfl : false = false) (ob (rfl : false = false) (ob (rfl : false = false) (ob h13 (ob (rfl : false = false) (ob (rfl : false = false) (ob (rfl : false = false) (ob (rfl : false = false) (ob h18 (ob (rfl : false = false) (ob (rfl : false = false) (ob (rfl : false = false) (ob (rfl : false = false) (ob (rfl : false = false) (ob h24 (ob (rfl : false = false) (ob (rfl : false = false) (ob (rfl : false = false) (ob (rfl : false = false) (ob (rfl : _ = hd44a b es i k n u (decide (i = 0)) (w64 (i - 1))) (ob h30 (ob (rfl : _ = hd44b b es i k n u true 0 i) (ob h32 (ob h33 (ob (rfl : false = false) (ob (rfl : false = false) (ob h36 (ob (rfl : false = false) (ob (rfl : false = false) (ob h39 (ob (rfl : false = false) (ob (rfl : false = false) (ob (rfl : false = false) (ob h43 ob0))))))))))))))))))))))))))))))))))))))))))) (by kernel_rfl) hK
theorem good_go_1 (kk m : Nat) {s : St} {K : X → St → Prop} (b : Bool) (es : List Dat) (i : Int) (n u k : Int) (deep : Int) (ps : List Dat) (hs : s.norm ((envOf cfg kk 11 Go.Proofs.Try.f11).live (firstRegion (lp Go.Proofs.Try.f11 4))) = hd44 b es i) (h1 : decide (i < (es.length : Int)) = true) (h2 : (0 ≤ i ∧ i < (es.length : Int)) ∧ es[i.toNat]? = some (N3 k n u)) (h3 : (!decide (i = 0) == decide (u = -1)) = false) (h8 : den cfg kk 12 [D.dat (I u), D.dat (I (-1)), D.dat (I (w64 (i - 1)))] [] [] = some ([D.dat (B true)], [], [])) (h13 : den cfg kk 12 [D.dat (I k), D.dat (I 1), D.dat (I 5)] [] [] = some ([D.dat (B true)], [], [])) (h18 : den cfg kk 12 [D.dat (I n), D.dat (I 0), D.dat (I 999)] [] [] = some ([D.dat (B true)], [], [])) (h24 : (!decide (k = 1)) = false) (h30 : LoopAt cfg kk 11 Go.Proofs.Try.f11 10 (hd44a b es i k n u (decide (i = 0)) (w64 (i - 1))) (X.exit 2) (out44a b es i k n u true)) (h32 : LoopAt cfg kk 11 Go.Proofs.Try.f11 15 (hd44b b es i k n u true 0 i) (X.exit 4) (out44b b es i k n u true deep)) (h33 : decide (k = 2) = false) (h36 : decide (60 < deep) = false) (h39 : den cfg kk 21 [D.dat (Dat.lst b es), D.dat (I i)] [] [] = some ([D.own 3 ps], [], [])) (h43 : (!decide ((ps.length : Int) = 0)) = false) (hn : ∀ s : St, s.norm ((envOf cfg kk 11 Go.Proofs.Try.f11).live (firstRegion (lp Go.Proofs.Try.f11 4))) = Nm [0, 14, 15, 16] [D.dat (Dat.lst b es), D.dat (Dat.lst b es), D.dat (I (es.length : Int)), D.dat (I (w64 (i + 1)))] [none, none, none, none] [] [] → Rounds (envOf cfg kk 11 Go.Proofs.Try.f11) kk (lp Go.Proofs.Try.f11 4) m s K) : Rounds (envOf cfg kk 11 Go.Proofs.Try.f11) kk (lp Go.Proofs.Try.f11 4) (m + 1) s K :=
  rounds_go [(200017, .yes), (19, .at (N3 k n u)), (200027, .no), (32, .ret [.dat (B true)]), (200035, .no), (38, .ret [.dat (B true)]), (200041, .no), (44, .ret [.dat (B true)]), (200047, .no), (200051, .no), (200056, .no), (300010, .loop (hd44a b es i k n u (decide (i = 0)) (w64 (i - 1))) (.exit 2) (out44a b es i k n u true)), (300015, .loop (hd44b b es i k n u true 0 i) (.exit 4) (out44b b es i k n u true deep)), (200088, .no), (200091, .no), (200095, .no), (98, .ret [.own 3 ps]), (200102, .no)] hs (by kernel_rfl) (ob h1 (ob h2 (ob h3 (ob (rfl : false = false) (ob (rfl : false = false) (ob (rfl : false = false) (ob (rfl : false = false) (ob h8 (ob (rfl : false = false) (ob (rfl : false = false) (ob (rfl : false = false) (ob (rfl : false = false) (ob h13 (ob (rfl : false = false) (ob (rfl : false = false) (ob (rfl : false = false) (ob (rfl : false = false) (ob h18 (ob (rfl : false = false) (ob (rfl : false = false) (ob (rfl : false = false) (ob (rfl : false = false) (ob (rfl : false = false) (ob h24 (ob (rfl : false = false) (ob (rfl : false = false) (ob (rfl : false = false) (ob (rfl : false = false) (ob (rfl : _ = hd44a b es i k n u (decide (i = 0)) (w64 (i - 1))) (ob h30 (ob (rfl : _ = hd44b b es i k n u true 0 i) (ob h32 (ob h33 (ob (rfl : false = false) (ob (rfl : false = false) (ob h36 (ob (rfl : false = false) (ob (rfl : false = false) (ob h39 (ob (rfl : false = false) (ob (rfl : false = false) (ob (rfl : false = false) (ob h43 ob0))))))))))))))))))))))))))))))))))))))))))) (by kernel_rfl) hn
theorem good_ar_2 (kk m : Nat) {s : St} {K : X → St → Prop} (b : Bool) (es : List Dat) (i : Int) (n u k : Int) (deep : Int) (hs : s.norm ((envOf cfg kk 11 Go.Proofs.Try.f11).live (firstRegion (lp Go.Proofs.Try.f11 4))) = hd44 b es i) (h1 : decide (i < (es.length : Int)) = true) (h2 : (0 ≤ i ∧ i < (es.length : Int)) ∧ es[i.toNat]? = some (N3 k n u)) (h3 : (!decide (i = 0) == decide (u = -1)) = false) (h8 : den cfg kk 12 [D.dat (I u), D.dat (I (-1)), D.dat (I (w64 (i - 1)))] [] [] = some ([D.dat (B true)], [], [])) (h13 : den cfg kk 12 [D.dat (I k), D.dat (I 1), D.dat (I 5)] [] [] = some ([D.dat (B true)], [], [])) (h18 : den cfg kk 12 [D.dat (I n), D.dat (I 0), D.dat (I 999)] [] [] = some ([D.dat (B true)], [], [])) (h24 : (!decide (k = 1)) = true) (h28 : (!decide (n = 0)) = false) (h30 : LoopAt cfg kk 11 Go.Proofs.Try.f11 10 (hd44a b es i k n u (decide (i = 0)) (w64 (i - 1))) (X.exit 2) (out44a b es i k n u false)) (h32 : LoopAt cfg kk 11 Go.Proofs.Try.f11 15 (hd44b b es i k n u false 0 i) (X.exit 4) (out44b b es i k n u false deep)) (h33 : decide (k = 2) = true) (hK : K (X.ret) (Nm [2] [D.dat (B false)] [none] [] [])) : Rounds (envOf cfg kk 11 Go.Proofs.Try.f11) kk (lp Go.Proofs.Try.f11 4) (m + 1) s K :=
  rounds_end [(200017, .yes), (19, .at (N3 k n u)), (200027, .no), (32, .ret [.dat (B true)]), (200035, .no), (38, .ret [.dat (B true)]), (200041, .no), (44, .ret [.dat (B true)]), (200047, .no), (200051, .yes), (200056, .no), (300010, .loop (hd44a b es i k n u (decide (i = 0)) (w64 (i - 1))) (.exit 2) (out44a b es i k n u false)), (300015, .loop (hd44b b es i k n u false 0 i) (.exit 4) (out44b b es i k n u false deep)), (200088, .yes), (200091, .yes), (200095, .yes), (200102, .yes)] hs (by kernel_rfl) rfl (ob h1 (ob h2 (ob h3 (ob (rfl : false = false) (ob (rfl : false = false) (ob (rfl : false = false) (ob (rfl : false = false) (ob h8 (ob (rfl : false = false) (ob (rfl : false = false) (ob (rfl : false = false) (ob (rfl : false = false) (ob h13 (ob (rfl : false = false) (ob (rfl : false = false) (ob (rfl : false = false) (ob (rfl : false = false) (ob h18 (ob (rfl : false = false) (ob (rfl : false = false) (ob (rfl : false = false) (ob (rfl : false = false) (ob (rfl : false = false) (ob h24 (ob (rfl : true = true) (ob (rfl : true = true) (ob (rfl : false = false) (ob h28 (ob (rfl : _ = hd44a b es i k n u (decide (i = 0)) (w64 (i - 1))) (ob h30 (ob (rfl : _ = hd44b b es i k n u false 0 i) (ob h32 (ob h33 (ob (rfl : true = true) (ob (rfl : true = true) (ob (rfl : true = true) (ob (rfl : true = true) (ob (rfl : true = true) (ob (rfl : true = true) (ob (rfl : true = true) (ob (rfl : true = true) (ob (rfl : true = true) ob0)))))))))))))))))))))))))))))))))))))))))) (by kernel_rfl) hK
theorem good_deep_2 (kk m : Nat) {s : St} {K : X → St → Prop} (b : Bool) (es : List Dat) (i : Int) (n u k : Int) (deep : Int) (hs : s.norm ((envOf cfg kk 11 Go.Proofs.Try.f11).live (firstRegion (lp Go.Proofs.Try.f11 4))) = hd44 b es i) (h1 : decide (i < (es.length : Int)) = true) (h2 : (0 ≤ i ∧ i < (es.length : Int)) ∧ es[i.toNat]? = some (N3 k n u)) (h3 : (!decide (i = 0) == decide (u = -1)) = false) (h8 : den cfg kk 12 [D.dat (I u), D.dat (I (-1)), D.dat (I (w64 (i - 1)))] [] [] = some ([D.dat (B true)], [], [])) (h13 : den cfg kk 12 [D.dat (I k), D.dat (I 1), D.dat (I 5)] [] [] = some ([D.dat (B true)], [], [])) (h18 : den cfg kk 12 [D.dat (I n), D.dat (I 0), D.dat (I 999)] [] [] = some ([D.dat (B true)], [], [])) (h24 : (!decide (k = 1)) = true) (h28 : (!decide (n = 0)) = false) (h30 : LoopAt cfg kk 11 Go.Proofs.Try.f11 10 (hd44a b es i k n u (decide (i = 0)) (w64 (i - 1))) (X.exit 2) (out44a b es i k n u true)) (h32 : LoopAt cfg kk 11 Go.Proofs.Try.f11 15 (hd44b b es i k n u true 0 i) (X.exit 4) (out44b b es i k n u true deep)) (h33 : decide (k = 2) = true) (h36 : decide (60 < deep) = true) (hK : K (X.ret) (Nm [2] [D.dat (B false)] [none] [] [])) : Rounds (envOf cfg kk 11 Go.Proofs.Try.f11) kk (lp Go.Proofs.Try.f11 4) (m + 1) s K :=
  rounds_end [(200017, .yes), (19, .at (N3 k n u)), (200027, .no), (32, .ret [.dat (B true)]), (200035, .no), (38, .ret [.dat (B true)]), (200041, .no), (44, .ret [.dat (B true)]), (200047, .no), (200051, .yes), (200056, .no), (300010, .loop (hd44a b es i k n u (decide (i = 0)) (w64 (i - 1))) (.exit 2) (out44a b es i k n u true)), (300015, .loop (hd44b b es i k n u true 0 i) (.exit 4) (out44b b es i k n u true deep)), (200088, .yes), (200091, .no), (200095, .yes), (200102, .yes)] hs (by kernel_rfl) rfl (ob h1 (ob h2 (ob h3 (ob (rfl : false = false) (ob (rfl : false = false) (ob (rfl : false = false) (ob (rfl : false = false) (ob h8 (ob (rfl : false = false) (ob (rfl : false = false) (ob (rfl : false = false) (ob (rfl : false = false) (ob h13 (ob (rfl : false = false) (ob (rfl : false = false) (ob (rfl : false = false) (ob (rfl : false = false) (ob h18 (ob (rfl : false = false) (ob (rfl : false = false) (ob (rfl : false = false) (ob (rfl : false = false) (ob (rfl : false = false) (ob h24 (ob (rfl : true = true) (ob (rfl : true = true) (ob (rfl : false = false) (ob h28 (ob (rfl : _ = hd44a b es i k n u (decide (i = 0)) (w64 (i - 1))) (ob h30 (ob (rfl : _ = hd44b b es i k n u true 0 i) (ob h32 (ob h33 (ob (rfl : false = false) (ob (rfl : false = false) (ob h36 (ob (rfl : true = true) (ob (rfl : true = true) (ob (rfl : true = true) (ob (rfl : true = true) (ob (rfl : true = true) (ob (rfl : true = true) ob0)))))))))))))))))))))))))))))))))))))))))) (by kernel_rfl) hK
theorem good_parts_2 (kk m : Nat) {s : St} {K : X → St → Prop} (b : Bool) (es : List Dat) (i : Int) (n u k : Int) (deep : Int) (ps : List Dat) (hs : s.norm ((envOf cfg kk 11 Go.Proofs.Try.f11).live (firstRegion (lp Go.Proofs.Try.f11 4))) = hd44 b es i) (h1 : decide (i < (es.length : Int)) = true) (h2 : (0 ≤ i ∧ i < (es.length : Int)) ∧ es[i.toNat]? = some (N3 k n u)) (h3 : (!decide (i = 0) == decide (u = -1)) = false) (h8 : den cfg kk 12 [D.dat (I u), D.dat (I (-1)), D.dat (I (w64 (i - 1)))] [] [] = some ([D.dat (B true)], [], [])) (h13 : den cfg kk 12 [D.dat (I k), D.dat (I 1), D.dat (I 5)] [] [] = some ([D.dat (B true)], [], [])) (h18 : den cfg kk 12 [D.dat (I n), D.dat (I 0), D.dat (I 999)] [] [] = some ([D.dat (B true)], [], [])) (h24 : (!decide (k = 1)) = true) (h28 : (!decide (n = 0)) = false) (h30 : LoopAt cfg kk 11 Go.Proofs.Try.f11 10 (hd44a b es i k n u (decide (i = 0)) (w64 (i - 1))) (X.exit 2) (out44a b es i k n u true)) (h32 : LoopAt cfg kk 11 Go.Proofs.Try.f11 15 (hd44b b es i k n u true 0 i) (X.exit 4) (out44b b es i k n u true deep)) (h33 : decide (k = 2) = true) (h36 : decide (60 < deep) = false) (h39 : den cfg kk 21 [D.dat (Dat.lst b es), D.dat (I i)] [] [] = some ([D.own 3 ps], [], [])) (h43 : (!decide ((ps.length : Int) = 2)) = true) (hK : K (X.ret) (Nm [2] [D.dat (B false)] [none] [] [])) : Rounds (envOf cfg kk 11 Go.Proofs.Try.f11) kk (lp Go.Proofs.Try.f11 4) (m + 1) s K :=
  rounds_end [(200017, .yes), (19, .at (N3 k n u)), (200027, .no), (32, .ret [.dat (B true)]), (200035, .no), (38, .ret [.dat (B true)]), (200041, .no), (44, .ret [.dat (B true)]), (200047, .no), (200051, .yes), (200056, .no), (300010, .loop (hd44a b es i k n u (decide (i = 0)) (w64 (i - 1))) (.exit 2) (out44a b es i k n u true)), (300015, .loop (hd44b b es i k n u true 0 i) (.exit 4) (out44b b es i k n u true deep)), (200088, .yes), (200091, .no), (200095, .no), (98, .ret [.own 3 ps]), (200102, .yes)] hs (by kernel_rfl) rfl (ob h1 (ob h2 (ob h3 (ob (rfl : false = false) (ob (rfl : false = false) (ob (rfl : false = false) (ob (rfl : false = false) (ob h8 (ob (rfl : false = false) (ob (rfl : false = false) (ob (rfl : false = false) (ob (rfl : false = false) (ob h13 (ob (rfl : false = false) (ob (rfl : false = false) (ob (rfl : false = false) (ob (rfl : false = false) (ob h18 (ob (rfl : false = false) (ob (rfl : false = false) (ob (rfl : false = false) (ob (rfl : false = false) (ob (rfl : false = false) (ob h24 (ob (rfl : true = true) (ob (rfl : true = true) (ob (rfl : false = false) (ob h28 (ob (rfl : _ = hd44a b es i k n u (decide (i = 0)) (w64 (i - 1))) (ob h30 (ob (rfl : _ = hd44b b es i k n u true 0 i) (ob h32 (ob h33 (ob (rfl : false = false) (ob (rfl : false = false) (ob h36 (ob (rfl : false = false) (ob (rfl : false = false) (ob h39 (ob (rfl : false = false) (ob (rfl : false = false) (ob (rfl : false = false) (ob h43 ob0))))))))))))))))))))))))))))))))))))))))))) (by kernel_rfl) hK
theorem good_go_2 (kk m : Nat) {s : St} {K : X → St → Prop} (b : Bool) (es : List Dat) (i : Int) (n u k : Int) (deep : Int) (ps : List Dat) (hs : s.norm ((envOf cfg kk 11 Go.Proofs.Try.f11).live (firstRegion (lp Go.Proofs.Try.f11 4))) = hd44 b es i) (h1 : decide (i < (es.length : Int)) = true) (h2 : (0 ≤ i ∧ i < (es.length : Int)) ∧ es[i.toNat]? = some (N3 k n u)) (h3 : (!decide (i = 0) == decide (u = -1)) = false) (h8 : den cfg kk 12 [D.dat (I u), D.dat (I (-1)), D.dat (I (w64 (i - 1)))] [] [] = some ([D.dat (B true)], [], [])) (h13 : den cfg kk 12 [D.dat (I k), D.dat (I 1), D.dat (I 5)] [] [] = some ([D.dat (B true)], [], [])) (h18 : den cfg kk 12 [D.dat (I n), D.dat (I 0), D.dat (I 999)] [] [] = some ([D.dat (B true)], [], [])) (h24 : (!decide (k = 1)) = true) (h28 : (!decide (n = 0)) = false) (h30 : LoopAt cfg kk 11 Go.Proofs.Try.f11 10 (hd44a b es i k n u (decide (i = 0)) (w64 (i - 1))) (X.exit 2) (out44a b es i k n u true)) (h32 : LoopAt cfg kk 11 Go.Proofs.Try.f11 15 (hd44b b es i k n u true 0 i) (X.exit 4) (out44b b es i k n u true deep)) (h33 : decide (k = 2) = true) (h36 : decide (60 < deep) = false) (h39 : den cfg kk 21 [D.dat (Dat.lst b es), D.dat (I i)] [] [] = some ([D.own 3 ps], [], [])) (h43 : (!decide ((ps.length : Int) = 2)) = false) (hn : ∀ s : St, s.norm ((envOf cfg kk 11 Go.Proofs.Try.f11).live (firstRegion (lp Go.Proofs.Try.f11 4))) = Nm [0, 14, 15, 16] [D.dat (Dat.lst b es), D.dat (Dat.lst b es), D.dat (I (es.length : Int)), D.dat (I (w64 (i + 1)))] [none, none, none, none] [] [] → Rounds (envOf cfg kk 11 Go.Proofs.Try.f11) kk (lp Go.Proofs.Try.f11 4) m s K) : Rounds (envOf cfg kk 11 Go.Proofs.Try.f11) kk (lp Go.Proofs.Try.f11 4) (m + 1) s K :=
  rounds_go [(200017, .yes), (19, .at (N3 k n u)), (200027, .no), (32, .ret [.dat (B true)]), (200035, .no), (38, .ret [.dat (B true)]), (200041, .no), (44, .ret [.dat (B true)]), (200047, .no), (200051, .yes), (200056, .no), (300010, .loop (hd44a b es i k n u (decide (i = 0)) (w64 (i - 1))) (.exit 2) (out44a b es i k n u true)), (300015, .loop (hd44b b es i k n u true 0 i) (.exit 4) (out44b b es i k n u true deep)), (200088, .yes), (200091, .no), (200095, .no), (98, .ret [.own 3 ps]), (200102, .no)] hs (by kernel_rfl) (ob h1 (ob h2 (ob h3 (ob (rfl : false = false) (ob (rfl : false = false) (ob (rfl : false = false) (ob (rfl : false = false) (ob h8 (ob (rfl : false = false) (ob (rfl : false = false) (ob (rfl : false = false) (ob (rfl : false = false) (ob h13 (ob (rfl : false = false) (ob (rfl : false = false) (ob (rfl : false = false) (ob (rfl : false = false) (ob h18 (ob (rfl : false = false) (ob (rfl : false = false) (ob (rfl : false = false) (ob (rfl : false = false) (ob (rfl : false = false) (ob h24 (ob (rfl : true = true) (ob (rfl : true = true) (ob (rfl : false = false) (ob h28 (ob (rfl : _ = hd44a b es i k n u (decide (i = 0)) (w64 (i - 1))) (ob h30 (ob (rfl : _ = hd44b b es i k n u true 0 i) (ob h32 (ob h33 (ob (rfl : false = false) (ob (rfl : false = false) (ob h36 (ob (rfl : false = false) (ob (rfl : false = false) (ob h39 (ob (rfl : false = false) (ob (rfl : false = false) (ob (rfl : false = false) (ob h43 ob0))))))))))))))))))))))))))))))))))))))))))) (by kernel_rfl) hn
theorem good_ar_3 (kk m : Nat) {s : St} {K : X → St → Prop} (b : Bool) (es : List Dat) (i : Int) (n u k : Int) (deep : Int) (hs : s.norm ((envOf cfg kk 11 Go.Proofs.Try.f11).live (firstRegion (lp Go.Proofs.Try.f11 4))) = hd44 b es i) (h1 : decide (i < (es.length : Int)) = true) (h2 : (0 ≤ i ∧ i < (es.length : Int)) ∧ es[i.toNat]? = some (N3 k n u)) (h3 : (!decide (i = 0) == decide (u = -1)) = false) (h8 : den cfg kk 12 [D.dat (I u), D.dat (I (-1)), D.dat (I (w64 (i - 1)))] [] [] = some ([D.dat (B true)], [], [])) (h13 : den cfg kk 12 [D.dat (I k), D.dat (I 1), D.dat (I 5)] [] [] = some ([D.dat (B true)], [], [])) (h18 : den cfg kk 12 [D.dat (I n), D.dat (I 0), D.dat (I 999)] [] [] = some ([D.dat (B true)], [], [])) (h24 : (!decide (k = 1)) = true) (h28 : (!decide (n = 0)) = false) (h30 : LoopAt cfg kk 11 Go.Proofs.Try.f11 10 (hd44a b es i k n u (decide (i = 0)) (w64 (i - 1))) (X.exit 2) (out44a b es i k n u false)) (h32 : LoopAt cfg kk 11 Go.Proofs.Try.f11 15 (hd44b b es i k n u false 0 i) (X.exit 4) (out44b b es i k n u false deep)) (h33 : decide (k = 2) = false) (hK : K (X.ret) (Nm [2] [D.dat (B false)] [none] [] [])) : Rounds (envOf cfg kk 11 Go.Proofs.Try.f11) kk (lp Go.Proofs.Try.f11 4) (m + 1) s K :=
  rounds_end [(200017, .yes), (19, .at (N3 k n u)), (200027, .no), (32, .ret [.dat (B true)]), (200035, .no), (38, .ret [.dat (B true)]), (200041, .no), (44, .ret [.dat (B true)]), (200047, .no), (200051, .yes), (200056, .no), (300010, .loop (hd44a b es i k n u (decide (i = 0)) (w64 (i - 1))) (.exit 2) (out44a b es i k n u false)), (300015, .loop (hd44b b es i k n u false 0 i) (.exit 4) (out44b b es i k n u false deep)), (200088, .no), (200091, .yes), (200095, .yes), (200102, .yes)] hs (by kernel_rfl) rfl (ob h1 (ob h2 (ob h3 (ob (rfl : false = false) (ob (rfl : false = false) (ob (rfl : false = false) (ob (rfl : false = false) (ob h8 (ob (rfl : false = false) (ob (rfl : false = false) (ob (rfl : false = false) (ob (rfl : false = false) (ob h13 (ob (rfl : false = false) (ob (rfl : false = false) (ob (rfl : false = false) (ob (rfl : false = false) (ob h18 (ob (rfl : false = false) (ob (rfl : false = false) (ob (rfl : false = false) (ob (rfl : false = false) (ob (rfl : false = false) (ob h24 (ob (rfl : true = true) (ob (rfl : true = true) (ob (rfl : false = false) (ob h28 (ob (rfl : _ = hd44a b es i k n u (decide (i = 0)) (w64 (i - 1))) (ob h30 (ob (rfl : _ = hd44b b es i k n u false 0 i) (ob h32 (ob h33 (ob (rfl : true = true) (ob (rfl : true = true) (ob (rfl : true = true) (ob (rfl : true = true) (ob (rfl : true = true) (ob (rfl : true = true) (ob (rfl : true = true) (ob (rfl : true = true) (ob (rfl : true = true) ob0)))))))))))))))))))))))))))))))))))))))))) (by kernel_rfl) hK
theorem good_deep_3 (kk m : Nat) {s : St} {K : X → St → Prop} (b : Bool) (es : List Dat) (i : Int) (n u k : Int) (deep : Int) (hs : s.norm ((envOf cfg kk 11 Go.Proofs.Try.f11).live (firstRegion (lp Go.Proofs.Try.f11 4))) = hd44 b es i) (h1 : decide (i < (es.length : Int)) = true) (h2 : (0 ≤ i ∧ i < (es.length : Int)) ∧ es[i.toNat]? = some (N3 k n u)) (h3 : (!decide (i = 0) == decide (u = -1)) = false) (h8 : den cfg kk 12 [D.dat (I u), D.dat (I (-1)), D.dat (I (w64 (i - 1)))] [] [] = some ([D.dat (B true)], [], [])) (h13 : den cfg kk 12 [D.dat (I k), D.dat (I 1), D.dat (I 5)] [] [] = some ([D.dat (B true)], [], [])) (h18 : den cfg kk 12 [D.dat (I n), D.dat (I 0), D.dat (I 999)] [] [] = some ([D.dat (B true)], [], [])) (h24 : (!decide (k = 1)) = true) (h28 : (!decide (n = 0)) = false) (h30 : LoopAt cfg kk 11 Go.Proofs.Try.f11 10 (hd44a b es i k n u (decide (i = 0)) (w64 (i - 1))) (X.exit 2) (out44a b es i k n u true)) (h32 : LoopAt cfg kk 11 Go.Proofs.Try.f11 15 (hd44b b es i k n u true 0 i) (X.exit 4) (out44b b es i k n u true deep)) (h33 : decide (k = 2) = false) (h36 : decide (60 < deep) = true) (hK : K (X.ret) (Nm [2] [D.dat (B false)] [none] [] [])) : Rounds (envOf cfg kk 11 Go.Proofs.Try.f11) kk (lp Go.Proofs.Try.f11 4) (m + 1) s K :=
  rounds_end [(200017, .yes), (19, .at (N3 k n u)), (200027, .no), (32, .ret [.dat (B true)]), (200035, .no), (38, .ret [.dat (B true)]), (200041, .no), (44, .ret [.dat (B true)]), (200047, .no), (200051, .yes), (200056, .no), (300010, .loop (hd44a b es i k n u (decide (i = 0)) (w64 (i - 1))) (.exit 2) (out44a b es i k n u true)), (300015, .loop (hd44b b es i k n u true 0 i) (.exit 4) (out44b b es i k n u true deep)), (200088, .no), (200091, .no), (200095, .yes), (200102, .yes)] hs (by kernel_rfl) rfl (ob h1 (ob h2 (ob h3 (ob (rfl : false = false) (ob (rfl : false = false) (ob (rfl : false = false) (ob (rfl : false = false) (ob h8 (ob (rfl : false = false) (ob (rfl : false = false) (ob (rfl : false = false) (ob (rfl : false = false) (ob h13 (ob (rfl : false = false) (ob (rfl : false = false) (ob (rfl : false = false) (ob (rfl : false = false) (ob h18 (ob (rfl : false = false) (ob (rfl : false = false) (ob (rfl : false = false) (ob (rfl : false = false) (ob (rfl : false = false) (ob h24 (ob (rfl : true = true) (ob (rfl : true = true) (ob (rfl : false = false) (ob h28 (ob (rfl : _ = hd44a b es i k n u (decide (i = 0)) (w64 (i - 1))) (ob h30 (ob (rfl : _ = hd44b b es i k n u true 0 i) (ob h32 (ob h33 (ob (rfl : false = false) (ob (rfl : false = false) (ob h36 (ob (rfl : true = true) (ob (rfl : true = true) (ob (rfl : true = true) (ob (rfl : true = true) (ob (rfl : true = true) (ob (rfl : true = true) ob0)))))))))))))))))))))))))))))))))))))))))) (by kernel_rfl) hK
theorem good_parts_3 (kk m : Nat) {s : St} {K : X → St → Prop} (b : Bool) (es : List Dat) (i : Int) (n u k : Int) (deep : Int) (ps : List Dat) (hs : s.norm ((envOf cfg kk 11 Go.Proofs.Try.f11).live (firstRegion (lp Go.Proofs.Try.f11 4))) = hd44 b es i) (h1 : decide (i < (es.length : Int)) = true) (h2 : (0 ≤ i ∧ i < (es.length : Int)) ∧ es[i.toNat]? = some (N3 k n u)) (h3 : (!decide (i = 0) == decide (u = -1)) = false) (h8 : den cfg kk 12 [D.dat (I u), D.dat (I (-1)), D.dat (I (w64 (i - 1)))] [] [] = some ([D.dat (B true)], [], [])) (h13 : den cfg kk 12 [D.dat (I k), D.dat (I 1), D.dat (I 5)] [] [] = some ([D.dat (B true)], [], [])) (h18 : den cfg kk 12 [D.dat (I n), D.dat (I 0), D.dat (I 999)] [] [] = some ([D.dat (B true)], [], [])) (h24 : (!decide (k = 1)) = true) (h28 : (!decide (n = 0)) = false) (h30 : LoopAt cfg kk 11 Go.Proofs.Try.f11 10 (hd44a b es i k n u (decide (i = 0)) (w64 (i - 1))) (X.exit 2) (out44a b es i k n u true)) (h32 : LoopAt cfg kk 11 Go.Proofs.Try.f11 15 (hd44b b es i k n u true 0 i) (X.exit 4) (out44b b es i k n u true deep)) (h33 : decide (k = 2) = false) (h36 : decide (60 < deep) = false) (h39 : den cfg kk 21 [D.dat (Dat.lst b es), D.dat (I i)] [] [] = some ([D.own 3 ps], [], [])) (h43 : (!decide ((ps.length : Int) = 0)) = true) (hK : K (X.ret) (Nm [2] [D.dat (B false)] [none] [] [])) : Rounds (envOf cfg kk 11 Go.Proofs.Try.f11) kk (lp Go.Proofs.Try.f11 4) (m + 1) s K :=
  rounds_end [(200017, .yes), (19, .at (N3 k n u)), (200027, .no), (32, .ret [.dat (B true)]), (200035, .no), (38, .ret [.dat (B true)]), (200041, .no), (44, .ret [.dat (B true)]), (200047, .no), (200051, .yes), (200056, .no), (300010, .loop (hd44a b es i k n u (decide (i = 0)) (w64 (i - 1))) (.exit 2) (out44a b es i k n u true)), (300015, .loop (hd44b b es i k n u true 0 i) (.exit 4) (out44b b es i k n u true deep)), (200088, .no), (200091, .no), (200095, .no), (98, .ret [.own 3 ps]), (200102, .yes)] hs (by kernel_rfl) rfl (ob h1 (ob h2 (ob h3 (ob (rfl : false = false) (ob (rfl : false = false) (ob (rfl : false = false) (ob (rfl : false = false) (ob h8 (ob (rfl : false = false) (ob (rfl : false = false) (ob (rfl : false = false) (ob (rfl : false = false) (ob h13 (ob (rfl : false = false) (ob (rfl : false = false) (ob (rfl : false = false) (ob (rfl : false = false) (ob h18 (ob (rfl : false = false) (ob (rfl : false = false) (ob (rfl : false = false) (ob (rfl : false = false) (ob (rfl : false = false) (ob h24 (ob (rfl : true = true) (ob (rfl : true = true) (ob (rfl : false = false) (ob h28 (ob (rfl : _ = hd44a b es i k n u (decide (i = 0)) (w64 (i - 1))) (ob h30 (ob (rfl : _ = hd44b b es i k n u true 0 i) (ob h32 (ob h33 (ob (rfl : false = false) (ob (rfl : false = false) (ob h36 (ob (rfl : false = false) (ob (rfl : false = false) (ob h39 (ob (rfl : false = false) (ob (rfl : false = false) (ob (rfl : false = false) (ob h43 ob0))))))))))))))))))))))))))))))))))))))))))) (by kernel_rfl) hK
theorem good_go_3 (kk m : Nat) {s : St} {K : X → St → Prop} (b : Bool) (es : List Dat) (i : Int) (n u k : Int) (deep : Int) (ps : List Dat) (hs : s.norm ((envOf cfg kk 11 Go.Proofs.Try.f11).live (firstRegion (lp Go.Proofs.Try.f11 4))) = hd44 b es i) (h1 : decide (i < (es.length : Int)) = true) (h2 : (0 ≤ i ∧ i < (es.length : Int)) ∧ es[i.toNat]? = some (N3 k n u)) (h3 : (!decide (i = 0) == decide (u = -1)) = false) (h8 : den cfg kk 12 [D.dat (I u), D.dat (I (-1)), D.dat (I (w64 (i - 1)))] [] [] = some ([D.dat (B true)], [], [])) (h13 : den cfg kk 12 [D.dat (I k), D.dat (I 1), D.dat (I 5)] [] [] = some ([D.dat (B true)], [], [])) (h18 : den cfg kk 12 [D.dat (I n), D.dat (I 0), D.dat (I 999)] [] [] = some ([D.dat (B true)], [], [])) (h24 : (!decide (k = 1)) = true) (h28 : (!decide (n = 0)) = false) (h30 : LoopAt cfg kk 11 Go.Proofs.Try.f11 10 (hd44a b es i k n u (decide (i = 0)) (w64 (i - 1))) (X.exit 2) (out44a b es i k n u true)) (h32 : LoopAt cfg kk 11 Go.Proofs.Try.f11 15 (hd44b b es i k n u true 0 i) (X.exit 4) (out44b b es i k n u true deep)) (h33 : decide (k = 2) = false) (h36 : decide (60 < deep) = false) (h39 : den cfg kk 21 [D.dat (Dat.lst b es), D.dat (I i)] [] [] = some ([D.own 3 ps], [], [])) (h43 : (!decide ((ps.length : Int) = 0)) = false) (hn : ∀ s : St, s.norm ((envOf cfg kk 11 Go.Proofs.Try.f11).live (firstRegion (lp Go.Proofs.Try.f11 4))) = Nm [0, 14, 15, 16] [D.dat (Dat.lst b es), D.dat (Dat.lst b es), D.dat (I (es.length : Int)), D.dat (I (w64 (i + 1)))] [none, none, none, none] [] [] → Rounds (envOf cfg kk 11 Go.Proofs.Try.f11) kk (lp Go.Proofs.Try.f11 4) m s K) : Rounds (envOf cfg kk 11 Go.Proofs.Try.f11) kk (lp Go.Proofs.Try.f11 4) (m + 1) s K :=
  rounds_go [(200017, .yes), (19, .at (N3 k n u)), (200027, .no), (32, .ret [.dat (B true)]), (200035, .no), (38, .ret [.dat (B true)]), (200041, .no), (44, .ret [.dat (B true)]), (200047, .no), (200051, .yes), (200056, .no), (300010, .loop (hd44a b es i k n u (decide (i = 0)) (w64 (i - 1))) (.exit 2) (out44a b es i k n u true)), (300015, .loop (hd44b b es i k n u true 0 i) (.exit 4) (out44b b es i k n u true deep)), (200088, .no), (200091, .no), (200095, .no), (98, .ret [.own 3 ps]), (200102, .no)] hs (by kernel_rfl) (ob h1 (ob h2 (ob h3 (ob (rfl : false = false) (ob (rfl : false = false) (ob (rfl : false = false) (ob (rfl : false = false) (ob h8 (ob (rfl : false = false) (ob (rfl : false = false) (ob (rfl : false = false) (ob (rfl : false = false) (ob h13 (ob (rfl : false = false) (ob (rfl : false = false) (ob (rfl : false = false) (ob (rfl : false = false) (ob h18 (ob (rfl : false = false) (ob (rfl : false = false) (ob (rfl : false = false) (ob (rfl : false = false) (ob (rfl : false = false) (ob h24 (ob (rfl : true = true) (ob (rfl : true = true) (ob (rfl : false = false) (ob h28 (ob (rfl : _ = hd44a b es i k n u (decide (i = 0)) (w64 (i - 1))) (ob h30 (ob (rfl : _ = hd44b b es i k n u true 0 i) (ob h32 (ob h33 (ob (rfl : false = false) (ob (rfl : false = false) (ob h36 (ob (rfl : false = false) (ob (rfl : false = false) (ob h39 (ob (rfl : false = false) (ob (rfl : false = false) (ob (rfl : false = false) (ob h43 ob0))))))))))))))))))))))))))))))))))))))))))) (by kernel_rfl) hn
theorem GoodTerm_few (kk : Nat) (b : Bool) (es : List Dat) (h1 : den cfg kk 12 [D.dat (I (es.length : Int)), D.dat (I 1), D.dat (I 200)] [] [] = some ([D.dat (B false)], [], [])) : runFn cfg kk (den cfg kk) 11 Go.Proofs.Try.f11 [.dat (Dat.lst b es)] [] [] = some ([D.dat (B false)], [], []) :=
  hrun_ok [(12, .ret [.dat (B false)])] (ob h1 ob0) (by kernel_rfl)
theorem GoodTerm_yes (kk : Nat) (b : Bool) (es : List Dat) (h1 : den cfg kk 12 [D.dat (I (es.length : Int)), D.dat (I 1), D.dat (I 200)] [] [] = some ([D.dat (B true)], [], [])) (h3 : LoopAt cfg kk 11 Go.Proofs.Try.f11 4 (hd44 b es 0) (X.exit 0) (Nm [2] [D.junk] [none] [] [])) : runFn cfg kk (den cfg kk) 11 Go.Proofs.Try.f11 [.dat (Dat.lst b es)] [] [] = some ([D.dat (B true)], [], []) :=
  hrun_ok [(12, .ret [.dat (B true)]), (300004, .loop (hd44 b es 0) (.exit 0) (Nm [2] [.junk] [none] [] []))] (ob h1 (ob (rfl : _ = hd44 b es 0) (ob h3 ob0))) (by kernel_rfl)
theorem GoodTerm_no (kk : Nat) (b : Bool) (es : List Dat) (h1 : den cfg kk 12 [D.dat (I (es.length : Int)), D.dat (I 1), D.dat (I 200)] [] [] = some ([D.dat (B true)], [], [])) (h3 : LoopAt cfg kk 11 Go.Proofs.Try.f11 4 (hd44 b es 0) X.ret (Nm [2] [D.dat (B false)] [none] [] [])) : runFn cfg kk (den cfg kk) 11 Go.Proofs.Try.f11 [.dat (Dat.lst b es)] [] [] = some ([D.dat (B false)], [], []) :=
  hrun_ok [(12, .ret [.dat (B true)]), (300004, .loop (hd44 b es 0) .ret (Nm [2] [.dat (B false)] [none] [] []))] (ob h1 (ob (rfl : _ = hd44 b es 0) (ob h3 ob0))) (by kernel_rfl)
theorem is_no (kk : Nat) (k n x : Int) (ds : List Dat) (h1 : decide (k = 1) = false) : runFn cfg kk (den cfg kk) 23 Go.Proofs.Try.f23 [.dat (T k n ds), .dat (I x)] [] [] = some ([D.dat (B false)], [], []) :=
  hrun_ok [(200008, .no)] (ob h1 (ob (rfl : false = false) (ob (rfl : false = false) (ob (rfl : false = false) ob0)))) (by kernel_rfl)
theorem is_v (kk : Nat) (k n x : Int) (ds : List Dat) (h1 : decide (k = 1) = true) : runFn cfg kk (den cfg kk) 23 Go.Proofs.Try.f23 [.dat (T k n ds), .dat (I x)] [] [] = some ([D.dat (B (decide (n = x)))], [], []) :=
  hrun_ok [(200008, .yes)] (ob h1 (ob (rfl : true = true) (ob (rfl : true = true) (ob (rfl : true = true) ob0)))) (by kernel_rfl)
theorem ldPut_hit (kk : Nat) (x ks ns k n : Int) (ds ps : List Dat) (h1 : den cfg kk 23 [D.dat (T k n ps), D.dat (I x)] [] [] = some ([D.dat (B true)], [], [])) : runFn cfg kk (den cfg kk) 14 Go.Proofs.Try.f14 [.dat (T k n ps), .dat (I x), .dat (T ks ns ds)] [] [] = some ([D.dat (T ks ns ds)], [], []) :=
  hrun_ok [(12, .ret [.dat (B true)])] (ob h1 ob0) (by kernel_rfl)
def hd14 (x ks ns k n : Int) (ds ps : List Dat) (i : Int) (out : List Dat) : St := Nm [1, 5, 6, 7, 20, 21, 22] [.dat (I x), .ptr (.loc 5) 0, .ptr (.loc 6) 0, .ptr (.loc 7) 0, .dat (.lst false ps), .dat (I ps.length), .dat (I i)] [none, some [.dat (I ks), .dat (I ns), .dat (.lst false ds)], some [.dat (I 0), .dat (I 0), .own 36 []], some [.dat (I k), .dat (I n), .own 36 out], none, none, none] [] []
theorem ldPut_go (kk m : Nat) {s : St} {K : X → St → Prop} (x ks ns k n : Int) (ds ps : List Dat) (i : Int) (out : List Dat) (kx nx ky ny : Int) (dx dy : List Dat) (hs : s.norm ((envOf cfg kk 14 Go.Proofs.Try.f14).live (firstRegion (lp Go.Proofs.Try.f14 5))) = hd14 x ks ns k n ds ps i out) (h1 : decide (i < (ps.length : Int)) = true) (h2 : (0 ≤ i ∧ i < (ps.length : Int)) ∧ ps[i.toNat]? = some (T kx nx dx)) (h3 : den cfg kk 14 [D.dat (T kx nx dx), D.dat (I x), D.dat (T ks ns ds)] [] [] = some ([D.dat (T ky ny dy)], [], [])) (h4 : out.length + 1 ≤ 2147483648) (hn : ∀ s : St, s.norm ((envOf cfg kk 14 Go.Proofs.Try.f14).live (firstRegion (lp Go.Proofs.Try.f14 5))) = Nm [1, 5, 6, 7, 20, 21, 22] [D.dat (I x), D.ptr (Ref.loc 5) 0, D.ptr (Ref.loc 6) 0, D.ptr (Ref.loc 7) 0, D.dat (Dat.lst false ps), D.dat (I (ps.length : Int)), D.dat (I (w64 (i + 1)))] [none, some [D.dat (I ks), D.dat (I ns), D.dat (Dat.lst false ds)], some [D.dat (I 0), D.dat (I 0), D.own 36 []], some [D.dat (I k), D.dat (I n), D.own 36 (out ++ [T ky ny dy])], none, none, none] [] [] → Rounds (envOf cfg kk 14 Go.Proofs.Try.f14) kk (lp Go.Proofs.Try.f14 5) m s K) : Rounds (envOf cfg kk 14 Go.Proofs.Try.f14) kk (lp Go.Proofs.Try.f14 5) (m + 1) s K :=
  rounds_go [(200023, .yes), (24, .at (T kx nx dx)), (31, .ret [.dat (T ky ny dy)]), (33, .ok)] hs (by kernel_rfl) (ob h1 (ob h2 (ob h3 (ob (obT h4) ob0)))) (by kernel_rfl) hn
theorem ldPut_end (kk m : Nat) {s : St} {K : X → St → Prop} (x ks ns k n : Int) (ds ps : List Dat) (i : Int) (out : List Dat) (hs : s.norm ((envOf cfg kk 14 Go.Proofs.Try.f14).live (firstRegion (lp Go.Proofs.Try.f14 5))) = hd14 x ks ns k n ds ps i out) (h1 : decide (i < (ps.length : Int)) = false) (hK : K (X.exit 0) (Nm [6, 7] [D.ptr (Ref.loc 6) 0, D.ptr (Ref.loc 7) 0] [some [D.dat (I 0), D.dat (I 0), D.own 36 []], some [D.dat (I k), D.dat (I n), D.own 36 out]] [] [])) : Rounds (envOf cfg kk 14 Go.Proofs.Try.f14) kk (lp Go.Proofs.Try.f14 5) (m + 1) s K :=
  rounds_end [(200023, .no)] hs (by kernel_rfl) rfl (ob h1 ob0) (by kernel_rfl) hK
theorem ldPut (kk : Nat) (x ks ns k n : Int) (ds ps : List Dat) (out : List Dat) (h1 : den cfg kk 23 [D.dat (T k n ps), D.dat (I x)] [] [] = some ([D.dat (B false)], [], [])) (h3 : LoopAt cfg kk 14 Go.Proofs.Try.f14 5 (hd14 x ks ns k n ds ps 0 []) (X.exit 0) (Nm [6, 7] [D.ptr (Ref.loc 6) 0, D.ptr (Ref.loc 7) 0] [some [D.dat (I 0), D.dat (I 0), D.own 36 []], some [D.dat (I k), D.dat (I n), D.own 36 out]] [] [])) : runFn cfg kk (den cfg kk) 14 Go.Proofs.Try.f14 [.dat (T k n ps), .dat (I x), .dat (T ks ns ds)] [] [] = some ([D.dat (T k n out)], [], []) :=
  hrun_ok [(12, .ret [.dat (B false)]), (300005, .loop (hd14 x ks ns k n ds ps 0 []) (.exit 0) (Nm [6, 7] [.ptr (.loc 6) 0, .ptr (.loc 7) 0] [some [.dat (I 0), .dat (I 0), .own 36 []], some [.dat (I k), .dat (I n), .own 36 out]] [] []))] (ob h1 (ob (rfl : _ = hd14 x ks ns k n ds ps 0 []) (ob h3 ob0))) (by kernel_rfl)
theorem sPut_no1 (kk : Nat) (b1 b2 : Bool) (xs ys : List Dat) (k : Int) (h1 : den cfg kk 11 [D.dat (Dat.lst b1 xs)] [] [] = some ([D.dat (B false)], [], [])) : runFn cfg kk (den cfg kk) 5 Go.Proofs.Try.f5 [.dat (Dat.lst b1 xs), .dat (I k), .dat (Dat.lst b2 ys)] [] [] = some ([D.own 40 [], D.dat (B false)], [], []) :=
  hrun_ok [(9, .ret [.dat (B false)]), (200011, .yes), (200016, .yes), (200020, .yes)] (ob h1 (ob (rfl : true = true) (ob (rfl : true = true) (ob (rfl : true = true) (ob (rfl : true = true) (ob (rfl : true = true) (ob (rfl : true = true) (ob (rfl : true = true) ob0)))))))) (by kernel_rfl)
theorem sPut_no2 (kk : Nat) (b1 b2 : Bool) (xs ys : List Dat) (k : Int) (h1 : den cfg kk 11 [D.dat (Dat.lst b1 xs)] [] [] = some ([D.dat (B true)], [], [])) (h4 : den cfg kk 11 [D.dat (Dat.lst b2 ys)] [] [] = some ([D.dat (B false)], [], [])) : runFn cfg kk (den cfg kk) 5 Go.Proofs.Try.f5 [.dat (Dat.lst b1 xs), .dat (I k), .dat (Dat.lst b2 ys)] [] [] = some ([D.own 40 [], D.dat (B false)], [], []) :=
  hrun_ok [(9, .ret [.dat (B true)]), (200011, .no), (13, .ret [.dat (B false)]), (200016, .yes), (200020, .yes)] (ob h1 (ob (rfl : false = false) (ob (rfl : false = false) (ob h4 (ob (rfl : false = false) (ob (rfl : true = true) (ob (rfl : true = true) (ob (rfl : true = true) (ob (rfl : true = true) ob0))))))))) (by kernel_rfl)
theorem sPut_no3 (kk : Nat) (b1 b2 : Bool) (xs ys : List Dat) (k : Int) (h1 : den cfg kk 11 [D.dat (Dat.lst b1 xs)] [] [] = some ([D.dat (B true)], [], [])) (h4 : den cfg kk 11 [D.dat (Dat.lst b2 ys)] [] [] = some ([D.dat (B true)], [], [])) (h8 : den cfg kk 12 [D.dat (I k), D.dat (I 0), D.dat (I 999)] [] [] = some ([D.dat (B false)], [], [])) : runFn cfg kk (den cfg kk) 5 Go.Proofs.Try.f5 [.dat (Dat.lst b1 xs), .dat (I k), .dat (Dat.lst b2 ys)] [] [] = some ([D.own 40 [], D.dat (B false)], [], []) :=
  hrun_ok [(9, .ret [.dat (B true)]), (200011, .no), (13, .ret [.dat (B true)]), (200016, .no), (18, .ret [.dat (B false)]), (200020, .yes)] (ob h1 (ob (rfl : false = false) (ob (rfl : false = false) (ob h4 (ob (rfl : false = false) (ob (rfl : false = false) (ob (rfl : false = false) (ob h8 (ob (rfl : false = false) (ob (rfl : true = true) ob0)))))))))) (by kernel_rfl)
theorem sPut_go (kk : Nat) (b1 b2 r : Bool) (xs ys out : List Dat) (k ka na kb nb kc nc : Int) (da db dc : List Dat) (h1 : den cfg kk 11 [D.dat (Dat.lst b1 xs)] [] [] = some ([D.dat (B true)], [], [])) (h4 : den cfg kk 11 [D.dat (Dat.lst b2 ys)] [] [] = some ([D.dat (B true)], [], [])) (h8 : den cfg kk 12 [D.dat (I k), D.dat (I 0), D.dat (I 999)] [] [] = some ([D.dat (B true)], [], [])) (h11 : den cfg kk 15 [D.dat (Dat.lst b1 xs), D.dat (I 0)] [] [] = some ([D.dat (T ka na da)], [], [])) (h12 : den cfg kk 15 [D.dat (Dat.lst b2 ys), D.dat (I 0)] [] [] = some ([D.dat (T kb nb db)], [], [])) (h13 : den cfg kk 14 [D.dat (T ka na da), D.dat (I k), D.dat (T kb nb db)] [] [] = some ([D.dat (T kc nc dc)], [], [])) (h14 : den cfg kk 13 [D.dat (T kc nc dc)] [] [] = some ([D.own 40 out, D.dat (B r)], [], [])) : runFn cfg kk (den cfg kk) 5 Go.Proofs.Try.f5 [.dat (Dat.lst b1 xs), .dat (I k), .dat (Dat.lst b2 ys)] [] [] = some ([D.own 40 out, D.dat (B r)], [], []) :=
  hrun_ok [(9, .ret [.dat (B true)]), (200011, .no), (13, .ret [.dat (B true)]), (200016, .no), (18, .ret [.dat (B true)]), (200020, .no), (22, .ret [.dat (T ka na da)]), (25, .ret [.dat (T kb nb db)]), (26, .ret [.dat (T kc nc dc)]), (27, .ret [.own 40 out, .dat (B r)])] (ob h1 (ob (rfl : false = false) (ob (rfl : false = false) (ob h4 (ob (rfl : false = false) (ob (rfl : false = false) (ob (rfl : false = false) (ob h8 (ob (rfl : false = false) (ob (rfl : false = false) (ob h11 (ob h12 (ob h13 (ob h14 ob0)))))))))))))) (by kernel_rfl)
theorem termAt_end (kk : Nat) (b : Bool) (es : List Dat) (a up : Int) (h1 : decide (a = (es.length : Int)) = true) : runFn cfg kk (den cfg kk) 24 Go.Proofs.Try.f24 [.dat (Dat.lst b es), .dat (I a), .dat (I up)] [] [] = some ([D.dat (T 0 0 []), D.dat (I 0), D.dat (B false)], [], []) :=
  hrun_ok [(200018, .yes), (200027, .yes), (200035, .yes)] (ob h1 (ob (rfl : true = true) (ob (rfl : true = true) (ob (rfl : true = true) (ob (rfl : true = true) (ob (rfl : true = true) (ob (rfl : true = true) (ob (rfl : true = true) (ob (rfl : true = true) (ob (rfl : true = true) (ob (rfl : true = true) (ob (rfl : true = true) (ob (rfl : true = true) (ob (rfl : true = true) (ob (rfl : true = true) (ob (rfl : true = true) (ob (rfl : true = true) (ob (rfl : true = true) (ob (rfl : true = true) ob0))))))))))))))))))) (by kernel_rfl)
theorem termAt_up (kk : Nat) (b : Bool) (es : List Dat) (a up : Int) (k n u : Int) (h1 : decide (a = (es.length : Int)) = false) (h4 : (0 ≤ a ∧ a < (es.length : Int)) ∧ es[a.toNat]? = some (N3 k n u)) (h9 : (!decide (u = up)) = true) : runFn cfg kk (den cfg kk) 24 Go.Proofs.Try.f24 [.dat (Dat.lst b es), .dat (I a), .dat (I up)] [] [] = some ([D.dat (T 0 0 []), D.dat (I 0), D.dat (B false)], [], []) :=
  hrun_ok [(200018, .no), (21, .at (N3 k n u)), (200027, .yes), (200035, .yes)] (ob h1 (ob (rfl : false = false) (ob (rfl : false = false) (ob h4 (ob (rfl : false = false) (ob (rfl : false = false) (ob (rfl : false = false) (ob (rfl : false = false) (ob h9 (ob (rfl : true = true) (ob (rfl : true = true) (ob (rfl : true = true) (ob (rfl : true = true) (ob (rfl : true = true) (ob (rfl : true = true) (ob (rfl : true = true) (ob (rfl : true = true) (ob (rfl : true = true) (ob (rfl : true = true) (ob (rfl : true = true) ob0)))))))))))))))))))) (by kernel_rfl)
theorem termAt_lo (kk : Nat) (b : Bool) (es : List Dat) (a up : Int) (k n u : Int) (h1 : decide (a = (es.length : Int)) = false) (h4 : (0 ≤ a ∧ a < (es.length : Int)) ∧ es[a.toNat]? = some (N3 k n u)) (h9 : (!decide (u = up)) = false) (h12 : (0 ≤ a ∧ a < (es.length : Int)) ∧ es[a.toNat]? = some (N3 k n u)) (h16 : decide (k < 1) = true) : runFn cfg kk (den cfg kk) 24 Go.Proofs.Try.f24 [.dat (Dat.lst b es), .dat (I a), .dat (I up)] [] [] = some ([D.dat (T 0 0 []), D.dat (I 0), D.dat (B false)], [], []) :=
  hrun_ok [(200018, .no), (21, .at (N3 k n u)), (200027, .no), (30, .at (N3 k n u)), (200035, .yes)] (ob h1 (ob (rfl : false = false) (ob (rfl : false = false) (ob h4 (ob (rfl : false = false) (ob (rfl : false = false) (ob (rfl : false = false) (ob (rfl : false = false) (ob h9 (ob (rfl : false = false) (ob (rfl : false = false) (ob h12 (ob (rfl : false = false) (ob (rfl : false = false) (ob (rfl : false = false) (ob h16 (ob (rfl : true = true) (ob (rfl : true = true) (ob (rfl : true = true) (ob (rfl : true = true) (ob (rfl : true = true) ob0))))))))))))))))))))) (by kernel_rfl)
theorem termAt_hi (kk : Nat) (b : Bool) (es : List Dat) (a up : Int) (k n u : Int) (h1 : decide (a = (es.length : Int)) = false) (h4 : (0 ≤ a ∧ a < (es.length : Int)) ∧ es[a.toNat]? = some (N3 k n u)) (h9 : (!decide (u = up)) = false) (h12 : (0 ≤ a ∧ a < (es.length : Int)) ∧ es[a.toNat]? = some (N3 k n u)) (h16 : decide (k < 1) = false) (h19 : (0 ≤ a ∧ a < (es.length : Int)) ∧ es[a.toNat]? = some (N3 k n u)) (h23 : decide (5 < k) = true) : runFn cfg kk (den cfg kk) 24 Go.Proofs.Try.f24 [.dat (Dat.lst b es), .dat (I a), .dat (I up)] [] [] = some ([D.dat (T 0 0 []), D.dat (I 0), D.dat (B false)], [], []) :=
  hrun_ok [(200018, .no), (21, .at (N3 k n u)), (200027, .no), (30, .at (N3 k n u)), (200035, .no), (38, .at (N3 k n u)), (200042, .yes)] (ob h1 (ob (rfl : false = false) (ob (rfl : false = false) (ob h4 (ob (rfl : false = false) (ob (rfl : false = false) (ob (rfl : false = false) (ob (rfl : false = false) (ob h9 (ob (rfl : false = false) (ob (rfl : false = false) (ob h12 (ob (rfl : false = false) (ob (rfl : false = false) (ob (rfl : false = false) (ob h16 (ob (rfl : false = false) (ob (rfl : false = false) (ob h19 (ob (rfl : false = false) (ob (rfl : false = false) (ob (rfl : false = false) (ob h23 ob0))))))))))))))))))))))) (by kernel_rfl)
def hd90 (b : Bool) (es : List Dat) (a up : Int) (k n : Int) (out : List Dat) (nx : Int) : St := Nm [0, 1, 6, 9, 10] [.dat (.lst b es), .dat (I a), .ptr (.loc 6) 0, .ptr (.loc 9) 0, .dat (I nx)] [none, none, some [.dat (I 0), .dat (I 0), .own 45 []], some [.dat (I k), .dat (I n), .own 45 out], none] [] []
theorem termAt_go (kk m : Nat) {s : St} {K : X → St → Prop} (b : Bool) (es : List Dat) (a up : Int) (k n : Int) (out : List Dat) (nx : Int) (kx nnx nx' : Int) (dx : List Dat) (hs : s.norm ((envOf cfg kk 24 Go.Proofs.Try.f24).live (firstRegion (lp Go.Proofs.Try.f24 4))) = hd90 b es a up 2 n out nx) (h5 : decide ((out.length : Int) < 2) = true) (h6 : den cfg kk 24 [D.dat (Dat.lst b es), D.dat (I nx), D.dat (I a)] [] [] = some ([D.dat (T kx nnx dx), D.dat (I nx'), D.dat (B true)], [], [])) (h7 : out.length + 1 ≤ 2147483648) (hn : ∀ s : St, s.norm ((envOf cfg kk 24 Go.Proofs.Try.f24).live (firstRegion (lp Go.Proofs.Try.f24 4))) = Nm [0, 1, 6, 9, 10] [D.dat (Dat.lst b es), D.dat (I a), D.ptr (Ref.loc 6) 0, D.ptr (Ref.loc 9) 0, D.dat (I nx')] [none, none, some [D.dat (I 0), D.dat (I 0), D.own 45 []], some [D.dat (I 2), D.dat (I n), D.own 45 (out ++ [T kx nnx dx])], none] [] [] → Rounds (envOf cfg kk 24 Go.Proofs.Try.f24) kk (lp Go.Proofs.Try.f24 4) m s K) : Rounds (envOf cfg kk 24 Go.Proofs.Try.f24) kk (lp Go.Proofs.Try.f24 4) (m + 1) s K :=
  rounds_go [(200060, .yes), (200065, .yes), (70, .ret [.dat (T kx nnx dx), .dat (I nx'), .dat (B true)]), (81, .ok)] hs (by kernel_rfl) (ob (rfl : true = true) (ob (rfl : true = true) (ob (rfl : true = true) (ob (rfl : true = true) (ob h5 (ob h6 (ob (obT h7) ob0))))))) (by kernel_rfl) hn
theorem termAt_bad (kk m : Nat) {s : St} {K : X → St → Prop} (b : Bool) (es : List Dat) (a up : Int) (k n : Int) (out : List Dat) (nx : Int) (kx nnx nx' : Int) (dx : List Dat) (hs : s.norm ((envOf cfg kk 24 Go.Proofs.Try.f24).live (firstRegion (lp Go.Proofs.Try.f24 4))) = hd90 b es a up 2 n out nx) (h5 : decide ((out.length : Int) < 2) = true) (h6 : den cfg kk 24 [D.dat (Dat.lst b es), D.dat (I nx), D.dat (I a)] [] [] = some ([D.dat (T kx nnx dx), D.dat (I nx'), D.dat (B false)], [], [])) (hK : K (X.ret) (Nm [6, 7, 8, 9, 10] [D.ptr (Ref.loc 6) 0, D.dat (I 0), D.dat (B false), D.ptr (Ref.loc 9) 0, D.dat (I nx)] [some [D.dat (I 0), D.dat (I 0), D.own 45 []], none, none, some [D.dat (I 2), D.dat (I n), D.own 45 out], none] [] [])) : Rounds (envOf cfg kk 24 Go.Proofs.Try.f24) kk (lp Go.Proofs.Try.f24 4) (m + 1) s K :=
  rounds_end [(200060, .yes), (200065, .yes), (70, .ret [.dat (T kx nnx dx), .dat (I nx'), .dat (B false)])] hs (by kernel_rfl) rfl (ob (rfl : true = true) (ob (rfl : true = true) (ob (rfl : true = true) (ob (rfl : true = true) (ob h5 (ob h6 ob0)))))) (by kernel_rfl) hK
theorem termAt_done (kk m : Nat) {s : St} {K : X → St → Prop} (b : Bool) (es : List Dat) (a up : Int) (k n : Int) (out : List Dat) (nx : Int) (hs : s.norm ((envOf cfg kk 24 Go.Proofs.Try.f24).live (firstRegion (lp Go.Proofs.Try.f24 4))) = hd90 b es a up 2 n out nx) (h5 : decide ((out.length : Int) < 2) = false) (hK : K (X.exit 0) (Nm [6, 7, 8, 9, 10] [D.ptr (Ref.loc 6) 0, D.junk, D.junk, D.ptr (Ref.loc 9) 0, D.dat (I nx)] [some [D.dat (I 0), D.dat (I 0), D.own 45 []], none, none, some [D.dat (I 2), D.dat (I n), D.own 45 out], none] [] [])) : Rounds (envOf cfg kk 24 Go.Proofs.Try.f24) kk (lp Go.Proofs.Try.f24 4) (m + 1) s K :=
  rounds_end [(200060, .yes), (200065, .no)] hs (by kernel_rfl) rfl (ob (rfl : true = true) (ob (rfl : true = true) (ob (rfl : true = true) (ob (rfl : true = true) (ob h5 ob0))))) (by kernel_rfl) hK
theorem termAt_leaf (kk m : Nat) {s : St} {K : X → St → Prop} (b : Bool) (es : List Dat) (a up : Int) (k n : Int) (out : List Dat) (nx : Int) (hs : s.norm ((envOf cfg kk 24 Go.Proofs.Try.f24).live (firstRegion (lp Go.Proofs.Try.f24 4))) = hd90 b es a up k n out nx) (h1 : decide (k = 2) = false) (hK : K (X.exit 0) (Nm [6, 7, 8, 9, 10] [D.ptr (Ref.loc 6) 0, D.junk, D.junk, D.ptr (Ref.loc 9) 0, D.dat (I nx)] [some [D.dat (I 0), D.dat (I 0), D.own 45 []], none, none, some [D.dat (I k), D.dat (I n), D.own 45 out], none] [] [])) : Rounds (envOf cfg kk 24 Go.Proofs.Try.f24) kk (lp Go.Proofs.Try.f24 4) (m + 1) s K :=
  rounds_end [(200060, .no)] hs (by kernel_rfl) rfl (ob h1 (ob (rfl : false = false) (ob (rfl : false = false) (ob (rfl : false = false) ob0)))) (by kernel_rfl) hK
theorem termAt_y (kk : Nat) (b : Bool) (es : List Dat) (a up : Int) (k n u nx : Int) (out : List Dat) (h1 : decide (a = (es.length : Int)) = false) (h4 : (0 ≤ a ∧ a < (es.length : Int)) ∧ es[a.toNat]? = some (N3 k n u)) (h9 : (!decide (u = up)) = false) (h12 : (0 ≤ a ∧ a < (es.length : Int)) ∧ es[a.toNat]? = some (N3 k n u)) (h16 : decide (k < 1) = false) (h19 : (0 ≤ a ∧ a < (es.length : Int)) ∧ es[a.toNat]? = some (N3 k n u)) (h23 : decide (5 < k) = false) (h24 : (0 ≤ a ∧ a < (es.length : Int)) ∧ es[a.toNat]? = some (N3 k n u)) (h25 : (0 ≤ a ∧ a < (es.length : Int)) ∧ es[a.toNat]? = some (N3 k n u)) (h27 : LoopAt cfg kk 24 Go.Proofs.Try.f24 4 (hd90 b es a up k n [] (w64 (a + 1))) (X.exit 0) (Nm [6, 7, 8, 9, 10] [D.ptr (Ref.loc 6) 0, D.junk, D.junk, D.ptr (Ref.loc 9) 0, D.dat (I nx)] [some [D.dat (I 0), D.dat (I 0), D.own 45 []], none, none, some [D.dat (I k), D.dat (I n), D.own 45 out], none] [] [])) : runFn cfg kk (den cfg kk) 24 Go.Proofs.Try.f24 [.dat (Dat.lst b es), .dat (I a), .dat (I up)] [] [] = some ([D.dat (T k n out), D.dat (I nx), D.dat (B true)], [], []) :=
  hrun_ok [(200018, .no), (21, .at (N3 k n u)), (200027, .no), (30, .at (N3 k n u)), (200035, .no), (38, .at (N3 k n u)), (200042, .no), (46, .at (N3 k n u)), (51, .at (N3 k n u)), (300004, .loop (hd90 b es a up k n [] (w64 (a + 1))) (.exit 0) (Nm [6, 7, 8, 9, 10] [.ptr (.loc 6) 0, .junk, .junk, .ptr (.loc 9) 0, .dat (I nx)] [some [.dat (I 0), .dat (I 0), .own 45 []], none, none, some [.dat (I k), .dat (I n), .own 45 out], none] [] []))] (ob h1 (ob (rfl : false = false) (ob (rfl : false = false) (ob h4 (ob (rfl : false = false) (ob (rfl : false = false) (ob (rfl : false = false) (ob (rfl : false = false) (ob h9 (ob (rfl : false = false) (ob (rfl : false = false) (ob h12 (ob (rfl : false = false) (ob (rfl : false = false) (ob (rfl : false = false) (ob h16 (ob (rfl : false = false) (ob (rfl : false = false) (ob h19 (ob (rfl : false = false) (ob (rfl : false = false) (ob (rfl : false = false) (ob h23 (ob h24 (ob h25 (ob (rfl : _ = hd90 b es a up k n [] (w64 (a + 1))) (ob h27 ob0))))))))))))))))))))))))))) (by kernel_rfl)
theorem termAt_n (kk : Nat) (b : Bool) (es : List Dat) (a up : Int) (k n u nx : Int) (out : List Dat) (h1 : decide (a = (es.length : Int)) = false) (h4 : (0 ≤ a ∧ a < (es.length : Int)) ∧ es[a.toNat]? = some (N3 k n u)) (h9 : (!decide (u = up)) = false) (h12 : (0 ≤ a ∧ a < (es.length : Int)) ∧ es[a.toNat]? = some (N3 k n u)) (h16 : decide (k < 1) = false) (h19 : (0 ≤ a ∧ a < (es.length : Int)) ∧ es[a.toNat]? = some (N3 k n u)) (h23 : decide (5 < k) = false) (h24 : (0 ≤ a ∧ a < (es.length : Int)) ∧ es[a.toNat]? = some (N3 k n u)) (h25 : (0 ≤ a ∧ a < (es.length : Int)) ∧ es[a.toNat]? = some (N3 k n u)) (h27 : LoopAt cfg kk 24 Go.Proofs.Try.f24 4 (hd90 b es a up k n [] (w64 (a + 1))) X.ret (Nm [6, 7, 8, 9, 10] [D.ptr (Ref.loc 6) 0, D.dat (I 0), D.dat (B false), D.ptr (Ref.loc 9) 0, D.dat (I nx)] [some [D.dat (I 0), D.dat (I 0), D.own 45 []], none, none, some [D.dat (I k), D.dat (I n), D.own 45 out], none] [] [])) : runFn cfg kk (den cfg kk) 24 Go.Proofs.Try.f24 [.dat (Dat.lst b es), .dat (I a), .dat (I up)] [] [] = some ([D.dat (T 0 0 []), D.dat (I 0), D.dat (B false)], [], []) :=
  hrun_ok [(200018, .no), (21, .at (N3 k n u)), (200027, .no), (30, .at (N3 k n u)), (200035, .no), (38, .at (N3 k n u)), (200042, .no), (46, .at (N3 k n u)), (51, .at (N3 k n u)), (300004, .loop (hd90 b es a up k n [] (w64 (a + 1))) .ret (Nm [6, 7, 8, 9, 10] [.ptr (.loc 6) 0, .dat (I 0), .dat (B false), .ptr (.loc 9) 0, .dat (I nx)] [some [.dat (I 0), .dat (I 0), .own 45 []], none, none, some [.dat (I k), .dat (I n), .own 45 out], none] [] []))] (ob h1 (ob (rfl : false = false) (ob (rfl : false = false) (ob h4 (ob (rfl : false = false) (ob (rfl : false = false) (ob (rfl : false = false) (ob (rfl : false = false) (ob h9 (ob (rfl : false = false) (ob (rfl : false = false) (ob h12 (ob (rfl : false = false) (ob (rfl : false = false) (ob (rfl : false = false) (ob h16 (ob (rfl : false = false) (ob (rfl : false = false) (ob h19 (ob (rfl : false = false) (ob (rfl : false = false) (ob (rfl : false = false) (ob h23 (ob h24 (ob h25 (ob (rfl : _ = hd90 b es a up k n [] (w64 (a + 1))) (ob h27 ob0))))))))))))))))))))))))))) (by kernel_rfl)
theorem termOf_few (kk : Nat) (b : Bool) (es : List Dat) (h1 : decide ((es.length : Int) < 1) = true) : runFn cfg kk (den cfg kk) 17 Go.Proofs.Try.f17 [.dat (Dat.lst b es)] [] [] = some ([D.dat (T 0 0 []), D.dat (B false)], [], []) :=
  hrun_ok [(200010, .yes)] (ob h1 (ob (rfl : true = true) (ob (rfl : true = true) ob0))) (by kernel_rfl)
theorem termOf_many (kk : Nat) (b : Bool) (es : List Dat) (h1 : decide ((es.length : Int) < 1) = false) (h4 : decide (200 < (es.length : Int)) = true) : runFn cfg kk (den cfg kk) 17 Go.Proofs.Try.f17 [.dat (Dat.lst b es)] [] [] = some ([D.dat (T 0 0 []), D.dat (B false)], [], []) :=
  hrun_ok [(200010, .no), (200014, .yes)] (ob h1 (ob (rfl : false = false) (ob (rfl : false = false) (ob h4 ob0)))) (by kernel_rfl)
theorem termOf_bad (kk : Nat) (b : Bool) (es : List Dat) (k n nx : Int) (ds : List Dat) (h1 : decide ((es.length : Int) < 1) = false) (h4 : decide (200 < (es.length : Int)) = false) (h5 : den cfg kk 24 [D.dat (Dat.lst b es), D.dat (I 0), D.dat (I (-1))] [] [] = some ([D.dat (T k n ds), D.dat (I nx), D.dat (B false)], [], [])) : runFn cfg kk (den cfg kk) 17 Go.Proofs.Try.f17 [.dat (Dat.lst b es)] [] [] = some ([D.dat (T k n ds), D.dat (B false)], [], []) :=
  hrun_ok [(200010, .no), (200014, .no), (18, .ret [.dat (T k n ds), .dat (I nx), .dat (B false)])] (ob h1 (ob (rfl : false = false) (ob (rfl : false = false) (ob h4 (ob h5 ob0))))) (by kernel_rfl)
theorem termOf_more (kk : Nat) (b : Bool) (es : List Dat) (k n nx : Int) (ds : List Dat) (h1 : decide ((es.length : Int) < 1) = false) (h4 : decide (200 < (es.length : Int)) = false) (h5 : den cfg kk 24 [D.dat (Dat.lst b es), D.dat (I 0), D.dat (I (-1))] [] [] = some ([D.dat (T k n ds), D.dat (I nx), D.dat (B true)], [], [])) (h6 : decide (nx = (es.length : Int)) = false) : runFn cfg kk (den cfg kk) 17 Go.Proofs.Try.f17 [.dat (Dat.lst b es)] [] [] = some ([D.dat (T k n ds), D.dat (B false)], [], []) :=
  hrun_ok [(200010, .no), (200014, .no), (18, .ret [.dat (T k n ds), .dat (I nx), .dat (B true)]), (200030, .no)] (ob h1 (ob (rfl : false = false) (ob (rfl : false = false) (ob h4 (ob h5 (ob h6 (ob (rfl : false = false) ob0))))))) (by kernel_rfl)
theorem termOf_go (kk : Nat) (b : Bool) (es : List Dat) (k n nx : Int) (ds : List Dat) (g : Bool) (h1 : decide ((es.length : Int) < 1) = false) (h4 : decide (200 < (es.length : Int)) = false) (h5 : den cfg kk 24 [D.dat (Dat.lst b es), D.dat (I 0), D.dat (I (-1))] [] [] = some ([D.dat (T k n ds), D.dat (I nx), D.dat (B true)], [], [])) (h6 : decide (nx = (es.length : Int)) = true) (h8 : den cfg kk 25 [D.dat (T k n ds)] [] [] = some ([D.dat (B g)], [], [])) : runFn cfg kk (den cfg kk) 17 Go.Proofs.Try.f17 [.dat (Dat.lst b es)] [] [] = some ([D.dat (T k n ds), D.dat (B g)], [], []) :=
  hrun_ok [(200010, .no), (200014, .no), (18, .ret [.dat (T k n ds), .dat (I nx), .dat (B true)]), (200030, .yes), (32, .ret [.dat (B g)])] (ob h1 (ob (rfl : false = false) (ob (rfl : false = false) (ob h4 (ob h5 (ob h6 (ob (rfl : true = true) (ob h8 ob0)))))))) (by kernel_rfl)
def hd28 (ps : List Dat) (z dd : Int) (r : Bool) (i : Int) : St := Nm [5, 6, 7, 32, 33, 34] [.dat (I z), .dat (I dd), .dat (B r), .dat (.lst false ps), .dat (I ps.length), .dat (I i)] [none, none, none, none, none, none] [] []
theorem measure_true (kk m : Nat) {s : St} {K : X → St → Prop} (ps : List Dat) (z dd i z2 d2 kx nx : Int) (r2 : Bool) (dx : List Dat) (hs : s.norm ((envOf cfg kk 28 Go.Proofs.Try.f28).live (firstRegion (lp Go.Proofs.Try.f28 4))) = hd28 ps z dd true i) (h1 : decide (i < (ps.length : Int)) = true) (h2 : (0 ≤ i ∧ i < (ps.length : Int)) ∧ ps[i.toNat]? = some (T kx nx dx)) (h3 : den cfg kk 28 [D.dat (T kx nx dx)] [] [] = some ([D.dat (I z2), D.dat (I d2), D.dat (B r2)], [], [])) (hn : ∀ s : St, s.norm ((envOf cfg kk 28 Go.Proofs.Try.f28).live (firstRegion (lp Go.Proofs.Try.f28 4))) = Nm [5, 6, 7, 32, 33, 34] [D.dat (I (w64 (z + z2))), D.dat (I (if d2 > dd then d2 else dd)), D.dat (B r2), D.dat (Dat.lst false ps), D.dat (I (ps.length : Int)), D.dat (I (w64 (i + 1)))] [none, none, none, none, none, none] [] [] → Rounds (envOf cfg kk 28 Go.Proofs.Try.f28) kk (lp Go.Proofs.Try.f28 4) m s K) : Rounds (envOf cfg kk 28 Go.Proofs.Try.f28) kk (lp Go.Proofs.Try.f28 4) (m + 1) s K :=
  rounds_go [(200035, .yes), (36, .at (T kx nx dx)), (40, .ret [.dat (I z2), .dat (I d2), .dat (B r2)]), (200051, .yes)] hs (by kernel_rfl) (ob h1 (ob h2 (ob h3 (ob (rfl : true = true) ob0)))) (by kernel_rfl) hn
theorem measure_false (kk m : Nat) {s : St} {K : X → St → Prop} (ps : List Dat) (z dd i z2 d2 kx nx : Int) (r2 : Bool) (dx : List Dat) (hs : s.norm ((envOf cfg kk 28 Go.Proofs.Try.f28).live (firstRegion (lp Go.Proofs.Try.f28 4))) = hd28 ps z dd false i) (h1 : decide (i < (ps.length : Int)) = true) (h2 : (0 ≤ i ∧ i < (ps.length : Int)) ∧ ps[i.toNat]? = some (T kx nx dx)) (h3 : den cfg kk 28 [D.dat (T kx nx dx)] [] [] = some ([D.dat (I z2), D.dat (I d2), D.dat (B r2)], [], [])) (hn : ∀ s : St, s.norm ((envOf cfg kk 28 Go.Proofs.Try.f28).live (firstRegion (lp Go.Proofs.Try.f28 4))) = Nm [5, 6, 7, 32, 33, 34] [D.dat (I (w64 (z + z2))), D.dat (I (if d2 > dd then d2 else dd)), D.dat (B false), D.dat (Dat.lst false ps), D.dat (I (ps.length : Int)), D.dat (I (w64 (i + 1)))] [none, none, none, none, none, none] [] [] → Rounds (envOf cfg kk 28 Go.Proofs.Try.f28) kk (lp Go.Proofs.Try.f28 4) m s K) : Rounds (envOf cfg kk 28 Go.Proofs.Try.f28) kk (lp Go.Proofs.Try.f28 4) (m + 1) s K :=
  rounds_go [(200035, .yes), (36, .at (T kx nx dx)), (40, .ret [.dat (I z2), .dat (I d2), .dat (B r2)]), (200051, .no)] hs (by kernel_rfl) (ob h1 (ob h2 (ob h3 (ob (rfl : false = false) ob0)))) (by kernel_rfl) hn
theorem measure_end (kk m : Nat) {s : St} {K : X → St → Prop} (ps : List Dat) (z dd : Int) (r : Bool) (i : Int) (hs : s.norm ((envOf cfg kk 28 Go.Proofs.Try.f28).live (firstRegion (lp Go.Proofs.Try.f28 4))) = hd28 ps z dd r i) (h1 : decide (i < (ps.length : Int)) = false) (hK : K (X.exit 0) (Nm [5, 6, 7] [D.dat (I z), D.dat (I dd), D.dat (B r)] [none, none, none] [] [])) : Rounds (envOf cfg kk 28 Go.Proofs.Try.f28) kk (lp Go.Proofs.Try.f28 4) (m + 1) s K :=
  rounds_end [(200035, .no)] hs (by kernel_rfl) rfl (ob h1 ob0) (by kernel_rfl) hK
theorem measure_neg (kk : Nat) (k n : Int) (ps : List Dat) (z dd : Int) (r : Bool) (h1 : decide (0 ≤ n) = false) (h10 : LoopAt cfg kk 28 Go.Proofs.Try.f28 4 (hd28 ps 1 0 false 0) (X.exit 0) (Nm [5, 6, 7] [D.dat (I z), D.dat (I dd), D.dat (B r)] [none, none, none] [] [])) : runFn cfg kk (den cfg kk) 28 Go.Proofs.Try.f28 [.dat (T k n ps)] [] [] = some ([D.dat (I z), D.dat (I (w64 (dd + 1))), D.dat (B r)], [], []) :=
  hrun_ok [(200016, .no), (200021, .no), (300004, .loop (hd28 ps 1 0 false 0) (.exit 0) (Nm [5, 6, 7] [.dat (I z), .dat (I dd), .dat (B r)] [none, none, none] [] []))] (ob h1 (ob (rfl : false = false) (ob (rfl : false = false) (ob (rfl : false = false) (ob (rfl : false = false) (ob (rfl : false = false) (ob (rfl : false = false) (ob (rfl : false = false) (ob (rfl : _ = hd28 ps 1 0 false 0) (ob h10 ob0)))))))))) (by kernel_rfl)
theorem measure_big (kk : Nat) (k n : Int) (ps : List Dat) (z dd : Int) (r : Bool) (h1 : decide (0 ≤ n) = true) (h4 : decide (n ≤ 999) = false) (h10 : LoopAt cfg kk 28 Go.Proofs.Try.f28 4 (hd28 ps 1 0 false 0) (X.exit 0) (Nm [5, 6, 7] [D.dat (I z), D.dat (I dd), D.dat (B r)] [none, none, none] [] [])) : runFn cfg kk (den cfg kk) 28 Go.Proofs.Try.f28 [.dat (T k n ps)] [] [] = some ([D.dat (I z), D.dat (I (w64 (dd + 1))), D.dat (B r)], [], []) :=
  hrun_ok [(200016, .yes), (200021, .no), (300004, .loop (hd28 ps 1 0 false 0) (.exit 0) (Nm [5, 6, 7] [.dat (I z), .dat (I dd), .dat (B r)] [none, none, none] [] []))] (ob h1 (ob (rfl : true = true) (ob (rfl : true = true) (ob h4 (ob (rfl : false = false) (ob (rfl : false = false) (ob (rfl : false = false) (ob (rfl : false = false) (ob (rfl : _ = hd28 ps 1 0 false 0) (ob h10 ob0)))))))))) (by kernel_rfl)
theorem measure_v (kk : Nat) (k n : Int) (ps : List Dat) (z dd : Int) (r : Bool) (h1 : decide (0 ≤ n) = true) (h4 : decide (n ≤ 999) = true) (h8 : decide (k = 1) = true) (h13 : LoopAt cfg kk 28 Go.Proofs.Try.f28 4 (hd28 ps 1 0 true 0) (X.exit 0) (Nm [5, 6, 7] [D.dat (I z), D.dat (I dd), D.dat (B r)] [none, none, none] [] [])) : runFn cfg kk (den cfg kk) 28 Go.Proofs.Try.f28 [.dat (T k n ps)] [] [] = some ([D.dat (I z), D.dat (I (w64 (dd + 1))), D.dat (B r)], [], []) :=
  hrun_ok [(200016, .yes), (200021, .yes), (200025, .yes), (300004, .loop (hd28 ps 1 0 true 0) (.exit 0) (Nm [5, 6, 7] [.dat (I z), .dat (I dd), .dat (B r)] [none, none, none] [] []))] (ob h1 (ob (rfl : true = true) (ob (rfl : true = true) (ob h4 (ob (rfl : true = true) (ob (rfl : true = true) (ob (rfl : true = true) (ob h8 (ob (rfl : true = true) (ob (rfl : true = true) (ob (rfl : true = true) (ob (rfl : _ = hd28 ps 1 0 true 0) (ob h13 ob0))))))))))))) (by kernel_rfl)
theorem measure_o (kk : Nat) (k n : Int) (ps : List Dat) (z dd : Int) (r : Bool) (h1 : decide (0 ≤ n) = true) (h4 : decide (n ≤ 999) = true) (h8 : decide (k = 1) = false) (h13 : LoopAt cfg kk 28 Go.Proofs.Try.f28 4 (hd28 ps 1 0 (decide (n = 0)) 0) (X.exit 0) (Nm [5, 6, 7] [D.dat (I z), D.dat (I dd), D.dat (B r)] [none, none, none] [] [])) : runFn cfg kk (den cfg kk) 28 Go.Proofs.Try.f28 [.dat (T k n ps)] [] [] = some ([D.dat (I z), D.dat (I (w64 (dd + 1))), D.dat (B r)], [], []) :=
  hrun_ok [(200016, .yes), (200021, .yes), (200025, .no), (300004, .loop (hd28 ps 1 0 (decide (n = 0)) 0) (.exit 0) (Nm [5, 6, 7] [.dat (I z), .dat (I dd), .dat (B r)] [none, none, none] [] []))] (ob h1 (ob (rfl : true = true) (ob (rfl : true = true) (ob h4 (ob (rfl : true = true) (ob (rfl : true = true) (ob (rfl : true = true) (ob h8 (ob (rfl : false = false) (ob (rfl : false = false) (ob (rfl : true = true) (ob (rfl : _ = hd28 ps 1 0 (decide (n = 0)) 0) (ob h13 ob0))))))))))))) (by kernel_rfl)
theorem isGood_bad (kk : Nat) (k n z d : Int) (ds : List Dat) (h1 : den cfg kk 28 [D.dat (T k n ds)] [] [] = some ([D.dat (I z), D.dat (I d), D.dat (B false)], [], [])) : runFn cfg kk (den cfg kk) 25 Go.Proofs.Try.f25 [.dat (T k n ds)] [] [] = some ([D.dat (B false)], [], []) :=
  hrun_ok [(8, .ret [.dat (I z), .dat (I d), .dat (B false)]), (200013, .no), (200017, .no)] (ob h1 (ob (rfl : false = false) (ob (rfl : false = false) (ob (rfl : false = false) (ob (rfl : false = false) ob0))))) (by kernel_rfl)
theorem isGood_big (kk : Nat) (k n z d : Int) (ds : List Dat) (h1 : den cfg kk 28 [D.dat (T k n ds)] [] [] = some ([D.dat (I z), D.dat (I d), D.dat (B true)], [], [])) (h4 : decide (z ≤ 200) = false) : runFn cfg kk (den cfg kk) 25 Go.Proofs.Try.f25 [.dat (T k n ds)] [] [] = some ([D.dat (B false)], [], []) :=
  hrun_ok [(8, .ret [.dat (I z), .dat (I d), .dat (B true)]), (200013, .yes), (200017, .no)] (ob h1 (ob (rfl : true = true) (ob (rfl : true = true) (ob h4 (ob (rfl : false = false) ob0))))) (by kernel_rfl)
theorem isGood_go (kk : Nat) (k n z d : Int) (ds : List Dat) (h1 : den cfg kk 28 [D.dat (T k n ds)] [] [] = some ([D.dat (I z), D.dat (I d), D.dat (B true)], [], [])) (h4 : decide (z ≤ 200) = true) : runFn cfg kk (den cfg kk) 25 Go.Proofs.Try.f25 [.dat (T k n ds)] [] [] = some ([D.dat (B (decide (d ≤ 60)))], [], []) :=
  hrun_ok [(8, .ret [.dat (I z), .dat (I d), .dat (B true)]), (200013, .yes), (200017, .yes)] (ob h1 (ob (rfl : true = true) (ob (rfl : true = true) (ob h4 (ob (rfl : true = true) ob0))))) (by kernel_rfl)
def hd97 (out ps : List Dat) (at_ i : Int) : St := Nm [3, 6, 21, 22, 23] [.ptr (.up 0) 0, .dat (I at_), .dat (.lst false ps), .dat (I ps.length), .dat (I i)] [none, none, none, none, none] [[.fn 27 [.up 1, .up 0]], [.own 40 (out)]] []
theorem nodes1_go (kk m : Nat) {s : St} {K : X → St → Prop} (out out' ps : List Dat) (at_ i kx nx : Int) (dx : List Dat) (hs : s.norm ((envOf cfg kk 27 Go.Proofs.Try.f27).live (firstRegion (lp Go.Proofs.Try.f27 4))) = hd97 out ps at_ i) (h1 : decide (i < (ps.length : Int)) = true) (h2 : (0 ≤ i ∧ i < (ps.length : Int)) ∧ ps[i.toNat]? = some (T kx nx dx)) (h3 : den cfg kk 27 [D.dat (T kx nx dx), D.dat (I at_), D.ptr (Ref.up 1) 0, D.ptr (Ref.up 0) 0] [[D.fn 27 [Ref.up 1, Ref.up 0]], [D.own 40 out]] [] = some ([], [[D.fn 27 [Ref.up 1, Ref.up 0]], [D.own 40 out']], [])) (hn : ∀ s : St, s.norm ((envOf cfg kk 27 Go.Proofs.Try.f27).live (firstRegion (lp Go.Proofs.Try.f27 4))) = Nm [3, 6, 21, 22, 23] [D.ptr (Ref.up 0) 0, D.dat (I at_), D.dat (Dat.lst false ps), D.dat (I (ps.length : Int)), D.dat (I (w64 (i + 1)))] [none, none, none, none, none] [[D.fn 27 [Ref.up 1, Ref.up 0]], [D.own 40 out']] [] → Rounds (envOf cfg kk 27 Go.Proofs.Try.f27) kk (lp Go.Proofs.Try.f27 4) m s K) : Rounds (envOf cfg kk 27 Go.Proofs.Try.f27) kk (lp Go.Proofs.Try.f27 4) (m + 1) s K :=
  rounds_go [(200024, .yes), (25, .at (T kx nx dx)), (30, .back [] [[.fn 27 [.up 1, .up 0]], [.own 40 (out')]] [])] hs (by kernel_rfl) (ob h1 (ob h2 (ob h3 (ob (rfl : false = false) ob0)))) (by kernel_rfl) hn
theorem nodes1_end (kk m : Nat) {s : St} {K : X → St → Prop} (out ps : List Dat) (at_ i : Int) (hs : s.norm ((envOf cfg kk 27 Go.Proofs.Try.f27).live (firstRegion (lp Go.Proofs.Try.f27 4))) = hd97 out ps at_ i) (h1 : decide (i < (ps.length : Int)) = false) (hK : K (X.exit 0) (Nm [] [] [] [[D.fn 27 [Ref.up 1, Ref.up 0]], [D.own 40 out]] [])) : Rounds (envOf cfg kk 27 Go.Proofs.Try.f27) kk (lp Go.Proofs.Try.f27 4) (m + 1) s K :=
  rounds_end [(200024, .no)] hs (by kernel_rfl) rfl (ob h1 ob0) (by kernel_rfl) hK
theorem nodes1 (kk : Nat) (k n up : Int) (ps out out' : List Dat) (h1 : out.length + 1 ≤ 2147483648) (h3 : LoopAt cfg kk 27 Go.Proofs.Try.f27 4 (hd97 (out ++ [N3 k n up]) ps ((out.length : Int)) 0) (X.exit 0) (Nm [] [] [] [[D.fn 27 [Ref.up 1, Ref.up 0]], [D.own 40 out']] [])) : runFn cfg kk (den cfg kk) 27 Go.Proofs.Try.f27 [.dat (T k n ps), .dat (I up), .ptr (.up 1) 0, .ptr (.up 0) 0] [[.fn 27 [.up 1, .up 0]], [.own 40 (out)]] [] = some ([], [[D.fn 27 [Ref.up 1, Ref.up 0]], [D.own 40 out']], []) :=
  hrun_ok [(19, .ok), (300004, .loop (hd97 (out ++ [N3 k n up]) ps out.length 0) (.exit 0) (Nm [] [] [] [[.fn 27 [.up 1, .up 0]], [.own 40 (out')]] []))] (ob (obT h1) (ob (rfl : _ = hd97 (out ++ [N3 k n up]) ps ((out.length : Int)) 0) (ob h3 ob0))) (by kernel_rfl)
theorem goodNodes_no (kk : Nat) (k n : Int) (ps : List Dat) (h1 : den cfg kk 25 [D.dat (T k n ps)] [] [] = some ([D.dat (B false)], [], [])) : runFn cfg kk (den cfg kk) 19 Go.Proofs.Try.f19 [.dat (T k n ps)] [] [] = some ([D.own 40 [], D.dat (B false)], [], []) :=
  hrun_ok [(7, .ret [.dat (B false)])] (ob h1 ob0) (by kernel_rfl)
theorem goodNodes_yes (kk : Nat) (k n : Int) (ps out : List Dat) (h1 : den cfg kk 25 [D.dat (T k n ps)] [] [] = some ([D.dat (B true)], [], [])) (h2 : den cfg kk 27 [D.dat (T k n ps), D.dat (I (-1)), D.ptr (Ref.up 1) 0, D.ptr (Ref.up 0) 0] [[D.fn 27 [Ref.up 1, Ref.up 0]], [D.own 40 []]] [] = some ([], [[D.fn 27 [Ref.up 1, Ref.up 0]], [D.own 40 out]], [])) : runFn cfg kk (den cfg kk) 19 Go.Proofs.Try.f19 [.dat (T k n ps)] [] [] = some ([D.own 40 out, D.dat (B true)], [], []) :=
  hrun_ok [(7, .ret [.dat (B true)]), (13, .back [] [[.fn 27 [.up 1, .up 0]], [.own 40 (out)]] [])] (ob h1 (ob h2 (ob (rfl : false = false) ob0))) (by kernel_rfl)
theorem put_hit (kk : Nat) (n x ks ns : Int) (ps ds : List Dat) (h5 : decide (n = x) = true) : runFn cfg kk (den cfg kk) 18 Go.Proofs.Try.f18 [.dat (T 1 n ps), .dat (I x), .dat (T ks ns ds)] [] [] = some ([D.dat (T ks ns ds)], [], []) :=
  hrun_ok [(200011, .yes), (200007, .yes)] (ob (rfl : true = true) (ob (rfl : true = true) (ob (rfl : true = true) (ob (rfl : true = true) (ob h5 ob0))))) (by kernel_rfl)
theorem put_v (kk : Nat) (n x ks ns : Int) (ps ds : List Dat) (h5 : decide (n = x) = false) : runFn cfg kk (den cfg kk) 18 Go.Proofs.Try.f18 [.dat (T 1 n ps), .dat (I x), .dat (T ks ns ds)] [] [] = some ([D.dat (T 1 n ps)], [], []) :=
  hrun_ok [(200011, .yes), (200007, .no), (200018, .yes)] (ob (rfl : true = true) (ob (rfl : true = true) (ob (rfl : true = true) (ob (rfl : true = true) (ob h5 (ob (rfl : true = true) ob0)))))) (by kernel_rfl)
theorem put_leaf (kk : Nat) (n x ks ns : Int) (ps ds : List Dat) (k : Int) (h1 : decide (k = 1) = false) (h6 : (!decide (k = 2)) = true) : runFn cfg kk (den cfg kk) 18 Go.Proofs.Try.f18 [.dat (T k n ps), .dat (I x), .dat (T ks ns ds)] [] [] = some ([D.dat (T k n ps)], [], []) :=
  hrun_ok [(200011, .no), (200007, .no), (200018, .yes)] (ob h1 (ob (rfl : false = false) (ob (rfl : false = false) (ob (rfl : false = false) (ob (rfl : false = false) (ob h6 ob0)))))) (by kernel_rfl)
theorem put_app (kk : Nat) (n x ks ns : Int) (ps ds : List Dat) (ka na kb nb kc nc kd nd ke ne : Int) (da db dc dd de : List Dat) (h7 : ((0 : Int) ≤ 0 ∧ 0 < ((T ka na da :: T kb nb db :: ps).length : Int)) ∧ some (T ka na da) = some (T ka na da)) (h8 : ((0 : Int) ≤ 1 ∧ 1 < ((T ka na da :: T kb nb db :: ps).length : Int)) ∧ some (T kb nb db) = some (T kb nb db)) (h9 : den cfg kk 18 [D.dat (T ka na da), D.dat (I x), D.dat (T ks ns ds)] [] [] = some ([D.dat (T kc nc dc)], [], [])) (h10 : den cfg kk 18 [D.dat (T kb nb db), D.dat (I x), D.dat (T ks ns ds)] [] [] = some ([D.dat (T kd nd dd)], [], [])) (h11 : den cfg kk 26 [D.dat (T kc nc dc), D.dat (T kd nd dd)] [] [] = some ([D.dat (T ke ne de)], [], [])) : runFn cfg kk (den cfg kk) 18 Go.Proofs.Try.f18 [.dat (T 2 n (T ka na da :: T kb nb db :: ps)), .dat (I x), .dat (T ks ns ds)] [] [] = some ([D.dat (T ke ne de)], [], []) :=
  hrun_ok [(200011, .no), (200007, .no), (200018, .no), (25, .at (T ka na da)), (32, .at (T kb nb db)), (29, .ret [.dat (T kc nc dc)]), (36, .ret [.dat (T kd nd dd)]), (37, .ret [.dat (T ke ne de)])] (ob (rfl : false = false) (ob (rfl : false = false) (ob (rfl : false = false) (ob (rfl : false = false) (ob (rfl : false = false) (ob (rfl : false = false) (ob h7 (ob h8 (ob h9 (ob h10 (ob h11 ob0))))))))))) (by kernel_rfl)
theorem iPut_no1 (kk : Nat) (b1 b2 r2 : Bool) (xs ys : List Dat) (k ka na kb nb : Int) (da db : List Dat) (h1 : den cfg kk 17 [D.dat (Dat.lst b1 xs)] [] [] = some ([D.dat (T ka na da), D.dat (B false)], [], [])) (h2 : den cfg kk 17 [D.dat (Dat.lst b2 ys)] [] [] = some ([D.dat (T kb nb db), D.dat (B r2)], [], [])) : runFn cfg kk (den cfg kk) 7 Go.Proofs.Try.f7 [.dat (Dat.lst b1 xs), .dat (I k), .dat (Dat.lst b2 ys)] [] [] = some ([D.own 40 [], D.dat (B false)], [], []) :=
  hrun_ok [(14, .ret [.dat (T ka na da), .dat (B false)]), (19, .ret [.dat (T kb nb db), .dat (B r2)]), (200024, .yes), (200028, .yes), (200032, .yes), (200035, .yes)] (ob h1 (ob h2 (ob (rfl : true = true) (ob (rfl : true = true) (ob (rfl : true = true) (ob (rfl : true = true) (ob (rfl : true = true) (ob (rfl : true = true) (ob (rfl : true = true) ob0))))))))) (by kernel_rfl)
theorem iPut_no2 (kk : Nat) (b1 b2 : Bool) (xs ys : List Dat) (k ka na kb nb : Int) (da db : List Dat) (h1 : den cfg kk 17 [D.dat (Dat.lst b1 xs)] [] [] = some ([D.dat (T ka na da), D.dat (B true)], [], [])) (h2 : den cfg kk 17 [D.dat (Dat.lst b2 ys)] [] [] = some ([D.dat (T kb nb db), D.dat (B false)], [], [])) : runFn cfg kk (den cfg kk) 7 Go.Proofs.Try.f7 [.dat (Dat.lst b1 xs), .dat (I k), .dat (Dat.lst b2 ys)] [] [] = some ([D.own 40 [], D.dat (B false)], [], []) :=
  hrun_ok [(14, .ret [.dat (T ka na da), .dat (B true)]), (19, .ret [.dat (T kb nb db), .dat (B false)]), (200024, .no), (200028, .yes), (200032, .yes), (200035, .yes)] (ob h1 (ob h2 (ob (rfl : false = false) (ob (rfl : false = false) (ob (rfl : true = true) (ob (rfl : true = true) (ob (rfl : true = true) (ob (rfl : true = true) (ob (rfl : true = true) ob0))))))))) (by kernel_rfl)
theorem iPut_neg (kk : Nat) (b1 b2 : Bool) (xs ys : List Dat) (k ka na kb nb : Int) (da db : List Dat) (h1 : den cfg kk 17 [D.dat (Dat.lst b1 xs)] [] [] = some ([D.dat (T ka na da), D.dat (B true)], [], [])) (h2 : den cfg kk 17 [D.dat (Dat.lst b2 ys)] [] [] = some ([D.dat (T kb nb db), D.dat (B true)], [], [])) (h7 : decide (k < 0) = true) : runFn cfg kk (den cfg kk) 7 Go.Proofs.Try.f7 [.dat (Dat.lst b1 xs), .dat (I k), .dat (Dat.lst b2 ys)] [] [] = some ([D.own 40 [], D.dat (B false)], [], []) :=
  hrun_ok [(14, .ret [.dat (T ka na da), .dat (B true)]), (19, .ret [.dat (T kb nb db), .dat (B true)]), (200024, .no), (200028, .no), (200032, .yes), (200035, .yes)] (ob h1 (ob h2 (ob (rfl : false = false) (ob (rfl : false = false) (ob (rfl : false = false) (ob (rfl : false = false) (ob h7 (ob (rfl : true = true) (ob (rfl : true = true) ob0))))))))) (by kernel_rfl)
theorem iPut_big (kk : Nat) (b1 b2 : Bool) (xs ys : List Dat) (k ka na kb nb : Int) (da db : List Dat) (h1 : den cfg kk 17 [D.dat (Dat.lst b1 xs)] [] [] = some ([D.dat (T ka na da), D.dat (B true)], [], [])) (h2 : den cfg kk 17 [D.dat (Dat.lst b2 ys)] [] [] = some ([D.dat (T kb nb db), D.dat (B true)], [], [])) (h7 : decide (k < 0) = false) (h9 : decide (999 < k) = true) : runFn cfg kk (den cfg kk) 7 Go.Proofs.Try.f7 [.dat (Dat.lst b1 xs), .dat (I k), .dat (Dat.lst b2 ys)] [] [] = some ([D.own 40 [], D.dat (B false)], [], []) :=
  hrun_ok [(14, .ret [.dat (T ka na da), .dat (B true)]), (19, .ret [.dat (T kb nb db), .dat (B true)]), (200024, .no), (200028, .no), (200032, .no), (200035, .yes)] (ob h1 (ob h2 (ob (rfl : false = false) (ob (rfl : false = false) (ob (rfl : false = false) (ob (rfl : false = false) (ob h7 (ob (rfl : false = false) (ob h9 ob0))))))))) (by kernel_rfl)
theorem iPut_go (kk : Nat) (b1 b2 r : Bool) (xs ys out : List Dat) (k ka na kb nb kc nc : Int) (da db dc : List Dat) (h1 : den cfg kk 17 [D.dat (Dat.lst b1 xs)] [] [] = some ([D.dat (T ka na da), D.dat (B true)], [], [])) (h2 : den cfg kk 17 [D.dat (Dat.lst b2 ys)] [] [] = some ([D.dat (T kb nb db), D.dat (B true)], [], [])) (h7 : decide (k < 0) = false) (h9 : decide (999 < k) = false) (h10 : den cfg kk 18 [D.dat (T ka na da), D.dat (I k), D.dat (T kb nb db)] [] [] = some ([D.dat (T kc nc dc)], [], [])) (h11 : den cfg kk 19 [D.dat (T kc nc dc)] [] [] = some ([D.own 40 out, D.dat (B r)], [], [])) : runFn cfg kk (den cfg kk) 7 Go.Proofs.Try.f7 [.dat (Dat.lst b1 xs), .dat (I k), .dat (Dat.lst b2 ys)] [] [] = some ([D.own 40 out, D.dat (B r)], [], []) :=
  hrun_ok [(14, .ret [.dat (T ka na da), .dat (B true)]), (19, .ret [.dat (T kb nb db), .dat (B true)]), (200024, .no), (200028, .no), (200032, .no), (200035, .no), (39, .ret [.dat (T kc nc dc)]), (40, .ret [.own 40 out, .dat (B r)])] (ob h1 (ob h2 (ob (rfl : false = false) (ob (rfl : false = false) (ob (rfl : false = false) (ob (rfl : false = false) (ob h7 (ob (rfl : false = false) (ob h9 (ob h10 (ob h11 ob0))))))))))) (by kernel_rfl)
theorem putC_true (kk : Nat) (v1 : Int) (as_ : List Dat) (bs_ : List Dat) (l1 : Int) (l2 : Int) (xs : List Dat) (ys : List Dat) (ws : List Dat) (xs' : List Dat) (k1 : Int) (ys' : List Dat) (k2 : Int) (ws' : List Dat) (k3 : Int) (q1 : Int) (q2 : Int) (h1 : den cfg kk 4 [D.dat (Dat.lst false as_), D.dat (I 1048576)] [] [] = some ([D.dat (I l1)], [], [])) (h2 : decide (l1 < 0) = false) (h3 : den cfg kk 4 [D.dat (Dat.lst false bs_), D.dat (I l1)] [] [] = some ([D.dat (I l2)], [], [])) (h4 : decide (l2 < 0) = false) (h5 : den cfg kk 6 [D.dat (Dat.lst false as_)] [] [] = some ([D.own 40 xs], [], [])) (h6 : den cfg kk 6 [D.dat (Dat.lst false bs_)] [] [] = some ([D.own 40 ys], [], [])) (h7 : D.cleans [D.own 40 ws, D.dat (B true)] = true) (h8 : den cfg kk 5 [D.dat (Dat.lst true xs), D.dat (I v1), D.dat (Dat.lst true ys)] [] [] = some ([D.own 40 ws, D.dat (B true)], [], [])) (h9 : den cfg kk 6 [D.dat (Dat.lst false as_)] [] [] = some ([D.own 40 xs], [], [])) (h10 : den cfg kk 6 [D.dat (Dat.lst false bs_)] [] [] = some ([D.own 40 ys], [], [])) (h11 : D.cleans [D.own 40 ws, D.dat (B true)] = true) (h12 : den cfg kk 7 [D.dat (Dat.lst true xs), D.dat (I v1), D.dat (Dat.lst true ys)] [] [] = some ([D.own 40 ws, D.dat (B true)], [], [])) (h14 : den cfg kk 8 [D.dat (Dat.lst true ws), D.dat (Dat.lst true ws)] [] [] = some ([D.dat (B true)], [], [])) (h19 : den cfg kk 6 [D.dat (Dat.lst false as_)] [] [] = some ([D.own 40 xs], [], [])) (h21 : den cfg kk 8 [D.dat (Dat.lst true xs), D.dat (Dat.lst true xs)] [] [] = some ([D.dat (B true)], [], [])) (h23 : den cfg kk 6 [D.dat (Dat.lst false bs_)] [] [] = some ([D.own 40 ys], [], [])) (h25 : den cfg kk 8 [D.dat (Dat.lst true ys), D.dat (Dat.lst true ys)] [] [] = some ([D.dat (B true)], [], [])) (h27 : den cfg kk 9 [D.bor (Pl.lent 0) none, D.dat (I 1)] [] [some (40, xs)] = some ([D.dat (I k1)], [], [some (40, xs')])) (h29 : den cfg kk 9 [D.bor (Pl.lent 0) none, D.dat (I k1)] [] [some (40, ys)] = some ([D.dat (I k2)], [], [some (40, ys')])) (h31 : decide (k2 < 0) = false) (h35 : den cfg kk 8 [D.dat (Dat.lst true ws), D.dat (Dat.lst true ws)] [] [] = some ([D.dat (B true)], [], [])) (h41 : den cfg kk 9 [D.bor (Pl.lent 0) none, D.dat (I 1)] [] [some (40, ws)] = some ([D.dat (I k3)], [], [some (40, ws')])) (h44 : den cfg kk 10 [D.dat (Dat.lst true ws'), D.dat (I 1)] [] [] = some ([D.dat (I q1)], [], [])) (h45 : decide (q1 < 0) = false) (h46 : (!decide (q1 = k3)) = false) (h47 : den cfg kk 6 [D.dat (Dat.lst false as_)] [] [] = some ([D.own 40 xs], [], [])) (h48 : den cfg kk 6 [D.dat (Dat.lst false bs_)] [] [] = some ([D.own 40 ys], [], [])) (h49 : D.cleans [D.own 40 ws, D.dat (B true)] = true) (h50 : den cfg kk 7 [D.dat (Dat.lst true xs), D.dat (I v1), D.dat (Dat.lst true ys)] [] [] = some ([D.own 40 ws, D.dat (B true)], [], [])) (h52 : den cfg kk 8 [D.dat (Dat.lst true ws), D.dat (Dat.lst true ws)] [] [] = some ([D.dat (B true)], [], [])) (h58 : den cfg kk 10 [D.dat (Dat.lst true ws'), D.dat (I 1)] [] [] = some ([D.dat (I q2)], [], [])) (h59 : decide (q2 < 0) = false) (h60 : (!decide (q2 = k3)) = false) : runFn cfg kk (den cfg kk) 3 Go.Proofs.Try.f3 [.dat (Dat.lst false as_), .dat (I v1), .dat (Dat.lst false bs_)] [] [] = some ([D.dat (B true)], [], []) :=
  hrun_ok [(21, .ret [.dat (I l1)]), (200023, .no), (26, .ret [.dat (I l2)]), (200028, .no), (31, .ret [.own 40 xs]), (34, .ret [.own 40 ys]), (35, .ret [.own 40 ws, .dat (B true)]), (39, .ret [.own 40 xs]), (41, .ret [.own 40 ys]), (46, .ret [.own 40 ws, .dat (B true)]), (51, .ret [.dat (B true)]), (200053, .no), (200057, .no), (60, .ret [.own 40 xs]), (61, .ret [.dat (B true)]), (200062, .no), (65, .ret [.own 40 ys]), (66, .ret [.dat (B true)]), (200067, .no), (70, .back [.dat (I k1)] [] [some (40, xs')]), (73, .back [.dat (I k2)] [] [some (40, ys')]), (200076, .no), (79, .ret [.dat (B true)]), (200082, .no), (200086, .no), (89, .back [.dat (I k3)] [] [some (40, ws')]), (92, .ret [.dat (I q1)]), (200094, .no), (200097, .no), (100, .ret [.own 40 xs]), (103, .ret [.own 40 ys]), (104, .ret [.own 40 ws, .dat (B true)]), (109, .ret [.dat (B true)]), (200111, .no), (200115, .no), (118, .ret [.dat (I q2)]), (200120, .no), (200123, .no)] (ob h1 (ob h2 (ob h3 (ob h4 (ob h5 (ob h6 (ob h7 (ob h8 (ob h9 (ob h10 (ob h11 (ob h12 (ob (rfl : true = true) (ob h14 (ob (rfl : false = false) (ob (rfl : false = false) (ob (rfl : false = false) (ob (rfl : false = false) (ob h19 (ob (rfl : true = true) (ob h21 (ob (rfl : false = false) (ob h23 (ob (rfl : true = true) (ob h25 (ob (rfl : false = false) (ob h27 (ob (rfl : false = false) (ob h29 (ob (rfl : false = false) (ob h31 (ob (rfl : false = false) (ob (rfl : false = false) (ob (rfl : true = true) (ob h35 (ob (rfl : false = false) (ob (rfl : false = false) (ob (rfl : false = false) (ob (rfl : false = false) (ob (rfl : false = false) (ob h41 (ob (rfl : false = false) (ob (rfl : true = true) (ob h44 (ob h45 (ob h46 (ob h47 (ob h48 (ob h49 (ob h50 (ob (rfl : true = true) (ob h52 (ob (rfl : false = false) (ob (rfl : false = false) (ob (rfl : false = false) (ob (rfl : false = false) (ob (rfl : true = true) (ob h58 (ob h59 (ob h60 ob0)))))))))))))))))))))))))))))))))))))))))))))))))))))))))))) (by kernel_rfl)
theorem putC_false (kk : Nat) (v1 : Int) (as_ : List Dat) (bs_ : List Dat) (l1 : Int) (l2 : Int) (xs : List Dat) (ys : List Dat) (ws : List Dat) (xs' : List Dat) (k1 : Int) (ys' : List Dat) (k2 : Int) (ws' : List Dat) (k3 : Int) (q1 : Int) (q2 : Int) (h1 : den cfg kk 4 [D.dat (Dat.lst false as_), D.dat (I 1048576)] [] [] = some ([D.dat (I l1)], [], [])) (h2 : decide (l1 < 0) = false) (h3 : den cfg kk 4 [D.dat (Dat.lst false bs_), D.dat (I l1)] [] [] = some ([D.dat (I l2)], [], [])) (h4 : decide (l2 < 0) = false) (h5 : den cfg kk 6 [D.dat (Dat.lst false as_)] [] [] = some ([D.own 40 xs], [], [])) (h6 : den cfg kk 6 [D.dat (Dat.lst false bs_)] [] [] = some ([D.own 40 ys], [], [])) (h7 : D.cleans [D.own 40 ws, D.dat (B false)] = true) (h8 : den cfg kk 5 [D.dat (Dat.lst true xs), D.dat (I v1), D.dat (Dat.lst true ys)] [] [] = some ([D.own 40 ws, D.dat (B false)], [], [])) (h9 : den cfg kk 6 [D.dat (Dat.lst false as_)] [] [] = some ([D.own 40 xs], [], [])) (h10 : den cfg kk 6 [D.dat (Dat.lst false bs_)] [] [] = some ([D.own 40 ys], [], [])) (h11 : D.cleans [D.own 40 ws, D.dat (B false)] = true) (h12 : den cfg kk 7 [D.dat (Dat.lst true xs), D.dat (I v1), D.dat (Dat.lst true ys)] [] [] = some ([D.own 40 ws, D.dat (B false)], [], [])) (h14 : den cfg kk 8 [D.dat (Dat.lst true ws), D.dat (Dat.lst true ws)] [] [] = some ([D.dat (B true)], [], [])) (h19 : den cfg kk 6 [D.dat (Dat.lst false as_)] [] [] = some ([D.own 40 xs], [], [])) (h21 : den cfg kk 8 [D.dat (Dat.lst true xs), D.dat (Dat.lst true xs)] [] [] = some ([D.dat (B true)], [], [])) (h23 : den cfg kk 6 [D.dat (Dat.lst false bs_)] [] [] = some ([D.own 40 ys], [], [])) (h25 : den cfg kk 8 [D.dat (Dat.lst true ys), D.dat (Dat.lst true ys)] [] [] = some ([D.dat (B true)], [], [])) (h27 : den cfg kk 9 [D.bor (Pl.lent 0) none, D.dat (I 1)] [] [some (40, xs)] = some ([D.dat (I k1)], [], [some (40, xs')])) (h29 : den cfg kk 9 [D.bor (Pl.lent 0) none, D.dat (I k1)] [] [some (40, ys)] = some ([D.dat (I k2)], [], [some (40, ys')])) (h31 : decide (k2 < 0) = false) (h35 : den cfg kk 8 [D.dat (Dat.lst true ws), D.dat (Dat.lst true ws)] [] [] = some ([D.dat (B true)], [], [])) (h41 : den cfg kk 9 [D.bor (Pl.lent 0) none, D.dat (I 1)] [] [some (40, ws)] = some ([D.dat (I k3)], [], [some (40, ws')])) (h44 : den cfg kk 10 [D.dat (Dat.lst true ws'), D.dat (I 1)] [] [] = some ([D.dat (I q1)], [], [])) (h45 : decide (q1 < 0) = false) (h46 : (!decide (q1 = k3)) = false) (h47 : den cfg kk 6 [D.dat (Dat.lst false as_)] [] [] = some ([D.own 40 xs], [], [])) (h48 : den cfg kk 6 [D.dat (Dat.lst false bs_)] [] [] = some ([D.own 40 ys], [], [])) (h49 : D.cleans [D.own 40 ws, D.dat (B false)] = true) (h50 : den cfg kk 7 [D.dat (Dat.lst true xs), D.dat (I v1), D.dat (Dat.lst true ys)] [] [] = some ([D.own 40 ws, D.dat (B false)], [], [])) (h52 : den cfg kk 8 [D.dat (Dat.lst true ws), D.dat (Dat.lst true ws)] [] [] = some ([D.dat (B true)], [], [])) (h58 : den cfg kk 10 [D.dat (Dat.lst true ws'), D.dat (I 1)] [] [] = some ([D.dat (I q2)], [], [])) (h59 : decide (q2 < 0) = false) (h60 : (!decide (q2 = k3)) = false) : runFn cfg kk (den cfg kk) 3 Go.Proofs.Try.f3 [.dat (Dat.lst false as_), .dat (I v1), .dat (Dat.lst false bs_)] [] [] = some ([D.dat (B true)], [], []) :=
  hrun_ok [(21, .ret [.dat (I l1)]), (200023, .no), (26, .ret [.dat (I l2)]), (200028, .no), (31, .ret [.own 40 xs]), (34, .ret [.own 40 ys]), (35, .ret [.own 40 ws, .dat (B false)]), (39, .ret [.own 40 xs]), (41, .ret [.own 40 ys]), (46, .ret [.own 40 ws, .dat (B false)]), (51, .ret [.dat (B true)]), (200053, .no), (200057, .no), (60, .ret [.own 40 xs]), (61, .ret [.dat (B true)]), (200062, .no), (65, .ret [.own 40 ys]), (66, .ret [.dat (B true)]), (200067, .no), (70, .back [.dat (I k1)] [] [some (40, xs')]), (73, .back [.dat (I k2)] [] [some (40, ys')]), (200076, .no), (79, .ret [.dat (B true)]), (200082, .no), (200086, .no), (89, .back [.dat (I k3)] [] [some (40, ws')]), (92, .ret [.dat (I q1)]), (200094, .no), (200097, .no), (100, .ret [.own 40 xs]), (103, .ret [.own 40 ys]), (104, .ret [.own 40 ws, .dat (B false)]), (109, .ret [.dat (B true)]), (200111, .no), (200115, .no), (118, .ret [.dat (I q2)]), (200120, .no), (200123, .no)] (ob h1 (ob h2 (ob h3 (ob h4 (ob h5 (ob h6 (ob h7 (ob h8 (ob h9 (ob h10 (ob h11 (ob h12 (ob (rfl : true = true) (ob h14 (ob (rfl : false = false) (ob (rfl : false = false) (ob (rfl : false = false) (ob (rfl : false = false) (ob h19 (ob (rfl : true = true) (ob h21 (ob (rfl : false = false) (ob h23 (ob (rfl : true = true) (ob h25 (ob (rfl : false = false) (ob h27 (ob (rfl : false = false) (ob h29 (ob (rfl : false = false) (ob h31 (ob (rfl : false = false) (ob (rfl : false = false) (ob (rfl : true = true) (ob h35 (ob (rfl : false = false) (ob (rfl : false = false) (ob (rfl : false = false) (ob (rfl : false = false) (ob (rfl : false = false) (ob h41 (ob (rfl : false = false) (ob (rfl : true = true) (ob h44 (ob h45 (ob h46 (ob h47 (ob h48 (ob h49 (ob h50 (ob (rfl : true = true) (ob h52 (ob (rfl : false = false) (ob (rfl : false = false) (ob (rfl : false = false) (ob (rfl : false = false) (ob (rfl : true = true) (ob h58 (ob h59 (ob h60 ob0)))))))))))))))))))))))))))))))))))))))))))))))))))))))))))) (by kernel_rfl)
theorem putC_small1 (kk : Nat) (v1 : Int) (as_ : List Dat) (bs_ : List Dat) (l1 : Int) (h1 : den cfg kk 4 [D.dat (Dat.lst false as_), D.dat (I 1048576)] [] [] = some ([D.dat (I l1)], [], [])) (h2 : decide (l1 < 0) = true) : runFn cfg kk (den cfg kk) 3 Go.Proofs.Try.f3 [.dat (Dat.lst false as_), .dat (I v1), .dat (Dat.lst false bs_)] [] [] = some ([D.dat (B true)], [], []) :=
  hrun_ok [(21, .ret [.dat (I l1)]), (200023, .yes)] (ob h1 (ob h2 ob0)) (by kernel_rfl)
theorem putC_small2 (kk : Nat) (v1 : Int) (as_ : List Dat) (bs_ : List Dat) (l1 : Int) (l2 : Int) (h1 : den cfg kk 4 [D.dat (Dat.lst false as_), D.dat (I 1048576)] [] [] = some ([D.dat (I l1)], [], [])) (h2 : decide (l1 < 0) = false) (h3 : den cfg kk 4 [D.dat (Dat.lst false bs_), D.dat (I l1)] [] [] = some ([D.dat (I l2)], [], [])) (h4 : decide (l2 < 0) = true) : runFn cfg kk (den cfg kk) 3 Go.Proofs.Try.f3 [.dat (Dat.lst false as_), .dat (I v1), .dat (Dat.lst false bs_)] [] [] = some ([D.dat (B true)], [], []) :=
  hrun_ok [(21, .ret [.dat (I l1)]), (200023, .no), (26, .ret [.dat (I l2)]), (200028, .yes)] (ob h1 (ob h2 (ob h3 (ob h4 ob0)))) (by kernel_rfl)
end Go.Den
namespace Go.Den
open Go
set_option linter.unusedVariables false
set_option maxRecDepth 100000
theorem assoc_no {α : Type} {f : Nat} : ∀ {l : List (Nat × α)}, memN f (l.map (·.1)) = false → assoc l f = none
  | [], _ => rfl
  | (a, x) :: l, h => by
    simp only [List.map_cons, memN] at h
    unfold assoc
    split at h
    · cases h
    · rename_i hb
      have hab : Nat.beq a f = false := by
        cases hc : Nat.beq a f with
        | false => rfl
        | true =>
          have := Nat.eq_of_beq_eq_true hc
          subst this
          have hr : Nat.beq a a = true := Nat.beq_refl a
          rw [hr] at hb
          cases hb
      rw [hab]
      exact assoc_no h
theorem ext_nums : extsOf.map (·.1) = extNums := by rfl
theorem noExt {f : Nat} {fn : Func} (h : cfg.fn f = some fn) : cfg.ext f = none := by
  unfold cfg at h ⊢
  simp only at h ⊢
  split at h
  · rename_i hb
    simp only [Bool.and_eq_true, Bool.not_eq_true'] at hb
    exact assoc_no (by rw [ext_nums]; exact hb.2)
  · cases h
/-- A call that comes back, with fuel N or more. -/
def EvN (N f : Nat) (args : List D) (u : List (List D)) (l : List (Option Row)) (r : Res) : Prop := ∀ k, N ≤ k → den cfg k f args u l = some r
theorem EvN.mono {N M f : Nat} {args : List D} {u : List (List D)} {l : List (Option Row)} {r : Res} (h : EvN N f args u l r) (hNM : N ≤ M) : EvN M f args u l r := fun k hk => h k (by omega)
theorem ev_fn {f : Nat} (fn : Func) {args : List D} {u : List (List D)} {l : List (Option Row)} {r : Res} (N : Nat) (hf : cfg.fn f = some fn) (hl : Nat.ble args.length fn.ntmps = true) (h : ∀ kk, N ≤ kk → runFn cfg kk (den cfg kk) f fn args u l = some r) : EvN (N + 1) f args u l r := fun k hk => by
  obtain ⟨m, rfl⟩ : ∃ m, k = m + 1 := ⟨k - 1, by omega⟩
  simp only [den, noExt hf, hf, hl]
  exact h m (by omega)
theorem w64_eq {n : Int} (h : -9223372036854775808 ≤ n ∧ n ≤ 9223372036854775807) : w64 n = n := by show IntKind.i64.wrap n = n; rw [IntKind.wrap_i64]; omega
/-- Rounds that count up. -/
theorem range_rounds {E : Env} {kk : Nat} {c : Code} {K : X → St → Prop} (st : Nat → St) (n : Nat)
    (hgo : ∀ i, i < n → ∀ (m : Nat) (s : St), s.norm (E.live (firstRegion c)) = st i → (∀ s : St, s.norm (E.live (firstRegion c)) = st (i + 1) → Rounds E kk c m s K) → Rounds E kk c (m + 1) s K)
    (hend : ∀ (m : Nat) (s : St), s.norm (E.live (firstRegion c)) = st n → Rounds E kk c (m + 1) s K) : ∀ (d i m : Nat), i + d = n → d < m → ∀ s : St, s.norm (E.live (firstRegion c)) = st i → Rounds E kk c m s K
  | 0, i, m, hi, hm, s, hs => by
    obtain ⟨m, rfl⟩ : ∃ k, m = k + 1 := ⟨m - 1, by omega⟩
    have : i = n := by omega
    subst this
    exact hend m s hs
  | d + 1, i, m, hi, hm, s, hs => by
    obtain ⟨m, rfl⟩ : ∃ k, m = k + 1 := ⟨m - 1, by omega⟩
    exact hgo i (by omega) m s hs fun s' hs' => range_rounds st n hgo hend d (i + 1) m (by omega) (by omega) s' hs'
theorem loopAt_range {kk f : Nat} {fn : Func} {r : Nat} {x : X} {s' : St} (st : Nat → St) (n : Nat) (hk : n < kk)
    (hgo : ∀ i, i < n → ∀ (m : Nat) (s : St) (K : X → St → Prop), s.norm ((envOf cfg kk f fn).live (firstRegion (lp fn r))) = st i → (∀ s : St, s.norm ((envOf cfg kk f fn).live (firstRegion (lp fn r))) = st (i + 1) → Rounds (envOf cfg kk f fn) kk (lp fn r) m s K) → Rounds (envOf cfg kk f fn) kk (lp fn r) (m + 1) s K)
    (hend : ∀ (m : Nat) (s : St) (K : X → St → Prop), s.norm ((envOf cfg kk f fn).live (firstRegion (lp fn r))) = st n → K x s' → Rounds (envOf cfg kk f fn) kk (lp fn r) (m + 1) s K) {s0 : St} (h0 : s0 = st 0) : LoopAt cfg kk f fn r s0 x s' :=
  loopOb_of fun s hs => range_rounds st n (fun i hi m s hs hn => hgo i hi m s _ hs hn) (fun m s hs => hend m s _ hs ⟨rfl, rfl⟩) n 0 kk (by omega) hk s (by rw [hs, h0])
structure Nd where
  k : Int
  n : Int
  u : Int
def Nd.d (x : Nd) : Dat := N3 x.k x.n x.u
theorem ev_sz_go (L : List Dat) (left : Int) (b : Bool) (h1 : 0 ≤ left - L.length) (h2 : left ≤ 1048576) : EvN 1 4 [.dat (.lst b L), .dat (I left)] [] [] ([.dat (I (left - L.length))], [], []) := by
  refine ev_fn Go.Proofs.Try.f4 0 (by kernel_rfl) (by kernel_rfl) fun kk _ => ?_
  have hw : w64 (left - L.length) = left - L.length := w64_eq (by omega)
  have := sz_go kk left b L (by rw [hw]; exact decide_eq_false (by omega))
  rw [this, hw]
theorem ev_sz_no (L : List Dat) (left : Int) (b : Bool) (h1 : left - L.length < 0) (h2 : 0 ≤ left) (h3 : L.length ≤ 9223372036854775807) : EvN 1 4 [.dat (.lst b L), .dat (I left)] [] [] ([.dat (I (-1))], [], []) := by
  refine ev_fn Go.Proofs.Try.f4 0 (by kernel_rfl) (by kernel_rfl) fun kk _ => ?_
  have hw : w64 (left - L.length) = left - L.length := w64_eq (by omega)
  exact sz_no kk left b L (by rw [hw]; exact decide_eq_true (by omega))
theorem ev_toTerm (x : Nd) : EvN 1 16 [.dat x.d] [] [] ([.dat x.d], [], []) :=
  ev_fn Go.Proofs.Try.f16 0 (by kernel_rfl) (by kernel_rfl) fun kk _ => toTerm kk x.k x.n x.u
theorem set_mid {α : Type} (a : List α) (z x : α) (i : Nat) (hi : i < a.length) (hx : a[i]? = some x) : (a.take i ++ List.replicate (a.length - i) z).set i x = a.take (i + 1) ++ List.replicate (a.length - (i + 1)) z := by
  have h1 : (a.take i).length = i := by simp; omega
  obtain ⟨m, hm⟩ : ∃ m, a.length - i = m + 1 := ⟨a.length - i - 1, by omega⟩
  rw [hm, show a.length - (i + 1) = m by omega, List.replicate_succ, List.set_append_right _ _ (by omega), h1, Nat.sub_self, List.set_cons_zero, List.take_add_one, hx]
  simp
theorem get_mid {α : Type} (a : List α) (z : α) (i : Nat) (hi : i < a.length) : (a.take i ++ List.replicate (a.length - i) z)[i]? = some z := by
  have h1 : (a.take i).length = i := by simp; omega
  rw [List.getElem?_append_right (by omega), h1, Nat.sub_self, List.getElem?_replicate, if_pos (by omega)]
theorem ev_toTermS (L : List Nd) (h : L.length ≤ 1048576) : EvN 1048580 6 [.dat (.lst false (L.map Nd.d))] [] [] ([.own 40 (L.map Nd.d)], [], []) := by
  refine ev_fn Go.Proofs.Try.f6 1048579 (by kernel_rfl) (by kernel_rfl) fun kk hkk => ?_
  have hlen : (L.map Nd.d).length = L.length := by simp
  generalize hes : L.map Nd.d = es at *
  refine toTermS kk es es ⟨by omega, by omega, by omega⟩ ?_
  refine loopAt_range (fun i => hd17 es (es.take i ++ List.replicate (es.length - i) (N3 0 0 0)) i) es.length (by omega) (fun i hi m s K hs hn => ?_) (fun m s K hs hK => ?_) (by simp)
  · obtain ⟨x, hx⟩ : ∃ x, L[i]? = some x := ⟨_, List.getElem?_eq_getElem (by omega)⟩
    have hxd : es[i]? = some x.d := by rw [← hes, List.getElem?_map, hx]; rfl
    have hto : ((i : Int)).toNat = i := by simp
    refine toTermS_go kk m es _ i x.k x.n x.u 0 0 0 hs (decide_eq_true (by omega)) ⟨⟨by omega, by omega⟩, by rw [hto]; exact hxd⟩ (ev_toTerm x kk (by omega)) ⟨by omega, by simp; omega⟩ (by rw [hto]; exact get_mid es _ i hi) fun s' hs' => hn s' ?_
    rw [hs', hto, w64_eq (by omega), show N3 x.k x.n x.u = x.d from rfl, set_mid es _ _ i hi hxd]
    rfl
  · refine toTermS_end kk m es _ _ hs (decide_eq_false (by omega)) ?_
    simpa using hK
theorem ev_eqTerm (x : Nd) : EvN 1 20 [.dat x.d, .dat x.d] [] [] ([.dat (B true)], [], []) :=
  ev_fn Go.Proofs.Try.f20 0 (by kernel_rfl) (by kernel_rfl) fun kk _ => eqTerm_y kk x.k x.n x.u x.k x.n x.u (by simp) (by simp) (by simp)
/-- A list is as it is. -/
theorem ev_eqTermS (L : List Nd) (b1 b2 : Bool) (h : L.length ≤ 1048576) : EvN 1048580 8 [.dat (.lst b1 (L.map Nd.d)), .dat (.lst b2 (L.map Nd.d))] [] [] ([.dat (B true)], [], []) := by
  refine ev_fn Go.Proofs.Try.f8 1048579 (by kernel_rfl) (by kernel_rfl) fun kk hkk => ?_
  have hlen : (L.map Nd.d).length = L.length := by simp
  generalize hes : L.map Nd.d = es at *
  refine eqTermS_y kk b1 b2 es es (by simp) ?_
  refine loopAt_range (fun i => hd19 b1 b2 es es i) es.length (by omega) (fun i hi m s K hs hn => ?_) (fun m s K hs hK => ?_) rfl
  · obtain ⟨x, hx⟩ : ∃ x, L[i]? = some x := ⟨_, List.getElem?_eq_getElem (by omega)⟩
    have hxd : es[i]? = some x.d := by rw [← hes, List.getElem?_map, hx]; rfl
    have hto : ((i : Int)).toNat = i := by simp
    refine eqTermS_go kk m b1 b2 es es i x.k x.n x.u x.k x.n x.u hs (decide_eq_true (by omega)) ⟨⟨by omega, by omega⟩, by rw [hto]; exact hxd⟩ ⟨⟨by omega, by omega⟩, by rw [hto]; exact hxd⟩ (ev_eqTerm x kk (by omega)) fun s' hs' => hn s' ?_
    rw [hs', w64_eq (by omega)]
    rfl
  · exact eqTermS_end kk m b1 b2 es es _ hs (decide_eq_false (by omega)) hK
/-- Nodes with a number each. -/
def marked (k : Int) : Nat → List Nd
  | 0 => []
  | n + 1 => ⟨k, k + 1, k + 2⟩ :: marked (k + 3) n
theorem marked_length : ∀ (n : Nat) (k : Int), (marked k n).length = n
  | 0, k => rfl
  | n + 1, k => by simp [marked, marked_length n]
theorem marked_get : ∀ (n i : Nat) (k : Int), i < n → (marked k n)[i]? = some ⟨k + 3 * i, k + 3 * i + 1, k + 3 * i + 2⟩
  | n + 1, 0, k, h => by simp [marked]
  | n + 1, i + 1, k, h => by
    simp only [marked, List.getElem?_cons_succ]
    rw [marked_get n i (k + 3) (by omega)]
    congr 2 <;> omega
theorem ev_mark (L : List Nd) (k : Int) (h : L.length ≤ 1048576) (h0 : 0 ≤ k) (h1 : k ≤ 1000000000) : EvN 1048580 9 [.bor (.lent 0) none, .dat (I k)] [] [some (40, L.map Nd.d)] ([.dat (I (k + 3 * L.length))], [], [some (40, (marked k L.length).map Nd.d)]) := by
  refine ev_fn Go.Proofs.Try.f9 1048579 (by kernel_rfl) (by kernel_rfl) fun kk hkk => ?_
  have hlen : (L.map Nd.d).length = L.length := by simp
  have hml : ((marked k L.length).map Nd.d).length = L.length := by simp [marked_length]
  refine mark kk _ _ k _ ?_
  let st := fun i : Nat => hd20 (((marked k L.length).map Nd.d).take i ++ (L.map Nd.d).drop i) (k + 3 * i) i
  refine loopAt_range st L.length (by omega) (fun i hi m s K hs hn => ?_) (fun m s K hs hK => ?_) (by simp [st])
  · obtain ⟨x, hx⟩ : ∃ x, L[i]? = some x := ⟨_, List.getElem?_eq_getElem (by omega)⟩
    have hxd : (L.map Nd.d)[i]? = some x.d := by rw [List.getElem?_map, hx]; rfl
    have hmd : ((marked k L.length).map Nd.d)[i]? = some (Nd.d ⟨k + 3 * i, k + 3 * i + 1, k + 3 * i + 2⟩) := by rw [List.getElem?_map, marked_get _ _ _ hi]; rfl
    have hto : ((i : Int)).toNat = i := by simp
    have hs' : s.norm _ = hd20 (((marked k L.length).map Nd.d).take i ++ (L.map Nd.d).drop i) (k + 3 * i) i := hs
    generalize hE : ((marked k L.length).map Nd.d).take i ++ (L.map Nd.d).drop i = E at hs'
    have htl : (((marked k L.length).map Nd.d).take i).length = i := by simp [marked_length]; omega
    have hEl : E.length = L.length := by rw [← hE, List.length_append, htl, List.length_drop, hlen]; omega
    have hEi : E[i]? = some x.d := by
      rw [← hE, List.getElem?_append_right (by omega), htl, Nat.sub_self, List.getElem?_drop]
      exact hxd
    have hset : ∀ (F : List Dat) (d d' : Dat), F[i]? = some d → (F.set i d')[i]? = some d' := fun F d d' hF => by
      rw [List.getElem?_set_self (List.getElem?_eq_some_iff.1 hF).1]
    refine mark_go kk m E (k + 3 * i) i x.k x.n x.u hs' (decide_eq_true (by omega)) ⟨by omega, by omega⟩ (by rw [hto]; exact hEi) ⟨by omega, by simp; omega⟩ (by rw [hto]; exact hset _ _ _ hEi) ⟨by omega, by simp; omega⟩ (by rw [hto]; exact hset _ _ _ (hset _ _ _ hEi)) fun s2 hs2 => hn s2 ?_
    rw [hs2, hto]
    rw [w64_eq (n := k + 3 * i + 1) (by omega), w64_eq (n := k + 3 * i + 1 + 1) (by omega), w64_eq (n := k + 3 * i + 1 + 1 + 1) (by omega), w64_eq (n := (i : Int) + 1) (by omega)]
    rw [List.set_set, List.set_set]
    have hnew : E.set i (N3 (k + 3 * i) (k + 3 * i + 1) (k + 3 * i + 1 + 1)) = ((marked k L.length).map Nd.d).take (i + 1) ++ (L.map Nd.d).drop (i + 1) := by
      rw [← hE, List.set_append_right _ _ (by omega), htl, Nat.sub_self, List.drop_eq_getElem_cons (l := L.map Nd.d) (i := i) (by omega), List.set_cons_zero, List.take_add_one, hmd]
      rw [show k + 3 * (i : Int) + 1 + 1 = k + 3 * i + 2 by omega]
      simp [Nd.d]
    rw [hnew]
    simp only [st, hd20]
    congr 4
    · congr 2; omega
  · have hs' : s.norm _ = hd20 (((marked k L.length).map Nd.d).take L.length ++ (L.map Nd.d).drop L.length) (k + 3 * L.length) L.length := hs
    rw [List.take_of_length_le (by omega), List.drop_of_length_le (by omega), List.append_nil] at hs'
    exact mark_end kk m _ _ _ hs' (decide_eq_false (by omega)) hK
theorem ev_held (n : Nat) (k : Int) (b : Bool) (h : n ≤ 1048576) (h0 : 0 ≤ k) (h1 : k ≤ 1000000000) : EvN 1048580 10 [.dat (.lst b ((marked k n).map Nd.d)), .dat (I k)] [] [] ([.dat (I (k + 3 * n))], [], []) := by
  refine ev_fn Go.Proofs.Try.f10 1048579 (by kernel_rfl) (by kernel_rfl) fun kk hkk => ?_
  have hlen : ((marked k n).map Nd.d).length = n := by simp [marked_length]
  refine held kk b _ k _ ?_
  let st := fun i : Nat => hd21 b ((marked k n).map Nd.d) (k + 3 * i) i
  refine loopAt_range st n (by omega) (fun i hi m s K hs hn => ?_) (fun m s K hs hK => ?_) (by simp [st])
  · have hmd : ((marked k n).map Nd.d)[i]? = some (N3 (k + 3 * i) (k + 3 * i + 1) (k + 3 * i + 2)) := by rw [List.getElem?_map, marked_get _ _ _ hi]; rfl
    have hto : ((i : Int)).toNat = i := by simp
    have hw : w64 (k + 3 * i + 1) = k + 3 * i + 1 := w64_eq (by omega)
    have hw2 : w64 (k + 3 * i + 1 + 1) = k + 3 * i + 2 := (w64_eq (by omega)).trans (by omega)
    have hw3 : w64 (k + 3 * i + 2 + 1) = k + 3 * i + 3 := (w64_eq (by omega)).trans (by omega)
    refine held_go kk m b _ (k + 3 * i) i (k + 3 * i) (k + 3 * i + 1) (k + 3 * i + 2) hs (decide_eq_true (by omega)) ⟨⟨by omega, by omega⟩, by rw [hto]; exact hmd⟩ (by simp) ⟨⟨by omega, by omega⟩, by rw [hto]; exact hmd⟩ (by rw [hw]; simp) ⟨⟨by omega, by omega⟩, by rw [hto]; exact hmd⟩ (by rw [hw, hw2]; simp) fun s2 hs2 => hn s2 ?_
    rw [hs2, hw, hw2, hw3, w64_eq (n := (i : Int) + 1) (by omega)]
    simp only [st, hd21]
    congr 4
    · congr 2; omega
  · exact held_end kk m b _ _ _ hs (decide_eq_false (by omega)) hK
end Go.Den
namespace Go.Den
open Go
set_option linter.unusedVariables false
set_option maxRecDepth 100000
/-- What stands in a leaf: a variable, or S, K, I. -/
inductive Lf where
  | v | s | k | i
  deriving DecidableEq
def Lf.kd : Lf → Int
  | .v => 1
  | .s => 3
  | .k => 4
  | .i => 5
def lfOf (k : Int) : Option Lf := if k = 1 then some .v else if k = 3 then some .s else if k = 4 then some .k else if k = 5 then some .i else none
theorem lfOf_kd (c : Lf) : lfOf c.kd = some c := by cases c <;> rfl
theorem lfOf_some {k : Int} {c : Lf} (h : lfOf k = some c) : k = c.kd := by
  unfold lfOf at h
  split at h
  · cases h; assumption
  · split at h
    · cases h; assumption
    · split at h
      · cases h; assumption
      · split at h
        · cases h; assumption
        · cases h
theorem Lf.kd_in (c : Lf) : 1 ≤ c.kd ∧ c.kd ≤ 5 ∧ c.kd ≠ 2 := by cases c <;> decide
theorem lfOf_in {k : Int} (h1 : 1 ≤ k ∧ k ≤ 5) (h2 : k ≠ 2) : ∃ c, lfOf k = some c := by
  rcases (show k = 1 ∨ k = 3 ∨ k = 4 ∨ k = 5 by omega) with rfl | rfl | rfl | rfl
  · exact ⟨.v, rfl⟩
  · exact ⟨.s, rfl⟩
  · exact ⟨.k, rfl⟩
  · exact ⟨.i, rfl⟩
theorem lfOf_two : lfOf 2 = none := rfl
theorem lfOf_lo {k : Int} (h : k < 1 ∨ 5 < k) : lfOf k = none := by
  unfold lfOf
  rw [if_neg (by omega), if_neg (by omega), if_neg (by omega), if_neg (by omega)]
/-- Combinators as nodes tell them (the number stands in each node). -/
inductive Pt where
  | leaf (c : Lf) (n : Int)
  | app (n : Int) (a b : Pt)
def Pt.kd : Pt → Int
  | .leaf c _ => c.kd
  | .app _ _ _ => 2
def Pt.num : Pt → Int
  | .leaf _ n => n
  | .app n _ _ => n
def Pt.kids : Pt → List Pt
  | .leaf _ _ => []
  | .app _ a b => [a, b]
def Pt.d : Pt → Dat
  | .leaf c n => T c.kd n []
  | .app n a b => T 2 n [a.d, b.d]
def Pt.size : Pt → Nat
  | .leaf _ _ => 1
  | .app _ a b => 1 + a.size + b.size
def Pt.depth : Pt → Nat
  | .leaf _ _ => 1
  | .app _ a b => max a.depth b.depth + 1
def Pt.own : Pt → Bool
  | .leaf c n => (decide (0 ≤ n) && decide (n ≤ 999)) && (decide (c = .v) || decide (n = 0))
  | .app n _ _ => decide (n = 0)
def Pt.nums : Pt → Bool
  | .leaf c n => (decide (0 ≤ n) && decide (n ≤ 999)) && (decide (c = .v) || decide (n = 0))
  | .app n a b => decide (n = 0) && (a.nums && b.nums)
def Pt.good (t : Pt) : Bool := decide (t.size ≤ 200) && (decide (t.depth ≤ 60) && t.nums)
theorem Pt.d_eq (t : Pt) : t.d = T t.kd t.num (t.kids.map Pt.d) := by cases t <;> rfl
theorem Pt.kids_lt {t x : Pt} (h : x ∈ t.kids) : x.size < t.size ∧ x.depth < t.depth := by
  cases t with
  | leaf c n => cases h
  | app n a b =>
    simp only [Pt.kids, List.mem_cons, List.not_mem_nil, or_false] at h
    simp only [Pt.size, Pt.depth]
    rcases h with rfl | rfl <;> omega
theorem Pt.kids_le (t : Pt) : t.kids.length ≤ 2 := by cases t <;> simp [Pt.kids]
theorem Pt.size_kids (t : Pt) : t.size = 1 + (t.kids.map Pt.size).sum := by cases t <;> simp [Pt.kids, Pt.size] <;> omega
theorem Pt.depth_pos (t : Pt) : 1 ≤ t.depth := by cases t <;> simp [Pt.depth]
theorem Pt.size_pos (t : Pt) : 1 ≤ t.size := by cases t <;> simp [Pt.size] <;> omega
theorem Pt.depth_le : ∀ t : Pt, t.depth ≤ t.size
  | .leaf _ _ => by simp [Pt.depth, Pt.size]
  | .app _ a b => by have := a.depth_le; have := b.depth_le; simp only [Pt.depth, Pt.size]; omega
theorem kid_at {ks : List Pt} {i : Nat} (h : i < ks.length) : ∃ x, ks[i]? = some x ∧ x ∈ ks ∧ (ks.map Pt.d)[i]? = some (T x.kd x.num (x.kids.map Pt.d)) := by
  have hx := List.getElem?_eq_getElem h
  exact ⟨ks[i], hx, List.getElem_mem h, by rw [List.getElem?_map, hx, ← Pt.d_eq]; rfl⟩
theorem sum_le {ks : List Pt} (i : Nat) : ((ks.take i).map Pt.size).sum ≤ (ks.map Pt.size).sum := by
  conv => rhs; rw [← List.take_append_drop i ks, List.map_append, List.sum_append]
  omega
def maxd : List Pt → Nat
  | [] => 0
  | t :: ts => max t.depth (maxd ts)
theorem maxd_append : ∀ a b : List Pt, maxd (a ++ b) = max (maxd a) (maxd b)
  | [], b => by simp [maxd]
  | t :: a, b => by simp only [List.cons_append, maxd, maxd_append a b]; omega
theorem Pt.depth_kids (t : Pt) : t.depth = maxd t.kids + 1 := by cases t <;> simp [Pt.kids, Pt.depth, maxd]
theorem first_bad {α : Type} (p : α → Bool) : ∀ {ks : List α}, ks.all p = false → ∃ (j : Nat) (x : α), ks[j]? = some x ∧ p x = false ∧ ∀ i y, i < j → ks[i]? = some y → p y = true
  | [], h => by cases h
  | y :: ks, h => by
    cases hy : p y with
    | false => exact ⟨0, y, rfl, hy, fun i y hi => by omega⟩
    | true =>
      rw [List.all_cons, hy, Bool.true_and] at h
      obtain ⟨j, x, h1, h2, h3⟩ := first_bad p h
      refine ⟨j + 1, x, by simpa using h1, h2, fun i z hi hz => ?_⟩
      cases i with
      | zero => simp at hz; rw [← hz]; exact hy
      | succ i => exact h3 i z (by omega) (by simpa using hz)
theorem Pt.nums_kids (t : Pt) : t.nums = (t.own && t.kids.all Pt.nums) := by
  cases t <;> simp [Pt.nums, Pt.kids, Pt.own]
/-- The term whose node stands at a place, and what stands behind it. -/
def parse (L : List Nd) : Nat → Nat → Int → Option (Pt × Nat)
  | 0, _, _ => none
  | f + 1, at_, up => (L[at_]?).bind fun x =>
    if x.u = up then
      match lfOf x.k with
      | some c => some (.leaf c x.n, at_ + 1)
      | none => if x.k = 2 then (parse L f (at_ + 1) at_).bind fun r => (parse L f r.2 at_).map fun q => (.app x.n r.1 q.1, q.2) else none
    else none
/-- The nodes of a term, that stand from a place on. -/
def Pt.flat : Pt → Nat → Int → List Nd
  | .leaf c n, _, up => [⟨c.kd, n, up⟩]
  | .app n a b, at_, up => ⟨2, n, up⟩ :: (a.flat (at_ + 1) at_ ++ b.flat (at_ + 1 + a.size) at_)
theorem Pt.flat_length : ∀ (t : Pt) (at_ : Nat) (up : Int), (t.flat at_ up).length = t.size
  | .leaf c n, _, up => rfl
  | .app n a b, at_, up => by simp only [Pt.flat, Pt.size, List.length_cons, List.length_append, a.flat_length, b.flat_length]; omega
theorem drop_cons {α : Type} {L : List α} {i : Nat} {x : α} (h : L[i]? = some x) : L.drop i = x :: L.drop (i + 1) := by
  obtain ⟨hl, rfl⟩ := List.getElem?_eq_some_iff.1 h
  exact List.drop_eq_getElem_cons hl
/-- What is read is what stands there. -/
theorem parse_sound (L : List Nd) : ∀ (f at_ : Nat) (up : Int) (t : Pt) (nx : Nat), parse L f at_ up = some (t, nx) → L.drop at_ = t.flat at_ up ++ L.drop nx ∧ nx = at_ + t.size ∧ nx ≤ L.length
  | 0, at_, up, t, nx, h => by cases h
  | f + 1, at_, up, t, nx, h => by
    simp only [parse, Option.bind_eq_some_iff] at h
    obtain ⟨⟨k, n, u⟩, hx, h⟩ := h
    have hlt := (List.getElem?_eq_some_iff.1 hx).1
    simp only at h
    split at h
    · rename_i hu
      subst hu
      have hd := drop_cons hx
      split at h
      · rename_i c hk
        cases h
        have hk := lfOf_some hk
        subst hk
        exact ⟨by rw [hd]; rfl, rfl, by omega⟩
      · split at h
        · rename_i hk
          simp only [Option.bind_eq_some_iff, Option.map_eq_some_iff, Prod.mk.injEq] at h
          obtain ⟨⟨a, n1⟩, hp, ⟨b, n2⟩, hq, rfl, rfl⟩ := h
          obtain ⟨h1, h2, h3⟩ := parse_sound L f _ _ _ _ hp
          obtain ⟨h4, h5, h6⟩ := parse_sound L f _ _ _ _ hq
          subst hk
          simp only at h2 h4
          refine ⟨?_, by simp only [Pt.size]; omega, h6⟩
          rw [hd, h1, h4, h2]
          simp [Pt.flat]
        · cases h
    · cases h
theorem get_drop {α : Type} {L : List α} {i : Nat} {x : α} {l : List α} (h : L.drop i = x :: l) : L[i]? = some x ∧ L.drop (i + 1) = l := by
  have h1 : (L.drop i)[0]? = some x := by rw [h]; rfl
  rw [List.getElem?_drop] at h1
  have h1 : L[i]? = some x := h1
  refine ⟨h1, ?_⟩
  have := drop_cons h1
  rw [h] at this
  injection this with _ this
  exact this.symm
theorem drop_add {α : Type} {L a b : List α} {i n : Nat} (h : L.drop i = a ++ b) (hn : a.length = n) : L.drop (i + n) = b := by
  rw [← List.drop_drop, h, ← hn, List.drop_left]
/-- What stands there is read. -/
theorem parse_flat (L : List Nd) : ∀ (t : Pt) (f at_ : Nat) (up : Int) (rest : List Nd), L.drop at_ = t.flat at_ up ++ rest → t.size ≤ f → parse L f at_ up = some (t, at_ + t.size)
  | t, 0, at_, up, rest, h, hf => by have := t.size_pos; omega
  | .leaf c n, f + 1, at_, up, rest, h, hf => by
    obtain ⟨h1, h2⟩ := get_drop h
    simp only [parse, h1, Option.bind_some, if_true, lfOf_kd]
    rfl
  | .app n a b, f + 1, at_, up, rest, h, hf => by
    have h' : L.drop at_ = ⟨2, n, up⟩ :: (a.flat (at_ + 1) at_ ++ (b.flat (at_ + 1 + a.size) at_ ++ rest)) := by rw [h]; simp [Pt.flat]
    obtain ⟨h1, h2⟩ := get_drop h'
    have e1 := parse_flat L a f (at_ + 1) at_ _ h2 (by simp only [Pt.size] at hf; omega)
    have h3 := drop_add h2 (a.flat_length _ _)
    have e2 := parse_flat L b f (at_ + 1 + a.size) at_ rest h3 (by simp only [Pt.size] at hf; omega)
    simp only [parse, h1, Option.bind_some, if_true, lfOf_two, e1, e2, Option.map_some]
    simp only [Pt.size]
    congr 2
    omega
/-- The term that nodes tell, if it is good. -/
def termOfP (L : List Nd) : Option Pt :=
  if 1 ≤ L.length ∧ L.length ≤ 200 then (parse L (L.length + 1) 0 (-1)).bind fun r => if r.2 = L.length ∧ r.1.good = true then some r.1 else none else none
theorem termOfP_iff (L : List Nd) (t : Pt) : termOfP L = some t ↔ t.good = true ∧ L = t.flat 0 (-1) := by
  unfold termOfP
  constructor
  · intro h
    split at h
    · simp only [Option.bind_eq_some_iff] at h
      obtain ⟨⟨t', nx⟩, hp, h⟩ := h
      simp only at h
      split at h
      · rename_i hc
        cases h
        obtain ⟨h1, h2, h3⟩ := parse_sound L _ _ _ _ _ hp
        refine ⟨hc.2, ?_⟩
        rw [hc.1, List.drop_length, List.append_nil] at h1
        exact h1
      · cases h
    · cases h
  · rintro ⟨hg, hL⟩
    have hlen : L.length = t.size := by rw [hL, t.flat_length]
    have hsz : t.size ≤ 200 := by
      unfold Pt.good at hg
      simp only [Bool.and_eq_true, decide_eq_true_eq] at hg
      exact hg.1
    have hpos := t.size_pos
    have := parse_flat L t (L.length + 1) 0 (-1) [] (by rw [List.drop_zero, List.append_nil]; exact hL) (by omega)
    rw [if_pos (by omega), this]
    simp only [Option.bind_some]
    rw [if_pos ⟨by omega, hg⟩]
theorem nd_at {L : List Nd} {i : Nat} {x : Nd} (h : L[i]? = some x) : (0 ≤ (i : Int) ∧ (i : Int) < ((L.map Nd.d).length : Int)) ∧ (L.map Nd.d)[(i : Int).toNat]? = some (N3 x.k x.n x.u) := by
  have hlt := (List.getElem?_eq_some_iff.1 h).1
  refine ⟨⟨by omega, by simp; omega⟩, ?_⟩
  rw [show (i : Int).toNat = i by simp, List.getElem?_map, h]
  rfl
def upAt (L : List Nd) (q : Nat) (k : Nat) : Bool := match L[q]? with | some x => decide (x.u = (k : Int)) | none => false
def partsP (L : List Nd) (k : Nat) : Nat → List Nat
  | 0 => []
  | n + 1 => if k < n ∧ upAt L n k = true then partsP L k n ++ [n] else partsP L k n
theorem partsP_low (L : List Nd) (k : Nat) : ∀ n, n ≤ k + 1 → partsP L k n = []
  | 0, _ => rfl
  | n + 1, h => by
    simp only [partsP]
    rw [if_neg (by omega)]
    exact partsP_low L k n (by omega)
theorem partsP_length (L : List Nd) (k : Nat) : ∀ n, (partsP L k n).length ≤ n
  | 0 => Nat.le_refl _
  | n + 1 => by
    have := partsP_length L k n
    simp only [partsP]
    split
    · simp; omega
    · omega
def IN (q : Nat) : Dat := I (q : Int)
def aroundP (L : List Nd) : Nat → Int → Int → Bool
  | 0, _, _ => false
  | f + 1, at_, u => if 0 ≤ at_ then (if at_ = u then true else match L[at_.toNat]? with | some x => aroundP L f x.u u | none => false) else false
def deepP (L : List Nd) : Nat → Int → Nat
  | 0, _ => 0
  | f + 1, at_ => if 0 ≤ at_ then (match L[at_.toNat]? with | some x => deepP L f x.u + 1 | none => 0) else 0
/-- Up to a place every node's parent stands before it. -/
def UpTo (L : List Nd) (m : Int) : Prop := ∀ (j : Nat) (x : Nd), L[j]? = some x → (j : Int) < m → -1 ≤ x.u ∧ x.u < j
def shapeP (L : List Nd) (i : Nat) (x : Nd) : Bool := (decide ((i : Int) = 0) == decide (x.u = -1)) && (decide (-1 ≤ x.u) && decide (x.u ≤ (i : Int) - 1))
def numP (x : Nd) : Bool := (decide (0 ≤ x.n) && decide (x.n ≤ 999)) && (decide (x.k = 1) || decide (x.n = 0))
def wantP (k : Int) : Int := if k = 2 then 2 else 0
/-- What is asked of a node. -/
def chk (L : List Nd) (i : Nat) (x : Nd) : Bool :=
  shapeP L i x && ((decide (1 ≤ x.k) && decide (x.k ≤ 5)) && ((decide ((i : Int) = 0) || aroundP L i ((i : Int) - 1) x.u) && (decide (deepP L (i + 1) i ≤ 60) && (decide (((partsP L i L.length).length : Int) = wantP x.k) && numP x))))
def chkAt (L : List Nd) (i : Nat) : Bool := match L[i]? with | some x => chk L i x | none => false
def goodS (L : List Nd) : Bool := (decide (1 ≤ (L.length : Int)) && decide ((L.length : Int) ≤ 200)) && (List.range L.length).all (chkAt L)
theorem chk_shape {L : List Nd} {i : Nat} {x : Nd} (h : shapeP L i x = true) : ((!decide ((i : Int) = 0) == decide (x.u = -1)) = false) ∧ -1 ≤ x.u ∧ x.u ≤ (i : Int) - 1 := by
  unfold shapeP at h
  simp only [Bool.and_eq_true, decide_eq_true_eq] at h
  exact ⟨by rw [h.1]; rfl, h.2.1, h.2.2⟩
theorem flat_get : ∀ (t : Pt) (at_ : Nat) (up : Int) (r : Nat) (z : Nd), (t.flat at_ up)[r]? = some z → (r = 0 ∧ z = ⟨t.kd, t.num, up⟩) ∨ (0 < r ∧ (at_ : Int) ≤ z.u ∧ z.u < at_ + r)
  | .leaf c n, at_, up, 0, z, h => .inl ⟨rfl, by simpa [Pt.flat, Pt.kd, Pt.num] using h.symm⟩
  | .leaf c n, at_, up, r + 1, z, h => by simp [Pt.flat] at h
  | .app n a b, at_, up, 0, z, h => .inl ⟨rfl, by simpa [Pt.flat, Pt.kd, Pt.num] using h.symm⟩
  | .app n a b, at_, up, r + 1, z, h => by
    have h' : (a.flat (at_ + 1) at_ ++ b.flat (at_ + 1 + a.size) at_)[r]? = some z := by simpa [Pt.flat] using h
    rw [List.getElem?_append, a.flat_length] at h'
    split at h'
    · rcases flat_get a _ _ r z h' with ⟨rfl, rfl⟩ | ⟨h1, h2, h3⟩
      · right; refine ⟨by omega, ?_, ?_⟩ <;> (simp only; omega)
      · right; refine ⟨by omega, by omega, by omega⟩
    · rename_i hr
      rcases flat_get b _ _ _ z h' with ⟨h1, rfl⟩ | ⟨h1, h2, h3⟩
      · right; refine ⟨by omega, ?_, ?_⟩ <;> (simp only; omega)
      · right; refine ⟨by omega, by omega, by omega⟩
theorem seg_get {L rest : List Nd} {t : Pt} {at_ : Nat} {up : Int} (h : L.drop at_ = t.flat at_ up ++ rest) {q : Nat} (h1 : at_ ≤ q) (h2 : q < at_ + t.size) {z : Nd} (hz : L[q]? = some z) : (q = at_ ∧ z = ⟨t.kd, t.num, up⟩) ∨ (at_ < q ∧ (at_ : Int) ≤ z.u ∧ z.u < q) := by
  have e : L[q]? = (t.flat at_ up)[q - at_]? := by
    have : (L.drop at_)[q - at_]? = L[q]? := by rw [List.getElem?_drop, show at_ + (q - at_) = q by omega]
    rw [← this, h, List.getElem?_append_left (by rw [t.flat_length]; omega)]
  rw [e] at hz
  rcases flat_get t at_ up _ z hz with ⟨h3, h4⟩ | ⟨h3, h4, h5⟩
  · exact .inl ⟨by omega, h4⟩
  · exact .inr ⟨by omega, h4, by omega⟩
theorem seg_len {L rest : List Nd} {t : Pt} {at_ : Nat} {up : Int} (h : L.drop at_ = t.flat at_ up ++ rest) : at_ + t.size ≤ L.length := by
  have := congrArg List.length h
  have hp := t.size_pos
  simp only [List.length_drop, List.length_append, t.flat_length] at this
  omega
inductive Anc (L : List Nd) : Nat → Nat → Prop where
  | refl (q : Nat) : Anc L q q
  | up {a q b : Nat} {x : Nd} (hx : L[q]? = some x) (hu : x.u = (b : Int)) (h : Anc L a b) : Anc L a q
def UpAll (L : List Nd) : Prop := ∀ (j : Nat) (x : Nd), L[j]? = some x → -1 ≤ x.u ∧ x.u < j
theorem Anc.le {L : List Nd} (hU : UpAll L) {a q : Nat} (h : Anc L a q) : a ≤ q := by
  induction h with
  | refl => exact Nat.le_refl _
  | up hx hu h ih =>
    have := (hU _ _ hx).2
    omega
theorem Anc.trans {L : List Nd} {a b c : Nat} (h : Anc L a b) (k : Anc L b c) : Anc L a c := by
  induction k with
  | refl => exact h
  | up hx hu _ ih => exact .up hx hu ih
theorem around_anc {L : List Nd} : ∀ (f : Nat) (q : Nat) (u : Int), aroundP L f q u = true → ∃ a : Nat, u = a ∧ Anc L a q
  | 0, q, u, h => by cases h
  | f + 1, q, u, h => by
    simp only [aroundP] at h
    rw [if_pos (by omega)] at h
    split at h
    · rename_i he
      exact ⟨q, he.symm, .refl q⟩
    · rw [show ((q : Int)).toNat = q by simp] at h
      cases hx : L[q]? with
      | none => rw [hx] at h; cases h
      | some x =>
        rw [hx] at h
        simp only at h
        by_cases hn : 0 ≤ x.u
        · obtain ⟨b, hb⟩ : ∃ b : Nat, x.u = b := ⟨x.u.toNat, by omega⟩
          rw [hb] at h
          obtain ⟨a, h1, h2⟩ := around_anc f b u h
          exact ⟨a, h1, .up hx hb h2⟩
        · cases f with
          | zero => cases h
          | succ f => simp only [aroundP] at h; rw [if_neg hn] at h; cases h
theorem anc_around {L : List Nd} (hU : UpAll L) {a q : Nat} (h : Anc L a q) : ∀ f : Nat, q < f → aroundP L f q a = true := by
  induction h with
  | refl =>
    intro f hf
    obtain ⟨f, rfl⟩ : ∃ g, f = g + 1 := ⟨f - 1, by omega⟩
    simp only [aroundP]
    rw [if_pos (by omega)]
    simp
  | @up q b x hx hu h ih =>
    intro f hf
    obtain ⟨f, rfl⟩ : ∃ g, f = g + 1 := ⟨f - 1, by omega⟩
    have := (hU _ _ hx).2
    simp only [aroundP]
    rw [if_pos (by omega)]
    split
    · rfl
    · rw [show ((q : Int)).toNat = q by simp, hx]
      simp only
      rw [hu]
      exact ih f (by omega)
theorem deep_fuel {L : List Nd} (hU : UpAll L) : ∀ (q : Int) (f g : Nat), q < f → q < g → -1 ≤ q → deepP L f q = deepP L g q := by
  have key : ∀ (n : Nat) (q : Int) (f g : Nat), q < n → q < f → q < g → -1 ≤ q → deepP L f q = deepP L g q := by
    intro n
    induction n with
    | zero =>
      intro q f g h0 h1 h2 h3
      have e : ∀ f : Nat, deepP L f q = 0 := fun f => by
        cases f with
        | zero => rfl
        | succ f => simp only [deepP]; rw [if_neg (by omega)]
      rw [e, e]
    | succ n ih =>
      intro q f g h0 h1 h2 h3
      by_cases hq : 0 ≤ q
      · obtain ⟨f, rfl⟩ : ∃ k, f = k + 1 := ⟨f - 1, by omega⟩
        obtain ⟨g, rfl⟩ : ∃ k, g = k + 1 := ⟨g - 1, by omega⟩
        simp only [deepP]
        rw [if_pos hq, if_pos hq]
        cases hx : L[q.toNat]? with
        | none => rfl
        | some x =>
          have := hU _ _ hx
          simp only
          rw [ih x.u f g (by omega) (by omega) (by omega) (by omega)]
      · have e : ∀ f : Nat, deepP L f q = 0 := fun f => by
          cases f with
          | zero => rfl
          | succ f => simp only [deepP]; rw [if_neg hq]
        rw [e, e]
  intro q f g h1 h2 h3
  exact key (q.toNat + 1) q f g (by omega) h1 h2 h3
/-- How deep a place is. -/
def dep (L : List Nd) (q : Int) : Nat := deepP L (q.toNat + 1) q
theorem dep_up {L : List Nd} (hU : UpAll L) {q : Nat} {x : Nd} (hx : L[q]? = some x) : dep L q = dep L x.u + 1 := by
  have := hU _ _ hx
  unfold dep
  rw [show ((q : Int)).toNat = q by simp, show deepP L (q + 1) q = if 0 ≤ (q : Int) then (match L[((q : Int)).toNat]? with | some x => deepP L q x.u + 1 | none => 0) else 0 from rfl]
  rw [if_pos (by omega), show ((q : Int)).toNat = q by simp, hx]
  simp only
  rw [deep_fuel hU x.u q (x.u.toNat + 1) (by omega) (by omega) (by omega)]
theorem dep_neg (L : List Nd) : dep L (-1) = 0 := by
  unfold dep
  simp only [deepP]
  rw [if_neg (by omega)]
theorem parts_skip {L : List Nd} {k : Nat} : ∀ {a b : Nat}, a ≤ b → (∀ q, a ≤ q → q < b → upAt L q k = false) → partsP L k b = partsP L k a
  | a, 0, h, hq => by rw [show a = 0 by omega]
  | a, b + 1, h, hq => by
    by_cases e : a = b + 1
    · rw [e]
    · simp only [partsP]
      rw [if_neg (by rw [hq b (by omega) (by omega)]; exact fun h => by cases h.2)]
      exact parts_skip (by omega) fun q h1 h2 => hq q h1 (by omega)
theorem parts_hit {L : List Nd} {k p : Nat} (h : k < p) (hu : upAt L p k = true) : partsP L k (p + 1) = partsP L k p ++ [p] := by
  simp only [partsP]
  rw [if_pos ⟨h, hu⟩]
theorem mem_parts {L : List Nd} {k : Nat} : ∀ {n q : Nat}, q ∈ partsP L k n ↔ k < q ∧ q < n ∧ upAt L q k = true
  | 0, q => by simp [partsP]
  | n + 1, q => by
    simp only [partsP]
    split
    · rename_i h
      rw [List.mem_append, mem_parts, List.mem_singleton]
      constructor
      · rintro (h1 | rfl)
        · exact ⟨h1.1, by omega, h1.2.2⟩
        · exact ⟨h.1, by omega, h.2⟩
      · rintro ⟨h1, h2, h3⟩
        by_cases e : q = n
        · exact .inr e
        · exact .inl ⟨h1, by omega, h3⟩
    · rename_i h
      rw [mem_parts]
      constructor
      · rintro ⟨h1, h2, h3⟩
        exact ⟨h1, by omega, h3⟩
      · rintro ⟨h1, h2, h3⟩
        by_cases e : q = n
        · subst e; exact (h ⟨h1, h3⟩).elim
        · exact ⟨h1, by omega, h3⟩
theorem parts_sorted {L : List Nd} {k : Nat} : ∀ n, (partsP L k n).Pairwise (· < ·)
  | 0 => by simp [partsP]
  | n + 1 => by
    simp only [partsP]
    split
    · rw [List.pairwise_append]
      refine ⟨parts_sorted n, by simp, fun a ha c hc => ?_⟩
      rw [List.mem_singleton] at hc
      have := (mem_parts.1 ha).2.1
      omega
    · exact parts_sorted n
theorem upAt_iff {L : List Nd} {q k : Nat} {x : Nd} (hx : L[q]? = some x) : upAt L q k = true ↔ x.u = (k : Int) := by
  unfold upAt
  rw [hx]
  simp
structure Fine (L : List Nd) : Prop where
  up : UpAll L
  zero : ∀ (i : Nat) (x : Nd), L[i]? = some x → (x.u = -1 ↔ i = 0)
  around : ∀ (i : Nat) (x : Nd), L[i]? = some x → 0 < i → ∃ a : Nat, x.u = a ∧ Anc L a (i - 1)
  kind : ∀ (i : Nat) (x : Nd), L[i]? = some x → 1 ≤ x.k ∧ x.k ≤ 5
  parts : ∀ (i : Nat) (x : Nd), L[i]? = some x → ((partsP L i L.length).length : Int) = wantP x.k
theorem no_more {L : List Nd} (hF : Fine L) {i p : Nat} (hip : i < p) (hp : ∀ y, L[p]? = some y → y.u < i) : ∀ q, p ≤ q → q < L.length → ¬ Anc L i q := by
  intro q
  induction q with
  | zero => intro h1 h2 h3; omega
  | succ q ih =>
    intro h1 h2 h3
    have hne : i ≠ q + 1 := by omega
    obtain ⟨x, hx⟩ : ∃ x, L[q + 1]? = some x := ⟨_, List.getElem?_eq_getElem h2⟩
    have hup : ∃ b : Nat, x.u = b ∧ Anc L i b := by
      cases h3 with
      | refl => exact (hne rfl).elim
      | up hx' hu h => rw [hx] at hx'; cases hx'; exact ⟨_, hu, h⟩
    obtain ⟨b, hb, hab⟩ := hup
    have hle := hab.le hF.up
    by_cases e : p = q + 1
    · subst e
      have := hp x hx
      omega
    · obtain ⟨a, ha, hq⟩ := hF.around (q + 1) x hx (by omega)
      have : a = b := by omega
      subst this
      exact ih (by omega) (by omega) (hab.trans hq)
theorem no_parts {L : List Nd} (hF : Fine L) {i p : Nat} (hip : i < p) (hp : ∀ y, L[p]? = some y → y.u < i) : ∀ q, p ≤ q → q ∉ partsP L i L.length := fun q hq hm => by
  obtain ⟨h1, h2, h3⟩ := mem_parts.1 hm
  obtain ⟨x, hx⟩ : ∃ x, L[q]? = some x := ⟨_, List.getElem?_eq_getElem h2⟩
  exact no_more hF hip hp q hq h2 (.up hx ((upAt_iff hx).1 h3) (.refl i))
theorem two_of {α : Type} {l : List α} (h : l.length = 2) : ∃ a b, l = [a, b] := by
  match l, h with
  | [a, b], _ => exact ⟨a, b, rfl⟩
theorem tree_of {L : List Nd} (hF : Fine L) : ∀ (f i : Nat) (x : Nd), L[i]? = some x → L.length ≤ i + f → ∃ t j, parse L f i x.u = some (t, j) ∧ ∀ y, L[j]? = some y → y.u < i
  | 0, i, x, hx, hf => by
    have := (List.getElem?_eq_some_iff.1 hx).1
    omega
  | f + 1, i, x, hx, hf => by
    have hi := (List.getElem?_eq_some_iff.1 hx).1
    obtain ⟨hk1, hk3⟩ := hF.kind i x hx
    have hpl := hF.parts i x hx
    have hpar : parse L (f + 1) i x.u = (match lfOf x.k with
        | some c => some (.leaf c x.n, i + 1)
        | none => if x.k = 2 then (parse L f (i + 1) i).bind fun r => (parse L f r.2 i).map fun q => (.app x.n r.1 q.1, q.2) else none) := by simp only [parse, hx, Option.bind_some, if_true]
    rw [hpar]
    have hmem : ∀ q y, L[q]? = some y → i < q → y.u = (i : Int) → q ∈ partsP L i L.length := fun q y hy hq hu => mem_parts.2 ⟨hq, (List.getElem?_eq_some_iff.1 hy).1, (upAt_iff hy).2 hu⟩
    have hnext : ∀ y, L[i + 1]? = some y → y.u ≤ i := fun y hy => by have := (hF.up _ _ hy).2; omega
    by_cases hk : x.k = 2
    case neg =>
      obtain ⟨c, hc⟩ := lfOf_in ⟨hk1, hk3⟩ hk
      rw [hc]
      have hwn : wantP x.k = 0 := by unfold wantP; rw [if_neg hk]
      have hnil : partsP L i L.length = [] := List.eq_nil_of_length_eq_zero (by omega)
      refine ⟨_, _, rfl, fun y hy => ?_⟩
      have h1 := hnext y hy
      have h2 : y.u ≠ (i : Int) := fun e => by
        have := hmem _ y hy (by omega) e
        rw [hnil] at this
        cases this
      omega
    case pos =>
      have hwn : wantP x.k = 2 := by unfold wantP; rw [if_pos hk]
      rw [show lfOf x.k = none by rw [hk]; rfl]
      simp only
      rw [if_pos hk]
      obtain ⟨p1, p2, hp12⟩ : ∃ p1 p2, partsP L i L.length = [p1, p2] := two_of (by omega)
      have hlt : p1 < p2 := by
        have := parts_sorted (L := L) (k := i) L.length
        rw [hp12] at this
        simpa using this
      have hin1 : p1 ∈ partsP L i L.length := by rw [hp12]; simp
      have hin2 : p2 ∈ partsP L i L.length := by rw [hp12]; simp
      obtain ⟨ha1, hb1, hc1⟩ := mem_parts.1 hin1
      obtain ⟨ha2, hb2, hc2⟩ := mem_parts.1 hin2
      obtain ⟨y1, hy1⟩ : ∃ y, L[i + 1]? = some y := ⟨_, List.getElem?_eq_getElem (by omega)⟩
      have hy1u : y1.u = i := by
        have h1 := hnext y1 hy1
        by_cases e : y1.u = (i : Int)
        · exact e
        · exact (no_parts hF (i := i) (p := i + 1) (by omega) (fun y hy => by rw [hy1] at hy; cases hy; omega) p1 (by omega) hin1).elim
      have hp1e : p1 = i + 1 := by
        have := hmem _ y1 hy1 (by omega) hy1u
        rw [hp12] at this
        simp at this
        omega
      obtain ⟨t, j, hpa, hj⟩ := tree_of hF f (i + 1) y1 hy1 (by omega)
      rw [hy1u] at hpa
      obtain ⟨hseg, hj2, hjl⟩ := parse_sound L _ _ _ _ _ hpa
      have htp := t.size_pos
      obtain ⟨z2, hz2⟩ : ∃ z, L[p2]? = some z := ⟨_, List.getElem?_eq_getElem hb2⟩
      have hz2u := (upAt_iff hz2).1 hc2
      have hp2j : ¬ p2 < j := fun hlt2 => by
        rcases seg_get hseg (q := p2) (by omega) (by omega) hz2 with ⟨h, _⟩ | ⟨_, h, _⟩ <;> omega
      obtain ⟨y2, hy2⟩ : ∃ y, L[j]? = some y := ⟨_, List.getElem?_eq_getElem (by omega)⟩
      have hy2u : y2.u = i := by
        have h1 := hj y2 hy2
        by_cases e : y2.u = (i : Int)
        · exact e
        · exact (no_parts hF (i := i) (p := j) (by omega) (fun y hy => by rw [hy2] at hy; cases hy; omega) p2 (by omega) hin2).elim
      have hp2e : p2 = j := by
        have := hmem _ y2 hy2 (by omega) hy2u
        rw [hp12] at this
        simp at this
        omega
      obtain ⟨t2, j2, hpb, hj3⟩ := tree_of hF f j y2 hy2 (by omega)
      rw [hy2u] at hpb
      obtain ⟨hseg2, hj4, hj5⟩ := parse_sound L _ _ _ _ _ hpb
      have htp2 := t2.size_pos
      refine ⟨.app x.n t t2, j2, by rw [hpa]; simp only [Option.bind_some]; rw [hpb]; rfl, fun y hy => ?_⟩
      have h1 := hj3 y hy
      obtain ⟨b, hb, hanc⟩ := hF.around j2 y hy (by omega)
      have claim : ∀ q, j ≤ q → q < j2 → Anc L b q → j ≤ b ∨ Anc L b i := by
        intro q
        induction q using Nat.strongRecOn with
        | _ q ih =>
          intro h3 h4 h5
          obtain ⟨zq, hzq⟩ : ∃ z, L[q]? = some z := ⟨_, List.getElem?_eq_getElem (by omega)⟩
          cases h5 with
          | refl => exact .inl h3
          | @up _ c zq' hz hu h6 =>
            rw [hzq] at hz
            cases hz
            rcases seg_get hseg2 (q := q) h3 (by omega) hzq with ⟨h7, h8⟩ | ⟨h7, h8, h9⟩
            · right
              have : zq.u = (i : Int) := by rw [h8]
              have : c = i := by omega
              rw [this] at h6
              exact h6
            · exact ih c (by omega) (by omega) (by omega) h6
      rcases claim (j2 - 1) (by omega) (by omega) hanc with h3 | h3
      · omega
      · have h4 := h3.le hF.up
        have h5 : y.u ≠ (i : Int) := fun e => by
          have := hmem _ y hy (by omega) e
          rw [hp12] at this
          simp at this
          omega
        omega
theorem seg_root {L rest : List Nd} {t : Pt} {at_ : Nat} {up : Int} (h : L.drop at_ = t.flat at_ up ++ rest) : L[at_]? = some ⟨t.kd, t.num, up⟩ := by
  have e : (L.drop at_)[0]? = L[at_]? := by rw [List.getElem?_drop]; rfl
  rw [← e, h]
  cases t <;> rfl
theorem seg_app {L rest : List Nd} {n : Int} {a b : Pt} {at_ : Nat} {up : Int} (h : L.drop at_ = (Pt.app n a b).flat at_ up ++ rest) :
    L.drop (at_ + 1) = a.flat (at_ + 1) at_ ++ (b.flat (at_ + 1 + a.size) at_ ++ rest) ∧ L.drop (at_ + 1 + a.size) = b.flat (at_ + 1 + a.size) at_ ++ rest := by
  have h1 := (get_drop (l := a.flat (at_ + 1) at_ ++ (b.flat (at_ + 1 + a.size) at_ ++ rest)) (x := ⟨2, n, up⟩) (by rw [h]; simp [Pt.flat])).2
  exact ⟨h1, drop_add h1 (a.flat_length _ _)⟩
theorem seg_anc {L rest : List Nd} {t : Pt} {at_ : Nat} {up : Int} (h : L.drop at_ = t.flat at_ up ++ rest) : ∀ q, at_ ≤ q → q < at_ + t.size → Anc L at_ q := by
  intro q
  induction q using Nat.strongRecOn with
  | _ q ih =>
    intro h1 h2
    have hl := seg_len h
    obtain ⟨z, hz⟩ : ∃ z, L[q]? = some z := ⟨_, List.getElem?_eq_getElem (by omega)⟩
    rcases seg_get h h1 h2 hz with ⟨rfl, _⟩ | ⟨h3, h4, h5⟩
    · exact .refl _
    · exact .up (b := z.u.toNat) hz (by omega) (ih _ (by omega) (by omega) (by omega))
def Pt.places : Pt → Nat → List Nat
  | .leaf _ _, _ => []
  | .app _ a _, at_ => [at_ + 1, at_ + 1 + a.size]
/-- Nobody behind a segment names a place in it. -/
def Apart (L : List Nd) (at_ n : Nat) : Prop := ∀ (q : Nat) (y : Nd), L[q]? = some y → at_ + n ≤ q → y.u < at_ ∨ (at_ + n : Int) ≤ y.u
theorem apart_a {L rest : List Nd} {n : Int} {a b : Pt} {at_ : Nat} {up : Int} (h : L.drop at_ = (Pt.app n a b).flat at_ up ++ rest) (h3 : Apart L at_ (Pt.app n a b).size) : Apart L (at_ + 1) a.size := fun q y hy hq => by
  by_cases hb : q < at_ + 1 + a.size + b.size
  · rcases seg_get (seg_app h).2 (by omega) hb hy with ⟨_, rfl⟩ | ⟨_, h5, _⟩
    · left; simp only; omega
    · right; omega
  · have := h3 q y hy (by simp only [Pt.size]; omega)
    simp only [Pt.size] at this
    omega
theorem apart_b {L : List Nd} {n : Int} {a b : Pt} {at_ : Nat} (h3 : Apart L at_ (Pt.app n a b).size) : Apart L (at_ + 1 + a.size) b.size := fun q y hy hq => by
  have := h3 q y hy (by simp only [Pt.size]; omega)
  simp only [Pt.size] at this
  omega
theorem upAt_no {L : List Nd} {q k : Nat} (h : ∀ y, L[q]? = some y → y.u ≠ (k : Int)) : upAt L q k = false := by
  cases hy : L[q]? with
  | none => unfold upAt; rw [hy]
  | some y => cases hb : upAt L q k with
    | false => rfl
    | true => exact (h y hy ((upAt_iff hy).1 hb)).elim
theorem seg_parts {L rest : List Nd} {t : Pt} {at_ : Nat} {up : Int} (h : L.drop at_ = t.flat at_ up ++ rest) (h3 : Apart L at_ t.size) : partsP L at_ L.length = t.places at_ := by
  have hl := seg_len h
  have hlow := partsP_low L at_ (at_ + 1) (by omega)
  have hbeh : ∀ q, at_ + t.size ≤ q → upAt L q at_ = false := fun q hq => upAt_no fun y hy => by
    have := h3 q y hy hq
    have := t.size_pos
    omega
  cases t with
  | leaf c n =>
    rw [parts_skip (a := at_ + 1) (by simp only [Pt.size] at hl; omega) fun q h1 _ => hbeh q (by simp only [Pt.size]; omega), hlow]
    rfl
  | app n a b =>
    have hs := (seg_app h).1
    have hs2 := (seg_app h).2
    have hp := a.size_pos
    have hp2 := b.size_pos
    simp only [Pt.size] at hl
    have hhit := parts_hit (L := L) (k := at_) (p := at_ + 1) (by omega) ((upAt_iff (seg_root hs)).2 rfl)
    have hhit2 := parts_hit (L := L) (k := at_) (p := at_ + 1 + a.size) (by omega) ((upAt_iff (seg_root hs2)).2 rfl)
    rw [parts_skip (a := at_ + 1 + a.size + 1) (by omega) fun q h1 h2 => ?_, hhit2, parts_skip (a := at_ + 1 + 1) (by omega) fun q h1 h2 => ?_, hhit, hlow]
    · rfl
    · refine upAt_no fun y hy => ?_
      rcases seg_get hs (by omega) (by omega) hy with ⟨h5, _⟩ | ⟨_, h5, _⟩ <;> omega
    · by_cases hq : q < at_ + 1 + a.size + b.size
      · refine upAt_no fun y hy => ?_
        rcases seg_get hs2 (by omega) hq hy with ⟨h5, _⟩ | ⟨_, h5, _⟩ <;> omega
      · exact hbeh q (by simp only [Pt.size]; omega)
theorem places_length (t : Pt) (at_ : Nat) : ((t.places at_).length : Int) = wantP t.kd := by
  cases t with
  | leaf c n => cases c <;> rfl
  | app n a b => rfl
theorem chk_iff {L : List Nd} {i : Nat} {x : Nd} : chk L i x = true ↔ shapeP L i x = true ∧ (1 ≤ x.k ∧ x.k ≤ 5) ∧ (i = 0 ∨ aroundP L i ((i : Int) - 1) x.u = true) ∧ dep L i ≤ 60 ∧ ((partsP L i L.length).length : Int) = wantP x.k ∧ numP x = true := by
  unfold chk dep
  simp only [Bool.and_eq_true, Bool.or_eq_true, decide_eq_true_eq, show ((i : Int)).toNat = i by simp, show ((i : Int) = 0) = (i = 0) by simp]
theorem goodS_iff {L : List Nd} : goodS L = true ↔ (1 ≤ L.length ∧ L.length ≤ 200) ∧ ∀ i x, L[i]? = some x → chk L i x = true := by
  unfold goodS
  simp only [Bool.and_eq_true, decide_eq_true_eq, List.all_eq_true, List.mem_range]
  constructor
  · rintro ⟨⟨h1, h2⟩, h3⟩
    refine ⟨⟨by omega, by omega⟩, fun i x hx => ?_⟩
    have := h3 i (List.getElem?_eq_some_iff.1 hx).1
    unfold chkAt at this
    rw [hx] at this
    exact this
  · rintro ⟨⟨h1, h2⟩, h3⟩
    refine ⟨⟨by omega, by omega⟩, fun i hi => ?_⟩
    have hx := List.getElem?_eq_getElem hi
    unfold chkAt
    rw [hx]
    exact h3 i _ hx
theorem fine_of {L : List Nd} (h : goodS L = true) : Fine L := by
  obtain ⟨_, h⟩ := goodS_iff.1 h
  have hs : ∀ (i : Nat) (x : Nd), L[i]? = some x → ((i : Int) = 0 ↔ x.u = -1) ∧ -1 ≤ x.u ∧ x.u ≤ (i : Int) - 1 := fun i x hx => by
    have h1 := (chk_iff.1 (h i x hx)).1
    unfold shapeP at h1
    simp only [Bool.and_eq_true, decide_eq_true_eq, beq_iff_eq, decide_eq_decide] at h1
    exact h1
  refine ⟨fun i x hx => ?_, fun i x hx => ?_, fun i x hx hi => ?_, fun i x hx => (chk_iff.1 (h i x hx)).2.1, fun i x hx => (chk_iff.1 (h i x hx)).2.2.2.2.1⟩
  · have := hs i x hx
    omega
  · have := (hs i x hx).1
    omega
  · rcases (chk_iff.1 (h i x hx)).2.2.1 with h1 | h1
    · omega
    · rw [show (i : Int) - 1 = ((i - 1 : Nat) : Int) by omega] at h1
      exact around_anc _ _ _ h1
theorem nums_of : ∀ (t : Pt) (at_ : Nat) (up : Int), (∀ z ∈ t.flat at_ up, numP z = true) → t.nums = true
  | .leaf c n, at_, up, h => by
    have := h ⟨c.kd, n, up⟩ (by simp [Pt.flat])
    cases c <;> simpa [numP, Pt.nums, Lf.kd] using this
  | .app n a b, at_, up, h => by
    have h1 := h ⟨2, n, up⟩ (by simp [Pt.flat])
    have h2 := nums_of a _ _ fun z hz => h z (by simp only [Pt.flat]; exact List.mem_cons_of_mem _ (List.mem_append_left _ hz))
    have h3 := nums_of b _ _ fun z hz => h z (by simp only [Pt.flat]; exact List.mem_cons_of_mem _ (List.mem_append_right _ hz))
    simp [numP] at h1
    simp [Pt.nums, h2, h3, h1.2]
theorem seg_dep {L : List Nd} (hU : UpAll L) : ∀ (t : Pt) (at_ : Nat) (up : Int) (rest : List Nd), L.drop at_ = t.flat at_ up ++ rest → ∃ q, at_ ≤ q ∧ q < at_ + t.size ∧ dep L q + 1 = dep L at_ + t.depth
  | .leaf c n, at_, up, rest, h => ⟨at_, by omega, by simp [Pt.size], rfl⟩
  | .app n a b, at_, up, rest, h => by
    have hs := seg_app h
    have e1 := dep_up hU (seg_root hs.1)
    have e2 := dep_up hU (seg_root hs.2)
    simp only at e1 e2
    by_cases hd : b.depth ≤ a.depth
    · obtain ⟨q, h1, h2, h3⟩ := seg_dep hU a _ _ _ hs.1
      exact ⟨q, by omega, by simp only [Pt.size]; omega, by simp only [Pt.depth]; omega⟩
    · obtain ⟨q, h1, h2, h3⟩ := seg_dep hU b _ _ _ hs.2
      exact ⟨q, by omega, by simp only [Pt.size]; omega, by simp only [Pt.depth]; omega⟩
theorem tree_good {L : List Nd} (h : goodS L = true) : ∃ t : Pt, t.good = true ∧ L = t.flat 0 (-1) := by
  have hF := fine_of h
  obtain ⟨⟨hl1, hl2⟩, hc⟩ := goodS_iff.1 h
  obtain ⟨x, hx⟩ : ∃ x, L[0]? = some x := ⟨_, List.getElem?_eq_getElem (by omega)⟩
  obtain ⟨t, j, hp, hj⟩ := tree_of hF L.length 0 x hx (by omega)
  rw [(hF.zero 0 x hx).2 rfl] at hp
  obtain ⟨h1, h2, h3⟩ := parse_sound L _ _ _ _ _ hp
  have hpos := t.size_pos
  have hjl : j = L.length := by
    by_cases e : j = L.length
    · exact e
    · obtain ⟨y, hy⟩ : ∃ y, L[j]? = some y := ⟨_, List.getElem?_eq_getElem (by omega)⟩
      have h4 := hj y hy
      have h5 := (hF.up j y hy).1
      have := (hF.zero j y hy).1 (by omega)
      omega
  rw [hjl, List.drop_length, List.append_nil, List.drop_zero] at h1
  refine ⟨t, ?_, h1⟩
  have hd : L.drop 0 = t.flat 0 (-1) ++ [] := by rw [List.drop_zero, List.append_nil]; exact h1
  obtain ⟨q, _, h6, h7⟩ := seg_dep hF.up t 0 (-1) [] hd
  obtain ⟨z, hz⟩ : ∃ z, L[q]? = some z := ⟨_, List.getElem?_eq_getElem (by omega)⟩
  have h8 := (chk_iff.1 (hc q z hz)).2.2.2.1
  have h9 := dep_up hF.up (seg_root hd)
  unfold Pt.good
  simp only [Bool.and_eq_true, decide_eq_true_eq]
  refine ⟨by omega, by simp only [dep_neg] at h9; omega, nums_of t 0 (-1) fun w hw => ?_⟩
  rw [← h1] at hw
  obtain ⟨i, hi⟩ := List.getElem?_of_mem hw
  exact (chk_iff.1 (hc i w hi)).2.2.2.2.2
theorem root_chk {L rest : List Nd} (hU : UpAll L) {t : Pt} {at_ : Nat} {up : Int} (h : L.drop at_ = t.flat at_ up ++ rest)
    (h1 : (at_ = 0 ∧ up = -1) ∨ ∃ p : Nat, up = p ∧ 0 < at_ ∧ Anc L p (at_ - 1)) (h2 : dep L up + t.depth ≤ 60) (hn : t.nums = true) (h3 : Apart L at_ t.size) : chk L at_ ⟨t.kd, t.num, up⟩ = true := by
  have hr := seg_root h
  have hpos := t.depth_pos
  refine chk_iff.2 ⟨?_, ?_, ?_, ?_, ?_, ?_⟩
  · have := hU _ _ hr
    simp only at this
    unfold shapeP
    simp only [Bool.and_eq_true, decide_eq_true_eq, beq_iff_eq, decide_eq_decide]
    refine ⟨?_, by omega, by omega⟩
    rcases h1 with ⟨rfl, rfl⟩ | ⟨p, rfl, hp, _⟩ <;> omega
  · cases t with
    | leaf c n => have := c.kd_in; exact ⟨this.1, this.2.1⟩
    | app n a b => exact ⟨by show (1 : Int) ≤ 2; omega, by show (2 : Int) ≤ 5; omega⟩
  · rcases h1 with ⟨rfl, _⟩ | ⟨p, rfl, hp, ha⟩
    · exact .inl rfl
    · right
      rw [show (at_ : Int) - 1 = ((at_ - 1 : Nat) : Int) by omega]
      exact anc_around hU ha _ (by omega)
  · have := dep_up hU hr
    simp only at this
    omega
  · rw [seg_parts h h3]
    exact places_length t at_
  · cases t with
    | leaf c n => cases c <;> simp [Pt.nums] at hn <;> simp [numP, Pt.kd, Pt.num, Lf.kd, hn] <;> omega
    | app n a b => simp [Pt.nums] at hn; simp [numP, Pt.kd, Pt.num, hn]
theorem seg_chk {L : List Nd} (hU : UpAll L) : ∀ (t : Pt) (at_ : Nat) (up : Int) (rest : List Nd), L.drop at_ = t.flat at_ up ++ rest →
    ((at_ = 0 ∧ up = -1) ∨ ∃ p : Nat, up = p ∧ 0 < at_ ∧ Anc L p (at_ - 1)) → dep L up + t.depth ≤ 60 → t.nums = true → Apart L at_ t.size → ∀ i x, at_ ≤ i → i < at_ + t.size → L[i]? = some x → chk L i x = true
  | .leaf c n, at_, up, rest, h, h1, h2, hn, h3, i, x, hi, hi2, hx => by
    rcases seg_get h hi hi2 hx with ⟨rfl, rfl⟩ | ⟨h4, _, _⟩
    · exact root_chk hU h h1 h2 hn h3
    · simp only [Pt.size] at hi2; omega
  | .app n a b, at_, up, rest, h, h1, h2, hn, h3, i, x, hi, hi2, hx => by
    rcases seg_get h hi hi2 hx with ⟨rfl, rfl⟩ | ⟨h4, _, _⟩
    · exact root_chk hU h h1 h2 hn h3
    · have hd := dep_up hU (seg_root h)
      have hpa := a.size_pos
      have ha := seg_app h
      simp only [Pt.depth, Pt.size, Pt.nums, Bool.and_eq_true] at h2 hi2 hn hd
      by_cases hb : i < at_ + 1 + a.size
      · exact seg_chk hU a (at_ + 1) at_ _ ha.1 (.inr ⟨at_, rfl, by omega, .refl _⟩) (by omega) hn.2.1 (apart_a h h3) i x (by omega) (by omega) hx
      · refine seg_chk hU b (at_ + 1 + a.size) at_ rest ha.2 (.inr ⟨at_, rfl, by omega, ?_⟩) (by omega) hn.2.2 (apart_b h3) i x (by omega) (by omega) hx
        have h5 := seg_anc ha.1 (at_ + 1 + a.size - 1) (by omega) (by omega)
        exact Anc.trans (.up (seg_root ha.1) rfl (.refl _)) h5
theorem flat_up {t : Pt} : UpAll (t.flat 0 (-1)) := fun j x hx => by
  rcases flat_get t 0 (-1) j x hx with ⟨rfl, rfl⟩ | ⟨h1, h2, h3⟩
  · exact ⟨by simp, by simp⟩
  · omega
theorem flat_apart {t : Pt} : Apart (t.flat 0 (-1)) 0 t.size := fun q y hy hq => by
  have := (List.getElem?_eq_some_iff.1 hy).1
  rw [t.flat_length] at this
  omega
theorem flat_drop (t : Pt) : (t.flat 0 (-1)).drop 0 = t.flat 0 (-1) ++ [] := by rw [List.drop_zero, List.append_nil]
theorem good_tree {t : Pt} (h : t.good = true) : goodS (t.flat 0 (-1)) = true := by
  unfold Pt.good at h
  simp only [Bool.and_eq_true, decide_eq_true_eq] at h
  have hpos := t.size_pos
  refine goodS_iff.2 ⟨⟨by rw [t.flat_length]; omega, by rw [t.flat_length]; omega⟩, fun i x hx => ?_⟩
  have := (List.getElem?_eq_some_iff.1 hx).1
  rw [t.flat_length] at this
  exact seg_chk flat_up t 0 (-1) [] (flat_drop t) (.inl ⟨rfl, rfl⟩) (by rw [dep_neg]; omega) h.2.2 flat_apart i x (by omega) (by omega) hx
/-- What the reference holds for good is what the program reads as a term. -/
theorem goodS_term (L : List Nd) : goodS L = (termOfP L).isSome := by
  cases h : termOfP L with
  | some t =>
    obtain ⟨h1, h2⟩ := (termOfP_iff L t).1 h
    rw [h2]
    exact good_tree h1
  | none =>
    cases hg : goodS L with
    | false => rfl
    | true =>
      obtain ⟨t, h1, h2⟩ := tree_good hg
      rw [(termOfP_iff L t).2 ⟨h1, h2⟩] at h
      cases h
end Go.Den
