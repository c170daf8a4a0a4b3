/- Merged out of: E6 P1 E2 E3 E4 EA EB EF EG EI P2 P3 LFnExactSetPart (prune.py, a program of this work's). -/
import Derived.Test.YtcmcfebihbmmeaaZa6
import Derived.Test.YtcmcfebihbmmeaaZa5
import Derived.KernelRfl
import Derived.Test.YtcmcfebihbmmeaaRows
import Derived.WalkKit
import Derived.ProofKit
import Derived.OpenShut
import Derived.ShutString
import Derived.ChangeOld
import Derived.Below
set_option linter.unusedVariables false
set_option linter.unusedSimpArgs false
set_option linter.unnecessarySimpa false
namespace Go.Den
open Go.Proofs
open Go
set_option linter.unusedVariables false
set_option maxRecDepth 100000
open Go.Den in
abbrev Yo (o : Int) (cs rs ns : List Dat) : List D := [.dat (I o), .own 41 cs, .own 3 rs, .own 3 ns]
theorem copyY (kk : Nat) (b : Bool) (o : Int) (cs rs ns : List Dat) (e7 : List Dat) (e10 : List Dat) (e13 : List Dat) {r : Res} (q1 : (den cfg kk 34 [D.dat (Dat.lst b cs)] [] [] = some ([D.own 41 e7], [], [])) ∧ (den cfg kk 35 [D.dat (Dat.lst b rs)] [] [] = some ([D.own 3 e10], [], [])) ∧ (den cfg kk 35 [D.dat (Dat.lst b ns)] [] [] = some ([D.own 3 e13], [], [])) ∧ r = ([D.seq false [D.dat (I o), D.own 41 e7, D.own 3 e10, D.own 3 e13]], [], [])) : zaC cfg kk (den cfg kk) 20 Try.f20 [.dat (Yd b o cs rs ns)] [] [] = some r := by
 obtain ⟨hz1, hz2, hz3, oz⟩ := q1
 subst oz; exact zab [(7, .ret [.own 41 e7]), (10, .ret [.own 3 e10]), (13, .ret [.own 3 e13])] (ob hz1 (ob hz2 (ob hz3 ob0))) (by kernel_rfl)
theorem setY (kk : Nat) (o : Int) (cs rs ns : List Dat) (at_ : Int) (second : Bool) (to : Int) (c100018 : Cl) (c100026 : Cl) (x33_0 : Int) (g33_1 : Bool) (e62 : List Dat) {r : Res} (q1 : (second = true) → (decide (at_ < o) = true) → (decide (o ≤ to) = true) → ((!g33_1) = true) → (0 ≤ at_ ∧ at_ < (cs.length : Int)) ∧ (cs[at_.toNat]? = some (Dat.agg [B c100018.l, I c100018.n, I c100018.a, I c100018.b])) ∧ (den cfg kk 36 [D.dat (Dat.lst true ns), D.dat (I at_)] [] [] = some ([D.dat (I x33_0), D.dat (B g33_1)], [], [])) ∧ (den cfg kk 37 [D.own 3 ns, D.dat (I x33_0), D.own 3 [I at_]] [] [] = some ([D.own 3 e62], [], [])) ∧ r = ([], [[D.dat (I o), D.own 41 (cs.set at_.toNat (Dat.agg [B c100018.l, I c100018.n, I c100018.a, I to])), D.own 3 rs, D.own 3 e62]], [])) (q2 : (second = true) → (decide (at_ < o) = true) → (decide (o ≤ to) = true) → ((!g33_1) = false) → (0 ≤ at_ ∧ at_ < (cs.length : Int)) ∧ (cs[at_.toNat]? = some (Dat.agg [B c100018.l, I c100018.n, I c100018.a, I c100018.b])) ∧ (den cfg kk 36 [D.dat (Dat.lst true ns), D.dat (I at_)] [] [] = some ([D.dat (I x33_0), D.dat (B g33_1)], [], [])) ∧ r = ([], [[D.dat (I o), D.own 41 (cs.set at_.toNat (Dat.agg [B c100018.l, I c100018.n, I c100018.a, I to])), D.own 3 rs, D.own 3 ns]], [])) (q3 : (second = true) → (decide (at_ < o) = true) → (decide (o ≤ to) = false) → (0 ≤ at_ ∧ at_ < (cs.length : Int)) ∧ (cs[at_.toNat]? = some (Dat.agg [B c100018.l, I c100018.n, I c100018.a, I c100018.b])) ∧ (den cfg kk 36 [D.dat (Dat.lst true ns), D.dat (I at_)] [] [] = some ([D.dat (I x33_0), D.dat (B g33_1)], [], [])) ∧ r = ([], [[D.dat (I o), D.own 41 (cs.set at_.toNat (Dat.agg [B c100018.l, I c100018.n, I c100018.a, I to])), D.own 3 rs, D.own 3 ns]], [])) (q4 : (second = true) → (decide (at_ < o) = false) → (0 ≤ at_ ∧ at_ < (cs.length : Int)) ∧ (cs[at_.toNat]? = some (Dat.agg [B c100018.l, I c100018.n, I c100018.a, I c100018.b])) ∧ (den cfg kk 36 [D.dat (Dat.lst true ns), D.dat (I at_)] [] [] = some ([D.dat (I x33_0), D.dat (B g33_1)], [], [])) ∧ r = ([], [[D.dat (I o), D.own 41 (cs.set at_.toNat (Dat.agg [B c100018.l, I c100018.n, I c100018.a, I to])), D.own 3 rs, D.own 3 ns]], [])) (q5 : (second = false) → (decide (at_ < o) = true) → (decide (o ≤ to) = true) → ((!g33_1) = true) → (0 ≤ at_ ∧ at_ < (cs.length : Int)) ∧ (cs[at_.toNat]? = some (Dat.agg [B c100026.l, I c100026.n, I c100026.a, I c100026.b])) ∧ (den cfg kk 36 [D.dat (Dat.lst true ns), D.dat (I at_)] [] [] = some ([D.dat (I x33_0), D.dat (B g33_1)], [], [])) ∧ (den cfg kk 37 [D.own 3 ns, D.dat (I x33_0), D.own 3 [I at_]] [] [] = some ([D.own 3 e62], [], [])) ∧ r = ([], [[D.dat (I o), D.own 41 (cs.set at_.toNat (Dat.agg [B c100026.l, I c100026.n, I to, I c100026.b])), D.own 3 rs, D.own 3 e62]], [])) (q6 : (second = false) → (decide (at_ < o) = true) → (decide (o ≤ to) = true) → ((!g33_1) = false) → (0 ≤ at_ ∧ at_ < (cs.length : Int)) ∧ (cs[at_.toNat]? = some (Dat.agg [B c100026.l, I c100026.n, I c100026.a, I c100026.b])) ∧ (den cfg kk 36 [D.dat (Dat.lst true ns), D.dat (I at_)] [] [] = some ([D.dat (I x33_0), D.dat (B g33_1)], [], [])) ∧ r = ([], [[D.dat (I o), D.own 41 (cs.set at_.toNat (Dat.agg [B c100026.l, I c100026.n, I to, I c100026.b])), D.own 3 rs, D.own 3 ns]], [])) (q7 : (second = false) → (decide (at_ < o) = true) → (decide (o ≤ to) = false) → (0 ≤ at_ ∧ at_ < (cs.length : Int)) ∧ (cs[at_.toNat]? = some (Dat.agg [B c100026.l, I c100026.n, I c100026.a, I c100026.b])) ∧ (den cfg kk 36 [D.dat (Dat.lst true ns), D.dat (I at_)] [] [] = some ([D.dat (I x33_0), D.dat (B g33_1)], [], [])) ∧ r = ([], [[D.dat (I o), D.own 41 (cs.set at_.toNat (Dat.agg [B c100026.l, I c100026.n, I to, I c100026.b])), D.own 3 rs, D.own 3 ns]], [])) (q8 : (second = false) → (decide (at_ < o) = false) → (0 ≤ at_ ∧ at_ < (cs.length : Int)) ∧ (cs[at_.toNat]? = some (Dat.agg [B c100026.l, I c100026.n, I c100026.a, I c100026.b])) ∧ (den cfg kk 36 [D.dat (Dat.lst true ns), D.dat (I at_)] [] [] = some ([D.dat (I x33_0), D.dat (B g33_1)], [], [])) ∧ r = ([], [[D.dat (I o), D.own 41 (cs.set at_.toNat (Dat.agg [B c100026.l, I c100026.n, I to, I c100026.b])), D.own 3 rs, D.own 3 ns]], [])) : zaC cfg kk (den cfg kk) 21 Try.f21 [.ptr (.up 0) 0, .dat (I at_), .dat (B second), .dat (I to)] [Yo o cs rs ns] [] = some r := by
 rcases Bool.eq_false_or_eq_true (second) with d1 | d1
 · rcases Bool.eq_false_or_eq_true (decide (at_ < o)) with d6 | d6
   · rcases Bool.eq_false_or_eq_true (decide (o ≤ to)) with d12 | d12
     · rcases Bool.eq_false_or_eq_true ((!g33_1)) with d14 | d14
       · obtain ⟨hz1, hz2, hz3, hz4, oz⟩ := q1 d1 d6 d12 d14
         subst oz; exact zab [(17, .ok), (25, .ok), (100018, .at (c100018.d)), (100026, .at (c100026.d)), (33, .ret [.dat (I x33_0), .dat (B g33_1)]), (62, .back [.own 3 e62] [] []), (200010, .yes), (200042, .yes), (200050, .yes), (200053, .yes)] (ob d1 (ob hz1 (ob hz2 (ob (rfl : true = true) (ob hz3 (ob d6 (ob (rfl : true = true) (ob (rfl : true = true) (ob (rfl : true = true) (ob (rfl : true = true) (ob (rfl : true = true) (ob d12 (ob (rfl : true = true) (ob d14 (ob hz4 (ob (rfl : false = false) ob0)))))))))))))))) (by kernel_rfl)
       · obtain ⟨hz1, hz2, hz3, oz⟩ := q2 d1 d6 d12 d14
         subst oz; exact zab [(17, .ok), (25, .ok), (100018, .at (c100018.d)), (100026, .at (c100026.d)), (33, .ret [.dat (I x33_0), .dat (B g33_1)]), (62, .back [.own 3 e62] [] []), (200010, .yes), (200042, .yes), (200050, .yes), (200053, .no)] (ob d1 (ob hz1 (ob hz2 (ob (rfl : true = true) (ob hz3 (ob d6 (ob (rfl : true = true) (ob (rfl : true = true) (ob (rfl : true = true) (ob (rfl : true = true) (ob (rfl : true = true) (ob d12 (ob (rfl : true = true) (ob d14 ob0)))))))))))))) (by kernel_rfl)
     · obtain ⟨hz1, hz2, hz3, oz⟩ := q3 d1 d6 d12
       subst oz; exact zab [(17, .ok), (25, .ok), (100018, .at (c100018.d)), (100026, .at (c100026.d)), (33, .ret [.dat (I x33_0), .dat (B g33_1)]), (62, .back [.own 3 e62] [] []), (200010, .yes), (200042, .yes), (200050, .no)] (ob d1 (ob hz1 (ob hz2 (ob (rfl : true = true) (ob hz3 (ob d6 (ob (rfl : true = true) (ob (rfl : true = true) (ob (rfl : true = true) (ob (rfl : true = true) (ob (rfl : true = true) (ob d12 (ob (rfl : false = false) ob0))))))))))))) (by kernel_rfl)
   · obtain ⟨hz1, hz2, hz3, oz⟩ := q4 d1 d6
     subst oz; exact zab [(17, .ok), (25, .ok), (100018, .at (c100018.d)), (100026, .at (c100026.d)), (33, .ret [.dat (I x33_0), .dat (B g33_1)]), (62, .back [.own 3 e62] [] []), (200010, .yes), (200042, .no)] (ob d1 (ob hz1 (ob hz2 (ob (rfl : true = true) (ob hz3 (ob d6 (ob (rfl : false = false) (ob (rfl : false = false) (ob (rfl : false = false) (ob (rfl : false = false) (ob (rfl : false = false) ob0))))))))))) (by kernel_rfl)
 · rcases Bool.eq_false_or_eq_true (decide (at_ < o)) with d6 | d6
   · rcases Bool.eq_false_or_eq_true (decide (o ≤ to)) with d12 | d12
     · rcases Bool.eq_false_or_eq_true ((!g33_1)) with d14 | d14
       · obtain ⟨hz1, hz2, hz3, hz4, oz⟩ := q5 d1 d6 d12 d14
         subst oz; exact zab [(17, .ok), (25, .ok), (100018, .at (c100018.d)), (100026, .at (c100026.d)), (33, .ret [.dat (I x33_0), .dat (B g33_1)]), (62, .back [.own 3 e62] [] []), (200010, .no), (200042, .yes), (200050, .yes), (200053, .yes)] (ob d1 (ob hz1 (ob hz2 (ob (rfl : true = true) (ob hz3 (ob d6 (ob (rfl : true = true) (ob (rfl : true = true) (ob (rfl : true = true) (ob (rfl : true = true) (ob (rfl : true = true) (ob d12 (ob (rfl : true = true) (ob d14 (ob hz4 (ob (rfl : false = false) ob0)))))))))))))))) (by kernel_rfl)
       · obtain ⟨hz1, hz2, hz3, oz⟩ := q6 d1 d6 d12 d14
         subst oz; exact zab [(17, .ok), (25, .ok), (100018, .at (c100018.d)), (100026, .at (c100026.d)), (33, .ret [.dat (I x33_0), .dat (B g33_1)]), (62, .back [.own 3 e62] [] []), (200010, .no), (200042, .yes), (200050, .yes), (200053, .no)] (ob d1 (ob hz1 (ob hz2 (ob (rfl : true = true) (ob hz3 (ob d6 (ob (rfl : true = true) (ob (rfl : true = true) (ob (rfl : true = true) (ob (rfl : true = true) (ob (rfl : true = true) (ob d12 (ob (rfl : true = true) (ob d14 ob0)))))))))))))) (by kernel_rfl)
     · obtain ⟨hz1, hz2, hz3, oz⟩ := q7 d1 d6 d12
       subst oz; exact zab [(17, .ok), (25, .ok), (100018, .at (c100018.d)), (100026, .at (c100026.d)), (33, .ret [.dat (I x33_0), .dat (B g33_1)]), (62, .back [.own 3 e62] [] []), (200010, .no), (200042, .yes), (200050, .no)] (ob d1 (ob hz1 (ob hz2 (ob (rfl : true = true) (ob hz3 (ob d6 (ob (rfl : true = true) (ob (rfl : true = true) (ob (rfl : true = true) (ob (rfl : true = true) (ob (rfl : true = true) (ob d12 (ob (rfl : false = false) ob0))))))))))))) (by kernel_rfl)
   · obtain ⟨hz1, hz2, hz3, oz⟩ := q8 d1 d6
     subst oz; exact zab [(17, .ok), (25, .ok), (100018, .at (c100018.d)), (100026, .at (c100026.d)), (33, .ret [.dat (I x33_0), .dat (B g33_1)]), (62, .back [.own 3 e62] [] []), (200010, .no), (200042, .no)] (ob d1 (ob hz1 (ob hz2 (ob (rfl : true = true) (ob hz3 (ob d6 (ob (rfl : false = false) (ob (rfl : false = false) (ob (rfl : false = false) (ob (rfl : false = false) (ob (rfl : false = false) ob0))))))))))) (by kernel_rfl)
def hd58 (b : Bool) (o : Int) (cs rs ns : List Dat) (at_ : Int) (out : List Dat) (put : Bool) (i : Int) : St := Nm [1, 4, 8, 9, 10, 49, 50, 51] [.dat (I at_), .ptr (.loc 4) 0, .ptr (.loc 8) 0, .own 3 out, .dat (B put), .dat (.lst b ns), .dat (I ns.length), .dat (I i)] [none, some [.dat (I o), .own 41 cs, .dat (.lst b rs), .dat (.lst b ns)], some (Yo 0 [] [] []), none, none, none, none, none] [] []
theorem zgH (kk m : Nat) {s : St} {K : X → St → Prop} (b : Bool) (o : Int) (cs rs ns : List Dat) (at_ : Int) (out : List Dat) (put : Bool) (i : Int) (x53 : Int) (hs : s.norm ((zaf cfg kk 15 Try.f15).live (zaa (lp Try.f15 8))) = hd58 b o cs rs ns at_ out put i) (q1 : (decide (i < (ns.length : Int)) = true) → (put = true) → (decide (at_ < x53) = true) → ((0 ≤ i ∧ i < (ns.length : Int)) ∧ ns[i.toNat]? = some (I x53)) ∧ (out.length + 1 ≤ 2147483648) ∧ ((out ++ [I at_]).length + 1 ≤ 2147483648) ∧ (∀ s : St, s.norm ((zaf cfg kk 15 Try.f15).live (zaa (lp Try.f15 8))) = Nm [1, 4, 8, 9, 10, 49, 50, 51] [D.dat (I at_), D.ptr (Ref.loc 4) 0, D.ptr (Ref.loc 8) 0, D.own 3 (out ++ [I at_] ++ [I x53]), D.dat (B false), D.dat (Dat.lst b ns), D.dat (I (ns.length : Int)), D.dat (I (w64 (i + 1)))] [none, some [D.dat (I o), D.own 41 cs, D.dat (Dat.lst b rs), D.dat (Dat.lst b ns)], some [D.dat (I 0), D.own 41 [], D.own 3 [], D.own 3 []], none, none, none, none, none] [] [] → zai (zaf cfg kk 15 Try.f15) kk (lp Try.f15 8) m s K)) (q2 : (decide (i < (ns.length : Int)) = true) → (put = true) → (decide (at_ < x53) = false) → ((0 ≤ i ∧ i < (ns.length : Int)) ∧ ns[i.toNat]? = some (I x53)) ∧ (out.length + 1 ≤ 2147483648) ∧ (∀ s : St, s.norm ((zaf cfg kk 15 Try.f15).live (zaa (lp Try.f15 8))) = Nm [1, 4, 8, 9, 10, 49, 50, 51] [D.dat (I at_), D.ptr (Ref.loc 4) 0, D.ptr (Ref.loc 8) 0, D.own 3 (out ++ [I x53]), D.dat (B put), D.dat (Dat.lst b ns), D.dat (I (ns.length : Int)), D.dat (I (w64 (i + 1)))] [none, some [D.dat (I o), D.own 41 cs, D.dat (Dat.lst b rs), D.dat (Dat.lst b ns)], some [D.dat (I 0), D.own 41 [], D.own 3 [], D.own 3 []], none, none, none, none, none] [] [] → zai (zaf cfg kk 15 Try.f15) kk (lp Try.f15 8) m s K)) (q3 : (decide (i < (ns.length : Int)) = true) → (put = false) → ((0 ≤ i ∧ i < (ns.length : Int)) ∧ ns[i.toNat]? = some (I x53)) ∧ (out.length + 1 ≤ 2147483648) ∧ (∀ s : St, s.norm ((zaf cfg kk 15 Try.f15).live (zaa (lp Try.f15 8))) = Nm [1, 4, 8, 9, 10, 49, 50, 51] [D.dat (I at_), D.ptr (Ref.loc 4) 0, D.ptr (Ref.loc 8) 0, D.own 3 (out ++ [I x53]), D.dat (B put), D.dat (Dat.lst b ns), D.dat (I (ns.length : Int)), D.dat (I (w64 (i + 1)))] [none, some [D.dat (I o), D.own 41 cs, D.dat (Dat.lst b rs), D.dat (Dat.lst b ns)], some [D.dat (I 0), D.own 41 [], D.own 3 [], D.own 3 []], none, none, none, none, none] [] [] → zai (zaf cfg kk 15 Try.f15) kk (lp Try.f15 8) m s K)) (q4 : (decide (i < (ns.length : Int)) = false) → K (X.exit 0) (Nm [1, 4, 8, 9, 10] [D.dat (I at_), D.ptr (Ref.loc 4) 0, D.ptr (Ref.loc 8) 0, D.own 3 out, D.dat (B put)] [none, some [D.dat (I o), D.own 41 cs, D.dat (Dat.lst b rs), D.dat (Dat.lst b ns)], some [D.dat (I 0), D.own 41 [], D.own 3 [], D.own 3 []], none, none] [] [])) : zai (zaf cfg kk 15 Try.f15) kk (lp Try.f15 8) (m + 1) s K := by
 rcases Bool.eq_false_or_eq_true (decide (i < (ns.length : Int))) with d1 | d1
 · rcases Bool.eq_false_or_eq_true (put) with d3 | d3
   · rcases Bool.eq_false_or_eq_true (decide (at_ < x53)) with d6 | d6
     · obtain ⟨hz1, hz2, hz3, oz⟩ := q1 d1 d3 d6
       exact zaj [(53, .at (I x53)), (64, .ok), (68, .ok), (200052, .yes), (200056, .yes), (200060, .yes)] hs (by kernel_rfl) (ob d1 (ob hz1 (ob d3 (ob (rfl : true = true) (ob (rfl : true = true) (ob d6 (ob (obT hz2) (ob (obT hz3) ob0)))))))) (by kernel_rfl) oz
     · obtain ⟨hz1, hz2, oz⟩ := q2 d1 d3 d6
       exact zaj [(53, .at (I x53)), (64, .ok), (68, .ok), (200052, .yes), (200056, .yes), (200060, .no)] hs (by kernel_rfl) (ob d1 (ob hz1 (ob d3 (ob (rfl : true = true) (ob (rfl : true = true) (ob d6 (ob (obT hz2) ob0))))))) (by kernel_rfl) oz
   · obtain ⟨hz1, hz2, oz⟩ := q3 d1 d3
     exact zaj [(53, .at (I x53)), (64, .ok), (68, .ok), (200052, .yes), (200056, .no)] hs (by kernel_rfl) (ob d1 (ob hz1 (ob d3 (ob (rfl : false = false) (ob (rfl : false = false) (ob (obT hz2) ob0)))))) (by kernel_rfl) oz
 · have oz := q4 d1
   exact zac [(53, .at (I x53)), (64, .ok), (68, .ok), (200052, .no)] hs (by kernel_rfl) rfl (ob d1 ob0) (by kernel_rfl) oz
def ou58 (b : Bool) (o : Int) (cs rs ns : List Dat) (at_ : Int) (out : List Dat) (put : Bool) : St := Nm [1, 4, 8, 9, 10] [.dat (I at_), .ptr (.loc 4) 0, .ptr (.loc 8) 0, .own 3 out, .dat (B put)] [none, some [.dat (I o), .own 41 cs, .dat (.lst b rs), .dat (.lst b ns)], some (Yo 0 [] [] []), none, none] [] []
theorem lhSet (kk : Nat) (b : Bool) (o : Int) (cs rs ns : List Dat) (at_ : Int) (second : Bool) (to : Int) (cs' : List Dat) (put0 : Bool) (out : List Dat) (put : Bool) (c100024 : Cl) (c100030 : Cl) (g45 : Bool) {r : Res} (q1 : (second = true) → (decide (at_ < o) = true) → (decide (o ≤ to) = true) → (put = true) → ((cs.all fun d => d.cells.length.beq (TI.mk TK.struct 4 32 [(0, 4), (1, 3), (2, 3), (3, 3)] [D.dat (B false), D.dat (I 0), D.dat (I 0), D.dat (I 0)]).sz) = true ∧ 0 + cs.length ≤ 2147483648) ∧ (0 ≤ at_ ∧ at_ < (([] ++ cs).length : Int)) ∧ (([] ++ cs)[at_.toNat]? = some (Dat.agg [B c100024.l, I c100024.n, I c100024.a, I c100024.b])) ∧ (den cfg kk 28 [D.dat (Dat.lst b ns), D.dat (I at_)] [] [] = some ([D.dat (B g45)], [], [])) ∧ (Nm [1, 4, 8, 9, 10, 49, 50, 51] [D.dat (I at_), D.ptr (Ref.loc 4) 0, D.ptr (Ref.loc 8) 0, D.own 3 [], D.dat (B !g45), D.dat (Dat.lst b ns), D.dat (I (ns.length : Int)), D.dat (I 0)] [none, some [D.dat (I o), D.own 41 (([] ++ cs).set at_.toNat (Dat.agg [B c100024.l, I c100024.n, I c100024.a, I to])), D.dat (Dat.lst b rs), D.dat (Dat.lst b ns)], some [D.dat (I 0), D.own 41 [], D.own 3 [], D.own 3 []], none, none, none, none, none] [] [] = hd58 b o cs' rs ns at_ [] put0 0) ∧ (zam cfg kk 15 Try.f15 8 (hd58 b o cs' rs ns at_ [] put0 0) (X.exit 0) (ou58 b o cs' rs ns at_ out put)) ∧ (out.length + 1 ≤ 2147483648) ∧ ((rs.all fun d => d.cells.length.beq (TI.mk (TK.int IntKind.i64) 1 8 [] [D.dat (I 0)]).sz) = true ∧ 0 + rs.length ≤ 2147483648) ∧ r = ([D.seq false [D.dat (I o), D.own 41 cs', D.own 3 ([] ++ rs), D.own 3 (out ++ [I at_])]], [], [])) (q2 : (second = true) → (decide (at_ < o) = true) → (decide (o ≤ to) = true) → (put = false) → ((cs.all fun d => d.cells.length.beq (TI.mk TK.struct 4 32 [(0, 4), (1, 3), (2, 3), (3, 3)] [D.dat (B false), D.dat (I 0), D.dat (I 0), D.dat (I 0)]).sz) = true ∧ 0 + cs.length ≤ 2147483648) ∧ (0 ≤ at_ ∧ at_ < (([] ++ cs).length : Int)) ∧ (([] ++ cs)[at_.toNat]? = some (Dat.agg [B c100024.l, I c100024.n, I c100024.a, I c100024.b])) ∧ (den cfg kk 28 [D.dat (Dat.lst b ns), D.dat (I at_)] [] [] = some ([D.dat (B g45)], [], [])) ∧ (Nm [1, 4, 8, 9, 10, 49, 50, 51] [D.dat (I at_), D.ptr (Ref.loc 4) 0, D.ptr (Ref.loc 8) 0, D.own 3 [], D.dat (B !g45), D.dat (Dat.lst b ns), D.dat (I (ns.length : Int)), D.dat (I 0)] [none, some [D.dat (I o), D.own 41 (([] ++ cs).set at_.toNat (Dat.agg [B c100024.l, I c100024.n, I c100024.a, I to])), D.dat (Dat.lst b rs), D.dat (Dat.lst b ns)], some [D.dat (I 0), D.own 41 [], D.own 3 [], D.own 3 []], none, none, none, none, none] [] [] = hd58 b o cs' rs ns at_ [] put0 0) ∧ (zam cfg kk 15 Try.f15 8 (hd58 b o cs' rs ns at_ [] put0 0) (X.exit 0) (ou58 b o cs' rs ns at_ out put)) ∧ ((rs.all fun d => d.cells.length.beq (TI.mk (TK.int IntKind.i64) 1 8 [] [D.dat (I 0)]).sz) = true ∧ 0 + rs.length ≤ 2147483648) ∧ r = ([D.seq false [D.dat (I o), D.own 41 cs', D.own 3 ([] ++ rs), D.own 3 out]], [], [])) (q3 : (second = true) → (decide (at_ < o) = true) → (decide (o ≤ to) = false) → (put = true) → ((cs.all fun d => d.cells.length.beq (TI.mk TK.struct 4 32 [(0, 4), (1, 3), (2, 3), (3, 3)] [D.dat (B false), D.dat (I 0), D.dat (I 0), D.dat (I 0)]).sz) = true ∧ 0 + cs.length ≤ 2147483648) ∧ (0 ≤ at_ ∧ at_ < (([] ++ cs).length : Int)) ∧ (([] ++ cs)[at_.toNat]? = some (Dat.agg [B c100024.l, I c100024.n, I c100024.a, I c100024.b])) ∧ (Nm [1, 4, 8, 9, 10, 49, 50, 51] [D.dat (I at_), D.ptr (Ref.loc 4) 0, D.ptr (Ref.loc 8) 0, D.own 3 [], D.dat (B false), D.dat (Dat.lst b ns), D.dat (I (ns.length : Int)), D.dat (I 0)] [none, some [D.dat (I o), D.own 41 (([] ++ cs).set at_.toNat (Dat.agg [B c100024.l, I c100024.n, I c100024.a, I to])), D.dat (Dat.lst b rs), D.dat (Dat.lst b ns)], some [D.dat (I 0), D.own 41 [], D.own 3 [], D.own 3 []], none, none, none, none, none] [] [] = hd58 b o cs' rs ns at_ [] put0 0) ∧ (zam cfg kk 15 Try.f15 8 (hd58 b o cs' rs ns at_ [] put0 0) (X.exit 0) (ou58 b o cs' rs ns at_ out put)) ∧ (out.length + 1 ≤ 2147483648) ∧ ((rs.all fun d => d.cells.length.beq (TI.mk (TK.int IntKind.i64) 1 8 [] [D.dat (I 0)]).sz) = true ∧ 0 + rs.length ≤ 2147483648) ∧ r = ([D.seq false [D.dat (I o), D.own 41 cs', D.own 3 ([] ++ rs), D.own 3 (out ++ [I at_])]], [], [])) (q4 : (second = true) → (decide (at_ < o) = true) → (decide (o ≤ to) = false) → (put = false) → ((cs.all fun d => d.cells.length.beq (TI.mk TK.struct 4 32 [(0, 4), (1, 3), (2, 3), (3, 3)] [D.dat (B false), D.dat (I 0), D.dat (I 0), D.dat (I 0)]).sz) = true ∧ 0 + cs.length ≤ 2147483648) ∧ (0 ≤ at_ ∧ at_ < (([] ++ cs).length : Int)) ∧ (([] ++ cs)[at_.toNat]? = some (Dat.agg [B c100024.l, I c100024.n, I c100024.a, I c100024.b])) ∧ (Nm [1, 4, 8, 9, 10, 49, 50, 51] [D.dat (I at_), D.ptr (Ref.loc 4) 0, D.ptr (Ref.loc 8) 0, D.own 3 [], D.dat (B false), D.dat (Dat.lst b ns), D.dat (I (ns.length : Int)), D.dat (I 0)] [none, some [D.dat (I o), D.own 41 (([] ++ cs).set at_.toNat (Dat.agg [B c100024.l, I c100024.n, I c100024.a, I to])), D.dat (Dat.lst b rs), D.dat (Dat.lst b ns)], some [D.dat (I 0), D.own 41 [], D.own 3 [], D.own 3 []], none, none, none, none, none] [] [] = hd58 b o cs' rs ns at_ [] put0 0) ∧ (zam cfg kk 15 Try.f15 8 (hd58 b o cs' rs ns at_ [] put0 0) (X.exit 0) (ou58 b o cs' rs ns at_ out put)) ∧ ((rs.all fun d => d.cells.length.beq (TI.mk (TK.int IntKind.i64) 1 8 [] [D.dat (I 0)]).sz) = true ∧ 0 + rs.length ≤ 2147483648) ∧ r = ([D.seq false [D.dat (I o), D.own 41 cs', D.own 3 ([] ++ rs), D.own 3 out]], [], [])) (q5 : (second = true) → (decide (at_ < o) = false) → (put = true) → ((cs.all fun d => d.cells.length.beq (TI.mk TK.struct 4 32 [(0, 4), (1, 3), (2, 3), (3, 3)] [D.dat (B false), D.dat (I 0), D.dat (I 0), D.dat (I 0)]).sz) = true ∧ 0 + cs.length ≤ 2147483648) ∧ (0 ≤ at_ ∧ at_ < (([] ++ cs).length : Int)) ∧ (([] ++ cs)[at_.toNat]? = some (Dat.agg [B c100024.l, I c100024.n, I c100024.a, I c100024.b])) ∧ (Nm [1, 4, 8, 9, 10, 49, 50, 51] [D.dat (I at_), D.ptr (Ref.loc 4) 0, D.ptr (Ref.loc 8) 0, D.own 3 [], D.dat (B false), D.dat (Dat.lst b ns), D.dat (I (ns.length : Int)), D.dat (I 0)] [none, some [D.dat (I o), D.own 41 (([] ++ cs).set at_.toNat (Dat.agg [B c100024.l, I c100024.n, I c100024.a, I to])), D.dat (Dat.lst b rs), D.dat (Dat.lst b ns)], some [D.dat (I 0), D.own 41 [], D.own 3 [], D.own 3 []], none, none, none, none, none] [] [] = hd58 b o cs' rs ns at_ [] put0 0) ∧ (zam cfg kk 15 Try.f15 8 (hd58 b o cs' rs ns at_ [] put0 0) (X.exit 0) (ou58 b o cs' rs ns at_ out put)) ∧ (out.length + 1 ≤ 2147483648) ∧ ((rs.all fun d => d.cells.length.beq (TI.mk (TK.int IntKind.i64) 1 8 [] [D.dat (I 0)]).sz) = true ∧ 0 + rs.length ≤ 2147483648) ∧ r = ([D.seq false [D.dat (I o), D.own 41 cs', D.own 3 ([] ++ rs), D.own 3 (out ++ [I at_])]], [], [])) (q6 : (second = true) → (decide (at_ < o) = false) → (put = false) → ((cs.all fun d => d.cells.length.beq (TI.mk TK.struct 4 32 [(0, 4), (1, 3), (2, 3), (3, 3)] [D.dat (B false), D.dat (I 0), D.dat (I 0), D.dat (I 0)]).sz) = true ∧ 0 + cs.length ≤ 2147483648) ∧ (0 ≤ at_ ∧ at_ < (([] ++ cs).length : Int)) ∧ (([] ++ cs)[at_.toNat]? = some (Dat.agg [B c100024.l, I c100024.n, I c100024.a, I c100024.b])) ∧ (Nm [1, 4, 8, 9, 10, 49, 50, 51] [D.dat (I at_), D.ptr (Ref.loc 4) 0, D.ptr (Ref.loc 8) 0, D.own 3 [], D.dat (B false), D.dat (Dat.lst b ns), D.dat (I (ns.length : Int)), D.dat (I 0)] [none, some [D.dat (I o), D.own 41 (([] ++ cs).set at_.toNat (Dat.agg [B c100024.l, I c100024.n, I c100024.a, I to])), D.dat (Dat.lst b rs), D.dat (Dat.lst b ns)], some [D.dat (I 0), D.own 41 [], D.own 3 [], D.own 3 []], none, none, none, none, none] [] [] = hd58 b o cs' rs ns at_ [] put0 0) ∧ (zam cfg kk 15 Try.f15 8 (hd58 b o cs' rs ns at_ [] put0 0) (X.exit 0) (ou58 b o cs' rs ns at_ out put)) ∧ ((rs.all fun d => d.cells.length.beq (TI.mk (TK.int IntKind.i64) 1 8 [] [D.dat (I 0)]).sz) = true ∧ 0 + rs.length ≤ 2147483648) ∧ r = ([D.seq false [D.dat (I o), D.own 41 cs', D.own 3 ([] ++ rs), D.own 3 out]], [], [])) (q7 : (second = false) → (decide (at_ < o) = true) → (decide (o ≤ to) = true) → (put = true) → ((cs.all fun d => d.cells.length.beq (TI.mk TK.struct 4 32 [(0, 4), (1, 3), (2, 3), (3, 3)] [D.dat (B false), D.dat (I 0), D.dat (I 0), D.dat (I 0)]).sz) = true ∧ 0 + cs.length ≤ 2147483648) ∧ (0 ≤ at_ ∧ at_ < (([] ++ cs).length : Int)) ∧ (([] ++ cs)[at_.toNat]? = some (Dat.agg [B c100030.l, I c100030.n, I c100030.a, I c100030.b])) ∧ (den cfg kk 28 [D.dat (Dat.lst b ns), D.dat (I at_)] [] [] = some ([D.dat (B g45)], [], [])) ∧ (Nm [1, 4, 8, 9, 10, 49, 50, 51] [D.dat (I at_), D.ptr (Ref.loc 4) 0, D.ptr (Ref.loc 8) 0, D.own 3 [], D.dat (B !g45), D.dat (Dat.lst b ns), D.dat (I (ns.length : Int)), D.dat (I 0)] [none, some [D.dat (I o), D.own 41 (([] ++ cs).set at_.toNat (Dat.agg [B c100030.l, I c100030.n, I to, I c100030.b])), D.dat (Dat.lst b rs), D.dat (Dat.lst b ns)], some [D.dat (I 0), D.own 41 [], D.own 3 [], D.own 3 []], none, none, none, none, none] [] [] = hd58 b o cs' rs ns at_ [] put0 0) ∧ (zam cfg kk 15 Try.f15 8 (hd58 b o cs' rs ns at_ [] put0 0) (X.exit 0) (ou58 b o cs' rs ns at_ out put)) ∧ (out.length + 1 ≤ 2147483648) ∧ ((rs.all fun d => d.cells.length.beq (TI.mk (TK.int IntKind.i64) 1 8 [] [D.dat (I 0)]).sz) = true ∧ 0 + rs.length ≤ 2147483648) ∧ r = ([D.seq false [D.dat (I o), D.own 41 cs', D.own 3 ([] ++ rs), D.own 3 (out ++ [I at_])]], [], [])) (q8 : (second = false) → (decide (at_ < o) = true) → (decide (o ≤ to) = true) → (put = false) → ((cs.all fun d => d.cells.length.beq (TI.mk TK.struct 4 32 [(0, 4), (1, 3), (2, 3), (3, 3)] [D.dat (B false), D.dat (I 0), D.dat (I 0), D.dat (I 0)]).sz) = true ∧ 0 + cs.length ≤ 2147483648) ∧ (0 ≤ at_ ∧ at_ < (([] ++ cs).length : Int)) ∧ (([] ++ cs)[at_.toNat]? = some (Dat.agg [B c100030.l, I c100030.n, I c100030.a, I c100030.b])) ∧ (den cfg kk 28 [D.dat (Dat.lst b ns), D.dat (I at_)] [] [] = some ([D.dat (B g45)], [], [])) ∧ (Nm [1, 4, 8, 9, 10, 49, 50, 51] [D.dat (I at_), D.ptr (Ref.loc 4) 0, D.ptr (Ref.loc 8) 0, D.own 3 [], D.dat (B !g45), D.dat (Dat.lst b ns), D.dat (I (ns.length : Int)), D.dat (I 0)] [none, some [D.dat (I o), D.own 41 (([] ++ cs).set at_.toNat (Dat.agg [B c100030.l, I c100030.n, I to, I c100030.b])), D.dat (Dat.lst b rs), D.dat (Dat.lst b ns)], some [D.dat (I 0), D.own 41 [], D.own 3 [], D.own 3 []], none, none, none, none, none] [] [] = hd58 b o cs' rs ns at_ [] put0 0) ∧ (zam cfg kk 15 Try.f15 8 (hd58 b o cs' rs ns at_ [] put0 0) (X.exit 0) (ou58 b o cs' rs ns at_ out put)) ∧ ((rs.all fun d => d.cells.length.beq (TI.mk (TK.int IntKind.i64) 1 8 [] [D.dat (I 0)]).sz) = true ∧ 0 + rs.length ≤ 2147483648) ∧ r = ([D.seq false [D.dat (I o), D.own 41 cs', D.own 3 ([] ++ rs), D.own 3 out]], [], [])) (q9 : (second = false) → (decide (at_ < o) = true) → (decide (o ≤ to) = false) → (put = true) → ((cs.all fun d => d.cells.length.beq (TI.mk TK.struct 4 32 [(0, 4), (1, 3), (2, 3), (3, 3)] [D.dat (B false), D.dat (I 0), D.dat (I 0), D.dat (I 0)]).sz) = true ∧ 0 + cs.length ≤ 2147483648) ∧ (0 ≤ at_ ∧ at_ < (([] ++ cs).length : Int)) ∧ (([] ++ cs)[at_.toNat]? = some (Dat.agg [B c100030.l, I c100030.n, I c100030.a, I c100030.b])) ∧ (Nm [1, 4, 8, 9, 10, 49, 50, 51] [D.dat (I at_), D.ptr (Ref.loc 4) 0, D.ptr (Ref.loc 8) 0, D.own 3 [], D.dat (B false), D.dat (Dat.lst b ns), D.dat (I (ns.length : Int)), D.dat (I 0)] [none, some [D.dat (I o), D.own 41 (([] ++ cs).set at_.toNat (Dat.agg [B c100030.l, I c100030.n, I to, I c100030.b])), D.dat (Dat.lst b rs), D.dat (Dat.lst b ns)], some [D.dat (I 0), D.own 41 [], D.own 3 [], D.own 3 []], none, none, none, none, none] [] [] = hd58 b o cs' rs ns at_ [] put0 0) ∧ (zam cfg kk 15 Try.f15 8 (hd58 b o cs' rs ns at_ [] put0 0) (X.exit 0) (ou58 b o cs' rs ns at_ out put)) ∧ (out.length + 1 ≤ 2147483648) ∧ ((rs.all fun d => d.cells.length.beq (TI.mk (TK.int IntKind.i64) 1 8 [] [D.dat (I 0)]).sz) = true ∧ 0 + rs.length ≤ 2147483648) ∧ r = ([D.seq false [D.dat (I o), D.own 41 cs', D.own 3 ([] ++ rs), D.own 3 (out ++ [I at_])]], [], [])) (q10 : (second = false) → (decide (at_ < o) = true) → (decide (o ≤ to) = false) → (put = false) → ((cs.all fun d => d.cells.length.beq (TI.mk TK.struct 4 32 [(0, 4), (1, 3), (2, 3), (3, 3)] [D.dat (B false), D.dat (I 0), D.dat (I 0), D.dat (I 0)]).sz) = true ∧ 0 + cs.length ≤ 2147483648) ∧ (0 ≤ at_ ∧ at_ < (([] ++ cs).length : Int)) ∧ (([] ++ cs)[at_.toNat]? = some (Dat.agg [B c100030.l, I c100030.n, I c100030.a, I c100030.b])) ∧ (Nm [1, 4, 8, 9, 10, 49, 50, 51] [D.dat (I at_), D.ptr (Ref.loc 4) 0, D.ptr (Ref.loc 8) 0, D.own 3 [], D.dat (B false), D.dat (Dat.lst b ns), D.dat (I (ns.length : Int)), D.dat (I 0)] [none, some [D.dat (I o), D.own 41 (([] ++ cs).set at_.toNat (Dat.agg [B c100030.l, I c100030.n, I to, I c100030.b])), D.dat (Dat.lst b rs), D.dat (Dat.lst b ns)], some [D.dat (I 0), D.own 41 [], D.own 3 [], D.own 3 []], none, none, none, none, none] [] [] = hd58 b o cs' rs ns at_ [] put0 0) ∧ (zam cfg kk 15 Try.f15 8 (hd58 b o cs' rs ns at_ [] put0 0) (X.exit 0) (ou58 b o cs' rs ns at_ out put)) ∧ ((rs.all fun d => d.cells.length.beq (TI.mk (TK.int IntKind.i64) 1 8 [] [D.dat (I 0)]).sz) = true ∧ 0 + rs.length ≤ 2147483648) ∧ r = ([D.seq false [D.dat (I o), D.own 41 cs', D.own 3 ([] ++ rs), D.own 3 out]], [], [])) (q11 : (second = false) → (decide (at_ < o) = false) → (put = true) → ((cs.all fun d => d.cells.length.beq (TI.mk TK.struct 4 32 [(0, 4), (1, 3), (2, 3), (3, 3)] [D.dat (B false), D.dat (I 0), D.dat (I 0), D.dat (I 0)]).sz) = true ∧ 0 + cs.length ≤ 2147483648) ∧ (0 ≤ at_ ∧ at_ < (([] ++ cs).length : Int)) ∧ (([] ++ cs)[at_.toNat]? = some (Dat.agg [B c100030.l, I c100030.n, I c100030.a, I c100030.b])) ∧ (Nm [1, 4, 8, 9, 10, 49, 50, 51] [D.dat (I at_), D.ptr (Ref.loc 4) 0, D.ptr (Ref.loc 8) 0, D.own 3 [], D.dat (B false), D.dat (Dat.lst b ns), D.dat (I (ns.length : Int)), D.dat (I 0)] [none, some [D.dat (I o), D.own 41 (([] ++ cs).set at_.toNat (Dat.agg [B c100030.l, I c100030.n, I to, I c100030.b])), D.dat (Dat.lst b rs), D.dat (Dat.lst b ns)], some [D.dat (I 0), D.own 41 [], D.own 3 [], D.own 3 []], none, none, none, none, none] [] [] = hd58 b o cs' rs ns at_ [] put0 0) ∧ (zam cfg kk 15 Try.f15 8 (hd58 b o cs' rs ns at_ [] put0 0) (X.exit 0) (ou58 b o cs' rs ns at_ out put)) ∧ (out.length + 1 ≤ 2147483648) ∧ ((rs.all fun d => d.cells.length.beq (TI.mk (TK.int IntKind.i64) 1 8 [] [D.dat (I 0)]).sz) = true ∧ 0 + rs.length ≤ 2147483648) ∧ r = ([D.seq false [D.dat (I o), D.own 41 cs', D.own 3 ([] ++ rs), D.own 3 (out ++ [I at_])]], [], [])) (q12 : (second = false) → (decide (at_ < o) = false) → (put = false) → ((cs.all fun d => d.cells.length.beq (TI.mk TK.struct 4 32 [(0, 4), (1, 3), (2, 3), (3, 3)] [D.dat (B false), D.dat (I 0), D.dat (I 0), D.dat (I 0)]).sz) = true ∧ 0 + cs.length ≤ 2147483648) ∧ (0 ≤ at_ ∧ at_ < (([] ++ cs).length : Int)) ∧ (([] ++ cs)[at_.toNat]? = some (Dat.agg [B c100030.l, I c100030.n, I c100030.a, I c100030.b])) ∧ (Nm [1, 4, 8, 9, 10, 49, 50, 51] [D.dat (I at_), D.ptr (Ref.loc 4) 0, D.ptr (Ref.loc 8) 0, D.own 3 [], D.dat (B false), D.dat (Dat.lst b ns), D.dat (I (ns.length : Int)), D.dat (I 0)] [none, some [D.dat (I o), D.own 41 (([] ++ cs).set at_.toNat (Dat.agg [B c100030.l, I c100030.n, I to, I c100030.b])), D.dat (Dat.lst b rs), D.dat (Dat.lst b ns)], some [D.dat (I 0), D.own 41 [], D.own 3 [], D.own 3 []], none, none, none, none, none] [] [] = hd58 b o cs' rs ns at_ [] put0 0) ∧ (zam cfg kk 15 Try.f15 8 (hd58 b o cs' rs ns at_ [] put0 0) (X.exit 0) (ou58 b o cs' rs ns at_ out put)) ∧ ((rs.all fun d => d.cells.length.beq (TI.mk (TK.int IntKind.i64) 1 8 [] [D.dat (I 0)]).sz) = true ∧ 0 + rs.length ≤ 2147483648) ∧ r = ([D.seq false [D.dat (I o), D.own 41 cs', D.own 3 ([] ++ rs), D.own 3 out]], [], [])) : zaC cfg kk (den cfg kk) 15 Try.f15 [.dat (Yd b o cs rs ns), .dat (I at_), .dat (B second), .dat (I to)] [] [] = some r := by
 rcases Bool.eq_false_or_eq_true (second) with d2 | d2
 · rcases Bool.eq_false_or_eq_true (decide (at_ < o)) with d5 | d5
   · rcases Bool.eq_false_or_eq_true (decide (o ≤ to)) with d9 | d9
     · rcases Bool.eq_false_or_eq_true (put) with d17 | d17
       · obtain ⟨hz1, hz2, hz3, hz4, hz5, hz6, hz7, hz8, oz⟩ := q1 d2 d5 d9 d17
         subst oz; exact zab [(300008, .loop (hd58 b o cs' rs ns at_ [] put0 0) (.exit 0) (ou58 b o cs' rs ns at_ out put)), (16, .ok), (23, .ok), (29, .ok), (100024, .at (c100024.d)), (100030, .at (c100030.d)), (45, .ret [.dat (B g45)]), (74, .ok), (80, .ok), (200018, .yes), (200035, .yes), (200041, .yes), (200070, .yes)] (ob hz1 (ob d2 (ob hz2 (ob hz3 (ob d5 (ob (rfl : true = true) (ob (rfl : true = true) (ob (rfl : true = true) (ob d9 (ob (rfl : true = true) (ob (rfl : true = true) (ob (rfl : true = true) (ob hz4 (ob (rfl : true = true) (ob hz5 (ob hz6 (ob d17 (ob (obT hz7) (ob hz8 ob0))))))))))))))))))) (by kernel_rfl)
       · obtain ⟨hz1, hz2, hz3, hz4, hz5, hz6, hz7, oz⟩ := q2 d2 d5 d9 d17
         subst oz; exact zab [(300008, .loop (hd58 b o cs' rs ns at_ [] put0 0) (.exit 0) (ou58 b o cs' rs ns at_ out put)), (16, .ok), (23, .ok), (29, .ok), (100024, .at (c100024.d)), (100030, .at (c100030.d)), (45, .ret [.dat (B g45)]), (74, .ok), (80, .ok), (200018, .yes), (200035, .yes), (200041, .yes), (200070, .no)] (ob hz1 (ob d2 (ob hz2 (ob hz3 (ob d5 (ob (rfl : true = true) (ob (rfl : true = true) (ob (rfl : true = true) (ob d9 (ob (rfl : true = true) (ob (rfl : true = true) (ob (rfl : true = true) (ob hz4 (ob (rfl : true = true) (ob hz5 (ob hz6 (ob d17 (ob hz7 ob0)))))))))))))))))) (by kernel_rfl)
     · rcases Bool.eq_false_or_eq_true (put) with d16 | d16
       · obtain ⟨hz1, hz2, hz3, hz4, hz5, hz6, hz7, oz⟩ := q3 d2 d5 d9 d16
         subst oz; exact zab [(300008, .loop (hd58 b o cs' rs ns at_ [] put0 0) (.exit 0) (ou58 b o cs' rs ns at_ out put)), (16, .ok), (23, .ok), (29, .ok), (100024, .at (c100024.d)), (100030, .at (c100030.d)), (45, .ret [.dat (B g45)]), (74, .ok), (80, .ok), (200018, .yes), (200035, .yes), (200041, .no), (200070, .yes)] (ob hz1 (ob d2 (ob hz2 (ob hz3 (ob d5 (ob (rfl : true = true) (ob (rfl : true = true) (ob (rfl : true = true) (ob d9 (ob (rfl : false = false) (ob (rfl : false = false) (ob (rfl : false = false) (ob (rfl : false = false) (ob hz4 (ob hz5 (ob d16 (ob (obT hz6) (ob hz7 ob0)))))))))))))))))) (by kernel_rfl)
       · obtain ⟨hz1, hz2, hz3, hz4, hz5, hz6, oz⟩ := q4 d2 d5 d9 d16
         subst oz; exact zab [(300008, .loop (hd58 b o cs' rs ns at_ [] put0 0) (.exit 0) (ou58 b o cs' rs ns at_ out put)), (16, .ok), (23, .ok), (29, .ok), (100024, .at (c100024.d)), (100030, .at (c100030.d)), (45, .ret [.dat (B g45)]), (74, .ok), (80, .ok), (200018, .yes), (200035, .yes), (200041, .no), (200070, .no)] (ob hz1 (ob d2 (ob hz2 (ob hz3 (ob d5 (ob (rfl : true = true) (ob (rfl : true = true) (ob (rfl : true = true) (ob d9 (ob (rfl : false = false) (ob (rfl : false = false) (ob (rfl : false = false) (ob (rfl : false = false) (ob hz4 (ob hz5 (ob d16 (ob hz6 ob0))))))))))))))))) (by kernel_rfl)
   · rcases Bool.eq_false_or_eq_true (put) with d11 | d11
     · obtain ⟨hz1, hz2, hz3, hz4, hz5, hz6, hz7, oz⟩ := q5 d2 d5 d11
       subst oz; exact zab [(300008, .loop (hd58 b o cs' rs ns at_ [] put0 0) (.exit 0) (ou58 b o cs' rs ns at_ out put)), (16, .ok), (23, .ok), (29, .ok), (100024, .at (c100024.d)), (100030, .at (c100030.d)), (45, .ret [.dat (B g45)]), (74, .ok), (80, .ok), (200018, .yes), (200035, .no), (200070, .yes)] (ob hz1 (ob d2 (ob hz2 (ob hz3 (ob d5 (ob (rfl : false = false) (ob (rfl : false = false) (ob (rfl : false = false) (ob hz4 (ob hz5 (ob d11 (ob (obT hz6) (ob hz7 ob0))))))))))))) (by kernel_rfl)
     · obtain ⟨hz1, hz2, hz3, hz4, hz5, hz6, oz⟩ := q6 d2 d5 d11
       subst oz; exact zab [(300008, .loop (hd58 b o cs' rs ns at_ [] put0 0) (.exit 0) (ou58 b o cs' rs ns at_ out put)), (16, .ok), (23, .ok), (29, .ok), (100024, .at (c100024.d)), (100030, .at (c100030.d)), (45, .ret [.dat (B g45)]), (74, .ok), (80, .ok), (200018, .yes), (200035, .no), (200070, .no)] (ob hz1 (ob d2 (ob hz2 (ob hz3 (ob d5 (ob (rfl : false = false) (ob (rfl : false = false) (ob (rfl : false = false) (ob hz4 (ob hz5 (ob d11 (ob hz6 ob0)))))))))))) (by kernel_rfl)
 · rcases Bool.eq_false_or_eq_true (decide (at_ < o)) with d5 | d5
   · rcases Bool.eq_false_or_eq_true (decide (o ≤ to)) with d9 | d9
     · rcases Bool.eq_false_or_eq_true (put) with d17 | d17
       · obtain ⟨hz1, hz2, hz3, hz4, hz5, hz6, hz7, hz8, oz⟩ := q7 d2 d5 d9 d17
         subst oz; exact zab [(300008, .loop (hd58 b o cs' rs ns at_ [] put0 0) (.exit 0) (ou58 b o cs' rs ns at_ out put)), (16, .ok), (23, .ok), (29, .ok), (100024, .at (c100024.d)), (100030, .at (c100030.d)), (45, .ret [.dat (B g45)]), (74, .ok), (80, .ok), (200018, .no), (200035, .yes), (200041, .yes), (200070, .yes)] (ob hz1 (ob d2 (ob hz2 (ob hz3 (ob d5 (ob (rfl : true = true) (ob (rfl : true = true) (ob (rfl : true = true) (ob d9 (ob (rfl : true = true) (ob (rfl : true = true) (ob (rfl : true = true) (ob hz4 (ob (rfl : true = true) (ob hz5 (ob hz6 (ob d17 (ob (obT hz7) (ob hz8 ob0))))))))))))))))))) (by kernel_rfl)
       · obtain ⟨hz1, hz2, hz3, hz4, hz5, hz6, hz7, oz⟩ := q8 d2 d5 d9 d17
         subst oz; exact zab [(300008, .loop (hd58 b o cs' rs ns at_ [] put0 0) (.exit 0) (ou58 b o cs' rs ns at_ out put)), (16, .ok), (23, .ok), (29, .ok), (100024, .at (c100024.d)), (100030, .at (c100030.d)), (45, .ret [.dat (B g45)]), (74, .ok), (80, .ok), (200018, .no), (200035, .yes), (200041, .yes), (200070, .no)] (ob hz1 (ob d2 (ob hz2 (ob hz3 (ob d5 (ob (rfl : true = true) (ob (rfl : true = true) (ob (rfl : true = true) (ob d9 (ob (rfl : true = true) (ob (rfl : true = true) (ob (rfl : true = true) (ob hz4 (ob (rfl : true = true) (ob hz5 (ob hz6 (ob d17 (ob hz7 ob0)))))))))))))))))) (by kernel_rfl)
     · rcases Bool.eq_false_or_eq_true (put) with d16 | d16
       · obtain ⟨hz1, hz2, hz3, hz4, hz5, hz6, hz7, oz⟩ := q9 d2 d5 d9 d16
         subst oz; exact zab [(300008, .loop (hd58 b o cs' rs ns at_ [] put0 0) (.exit 0) (ou58 b o cs' rs ns at_ out put)), (16, .ok), (23, .ok), (29, .ok), (100024, .at (c100024.d)), (100030, .at (c100030.d)), (45, .ret [.dat (B g45)]), (74, .ok), (80, .ok), (200018, .no), (200035, .yes), (200041, .no), (200070, .yes)] (ob hz1 (ob d2 (ob hz2 (ob hz3 (ob d5 (ob (rfl : true = true) (ob (rfl : true = true) (ob (rfl : true = true) (ob d9 (ob (rfl : false = false) (ob (rfl : false = false) (ob (rfl : false = false) (ob (rfl : false = false) (ob hz4 (ob hz5 (ob d16 (ob (obT hz6) (ob hz7 ob0)))))))))))))))))) (by kernel_rfl)
       · obtain ⟨hz1, hz2, hz3, hz4, hz5, hz6, oz⟩ := q10 d2 d5 d9 d16
         subst oz; exact zab [(300008, .loop (hd58 b o cs' rs ns at_ [] put0 0) (.exit 0) (ou58 b o cs' rs ns at_ out put)), (16, .ok), (23, .ok), (29, .ok), (100024, .at (c100024.d)), (100030, .at (c100030.d)), (45, .ret [.dat (B g45)]), (74, .ok), (80, .ok), (200018, .no), (200035, .yes), (200041, .no), (200070, .no)] (ob hz1 (ob d2 (ob hz2 (ob hz3 (ob d5 (ob (rfl : true = true) (ob (rfl : true = true) (ob (rfl : true = true) (ob d9 (ob (rfl : false = false) (ob (rfl : false = false) (ob (rfl : false = false) (ob (rfl : false = false) (ob hz4 (ob hz5 (ob d16 (ob hz6 ob0))))))))))))))))) (by kernel_rfl)
   · rcases Bool.eq_false_or_eq_true (put) with d11 | d11
     · obtain ⟨hz1, hz2, hz3, hz4, hz5, hz6, hz7, oz⟩ := q11 d2 d5 d11
       subst oz; exact zab [(300008, .loop (hd58 b o cs' rs ns at_ [] put0 0) (.exit 0) (ou58 b o cs' rs ns at_ out put)), (16, .ok), (23, .ok), (29, .ok), (100024, .at (c100024.d)), (100030, .at (c100030.d)), (45, .ret [.dat (B g45)]), (74, .ok), (80, .ok), (200018, .no), (200035, .no), (200070, .yes)] (ob hz1 (ob d2 (ob hz2 (ob hz3 (ob d5 (ob (rfl : false = false) (ob (rfl : false = false) (ob (rfl : false = false) (ob hz4 (ob hz5 (ob d11 (ob (obT hz6) (ob hz7 ob0))))))))))))) (by kernel_rfl)
     · obtain ⟨hz1, hz2, hz3, hz4, hz5, hz6, oz⟩ := q12 d2 d5 d11
       subst oz; exact zab [(300008, .loop (hd58 b o cs' rs ns at_ [] put0 0) (.exit 0) (ou58 b o cs' rs ns at_ out put)), (16, .ok), (23, .ok), (29, .ok), (100024, .at (c100024.d)), (100030, .at (c100030.d)), (45, .ret [.dat (B g45)]), (74, .ok), (80, .ok), (200018, .no), (200035, .no), (200070, .no)] (ob hz1 (ob d2 (ob hz2 (ob hz3 (ob d5 (ob (rfl : false = false) (ob (rfl : false = false) (ob (rfl : false = false) (ob hz4 (ob hz5 (ob d11 (ob hz6 ob0)))))))))))) (by kernel_rfl)
end Go.Den
namespace Go.Den
open Go
abbrev fA (b : Bool) (o : Int) (c : List Dat) (r : List Dat) (n : List Dat) : Dat := (Dat.agg [I o, Dat.lst b c, Dat.lst b r, Dat.lst b n])
abbrev fG (x : Int) (l : List Dat) : List D := [D.dat (I x), D.dat (I 0), D.dat (I (w64 ((l.length : Int) - 1)))]
abbrev fE (l : Bool) (n : Int) (a : Int) (b : Int) : Dat := (Dat.agg [B l, I n, I a, I b])
abbrev fD (k f : Nat) (a r : List D) : Prop := den cfg k f a [] [] = some (r, [], [])
abbrev fU (k f : Nat) (a : List D) (u : List (List D)) (r : List D) (v : List (List D)) : Prop := den cfg k f a u [] = some (r, v, [])
noncomputable abbrev fN (k f : Nat) (fn : Func) (r : Nat) : List Nat := (zaf cfg k f fn).live (zaa (lp fn r))
abbrev fR (k f : Nat) (fn : Func) (r m : Nat) (s : St) (K : X → St → Prop) : Prop := zai (zaf cfg k f fn) k (lp fn r) m s K
theorem rF : false = false := rfl
theorem rT : true = true := rfl
abbrev tT (p : Prop) [Decidable p] : Prop := decide p = true
abbrev tF (p : Prop) [Decidable p] : Prop := decide p = false
open Go.Proofs
open Go
set_option linter.unusedVariables false
set_option maxRecDepth 100000
theorem znb (kk : Nat) (b : Bool) (o : Int) (cs rs ns : List Dat) (e9 : List Dat) (e13 : List Dat) (e17 : List Dat) {r : Res} (q1 : (fD kk 16 [D.dat (Dat.lst b cs)] [D.own 41 e9]) ∧ (fD kk 17 [D.dat (Dat.lst b rs)] [D.own 3 e13]) ∧ (fD kk 17 [D.dat (Dat.lst b ns)] [D.own 3 e17]) ∧ r = ([D.seq false [D.dat (I o), D.own 41 e9, D.own 3 e13, D.own 3 e17]], [], [])) : zaC cfg kk (den cfg kk) 6 Try.f6 [.dat (Yd b o cs rs ns)] [] [] = some r := by
 obtain ⟨hz1, hz2, hz3, oz⟩ := q1
 subst oz; exact zab [(9, .ret [.own 41 e9]), (13, .ret [.own 3 e13]), (17, .ret [.own 3 e17])] (ob hz1 (ob hz2 (ob hz3 ob0))) (by kernel_rfl)
def hd24 (es : List Dat) (k i : Int) : St := Nm [0, 1, 5] [.bor (.lent 0) none, .dat (I k), .dat (I i)] [none, none, none] [] [some (41, es)]
theorem zls (kk m : Nat) {s : St} {K : X → St → Prop} (es : List Dat) (k i : Int) (c100018 : Cl) (c100025 : Cl) (c100032 : Cl) (c100039 : Cl) (hs : s.norm (fN kk 24 Try.f24 2) = hd24 es k i) (q1 : (tT (i < (es.length : Int))) → (0 ≤ i ∧ i < (es.length : Int)) ∧ (es[i.toNat]? = some (fE c100018.l c100018.n c100018.a c100018.b)) ∧ (0 ≤ i ∧ i < ((es.set i.toNat (fE (decide (k.tmod 3 = 0)) c100018.n c100018.a c100018.b)).length : Int)) ∧ ((es.set i.toNat (fE (decide (k.tmod 3 = 0)) c100018.n c100018.a c100018.b))[i.toNat]? = some (fE c100025.l c100025.n c100025.a c100025.b)) ∧ (0 ≤ i ∧ i < (((es.set i.toNat (fE (decide (k.tmod 3 = 0)) c100018.n c100018.a c100018.b)).set i.toNat (fE c100025.l (w64 (k + 1)) c100025.a c100025.b)).length : Int)) ∧ (((es.set i.toNat (fE (decide (k.tmod 3 = 0)) c100018.n c100018.a c100018.b)).set i.toNat (fE c100025.l (w64 (k + 1)) c100025.a c100025.b))[i.toNat]? = some (fE c100032.l c100032.n c100032.a c100032.b)) ∧ (0 ≤ i ∧ i < ((((es.set i.toNat (fE (decide (k.tmod 3 = 0)) c100018.n c100018.a c100018.b)).set i.toNat (fE c100025.l (w64 (k + 1)) c100025.a c100025.b)).set i.toNat (fE c100032.l c100032.n (w64 (w64 (k + 1) + 1)) c100032.b)).length : Int)) ∧ ((((es.set i.toNat (fE (decide (k.tmod 3 = 0)) c100018.n c100018.a c100018.b)).set i.toNat (fE c100025.l (w64 (k + 1)) c100025.a c100025.b)).set i.toNat (fE c100032.l c100032.n (w64 (w64 (k + 1) + 1)) c100032.b))[i.toNat]? = some (fE c100039.l c100039.n c100039.a c100039.b)) ∧ (∀ s : St, s.norm (fN kk 24 Try.f24 2) = Nm [0, 1, 5] [D.bor (Pl.lent 0) none, D.dat (Dat.val (Value.int IntKind.i64 (w64 (w64 (w64 (w64 (k + 1) + 1) + 1) + 1)))), D.dat (I (w64 (i + 1)))] [none, none, none] [] [some (41, (((es.set i.toNat (fE (decide (k.tmod 3 = 0)) c100018.n c100018.a c100018.b)).set i.toNat (fE c100025.l (w64 (k + 1)) c100025.a c100025.b)).set i.toNat (fE c100032.l c100032.n (w64 (w64 (k + 1) + 1)) c100032.b)).set i.toNat (Dat.agg [B c100039.l, I c100039.n, I c100039.a, Dat.val (Value.int IntKind.i64 (w64 (w64 (w64 (k + 1) + 1) + 1)))]))] → fR kk 24 Try.f24 2 m s K)) (q2 : (tF (i < (es.length : Int))) → K (X.exit 0) (Nm [1] [D.dat (I k)] [none] [] [some (41, es)])) : fR kk 24 Try.f24 2 (m + 1) s K := by
 rcases Bool.eq_false_or_eq_true (decide (i < (es.length : Int))) with d1 | d1
 · obtain ⟨hz1, hz2, hz3, hz4, hz5, hz6, hz7, hz8, oz⟩ := q1 d1
   exact zaj [(17, .ok), (100018, .at (c100018.d)), (24, .ok), (100025, .at (c100025.d)), (31, .ok), (100032, .at (c100032.d)), (38, .ok), (100039, .at (c100039.d)), (200009, .yes)] hs (by kernel_rfl) (ob d1 (ob hz1 (ob hz2 (ob hz3 (ob hz4 (ob hz5 (ob hz6 (ob hz7 (ob hz8 ob0))))))))) (by kernel_rfl) oz
 · have oz := q2 d1
   exact zac [(17, .ok), (100018, .at (c100018.d)), (24, .ok), (100025, .at (c100025.d)), (31, .ok), (100032, .at (c100032.d)), (38, .ok), (100039, .at (c100039.d)), (200009, .no)] hs (by kernel_rfl) rfl (ob d1 ob0) (by kernel_rfl) oz
theorem markC (kk : Nat) (es es' : List Dat) (k k' : Int) {r : Res} (q1 : (zam cfg kk 24 Try.f24 2 (hd24 es k 0) (X.exit 0) (Nm [1] [D.dat (I k')] [none] [] [some (41, es')])) ∧ r = ([D.dat (I k')], [], [some (41, es')])) : zaC cfg kk (den cfg kk) 24 Try.f24 [.bor (.lent 0) none, .dat (I k)] [] [some (41, es)] = some r := by
 obtain ⟨hz1, oz⟩ := q1
 subst oz; exact zab [(300002, .loop (hd24 es k 0) (.exit 0) (Nm [1] [.dat (I k')] [none] [] [some (41, es')]))] (ob (rfl : _ = hd24 es k 0) (ob hz1 ob0)) (by kernel_rfl)
def hd25 (es : List Dat) (k i : Int) : St := Nm [0, 1, 5] [.bor (.lent 0) none, .dat (I k), .dat (I i)] [none, none, none] [] [some (3, es)]
theorem zj5 (kk m : Nat) {s : St} {K : X → St → Prop} (es : List Dat) (k i : Int) (x100015 : Int) (hs : s.norm (fN kk 25 Try.f25 2) = hd25 es k i) (q1 : (tT (i < (es.length : Int))) → (0 ≤ i ∧ i < (es.length : Int)) ∧ (es[i.toNat]? = some (I x100015)) ∧ (∀ s : St, s.norm (fN kk 25 Try.f25 2) = Nm [0, 1, 5] [D.bor (Pl.lent 0) none, D.dat (I (w64 (k + 1))), D.dat (I (w64 (i + 1)))] [none, none, none] [] [some (3, es.set i.toNat (I k))] → fR kk 25 Try.f25 2 m s K)) (q2 : (tF (i < (es.length : Int))) → K (X.exit 0) (Nm [1] [D.dat (I k)] [none] [] [some (3, es)])) : fR kk 25 Try.f25 2 (m + 1) s K := by
 rcases Bool.eq_false_or_eq_true (decide (i < (es.length : Int))) with d1 | d1
 · obtain ⟨hz1, hz2, oz⟩ := q1 d1
   exact zaj [(15, .ok), (100015, .at (I x100015)), (200009, .yes)] hs (by kernel_rfl) (ob d1 (ob hz1 (ob hz2 ob0))) (by kernel_rfl) oz
 · have oz := q2 d1
   exact zac [(15, .ok), (100015, .at (I x100015)), (200009, .no)] hs (by kernel_rfl) rfl (ob d1 ob0) (by kernel_rfl) oz
theorem markI (kk : Nat) (es es' : List Dat) (k k' : Int) {r : Res} (q1 : (zam cfg kk 25 Try.f25 2 (hd25 es k 0) (X.exit 0) (Nm [1] [D.dat (I k')] [none] [] [some (3, es')])) ∧ r = ([D.dat (I k')], [], [some (3, es')])) : zaC cfg kk (den cfg kk) 25 Try.f25 [.bor (.lent 0) none, .dat (I k)] [] [some (3, es)] = some r := by
 obtain ⟨hz1, oz⟩ := q1
 subst oz; exact zab [(300002, .loop (hd25 es k 0) (.exit 0) (Nm [1] [.dat (I k')] [none] [] [some (3, es')]))] (ob (rfl : _ = hd25 es k 0) (ob hz1 ob0)) (by kernel_rfl)
def hd26 (b : Bool) (es : List Dat) (k i : Int) : St := Nm [0, 1, 5] [.dat (.lst b es), .dat (I k), .dat (I i)] [none, none, none] [] []
theorem zkK (kk m : Nat) {s : St} {K : X → St → Prop} (b : Bool) (es : List Dat) (k i : Int) (c14 : Cl) (c25 : Cl) (c34 : Cl) (c43 : Cl) (hs : s.norm (fN kk 26 Try.f26 2) = hd26 b es k i) (q1 : (tT (i < (es.length : Int))) → ((!c14.l == decide (k.tmod 3 = 0)) = true) → ((0 ≤ i ∧ i < (es.length : Int)) ∧ es[i.toNat]? = some (fE c14.l c14.n c14.a c14.b)) ∧ K (X.ret) (Nm [1, 4] [D.dat (I k), D.dat (I (-1))] [none, none] [] [])) (q2 : (tT (i < (es.length : Int))) → ((!c14.l == decide (k.tmod 3 = 0)) = false) → ((!decide (c25.n = w64 (k + 1))) = true) → ((0 ≤ i ∧ i < (es.length : Int)) ∧ es[i.toNat]? = some (fE c14.l c14.n c14.a c14.b)) ∧ ((0 ≤ i ∧ i < (es.length : Int)) ∧ es[i.toNat]? = some (fE c25.l c25.n c25.a c25.b)) ∧ K (X.ret) (Nm [1, 4] [D.dat (I (w64 (k + 1))), D.dat (I (-1))] [none, none] [] [])) (q3 : (tT (i < (es.length : Int))) → ((!c14.l == decide (k.tmod 3 = 0)) = false) → ((!decide (c25.n = w64 (k + 1))) = false) → ((!decide (c34.a = w64 (w64 (k + 1) + 1))) = true) → ((0 ≤ i ∧ i < (es.length : Int)) ∧ es[i.toNat]? = some (fE c14.l c14.n c14.a c14.b)) ∧ ((0 ≤ i ∧ i < (es.length : Int)) ∧ es[i.toNat]? = some (fE c25.l c25.n c25.a c25.b)) ∧ ((0 ≤ i ∧ i < (es.length : Int)) ∧ es[i.toNat]? = some (fE c34.l c34.n c34.a c34.b)) ∧ K (X.ret) (Nm [1, 4] [D.dat (I (w64 (w64 (k + 1) + 1))), D.dat (I (-1))] [none, none] [] [])) (q4 : (tT (i < (es.length : Int))) → ((!c14.l == decide (k.tmod 3 = 0)) = false) → ((!decide (c25.n = w64 (k + 1))) = false) → ((!decide (c34.a = w64 (w64 (k + 1) + 1))) = false) → ((!decide (c43.b = w64 (w64 (w64 (k + 1) + 1) + 1))) = true) → ((0 ≤ i ∧ i < (es.length : Int)) ∧ es[i.toNat]? = some (fE c14.l c14.n c14.a c14.b)) ∧ ((0 ≤ i ∧ i < (es.length : Int)) ∧ es[i.toNat]? = some (fE c25.l c25.n c25.a c25.b)) ∧ ((0 ≤ i ∧ i < (es.length : Int)) ∧ es[i.toNat]? = some (fE c34.l c34.n c34.a c34.b)) ∧ ((0 ≤ i ∧ i < (es.length : Int)) ∧ es[i.toNat]? = some (fE c43.l c43.n c43.a c43.b)) ∧ K (X.ret) (Nm [1, 4] [D.dat (Dat.val (Value.int IntKind.i64 (w64 (w64 (w64 (k + 1) + 1) + 1)))), D.dat (I (-1))] [none, none] [] [])) (q5 : (tT (i < (es.length : Int))) → ((!c14.l == decide (k.tmod 3 = 0)) = false) → ((!decide (c25.n = w64 (k + 1))) = false) → ((!decide (c34.a = w64 (w64 (k + 1) + 1))) = false) → ((!decide (c43.b = w64 (w64 (w64 (k + 1) + 1) + 1))) = false) → ((0 ≤ i ∧ i < (es.length : Int)) ∧ es[i.toNat]? = some (fE c14.l c14.n c14.a c14.b)) ∧ ((0 ≤ i ∧ i < (es.length : Int)) ∧ es[i.toNat]? = some (fE c25.l c25.n c25.a c25.b)) ∧ ((0 ≤ i ∧ i < (es.length : Int)) ∧ es[i.toNat]? = some (fE c34.l c34.n c34.a c34.b)) ∧ ((0 ≤ i ∧ i < (es.length : Int)) ∧ es[i.toNat]? = some (fE c43.l c43.n c43.a c43.b)) ∧ (∀ s : St, s.norm (fN kk 26 Try.f26 2) = Nm [0, 1, 5] [D.dat (Dat.lst b es), D.dat (Dat.val (Value.int IntKind.i64 (w64 (w64 (w64 (w64 (k + 1) + 1) + 1) + 1)))), D.dat (I (w64 (i + 1)))] [none, none, none] [] [] → fR kk 26 Try.f26 2 m s K)) (q6 : (tF (i < (es.length : Int))) → K (X.exit 0) (Nm [1, 4] [D.dat (I k), D.junk] [none, none] [] [])) : fR kk 26 Try.f26 2 (m + 1) s K := by
 rcases Bool.eq_false_or_eq_true (decide (i < (es.length : Int))) with d1 | d1
 · rcases Bool.eq_false_or_eq_true ((!c14.l == decide (k.tmod 3 = 0))) with d3 | d3
   · obtain ⟨hz1, oz⟩ := q1 d1 d3
     exact zac [(14, .at (c14.d)), (25, .at (c25.d)), (34, .at (c34.d)), (43, .at (c43.d)), (200009, .yes), (200020, .yes)] hs (by kernel_rfl) rfl (ob d1 (ob hz1 (ob d3 ob0))) (by kernel_rfl) oz
   · rcases Bool.eq_false_or_eq_true ((!decide (c25.n = w64 (k + 1)))) with d5 | d5
     · obtain ⟨hz1, hz2, oz⟩ := q2 d1 d3 d5
       exact zac [(14, .at (c14.d)), (25, .at (c25.d)), (34, .at (c34.d)), (43, .at (c43.d)), (200009, .yes), (200020, .no), (200029, .yes)] hs (by kernel_rfl) rfl (ob d1 (ob hz1 (ob d3 (ob hz2 (ob d5 ob0))))) (by kernel_rfl) oz
     · rcases Bool.eq_false_or_eq_true ((!decide (c34.a = w64 (w64 (k + 1) + 1)))) with d7 | d7
       · obtain ⟨hz1, hz2, hz3, oz⟩ := q3 d1 d3 d5 d7
         exact zac [(14, .at (c14.d)), (25, .at (c25.d)), (34, .at (c34.d)), (43, .at (c43.d)), (200009, .yes), (200020, .no), (200029, .no), (200038, .yes)] hs (by kernel_rfl) rfl (ob d1 (ob hz1 (ob d3 (ob hz2 (ob d5 (ob hz3 (ob d7 ob0))))))) (by kernel_rfl) oz
       · rcases Bool.eq_false_or_eq_true ((!decide (c43.b = w64 (w64 (w64 (k + 1) + 1) + 1)))) with d9 | d9
         · obtain ⟨hz1, hz2, hz3, hz4, oz⟩ := q4 d1 d3 d5 d7 d9
           exact zac [(14, .at (c14.d)), (25, .at (c25.d)), (34, .at (c34.d)), (43, .at (c43.d)), (200009, .yes), (200020, .no), (200029, .no), (200038, .no), (200047, .yes)] hs (by kernel_rfl) rfl (ob d1 (ob hz1 (ob d3 (ob hz2 (ob d5 (ob hz3 (ob d7 (ob hz4 (ob d9 ob0))))))))) (by kernel_rfl) oz
         · obtain ⟨hz1, hz2, hz3, hz4, oz⟩ := q5 d1 d3 d5 d7 d9
           exact zaj [(14, .at (c14.d)), (25, .at (c25.d)), (34, .at (c34.d)), (43, .at (c43.d)), (200009, .yes), (200020, .no), (200029, .no), (200038, .no), (200047, .no)] hs (by kernel_rfl) (ob d1 (ob hz1 (ob d3 (ob hz2 (ob d5 (ob hz3 (ob d7 (ob hz4 (ob d9 ob0))))))))) (by kernel_rfl) oz
 · have oz := q6 d1
   exact zac [(14, .at (c14.d)), (25, .at (c25.d)), (34, .at (c34.d)), (43, .at (c43.d)), (200009, .no)] hs (by kernel_rfl) rfl (ob d1 ob0) (by kernel_rfl) oz
theorem heldC (kk : Nat) (b : Bool) (es : List Dat) (k k' : Int) {r : Res} (q1 : (zam cfg kk 26 Try.f26 2 (hd26 b es k 0) (X.exit 0) (Nm [1, 4] [D.dat (I k'), D.junk] [none, none] [] [])) ∧ r = ([D.dat (I k')], [], [])) : zaC cfg kk (den cfg kk) 26 Try.f26 [.dat (Dat.lst b es), .dat (I k)] [] [] = some r := by
 obtain ⟨hz1, oz⟩ := q1
 subst oz; exact zab [(300002, .loop (hd26 b es k 0) (.exit 0) (Nm [1, 4] [.dat (I k'), .junk] [none, none] [] []))] (ob (rfl : _ = hd26 b es k 0) (ob hz1 ob0)) (by kernel_rfl)
theorem zkl (kk m : Nat) {s : St} {K : X → St → Prop} (b : Bool) (es : List Dat) (k i : Int) (x14 : Int) (hs : s.norm (fN kk 27 Try.f27 2) = hd26 b es k i) (q1 : (tT (i < (es.length : Int))) → ((!decide (x14 = k)) = true) → ((0 ≤ i ∧ i < (es.length : Int)) ∧ es[i.toNat]? = some (I x14)) ∧ K (X.ret) (Nm [1, 4] [D.dat (I k), D.dat (I (-1))] [none, none] [] [])) (q2 : (tT (i < (es.length : Int))) → ((!decide (x14 = k)) = false) → ((0 ≤ i ∧ i < (es.length : Int)) ∧ es[i.toNat]? = some (I x14)) ∧ (∀ s : St, s.norm (fN kk 27 Try.f27 2) = Nm [0, 1, 5] [D.dat (Dat.lst b es), D.dat (I (w64 (k + 1))), D.dat (I (w64 (i + 1)))] [none, none, none] [] [] → fR kk 27 Try.f27 2 m s K)) (q3 : (tF (i < (es.length : Int))) → K (X.exit 0) (Nm [1, 4] [D.dat (I k), D.junk] [none, none] [] [])) : fR kk 27 Try.f27 2 (m + 1) s K := by
 rcases Bool.eq_false_or_eq_true (decide (i < (es.length : Int))) with d1 | d1
 · rcases Bool.eq_false_or_eq_true ((!decide (x14 = k))) with d3 | d3
   · obtain ⟨hz1, oz⟩ := q1 d1 d3
     exact zac [(14, .at (I x14)), (200009, .yes), (200017, .yes)] hs (by kernel_rfl) rfl (ob d1 (ob hz1 (ob d3 ob0))) (by kernel_rfl) oz
   · obtain ⟨hz1, oz⟩ := q2 d1 d3
     exact zaj [(14, .at (I x14)), (200009, .yes), (200017, .no)] hs (by kernel_rfl) (ob d1 (ob hz1 (ob d3 ob0))) (by kernel_rfl) oz
 · have oz := q3 d1
   exact zac [(14, .at (I x14)), (200009, .no)] hs (by kernel_rfl) rfl (ob d1 ob0) (by kernel_rfl) oz
theorem heldI (kk : Nat) (b : Bool) (es : List Dat) (k k' : Int) {r : Res} (q1 : (zam cfg kk 27 Try.f27 2 (hd26 b es k 0) (X.exit 0) (Nm [1, 4] [D.dat (I k'), D.junk] [none, none] [] [])) ∧ r = ([D.dat (I k')], [], [])) : zaC cfg kk (den cfg kk) 27 Try.f27 [.dat (Dat.lst b es), .dat (I k)] [] [] = some r := by
 obtain ⟨hz1, oz⟩ := q1
 subst oz; exact zab [(300002, .loop (hd26 b es k 0) (.exit 0) (Nm [1, 4] [.dat (I k'), .junk] [none, none] [] []))] (ob (rfl : _ = hd26 b es k 0) (ob hz1 ob0)) (by kernel_rfl)
theorem markY (kk : Nat) (o : Int) (cs rs ns cs1 rs1 ns1 : List Dat) (k k1 k2 k3 : Int) {r : Res} (q1 : (den cfg kk 24 [D.bor (Pl.lent 0) none, D.dat (I k)] [] [some (41, cs)] = some ([D.dat (I k1)], [], [some (41, cs1)])) ∧ (den cfg kk 25 [D.bor (Pl.lent 0) none, D.dat (I k1)] [] [some (3, rs)] = some ([D.dat (I k2)], [], [some (3, rs1)])) ∧ (den cfg kk 25 [D.bor (Pl.lent 0) none, D.dat (I k2)] [] [some (3, ns)] = some ([D.dat (I k3)], [], [some (3, ns1)])) ∧ r = ([D.dat (I k3)], [], [some (41, cs1), some (3, rs1), some (3, ns1)])) : zaC cfg kk (den cfg kk) 9 Try.f9 [.seq false [.dat (I o), .bor (.lent 0) none, .bor (.lent 1) none, .bor (.lent 2) none], .dat (I k)] [] [some (41, cs), some (3, rs), some (3, ns)] = some r := by
 obtain ⟨hz1, hz2, hz3, oz⟩ := q1
 subst oz; exact zab [(8, .back [.dat (I k1)] [] [some (41, cs1)]), (12, .back [.dat (I k2)] [] [some (3, rs1)]), (16, .back [.dat (I k3)] [] [some (3, ns1)])] (ob hz1 (ob rF (ob hz2 (ob rF (ob hz3 (ob rF ob0)))))) (by kernel_rfl)
theorem heldY (kk : Nat) (b : Bool) (o : Int) (cs rs ns : List Dat) (k k1 k2 k3 : Int) {r : Res} (q1 : (tT (k1 < 0)) → (fD kk 26 [D.dat (Dat.lst b cs), D.dat (I k)] [D.dat (I k1)]) ∧ r = ([D.dat (I (-1))], [], [])) (q2 : (tF (k1 < 0)) → (tT (k2 < 0)) → (fD kk 26 [D.dat (Dat.lst b cs), D.dat (I k)] [D.dat (I k1)]) ∧ (fD kk 27 [D.dat (Dat.lst b rs), D.dat (I k1)] [D.dat (I k2)]) ∧ r = ([D.dat (I (-1))], [], [])) (q3 : (tF (k1 < 0)) → (tF (k2 < 0)) → (tT (k3 < 0)) → (fD kk 26 [D.dat (Dat.lst b cs), D.dat (I k)] [D.dat (I k1)]) ∧ (fD kk 27 [D.dat (Dat.lst b rs), D.dat (I k1)] [D.dat (I k2)]) ∧ (fD kk 27 [D.dat (Dat.lst b ns), D.dat (I k2)] [D.dat (I k3)]) ∧ r = ([D.dat (I (-1))], [], [])) (q4 : (tF (k1 < 0)) → (tF (k2 < 0)) → (tF (k3 < 0)) → (fD kk 26 [D.dat (Dat.lst b cs), D.dat (I k)] [D.dat (I k1)]) ∧ (fD kk 27 [D.dat (Dat.lst b rs), D.dat (I k1)] [D.dat (I k2)]) ∧ (fD kk 27 [D.dat (Dat.lst b ns), D.dat (I k2)] [D.dat (I k3)]) ∧ r = ([D.dat (I k3)], [], [])) : zaC cfg kk (den cfg kk) 10 Try.f10 [.dat (Yd b o cs rs ns), .dat (I k)] [] [] = some r := by
 rcases Bool.eq_false_or_eq_true (decide (k1 < 0)) with d2 | d2
 · obtain ⟨hz1, oz⟩ := q1 d2
   subst oz; exact zab [(8, .ret [.dat (I k1)]), (14, .ret [.dat (I k2)]), (20, .ret [.dat (I k3)]), (200010, .yes)] (ob hz1 (ob d2 ob0)) (by kernel_rfl)
 · rcases Bool.eq_false_or_eq_true (decide (k2 < 0)) with d4 | d4
   · obtain ⟨hz1, hz2, oz⟩ := q2 d2 d4
     subst oz; exact zab [(8, .ret [.dat (I k1)]), (14, .ret [.dat (I k2)]), (20, .ret [.dat (I k3)]), (200010, .no), (200016, .yes)] (ob hz1 (ob d2 (ob hz2 (ob d4 ob0)))) (by kernel_rfl)
   · rcases Bool.eq_false_or_eq_true (decide (k3 < 0)) with d6 | d6
     · obtain ⟨hz1, hz2, hz3, oz⟩ := q3 d2 d4 d6
       subst oz; exact zab [(8, .ret [.dat (I k1)]), (14, .ret [.dat (I k2)]), (20, .ret [.dat (I k3)]), (200010, .no), (200016, .no), (200022, .yes)] (ob hz1 (ob d2 (ob hz2 (ob d4 (ob hz3 (ob d6 ob0)))))) (by kernel_rfl)
     · obtain ⟨hz1, hz2, hz3, oz⟩ := q4 d2 d4 d6
       subst oz; exact zab [(8, .ret [.dat (I k1)]), (14, .ret [.dat (I k2)]), (20, .ret [.dat (I k3)]), (200010, .no), (200016, .no), (200022, .no)] (ob hz1 (ob d2 (ob hz2 (ob d4 (ob hz3 (ob d6 ob0)))))) (by kernel_rfl)
theorem zlX (kk : Nat) (b : Bool) (o : Int) (cs rs ns : List Dat) (at_ : Int) (second : Bool) (to : Int) (good g21 g35 : Bool) (o1 : Int) (cs1 rs1 ns1 : List Dat) (o2 : Int) (cs2 rs2 ns2 : List Dat) (c28 : Cl) {r : Res} (q1 : ((!good) = true) → (fD kk 18 [D.dat (fA b o cs rs ns)] [D.dat (B good)]) ∧ r = ([D.seq false [D.dat (I 0), D.own 41 [], D.own 3 [], D.own 3 []], D.dat (B false)], [], [])) (q2 : ((!good) = false) → ((!g21) = true) → (fD kk 18 [D.dat (fA b o cs rs ns)] [D.dat (B good)]) ∧ (fD kk 19 [D.dat (I at_), D.dat (I (cs.length : Int))] [D.dat (B g21)]) ∧ r = ([D.seq false [D.dat (I 0), D.own 41 [], D.own 3 [], D.own 3 []], D.dat (B false)], [], [])) (q3 : ((!good) = false) → ((!g21) = false) → (c28.l = true) → (fD kk 18 [D.dat (fA b o cs rs ns)] [D.dat (B good)]) ∧ (fD kk 19 [D.dat (I at_), D.dat (I (cs.length : Int))] [D.dat (B g21)]) ∧ ((0 ≤ at_ ∧ at_ < (cs.length : Int)) ∧ cs[at_.toNat]? = some (fE c28.l c28.n c28.a c28.b)) ∧ r = ([D.seq false [D.dat (I 0), D.own 41 [], D.own 3 [], D.own 3 []], D.dat (B false)], [], [])) (q4 : ((!good) = false) → ((!g21) = false) → (c28.l = false) → ((!g35) = true) → (fD kk 18 [D.dat (fA b o cs rs ns)] [D.dat (B good)]) ∧ (fD kk 19 [D.dat (I at_), D.dat (I (cs.length : Int))] [D.dat (B g21)]) ∧ ((0 ≤ at_ ∧ at_ < (cs.length : Int)) ∧ cs[at_.toNat]? = some (fE c28.l c28.n c28.a c28.b)) ∧ (fD kk 19 [D.dat (I to), D.dat (I (cs.length : Int))] [D.dat (B g35)]) ∧ r = ([D.seq false [D.dat (I 0), D.own 41 [], D.own 3 [], D.own 3 []], D.dat (B false)], [], [])) (q5 : ((!good) = false) → ((!g21) = false) → (c28.l = false) → ((!g35) = false) → (fD kk 18 [D.dat (fA b o cs rs ns)] [D.dat (B good)]) ∧ (fD kk 19 [D.dat (I at_), D.dat (I (cs.length : Int))] [D.dat (B g21)]) ∧ ((0 ≤ at_ ∧ at_ < (cs.length : Int)) ∧ cs[at_.toNat]? = some (fE c28.l c28.n c28.a c28.b)) ∧ (fD kk 19 [D.dat (I to), D.dat (I (cs.length : Int))] [D.dat (B g35)]) ∧ (fD kk 20 [D.dat (fA b o cs rs ns)] [D.seq false [D.dat (I o1), D.own 41 cs1, D.own 3 rs1, D.own 3 ns1]]) ∧ (fU kk 21 [D.ptr (Ref.up 0) 0, D.dat (I at_), D.dat (B second), D.dat (I to)] [[D.dat (I o1), D.own 41 cs1, D.own 3 rs1, D.own 3 ns1]] [] [[D.dat (I o2), D.own 41 cs2, D.own 3 rs2, D.own 3 ns2]]) ∧ r = ([D.seq false [D.dat (I o2), D.own 41 cs2, D.own 3 rs2, D.own 3 ns2], D.dat (B true)], [], [])) : zaC cfg kk (den cfg kk) 7 Try.f7 [.dat (Yd b o cs rs ns), .dat (I at_), .dat (B second), .dat (I to)] [] [] = some r := by
 rcases Bool.eq_false_or_eq_true ((!good)) with d2 | d2
 · obtain ⟨hz1, oz⟩ := q1 d2
   subst oz; exact zab [(16, .ret [.dat (B good)]), (21, .ret [.dat (B g21)]), (35, .ret [.dat (B g35)]), (40, .ret [.seq false [.dat (I o1), .own 41 cs1, .own 3 rs1, .own 3 ns1]]), (44, .back [] [[.dat (I o2), .own 41 cs2, .own 3 rs2, .own 3 ns2]] []), (28, .at (c28.d)), (200018, .yes)] (ob hz1 (ob d2 (ob rT (ob rT (ob rT ob0))))) (by kernel_rfl)
 · rcases Bool.eq_false_or_eq_true ((!g21)) with d7 | d7
   · obtain ⟨hz1, hz2, oz⟩ := q2 d2 d7
     subst oz; exact zab [(16, .ret [.dat (B good)]), (21, .ret [.dat (B g21)]), (35, .ret [.dat (B g35)]), (40, .ret [.seq false [.dat (I o1), .own 41 cs1, .own 3 rs1, .own 3 ns1]]), (44, .back [] [[.dat (I o2), .own 41 cs2, .own 3 rs2, .own 3 ns2]] []), (28, .at (c28.d)), (200018, .no), (200024, .yes)] (ob hz1 (ob d2 (ob rF (ob rF (ob hz2 (ob rF (ob d7 (ob rT (ob rT (ob rT (ob rT (ob rT ob0)))))))))))) (by kernel_rfl)
   · rcases Bool.eq_false_or_eq_true (c28.l) with d14 | d14
     · obtain ⟨hz1, hz2, hz3, oz⟩ := q3 d2 d7 d14
       subst oz; exact zab [(16, .ret [.dat (B good)]), (21, .ret [.dat (B g21)]), (35, .ret [.dat (B g35)]), (40, .ret [.seq false [.dat (I o1), .own 41 cs1, .own 3 rs1, .own 3 ns1]]), (44, .back [] [[.dat (I o2), .own 41 cs2, .own 3 rs2, .own 3 ns2]] []), (28, .at (c28.d)), (200018, .no), (200024, .no), (200032, .yes)] (ob hz1 (ob d2 (ob rF (ob rF (ob hz2 (ob rF (ob d7 (ob rF (ob rF (ob rF (ob hz3 (ob rF (ob rF (ob d14 (ob rT (ob rT (ob rT ob0))))))))))))))))) (by kernel_rfl)
     · rcases Bool.eq_false_or_eq_true ((!g35)) with d19 | d19
       · obtain ⟨hz1, hz2, hz3, hz4, oz⟩ := q4 d2 d7 d14 d19
         subst oz; exact zab [(16, .ret [.dat (B good)]), (21, .ret [.dat (B g21)]), (35, .ret [.dat (B g35)]), (40, .ret [.seq false [.dat (I o1), .own 41 cs1, .own 3 rs1, .own 3 ns1]]), (44, .back [] [[.dat (I o2), .own 41 cs2, .own 3 rs2, .own 3 ns2]] []), (28, .at (c28.d)), (200018, .no), (200024, .no), (200032, .no), (200037, .yes)] (ob hz1 (ob d2 (ob rF (ob rF (ob hz2 (ob rF (ob d7 (ob rF (ob rF (ob rF (ob hz3 (ob rF (ob rF (ob d14 (ob rF (ob rF (ob hz4 (ob rF (ob d19 ob0))))))))))))))))))) (by kernel_rfl)
       · obtain ⟨hz1, hz2, hz3, hz4, hz5, hz6, oz⟩ := q5 d2 d7 d14 d19
         subst oz; exact zab [(16, .ret [.dat (B good)]), (21, .ret [.dat (B g21)]), (35, .ret [.dat (B g35)]), (40, .ret [.seq false [.dat (I o1), .own 41 cs1, .own 3 rs1, .own 3 ns1]]), (44, .back [] [[.dat (I o2), .own 41 cs2, .own 3 rs2, .own 3 ns2]] []), (28, .at (c28.d)), (200018, .no), (200024, .no), (200032, .no), (200037, .no)] (ob hz1 (ob d2 (ob rF (ob rF (ob hz2 (ob rF (ob d7 (ob rF (ob rF (ob rF (ob hz3 (ob rF (ob rF (ob d14 (ob rF (ob rF (ob hz4 (ob rF (ob d19 (ob hz5 (ob hz6 (ob rF ob0)))))))))))))))))))))) (by kernel_rfl)
theorem zl7 (kk : Nat) (b : Bool) (o : Int) (cs rs ns : List Dat) (at_ : Int) (second : Bool) (to : Int) (good g19 g28 : Bool) (o1 : Int) (cs1 rs1 ns1 : List Dat) (c35 : Cl) {r : Res} (q1 : ((!good) = true) → (fD kk 13 [D.dat (fA b o cs rs ns)] [D.dat (B good)]) ∧ r = ([D.dat (fA false 0 [] [] []), D.dat (B false)], [], [])) (q2 : ((!good) = false) → ((!g19) = true) → (fD kk 13 [D.dat (fA b o cs rs ns)] [D.dat (B good)]) ∧ (den cfg kk 14 (fG at_ cs) [] [] = some ([D.dat (B g19)], [], [])) ∧ r = ([D.dat (fA false 0 [] [] []), D.dat (B false)], [], [])) (q3 : ((!good) = false) → ((!g19) = false) → ((!g28) = true) → (fD kk 13 [D.dat (fA b o cs rs ns)] [D.dat (B good)]) ∧ (den cfg kk 14 (fG at_ cs) [] [] = some ([D.dat (B g19)], [], [])) ∧ (den cfg kk 14 (fG to cs) [] [] = some ([D.dat (B g28)], [], [])) ∧ r = ([D.dat (fA false 0 [] [] []), D.dat (B false)], [], [])) (q4 : ((!good) = false) → ((!g19) = false) → ((!g28) = false) → (c35.l = true) → (fD kk 13 [D.dat (fA b o cs rs ns)] [D.dat (B good)]) ∧ (den cfg kk 14 (fG at_ cs) [] [] = some ([D.dat (B g19)], [], [])) ∧ (den cfg kk 14 (fG to cs) [] [] = some ([D.dat (B g28)], [], [])) ∧ ((0 ≤ at_ ∧ at_ < (cs.length : Int)) ∧ cs[at_.toNat]? = some (fE c35.l c35.n c35.a c35.b)) ∧ r = ([D.dat (fA false 0 [] [] []), D.dat (B false)], [], [])) (q5 : ((!good) = false) → ((!g19) = false) → ((!g28) = false) → (c35.l = false) → (fD kk 13 [D.dat (fA b o cs rs ns)] [D.dat (B good)]) ∧ (den cfg kk 14 (fG at_ cs) [] [] = some ([D.dat (B g19)], [], [])) ∧ (den cfg kk 14 (fG to cs) [] [] = some ([D.dat (B g28)], [], [])) ∧ ((0 ≤ at_ ∧ at_ < (cs.length : Int)) ∧ cs[at_.toNat]? = some (fE c35.l c35.n c35.a c35.b)) ∧ (fD kk 15 [D.dat (fA b o cs rs ns), D.dat (I at_), D.dat (B second), D.dat (I to)] [D.seq false [D.dat (I o1), D.own 41 cs1, D.own 3 rs1, D.own 3 ns1]]) ∧ r = ([D.dat (fA false o1 cs1 rs1 ns1), D.dat (B true)], [], [])) : zaC cfg kk (den cfg kk) 5 Try.f5 [.dat (Yd b o cs rs ns), .dat (I at_), .dat (B second), .dat (I to)] [] [] = some r := by
 rcases Bool.eq_false_or_eq_true ((!good)) with d2 | d2
 · obtain ⟨hz1, oz⟩ := q1 d2
   subst oz; exact zab [(11, .ret [.dat (B good)]), (19, .ret [.dat (B g19)]), (28, .ret [.dat (B g28)]), (44, .ret [.seq false [.dat (I o1), .own 41 cs1, .own 3 rs1, .own 3 ns1]]), (35, .at (c35.d)), (200013, .yes)] (ob hz1 (ob d2 (ob rT (ob rT (ob rT (ob rT (ob rT (ob rT ob0)))))))) (by kernel_rfl)
 · rcases Bool.eq_false_or_eq_true ((!g19)) with d10 | d10
   · obtain ⟨hz1, hz2, oz⟩ := q2 d2 d10
     subst oz; exact zab [(11, .ret [.dat (B good)]), (19, .ret [.dat (B g19)]), (28, .ret [.dat (B g28)]), (44, .ret [.seq false [.dat (I o1), .own 41 cs1, .own 3 rs1, .own 3 ns1]]), (35, .at (c35.d)), (200013, .no), (200022, .yes)] (ob hz1 (ob d2 (ob rF (ob rF (ob rF (ob rF (ob rF (ob hz2 (ob rF (ob d10 (ob rT (ob rT (ob rT (ob rT (ob rT (ob rT ob0)))))))))))))))) (by kernel_rfl)
   · rcases Bool.eq_false_or_eq_true ((!g28)) with d18 | d18
     · obtain ⟨hz1, hz2, hz3, oz⟩ := q3 d2 d10 d18
       subst oz; exact zab [(11, .ret [.dat (B good)]), (19, .ret [.dat (B g19)]), (28, .ret [.dat (B g28)]), (44, .ret [.seq false [.dat (I o1), .own 41 cs1, .own 3 rs1, .own 3 ns1]]), (35, .at (c35.d)), (200013, .no), (200022, .no), (200031, .yes)] (ob hz1 (ob d2 (ob rF (ob rF (ob rF (ob rF (ob rF (ob hz2 (ob rF (ob d10 (ob rF (ob rF (ob rF (ob rF (ob rF (ob hz3 (ob rF (ob d18 (ob rT (ob rT (ob rT (ob rT (ob rT ob0))))))))))))))))))))))) (by kernel_rfl)
     · rcases Bool.eq_false_or_eq_true (c35.l) with d25 | d25
       · obtain ⟨hz1, hz2, hz3, hz4, oz⟩ := q4 d2 d10 d18 d25
         subst oz; exact zab [(11, .ret [.dat (B good)]), (19, .ret [.dat (B g19)]), (28, .ret [.dat (B g28)]), (44, .ret [.seq false [.dat (I o1), .own 41 cs1, .own 3 rs1, .own 3 ns1]]), (35, .at (c35.d)), (200013, .no), (200022, .no), (200031, .no), (200038, .yes)] (ob hz1 (ob d2 (ob rF (ob rF (ob rF (ob rF (ob rF (ob hz2 (ob rF (ob d10 (ob rF (ob rF (ob rF (ob rF (ob rF (ob hz3 (ob rF (ob d18 (ob rF (ob rF (ob rF (ob hz4 (ob rF (ob rF (ob d25 ob0))))))))))))))))))))))))) (by kernel_rfl)
       · obtain ⟨hz1, hz2, hz3, hz4, hz5, oz⟩ := q5 d2 d10 d18 d25
         subst oz; exact zab [(11, .ret [.dat (B good)]), (19, .ret [.dat (B g19)]), (28, .ret [.dat (B g28)]), (44, .ret [.seq false [.dat (I o1), .own 41 cs1, .own 3 rs1, .own 3 ns1]]), (35, .at (c35.d)), (200013, .no), (200022, .no), (200031, .no), (200038, .no)] (ob hz1 (ob d2 (ob rF (ob rF (ob rF (ob rF (ob rF (ob hz2 (ob rF (ob d10 (ob rF (ob rF (ob rF (ob rF (ob rF (ob hz3 (ob rF (ob d18 (ob rF (ob rF (ob rF (ob hz4 (ob rF (ob rF (ob d25 (ob hz5 ob0)))))))))))))))))))))))))) (by kernel_rfl)
theorem znE (kk : Nat) (o : Int) (cs rs ns : List Dat) (at_ : Int) (second : Bool) (to l : Int) (h1 : fD kk 4 [D.dat (fA false o cs rs ns), D.dat (I 1048576)] [D.dat (I l)]) (h2 : decide (l < 0) = true) : zaC cfg kk (den cfg kk) 3 Try.f3 [.dat (Yd false o cs rs ns), .dat (I at_), .dat (B second), .dat (I to)] [] [] = some ([D.dat (B true)], [], []) :=
 zab [(22, .ret [.dat (I l)]), (200024, .yes)] (ob h1 (ob h2 ob0)) (by kernel_rfl)
theorem law (kk : Nat) (o : Int) (cs rs ns : List Dat) (at_ : Int) (second : Bool) (to l : Int) (o0 : Int) (cs0 rs0 ns0 : List Dat) (o1 : Int) (cs1 rs1 ns1 : List Dat) (o2 : Int) (cs2 rs2 ns2 : List Dat) (o3 : Int) (cs3 rs3 ns3 : List Dat) (o4 : Int) (cs4 rs4 ns4 : List Dat) (o5 : Int) (cs5 rs5 ns5 : List Dat) (w : Bool) (k1 k2 k3 k4 : Int) (h1 : fD kk 4 [D.dat (fA false o cs rs ns), D.dat (I 1048576)] [D.dat (I l)]) (h2 : decide (l < 0) = false) (h3 : fD kk 6 [D.dat (fA false o cs rs ns)] [D.seq false [D.dat (I o1), D.own 41 cs1, D.own 3 rs1, D.own 3 ns1]]) (h4 : D.cleans [D.dat (fA false o0 cs0 rs0 ns0), D.dat (B w)] = true) (h5 : fD kk 5 [D.dat (fA true o1 cs1 rs1 ns1), D.dat (I at_), D.dat (B second), D.dat (I to)] [D.dat (fA false o0 cs0 rs0 ns0), D.dat (B w)]) (h6 : fD kk 6 [D.dat (fA false o cs rs ns)] [D.seq false [D.dat (I o1), D.own 41 cs1, D.own 3 rs1, D.own 3 ns1]]) (h7 : D.cleans [D.seq false [D.dat (I o2), D.own 41 cs2, D.own 3 rs2, D.own 3 ns2], D.dat (B w)] = true) (h8 : fD kk 7 [D.dat (fA true o1 cs1 rs1 ns1), D.dat (I at_), D.dat (B second), D.dat (I to)] [D.seq false [D.dat (I o2), D.own 41 cs2, D.own 3 rs2, D.own 3 ns2], D.dat (B w)]) (h10 : fD kk 8 [D.dat (fA true o2 cs2 rs2 ns2), D.dat (fA false o0 cs0 rs0 ns0)] [D.dat (B true)]) (h14 : (!w == w) = false) (h15 : fD kk 6 [D.dat (fA false o cs rs ns)] [D.seq false [D.dat (I o1), D.own 41 cs1, D.own 3 rs1, D.own 3 ns1]]) (h17 : fD kk 8 [D.dat (fA true o1 cs1 rs1 ns1), D.dat (fA true o1 cs1 rs1 ns1)] [D.dat (B true)]) (h19 : den cfg kk 9 [D.seq false [D.dat (I o1), D.bor (Pl.lent 0) none, D.bor (Pl.lent 1) none, D.bor (Pl.lent 2) none], D.dat (I 1)] [] [some (41, cs1), some (3, rs1), some (3, ns1)] = some ([D.dat (I k1)], [], [some (41, cs3), some (3, rs3), some (3, ns3)])) (h21 : decide (k1 < 0) = false) (h25 : fD kk 8 [D.dat (fA true o2 cs2 rs2 ns2), D.dat (fA false o0 cs0 rs0 ns0)] [D.dat (B true)]) (h27 : (!w == w) = false) (h28 : den cfg kk 9 [D.seq false [D.dat (I o2), D.bor (Pl.lent 0) none, D.bor (Pl.lent 1) none, D.bor (Pl.lent 2) none], D.dat (I 1)] [] [some (41, cs2), some (3, rs2), some (3, ns2)] = some ([D.dat (I k2)], [], [some (41, cs4), some (3, rs4), some (3, ns4)])) (h31 : fD kk 10 [D.dat (fA true o2 cs4 rs4 ns4), D.dat (I 1)] [D.dat (I k3)]) (h32 : decide (k3 < 0) = false) (h33 : (!decide (k3 = k2)) = false) (h34 : fD kk 6 [D.dat (fA false o cs rs ns)] [D.seq false [D.dat (I o1), D.own 41 cs1, D.own 3 rs1, D.own 3 ns1]]) (h35 : D.cleans [D.seq false [D.dat (I o5), D.own 41 cs5, D.own 3 rs5, D.own 3 ns5], D.dat (B w)] = true) (h36 : fD kk 7 [D.dat (fA true o1 cs1 rs1 ns1), D.dat (I at_), D.dat (B second), D.dat (I to)] [D.seq false [D.dat (I o5), D.own 41 cs5, D.own 3 rs5, D.own 3 ns5], D.dat (B w)]) (h38 : fD kk 8 [D.dat (fA true o5 cs5 rs5 ns5), D.dat (fA false o0 cs0 rs0 ns0)] [D.dat (B true)]) (h39 : (!w == w) = false) (h41 : fD kk 10 [D.dat (fA true o2 cs4 rs4 ns4), D.dat (I 1)] [D.dat (I k4)]) (h42 : decide (k4 < 0) = false) (h43 : (!decide (k4 = k2)) = false) : zaC cfg kk (den cfg kk) 3 Try.f3 [.dat (Yd false o cs rs ns), .dat (I at_), .dat (B second), .dat (I to)] [] [] = some ([D.dat (B true)], [], []) :=
 zab [(22, .ret [.dat (I l)]), (200024, .no), (27, .ret [.seq false [.dat (I o1), .own 41 cs1, .own 3 rs1, .own 3 ns1]]), (31, .ret [.dat (Yd false o0 cs0 rs0 ns0), .dat (B w)]), (35, .ret [.seq false [.dat (I o1), .own 41 cs1, .own 3 rs1, .own 3 ns1]]), (41, .ret [.seq false [.dat (I o2), .own 41 cs2, .own 3 rs2, .own 3 ns2], .dat (B w)]), (46, .ret [.dat (B true)]), (200048, .no), (200052, .no), (55, .ret [.seq false [.dat (I o1), .own 41 cs1, .own 3 rs1, .own 3 ns1]]), (56, .ret [.dat (B true)]), (200057, .no), (60, .back [.dat (I k1)] [] [some (41, cs3), some (3, rs3), some (3, ns3)]), (200063, .no), (66, .ret [.dat (B true)]), (200073, .no), (76, .back [.dat (I k2)] [] [some (41, cs4), some (3, rs4), some (3, ns4)]), (79, .ret [.dat (I k3)]), (200081, .no), (200084, .no), (87, .ret [.seq false [.dat (I o1), .own 41 cs1, .own 3 rs1, .own 3 ns1]]), (91, .ret [.seq false [.dat (I o5), .own 41 cs5, .own 3 rs5, .own 3 ns5], .dat (B w)]), (96, .ret [.dat (B true)]), (200102, .no), (105, .ret [.dat (I k4)]), (200107, .no), (200110, .no)] (ob h1 (ob h2 (ob h3 (ob h4 (ob h5 (ob h6 (ob h7 (ob h8 (ob rT (ob h10 (ob rF (ob rF (ob rF (ob h14 (ob h15 (ob rT (ob h17 (ob rF (ob h19 (ob rF (ob h21 (ob rF (ob rF (ob rT (ob h25 (ob rF (ob h27 (ob h28 (ob rF (ob rT (ob h31 (ob h32 (ob h33 (ob h34 (ob h35 (ob h36 (ob rT (ob h38 (ob h39 (ob rT (ob h41 (ob h42 (ob h43 ob0))))))))))))))))))))))))))))))))))))))))))) (by kernel_rfl)
end Go.Den
namespace Go.Den
open Go.Proofs
open Go
set_option linter.unusedVariables false
set_option maxRecDepth 100000
theorem ih {α : Type} {es : List α} {i : Nat} {d : α} (h : es[i]? = some d) : (0 ≤ (i : Int) ∧ (i : Int) < (es.length : Int)) ∧ es[((i : Int)).toNat]? = some d := by
 have hlt := (List.getElem?_eq_some_iff.1 h).1
 refine ⟨⟨by omega, by omega⟩, ?_⟩
 rw [Int.toNat_natCast]
 exact h
theorem gm {α : Type} {L : List α} {f : α → Dat} {i : Nat} {x : α} (h : L[i]? = some x) : (L.map f)[i]? = some (f x) := by rw [List.getElem?_map, h]; rfl
theorem wi (i : Nat) (h : i ≤ 1048576) : w64 ((i : Int) + 1) = ((i + 1 : Nat) : Int) := by rw [zeq (by omega)]; rfl
theorem zbR {α : Type} {L : List α} {i : Nat} (h : i < L.length) : ∃ x, L[i]? = some x := ⟨_, List.getElem?_eq_getElem h⟩
def zdf (l : Int) (n : Nat) : Int := if l - n < 0 then -1 else l - n
theorem zkz {l : Int} {n : Nat} (h : l - n < 0) : zdf l n = -1 := if_pos h
theorem zkj {l : Int} {n : Nat} (h : ¬ l - n < 0) : zdf l n = l - n := if_neg h
theorem zeb (l : Int) (n : Nat) : (zdf l n = -1 ∧ l - n < 0) ∨ (zdf l n = l - n ∧ 0 ≤ l - n) := by
 unfold zdf
 split
 · exact .inl ⟨rfl, by assumption⟩
 · exact .inr ⟨rfl, by omega⟩
theorem znU (left : Int) (b : Bool) (es : List Dat) (h0 : 0 ≤ left) (h1 : left ≤ 1048576) (h2 : es.length ≤ 9223372036854775807) : EvN 1 11 [.dat (.lst b es), .dat (I left)] [] [] ([.dat (I (zdf left es.length))], [], []) := by
 refine zaS Try.f11 0 (by kernel_rfl) (by kernel_rfl) fun kk _ => ?_
 have hw : w64 (left - es.length) = left - es.length := zeq (by omega)
 refine szC kk left b es (fun d => ?_) (fun d => ?_)
 · rw [hw] at d
   rw [zkz (of_decide_eq_true d)]
 · rw [hw] at d ⊢
   rw [zkj (of_decide_eq_false d)]
theorem zmF (left : Int) (b : Bool) (es : List Dat) (h0 : 0 ≤ left) (h1 : left ≤ 1048576) (h2 : es.length ≤ 9223372036854775807) : EvN 1 12 [.dat (.lst b es), .dat (I left)] [] [] ([.dat (I (zdf left es.length))], [], []) := by
 refine zaS Try.f12 0 (by kernel_rfl) (by kernel_rfl) fun kk _ => ?_
 have hw : w64 (left - es.length) = left - es.length := zeq (by omega)
 refine szI kk left b es (fun d => ?_) (fun d => ?_)
 · rw [hw] at d
   rw [zkz (of_decide_eq_true d)]
 · rw [hw] at d ⊢
   rw [zkj (of_decide_eq_false d)]
theorem znx (b : Bool) (o : Int) (cs rs ns : List Dat) (h1 : cs.length ≤ 9223372036854775807) (h2 : rs.length ≤ 9223372036854775807) (h3 : ns.length ≤ 9223372036854775807) :
 ∃ z : Int, EvN 2 4 [.dat (Yd b o cs rs ns), .dat (I 1048576)] [] [] ([.dat (I z)], [], []) ∧ (0 ≤ z → cs.length + rs.length + ns.length ≤ 1048576) := by
 have l1 := zeb 1048576 cs.length
 generalize hz1 : zdf 1048576 cs.length = z1 at *
 have l2 := zeb z1 rs.length
 generalize hz2 : zdf z1 rs.length = z2 at *
 have l3 := zeb z2 ns.length
 generalize hz3 : zdf z2 ns.length = z3 at *
 refine ⟨if z1 < 0 then -1 else if z2 < 0 then -1 else z3, zaS Try.f4 1 (by kernel_rfl) (by kernel_rfl) fun kk hkk => ?_, fun hz => ?_⟩
 · have c1 := znU 1048576 b cs (by omega) (by omega) h1 kk (by omega)
   rw [hz1] at c1
   have c2 := fun h => zmF z1 b rs h (by omega) h2 kk (by omega)
   rw [hz2] at c2
   have c3 := fun h => zmF z2 b ns h (by omega) h3 kk (by omega)
   rw [hz3] at c3
   refine szY kk 1048576 b o cs rs ns z1 z2 z3 (fun d1 => ⟨c1, ?_⟩) (fun d1 d2 => ⟨c1, c2 ?_, ?_⟩) (fun d1 d2 d3 => ⟨c1, c2 ?_, c3 ?_, ?_⟩) (fun d1 d2 d3 => ⟨c1, c2 ?_, c3 ?_, ?_⟩) <;> simp only [decide_eq_true_eq, decide_eq_false_iff_not] at * <;> first | omega | skip
   · rw [if_pos d1]
   · rw [if_neg d1, if_pos d2]
   · rw [if_neg d1, if_neg d2]
     have : z3 = -1 := by omega
     rw [this]
   · rw [if_neg d1, if_neg d2]
 · split at hz
   · omega
   · split at hz
     · omega
     · omega
theorem zkI (c : Cl) : EvN 1 29 [.dat c.d] [] [] ([.dat c.d], [], []) :=
 zaS Try.f29 0 (by kernel_rfl) (by kernel_rfl) fun kk _ => zny kk c rfl
theorem zjS (b : Bool) (L : List Cl) (h : L.length ≤ 1048576) : EvN 1048580 16 [.dat (.lst b (L.map Cl.d))] [] [] ([.own 41 (L.map Cl.d)], [], []) := by
 refine zaS Try.f16 1048579 (by kernel_rfl) (by kernel_rfl) fun kk hkk => ?_
 have hlen : (L.map Cl.d).length = L.length := by simp
 generalize hes : L.map Cl.d = es at *
 refine zm3 kk b es es ⟨⟨by omega, by omega, by omega⟩, ?_, rfl⟩
 refine zaG (fun i => hd41 b es (es.take i ++ List.replicate (es.length - i) (Cl.d ⟨false, 0, 0, 0⟩)) i) es.length (by omega) (fun i hi m s K hs hn => ?_) (fun m s K hs hK => ?_) (by simp)
 · obtain ⟨x, hx⟩ := zbR (L := L) (i := i) (by omega)
   have hxd : es[i]? = some x.d := by rw [← hes]; exact gm hx
   refine zhr kk m b es _ i x x ⟨false, 0, 0, 0⟩ hs (fun _ => ⟨ih hxd, zkI x kk (by omega), ⟨by omega, by simp; omega⟩, by rw [Int.toNat_natCast]; exact zj9 es _ i hi, fun s' hs' => hn s' ?_⟩) (fun d => absurd (of_decide_eq_false d) (by omega))
   rw [hs', Int.toNat_natCast, wi i (by omega), show Dat.agg [B x.l, I x.n, I x.a, I x.b] = x.d from rfl, zln es _ _ i hi hxd]
   rfl
 · refine zhr kk m b es _ _ ⟨false, 0, 0, 0⟩ ⟨false, 0, 0, 0⟩ ⟨false, 0, 0, 0⟩ hs (fun d => absurd (of_decide_eq_true d) (by omega)) (fun _ => ?_)
   simpa using hK
theorem zhc (b : Bool) (L : List Int) (h : L.length ≤ 1048576) : EvN 1048580 17 [.dat (.lst b (L.map (I ·)))] [] [] ([.own 3 (L.map (I ·))], [], []) := by
 refine zaS Try.f17 1048579 (by kernel_rfl) (by kernel_rfl) fun kk hkk => ?_
 have hlen : (L.map (I ·)).length = L.length := by simp
 generalize hes : L.map (I ·) = es at *
 refine znR kk b es es ⟨⟨by omega, by omega, by omega⟩, ?_, rfl⟩
 refine zaG (fun i => hd42 b es (es.take i ++ List.replicate (es.length - i) (I 0)) i) es.length (by omega) (fun i hi m s K hs hn => ?_) (fun m s K hs hK => ?_) (by simp)
 · obtain ⟨x, hx⟩ := zbR (L := L) (i := i) (by omega)
   have hxd : es[i]? = some (I x) := by rw [← hes]; exact gm (f := (I ·)) hx
   refine ziN kk m b es _ i x 0 hs (fun _ => ⟨ih hxd, ⟨by omega, by simp; omega⟩, by rw [Int.toNat_natCast]; exact zj9 es _ i hi, fun s' hs' => hn s' ?_⟩) (fun d => absurd (of_decide_eq_false d) (by omega))
   rw [hs', Int.toNat_natCast, wi i (by omega), zln es _ _ i hi hxd]
   rfl
 · refine ziN kk m b es _ _ 0 0 hs (fun d => absurd (of_decide_eq_true d) (by omega)) (fun _ => ?_)
   simpa using hK
abbrev YD (b : Bool) (o : Int) (cs : List Cl) (rs ns : List Int) : Dat := Yd b o (cs.map Cl.d) (rs.map (I ·)) (ns.map (I ·))
theorem zk9 (c : Cl) : EvN 1 38 [.dat c.d, .dat c.d] [] [] ([.dat (B true)], [], []) :=
 zaS Try.f38 0 (by kernel_rfl) (by kernel_rfl) fun kk _ => znJ kk c c (fun d => by simp at d) (fun _ d => by simp at d) (fun _ _ d => by simp at d) (fun _ _ _ d => by simp at d) (fun _ _ _ _ => rfl)
theorem zjy (L : List Cl) (b1 b2 : Bool) (h : L.length ≤ 1048576) : EvN 1048580 22 [.dat (.lst b1 (L.map Cl.d)), .dat (.lst b2 (L.map Cl.d))] [] [] ([.dat (B true)], [], []) := by
 refine zaS Try.f22 1048579 (by kernel_rfl) (by kernel_rfl) fun kk hkk => ?_
 have hlen : (L.map Cl.d).length = L.length := by simp
 generalize hes : L.map Cl.d = es at *
 refine zkN kk b1 b2 es es (fun d => by simp at d) (fun _ => ⟨?_, rfl⟩)
 refine zaG (fun i => hd45 b1 b2 es es i) es.length (by omega) (fun i hi m s K hs hn => ?_) (fun m s K hs hK => ?_) rfl
 · obtain ⟨x, hx⟩ := zbR (L := L) (i := i) (by omega)
   have hxd : es[i]? = some x.d := by rw [← hes]; exact gm hx
   refine zhk kk m b1 b2 es es i x x true hs (fun _ d => by cases d) (fun _ _ => ⟨ih hxd, ih hxd, zk9 x kk (by omega), fun s' hs' => hn s' ?_⟩) (fun d => absurd (of_decide_eq_false d) (by omega))
   rw [hs', wi i (by omega)]
   rfl
 · exact zhk kk m b1 b2 es es _ ⟨false, 0, 0, 0⟩ ⟨false, 0, 0, 0⟩ true hs (fun d => absurd (of_decide_eq_true d) (by omega)) (fun d => absurd (of_decide_eq_true d) (by omega)) (fun _ => hK)
theorem zhO (L : List Int) (b1 b2 : Bool) (h : L.length ≤ 1048576) : EvN 1048580 23 [.dat (.lst b1 (L.map (I ·))), .dat (.lst b2 (L.map (I ·)))] [] [] ([.dat (B true)], [], []) := by
 refine zaS Try.f23 1048579 (by kernel_rfl) (by kernel_rfl) fun kk hkk => ?_
 have hlen : (L.map (I ·)).length = L.length := by simp
 generalize hes : L.map (I ·) = es at *
 refine zma kk b1 b2 es es (fun d => by simp at d) (fun _ => ⟨?_, rfl⟩)
 refine zaG (fun i => hd45 b1 b2 es es i) es.length (by omega) (fun i hi m s K hs hn => ?_) (fun m s K hs hK => ?_) rfl
 · obtain ⟨x, hx⟩ := zbR (L := L) (i := i) (by omega)
   have hxd : es[i]? = some (I x) := by rw [← hes]; exact gm (f := (I ·)) hx
   refine zi4 kk m b1 b2 es es i x x hs (fun _ d => by simp at d) (fun _ _ => ⟨ih hxd, ih hxd, fun s' hs' => hn s' ?_⟩) (fun d => absurd (of_decide_eq_false d) (by omega))
   rw [hs', wi i (by omega)]
   rfl
 · exact zi4 kk m b1 b2 es es _ 0 0 hs (fun d => absurd (of_decide_eq_true d) (by omega)) (fun d => absurd (of_decide_eq_true d) (by omega)) (fun _ => hK)
theorem zf6 (b1 b2 : Bool) (o : Int) (cs : List Cl) (rs ns : List Int) (h : cs.length + rs.length + ns.length ≤ 1048576) : EvN 1048581 8 [.dat (YD b1 o cs rs ns), .dat (YD b2 o cs rs ns)] [] [] ([.dat (B true)], [], []) := by
 refine zaS Try.f8 1048580 (by kernel_rfl) (by kernel_rfl) fun kk hkk => ?_
 have h1 := zjy cs b1 b2 (by omega) kk (by omega)
 have h2 := zhO rs b1 b2 (by omega) kk (by omega)
 have h3 := zhO ns b1 b2 (by omega) kk (by omega)
 exact zm4 kk b1 b2 o o _ _ _ _ _ _ true true true (fun d => by simp at d) (fun _ d => by cases d) (fun _ _ d => by cases d) (fun _ _ _ d => by cases d) (fun _ _ _ _ => ⟨h1, h2, h3, rfl⟩)
end Go.Den
namespace Go.Den
open Go.Proofs
open Go
set_option linter.unusedVariables false
set_option maxRecDepth 100000
def inB (x lo hi : Int) : Bool := decide (lo ≤ x) && decide (x ≤ hi)
def zax (x hi : Int) : Bool := decide (0 ≤ x) && decide (x < hi)
theorem zjq (x hi : Int) : inB x 0 (hi - 1) = zax x hi := by unfold inB zax; congr 1; rw [decide_eq_decide]; omega
def zen (n : Int) (c : Cl) : Bool := match c.l with
 | true => decide (c.a = 0) && decide (c.b = 0)
 | false => decide (c.n = 0) && (zax c.a n && zax c.b n)
def zdI (o : Int) (c : Cl) : Bool := !c.l && (decide (o ≤ c.a) || decide (o ≤ c.b))
def hasB (zs : List Int) (x : Int) : Bool := zs.any fun z => decide (z = x)
def chkN (o : Int) (ns : List Int) (i : Nat) : Bool := zax (ns.getD i 0) o && !(decide (0 < i) && decide (ns.getD i 0 ≤ ns.getD (i - 1) 0))
def chkC (cs : List Cl) (o : Int) (ns : List Int) (i : Nat) : Bool := zen cs.length (cs.getD i ⟨false, 0, 0, 0⟩) && !(decide ((i : Int) < o) && zdI o (cs.getD i ⟨false, 0, 0, 0⟩) && !hasB ns i)
def chkR (n : Int) (rs : List Int) (i : Nat) : Bool := zax (rs.getD i 0) n
def zdh (o : Int) (cs : List Cl) (rs ns : List Int) : Bool :=
 decide (cs.length ≤ 200) && decide (rs.length ≤ 60) && inB o 0 cs.length && (List.range ns.length).all (chkN o ns) && (List.range cs.length).all (chkC cs o ns) && (List.range rs.length).all (chkR cs.length rs)
theorem gd {α : Type} {L : List α} {i : Nat} {x z : α} (h : L[i]? = some x) : L.getD i z = x := by rw [List.getD_eq_getElem?_getD, h]; rfl
theorem zit (x lo hi : Int) : EvN 1 14 [.dat (I x), .dat (I lo), .dat (I hi)] [] [] ([.dat (B (inB x lo hi))], [], []) :=
 zaS Try.f14 0 (by kernel_rfl) (by kernel_rfl) fun kk _ => l1In kk x lo hi (fun d => by simp only [decide_eq_true_eq] at d; simp [inB, d]) (fun d => by simp only [decide_eq_false_iff_not] at d; simp [inB, d])
theorem zbM (x hi : Int) : EvN 1 19 [.dat (I x), .dat (I hi)] [] [] ([.dat (B (zax x hi))], [], []) :=
 zaS Try.f19 0 (by kernel_rfl) (by kernel_rfl) fun kk _ => znr kk x hi (fun d => by simp only [decide_eq_true_eq] at d; simp [zax, d]) (fun d => by simp only [decide_eq_false_iff_not] at d; simp [zax, d])
theorem zhb {zs : List Int} {x : Int} (p : Int → Bool) : zs.any p = !(List.range zs.length).all fun i => !p (zs.getD i 0) := by
 rw [← List.not_any_eq_all_not]
 simp only [Bool.not_not, List.any_eq, List.mem_range]
 rw [decide_eq_decide]
 constructor
 · rintro ⟨z, hz, hp⟩
   obtain ⟨i, hi, rfl⟩ := List.mem_iff_getElem.1 hz
   exact ⟨i, hi, by simpa [List.getD_eq_getElem?_getD, hi] using hp⟩
 · rintro ⟨i, hi, hp⟩
   exact ⟨zs[i], List.getElem_mem hi, by simpa [List.getD_eq_getElem?_getD, hi] using hp⟩
theorem ziP (b : Bool) (zs : List Int) (x : Int) (h : zs.length ≤ 1048576) : EvN 1048580 28 [.dat (.lst b (zs.map (I ·))), .dat (I x)] [] [] ([.dat (B (hasB zs x))], [], []) := by
 refine zaS Try.f28 1048579 (by kernel_rfl) (by kernel_rfl) fun kk hkk => ?_
 have hlen : (zs.map (I ·)).length = zs.length := by simp
 obtain ⟨h1, h2⟩ := zbN (kk := kk) (f := 28) (fn := Try.f28) (r := 2) (x1 := .exit 0) (x2 := .ret) (s1 := Nm [4] [.junk] [none] [] []) (s2 := Nm [4] [.dat (B true)] [none] [] []) (s0 := hd71 b (zs.map (I ·)) x 0) (fun i => hd71 b (zs.map (I ·)) x i) (fun i => !decide (zs.getD i 0 = x)) zs.length (by omega) (fun i hi _ m s K hs hgo hbad => by
  obtain ⟨z, hz⟩ := zbR hi
  have hzd := ih (gm (f := (I ·)) hz)
  refine zlv kk m b _ x i z hs (fun _ d => ⟨hzd, hbad ?_⟩) (fun _ d => ⟨hzd, fun s' hs' => hgo ?_ s' ?_⟩) (fun d => absurd (of_decide_eq_false d) (by omega))
  · rw [gd hz, d]; rfl
  · rw [gd hz, d]; rfl
  · rw [hs', wi i (by omega)]; rfl) (fun _ m s K hs hK => zlv kk m b _ x _ 0 hs (fun d => absurd (of_decide_eq_true d) (by omega)) (fun d => absurd (of_decide_eq_true d) (by omega)) (fun _ => hK)) rfl
 have ha : hasB zs x = _ := zhb (x := x) fun z => decide (z = x)
 rw [ha]
 cases hall : (List.range zs.length).all fun i => !decide (zs.getD i 0 = x) with
 | true => exact zmP kk b _ x ⟨h1 hall, rfl⟩
 | false => exact zm8 kk b _ x ⟨h2 hall, rfl⟩
theorem zic (b : Bool) (zs : List Int) (x : Int) (h : zs.length ≤ 1048576) : EvN 1048581 33 [.dat (.lst b (zs.map (I ·))), .dat (I x)] [] [] ([.dat (B (hasB zs x))], [], []) := by
 have hlen : (zs.map (I ·)).length = zs.length := by simp
 have key : ∃ j : Int, EvN 1048580 41 [.dat (.lst b (zs.map (I ·))), .dat (I x)] [] [] ([.dat (I j)], [], []) ∧ decide (0 ≤ j) = hasB zs x := by
  have lp := fun kk (hkk : 1048579 ≤ kk) => zcP (kk := kk) (f := 41) (fn := Try.f41) (r := 2) (x1 := .exit 0) (x2 := .ret) (s1 := Nm [4] [.junk] [none] [] []) (s2 := fun i => Nm [4] [.dat (I i)] [none] [] []) (s0 := hd89 b (zs.map (I ·)) x 0) (fun i => hd89 b (zs.map (I ·)) x i) (fun i => !decide (zs.getD i 0 = x)) zs.length (by omega) (fun i hi _ m s K hs hgo hbad => by
   obtain ⟨z, hz⟩ := zbR hi
   have hzd := ih (gm (f := (I ·)) hz)
   refine zkS kk m b _ x i z hs (fun _ d => ⟨hzd, hbad ?_⟩) (fun _ d => ⟨hzd, fun s' hs' => hgo ?_ s' ?_⟩) (fun d => absurd (of_decide_eq_false d) (by omega))
   · rw [gd hz]; simp only [decide_eq_true_eq] at d; simp [d]
   · rw [gd hz]; simp only [decide_eq_false_iff_not] at d; simp [Ne.symm d]
   · rw [hs', wi i (by omega)]; rfl) (fun _ m s K hs hK => zkS kk m b _ x _ 0 hs (fun d => absurd (of_decide_eq_true d) (by omega)) (fun d => absurd (of_decide_eq_true d) (by omega)) (fun _ => hK)) rfl
  have ha : hasB zs x = _ := zhb (x := x) fun z => decide (z = x)
  rw [ha]
  cases hall : (List.range zs.length).all fun i => !decide (zs.getD i 0 = x) with
  | true => exact ⟨-1, zaS Try.f41 1048579 (by kernel_rfl) (by kernel_rfl) fun kk hkk => znk kk b _ x ⟨(lp kk hkk).1 hall, rfl⟩, rfl⟩
  | false =>
    obtain ⟨j, q, h3, h4, h5⟩ := zdO _ hall
    have hj : j < zs.length := by
     have := (List.getElem?_eq_some_iff.1 h3).1
     simpa using this
    rw [List.getElem?_range hj] at h3
    cases h3
    exact ⟨j, zaS Try.f41 1048579 (by kernel_rfl) (by kernel_rfl) fun kk hkk => znl kk b _ x j ⟨(lp kk hkk).2 j hj (fun i hi => h5 i i hi (List.getElem?_range (by omega))) h4, rfl⟩, by simp⟩
 obtain ⟨j, h1, h2⟩ := key
 exact zaS Try.f33 1048580 (by kernel_rfl) (by kernel_rfl) fun kk hkk => contains kk b _ x j ⟨h1 kk (by omega), by rw [← h2]⟩
theorem zmo (b : Bool) (zs : List Int) (hi : Int) (h : zs.length ≤ 1048576) : EvN 1048590 39 [.dat (.lst b (zs.map (I ·))), .fn 40 [.up 0]] [[.dat (I hi)]] [] ([.dat (B (!(List.range zs.length).all (chkR hi zs)))], [[.dat (I hi)]], []) := by
 have hlen : (zs.map (I ·)).length = zs.length := by simp
 have hr : ∀ x : Int, EvN 3 40 [.dat (I x), .ptr (.up 0) 0] [[.dat (I hi)]] [] ([.dat (B (!zax x hi))], [[.dat (I hi)]], []) := fun x =>
  zaS Try.f40 2 (by kernel_rfl) (by kernel_rfl) fun kk hkk => root1 kk x hi _ ⟨zbM x hi kk (by omega), rfl⟩
 have key : ∃ j : Int, EvN 1048585 46 [.dat (.lst b (zs.map (I ·))), .fn 40 [.up 0]] [[.dat (I hi)]] [] ([.dat (I j)], [[.dat (I hi)]], []) ∧ decide (0 ≤ j) = !(List.range zs.length).all (chkR hi zs) := by
  have lp := fun kk (hkk : 1048579 ≤ kk) => zcP (kk := kk) (f := 46) (fn := Try.f46) (r := 2) (x1 := .exit 0) (x2 := .ret) (s1 := Nm [4] [.junk] [none] [[.dat (I hi)]] []) (s2 := fun i => Nm [4] [.dat (I i)] [none] [[.dat (I hi)]] []) (s0 := zgK b (zs.map (I ·)) hi 0) (fun i => zgK b (zs.map (I ·)) hi i) (chkR hi zs) zs.length (by omega) (fun i hlt _ m s K hs hgo hbad => by
   obtain ⟨z, hz⟩ := zbR hlt
   have hzd := ih (gm (f := (I ·)) hz)
   have hc : chkR hi zs i = zax z hi := by unfold chkR; rw [gd hz]
   refine zjs kk m b _ hi i (!zax z hi) z hs (fun _ d => ⟨hzd, hr z kk (by omega), hbad ?_⟩) (fun _ d => ⟨hzd, hr z kk (by omega), fun s' hs' => hgo ?_ s' ?_⟩) (fun d => absurd (of_decide_eq_false d) (by omega))
   · rw [hc]; simpa using d
   · rw [hc]; simpa using d
   · rw [hs', wi i (by omega)]; rfl) (fun _ m s K hs hK => zjs kk m b _ hi _ true 0 hs (fun d => absurd (of_decide_eq_true d) (by omega)) (fun d => absurd (of_decide_eq_true d) (by omega)) (fun _ => hK)) rfl
  cases hall : (List.range zs.length).all (chkR hi zs) with
  | true => exact ⟨-1, zaS Try.f46 1048584 (by kernel_rfl) (by kernel_rfl) fun kk hkk => zmm kk b _ hi ⟨(lp kk (by omega)).1 hall, rfl⟩, rfl⟩
  | false =>
    obtain ⟨j, q, h3, h4, h5⟩ := zdO _ hall
    have hj : j < zs.length := by
     have := (List.getElem?_eq_some_iff.1 h3).1
     simpa using this
    rw [List.getElem?_range hj] at h3
    cases h3
    exact ⟨j, zaS Try.f46 1048584 (by kernel_rfl) (by kernel_rfl) fun kk hkk => zlD kk b _ hi j ⟨(lp kk (by omega)).2 j hj (fun i hi => h5 i i hi (List.getElem?_range (by omega))) h4, rfl⟩, by simp⟩
 obtain ⟨j, h1, h2⟩ := key
 exact zaS Try.f39 1048589 (by kernel_rfl) (by kernel_rfl) fun kk hkk => zkq kk b _ hi j ⟨h1 kk (by omega), by rw [← h2]⟩
theorem ziC (b : Bool) (zs : List Int) (hi : Int) (h : zs.length ≤ 1048576) : EvN 1048600 30 [.dat (.lst b (zs.map (I ·))), .dat (I hi)] [] [] ([.dat (B (decide (zs.length ≤ 60) && (List.range zs.length).all (chkR hi zs)))], [], []) := by
 have hlen : (zs.map (I ·)).length = zs.length := by simp
 refine zaS Try.f30 1048599 (by kernel_rfl) (by kernel_rfl) fun kk hkk => zl6 kk b _ hi _ (fun d => ⟨zmo b zs hi h kk (by omega), ?_⟩) (fun d => ?_)
 · rw [hlen] at d
   have : zs.length ≤ 60 := by have := of_decide_eq_true d; omega
   simp [this]
 · rw [hlen] at d
   have : ¬ zs.length ≤ 60 := by have := of_decide_eq_false d; omega
   simp [this]
theorem zkF (c : Cl) (hi : Int) : EvN 2 31 [.dat c.d, .dat (I hi)] [] [] ([.dat (B (zen hi c))], [], []) := by
 refine zaS Try.f31 1 (by kernel_rfl) (by kernel_rfl) fun kk hkk => ?_
 have h1 := zbM c.a hi kk (by omega)
 have h2 := zbM c.b hi kk (by omega)
 refine zmL kk c hi (zax c.a hi) (zax c.b hi) (fun d1 d2 => ?_) (fun d1 d2 => ?_) (fun d1 d2 d3 => ⟨h1, h2, ?_⟩) (fun d1 d2 d3 => ⟨h1, ?_⟩) (fun d1 d2 => ?_) <;> (clear h1 h2; unfold zen; rw [d1]; simp_all)
theorem zlQ (b : Bool) (o : Int) (cs rs ns : List Dat) (c : Cl) : EvN 1 32 [.dat (Yd b o cs rs ns), .dat c.d] [] [] ([.dat (B (zdI o c))], [], []) := by
 refine zaS Try.f32 0 (by kernel_rfl) (by kernel_rfl) fun kk hkk => names kk b o cs rs ns c (fun d1 d2 => ?_) (fun d1 d2 => ?_) (fun d1 => ?_) <;> simp_all [zdI] <;> omega
theorem zmn (b : Bool) (o : Int) (cs : List Cl) (rs ns : List Int) (h : cs.length + rs.length + ns.length ≤ 1048576) : EvN 1048610 18 [.dat (YD b o cs rs ns)] [] [] ([.dat (B (zdh o cs rs ns))], [], []) := by
 refine zaS Try.f18 1048609 (by kernel_rfl) (by kernel_rfl) fun kk hkk => ?_
 have hlc : (cs.map Cl.d).length = cs.length := by simp
 have hln : (ns.map (I ·)).length = ns.length := by simp
 have hlr : (rs.map (I ·)).length = rs.length := by simp
 have hroots := ziC b rs cs.length (by omega) kk (by omega)
 rw [← hlc] at hroots
 have la := zbN (kk := kk) (f := 18) (fn := Try.f18) (r := 5) (x1 := .exit 0) (x2 := .ret) (s1 := Nm [1, 2, 3] [.ptr (.loc 1) 0, .junk, .dat (I (cs.map Cl.d).length)] [Yb b o (cs.map Cl.d) (rs.map (I ·)) (ns.map (I ·)), none, none] [] []) (s2 := Nm [1, 2, 3] [.ptr (.loc 1) 0, .dat (B false), .dat (I (cs.map Cl.d).length)] [Yb b o (cs.map Cl.d) (rs.map (I ·)) (ns.map (I ·)), none, none] [] []) (s0 := zbL b o (cs.map Cl.d) (rs.map (I ·)) (ns.map (I ·)) 0) (fun i => zbL b o (cs.map Cl.d) (rs.map (I ·)) (ns.map (I ·)) i) (chkN o ns) ns.length (by omega) (fun i hi _ m s K hs hgo hbad => by
  obtain ⟨z, hz⟩ := zbR hi
  have hzd := ih (gm (f := (I ·)) hz)
  have hb := zbM z o kk (by omega)
  have hc : chkN o ns i = (zax z o && !(decide (0 < i) && decide (z ≤ ns.getD (i - 1) 0))) := by unfold chkN; rw [gd hz]
  have hp : 0 < i → (0 ≤ w64 ((i : Int) - 1) ∧ w64 ((i : Int) - 1) < ((ns.map (I ·)).length : Int)) ∧ (ns.map (I ·))[(w64 ((i : Int) - 1)).toNat]? = some (I (ns.getD (i - 1) 0)) := fun h0 => by
   have e : w64 ((i : Int) - 1) = ((i - 1 : Nat) : Int) := by rw [zeq (by omega)]; omega
   rw [e]
   obtain ⟨y, hy⟩ := zbR (L := ns) (i := i - 1) (by omega)
   rw [gd hy]
   exact ih (gm (f := (I ·)) hy)
  refine zlk kk m b o _ _ _ i z (zax z o) (ns.getD (i - 1) 0) hs (fun _ d => ⟨hzd, hb, hbad ?_⟩) (fun _ d d2 d3 => ⟨hzd, hb, hp ?_, hbad ?_⟩) (fun _ d d2 d3 => ⟨hzd, hb, hp ?_, fun s' hs' => hgo ?_ s' ?_⟩) (fun _ d d2 => ⟨hzd, hb, fun s' hs' => hgo ?_ s' ?_⟩) (fun d => absurd (of_decide_eq_false d) (by omega)) <;> first | (rw [hs', wi i (by omega)]; rfl) | (have := of_decide_eq_true d2; omega) | skip
  · rw [hc]; simp only [Bool.not_eq_true'] at d; rw [d]; rfl
  · have : 0 < i := by have := of_decide_eq_true d2; omega
    rw [hc, d3]; simp [this]
  · simp only [Bool.not_eq_false'] at d
    rw [hc, d, d3]; simp
  · have : ¬ 0 < i := by have := of_decide_eq_false d2; omega
    simp only [Bool.not_eq_false'] at d
    rw [hc, d]; simp [this]) (fun _ m s K hs hK => zlk kk m b o _ _ _ _ 0 true 0 hs (fun d => absurd (of_decide_eq_true d) (by omega)) (fun d => absurd (of_decide_eq_true d) (by omega)) (fun d => absurd (of_decide_eq_true d) (by omega)) (fun d => absurd (of_decide_eq_true d) (by omega)) (fun _ => hK)) rfl
 have lb := zbN (kk := kk) (f := 18) (fn := Try.f18) (r := 11) (x1 := .exit 2) (x2 := .ret) (s1 := Nm [2] [.junk] [none] [] []) (s2 := Nm [2] [.dat (B false)] [none] [] []) (s0 := zcI b o (cs.map Cl.d) (rs.map (I ·)) (ns.map (I ·)) 0) (fun i => zcI b o (cs.map Cl.d) (rs.map (I ·)) (ns.map (I ·)) i) (chkC cs o ns) cs.length (by omega) (fun i hi _ m s K hs hgo hbad => by
  obtain ⟨c, hz⟩ := zbR hi
  have hzd := ih (gm (f := Cl.d) hz)
  have h1 := zkF c ((cs.map Cl.d).length : Int) kk (by omega)
  have h2 := zlQ b o (cs.map Cl.d) (rs.map (I ·)) (ns.map (I ·)) c kk (by omega)
  have h3 := zic b ns i (by omega) kk (by omega)
  have hc : chkC cs o ns i = (zen (cs.map Cl.d).length c && !(decide ((i : Int) < o) && zdI o c && !hasB ns i)) := by unfold chkC; rw [gd hz, hlc]
  refine zkM kk m b o _ _ _ i c (zen (cs.map Cl.d).length c) (zdI o c) (hasB ns i) hs (fun _ d => ⟨hzd, h1, hbad ?_⟩) (fun _ d d2 d3 d4 => ⟨hzd, h1, h2, h3, hbad ?_⟩) (fun _ d d2 d3 d4 => ⟨hzd, h1, h2, h3, fun s' hs' => hgo ?_ s' ?_⟩) (fun _ d d2 d3 => ⟨hzd, h1, h2, fun s' hs' => hgo ?_ s' ?_⟩) (fun _ d d2 => ⟨hzd, h1, fun s' hs' => hgo ?_ s' ?_⟩) (fun d => absurd (of_decide_eq_false d) (by omega)) <;> first | (rw [hs', wi i (by omega)]; rfl) | skip
  · rw [hc]; clear h1 h2 h3 hs hgo hbad; simp_all
  · rw [hc]; clear h1 h2 h3 hs hgo hbad; simp_all
  · rw [hc]; clear h1 h2 h3 hs hgo hbad hs'; simp_all
  · rw [hc]; clear h1 h2 h3 hs hgo hbad hs'; simp_all
  · rw [hc]; clear h1 h2 h3 hs hgo hbad hs'; simp_all) (fun _ m s K hs hK => zkM kk m b o _ _ _ _ ⟨false, 0, 0, 0⟩ true true true hs (fun d => absurd (of_decide_eq_true d) (by omega)) (fun d => absurd (of_decide_eq_true d) (by omega)) (fun d => absurd (of_decide_eq_true d) (by omega)) (fun d => absurd (of_decide_eq_true d) (by omega)) (fun d => absurd (of_decide_eq_true d) (by omega)) (fun _ => hK)) rfl
 have hres : zdh o cs rs ns = (!decide (200 < ((cs.map Cl.d).length : Int)) && !decide (o < 0) && !decide (((cs.map Cl.d).length : Int) < o) && (decide (rs.length ≤ 60) && (List.range rs.length).all (chkR ((cs.map Cl.d).length : Int) rs)) && (List.range ns.length).all (chkN o ns) && (List.range cs.length).all (chkC cs o ns)) := by
  unfold zdh inB
  rw [hlc]
  have e1 : (!decide (200 < (cs.length : Int))) = decide (cs.length ≤ 200) := by rw [← decide_not, decide_eq_decide]; omega
  have e2 : (!decide (o < 0)) = decide (0 ≤ o) := by rw [← decide_not, decide_eq_decide]; omega
  have e3 : (!decide ((cs.length : Int) < o)) = decide (o ≤ (cs.length : Int)) := by rw [← decide_not, decide_eq_decide]; omega
  rw [e1, e2, e3]
  generalize (List.range ns.length).all (chkN o ns) = x1
  generalize (List.range cs.length).all (chkC cs o ns) = x2
  generalize (List.range rs.length).all (chkR (cs.length : Int) rs) = x3
  generalize decide (cs.length ≤ 200) = x4
  generalize decide (rs.length ≤ 60) = x5
  generalize decide (0 ≤ o) = x6
  generalize decide (o ≤ (cs.length : Int)) = x7
  revert x1 x2 x3 x4 x5 x6 x7
  decide
 rw [hres]
 clear hres
 generalize (decide (rs.length ≤ 60) && (List.range rs.length).all (chkR ((cs.map Cl.d).length : Int) rs)) = gr at *
 cases ha : (List.range ns.length).all (chkN o ns) with
 | false => exact znj kk b o _ _ _ gr (fun d => by rw [d]; rfl) (fun d1 d2 => by rw [d1, d2]; rfl) (fun d1 d2 d3 => by rw [d1, d2, d3]; rfl) (fun d1 d2 d3 d4 => ⟨hroots, by rw [d1, d2, d3]; cases gr <;> first | rfl | cases d4⟩) (fun d1 d2 d3 d4 => ⟨hroots, la.2 ha, by rw [Bool.and_false]; rfl⟩)
 | true =>
   cases hb : (List.range cs.length).all (chkC cs o ns) with
   | false => exact zns kk b o _ _ _ gr (fun d => by rw [d]; rfl) (fun d1 d2 => by rw [d1, d2]; rfl) (fun d1 d2 d3 => by rw [d1, d2, d3]; rfl) (fun d1 d2 d3 d4 => ⟨hroots, by rw [d1, d2, d3]; cases gr <;> first | rfl | cases d4⟩) (fun d1 d2 d3 d4 => ⟨hroots, la.1 ha, lb.2 hb, by rw [Bool.and_false]⟩)
   | true => exact zmQ kk b o _ _ _ gr (fun d => by rw [d]; rfl) (fun d1 d2 => by rw [d1, d2]; rfl) (fun d1 d2 d3 => by rw [d1, d2, d3]; rfl) (fun d1 d2 d3 d4 => ⟨hroots, by rw [d1, d2, d3]; cases gr <;> first | rfl | cases d4⟩) (fun d1 d2 d3 d4 => ⟨hroots, la.1 ha, lb.1 hb, by rw [d1, d2, d3]; cases gr <;> first | rfl | cases d4⟩)
theorem zlY (b : Bool) (o : Int) (cs : List Cl) (rs ns : List Int) (h : cs.length + rs.length + ns.length ≤ 1048576) (ho : -9223372036854775808 ≤ o ∧ o ≤ 9223372036854775807) : EvN 1048610 13 [.dat (YD b o cs rs ns)] [] [] ([.dat (B (zdh o cs rs ns))], [], []) := by
 refine zaS Try.f13 1048609 (by kernel_rfl) (by kernel_rfl) fun kk hkk => ?_
 have hlc : (cs.map Cl.d).length = cs.length := by simp
 have hln : (ns.map (I ·)).length = ns.length := by simp
 have hlr : (rs.map (I ·)).length = rs.length := by simp
 have h25 := zit o 0 ((cs.map Cl.d).length : Int) kk (by omega)
 have hin : ∀ (x n : Int), -9223372036854775808 < n → n ≤ 9223372036854775807 → den cfg kk 14 [.dat (I x), .dat (I 0), .dat (I (w64 (n - 1)))] [] [] = some ([.dat (B (zax x n))], [], []) := fun x n h1 h2 => by
  rw [zeq (by omega), ← zjq]
  exact zit x 0 (n - 1) kk (by omega)
 have la := fun (ho0 : 0 ≤ o) => zbN (kk := kk) (f := 13) (fn := Try.f13) (r := 4) (x1 := .exit 0) (x2 := .ret) (s1 := Nm [1, 2] [.ptr (.loc 1) 0, .junk] [Yb b o (cs.map Cl.d) (rs.map (I ·)) (ns.map (I ·)), none] [] []) (s2 := Nm [1, 2] [.ptr (.loc 1) 0, .dat (B false)] [Yb b o (cs.map Cl.d) (rs.map (I ·)) (ns.map (I ·)), none] [] []) (s0 := zbt b o (cs.map Cl.d) (rs.map (I ·)) (ns.map (I ·)) 0) (fun i => zbt b o (cs.map Cl.d) (rs.map (I ·)) (ns.map (I ·)) i) (chkN o ns) ns.length (by omega) (fun i hi _ m s K hs hgo hbad => by
  obtain ⟨z, hz⟩ := zbR hi
  have hzd := ih (gm (f := (I ·)) hz)
  have hb := hin z o (by omega) (by omega)
  have hc : chkN o ns i = (zax z o && !(decide (0 < i) && decide (z ≤ ns.getD (i - 1) 0))) := by unfold chkN; rw [gd hz]
  have hp : 0 < i → (0 ≤ w64 ((i : Int) - 1) ∧ w64 ((i : Int) - 1) < ((ns.map (I ·)).length : Int)) ∧ (ns.map (I ·))[(w64 ((i : Int) - 1)).toNat]? = some (I (ns.getD (i - 1) 0)) := fun h0 => by
   have e : w64 ((i : Int) - 1) = ((i - 1 : Nat) : Int) := by rw [zeq (by omega)]; omega
   rw [e]
   obtain ⟨y, hy⟩ := zbR (L := ns) (i := i - 1) (by omega)
   rw [gd hy]
   exact ih (gm (f := (I ·)) hy)
  refine zj6 kk m b o _ _ _ i z (zax z o) (ns.getD (i - 1) 0) hs (fun _ d => ⟨hzd, hb, hbad ?_⟩) (fun _ d d2 d3 => ⟨hzd, hb, hp ?_, hbad ?_⟩) (fun _ d d2 d3 => ⟨hzd, hb, hp ?_, fun s' hs' => hgo ?_ s' ?_⟩) (fun _ d d2 => ⟨hzd, hb, fun s' hs' => hgo ?_ s' ?_⟩) (fun d => absurd (of_decide_eq_false d) (by omega)) <;> first | (rw [hs', wi i (by omega)]; rfl) | (have := of_decide_eq_true d2; omega) | skip
  · rw [hc]; simp only [Bool.not_eq_true'] at d; rw [d]; rfl
  · have : 0 < i := by have := of_decide_eq_true d2; omega
    rw [hc, d3]; simp [this]
  · simp only [Bool.not_eq_false'] at d
    rw [hc, d, d3]; simp
  · have : ¬ 0 < i := by have := of_decide_eq_false d2; omega
    simp only [Bool.not_eq_false'] at d
    rw [hc, d]; simp [this]) (fun _ m s K hs hK => zj6 kk m b o _ _ _ _ 0 true 0 hs (fun d => absurd (of_decide_eq_true d) (by omega)) (fun d => absurd (of_decide_eq_true d) (by omega)) (fun d => absurd (of_decide_eq_true d) (by omega)) (fun d => absurd (of_decide_eq_true d) (by omega)) (fun _ => hK)) rfl
 have lb := zbN (kk := kk) (f := 13) (fn := Try.f13) (r := 10) (x1 := .exit 2) (x2 := .ret) (s1 := Nm [1, 2] [.ptr (.loc 1) 0, .junk] [Yb b o (cs.map Cl.d) (rs.map (I ·)) (ns.map (I ·)), none] [] []) (s2 := Nm [1, 2] [.ptr (.loc 1) 0, .dat (B false)] [Yb b o (cs.map Cl.d) (rs.map (I ·)) (ns.map (I ·)), none] [] []) (s0 := zb0 b o (cs.map Cl.d) (rs.map (I ·)) (ns.map (I ·)) 0) (fun i => zb0 b o (cs.map Cl.d) (rs.map (I ·)) (ns.map (I ·)) i) (chkC cs o ns) cs.length (by omega) (fun i hi _ m s K hs hgo hbad => by
  obtain ⟨c, hz⟩ := zbR hi
  have hzd := ih (gm (f := Cl.d) hz)
  have h1 := hin c.a ((cs.map Cl.d).length : Int) (by omega) (by omega)
  have h2 := hin c.b ((cs.map Cl.d).length : Int) (by omega) (by omega)
  have h3 := ziP b ns i (by omega) kk (by omega)
  have hc : chkC cs o ns i = (zen (cs.map Cl.d).length c && !(decide ((i : Int) < o) && zdI o c && !hasB ns i)) := by unfold chkC; rw [gd hz, hlc]
  have hg : ∀ s' : St, s'.norm ((zaf cfg kk 13 Try.f13).live (zaa (lp Try.f13 10))) = zb0 b o (cs.map Cl.d) (rs.map (I ·)) (ns.map (I ·)) (w64 ((i : Int) + 1)) → chkC cs o ns i = true → zai (zaf cfg kk 13 Try.f13) kk (lp Try.f13 10) m s' K := fun s' hs' hcc => hgo hcc s' (by rw [hs', wi i (by omega)])
  rw [hc] at hg hbad
  clear hgo hc
  refine zld kk m b o _ _ _ i c (zax c.a (cs.map Cl.d).length) (zax c.b (cs.map Cl.d).length) (hasB ns i) hs (fun _ d d2 => ⟨hzd, hbad ?_⟩) (fun _ d d2 d3 => ⟨hzd, hbad ?_⟩) (fun _ d d2 d3 => ⟨hzd, fun s' hs' => hg s' hs' ?_⟩) (fun _ d d2 => ⟨hzd, hbad ?_⟩) (fun _ d d2 d3 => ⟨hzd, h1, hbad ?_⟩) (fun _ d d2 d3 d4 => ⟨hzd, h1, h2, hbad ?_⟩)
   (fun _ d d2 d3 d4 d5 d6 d7 => ⟨hzd, h1, h2, h3, hbad ?_⟩) (fun _ d d2 d3 d4 d5 d6 d7 => ⟨hzd, h1, h2, h3, fun s' hs' => hg s' hs' ?_⟩) (fun _ d d2 d3 d4 d5 d6 d7 d8 => ⟨hzd, h1, h2, h3, hbad ?_⟩) (fun _ d d2 d3 d4 d5 d6 d7 d8 => ⟨hzd, h1, h2, h3, fun s' hs' => hg s' hs' ?_⟩) (fun _ d d2 d3 d4 d5 d6 d7 => ⟨hzd, h1, h2, fun s' hs' => hg s' hs' ?_⟩) (fun _ d d2 d3 d4 d5 => ⟨hzd, h1, h2, fun s' hs' => hg s' hs' ?_⟩) (fun d => absurd (of_decide_eq_false d) (by omega)) <;>
  (clear hs h1 h2 h3 hg hbad hzd hz; unfold zen zdI; rw [d]; simp_all) <;> omega) (fun _ m s K hs hK => zld kk m b o _ _ _ _ ⟨false, 0, 0, 0⟩ true true true hs (fun d => absurd (of_decide_eq_true d) (by omega)) (fun d => absurd (of_decide_eq_true d) (by omega)) (fun d => absurd (of_decide_eq_true d) (by omega)) (fun d => absurd (of_decide_eq_true d) (by omega)) (fun d => absurd (of_decide_eq_true d) (by omega)) (fun d => absurd (of_decide_eq_true d) (by omega)) (fun d => absurd (of_decide_eq_true d) (by omega)) (fun d => absurd (of_decide_eq_true d) (by omega)) (fun d => absurd (of_decide_eq_true d) (by omega)) (fun d => absurd (of_decide_eq_true d) (by omega)) (fun d => absurd (of_decide_eq_true d) (by omega)) (fun d => absurd (of_decide_eq_true d) (by omega)) (fun _ => hK)) rfl
 have lc := zbN (kk := kk) (f := 13) (fn := Try.f13) (r := 18) (x1 := .exit 4) (x2 := .ret) (s1 := Nm [2] [.junk] [none] [] []) (s2 := Nm [2] [.dat (B false)] [none] [] []) (s0 := zdi b o (cs.map Cl.d) (rs.map (I ·)) (ns.map (I ·)) 0) (fun i => zdi b o (cs.map Cl.d) (rs.map (I ·)) (ns.map (I ·)) i) (chkR cs.length rs) rs.length (by omega) (fun i hi _ m s K hs hgo hbad => by
  obtain ⟨z, hz⟩ := zbR hi
  have hzd := ih (gm (f := (I ·)) hz)
  have hb := hin z ((cs.map Cl.d).length : Int) (by omega) (by omega)
  have hc : chkR cs.length rs i = zax z (cs.map Cl.d).length := by unfold chkR; rw [gd hz, hlc]
  refine zlr kk m b o _ _ _ i z (zax z (cs.map Cl.d).length) hs (fun _ d => ⟨hzd, hb, hbad ?_⟩) (fun _ d => ⟨hzd, hb, fun s' hs' => hgo ?_ s' ?_⟩) (fun d => absurd (of_decide_eq_false d) (by omega))
  · rw [hc]; simpa using d
  · rw [hc]; simpa using d
  · rw [hs', wi i (by omega)]; rfl) (fun _ m s K hs hK => zlr kk m b o _ _ _ _ 0 true hs (fun d => absurd (of_decide_eq_true d) (by omega)) (fun d => absurd (of_decide_eq_true d) (by omega)) (fun _ => hK)) rfl
 have hres : zdh o cs rs ns = (!decide (200 < ((cs.map Cl.d).length : Int)) && !decide (60 < ((rs.map (I ·)).length : Int)) && inB o 0 ((cs.map Cl.d).length : Int) && (List.range ns.length).all (chkN o ns) && (List.range cs.length).all (chkC cs o ns) && (List.range rs.length).all (chkR cs.length rs)) := by
  unfold zdh
  rw [hlc, hlr]
  have e1 : (!decide (200 < (cs.length : Int))) = decide (cs.length ≤ 200) := by rw [← decide_not, decide_eq_decide]; omega
  have e2 : (!decide (60 < (rs.length : Int))) = decide (rs.length ≤ 60) := by rw [← decide_not, decide_eq_decide]; omega
  rw [e1, e2]
 have ho0 : (!inB o 0 ((cs.map Cl.d).length : Int)) = false → 0 ≤ o := fun h => by
  simp [inB] at h
  omega
 rw [hres]
 clear hres
 generalize inB o 0 ((cs.map Cl.d).length : Int) = g at *
 cases ha : (List.range ns.length).all (chkN o ns) with
 | false => exact znh kk b o _ _ _ g (fun d => by rw [d]; rfl) (fun d1 d2 => by rw [d1, d2]; rfl) (fun d1 d2 d3 => ⟨h25, by rw [d1, d2]; cases g <;> first | rfl | cases d3⟩) (fun d1 d2 d3 => ⟨h25, (la (ho0 d3)).2 ha, by rw [Bool.and_false]; rfl⟩)
 | true =>
   cases hb : (List.range cs.length).all (chkC cs o ns) with
   | false => exact zmY kk b o _ _ _ g (fun d => by rw [d]; rfl) (fun d1 d2 => by rw [d1, d2]; rfl) (fun d1 d2 d3 => ⟨h25, by rw [d1, d2]; cases g <;> first | rfl | cases d3⟩) (fun d1 d2 d3 => ⟨h25, (la (ho0 d3)).1 ha, lb.2 hb, by rw [Bool.and_false]; rfl⟩)
   | true =>
     cases hc : (List.range rs.length).all (chkR cs.length rs) with
     | false => exact zmS kk b o _ _ _ g (fun d => by rw [d]; rfl) (fun d1 d2 => by rw [d1, d2]; rfl) (fun d1 d2 d3 => ⟨h25, by rw [d1, d2]; cases g <;> first | rfl | cases d3⟩) (fun d1 d2 d3 => ⟨h25, (la (ho0 d3)).1 ha, lb.1 hb, lc.2 hc, by rw [Bool.and_false]⟩)
     | true => exact zmR kk b o _ _ _ g (fun d => by rw [d]; rfl) (fun d1 d2 => by rw [d1, d2]; rfl) (fun d1 d2 d3 => ⟨h25, by rw [d1, d2]; cases g <;> first | rfl | cases d3⟩) (fun d1 d2 d3 => ⟨h25, (la (ho0 d3)).1 ha, lb.1 hb, lc.1 hc, by rw [d1, d2]; cases g <;> first | rfl | cases d3⟩)
end Go.Den
namespace Go.Den
open Go
set_option linter.unusedVariables false
set_option maxRecDepth 100000
theorem zjj {f : Nat} {g : List D → List (List D) → List (Option Row) → Option Res} {args : List D} {u : List (List D)} {l : List (Option Row)} {r : Res} (hx : cfg.ext f = some g) (h : g args u l = some r) : EvN 1 f args u l r := fun k hk => by
 obtain ⟨m, rfl⟩ : ∃ m, k = m + 1 := ⟨k - 1, by omega⟩
 simp only [den, hx, Option.bind_some, h]
def In64 (n : Int) : Prop := -9223372036854775808 ≤ n ∧ n ≤ 9223372036854775807
def Cl.fine (c : Cl) : Prop := In64 c.n ∧ In64 c.a ∧ In64 c.b
abbrev c0 : Cl := ⟨false, 0, 0, 0⟩
def zj8 (cs : List Cl) : Prop := ∀ (i : Nat) (c : Cl), cs[i]? = some c → c.fine ∧ zen cs.length c = true
theorem zj0 {x n : Int} (h : zax x n = true) : 0 ≤ x ∧ x < n := by simpa [zax] using h
theorem ih2 {cs : List Cl} {at_ : Int} {c : Cl} (h0 : 0 ≤ at_) (h : cs[at_.toNat]? = some c) : (0 ≤ at_ ∧ at_ < ((cs.map Cl.d).length : Int)) ∧ (cs.map Cl.d)[at_.toNat]? = some c.d := by
 have hlt := (List.getElem?_eq_some_iff.1 h).1
 exact ⟨⟨h0, by simp; omega⟩, gm h⟩
theorem ze2 {d : Dat} (h : WT cfg.ty 3 d) : ∃ n : Int, d = I n ∧ In64 n := by
 obtain ⟨n, h1, h2⟩ := znw h (i := ⟨.int .i64, 1, 8, [], [.dat (.val (.int .i64 0))]⟩) (by kernel_rfl) rfl
 have h3 : (decide (IntKind.i64.min ≤ n) && decide (n ≤ IntKind.i64.max)) = true := h2
 simp only [Bool.and_eq_true, decide_eq_true_eq] at h3
 exact ⟨n, h1, h3⟩
theorem zk5 {d : Dat} (h : WT cfg.ty 23 d) : ∃ zs : List Int, d = .lst false (zs.map (I ·)) ∧ zs.length ≤ 9223372036854775807 ∧ ∀ z ∈ zs, In64 z := by
 obtain ⟨es, rfl, hl, hx⟩ := zmt h (i := ⟨.slice 3, 1, 24, [], [.own 3 []]⟩) (by kernel_rfl) rfl
 have : ∀ es : List Dat, (∀ x ∈ es, WT cfg.ty 3 x) → ∃ zs : List Int, es = zs.map (I ·) ∧ ∀ z ∈ zs, In64 z := by
  intro es
  induction es with
  | nil => intro _; exact ⟨[], rfl, fun z hz => by cases hz⟩
  | cons d es ih =>
    intro h
    obtain ⟨n, rfl, hn⟩ := ze2 (h d (by simp))
    obtain ⟨zs, rfl, hzs⟩ := ih fun y hy => h y (List.mem_cons_of_mem _ hy)
    exact ⟨n :: zs, rfl, fun z hz => by exact (List.mem_cons.1 hz).elim (fun e => e ▸ hn) (hzs z)⟩
 obtain ⟨zs, rfl, hzs⟩ := this es hx
 rw [List.length_map] at hl
 exact ⟨zs, rfl, hl, hzs⟩
theorem zm5 {d : Dat} (h : WT cfg.ty 53 d) : ∃ c : Cl, d = c.d ∧ c.fine := by
 obtain ⟨cs, rfl, hl, hx⟩ := zmB h (i := ⟨.struct, 4, 32, [(0, 4), (1, 3), (2, 3), (3, 3)], [.dat (.val (.bool false)), .dat (.val (.int .i64 0)), .dat (.val (.int .i64 0)), .dat (.val (.int .i64 0))]⟩) (by kernel_rfl) rfl
 match cs, hl, hx with
 | [l, n, a, b], _, hx =>
   obtain ⟨l, rfl⟩ := zkT (hx 0 (0, 4) l rfl rfl)
   obtain ⟨n, rfl, hn⟩ := ze2 (hx 1 (1, 3) n rfl rfl)
   obtain ⟨a, rfl, ha⟩ := ze2 (hx 2 (2, 3) a rfl rfl)
   obtain ⟨b, rfl, hb⟩ := ze2 (hx 3 (3, 3) b rfl rfl)
   exact ⟨⟨l, n, a, b⟩, rfl, hn, ha, hb⟩
theorem zlB {d : Dat} (h : WT cfg.ty 22 d) : ∃ cs : List Cl, d = .lst false (cs.map Cl.d) ∧ cs.length ≤ 9223372036854775807 ∧ ∀ c ∈ cs, c.fine := by
 obtain ⟨es, rfl, hl, hx⟩ := zmt h (i := ⟨.slice 53, 1, 24, [], [.own 53 []]⟩) (by kernel_rfl) rfl
 have : ∀ es : List Dat, (∀ x ∈ es, WT cfg.ty 53 x) → ∃ zs : List Cl, es = zs.map Cl.d ∧ ∀ z ∈ zs, z.fine := by
  intro es
  induction es with
  | nil => intro _; exact ⟨[], rfl, fun z hz => by cases hz⟩
  | cons d es ih =>
    intro h
    obtain ⟨n, rfl, hn⟩ := zm5 (h d (by simp))
    obtain ⟨zs, rfl, hzs⟩ := ih fun y hy => h y (List.mem_cons_of_mem _ hy)
    exact ⟨n :: zs, rfl, fun z hz => by exact (List.mem_cons.1 hz).elim (fun e => e ▸ hn) (hzs z)⟩
 obtain ⟨zs, rfl, hzs⟩ := this es hx
 rw [List.length_map] at hl
 exact ⟨zs, rfl, hl, hzs⟩
theorem zmd {d : Dat} (h : WT cfg.ty 25 d) : ∃ (o : Int) (cs : List Cl) (rs ns : List Int), d = YD false o cs rs ns ∧ In64 o ∧ cs.length ≤ 9223372036854775807 ∧ rs.length ≤ 9223372036854775807 ∧ ns.length ≤ 9223372036854775807 ∧ ∀ c ∈ cs, c.fine := by
 obtain ⟨l, rfl, hl, hx⟩ := zmB h (i := ⟨.struct, 4, 80, [(0, 3), (1, 22), (2, 23), (3, 23)], [.dat (.val (.int .i64 0)), .own 53 [], .own 3 [], .own 3 []]⟩) (by kernel_rfl) rfl
 match l, hl, hx with
 | [o, c, r, n], _, hx =>
   obtain ⟨o, rfl, ho⟩ := ze2 (hx 0 (0, 3) o rfl rfl)
   obtain ⟨c, rfl, hc, hcf⟩ := zlB (hx 1 (1, 22) c rfl rfl)
   obtain ⟨r, rfl, hr, _⟩ := zk5 (hx 2 (2, 23) r rfl rfl)
   obtain ⟨n, rfl, hn, _⟩ := zk5 (hx 3 (3, 23) n rfl rfl)
   exact ⟨o, c, r, n, rfl, ho, hc, hr, hn, hcf⟩
theorem zjK {o : Int} {cs : List Cl} {rs ns : List Int} (hf : ∀ c ∈ cs, c.fine) (h : zdh o cs rs ns = true) : zj8 cs := fun i c hc => by
 refine ⟨hf c (List.mem_of_getElem? hc), ?_⟩
 unfold zdh at h
 simp only [Bool.and_eq_true] at h
 have h1 := (List.all_eq_true.1 h.1.2) i (List.mem_range.2 (List.getElem?_eq_some_iff.1 hc).1)
 unfold chkC at h1
 rw [gd hc] at h1
 simp only [Bool.and_eq_true] at h1
 exact h1.1
end Go.Den
namespace Go.Den
open Go
set_option linter.unusedVariables false
set_option maxRecDepth 100000
def cg (c : List Cl) (i : Int) : Cl := c.getD i.toNat c0
theorem cg_at {c : List Cl} {i : Int} (h0 : 0 ≤ i) (h : i < (c.length : Int)) : c[i.toNat]? = some (cg c i) := by
 have : i.toNat < c.length := by omega
 unfold cg
 rw [List.getD_eq_getElem?_getD, List.getElem?_eq_getElem this]
 rfl
def K (l : List Bool) (i : Int) : Prop := l.getD i.toNat false = true
end Go.Den
namespace Go.Den
open Go
set_option linter.unusedVariables false
set_option maxRecDepth 100000
structure Hp where
 o : Int
 cs : List Cl
 rs : List Int
 ns : List Int
structure Hg (h : Hp) : Prop where
 cells : zj8 h.cs
 clen : h.cs.length ≤ 200
 rlen : h.rs.length ≤ 60
 o0 : 0 ≤ h.o
 o1 : h.o ≤ (h.cs.length : Int)
 rin : ∀ x ∈ h.rs, 0 ≤ x ∧ x < (h.cs.length : Int)
 nup : h.ns.Pairwise (· < ·)
 nin : ∀ x ∈ h.ns, 0 ≤ x ∧ x < h.o
 old : ∀ (i : Nat) (c : Cl), h.cs[i]? = some c → (i : Int) < h.o → c.l = false → (h.o ≤ c.a ∨ h.o ≤ c.b) → (i : Int) ∈ h.ns
theorem up_of {ns : List Int} (h : ∀ i, i + 1 < ns.length → ns.getD i 0 < ns.getD (i + 1) 0) : ns.Pairwise (· < ·) := by
 induction ns with
 | nil => exact .nil
 | cons a l ih =>
   have ihl := ih fun i hi => by simpa using h (i + 1) (by simpa using hi)
   refine List.pairwise_cons.2 ⟨fun x hx => ?_, ihl⟩
   cases l with
   | nil => cases hx
   | cons b l =>
     have hab : a < b := by simpa using h 0 (by simp)
     rcases List.mem_cons.1 hx with rfl | hx
     · exact hab
     · exact Int.lt_trans hab ((List.pairwise_cons.1 ihl).1 x hx)
theorem ziH (zs : List Int) (x : Int) : hasB zs x = true ↔ x ∈ zs := by
 unfold hasB
 rw [List.any_eq_true]
 constructor
 · rintro ⟨z, hz, he⟩
   rw [← of_decide_eq_true he]; exact hz
 · exact fun h => ⟨x, h, by simp⟩
theorem zgB {o : Int} {cs : List Cl} {rs ns : List Int} (hf : ∀ c ∈ cs, c.fine) (h : zdh o cs rs ns = true) : Hg ⟨o, cs, rs, ns⟩ := by
 have hc := zjK hf h
 unfold zdh at h
 simp only [Bool.and_eq_true, decide_eq_true_eq] at h
 obtain ⟨⟨⟨⟨⟨h1, h2⟩, h3⟩, h4⟩, h5⟩, h6⟩ := h
 have h3 : 0 ≤ o ∧ o ≤ (cs.length : Int) := by simpa [inB] using h3
 have h4 : ∀ i, i < ns.length → chkN o ns i = true := fun i hi => (List.all_eq_true.1 h4) i (List.mem_range.2 hi)
 have h6 : ∀ i, i < rs.length → chkR cs.length rs i = true := fun i hi => (List.all_eq_true.1 h6) i (List.mem_range.2 hi)
 refine ⟨hc, h1, h2, h3.1, h3.2, fun x hx => ?_, up_of fun i hi => ?_, fun x hx => ?_, fun i c hi hio hl hor => ?_⟩
 · obtain ⟨i, hi, rfl⟩ := List.mem_iff_getElem.1 hx
   have := h6 i hi
   unfold chkR at this
   rw [gd (List.getElem?_eq_getElem hi)] at this
   exact zj0 this
 · have := h4 (i + 1) hi
   unfold chkN at this
   simp only [Bool.and_eq_true, Bool.not_eq_true', Nat.add_sub_cancel] at this
   have h7 := this.2
   show ns.getD i 0 < ns.getD (i + 1) 0
   generalize ns.getD i 0 = y at *
   generalize ns.getD (i + 1) 0 = z at *
   simp at h7
   omega
 · obtain ⟨i, hi, rfl⟩ := List.mem_iff_getElem.1 hx
   have := h4 i hi
   unfold chkN at this
   rw [gd (List.getElem?_eq_getElem hi)] at this
   simp only [Bool.and_eq_true] at this
   exact zj0 this.1
 · have := (List.all_eq_true.1 h5) i (List.mem_range.2 (List.getElem?_eq_some_iff.1 hi).1)
   unfold chkC at this
   rw [gd hi] at this
   simp only [Bool.and_eq_true] at this
   have h7 := this.2
   have h8 : zdI o c = true := by unfold zdI; rw [hl]; simpa using hor
   rw [h8] at h7
   rw [← ziH]
   have h9 : decide ((i : Int) < o) = true := by simpa using hio
   rw [h9] at h7
   simpa using h7
theorem zeL {h : Hp} (g : Hg h) : h.ns.length ≤ 200 := by
 have key : ∀ (l : List Int) (lo hi : Int), l.Pairwise (· < ·) → (∀ x ∈ l, lo ≤ x ∧ x < hi) → lo ≤ hi → (l.length : Int) ≤ hi - lo := by
  intro l
  induction l with
  | nil => intro lo hi _ _ h; simp; omega
  | cons a l ih =>
    intro lo hi hp hx hle
    have ha := hx a (by simp)
    have := ih (a + 1) hi (List.pairwise_cons.1 hp).2 (fun x hx' => ⟨by have := (List.pairwise_cons.1 hp).1 x hx'; omega, (hx x (List.mem_cons_of_mem _ hx')).2⟩) (by omega)
    simp only [List.length_cons]
    omega
 have := key h.ns 0 h.o g.nup (fun x hx => g.nin x hx) g.o0
 have h1 := g.o1
 have h2 := g.clen
 omega
def insL (x : Int) : List Int → List Int
 | [] => [x]
 | n :: l => if x < n then x :: n :: l else n :: insL x l
def setC (c : Cl) (second : Bool) (to : Int) : Cl := match second with | true => { c with b := to } | false => { c with a := to }
def putN (h : Hp) (at_ to : Int) : Bool := decide (at_ < h.o) && decide (h.o ≤ to) && !hasB h.ns at_
def setH (h : Hp) (at_ : Int) (second : Bool) (to : Int) : Hp := ⟨h.o, h.cs.set at_.toNat (setC (cg h.cs at_) second to), h.rs, match putN h at_ to with | true => insL at_ h.ns | false => h.ns⟩
theorem ziU {x : Int} : ∀ {l : List Int}, l.Pairwise (· < ·) → x ∉ l → insZ l (l.countP (· < x)) x = insL x l
 | [], _, _ => rfl
 | n :: l, h, hx => by
   have h1 := List.pairwise_cons.1 h
   have hne : x ≠ n := fun e => hx (by simp [e])
   unfold insL
   by_cases hlt : x < n
   · rw [if_pos hlt]
     have : (n :: l).countP (· < x) = 0 := by
      rw [List.countP_eq_zero]
      intro y hy
      rcases List.mem_cons.1 hy with rfl | hy
      · simp; omega
      · have := h1.1 y hy
        simp; omega
     rw [this]
     rfl
   · rw [if_neg hlt, List.countP_cons_of_pos (by simp; omega)]
     have := ziU h1.2 fun hm => hx (List.mem_cons_of_mem _ hm)
     rw [← this]
     simp [insZ]
end Go.Den
namespace Go.Den
open Go
set_option linter.unusedVariables false
set_option maxRecDepth 100000
theorem zjH {α : Type} {E : Env} {kk : Nat} {c : Code} (st : Nat → α → St) (P : Nat → α → Prop) (n : Nat)
 (hgo : ∀ i a, i < n → P i a → ∃ a', P (i + 1) a' ∧ ∀ (m : Nat) (s : St) (K : X → St → Prop), s.norm (E.live (zaa c)) = st i a → (∀ s : St, s.norm (E.live (zaa c)) = st (i + 1) a' → zai E kk c m s K) → zai E kk c (m + 1) s K) :
 ∀ (d i : Nat) (a : α), i + d = n → P i a → ∃ a', P n a' ∧ ∀ K : X → St → Prop, (∀ (m : Nat) (s : St), s.norm (E.live (zaa c)) = st n a' → zai E kk c (m + 1) s K) → ∀ m, d < m → ∀ s : St, s.norm (E.live (zaa c)) = st i a → zai E kk c m s K := by
 intro d
 induction d with
 | zero =>
   intro i a hi hP
   have : i = n := by omega
   subst this
   refine ⟨a, hP, fun K hend m hm s hs => ?_⟩
   obtain ⟨m, rfl⟩ : ∃ k, m = k + 1 := ⟨m - 1, by omega⟩
   exact hend m s hs
 | succ d ih =>
   intro i a hi hP
   obtain ⟨a1, hP1, hstep⟩ := hgo i a (by omega) hP
   obtain ⟨a', hP', f⟩ := ih (i + 1) a1 (by omega) hP1
   refine ⟨a', hP', fun K hend m hm s hs => ?_⟩
   obtain ⟨m, rfl⟩ : ∃ k, m = k + 1 := ⟨m - 1, by omega⟩
   exact hstep m s K hs fun s hs => f K hend m (by omega) s hs
theorem zjW {α : Type} {kk f : Nat} {fn : Func} {r : Nat} {x : X} (st : Nat → α → St) (fin : α → St) (P : Nat → α → Prop) (n : Nat) (hk : n < kk) (a0 : α) (h0 : P 0 a0)
 (hgo : ∀ i a, i < n → P i a → ∃ a', P (i + 1) a' ∧ ∀ (m : Nat) (s : St) (K : X → St → Prop), s.norm ((zaf cfg kk f fn).live (zaa (lp fn r))) = st i a → (∀ s : St, s.norm ((zaf cfg kk f fn).live (zaa (lp fn r))) = st (i + 1) a' → zai (zaf cfg kk f fn) kk (lp fn r) m s K) → zai (zaf cfg kk f fn) kk (lp fn r) (m + 1) s K)
 (hend : ∀ a, P n a → ∀ (m : Nat) (s : St) (K : X → St → Prop), s.norm ((zaf cfg kk f fn).live (zaa (lp fn r))) = st n a → K x (fin a) → zai (zaf cfg kk f fn) kk (lp fn r) (m + 1) s K) {s0 : St} (hs0 : s0 = st 0 a0) :
 ∃ a, P n a ∧ zam cfg kk f fn r s0 x (fin a) := by
 obtain ⟨a', hP', f⟩ := zjH st P n hgo n 0 a0 (by omega) h0
 exact ⟨a', hP', zhe fun s hs => f _ (fun m s hs => hend a' hP' m s _ hs ⟨rfl, rfl⟩) kk hk s (by rw [hs, hs0])⟩
abbrev ID (zs : List Int) : List Dat := zs.map (I ·)
abbrev CD (cs : List Cl) : List Dat := cs.map Cl.d
theorem zlV {c : List Cl} {i : Int} (h0 : 0 ≤ i) (h : i < (c.length : Int)) : (0 ≤ i ∧ i < ((CD c).length : Int)) ∧ (CD c)[i.toNat]? = some (cg c i).d := ih2 h0 (cg_at h0 h)
theorem znn {zs : List Int} {i : Nat} {x : Int} (h : zs[i]? = some x) : (0 ≤ (i : Int) ∧ (i : Int) < ((ID zs).length : Int)) ∧ (ID zs)[((i : Int)).toNat]? = some (I x) := ih (gm (f := (I ·)) h)
theorem zhZ (b : Bool) (zs : List Int) (h : zs.length ≤ 1000000) : EvN 1 35 [.dat (.lst b (ID zs))] [] [] ([.own 3 (ID zs)], [], []) := by
 refine zjj (g := zb4 3 1) (by kernel_rfl) ?_
 have hw : zgl 1 (ID zs) = true := by
  induction zs with
  | nil => rfl
  | cons z zs ih => exact ih (by simp at h; omega)
 have hl : Nat.ble (ID zs).length 1000000 = true := by simpa using h
 unfold zb4
 simp only [hw, hl, Bool.and_self]
theorem zjF (b : Bool) (cs : List Cl) (h : cs.length ≤ 1000000) : EvN 1 34 [.dat (.lst b (CD cs))] [] [] ([.own 41 (CD cs)], [], []) := by
 refine zjj (g := zb4 41 4) (by kernel_rfl) ?_
 have hw : zgl 4 (CD cs) = true := by
  induction cs with
  | nil => rfl
  | cons z zs ih => exact ih (by simp at h; omega)
 have hl : Nat.ble (CD cs).length 1000000 = true := by simpa using h
 unfold zb4
 simp only [hw, hl, Bool.and_self]
end Go.Den
namespace Go.Den
open Go
set_option linter.unusedVariables false
set_option maxRecDepth 100000
abbrev HO (h : Hp) : D := .seq false [.dat (I h.o), .own 41 (CD h.cs), .own 3 (ID h.rs), .own 3 (ID h.ns)]
theorem zd7 {α : Type} (f : α → Dat) (hf : ∀ x, (f x).clean = true) : ∀ l : List α, Dat.cleans (l.map f) = true
 | [] => rfl
 | x :: l => by
   show ((f x).clean && Dat.cleans (l.map f)) = true
   rw [hf x, zd7 f hf l]; rfl
theorem zi9 (cs : List Cl) : Dat.cleans (CD cs) = true := zd7 _ (fun _ => rfl) cs
theorem zeO (zs : List Int) : Dat.cleans (ID zs) = true := zd7 _ (fun _ => rfl) zs
end Go.Den
namespace Go.Den
open Go
set_option linter.unusedVariables false
set_option maxRecDepth 100000
theorem zh7 {α : Type} (f : α → Dat) (n : Nat) (hf : ∀ x, (f x).cells.length = n) : ∀ l : List α, (l.map f).all (fun d => Nat.beq d.cells.length n) = true
 | [] => rfl
 | x :: l => by rw [List.map_cons, List.all_cons, hf x, zh7 f n hf l, Bool.and_true]; exact beq_eq.2 rfl
theorem znu (cs : List Cl) : (CD cs).all (fun d => Nat.beq d.cells.length 4) = true := zh7 _ 4 (fun _ => rfl) cs
theorem znC (zs : List Int) : (ID zs).all (fun d => Nat.beq d.cells.length 1) = true := zh7 _ 1 (fun _ => rfl) zs
theorem set_cd {h : Hp} {at_ to : Int} : (CD h.cs).set at_.toNat (Dat.agg [B (cg h.cs at_).l, I (cg h.cs at_).n, I (cg h.cs at_).a, I to]) = CD (setH h at_ true to).cs ∧ (CD h.cs).set at_.toNat (Dat.agg [B (cg h.cs at_).l, I (cg h.cs at_).n, I to, I (cg h.cs at_).b]) = CD (setH h at_ false to).cs := by
 refine ⟨?_, ?_⟩ <;> simp [setH, setC, CD, List.map_set]
def zcD (put : Bool) (at_ : Int) (l : List Int) : List Int := match put with | true => insL at_ l | false => l
theorem zjm (x : Int) : ∀ l : List Int, (insL x l).length = l.length + 1
 | [] => rfl
 | n :: l => by
   unfold insL
   split
   · rfl
   · simp [zjm x l]
theorem zlZ (b : Bool) (h : Hp) (g : Hg h) (at_ : Int) (second : Bool) (to : Int) (ha : 0 ≤ at_ ∧ at_ < (h.cs.length : Int)) : EvN 1048700 15 [.dat (YD b h.o h.cs h.rs h.ns), .dat (I at_), .dat (B second), .dat (I to)] [] [] ([HO (setH h at_ second to)], [], []) := by
 refine zaS Go.Proofs.Try.f15 1048699 (by kernel_rfl) (by kernel_rfl) fun kk hkk => ?_
 have hcl := g.clen
 have hrl := g.rlen
 have hnl := zeL g
 have hlc : (CD h.cs).length = h.cs.length := by simp
 have hlr : (ID h.rs).length = h.rs.length := by simp
 have hln : (ID h.ns).length = h.ns.length := by simp
 have hc := zlV (c := h.cs) ha.1 ha.2
 have h71 := ziP b h.ns at_ (by omega) kk (by omega)
 obtain ⟨⟨out, put⟩, ⟨hP, hlen⟩, hloop⟩ := zjW (kk := kk) (f := 15) (fn := Go.Proofs.Try.f15) (r := 8) (x := .exit 0) (fun i (q : List Int × Bool) => hd58 b h.o (CD (setH h at_ second to).cs) (ID h.rs) (ID h.ns) at_ (ID q.1) q.2 i)
  (fun q => Nm [1, 4, 8, 9, 10] [.dat (I at_), .ptr (.loc 4) 0, .ptr (.loc 8) 0, .own 3 (ID q.1), .dat (B q.2)] [none, some [.dat (I h.o), .own 41 (CD (setH h at_ second to).cs), .dat (.lst b (ID h.rs)), .dat (.lst b (ID h.ns))], some (Yo 0 [] [] []), none, none] [] [])
  (fun i q => q.1 ++ zcD q.2 at_ (h.ns.drop i) = zcD (putN h at_ to) at_ h.ns ∧ q.1.length + q.2.toNat ≤ i + 1) h.ns.length (by omega) ([], putN h at_ to) ⟨by simp, by simp; cases putN h at_ to <;> decide⟩
  (fun i ⟨out, put⟩ hi ⟨hP, hlen⟩ => by
   simp only at hP hlen ⊢
   obtain ⟨x, hx⟩ := zbR hi
   have hdrop : h.ns.drop i = x :: h.ns.drop (i + 1) := by
    rw [List.drop_eq_getElem_cons hi]
    congr 1
    rw [List.getElem?_eq_getElem hi] at hx
    exact Option.some.inj hx
   rw [hdrop] at hP
   cases put with
   | true =>
     simp only [Bool.toNat_true] at hlen
     by_cases hlt : at_ < x
     · refine ⟨(out ++ [at_] ++ [x], false), ⟨?_, by simp; omega⟩, fun m s K hs hn => zgH kk m b h.o _ _ _ at_ _ true i x hs (fun _ _ _ => ⟨znn hx, by simp; omega, by simp; omega, fun s' hs' => hn s' ?_⟩) (fun _ _ d => absurd hlt (of_decide_eq_false d)) (fun _ d => by cases d) (fun d => absurd (of_decide_eq_false d) (by omega))⟩
       · rw [← hP]
         simp [zcD, insL, hlt]
       · rw [hs', wi i (by omega)]
         simp [hd58, ID]
     · refine ⟨(out ++ [x], true), ⟨?_, by simp; omega⟩, fun m s K hs hn => zgH kk m b h.o _ _ _ at_ _ true i x hs (fun _ _ d => absurd (of_decide_eq_true d) hlt) (fun _ _ _ => ⟨znn hx, by simp; omega, fun s' hs' => hn s' ?_⟩) (fun _ d => by cases d) (fun d => absurd (of_decide_eq_false d) (by omega))⟩
       · rw [← hP]
         simp [zcD, insL, hlt]
       · rw [hs', wi i (by omega)]
         simp [hd58, ID]
   | false =>
     simp only [Bool.toNat_false] at hlen
     refine ⟨(out ++ [x], false), ⟨?_, by simp; omega⟩, fun m s K hs hn => zgH kk m b h.o _ _ _ at_ _ false i x hs (fun _ d => by cases d) (fun _ d => by cases d) (fun _ _ => ⟨znn hx, by simp; omega, fun s' hs' => hn s' ?_⟩) (fun d => absurd (of_decide_eq_false d) (by omega))⟩
     · rw [← hP]
       simp [zcD]
     · rw [hs', wi i (by omega)]
       simp [hd58, ID])
  (fun ⟨out, put⟩ _ m s K hs hK => zgH kk m b h.o _ _ _ at_ _ put _ 0 hs (fun d => absurd (of_decide_eq_true d) (by omega)) (fun d => absurd (of_decide_eq_true d) (by omega)) (fun d => absurd (of_decide_eq_true d) (by omega)) (fun _ => hK)) rfl
 simp only at hP hlen hloop
 rw [List.drop_length] at hP
 have hns : (setH h at_ second to).ns = zcD (putN h at_ to) at_ h.ns := rfl
 have hft : put = true → ID out ++ [I at_] = ID (setH h at_ second to).ns := fun e => by
  rw [hns, ← hP, e]
  simp [zcD, insL, ID]
 have hff : put = false → ID out = ID (setH h at_ second to).ns := fun e => by
  rw [hns, ← hP, e]
  simp [zcD]
 have hst : second = true → ([] ++ CD h.cs).set at_.toNat (Dat.agg [B (cg h.cs at_).l, I (cg h.cs at_).n, I (cg h.cs at_).a, I to]) = CD (setH h at_ second to).cs := fun e => by rw [e]; exact set_cd.1
 have hsf : second = false → ([] ++ CD h.cs).set at_.toNat (Dat.agg [B (cg h.cs at_).l, I (cg h.cs at_).n, I to, I (cg h.cs at_).b]) = CD (setH h at_ second to).cs := fun e => by rw [e]; exact set_cd.2
 have hp1 : decide (at_ < h.o) = true → decide (h.o ≤ to) = true → putN h at_ to = !hasB h.ns at_ := fun d1 d2 => by unfold putN; rw [d1, d2]; rfl
 have hp2 : decide (at_ < h.o) = true → decide (h.o ≤ to) = false → putN h at_ to = false := fun d1 d2 => by unfold putN; rw [d1, d2]; rfl
 have hp3 : decide (at_ < h.o) = false → putN h at_ to = false := fun d1 => by unfold putN; rw [d1]; rfl
 have oA : ((CD h.cs).all fun d => Nat.beq d.cells.length 4) = true ∧ 0 + (CD h.cs).length ≤ 2147483648 := ⟨znu _, by omega⟩
 have oR : ((ID h.rs).all fun d => Nat.beq d.cells.length 1) = true ∧ 0 + (ID h.rs).length ≤ 2147483648 := ⟨znC _, by omega⟩
 have oL : (ID out).length + 1 ≤ 2147483648 := by simp; omega
 exact lhSet kk b h.o _ _ _ at_ second to (CD (setH h at_ second to).cs) (putN h at_ to) (ID out) put (cg h.cs at_) (cg h.cs at_) (hasB h.ns at_)
  (fun d1 d2 d3 d4 => ⟨oA, hc.1, hc.2, h71, by rw [hst d1, hp1 d2 d3]; rfl, hloop, oL, oR, by rw [hft d4]; rfl⟩)
  (fun d1 d2 d3 d4 => ⟨oA, hc.1, hc.2, h71, by rw [hst d1, hp1 d2 d3]; rfl, hloop, oR, by rw [hff d4]; rfl⟩)
  (fun d1 d2 d3 d4 => ⟨oA, hc.1, hc.2, by rw [hst d1, hp2 d2 d3]; rfl, hloop, oL, oR, by rw [hft d4]; rfl⟩)
  (fun d1 d2 d3 d4 => ⟨oA, hc.1, hc.2, by rw [hst d1, hp2 d2 d3]; rfl, hloop, oR, by rw [hff d4]; rfl⟩)
  (fun d1 d2 d4 => ⟨oA, hc.1, hc.2, by rw [hst d1, hp3 d2]; rfl, hloop, oL, oR, by rw [hft d4]; rfl⟩)
  (fun d1 d2 d4 => ⟨oA, hc.1, hc.2, by rw [hst d1, hp3 d2]; rfl, hloop, oR, by rw [hff d4]; rfl⟩)
  (fun d1 d2 d3 d4 => ⟨oA, hc.1, hc.2, h71, by rw [hsf d1, hp1 d2 d3]; rfl, hloop, oL, oR, by rw [hft d4]; rfl⟩)
  (fun d1 d2 d3 d4 => ⟨oA, hc.1, hc.2, h71, by rw [hsf d1, hp1 d2 d3]; rfl, hloop, oR, by rw [hff d4]; rfl⟩)
  (fun d1 d2 d3 d4 => ⟨oA, hc.1, hc.2, by rw [hsf d1, hp2 d2 d3]; rfl, hloop, oL, oR, by rw [hft d4]; rfl⟩)
  (fun d1 d2 d3 d4 => ⟨oA, hc.1, hc.2, by rw [hsf d1, hp2 d2 d3]; rfl, hloop, oR, by rw [hff d4]; rfl⟩)
  (fun d1 d2 d4 => ⟨oA, hc.1, hc.2, by rw [hsf d1, hp3 d2]; rfl, hloop, oL, oR, by rw [hft d4]; rfl⟩)
  (fun d1 d2 d4 => ⟨oA, hc.1, hc.2, by rw [hsf d1, hp3 d2]; rfl, hloop, oR, by rw [hff d4]; rfl⟩)
theorem zio : ∀ zs : List Int, zfH (ID zs) = some zs
 | [] => rfl
 | z :: zs => by
   show (zfH (ID zs)).map (z :: ·) = some (z :: zs)
   rw [zio zs]; rfl
theorem up_b : ∀ {l : List Int}, l.Pairwise (· < ·) → upB l = true
 | [], _ => rfl
 | [_], _ => rfl
 | a :: b :: l, h => by
   have h1 := List.pairwise_cons.1 h
   have h2 := h1.1 b (by simp)
   unfold upB
   rw [up_b h1.2, Bool.and_true]
   simp; omega
theorem ev_bs (b : Bool) (ns : List Int) (x : Int) (hu : ns.Pairwise (· < ·)) (hl : ns.length ≤ 1000000) : EvN 1 36 [.dat (.lst b (ID ns)), .dat (I x)] [] [] ([.dat (I ((ns.countP (· < x) : Nat) : Int)), .dat (B (ns.contains x))], [], []) := by
 refine zjj (g := zkP) (by kernel_rfl) ?_
 have hl' : Nat.ble ns.length 1000000 = true := by simpa using hl
 unfold zkP
 simp only [zio, Option.bind_some, up_b hu, hl', Bool.and_self]
 rfl
theorem znM (ns : List Int) (k : Nat) (x : Int) (hk : k ≤ ns.length) (hl : ns.length ≤ 1000000) : EvN 1 37 [.own 3 (ID ns), .dat (I (k : Int)), .own 3 [I x]] [] [] ([.own 3 (ID (insZ ns k x))], [], []) := by
 refine zjj (g := zhM 3) (by kernel_rfl) ?_
 have h1 : (Nat.beq 3 3 && Nat.beq 3 3) = true := rfl
 have h2 : (decide (0 ≤ (k : Int)) && decide ((k : Int) ≤ ((ID ns).length : Int))) = true := by simp; omega
 have h3 : Nat.ble (ID ns).length 1000000 = true := by simpa using hl
 unfold zhM
 simp only [h1, h2, h3, Bool.and_self, zio, Option.map_some, Int.toNat_natCast]
 rfl
end Go.Den
namespace Go.Den
open Go.Proofs
open Go
set_option linter.unusedVariables false
set_option maxRecDepth 100000
def mC (k : Int) : Cl := ⟨decide (k.tmod 3 = 0), k + 1, k + 2, k + 3⟩
def mCs (k : Int) (n : Nat) : List Cl := (List.range n).map fun (i : Nat) => mC (k + 4 * (i : Int))
def mIs (k : Int) (n : Nat) : List Int := (List.range n).map fun (i : Nat) => k + (i : Int)
theorem zgV (k : Int) (n : Nat) : (mCs k n).length = n := by simp [mCs]
theorem zgo (k : Int) (n : Nat) : (mIs k n).length = n := by simp [mIs]
theorem zm0 (k : Int) {n i : Nat} (h : i < n) : (mCs k n)[i]? = some (mC (k + 4 * (i : Int))) := by simp [mCs, h]
theorem zmZ (k : Int) {n i : Nat} (h : i < n) : (mIs k n)[i]? = some (k + (i : Int)) := by simp [mIs, h]
theorem zmq (k : Int) (n : Nat) : mCs k (n + 1) = mCs k n ++ [mC (k + 4 * (n : Int))] := by simp [mCs, List.range_succ]
theorem zl8 (k : Int) (n : Nat) : mIs k (n + 1) = mIs k n ++ [k + (n : Int)] := by simp [mIs, List.range_succ]
theorem ziT {α : Type} (l cs : List α) (x : α) {i : Nat} (hl : l.length = i) (hi : i < cs.length) : (l ++ cs.drop i).set i x = (l ++ [x]) ++ cs.drop (i + 1) := by
 subst hl
 rw [List.set_append_right _ _ (Nat.le_refl _), Nat.sub_self, List.drop_eq_getElem_cons hi, List.set_cons_zero, List.append_assoc]
 rfl
theorem zjr {α : Type} (l cs : List α) {i : Nat} (hl : l.length = i) (hi : i < cs.length) : (l ++ cs.drop i)[i]? = cs[i]? := by
 subst hl
 rw [List.getElem?_append_right (Nat.le_refl _), Nat.sub_self, List.getElem?_drop]
 rfl
theorem zk2 (es : List Dat) (x : Dat) {i : Int} (h : 0 ≤ i ∧ i < (es.length : Int)) : (es.set i.toNat x)[i.toNat]? = some x := List.getElem?_set_self (by omega)
theorem zdG (es : List Dat) (x : Dat) {i : Int} (h : 0 ≤ i ∧ i < (es.length : Int)) : 0 ≤ i ∧ i < ((es.set i.toNat x).length : Int) := by rw [List.length_set]; exact h
theorem k64 {k : Int} (h : 0 ≤ k ∧ k ≤ 1000000000000) : w64 (k + 1) = k + 1 := zeq (by omega)
theorem zlK (cs : List Cl) (k : Int) (hk : 0 ≤ k ∧ k ≤ 10000000000) (h : cs.length ≤ 1048600) : EvN 1048700 24 [.bor (.lent 0) none, .dat (I k)] [] [some (41, CD cs)] ([.dat (I (k + 4 * (cs.length : Int)))], [], [some (41, CD (mCs k cs.length))]) := by
 refine zaS Try.f24 1048699 (by kernel_rfl) (by kernel_rfl) fun kk hkk => ?_
 refine markC kk (CD cs) (CD (mCs k cs.length)) k (k + 4 * (cs.length : Int)) ⟨?_, rfl⟩
 have hn : ∀ i : Nat, i ≤ cs.length → ((CD (mCs k i ++ cs.drop i)).length : Int) = (cs.length : Int) := fun i hi => by
  rw [List.length_map, List.length_append, zgV, List.length_drop]; omega
 refine zaG (fun i => hd24 (CD (mCs k i ++ cs.drop i)) (k + 4 * (i : Int)) i) cs.length (by omega) (fun i hi m s K hs hn' => ?_) (fun m s K hs hK => ?_) (by simp [mCs])
 · have hin : 0 ≤ (i : Int) ∧ (i : Int) < ((CD (mCs k i ++ cs.drop i)).length : Int) := by rw [hn i (by omega)]; omega
   obtain ⟨c, hc⟩ : ∃ c, cs[i]? = some c := ⟨cs[i], List.getElem?_eq_getElem hi⟩
   have hget : (CD (mCs k i ++ cs.drop i))[((i : Int)).toNat]? = some c.d := by
    rw [Int.toNat_natCast, List.getElem?_map, zjr _ _ (zgV k i) hi, hc]; rfl
   have e1 : w64 (k + 4 * (i : Int) + 1) = k + 4 * (i : Int) + 1 := k64 (by omega)
   have e2 : w64 (k + 4 * (i : Int) + 1 + 1) = k + 4 * (i : Int) + 2 := by rw [k64 (by omega)]; omega
   have e3 : w64 (k + 4 * (i : Int) + 2 + 1) = k + 4 * (i : Int) + 3 := by rw [k64 (by omega)]; omega
   have e4 : w64 (k + 4 * (i : Int) + 3 + 1) = k + 4 * ((i + 1 : Nat) : Int) := by rw [k64 (by omega)]; omega
   have ei : w64 ((i : Int) + 1) = ((i + 1 : Nat) : Int) := by rw [k64 (by omega)]; omega
   refine zls kk m _ _ _ c ⟨decide ((k + 4 * (i : Int)).tmod 3 = 0), c.n, c.a, c.b⟩ ⟨decide ((k + 4 * (i : Int)).tmod 3 = 0), w64 (k + 4 * (i : Int) + 1), c.a, c.b⟩ ⟨decide ((k + 4 * (i : Int)).tmod 3 = 0), w64 (k + 4 * (i : Int) + 1), w64 (w64 (k + 4 * (i : Int) + 1) + 1), c.b⟩ hs (fun _ => ?_) (fun d => absurd (of_decide_eq_false d) (by omega))
   refine ⟨hin, hget, zdG _ _ hin, zk2 _ _ hin, zdG _ _ (zdG _ _ hin), zk2 _ _ (zdG _ _ hin), zdG _ _ (zdG _ _ (zdG _ _ hin)), zk2 _ _ (zdG _ _ (zdG _ _ hin)), fun s' hs' => hn' s' ?_⟩
   rw [hs']
   simp only [List.set_set, e1, e2, e3, e4, ei]
   have hset : (CD (mCs k i ++ cs.drop i)).set ((i : Int)).toNat (mC (k + 4 * (i : Int))).d = CD (mCs k (i + 1) ++ cs.drop (i + 1)) := by
    rw [Int.toNat_natCast, ← List.map_set, ziT _ _ _ (zgV k i) hi, zmq]
   rw [← hset]
   rfl
 · have e : CD (mCs k cs.length ++ cs.drop cs.length) = CD (mCs k cs.length) := by rw [List.drop_length, List.append_nil]
   refine zls kk m _ _ _ c0 c0 c0 c0 hs (fun d => absurd (of_decide_eq_true d) (by rw [hn _ (Nat.le_refl _)]; omega)) (fun _ => ?_)
   rw [e]; exact hK
theorem ziS (zs : List Int) (k : Int) (hk : 0 ≤ k ∧ k ≤ 10000000000) (h : zs.length ≤ 1048600) : EvN 1048700 25 [.bor (.lent 0) none, .dat (I k)] [] [some (3, ID zs)] ([.dat (I (k + (zs.length : Int)))], [], [some (3, ID (mIs k zs.length))]) := by
 refine zaS Try.f25 1048699 (by kernel_rfl) (by kernel_rfl) fun kk hkk => ?_
 refine markI kk (ID zs) (ID (mIs k zs.length)) k (k + (zs.length : Int)) ⟨?_, rfl⟩
 have hn : ∀ i : Nat, i ≤ zs.length → ((ID (mIs k i ++ zs.drop i)).length : Int) = (zs.length : Int) := fun i hi => by
  rw [List.length_map, List.length_append, zgo, List.length_drop]; omega
 refine zaG (fun i => hd25 (ID (mIs k i ++ zs.drop i)) (k + (i : Int)) i) zs.length (by omega) (fun i hi m s K hs hn' => ?_) (fun m s K hs hK => ?_) (by simp [mIs])
 · have hin : 0 ≤ (i : Int) ∧ (i : Int) < ((ID (mIs k i ++ zs.drop i)).length : Int) := by rw [hn i (by omega)]; omega
   obtain ⟨c, hc⟩ : ∃ c, zs[i]? = some c := ⟨zs[i], List.getElem?_eq_getElem hi⟩
   have hget : (ID (mIs k i ++ zs.drop i))[((i : Int)).toNat]? = some (I c) := by
    rw [Int.toNat_natCast, List.getElem?_map, zjr _ _ (zgo k i) hi, hc]; rfl
   have e4 : w64 (k + (i : Int) + 1) = k + ((i + 1 : Nat) : Int) := by rw [k64 (by omega)]; omega
   have ei : w64 ((i : Int) + 1) = ((i + 1 : Nat) : Int) := by rw [k64 (by omega)]; omega
   refine zj5 kk m _ _ _ c hs (fun _ => ⟨hin, hget, fun s' hs' => hn' s' ?_⟩) (fun d => absurd (of_decide_eq_false d) (by omega))
   rw [hs', e4, ei]
   have hset : (ID (mIs k i ++ zs.drop i)).set ((i : Int)).toNat (I (k + (i : Int))) = ID (mIs k (i + 1) ++ zs.drop (i + 1)) := by
    rw [Int.toNat_natCast, ← List.map_set, ziT _ _ _ (zgo k i) hi, zl8]
   rw [← hset]
   rfl
 · have e : ID (mIs k zs.length ++ zs.drop zs.length) = ID (mIs k zs.length) := by rw [List.drop_length, List.append_nil]
   refine zj5 kk m _ _ _ 0 hs (fun d => absurd (of_decide_eq_true d) (by rw [hn _ (Nat.le_refl _)]; omega)) (fun _ => ?_)
   rw [e]; exact hK
theorem zlS (b : Bool) (n : Nat) (k : Int) (hk : 0 ≤ k ∧ k ≤ 10000000000) (h : n ≤ 1048600) : EvN 1048700 26 [.dat (.lst b (CD (mCs k n))), .dat (I k)] [] [] ([.dat (I (k + 4 * (n : Int)))], [], []) := by
 refine zaS Try.f26 1048699 (by kernel_rfl) (by kernel_rfl) fun kk hkk => ?_
 refine heldC kk b _ k (k + 4 * (n : Int)) ⟨?_, rfl⟩
 have hn : ((CD (mCs k n)).length : Int) = (n : Int) := by rw [List.length_map, zgV]
 refine zaG (fun i => hd26 b (CD (mCs k n)) (k + 4 * (i : Int)) i) n (by omega) (fun i hi m s K hs hn' => ?_) (fun m s K hs hK => ?_) (by simp)
 · have hin : 0 ≤ (i : Int) ∧ (i : Int) < ((CD (mCs k n)).length : Int) := by rw [hn]; omega
   have hget : (CD (mCs k n))[((i : Int)).toNat]? = some (mC (k + 4 * (i : Int))).d := by
    rw [Int.toNat_natCast, List.getElem?_map, zm0 k hi]; rfl
   have e1 : w64 (k + 4 * (i : Int) + 1) = k + 4 * (i : Int) + 1 := k64 (by omega)
   have e2 : w64 (k + 4 * (i : Int) + 1 + 1) = k + 4 * (i : Int) + 2 := by rw [k64 (by omega)]; omega
   have e3 : w64 (k + 4 * (i : Int) + 2 + 1) = k + 4 * (i : Int) + 3 := by rw [k64 (by omega)]; omega
   have e4 : w64 (k + 4 * (i : Int) + 3 + 1) = k + 4 * ((i + 1 : Nat) : Int) := by rw [k64 (by omega)]; omega
   have ei : w64 ((i : Int) + 1) = ((i + 1 : Nat) : Int) := by rw [k64 (by omega)]; omega
   refine zkK kk m b _ _ _ (mC (k + 4 * (i : Int))) (mC (k + 4 * (i : Int))) (mC (k + 4 * (i : Int))) (mC (k + 4 * (i : Int))) hs (fun _ d => ?_) (fun _ _ d => ?_) (fun _ _ _ d => ?_) (fun _ _ _ _ d => ?_) (fun _ _ _ _ _ => ?_) (fun d => absurd (of_decide_eq_false d) (by omega))
   · simp [mC] at d
   · simp [mC, e1] at d
   · rw [e1, e2] at d; simp [mC] at d
   · rw [e1, e2, e3] at d; simp [mC] at d
   · refine ⟨⟨hin, hget⟩, ⟨hin, hget⟩, ⟨hin, hget⟩, ⟨hin, hget⟩, fun s' hs' => hn' s' ?_⟩
     rw [hs', e1, e2, e3, e4, ei]
     rfl
 · exact zkK kk m b _ _ _ c0 c0 c0 c0 hs (fun d => absurd (of_decide_eq_true d) (by omega)) (fun d => absurd (of_decide_eq_true d) (by omega)) (fun d => absurd (of_decide_eq_true d) (by omega)) (fun d => absurd (of_decide_eq_true d) (by omega)) (fun d => absurd (of_decide_eq_true d) (by omega)) (fun _ => hK)
theorem zjn (b : Bool) (n : Nat) (k : Int) (hk : 0 ≤ k ∧ k ≤ 10000000000) (h : n ≤ 1048600) : EvN 1048700 27 [.dat (.lst b (ID (mIs k n))), .dat (I k)] [] [] ([.dat (I (k + (n : Int)))], [], []) := by
 refine zaS Try.f27 1048699 (by kernel_rfl) (by kernel_rfl) fun kk hkk => ?_
 refine heldI kk b _ k (k + (n : Int)) ⟨?_, rfl⟩
 have hn : ((ID (mIs k n)).length : Int) = (n : Int) := by rw [List.length_map, zgo]
 refine zaG (fun i => hd26 b (ID (mIs k n)) (k + (i : Int)) i) n (by omega) (fun i hi m s K hs hn' => ?_) (fun m s K hs hK => ?_) (by simp)
 · have hin : 0 ≤ (i : Int) ∧ (i : Int) < ((ID (mIs k n)).length : Int) := by rw [hn]; omega
   have hget : (ID (mIs k n))[((i : Int)).toNat]? = some (I (k + (i : Int))) := by
    rw [Int.toNat_natCast, List.getElem?_map, zmZ k hi]; rfl
   have e4 : w64 (k + (i : Int) + 1) = k + ((i + 1 : Nat) : Int) := by rw [k64 (by omega)]; omega
   have ei : w64 ((i : Int) + 1) = ((i + 1 : Nat) : Int) := by rw [k64 (by omega)]; omega
   refine zkl kk m b _ _ _ (k + (i : Int)) hs (fun _ d => by simp at d) (fun _ _ => ⟨⟨hin, hget⟩, fun s' hs' => hn' s' ?_⟩) (fun d => absurd (of_decide_eq_false d) (by omega))
   rw [hs', e4, ei]
   rfl
 · exact zkl kk m b _ _ _ 0 hs (fun d => absurd (of_decide_eq_true d) (by omega)) (fun d => absurd (of_decide_eq_true d) (by omega)) (fun _ => hK)
def mH (k : Int) (h : Hp) : Hp := ⟨h.o, mCs k h.cs.length, mIs (k + 4 * (h.cs.length : Int)) h.rs.length, mIs (k + 4 * (h.cs.length : Int) + (h.rs.length : Int)) h.ns.length⟩
def mK (k : Int) (h : Hp) : Int := k + 4 * (h.cs.length : Int) + (h.rs.length : Int) + (h.ns.length : Int)
structure Sm (h : Hp) : Prop where
 cl : h.cs.length ≤ 1048577
 rl : h.rs.length ≤ 1048577
 nl : h.ns.length ≤ 1048577
abbrev znF (h : Hp) : List (Option Row) := [some (41, CD h.cs), some (3, ID h.rs), some (3, ID h.ns)]
theorem zi1 (h : Hp) (hs : Sm h) : EvN 1048800 9 [.seq false [.dat (I h.o), .bor (.lent 0) none, .bor (.lent 1) none, .bor (.lent 2) none], .dat (I 1)] [] (znF h) ([.dat (I (mK 1 h))], [], znF (mH 1 h)) := by
 have := hs.cl
 have := hs.rl
 have := hs.nl
 exact zaS Try.f9 1048799 (by kernel_rfl) (by kernel_rfl) fun kk hkk => markY kk h.o _ _ _ _ _ _ 1 _ _ _ ⟨zlK h.cs 1 (by omega) (by omega) kk (by omega), ziS h.rs _ (by omega) (by omega) kk (by omega), ziS h.ns _ (by omega) (by omega) kk (by omega), rfl⟩
theorem zl9 (b : Bool) (h : Hp) (hs : Sm h) : EvN 1048800 10 [.dat (YD b (mH 1 h).o (mH 1 h).cs (mH 1 h).rs (mH 1 h).ns), .dat (I 1)] [] [] ([.dat (I (mK 1 h))], [], []) := by
 have := hs.cl
 have := hs.rl
 have := hs.nl
 refine zaS Try.f10 1048799 (by kernel_rfl) (by kernel_rfl) fun kk hkk => ?_
 have h1 := zlS b h.cs.length 1 (by omega) (by omega) kk (by omega)
 have h2 := zjn b h.rs.length (1 + 4 * (h.cs.length : Int)) (by omega) (by omega) kk (by omega)
 have h3 := zjn b h.ns.length (1 + 4 * (h.cs.length : Int) + (h.rs.length : Int)) (by omega) (by omega) kk (by omega)
 exact heldY kk b h.o _ _ _ 1 (1 + 4 * (h.cs.length : Int)) (1 + 4 * (h.cs.length : Int) + (h.rs.length : Int)) (mK 1 h) (fun d => absurd (of_decide_eq_true d) (by omega)) (fun _ d => absurd (of_decide_eq_true d) (by omega)) (fun _ _ d => absurd (of_decide_eq_true d) (by unfold mK; omega)) (fun _ _ _ => ⟨h1, h2, h3, rfl⟩)
end Go.Den
namespace Go.Den
open Go.Proofs
open Go
set_option linter.unusedVariables false
set_option maxRecDepth 100000
theorem zm6 (h : Hp) (g : Hg h) (at_ : Int) (second : Bool) (to : Int) (ha : 0 ≤ at_ ∧ at_ < (h.cs.length : Int)) :
 EvN 10 21 [.ptr (.up 0) 0, .dat (I at_), .dat (B second), .dat (I to)] [Yo h.o (CD h.cs) (ID h.rs) (ID h.ns)] [] ([], [Yo (setH h at_ second to).o (CD (setH h at_ second to).cs) (ID (setH h at_ second to).rs) (ID (setH h at_ second to).ns)], []) := by
 refine zaS Try.f21 9 (by kernel_rfl) (by kernel_rfl) fun kk hkk => ?_
 have hnl := zeL g
 have hc := zlV (c := h.cs) ha.1 ha.2
 have hcont : h.ns.contains at_ = hasB h.ns at_ := by
  rw [Bool.eq_iff_iff, ziH]; simp
 have h83 := ev_bs true h.ns at_ g.nup (by omega) kk (by omega)
 rw [hcont] at h83
 have h84 := znM h.ns (h.ns.countP (· < at_)) at_ List.countP_le_length (by omega) kk (by omega)
 have hins : hasB h.ns at_ = false → insZ h.ns (h.ns.countP (· < at_)) at_ = insL at_ h.ns := fun e => ziU g.nup fun hm => by rw [(ziH _ _).2 hm] at e; cases e
 have hp1 : decide (at_ < h.o) = true → decide (h.o ≤ to) = true → (!hasB h.ns at_) = true → (setH h at_ second to).ns = insZ h.ns (h.ns.countP (· < at_)) at_ := fun d1 d2 d3 => by
  have : putN h at_ to = true := by unfold putN; rw [d1, d2, d3]; rfl
  rw [hins (by simpa using d3)]
  show (match putN h at_ to with | true => insL at_ h.ns | false => h.ns) = _
  rw [this]
 have hp2 : putN h at_ to = false → (setH h at_ second to).ns = h.ns := fun d => by
  show (match putN h at_ to with | true => insL at_ h.ns | false => h.ns) = _
  rw [d]
 have hq1 : (!hasB h.ns at_) = false → putN h at_ to = false := fun d => by unfold putN; rw [d, Bool.and_false]
 have hq2 : decide (h.o ≤ to) = false → putN h at_ to = false := fun d => by unfold putN; rw [d, Bool.and_false, Bool.false_and]
 have hq3 : decide (at_ < h.o) = false → putN h at_ to = false := fun d => by unfold putN; rw [d, Bool.false_and, Bool.false_and]
 have hst : second = true → (CD h.cs).set at_.toNat (Dat.agg [B (cg h.cs at_).l, I (cg h.cs at_).n, I (cg h.cs at_).a, I to]) = CD (setH h at_ second to).cs := fun e => by rw [e]; exact set_cd.1
 have hsf : second = false → (CD h.cs).set at_.toNat (Dat.agg [B (cg h.cs at_).l, I (cg h.cs at_).n, I to, I (cg h.cs at_).b]) = CD (setH h at_ second to).cs := fun e => by rw [e]; exact set_cd.2
 exact setY kk h.o _ _ _ at_ second to (cg h.cs at_) (cg h.cs at_) _ (hasB h.ns at_) _
  (fun d1 d2 d3 d4 => ⟨hc.1, hc.2, h83, h84, by rw [hst d1, ← hp1 d2 d3 d4]; rfl⟩)
  (fun d1 d2 d3 d4 => ⟨hc.1, hc.2, h83, by rw [hst d1, hp2 (hq1 d4)]; rfl⟩)
  (fun d1 d2 d3 => ⟨hc.1, hc.2, h83, by rw [hst d1, hp2 (hq2 d3)]; rfl⟩)
  (fun d1 d2 => ⟨hc.1, hc.2, h83, by rw [hst d1, hp2 (hq3 d2)]; rfl⟩)
  (fun d1 d2 d3 d4 => ⟨hc.1, hc.2, h83, h84, by rw [hsf d1, ← hp1 d2 d3 d4]; rfl⟩)
  (fun d1 d2 d3 d4 => ⟨hc.1, hc.2, h83, by rw [hsf d1, hp2 (hq1 d4)]; rfl⟩)
  (fun d1 d2 d3 => ⟨hc.1, hc.2, h83, by rw [hsf d1, hp2 (hq2 d3)]; rfl⟩)
  (fun d1 d2 => ⟨hc.1, hc.2, h83, by rw [hsf d1, hp2 (hq3 d2)]; rfl⟩)
theorem zme (b : Bool) (h : Hp) (g : Hg h) : EvN 2 20 [.dat (YD b h.o h.cs h.rs h.ns)] [] [] ([HO h], [], []) := by
 refine zaS Try.f20 1 (by kernel_rfl) (by kernel_rfl) fun kk hkk => ?_
 have := g.clen
 have := g.rlen
 have := zeL g
 exact copyY kk b h.o _ _ _ _ _ _ ⟨zjF b h.cs (by omega) kk (by omega), zhZ b h.rs (by omega) kk (by omega), zhZ b h.ns (by omega) kk (by omega), rfl⟩
def zbg (o : Int) (C : List Cl) (R N : List Int) (at_ to : Int) : Bool := zdh o C R N && zax at_ C.length && !(cg C at_).l && zax to C.length
def none0 : Hp := ⟨0, [], [], []⟩
def zcv (o : Int) (C : List Cl) (R N : List Int) (at_ : Int) (sd : Bool) (to : Int) : Hp := match zbg o C R N at_ to with | true => setH ⟨o, C, R, N⟩ at_ sd to | false => none0
theorem zlC {n : Nat} (hn : n ≤ 1048576) (x : Int) : inB x 0 (w64 ((n : Int) - 1)) = zax x n := by rw [zeq (by omega)]; exact zjq x n
theorem znV (b : Bool) {o : Int} {C : List Cl} {R N : List Int} (hf : ∀ c ∈ C, c.fine) (hs : C.length + R.length + N.length ≤ 1048576) (at_ : Int) (sd : Bool) (to : Int) :
 EvN 1048700 7 [.dat (YD b o C R N), .dat (I at_), .dat (B sd), .dat (I to)] [] [] ([HO (zcv o C R N at_ sd to), .dat (B (zbg o C R N at_ to))], [], []) := by
 refine zaS Try.f7 1048699 (by kernel_rfl) (by kernel_rfl) fun kk hkk => ?_
 have hlc : ((CD C).length : Int) = (C.length : Int) := by simp
 have h33 := zmn b o C R N hs kk (by omega)
 have h43 := zbM at_ ((CD C).length : Int) kk (by omega)
 have h43b := zbM to ((CD C).length : Int) kk (by omega)
 rw [hlc] at h43 h43b
 have hc : zax at_ C.length = true → (0 ≤ at_ ∧ at_ < ((CD C).length : Int)) ∧ (CD C)[at_.toNat]? = some (cg C at_).d := fun e => by
  have := zj0 e
  exact zlV this.1 (by omega)
 have no : ∀ {x : Bool}, (!x) = true → x = false := fun e => by simpa using e
 have yes : ∀ {x : Bool}, (!x) = false → x = true := fun e => by simpa using e
 unfold zcv
 refine zlX kk b o _ _ _ at_ sd to (zdh o C R N) (zax at_ C.length) (zax to C.length) o (CD C) (ID R) (ID N) (setH ⟨o, C, R, N⟩ at_ sd to).o (CD (setH ⟨o, C, R, N⟩ at_ sd to).cs) (ID (setH ⟨o, C, R, N⟩ at_ sd to).rs) (ID (setH ⟨o, C, R, N⟩ at_ sd to).ns) (cg C at_)
  (fun d => ⟨h33, ?_⟩) (fun d d2 => ⟨h33, by rw [hlc]; exact h43, ?_⟩) (fun d d2 d3 => ⟨h33, by rw [hlc]; exact h43, hc (yes d2), ?_⟩) (fun d d2 d3 d4 => ⟨h33, by rw [hlc]; exact h43, hc (yes d2), by rw [hlc]; exact h43b, ?_⟩) (fun d d2 d3 d4 => ⟨h33, by rw [hlc]; exact h43, hc (yes d2), by rw [hlc]; exact h43b, zme b ⟨o, C, R, N⟩ (zgB hf (yes d)) kk (by omega), ?_, ?_⟩)
 · have : zbg o C R N at_ to = false := by unfold zbg; rw [no d]; rfl
   rw [this]; rfl
 · have : zbg o C R N at_ to = false := by unfold zbg; rw [no d2, Bool.and_false]; rfl
   rw [this]; rfl
 · have : zbg o C R N at_ to = false := by unfold zbg; rw [d3]; simp
   rw [this]; rfl
 · have : zbg o C R N at_ to = false := by unfold zbg; rw [no d4, Bool.and_false]
   rw [this]; rfl
 · exact zm6 ⟨o, C, R, N⟩ (zgB hf (yes d)) at_ sd to (zj0 (yes d2)) kk (by omega)
 · have : zbg o C R N at_ to = true := by unfold zbg; rw [yes d, yes d2, d3, yes d4]; rfl
   rw [this]
theorem znS (b : Bool) {o : Int} {C : List Cl} {R N : List Int} (hf : ∀ c ∈ C, c.fine) (ho : In64 o) (hs : C.length + R.length + N.length ≤ 1048576) (at_ : Int) (sd : Bool) (to : Int) :
 EvN 1048900 5 [.dat (YD b o C R N), .dat (I at_), .dat (B sd), .dat (I to)] [] [] ([.dat (YD false (zcv o C R N at_ sd to).o (zcv o C R N at_ sd to).cs (zcv o C R N at_ sd to).rs (zcv o C R N at_ sd to).ns), .dat (B (zbg o C R N at_ to))], [], []) := by
 refine zaS Try.f5 1048899 (by kernel_rfl) (by kernel_rfl) fun kk hkk => ?_
 have hlc : w64 (((CD C).length : Int) - 1) = w64 ((C.length : Int) - 1) := by rw [List.length_map]
 have E38 := zlY b o C R N hs ho kk (by omega)
 have h39 := fun (x : Int) kk hk => zit x 0 (w64 (((CD C).length : Int) - 1)) kk hk
 have hin : ∀ x, inB x 0 (w64 (((CD C).length : Int) - 1)) = zax x C.length := fun x => by rw [hlc]; exact zlC (by omega) x
 simp only [hin] at h39
 have E1 := h39 at_ kk (by omega)
 have E2 := h39 to kk (by omega)
 have hc : zax at_ C.length = true → (0 ≤ at_ ∧ at_ < ((CD C).length : Int)) ∧ (CD C)[at_.toNat]? = some (cg C at_).d := fun e => by
  have := zj0 e
  have : ((CD C).length : Int) = (C.length : Int) := by simp
  exact zlV (by omega) (by omega)
 have no : ∀ {x : Bool}, (!x) = true → x = false := fun e => by simpa using e
 have yes : ∀ {x : Bool}, (!x) = false → x = true := fun e => by simpa using e
 unfold zcv
 refine zl7 kk b o _ _ _ at_ sd to (zdh o C R N) (zax at_ C.length) (zax to C.length) (setH ⟨o, C, R, N⟩ at_ sd to).o (CD (setH ⟨o, C, R, N⟩ at_ sd to).cs) (ID (setH ⟨o, C, R, N⟩ at_ sd to).rs) (ID (setH ⟨o, C, R, N⟩ at_ sd to).ns) (cg C at_)
  (fun d => ⟨E38, ?_⟩) (fun d d2 => ⟨E38, E1, ?_⟩) (fun d d2 d3 => ⟨E38, E1, E2, ?_⟩) (fun d d2 d3 d4 => ⟨E38, E1, E2, hc (yes d2), ?_⟩) (fun d d2 d3 d4 => ⟨E38, E1, E2, hc (yes d2), zlZ b ⟨o, C, R, N⟩ (zgB hf (yes d)) at_ sd to (zj0 (yes d2)) kk (by omega), ?_⟩)
 · have : zbg o C R N at_ to = false := by unfold zbg; rw [no d]; rfl
   rw [this]; rfl
 · have : zbg o C R N at_ to = false := by unfold zbg; rw [no d2, Bool.and_false]; rfl
   rw [this]; rfl
 · have : zbg o C R N at_ to = false := by unfold zbg; rw [no d3, Bool.and_false]
   rw [this]; rfl
 · have : zbg o C R N at_ to = false := by unfold zbg; rw [d4]; simp
   rw [this]; rfl
 · have : zbg o C R N at_ to = true := by unfold zbg; rw [yes d, yes d2, d4, yes d3]; rfl
   rw [this]
theorem znK {o : Int} {C : List Cl} {R N : List Int} (hf : ∀ c ∈ C, c.fine) (at_ : Int) (sd : Bool) (to : Int) : (zcv o C R N at_ sd to).cs.length + (zcv o C R N at_ sd to).rs.length + (zcv o C R N at_ sd to).ns.length ≤ 1048576 := by
 unfold zcv
 cases hm : zbg o C R N at_ to with
 | false => show (0 : Nat) + 0 + 0 ≤ 1048576; omega
 | true =>
   have hg : zdh o C R N = true := by
    cases h : zdh o C R N with
    | true => rfl
    | false => unfold zbg at hm; rw [h] at hm; simp at hm
   have g := zgB hf hg
   have h1 : C.length ≤ 200 := g.clen
   have h2 : R.length ≤ 60 := g.rlen
   have h3 : N.length ≤ 200 := zeL g
   show (C.set at_.toNat _).length + R.length + (match putN ⟨o, C, R, N⟩ at_ to with | true => insL at_ N | false => N).length ≤ 1048576
   rw [List.length_set]
   cases putN ⟨o, C, R, N⟩ at_ to with
   | true =>
     have := zjm at_ N
     show C.length + R.length + (insL at_ N).length ≤ 1048576
     omega
   | false => show C.length + R.length + N.length ≤ 1048576; omega
theorem zie (b : Bool) (h : Hp) (hs : h.cs.length + h.rs.length + h.ns.length ≤ 1048576) : EvN 1048581 6 [.dat (YD b h.o h.cs h.rs h.ns)] [] [] ([HO h], [], []) :=
 zaS Try.f6 1048580 (by kernel_rfl) (by kernel_rfl) fun kk hkk => znb kk b h.o _ _ _ _ _ _ ⟨zjS b h.cs (by omega) kk (by omega), zhc b h.rs (by omega) kk (by omega), zhc b h.ns (by omega) kk (by omega), rfl⟩
theorem zmp (h : Hp) (w : Bool) : D.cleans [.dat (YD false h.o h.cs h.rs h.ns), .dat (B w)] = true := by
 show (((true && ((true && Dat.cleans (CD h.cs)) && ((true && Dat.cleans (ID h.rs)) && ((true && Dat.cleans (ID h.ns)) && true)))) : Bool) && true) = true
 rw [zi9, zeO, zeO]; rfl
theorem zlc (h : Hp) (w : Bool) : D.cleans [HO h, .dat (B w)] = true := by
 show (((true && (Dat.cleans (CD h.cs) && (Dat.cleans (ID h.rs) && (Dat.cleans (ID h.ns) && true)))) : Bool) && true) = true
 rw [zi9, zeO, zeO]; rfl
theorem fnExactSetPart_den : ∀ (d0 d1 d2 d3 : Dat), WT cfg.ty 25 d0 → WT cfg.ty 3 d1 → WT cfg.ty 4 d2 → WT cfg.ty 3 d3 → ∃ k, den cfg k 3 [.dat d0, .dat d1, .dat d2, .dat d3] [] [] = some ([.dat (.val (.bool true))], [], []) := by
 intro d0 d1 d2 d3 w0 w1 w2 w3
 obtain ⟨o, cs, rs, ns, rfl, ho, hc, hr, hn, hf⟩ := zmd w0
 obtain ⟨at_, rfl, _⟩ := ze2 w1
 obtain ⟨sd, rfl⟩ := zkT w2
 obtain ⟨to, rfl, _⟩ := ze2 w3
 obtain ⟨z, hz, hz0⟩ := znx false o (cs.map Cl.d) (rs.map (I ·)) (ns.map (I ·)) (by simpa using hc) (by simpa using hr) (by simpa using hn)
 simp only [List.length_map] at hz0
 refine ⟨1100001, zaS Try.f3 1100000 (by kernel_rfl) (by kernel_rfl) (fun kk hkk => ?_) (by kernel_rfl) 1100001 (Nat.le_refl _)⟩
 have h22 := hz kk (by omega)
 cases hneg : decide (z < 0) with
 | true => exact znE kk o _ _ _ at_ sd to z h22 hneg
 | false =>
   have hsum : cs.length + rs.length + ns.length ≤ 1048576 := hz0 (by have := of_decide_eq_false hneg; omega)
   have hsm0 := znK (o := o) (R := rs) (N := ns) hf at_ sd to
   have hTo := zie false ⟨o, cs, rs, ns⟩ hsum kk (by omega)
   have hS := znS (o := o) true hf ho hsum at_ sd to kk (by omega)
   have hI := znV (o := o) true hf hsum at_ sd to kk (by omega)
   have hE := zf6 true false (zcv o cs rs ns at_ sd to).o (zcv o cs rs ns at_ sd to).cs (zcv o cs rs ns at_ sd to).rs (zcv o cs rs ns at_ sd to).ns hsm0 kk (by omega)
   have hX := zf6 true true o cs rs ns hsum kk (by omega)
   have hM := zi1 ⟨o, cs, rs, ns⟩ ⟨by show cs.length ≤ _; omega, by show rs.length ≤ _; omega, by show ns.length ≤ _; omega⟩ kk (by omega)
   have hsm : Sm (zcv o cs rs ns at_ sd to) := ⟨by omega, by omega, by omega⟩
   have hG := zi1 _ hsm kk (by omega)
   have hH := zl9 true _ hsm kk (by omega)
   have hcy := zmp (zcv o cs rs ns at_ sd to) (zbg o cs rs ns at_ to)
   have hch := zlc (zcv o cs rs ns at_ sd to) (zbg o cs rs ns at_ to)
   have hpos : ∀ h : Hp, decide (mK 1 h < 0) = false := fun h => decide_eq_false (by unfold mK; omega)
   have hww : (!zbg o cs rs ns at_ to == zbg o cs rs ns at_ to) = false := by cases zbg o cs rs ns at_ to <;> rfl
   exact law kk o _ _ _ at_ sd to z _ _ _ _ _ _ _ _ _ _ _ _ 0 _ _ _ 0 _ _ _ _ _ _ _ _ _ _ _ _
    h22 hneg hTo hcy hS hTo hch hI hE hww hTo hX hM (hpos _) hE hww hG hH (hpos _) (by simp) hTo hch hI hE hww hH (hpos _) (by simp)
end Go.Den
namespace Go.Proofs.Ytcmcfebihbmmeaa.fnExactSetPart
open Go.ChangeShapes Go.WideShapes Go.ChangeAt Go.RowKit Go.Den
set_option linter.unusedVariables false
theorem own : ownKnob Try.prog.godebug = none := by kernel_rfl
theorem zgJ : laidOutB Try.prog = true := by kernel_rfl
theorem body : (Try.f3.body).isSome = true := by kernel_rfl
theorem fnThere : cfg.fn 3 = some Try.f3 := by kernel_rfl
theorem zmG : zcn cfg.ty 8 3 = true := by kernel_rfl
theorem znI : zcn cfg.ty 8 4 = true := by kernel_rfl
theorem znp : zcn cfg.ty 8 25 = true := by kernel_rfl
set_option maxRecDepth 100000 in
theorem zmK (os : Os) (started : os.Started) (H : Type) (enc : TypeId × Value → H) :
 ReturnsInHanded {} Try.checked os 3 .any (Rows.fnExactSetPartSpec.pre6 enc Try.prog Try.f3 Rows.fnExactSetPartRow.domain false) (Rows.fnExactSetPartSpec.post enc Try.prog Try.f3 false true false false) := by
 refine returnsInHanded_of_change (C := Try.checked) own started (by kernel_rfl) Try.func3
  (ChangeSpec.witness6 (enc := enc) (C := Try.checked) false ⟨#[], #[.agg #[.int .i64 0, .slice none 0 0, .slice none 0 0, .slice none 0 0], .int .i64 0, .bool false, .int .i64 0], []⟩ 8 (by kernel_rfl) (by kernel_rfl) (by kernel_rfl) (by kernel_rfl)) ?_
 intro W base args ds gs before hval0 hW hcnd _
 have hval : ∀ (j : Nat) t v, Try.f3.params[j]? = some t → args[j]? = some v → Value.okWide Try.prog W .any base t v := hval0
 have hW' := hW
 obtain ⟨p, q, hA0, hV, rfl, hfz, hnd⟩ := hW
 have hA : DataW.TrodAll enc Try.prog W 0 (fun _ => true) true Try.f3.params.toList args.toList ds p := hA0
 rw [Try.params3] at hA hval
 obtain ⟨v0, vs0, d0, ds0, p0, q0, hargs, rfl, rfl, h0, r0⟩ := trodAll_cons hA
 obtain ⟨v1, vs1, d1, ds1, p1, q1, rfl, rfl, rfl, h1, r1⟩ := trodAll_cons r0
 obtain ⟨v2, vs2, d2, ds2, p2, q2, rfl, rfl, rfl, h2, r2⟩ := trodAll_cons r1
 obtain ⟨v3, vs3, d3, ds3, p3, q3, rfl, rfl, rfl, h3, r3⟩ := trodAll_cons r2
 obtain ⟨rfl, rfl, rfl⟩ := trodAll_nil r3
 obtain rfl : args = #[v0, v1, v2, v3] := by cases args; simp_all
 obtain ⟨rfl, rfl⟩ := trodVars_none hV
 have k0 := h0
 have lt0 : ∀ x ∈ p0, x.block < W.heap.size := by obtain ⟨m, hm⟩ := k0; exact DataW.trod_lt m _ _ _ hm
 obtain ⟨e0, cv0, R0, V0, T0⟩ := zgx zfx znp (hval 0 25 v0 rfl rfl) h0
 have k1 := h1
 have lt1 : ∀ x ∈ p1, x.block < W.heap.size := by obtain ⟨m, hm⟩ := k1; exact DataW.trod_lt m _ _ _ hm
 obtain ⟨e1, cv1, R1, V1, T1⟩ := zgx zfx zmG (hval 1 3 v1 rfl rfl) h1
 have k2 := h2
 have lt2 : ∀ x ∈ p2, x.block < W.heap.size := by obtain ⟨m, hm⟩ := k2; exact DataW.trod_lt m _ _ _ hm
 obtain ⟨e2, cv2, R2, V2, T2⟩ := zgx zfx znI (hval 2 4 v2 rfl rfl) h2
 have k3 := h3
 have lt3 : ∀ x ∈ p3, x.block < W.heap.size := by obtain ⟨m, hm⟩ := k3; exact DataW.trod_lt m _ _ _ hm
 obtain ⟨e3, cv3, R3, V3, T3⟩ := zgx zfx zmG (hval 3 3 v3 rfl rfl) h3
 clear hA0 hval0
 have hden := fnExactSetPart_den e0 e1 e2 e3 T0 T1 T2 T3
 refine (zkd (P := Try.prog) (C := cfg) (f := 3) (fn := Try.f3) (vals := #[v0, v1, v2, v3]) (ds := [e0, e1, e2, e3]) (W := W) (b := true) (B := fun _ => none) den_true.out (zmz fnThere) body rfl (fun j d v hj hv => ?_) (fun g o h => by cases h) hden).mono fun e W' hh => ?_
 · match j, hj, hv with
   | 0, hj, hv => cases hj; cases hv; exact ⟨cv0, R0, V0⟩
   | 1, hj, hv => cases hj; cases hv; exact ⟨cv1, R1, V1⟩
   | 2, hj, hv => cases hj; cases hv; exact ⟨cv2, R2, V2⟩
   | 3, hj, hv => cases hj; cases hv; exact ⟨cv3, R3, V3⟩
   | j + 4, hj, hv => simp at hj
 · obtain ⟨he, bel⟩ := hh
   subst he
   exact ⟨_, rfl, _, _, _, [], _, [], hW', trodAll_mk1 (shut_bool Try.underlying4 _), (trodAll_cons_mk (Below.trod zgJ (by kernel_rfl) (of_decide_eq_true (by kernel_rfl)) k0 bel lt0) (trodAll_cons_mk (Below.trod zgJ (by kernel_rfl) (of_decide_eq_true (by kernel_rfl)) k1 bel lt1) (trodAll_cons_mk (Below.trod zgJ (by kernel_rfl) (of_decide_eq_true (by kernel_rfl)) k2 bel lt2) (trodAll_cons_mk (Below.trod zgJ (by kernel_rfl) (of_decide_eq_true (by kernel_rfl)) k3 bel lt3) trodAll_mk0)))), rfl, bel.frame _, fun h => by cases h⟩
theorem over : Rows.fnExactSetPartRow.holds Try.pinned (OpenSpec.ofChange Rows.fnExactSetPartSpec) :=
 OpenClaim.holds_of_wide 3 Try.f3 rfl rfl rfl rfl rfl rfl rfl ⟨rfl, rfl, rfl, rfl, rfl⟩ rfl rfl rfl rfl rfl (by kernel_rfl) Try.func3 (by kernel_rfl)
  (of_decide_eq_true (by kernel_rfl)) (by unfold Func.isWrapper; first | (rw [if_pos (by decide +kernel)]; kernel_rfl) | (rw [if_neg (by decide +kernel)]; exact ⟨rfl, rfl⟩))
  (fun os started H enc _ => zmK os started H enc)
theorem proved : Rows.FnExactSetPartSaid := over
end Go.Proofs.Ytcmcfebihbmmeaa.fnExactSetPart
namespace Go.Proofs.Ytcmcfebihbmmeaa
theorem fnExactSetPart_holds : Rows.FnExactSetPartSaid := fnExactSetPart.proved
end Go.Proofs.Ytcmcfebihbmmeaa
