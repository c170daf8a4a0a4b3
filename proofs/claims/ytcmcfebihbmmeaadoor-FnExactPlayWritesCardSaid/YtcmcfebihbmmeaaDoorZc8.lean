/- Merged out of: EE EF EG EH EI EJ (prune.py, a program of this work's). -/
import Derived.Test.YtcmcfebihbmmeaaDoorZc6
import Derived.Test.YtcmcfebihbmmeaaDoorZc5
import Derived.Test.YtcmcfebihbmmeaaDoorZc7
import Derived.KernelRfl
set_option linter.unusedVariables false
set_option linter.unusedSimpArgs false
set_option linter.unnecessarySimpa false
namespace Go.Den
open Go
set_option linter.unusedVariables false
set_option maxRecDepth 100000
theorem zmB (kk : Nat) (b : Bool) (o : Int) (cs rs ns : List Dat) (at_ : Int) (ks : List Dat) (young : Bool) (ks1 ks2 : List Dat) (g12 : Bool) (g100015 : Bool) (c19 : Cl) {r : Res} (q1 : (g12 = true) → (0 ≤ at_ ∧ at_ < (ks.length : Int)) ∧ (ks[at_.toNat]? = some (B g12)) ∧ r = ([], [], [some (4, ks)])) (q2 : (g12 = false) → (c19.l = true) → (0 ≤ at_ ∧ at_ < (ks.length : Int)) ∧ (ks[at_.toNat]? = some (B g12)) ∧ (0 ≤ at_ ∧ at_ < (ks.length : Int)) ∧ (ks[at_.toNat]? = some (B g100015)) ∧ ((0 ≤ at_ ∧ at_ < (cs.length : Int)) ∧ cs[at_.toNat]? = some (Dat.agg [B c19.l, I c19.n, I c19.a, I c19.b])) ∧ r = ([], [], [some (4, ks.set at_.toNat (B true))])) (q3 : (g12 = false) → (c19.l = false) → (young = true) → (decide (at_ < o) = true) → (0 ≤ at_ ∧ at_ < (ks.length : Int)) ∧ (ks[at_.toNat]? = some (B g12)) ∧ (0 ≤ at_ ∧ at_ < (ks.length : Int)) ∧ (ks[at_.toNat]? = some (B g100015)) ∧ ((0 ≤ at_ ∧ at_ < (cs.length : Int)) ∧ cs[at_.toNat]? = some (Dat.agg [B c19.l, I c19.n, I c19.a, I c19.b])) ∧ r = ([], [], [some (4, ks.set at_.toNat (B true))])) (q4 : (g12 = false) → (c19.l = false) → (young = true) → (decide (at_ < o) = false) → (0 ≤ at_ ∧ at_ < (ks.length : Int)) ∧ (ks[at_.toNat]? = some (B g12)) ∧ (0 ≤ at_ ∧ at_ < (ks.length : Int)) ∧ (ks[at_.toNat]? = some (B g100015)) ∧ ((0 ≤ at_ ∧ at_ < (cs.length : Int)) ∧ cs[at_.toNat]? = some (Dat.agg [B c19.l, I c19.n, I c19.a, I c19.b])) ∧ (den cfg kk 124 [D.dat (Dat.agg [I o, Dat.lst b cs, Dat.lst b rs, Dat.lst b ns]), D.dat (I c19.a), D.bor (Pl.lent 0) none, D.dat (B young)] [] [some (4, ks.set at_.toNat (B true))] = some ([], [], [some (4, ks1)])) ∧ (den cfg kk 124 [D.dat (Dat.agg [I o, Dat.lst b cs, Dat.lst b rs, Dat.lst b ns]), D.dat (I c19.b), D.bor (Pl.lent 0) none, D.dat (B young)] [] [some (4, ks1)] = some ([], [], [some (4, ks2)])) ∧ r = ([], [], [some (4, ks2)])) (q5 : (g12 = false) → (c19.l = false) → (young = false) → (0 ≤ at_ ∧ at_ < (ks.length : Int)) ∧ (ks[at_.toNat]? = some (B g12)) ∧ (0 ≤ at_ ∧ at_ < (ks.length : Int)) ∧ (ks[at_.toNat]? = some (B g100015)) ∧ ((0 ≤ at_ ∧ at_ < (cs.length : Int)) ∧ cs[at_.toNat]? = some (Dat.agg [B c19.l, I c19.n, I c19.a, I c19.b])) ∧ (den cfg kk 124 [D.dat (Dat.agg [I o, Dat.lst b cs, Dat.lst b rs, Dat.lst b ns]), D.dat (I c19.a), D.bor (Pl.lent 0) none, D.dat (B young)] [] [some (4, ks.set at_.toNat (B true))] = some ([], [], [some (4, ks1)])) ∧ (den cfg kk 124 [D.dat (Dat.agg [I o, Dat.lst b cs, Dat.lst b rs, Dat.lst b ns]), D.dat (I c19.b), D.bor (Pl.lent 0) none, D.dat (B young)] [] [some (4, ks1)] = some ([], [], [some (4, ks2)])) ∧ r = ([], [], [some (4, ks2)])) : zak cfg kk (den cfg kk) 124 Go.Proofs.Tryd.f124 [.dat (Yd b o cs rs ns), .dat (I at_), .bor (.lent 0) none, .dat (B young)] [] [some (4, ks)] = some r := by
 rcases Bool.eq_false_or_eq_true (g12) with d3 | d3
 · obtain ⟨hz1, hz2, oz⟩ := q1 d3
   subst oz; exact zab [(37, .back [] [] [some (4, ks1)]), (43, .back [] [] [some (4, ks2)]), (11, .ok), (12, .at (B g12)), (15, .ok), (100015, .at (B g100015)), (19, .at (c19.d)), (200012, .yes)] (ob hz1 (ob hz2 (ob d3 ob0))) (by kernel_rfl)
 · rcases Bool.eq_false_or_eq_true (c19.l) with d7 | d7
   · obtain ⟨hz1, hz2, hz3, hz4, hz5, oz⟩ := q2 d3 d7
     subst oz; exact zab [(37, .back [] [] [some (4, ks1)]), (43, .back [] [] [some (4, ks2)]), (11, .ok), (12, .at (B g12)), (15, .ok), (100015, .at (B g100015)), (19, .at (c19.d)), (200012, .no), (200023, .yes)] (ob hz1 (ob hz2 (ob d3 (ob hz3 (ob hz4 (ob hz5 (ob d7 (ob (rfl : true = true) (ob (rfl : true = true) ob0))))))))) (by kernel_rfl)
   · rcases Bool.eq_false_or_eq_true (young) with d9 | d9
     · rcases Bool.eq_false_or_eq_true (decide (at_ < o)) with d14 | d14
       · obtain ⟨hz1, hz2, hz3, hz4, hz5, oz⟩ := q3 d3 d7 d9 d14
         subst oz; exact zab [(37, .back [] [] [some (4, ks1)]), (43, .back [] [] [some (4, ks2)]), (11, .ok), (12, .at (B g12)), (15, .ok), (100015, .at (B g100015)), (19, .at (c19.d)), (200012, .no), (200023, .no), (200025, .yes), (200031, .yes)] (ob hz1 (ob hz2 (ob d3 (ob hz3 (ob hz4 (ob hz5 (ob d7 (ob (rfl : false = false) (ob d9 (ob (rfl : true = true) (ob (rfl : true = true) (ob (rfl : true = true) (ob (rfl : false = false) (ob d14 ob0)))))))))))))) (by kernel_rfl)
       · obtain ⟨hz1, hz2, hz3, hz4, hz5, hz6, hz7, oz⟩ := q4 d3 d7 d9 d14
         subst oz; exact zab [(37, .back [] [] [some (4, ks1)]), (43, .back [] [] [some (4, ks2)]), (11, .ok), (12, .at (B g12)), (15, .ok), (100015, .at (B g100015)), (19, .at (c19.d)), (200012, .no), (200023, .no), (200025, .yes), (200031, .no)] (ob hz1 (ob hz2 (ob d3 (ob hz3 (ob hz4 (ob hz5 (ob d7 (ob (rfl : false = false) (ob d9 (ob (rfl : true = true) (ob (rfl : true = true) (ob (rfl : true = true) (ob (rfl : false = false) (ob d14 (ob hz6 (ob (rfl : false = false) (ob hz7 (ob (rfl : false = false) ob0)))))))))))))))))) (by kernel_rfl)
     · obtain ⟨hz1, hz2, hz3, hz4, hz5, hz6, hz7, oz⟩ := q5 d3 d7 d9
       subst oz; exact zab [(37, .back [] [] [some (4, ks1)]), (43, .back [] [] [some (4, ks2)]), (11, .ok), (12, .at (B g12)), (15, .ok), (100015, .at (B g100015)), (19, .at (c19.d)), (200012, .no), (200023, .no), (200025, .no)] (ob hz1 (ob hz2 (ob d3 (ob hz3 (ob hz4 (ob hz5 (ob d7 (ob (rfl : false = false) (ob d9 (ob (rfl : false = false) (ob (rfl : false = false) (ob (rfl : false = false) (ob (rfl : false = false) (ob hz6 (ob (rfl : false = false) (ob hz7 (ob (rfl : false = false) ob0))))))))))))))))) (by kernel_rfl)
def zmJ (b : Bool) (o : Int) (cs rs ns : List Dat) (ks : List Dat) (i : Int) : St := Nm [1, 3, 11, 12, 13] [.ptr (.loc 1) 0, .own 4 ks, .dat (.lst b rs), .dat (I rs.length), .dat (I i)] [Yb b o cs rs ns, none, none, none, none] [] []
theorem zmo (kk m : Nat) {s : St} {K : X → St → Prop} (b : Bool) (o : Int) (cs rs ns : List Dat) (ks : List Dat) (i : Int) (ks1 : List Dat) (x15 : Int) (hs : s.norm ((zac cfg kk 123 Go.Proofs.Tryd.f123).live (zaa (lp Go.Proofs.Tryd.f123 3))) = zmJ b o cs rs ns ks i) (q1 : (decide (i < (rs.length : Int)) = true) → ((0 ≤ i ∧ i < (rs.length : Int)) ∧ rs[i.toNat]? = some (I x15)) ∧ (den cfg kk 124 [D.dat (Dat.agg [I o, Dat.lst b cs, Dat.lst b rs, Dat.lst b ns]), D.dat (I x15), D.bor (Pl.lent 0) none, D.dat (B false)] [] [some (4, ks)] = some ([], [], [some (4, ks1)])) ∧ (∀ s : St, s.norm ((zac cfg kk 123 Go.Proofs.Tryd.f123).live (zaa (lp Go.Proofs.Tryd.f123 3))) = Nm [1, 3, 11, 12, 13] [D.ptr (Ref.loc 1) 0, D.own 4 ks1, D.dat (Dat.lst b rs), D.dat (I (rs.length : Int)), D.dat (I (w64 (i + 1)))] [some [D.dat (I o), D.dat (Dat.lst b cs), D.dat (Dat.lst b rs), D.dat (Dat.lst b ns)], none, none, none, none] [] [] → zae (zac cfg kk 123 Go.Proofs.Tryd.f123) kk (lp Go.Proofs.Tryd.f123 3) m s K)) (q2 : (decide (i < (rs.length : Int)) = false) → K (X.exit 0) (Nm [3] [D.own 4 ks] [none] [] [])) : zae (zac cfg kk 123 Go.Proofs.Tryd.f123) kk (lp Go.Proofs.Tryd.f123 3) (m + 1) s K := by
 rcases Bool.eq_false_or_eq_true (decide (i < (rs.length : Int))) with d1 | d1
 · obtain ⟨hz1, hz2, oz⟩ := q1 d1
   exact zag [(20, .back [] [] [some (4, ks1)]), (15, .at (I x15)), (200014, .yes)] hs (by kernel_rfl) (ob d1 (ob hz1 (ob hz2 (ob (rfl : false = false) ob0)))) (by kernel_rfl) oz
 · have oz := q2 d1
   exact zam [(20, .back [] [] [some (4, ks1)]), (15, .at (I x15)), (200014, .no)] hs (by kernel_rfl) rfl (ob d1 ob0) (by kernel_rfl) oz
theorem liveS (kk : Nat) (b : Bool) (o : Int) (cs rs ns : List Dat) (ks1 : List Dat) {r : Res} (q1 : (0 ≤ (cs.length : Int) ∧ (cs.length : Int) ≤ (cs.length : Int) ∧ (cs.length : Int) ≤ 2147483648) ∧ (zap cfg kk 123 Go.Proofs.Tryd.f123 3 (zmJ b o cs rs ns (List.replicate cs.length (B false)) 0) (X.exit 0) (Nm [3] [D.own 4 ks1] [none] [] [])) ∧ r = ([D.own 4 ks1], [], [])) : zak cfg kk (den cfg kk) 123 Go.Proofs.Tryd.f123 [.dat (Yd b o cs rs ns)] [] [] = some r := by
 obtain ⟨hz1, hz2, oz⟩ := q1
 subst oz; exact zab [(300003, .loop (zmJ b o cs rs ns (List.replicate cs.length (B false)) 0) (.exit 0) (Nm [3] [.own 4 ks1] [none] [] [])), (9, .ok)] (ob hz1 (ob (rfl : _ = zmJ b o cs rs ns (List.replicate cs.length (B false)) 0) (ob hz2 ob0))) (by kernel_rfl)
def zgi (b : Bool) (o : Int) (cs rs ns : List Dat) (kb : Bool) (ks : List Dat) (to : List Dat) (n i : Int) : St := Nm [1, 2, 4, 5, 6, 18, 19, 20] [.dat (.lst kb ks), .ptr (.loc 2) 0, .ptr (.loc 4) 0, .own 3 to, .dat (I n), .dat (.lst kb ks), .dat (I ks.length), .dat (I i)] [none, Yb b o cs rs ns, some (Yo 0 [] [] []), none, none, none, none, none] [] []
theorem zjj (kk m : Nat) {s : St} {K : X → St → Prop} (b : Bool) (o : Int) (cs rs ns : List Dat) (kb : Bool) (ks : List Dat) (to : List Dat) (n i : Int) (g23 : Bool) (x100029 : Int) (hs : s.norm ((zac cfg kk 122 Go.Proofs.Tryd.f122).live (zaa (lp Go.Proofs.Tryd.f122 4))) = zgi b o cs rs ns kb ks to n i) (q1 : (decide (i < (ks.length : Int)) = true) → (g23 = true) → ((0 ≤ i ∧ i < (ks.length : Int)) ∧ ks[i.toNat]? = some (B g23)) ∧ (0 ≤ i ∧ i < (to.length : Int)) ∧ (to[i.toNat]? = some (I x100029)) ∧ (∀ s : St, s.norm ((zac cfg kk 122 Go.Proofs.Tryd.f122).live (zaa (lp Go.Proofs.Tryd.f122 4))) = Nm [1, 2, 4, 5, 6, 18, 19, 20] [D.dat (Dat.lst kb ks), D.ptr (Ref.loc 2) 0, D.ptr (Ref.loc 4) 0, D.own 3 (to.set i.toNat (I n)), D.dat (I (w64 (n + 1))), D.dat (Dat.lst kb ks), D.dat (I (ks.length : Int)), D.dat (I (w64 (i + 1)))] [none, some [D.dat (I o), D.dat (Dat.lst b cs), D.dat (Dat.lst b rs), D.dat (Dat.lst b ns)], some [D.dat (I 0), D.own 97 [], D.own 3 [], D.own 3 []], none, none, none, none, none] [] [] → zae (zac cfg kk 122 Go.Proofs.Tryd.f122) kk (lp Go.Proofs.Tryd.f122 4) m s K)) (q2 : (decide (i < (ks.length : Int)) = true) → (g23 = false) → ((0 ≤ i ∧ i < (ks.length : Int)) ∧ ks[i.toNat]? = some (B g23)) ∧ (∀ s : St, s.norm ((zac cfg kk 122 Go.Proofs.Tryd.f122).live (zaa (lp Go.Proofs.Tryd.f122 4))) = Nm [1, 2, 4, 5, 6, 18, 19, 20] [D.dat (Dat.lst kb ks), D.ptr (Ref.loc 2) 0, D.ptr (Ref.loc 4) 0, D.own 3 to, D.dat (I n), D.dat (Dat.lst kb ks), D.dat (I (ks.length : Int)), D.dat (I (w64 (i + 1)))] [none, some [D.dat (I o), D.dat (Dat.lst b cs), D.dat (Dat.lst b rs), D.dat (Dat.lst b ns)], some [D.dat (I 0), D.own 97 [], D.own 3 [], D.own 3 []], none, none, none, none, none] [] [] → zae (zac cfg kk 122 Go.Proofs.Tryd.f122) kk (lp Go.Proofs.Tryd.f122 4) m s K)) (q3 : (decide (i < (ks.length : Int)) = false) → K (X.exit 0) (Nm [1, 2, 4, 5, 6] [D.dat (Dat.lst kb ks), D.ptr (Ref.loc 2) 0, D.ptr (Ref.loc 4) 0, D.own 3 to, D.dat (I n)] [none, some [D.dat (I o), D.dat (Dat.lst b cs), D.dat (Dat.lst b rs), D.dat (Dat.lst b ns)], some [D.dat (I 0), D.own 97 [], D.own 3 [], D.own 3 []], none, none] [] [])) : zae (zac cfg kk 122 Go.Proofs.Tryd.f122) kk (lp Go.Proofs.Tryd.f122 4) (m + 1) s K := by
 rcases Bool.eq_false_or_eq_true (decide (i < (ks.length : Int))) with d1 | d1
 · rcases Bool.eq_false_or_eq_true (g23) with d3 | d3
   · obtain ⟨hz1, hz2, hz3, oz⟩ := q1 d1 d3
     exact zag [(23, .at (B g23)), (29, .ok), (100029, .at (I x100029)), (200021, .yes), (200025, .yes)] hs (by kernel_rfl) (ob d1 (ob hz1 (ob d3 (ob hz2 (ob hz3 ob0))))) (by kernel_rfl) oz
   · obtain ⟨hz1, oz⟩ := q2 d1 d3
     exact zag [(23, .at (B g23)), (29, .ok), (100029, .at (I x100029)), (200021, .yes), (200025, .no)] hs (by kernel_rfl) (ob d1 (ob hz1 (ob d3 ob0))) (by kernel_rfl) oz
 · have oz := q3 d1
   exact zam [(23, .at (B g23)), (29, .ok), (100029, .at (I x100029)), (200021, .no)] hs (by kernel_rfl) rfl (ob d1 ob0) (by kernel_rfl) oz
def zgK (b : Bool) (o : Int) (cs rs ns : List Dat) (kb : Bool) (ks : List Dat) (to : List Dat) (n : Int) (acc : List Dat) (i : Int) : St := Nm [1, 2, 4, 5, 9, 36, 37, 38] [.dat (.lst kb ks), .ptr (.loc 2) 0, .ptr (.loc 4) 0, .own 3 to, .ptr (.loc 9) 0, .dat (.lst b cs), .dat (I cs.length), .dat (I i)] [none, Yb b o cs rs ns, some (Yo 0 [] [] []), none, some (Yo n acc [] []), none, none, none] [] []
theorem zg8 (kk m : Nat) {s : St} {K : X → St → Prop} (b : Bool) (o : Int) (cs rs ns : List Dat) (kb : Bool) (ks : List Dat) (to : List Dat) (n : Int) (acc : List Dat) (i : Int) (c41 : Cl) (g45 : Bool) (x55 : Int) (x61 : Int) (hs : s.norm ((zac cfg kk 122 Go.Proofs.Tryd.f122).live (zaa (lp Go.Proofs.Tryd.f122 12))) = zgK b o cs rs ns kb ks to n acc i) (q1 : (decide (i < (cs.length : Int)) = true) → ((!g45) = true) → ((0 ≤ i ∧ i < (cs.length : Int)) ∧ cs[i.toNat]? = some (Dat.agg [B c41.l, I c41.n, I c41.a, I c41.b])) ∧ ((0 ≤ i ∧ i < (ks.length : Int)) ∧ ks[i.toNat]? = some (B g45)) ∧ (∀ s : St, s.norm ((zac cfg kk 122 Go.Proofs.Tryd.f122).live (zaa (lp Go.Proofs.Tryd.f122 12))) = Nm [1, 2, 4, 5, 9, 36, 37, 38] [D.dat (Dat.lst kb ks), D.ptr (Ref.loc 2) 0, D.ptr (Ref.loc 4) 0, D.own 3 to, D.ptr (Ref.loc 9) 0, D.dat (Dat.lst b cs), D.dat (I (cs.length : Int)), D.dat (I (w64 (i + 1)))] [none, some [D.dat (I o), D.dat (Dat.lst b cs), D.dat (Dat.lst b rs), D.dat (Dat.lst b ns)], some [D.dat (I 0), D.own 97 [], D.own 3 [], D.own 3 []], none, some [D.dat (I n), D.own 97 acc, D.own 3 [], D.own 3 []], none, none, none] [] [] → zae (zac cfg kk 122 Go.Proofs.Tryd.f122) kk (lp Go.Proofs.Tryd.f122 12) m s K)) (q2 : (decide (i < (cs.length : Int)) = true) → ((!g45) = false) → ((!c41.l) = true) → ((0 ≤ i ∧ i < (cs.length : Int)) ∧ cs[i.toNat]? = some (Dat.agg [B c41.l, I c41.n, I c41.a, I c41.b])) ∧ ((0 ≤ i ∧ i < (ks.length : Int)) ∧ ks[i.toNat]? = some (B g45)) ∧ (0 ≤ c41.a ∧ c41.a < (to.length : Int)) ∧ (to[c41.a.toNat]? = some (I x55)) ∧ (0 ≤ c41.b ∧ c41.b < (to.length : Int)) ∧ (to[c41.b.toNat]? = some (I x61)) ∧ (acc.length + 1 ≤ 2147483648) ∧ (∀ s : St, s.norm ((zac cfg kk 122 Go.Proofs.Tryd.f122).live (zaa (lp Go.Proofs.Tryd.f122 12))) = Nm [1, 2, 4, 5, 9, 36, 37, 38] [D.dat (Dat.lst kb ks), D.ptr (Ref.loc 2) 0, D.ptr (Ref.loc 4) 0, D.own 3 to, D.ptr (Ref.loc 9) 0, D.dat (Dat.lst b cs), D.dat (I (cs.length : Int)), D.dat (I (w64 (i + 1)))] [none, some [D.dat (I o), D.dat (Dat.lst b cs), D.dat (Dat.lst b rs), D.dat (Dat.lst b ns)], some [D.dat (I 0), D.own 97 [], D.own 3 [], D.own 3 []], none, some [D.dat (I n), D.own 97 (acc ++ [Dat.agg [B c41.l, I c41.n, I x55, I x61]]), D.own 3 [], D.own 3 []], none, none, none] [] [] → zae (zac cfg kk 122 Go.Proofs.Tryd.f122) kk (lp Go.Proofs.Tryd.f122 12) m s K)) (q3 : (decide (i < (cs.length : Int)) = true) → ((!g45) = false) → ((!c41.l) = false) → ((0 ≤ i ∧ i < (cs.length : Int)) ∧ cs[i.toNat]? = some (Dat.agg [B c41.l, I c41.n, I c41.a, I c41.b])) ∧ ((0 ≤ i ∧ i < (ks.length : Int)) ∧ ks[i.toNat]? = some (B g45)) ∧ (acc.length + 1 ≤ 2147483648) ∧ (∀ s : St, s.norm ((zac cfg kk 122 Go.Proofs.Tryd.f122).live (zaa (lp Go.Proofs.Tryd.f122 12))) = Nm [1, 2, 4, 5, 9, 36, 37, 38] [D.dat (Dat.lst kb ks), D.ptr (Ref.loc 2) 0, D.ptr (Ref.loc 4) 0, D.own 3 to, D.ptr (Ref.loc 9) 0, D.dat (Dat.lst b cs), D.dat (I (cs.length : Int)), D.dat (I (w64 (i + 1)))] [none, some [D.dat (I o), D.dat (Dat.lst b cs), D.dat (Dat.lst b rs), D.dat (Dat.lst b ns)], some [D.dat (I 0), D.own 97 [], D.own 3 [], D.own 3 []], none, some [D.dat (I n), D.own 97 (acc ++ [Dat.agg [B c41.l, I c41.n, I c41.a, I c41.b]]), D.own 3 [], D.own 3 []], none, none, none] [] [] → zae (zac cfg kk 122 Go.Proofs.Tryd.f122) kk (lp Go.Proofs.Tryd.f122 12) m s K)) (q4 : (decide (i < (cs.length : Int)) = false) → K (X.exit 2) (Nm [2, 4, 5, 9] [D.ptr (Ref.loc 2) 0, D.ptr (Ref.loc 4) 0, D.own 3 to, D.ptr (Ref.loc 9) 0] [some [D.dat (I o), D.dat (Dat.lst b cs), D.dat (Dat.lst b rs), D.dat (Dat.lst b ns)], some [D.dat (I 0), D.own 97 [], D.own 3 [], D.own 3 []], none, some [D.dat (I n), D.own 97 acc, D.own 3 [], D.own 3 []]] [] [])) : zae (zac cfg kk 122 Go.Proofs.Tryd.f122) kk (lp Go.Proofs.Tryd.f122 12) (m + 1) s K := by
 rcases Bool.eq_false_or_eq_true (decide (i < (cs.length : Int))) with d1 | d1
 · rcases Bool.eq_false_or_eq_true ((!g45)) with d4 | d4
   · obtain ⟨hz1, hz2, oz⟩ := q1 d1 d4
     exact zag [(41, .at (c41.d)), (45, .at (B g45)), (67, .ok), (54, .ok), (55, .at (I x55)), (60, .ok), (61, .at (I x61)), (200039, .yes), (200047, .yes)] hs (by kernel_rfl) (ob d1 (ob hz1 (ob hz2 (ob d4 ob0)))) (by kernel_rfl) oz
   · rcases Bool.eq_false_or_eq_true ((!c41.l)) with d5 | d5
     · obtain ⟨hz1, hz2, hz3, hz4, hz5, hz6, hz7, oz⟩ := q2 d1 d4 d5
       exact zag [(41, .at (c41.d)), (45, .at (B g45)), (67, .ok), (54, .ok), (55, .at (I x55)), (60, .ok), (61, .at (I x61)), (200039, .yes), (200047, .no), (200050, .yes)] hs (by kernel_rfl) (ob d1 (ob hz1 (ob hz2 (ob d4 (ob d5 (ob hz3 (ob hz4 (ob hz5 (ob hz6 (ob (obT hz7) ob0)))))))))) (by kernel_rfl) oz
     · obtain ⟨hz1, hz2, hz3, oz⟩ := q3 d1 d4 d5
       exact zag [(41, .at (c41.d)), (45, .at (B g45)), (67, .ok), (54, .ok), (55, .at (I x55)), (60, .ok), (61, .at (I x61)), (200039, .yes), (200047, .no), (200050, .no)] hs (by kernel_rfl) (ob d1 (ob hz1 (ob hz2 (ob d4 (ob d5 (ob (obT hz3) ob0)))))) (by kernel_rfl) oz
 · have oz := q4 d1
   exact zam [(41, .at (c41.d)), (45, .at (B g45)), (67, .ok), (54, .ok), (55, .at (I x55)), (60, .ok), (61, .at (I x61)), (200039, .no)] hs (by kernel_rfl) rfl (ob d1 ob0) (by kernel_rfl) oz
def zgB (b : Bool) (o : Int) (cs rs ns : List Dat) (to : List Dat) (n : Int) (acc qs : List Dat) (i : Int) : St := Nm [4, 5, 9, 71, 72, 73] [.ptr (.loc 4) 0, .own 3 to, .ptr (.loc 9) 0, .dat (.lst b rs), .dat (I rs.length), .dat (I i)] [some (Yo 0 [] [] []), none, some (Yo n acc qs []), none, none, none] [] []
theorem zlo (kk m : Nat) {s : St} {K : X → St → Prop} (b : Bool) (o : Int) (cs rs ns : List Dat) (to : List Dat) (n : Int) (acc qs : List Dat) (i : Int) (x75 : Int) (x82 : Int) (hs : s.norm ((zac cfg kk 122 Go.Proofs.Tryd.f122).live (zaa (lp Go.Proofs.Tryd.f122 21))) = zgB b o cs rs ns to n acc qs i) (q1 : (decide (i < (rs.length : Int)) = true) → ((0 ≤ i ∧ i < (rs.length : Int)) ∧ rs[i.toNat]? = some (I x75)) ∧ (0 ≤ x75 ∧ x75 < (to.length : Int)) ∧ (to[x75.toNat]? = some (I x82)) ∧ (qs.length + 1 ≤ 2147483648) ∧ (∀ s : St, s.norm ((zac cfg kk 122 Go.Proofs.Tryd.f122).live (zaa (lp Go.Proofs.Tryd.f122 21))) = Nm [4, 5, 9, 71, 72, 73] [D.ptr (Ref.loc 4) 0, D.own 3 to, D.ptr (Ref.loc 9) 0, D.dat (Dat.lst b rs), D.dat (I (rs.length : Int)), D.dat (I (w64 (i + 1)))] [some [D.dat (I 0), D.own 97 [], D.own 3 [], D.own 3 []], none, some [D.dat (I n), D.own 97 acc, D.own 3 (qs ++ [I x82]), D.own 3 []], none, none, none] [] [] → zae (zac cfg kk 122 Go.Proofs.Tryd.f122) kk (lp Go.Proofs.Tryd.f122 21) m s K)) (q2 : (decide (i < (rs.length : Int)) = false) → K (X.exit 4) (Nm [4, 9] [D.ptr (Ref.loc 4) 0, D.ptr (Ref.loc 9) 0] [some [D.dat (I 0), D.own 97 [], D.own 3 [], D.own 3 []], some [D.dat (I n), D.own 97 acc, D.own 3 qs, D.own 3 []]] [] [])) : zae (zac cfg kk 122 Go.Proofs.Tryd.f122) kk (lp Go.Proofs.Tryd.f122 21) (m + 1) s K := by
 rcases Bool.eq_false_or_eq_true (decide (i < (rs.length : Int))) with d1 | d1
 · obtain ⟨hz1, hz2, hz3, hz4, oz⟩ := q1 d1
   exact zag [(75, .at (I x75)), (81, .ok), (82, .at (I x82)), (84, .ok), (200074, .yes)] hs (by kernel_rfl) (ob d1 (ob hz1 (ob hz2 (ob hz3 (ob (obT hz4) ob0))))) (by kernel_rfl) oz
 · have oz := q2 d1
   exact zam [(75, .at (I x75)), (81, .ok), (82, .at (I x82)), (84, .ok), (200074, .no)] hs (by kernel_rfl) rfl (ob d1 ob0) (by kernel_rfl) oz
theorem moveS (kk : Nat) (b : Bool) (o : Int) (cs rs ns : List Dat) (kb : Bool) (ks : List Dat) (to : List Dat) (n : Int) (acc qs : List Dat) {r : Res} (q1 : (0 ≤ (cs.length : Int) ∧ (cs.length : Int) ≤ (cs.length : Int) ∧ (cs.length : Int) ≤ 2147483648) ∧ (zap cfg kk 122 Go.Proofs.Tryd.f122 4 (zgi b o cs rs ns kb ks (List.replicate cs.length (I 0)) 0 0) (X.exit 0) (Nm [1, 2, 4, 5, 6] [D.dat (Dat.lst kb ks), D.ptr (Ref.loc 2) 0, D.ptr (Ref.loc 4) 0, D.own 3 to, D.dat (I n)] [none, some [D.dat (I o), D.dat (Dat.lst b cs), D.dat (Dat.lst b rs), D.dat (Dat.lst b ns)], some [D.dat (I 0), D.own 97 [], D.own 3 [], D.own 3 []], none, none] [] [])) ∧ (zap cfg kk 122 Go.Proofs.Tryd.f122 12 (zgK b o cs rs ns kb ks to n [] 0) (X.exit 2) (Nm [2, 4, 5, 9] [D.ptr (Ref.loc 2) 0, D.ptr (Ref.loc 4) 0, D.own 3 to, D.ptr (Ref.loc 9) 0] [some [D.dat (I o), D.dat (Dat.lst b cs), D.dat (Dat.lst b rs), D.dat (Dat.lst b ns)], some [D.dat (I 0), D.own 97 [], D.own 3 [], D.own 3 []], none, some [D.dat (I n), D.own 97 acc, D.own 3 [], D.own 3 []]] [] [])) ∧ (zap cfg kk 122 Go.Proofs.Tryd.f122 21 (zgB b o cs rs ns to n acc [] 0) (X.exit 4) (Nm [4, 9] [D.ptr (Ref.loc 4) 0, D.ptr (Ref.loc 9) 0] [some [D.dat (I 0), D.own 97 [], D.own 3 [], D.own 3 []], some [D.dat (I n), D.own 97 acc, D.own 3 qs, D.own 3 []]] [] [])) ∧ r = ([D.seq false [D.dat (I n), D.own 97 acc, D.own 3 qs, D.own 3 []]], [], [])) : zak cfg kk (den cfg kk) 122 Go.Proofs.Tryd.f122 [.dat (Yd b o cs rs ns), .dat (Dat.lst kb ks)] [] [] = some r := by
 obtain ⟨hz1, hz2, hz3, hz4, oz⟩ := q1
 subst oz; exact zab [(300004, .loop (zgi b o cs rs ns kb ks (List.replicate cs.length (I 0)) 0 0) (.exit 0) (Nm [1, 2, 4, 5, 6] [.dat (.lst kb ks), .ptr (.loc 2) 0, .ptr (.loc 4) 0, .own 3 to, .dat (I n)] [none, Yb b o cs rs ns, some (Yo 0 [] [] []), none, none] [] [])), (300012, .loop (zgK b o cs rs ns kb ks to n [] 0) (.exit 2) (Nm [2, 4, 5, 9] [.ptr (.loc 2) 0, .ptr (.loc 4) 0, .own 3 to, .ptr (.loc 9) 0] [Yb b o cs rs ns, some (Yo 0 [] [] []), none, some (Yo n acc [] [])] [] [])), (300021, .loop (zgB b o cs rs ns to n acc [] 0) (.exit 4) (Nm [4, 9] [.ptr (.loc 4) 0, .ptr (.loc 9) 0] [some (Yo 0 [] [] []), some (Yo n acc qs [])] [] [])), (17, .ok)] (ob hz1 (ob (rfl : _ = zgi b o cs rs ns kb ks (List.replicate cs.length (I 0)) 0 0) (ob hz2 (ob (rfl : _ = zgK b o cs rs ns kb ks to n [] 0) (ob hz3 (ob (rfl : _ = zgB b o cs rs ns to n acc [] 0) (ob hz4 ob0))))))) (by kernel_rfl)
theorem fullS (kk : Nat) (b : Bool) (o : Int) (cs rs ns : List Dat) (ks : List Dat) (o1 : Int) (cs1 rs1 ns1 : List Dat) {r : Res} (q1 : (den cfg kk 123 [D.dat (Dat.agg [I o, Dat.lst b cs, Dat.lst b rs, Dat.lst b ns])] [] [] = some ([D.own 4 ks], [], [])) ∧ (D.cleans [D.seq false [D.dat (I o1), D.own 97 cs1, D.own 3 rs1, D.own 3 ns1]] = true) ∧ (den cfg kk 122 [D.dat (Dat.agg [I o, Dat.lst b cs, Dat.lst b rs, Dat.lst b ns]), D.dat (Dat.lst true ks)] [] [] = some ([D.seq false [D.dat (I o1), D.own 97 cs1, D.own 3 rs1, D.own 3 ns1]], [], [])) ∧ r = ([D.seq false [D.dat (I o1), D.own 97 cs1, D.own 3 rs1, D.own 3 ns1]], [], [])) : zak cfg kk (den cfg kk) 92 Go.Proofs.Tryd.f92 [.dat (Yd b o cs rs ns)] [] [] = some r := by
 obtain ⟨hz1, hz2, hz3, oz⟩ := q1
 subst oz; exact zab [(5, .ret [.own 4 ks]), (6, .ret [.seq false [.dat (I o1), .own 97 cs1, .own 3 rs1, .own 3 ns1]])] (ob hz1 (ob hz2 (ob hz3 ob0))) (by kernel_rfl)
def zlO (b : Bool) (o : Int) (cs rs ns : List Dat) (ks : List Dat) (i : Int) : St := Nm [1, 2, 3, 15, 16, 17] [.ptr (.loc 1) 0, .ptr (.loc 2) 0, .own 4 ks, .dat (.lst b rs), .dat (I rs.length), .dat (I i)] [Yb b o cs rs ns, some (Yo 0 [] [] []), none, none, none, none] [] []
theorem zju (kk m : Nat) {s : St} {K : X → St → Prop} (b : Bool) (o : Int) (cs rs ns : List Dat) (ks : List Dat) (i : Int) (ks1 : List Dat) (x19 : Int) (hs : s.norm ((zac cfg kk 93 Go.Proofs.Tryd.f93).live (zaa (lp Go.Proofs.Tryd.f93 3))) = zlO b o cs rs ns ks i) (q1 : (decide (i < (rs.length : Int)) = true) → ((0 ≤ i ∧ i < (rs.length : Int)) ∧ rs[i.toNat]? = some (I x19)) ∧ (den cfg kk 124 [D.dat (Dat.agg [I o, Dat.lst b cs, Dat.lst b rs, Dat.lst b ns]), D.dat (I x19), D.bor (Pl.lent 0) none, D.dat (B true)] [] [some (4, ks)] = some ([], [], [some (4, ks1)])) ∧ (∀ s : St, s.norm ((zac cfg kk 93 Go.Proofs.Tryd.f93).live (zaa (lp Go.Proofs.Tryd.f93 3))) = Nm [1, 2, 3, 15, 16, 17] [D.ptr (Ref.loc 1) 0, D.ptr (Ref.loc 2) 0, D.own 4 ks1, D.dat (Dat.lst b rs), D.dat (I (rs.length : Int)), D.dat (I (w64 (i + 1)))] [some [D.dat (I o), D.dat (Dat.lst b cs), D.dat (Dat.lst b rs), D.dat (Dat.lst b ns)], some [D.dat (I 0), D.own 97 [], D.own 3 [], D.own 3 []], none, none, none, none] [] [] → zae (zac cfg kk 93 Go.Proofs.Tryd.f93) kk (lp Go.Proofs.Tryd.f93 3) m s K)) (q2 : (decide (i < (rs.length : Int)) = false) → K (X.exit 0) (Nm [1, 2, 3] [D.ptr (Ref.loc 1) 0, D.ptr (Ref.loc 2) 0, D.own 4 ks] [some [D.dat (I o), D.dat (Dat.lst b cs), D.dat (Dat.lst b rs), D.dat (Dat.lst b ns)], some [D.dat (I 0), D.own 97 [], D.own 3 [], D.own 3 []], none] [] [])) : zae (zac cfg kk 93 Go.Proofs.Tryd.f93) kk (lp Go.Proofs.Tryd.f93 3) (m + 1) s K := by
 rcases Bool.eq_false_or_eq_true (decide (i < (rs.length : Int))) with d1 | d1
 · obtain ⟨hz1, hz2, oz⟩ := q1 d1
   exact zag [(24, .back [] [] [some (4, ks1)]), (19, .at (I x19)), (200018, .yes)] hs (by kernel_rfl) (ob d1 (ob hz1 (ob hz2 (ob (rfl : false = false) ob0)))) (by kernel_rfl) oz
 · have oz := q2 d1
   exact zam [(24, .back [] [] [some (4, ks1)]), (19, .at (I x19)), (200018, .no)] hs (by kernel_rfl) rfl (ob d1 ob0) (by kernel_rfl) oz
def zly (b : Bool) (o : Int) (cs rs ns : List Dat) (ks : List Dat) (i : Int) : St := Nm [1, 2, 3, 27, 28, 29] [.ptr (.loc 1) 0, .ptr (.loc 2) 0, .own 4 ks, .dat (.lst b ns), .dat (I ns.length), .dat (I i)] [Yb b o cs rs ns, some (Yo 0 [] [] []), none, none, none, none] [] []
theorem zhj (kk m : Nat) {s : St} {K : X → St → Prop} (b : Bool) (o : Int) (cs rs ns : List Dat) (ks : List Dat) (i : Int) (ks1 ks2 : List Dat) (x31 : Int) (c36 : Cl) (hs : s.norm ((zac cfg kk 93 Go.Proofs.Tryd.f93).live (zaa (lp Go.Proofs.Tryd.f93 8))) = zly b o cs rs ns ks i) (q1 : (decide (i < (ns.length : Int)) = true) → ((!c36.l) = true) → ((0 ≤ i ∧ i < (ns.length : Int)) ∧ ns[i.toNat]? = some (I x31)) ∧ ((0 ≤ x31 ∧ x31 < (cs.length : Int)) ∧ cs[x31.toNat]? = some (Dat.agg [B c36.l, I c36.n, I c36.a, I c36.b])) ∧ (den cfg kk 124 [D.dat (Dat.agg [I o, Dat.lst b cs, Dat.lst b rs, Dat.lst b ns]), D.dat (I c36.a), D.bor (Pl.lent 0) none, D.dat (B true)] [] [some (4, ks)] = some ([], [], [some (4, ks1)])) ∧ (den cfg kk 124 [D.dat (Dat.agg [I o, Dat.lst b cs, Dat.lst b rs, Dat.lst b ns]), D.dat (I c36.b), D.bor (Pl.lent 0) none, D.dat (B true)] [] [some (4, ks1)] = some ([], [], [some (4, ks2)])) ∧ (∀ s : St, s.norm ((zac cfg kk 93 Go.Proofs.Tryd.f93).live (zaa (lp Go.Proofs.Tryd.f93 8))) = Nm [1, 2, 3, 27, 28, 29] [D.ptr (Ref.loc 1) 0, D.ptr (Ref.loc 2) 0, D.own 4 ks2, D.dat (Dat.lst b ns), D.dat (I (ns.length : Int)), D.dat (I (w64 (i + 1)))] [some [D.dat (I o), D.dat (Dat.lst b cs), D.dat (Dat.lst b rs), D.dat (Dat.lst b ns)], some [D.dat (I 0), D.own 97 [], D.own 3 [], D.own 3 []], none, none, none, none] [] [] → zae (zac cfg kk 93 Go.Proofs.Tryd.f93) kk (lp Go.Proofs.Tryd.f93 8) m s K)) (q2 : (decide (i < (ns.length : Int)) = true) → ((!c36.l) = false) → ((0 ≤ i ∧ i < (ns.length : Int)) ∧ ns[i.toNat]? = some (I x31)) ∧ ((0 ≤ x31 ∧ x31 < (cs.length : Int)) ∧ cs[x31.toNat]? = some (Dat.agg [B c36.l, I c36.n, I c36.a, I c36.b])) ∧ (∀ s : St, s.norm ((zac cfg kk 93 Go.Proofs.Tryd.f93).live (zaa (lp Go.Proofs.Tryd.f93 8))) = Nm [1, 2, 3, 27, 28, 29] [D.ptr (Ref.loc 1) 0, D.ptr (Ref.loc 2) 0, D.own 4 ks, D.dat (Dat.lst b ns), D.dat (I (ns.length : Int)), D.dat (I (w64 (i + 1)))] [some [D.dat (I o), D.dat (Dat.lst b cs), D.dat (Dat.lst b rs), D.dat (Dat.lst b ns)], some [D.dat (I 0), D.own 97 [], D.own 3 [], D.own 3 []], none, none, none, none] [] [] → zae (zac cfg kk 93 Go.Proofs.Tryd.f93) kk (lp Go.Proofs.Tryd.f93 8) m s K)) (q3 : (decide (i < (ns.length : Int)) = false) → K (X.exit 2) (Nm [1, 2, 3] [D.ptr (Ref.loc 1) 0, D.ptr (Ref.loc 2) 0, D.own 4 ks] [some [D.dat (I o), D.dat (Dat.lst b cs), D.dat (Dat.lst b rs), D.dat (Dat.lst b ns)], some [D.dat (I 0), D.own 97 [], D.own 3 [], D.own 3 []], none] [] [])) : zae (zac cfg kk 93 Go.Proofs.Tryd.f93) kk (lp Go.Proofs.Tryd.f93 8) (m + 1) s K := by
 rcases Bool.eq_false_or_eq_true (decide (i < (ns.length : Int))) with d1 | d1
 · rcases Bool.eq_false_or_eq_true ((!c36.l)) with d4 | d4
   · obtain ⟨hz1, hz2, hz3, hz4, oz⟩ := q1 d1 d4
     exact zag [(45, .back [] [] [some (4, ks1)]), (50, .back [] [] [some (4, ks2)]), (31, .at (I x31)), (36, .at (c36.d)), (200030, .yes), (200040, .yes)] hs (by kernel_rfl) (ob d1 (ob hz1 (ob hz2 (ob d4 (ob hz3 (ob (rfl : false = false) (ob hz4 (ob (rfl : false = false) ob0)))))))) (by kernel_rfl) oz
   · obtain ⟨hz1, hz2, oz⟩ := q2 d1 d4
     exact zag [(45, .back [] [] [some (4, ks1)]), (50, .back [] [] [some (4, ks2)]), (31, .at (I x31)), (36, .at (c36.d)), (200030, .yes), (200040, .no)] hs (by kernel_rfl) (ob d1 (ob hz1 (ob hz2 (ob d4 ob0)))) (by kernel_rfl) oz
 · have oz := q3 d1
   exact zam [(45, .back [] [] [some (4, ks1)]), (50, .back [] [] [some (4, ks2)]), (31, .at (I x31)), (36, .at (c36.d)), (200030, .no)] hs (by kernel_rfl) rfl (ob d1 ob0) (by kernel_rfl) oz
def zlg (b : Bool) (o : Int) (cs rs ns : List Dat) (ks : List Dat) (i : Int) : St := Nm [1, 2, 3, 9] [.ptr (.loc 1) 0, .ptr (.loc 2) 0, .own 4 ks, .dat (I i)] [Yb b o cs rs ns, some (Yo 0 [] [] []), none, none] [] []
theorem zjZ (kk m : Nat) {s : St} {K : X → St → Prop} (b : Bool) (o : Int) (cs rs ns : List Dat) (ks : List Dat) (i : Int) (g100060 : Bool) (hs : s.norm ((zac cfg kk 93 Go.Proofs.Tryd.f93).live (zaa (lp Go.Proofs.Tryd.f93 16))) = zlg b o cs rs ns ks i) (q1 : (decide (i < o) = true) → (0 ≤ i ∧ i < (ks.length : Int)) ∧ (ks[i.toNat]? = some (B g100060)) ∧ (∀ s : St, s.norm ((zac cfg kk 93 Go.Proofs.Tryd.f93).live (zaa (lp Go.Proofs.Tryd.f93 16))) = Nm [1, 2, 3, 9] [D.ptr (Ref.loc 1) 0, D.ptr (Ref.loc 2) 0, D.own 4 (ks.set i.toNat (B true)), D.dat (I (w64 (i + 1)))] [some [D.dat (I o), D.dat (Dat.lst b cs), D.dat (Dat.lst b rs), D.dat (Dat.lst b ns)], some [D.dat (I 0), D.own 97 [], D.own 3 [], D.own 3 []], none, none] [] [] → zae (zac cfg kk 93 Go.Proofs.Tryd.f93) kk (lp Go.Proofs.Tryd.f93 16) m s K)) (q2 : (decide (i < o) = false) → K (X.exit 4) (Nm [1, 2, 3] [D.ptr (Ref.loc 1) 0, D.ptr (Ref.loc 2) 0, D.own 4 ks] [some [D.dat (I o), D.dat (Dat.lst b cs), D.dat (Dat.lst b rs), D.dat (Dat.lst b ns)], some [D.dat (I 0), D.own 97 [], D.own 3 [], D.own 3 []], none] [] [])) : zae (zac cfg kk 93 Go.Proofs.Tryd.f93) kk (lp Go.Proofs.Tryd.f93 16) (m + 1) s K := by
 rcases Bool.eq_false_or_eq_true (decide (i < o)) with d1 | d1
 · obtain ⟨hz1, hz2, oz⟩ := q1 d1
   exact zag [(60, .ok), (100060, .at (B g100060)), (200055, .yes)] hs (by kernel_rfl) (ob d1 (ob hz1 (ob hz2 ob0))) (by kernel_rfl) oz
 · have oz := q2 d1
   exact zam [(60, .ok), (100060, .at (B g100060)), (200055, .no)] hs (by kernel_rfl) rfl (ob d1 ob0) (by kernel_rfl) oz
theorem zp5 (kk : Nat) (b : Bool) (o : Int) (cs rs ns : List Dat) (ka kb_ kc : List Dat) (o1 : Int) (cs1 rs1 ns1 : List Dat) {r : Res} (q1 : (0 ≤ (cs.length : Int) ∧ (cs.length : Int) ≤ (cs.length : Int) ∧ (cs.length : Int) ≤ 2147483648) ∧ (zap cfg kk 93 Go.Proofs.Tryd.f93 3 (zlO b o cs rs ns (List.replicate cs.length (B false)) 0) (X.exit 0) (Nm [1, 2, 3] [D.ptr (Ref.loc 1) 0, D.ptr (Ref.loc 2) 0, D.own 4 ka] [some [D.dat (I o), D.dat (Dat.lst b cs), D.dat (Dat.lst b rs), D.dat (Dat.lst b ns)], some [D.dat (I 0), D.own 97 [], D.own 3 [], D.own 3 []], none] [] [])) ∧ (zap cfg kk 93 Go.Proofs.Tryd.f93 8 (zly b o cs rs ns ka 0) (X.exit 2) (Nm [1, 2, 3] [D.ptr (Ref.loc 1) 0, D.ptr (Ref.loc 2) 0, D.own 4 kb_] [some [D.dat (I o), D.dat (Dat.lst b cs), D.dat (Dat.lst b rs), D.dat (Dat.lst b ns)], some [D.dat (I 0), D.own 97 [], D.own 3 [], D.own 3 []], none] [] [])) ∧ (zap cfg kk 93 Go.Proofs.Tryd.f93 16 (zlg b o cs rs ns kb_ 0) (X.exit 4) (Nm [1, 2, 3] [D.ptr (Ref.loc 1) 0, D.ptr (Ref.loc 2) 0, D.own 4 kc] [some [D.dat (I o), D.dat (Dat.lst b cs), D.dat (Dat.lst b rs), D.dat (Dat.lst b ns)], some [D.dat (I 0), D.own 97 [], D.own 3 [], D.own 3 []], none] [] [])) ∧ (D.cleans [D.seq false [D.dat (I o1), D.own 97 cs1, D.own 3 rs1, D.own 3 ns1]] = true) ∧ (den cfg kk 122 [D.dat (Dat.agg [I o, Dat.lst b cs, Dat.lst b rs, Dat.lst b ns]), D.dat (Dat.lst true kc)] [] [] = some ([D.seq false [D.dat (I o1), D.own 97 cs1, D.own 3 rs1, D.own 3 ns1]], [], [])) ∧ r = ([D.seq false [D.dat (I o1), D.own 97 cs1, D.own 3 rs1, D.own 3 ns1]], [], [])) : zak cfg kk (den cfg kk) 93 Go.Proofs.Tryd.f93 [.dat (Yd b o cs rs ns)] [] [] = some r := by
 obtain ⟨hz1, hz2, hz3, hz4, hz5, hz6, oz⟩ := q1
 subst oz; exact zab [(300003, .loop (zlO b o cs rs ns (List.replicate cs.length (B false)) 0) (.exit 0) (Nm [1, 2, 3] [.ptr (.loc 1) 0, .ptr (.loc 2) 0, .own 4 ka] [Yb b o cs rs ns, some (Yo 0 [] [] []), none] [] [])), (300008, .loop (zly b o cs rs ns ka 0) (.exit 2) (Nm [1, 2, 3] [.ptr (.loc 1) 0, .ptr (.loc 2) 0, .own 4 kb_] [Yb b o cs rs ns, some (Yo 0 [] [] []), none] [] [])), (300016, .loop (zlg b o cs rs ns kb_ 0) (.exit 4) (Nm [1, 2, 3] [.ptr (.loc 1) 0, .ptr (.loc 2) 0, .own 4 kc] [Yb b o cs rs ns, some (Yo 0 [] [] []), none] [] [])), (63, .ret [.seq false [.dat (I o1), .own 97 cs1, .own 3 rs1, .own 3 ns1]]), (13, .ok)] (ob hz1 (ob (rfl : _ = zlO b o cs rs ns (List.replicate cs.length (B false)) 0) (ob hz2 (ob (rfl : _ = zly b o cs rs ns ka 0) (ob hz3 (ob (rfl : _ = zlg b o cs rs ns kb_ 0) (ob hz4 (ob hz5 (ob hz6 ob0))))))))) (by kernel_rfl)
def zjd (b : Bool) (cs out opn : List Dat) : St := Nm [0, 2, 7, 8] [.dat (.lst b cs), .fn 63 [], .own 4 out, .own 3 opn] [none, none, none, none] [] []
theorem zeP (kk m : Nat) {s : St} {K : X → St → Prop} (b : Bool) (cs out opn : List Dat) (g47 : Bool) (x24 : Int) (g33 : Bool) (g100036 : Bool) (c39 : Cl) (hs : s.norm ((zac cfg kk 62 Go.Proofs.Tryd.f62).live (zaa (lp Go.Proofs.Tryd.f62 2))) = zjd b cs out opn) (q1 : (decide (0 < (opn.length : Int)) = true) → (g33 = true) → (0 ≤ w64 ((opn.length : Int) - 1) ∧ w64 ((opn.length : Int) - 1) < (opn.length : Int)) ∧ (opn[(w64 ((opn.length : Int) - 1)).toNat]? = some (I x24)) ∧ (0 ≤ w64 ((opn.length : Int) - 1) ∧ w64 ((opn.length : Int) - 1) ≤ (opn.length : Int)) ∧ (0 ≤ x24 ∧ x24 < (out.length : Int)) ∧ (out[x24.toNat]? = some (B g33)) ∧ (∀ s : St, s.norm ((zac cfg kk 62 Go.Proofs.Tryd.f62).live (zaa (lp Go.Proofs.Tryd.f62 2))) = Nm [0, 2, 7, 8] [D.dat (Dat.lst b cs), D.fn 63 [], D.own 4 out, D.own 3 (List.take (w64 ((opn.length : Int) - 1)).toNat opn)] [none, none, none, none] [] [] → zae (zac cfg kk 62 Go.Proofs.Tryd.f62) kk (lp Go.Proofs.Tryd.f62 2) m s K)) (q2 : (decide (0 < (opn.length : Int)) = true) → (g33 = false) → ((!c39.l) = true) → (g47 = true) → (0 ≤ w64 ((opn.length : Int) - 1) ∧ w64 ((opn.length : Int) - 1) < (opn.length : Int)) ∧ (opn[(w64 ((opn.length : Int) - 1)).toNat]? = some (I x24)) ∧ (0 ≤ w64 ((opn.length : Int) - 1) ∧ w64 ((opn.length : Int) - 1) ≤ (opn.length : Int)) ∧ (0 ≤ x24 ∧ x24 < (out.length : Int)) ∧ (out[x24.toNat]? = some (B g33)) ∧ (0 ≤ x24 ∧ x24 < (out.length : Int)) ∧ (out[x24.toNat]? = some (B g100036)) ∧ ((0 ≤ x24 ∧ x24 < (cs.length : Int)) ∧ cs[x24.toNat]? = some (Dat.agg [B c39.l, I c39.n, I c39.a, I c39.b])) ∧ (den cfg kk 63 [D.dat (I x24)] [] [] = some ([D.dat (B g47)], [], [])) ∧ ((List.take (w64 ((opn.length : Int) - 1)).toNat opn).length + 2 ≤ 2147483648) ∧ (∀ s : St, s.norm ((zac cfg kk 62 Go.Proofs.Tryd.f62).live (zaa (lp Go.Proofs.Tryd.f62 2))) = Nm [0, 2, 7, 8] [D.dat (Dat.lst b cs), D.fn 63 [], D.own 4 (out.set x24.toNat (B true)), D.own 3 (List.take (w64 ((opn.length : Int) - 1)).toNat opn ++ [I c39.a, I c39.b])] [none, none, none, none] [] [] → zae (zac cfg kk 62 Go.Proofs.Tryd.f62) kk (lp Go.Proofs.Tryd.f62 2) m s K)) (q3 : (decide (0 < (opn.length : Int)) = true) → (g33 = false) → ((!c39.l) = true) → (g47 = false) → (0 ≤ w64 ((opn.length : Int) - 1) ∧ w64 ((opn.length : Int) - 1) < (opn.length : Int)) ∧ (opn[(w64 ((opn.length : Int) - 1)).toNat]? = some (I x24)) ∧ (0 ≤ w64 ((opn.length : Int) - 1) ∧ w64 ((opn.length : Int) - 1) ≤ (opn.length : Int)) ∧ (0 ≤ x24 ∧ x24 < (out.length : Int)) ∧ (out[x24.toNat]? = some (B g33)) ∧ (0 ≤ x24 ∧ x24 < (out.length : Int)) ∧ (out[x24.toNat]? = some (B g100036)) ∧ ((0 ≤ x24 ∧ x24 < (cs.length : Int)) ∧ cs[x24.toNat]? = some (Dat.agg [B c39.l, I c39.n, I c39.a, I c39.b])) ∧ (den cfg kk 63 [D.dat (I x24)] [] [] = some ([D.dat (B g47)], [], [])) ∧ (∀ s : St, s.norm ((zac cfg kk 62 Go.Proofs.Tryd.f62).live (zaa (lp Go.Proofs.Tryd.f62 2))) = Nm [0, 2, 7, 8] [D.dat (Dat.lst b cs), D.fn 63 [], D.own 4 (out.set x24.toNat (B true)), D.own 3 (List.take (w64 ((opn.length : Int) - 1)).toNat opn)] [none, none, none, none] [] [] → zae (zac cfg kk 62 Go.Proofs.Tryd.f62) kk (lp Go.Proofs.Tryd.f62 2) m s K)) (q4 : (decide (0 < (opn.length : Int)) = true) → (g33 = false) → ((!c39.l) = false) → (0 ≤ w64 ((opn.length : Int) - 1) ∧ w64 ((opn.length : Int) - 1) < (opn.length : Int)) ∧ (opn[(w64 ((opn.length : Int) - 1)).toNat]? = some (I x24)) ∧ (0 ≤ w64 ((opn.length : Int) - 1) ∧ w64 ((opn.length : Int) - 1) ≤ (opn.length : Int)) ∧ (0 ≤ x24 ∧ x24 < (out.length : Int)) ∧ (out[x24.toNat]? = some (B g33)) ∧ (0 ≤ x24 ∧ x24 < (out.length : Int)) ∧ (out[x24.toNat]? = some (B g100036)) ∧ ((0 ≤ x24 ∧ x24 < (cs.length : Int)) ∧ cs[x24.toNat]? = some (Dat.agg [B c39.l, I c39.n, I c39.a, I c39.b])) ∧ (∀ s : St, s.norm ((zac cfg kk 62 Go.Proofs.Tryd.f62).live (zaa (lp Go.Proofs.Tryd.f62 2))) = Nm [0, 2, 7, 8] [D.dat (Dat.lst b cs), D.fn 63 [], D.own 4 (out.set x24.toNat (B true)), D.own 3 (List.take (w64 ((opn.length : Int) - 1)).toNat opn)] [none, none, none, none] [] [] → zae (zac cfg kk 62 Go.Proofs.Tryd.f62) kk (lp Go.Proofs.Tryd.f62 2) m s K)) (q5 : (decide (0 < (opn.length : Int)) = false) → K (X.exit 0) (Nm [7] [D.own 4 out] [none] [] [])) : zae (zac cfg kk 62 Go.Proofs.Tryd.f62) kk (lp Go.Proofs.Tryd.f62 2) (m + 1) s K := by
 rcases Bool.eq_false_or_eq_true (decide (0 < (opn.length : Int))) with d1 | d1
 · rcases Bool.eq_false_or_eq_true (g33) with d7 | d7
   · obtain ⟨hz1, hz2, hz3, hz4, hz5, oz⟩ := q1 d1 d7
     exact zag [(47, .ret [.dat (B g47)]), (23, .ok), (24, .at (I x24)), (29, .ok), (32, .ok), (33, .at (B g33)), (36, .ok), (100036, .at (B g100036)), (39, .at (c39.d)), (55, .ok), (200018, .yes), (200033, .yes)] hs (by kernel_rfl) (ob d1 (ob hz1 (ob hz2 (ob hz3 (ob hz4 (ob hz5 (ob d7 ob0))))))) (by kernel_rfl) oz
   · rcases Bool.eq_false_or_eq_true ((!c39.l)) with d11 | d11
     · rcases Bool.eq_false_or_eq_true (g47) with d15 | d15
       · obtain ⟨hz1, hz2, hz3, hz4, hz5, hz6, hz7, hz8, hz9, hz10, oz⟩ := q2 d1 d7 d11 d15
         exact zag [(47, .ret [.dat (B g47)]), (23, .ok), (24, .at (I x24)), (29, .ok), (32, .ok), (33, .at (B g33)), (36, .ok), (100036, .at (B g100036)), (39, .at (c39.d)), (55, .ok), (200018, .yes), (200033, .no), (200044, .yes), (200048, .yes)] hs (by kernel_rfl) (ob d1 (ob hz1 (ob hz2 (ob hz3 (ob hz4 (ob hz5 (ob d7 (ob hz6 (ob hz7 (ob hz8 (ob d11 (ob (rfl : true = true) (ob (rfl : true = true) (ob hz9 (ob d15 (ob (obT hz10) ob0)))))))))))))))) (by kernel_rfl) oz
       · obtain ⟨hz1, hz2, hz3, hz4, hz5, hz6, hz7, hz8, hz9, oz⟩ := q3 d1 d7 d11 d15
         exact zag [(47, .ret [.dat (B g47)]), (23, .ok), (24, .at (I x24)), (29, .ok), (32, .ok), (33, .at (B g33)), (36, .ok), (100036, .at (B g100036)), (39, .at (c39.d)), (55, .ok), (200018, .yes), (200033, .no), (200044, .yes), (200048, .no)] hs (by kernel_rfl) (ob d1 (ob hz1 (ob hz2 (ob hz3 (ob hz4 (ob hz5 (ob d7 (ob hz6 (ob hz7 (ob hz8 (ob d11 (ob (rfl : true = true) (ob (rfl : true = true) (ob hz9 (ob d15 ob0))))))))))))))) (by kernel_rfl) oz
     · obtain ⟨hz1, hz2, hz3, hz4, hz5, hz6, hz7, hz8, oz⟩ := q4 d1 d7 d11
       exact zag [(47, .ret [.dat (B g47)]), (23, .ok), (24, .at (I x24)), (29, .ok), (32, .ok), (33, .at (B g33)), (36, .ok), (100036, .at (B g100036)), (39, .at (c39.d)), (55, .ok), (200018, .yes), (200033, .no), (200044, .no)] hs (by kernel_rfl) (ob d1 (ob hz1 (ob hz2 (ob hz3 (ob hz4 (ob hz5 (ob d7 (ob hz6 (ob hz7 (ob hz8 (ob d11 (ob (rfl : false = false) (ob (rfl : false = false) ob0))))))))))))) (by kernel_rfl) oz
 · have oz := q5 d1
   exact zam [(47, .ret [.dat (B g47)]), (23, .ok), (24, .at (I x24)), (29, .ok), (32, .ok), (33, .at (B g33)), (36, .ok), (100036, .at (B g100036)), (39, .at (c39.d)), (55, .ok), (200018, .no)] hs (by kernel_rfl) rfl (ob d1 ob0) (by kernel_rfl) oz
theorem zpC (kk : Nat) (b b1 : Bool) (cs fr opn out : List Dat) {r : Res} (q1 : (den cfg kk 82 [D.dat (Dat.lst b1 fr)] [] [] = some ([D.own 3 opn], [], [])) ∧ (0 ≤ (cs.length : Int) ∧ (cs.length : Int) ≤ (cs.length : Int) ∧ (cs.length : Int) ≤ 2147483648) ∧ (zap cfg kk 62 Go.Proofs.Tryd.f62 2 (zjd b cs (List.replicate cs.length (B false)) opn) (X.exit 0) (Nm [7] [D.own 4 out] [none] [] [])) ∧ r = ([D.own 4 out], [], [])) : zak cfg kk (den cfg kk) 62 Go.Proofs.Tryd.f62 [.dat (Dat.lst b cs), .dat (Dat.lst b1 fr), .fn 63 []] [] [] = some r := by
 obtain ⟨hz1, hz2, hz3, oz⟩ := q1
 subst oz; exact zab [(15, .ret [.own 3 opn]), (300002, .loop (zjd b cs (List.replicate cs.length (B false)) opn) (.exit 0) (Nm [7] [.own 4 out] [none] [] [])), (13, .ok)] (ob hz1 (ob hz2 (ob (rfl : _ = zjd b cs (List.replicate cs.length (B false)) opn) (ob hz3 ob0)))) (by kernel_rfl)
def zji (b : Bool) (cs out opn : List Dat) (b2 : Bool) (o : Int) (cs2 rs ns : List Dat) : St := Nm [0, 2, 7, 8] [.dat (.lst b cs), .fn 85 [.up 0], .own 4 out, .own 3 opn] [none, none, none, none] [[.dat (I o), .dat (.lst b2 cs2), .dat (.lst b2 rs), .dat (.lst b2 ns)]] []
theorem zdI (kk m : Nat) {s : St} {K : X → St → Prop} (b : Bool) (cs out opn : List Dat) (b2 : Bool) (o : Int) (cs2 rs ns : List Dat) (g47 : Bool) (x24 : Int) (g33 : Bool) (g100036 : Bool) (c39 : Cl) (hs : s.norm ((zac cfg kk 62 Go.Proofs.Tryd.f62).live (zaa (lp Go.Proofs.Tryd.f62 2))) = zji b cs out opn b2 o cs2 rs ns) (q1 : (decide (0 < (opn.length : Int)) = true) → (g33 = true) → (0 ≤ w64 ((opn.length : Int) - 1) ∧ w64 ((opn.length : Int) - 1) < (opn.length : Int)) ∧ (opn[(w64 ((opn.length : Int) - 1)).toNat]? = some (I x24)) ∧ (0 ≤ w64 ((opn.length : Int) - 1) ∧ w64 ((opn.length : Int) - 1) ≤ (opn.length : Int)) ∧ (0 ≤ x24 ∧ x24 < (out.length : Int)) ∧ (out[x24.toNat]? = some (B g33)) ∧ (∀ s : St, s.norm ((zac cfg kk 62 Go.Proofs.Tryd.f62).live (zaa (lp Go.Proofs.Tryd.f62 2))) = Nm [0, 2, 7, 8] [D.dat (Dat.lst b cs), D.fn 85 [Ref.up 0], D.own 4 out, D.own 3 (List.take (w64 ((opn.length : Int) - 1)).toNat opn)] [none, none, none, none] [[D.dat (I o), D.dat (Dat.lst b2 cs2), D.dat (Dat.lst b2 rs), D.dat (Dat.lst b2 ns)]] [] → zae (zac cfg kk 62 Go.Proofs.Tryd.f62) kk (lp Go.Proofs.Tryd.f62 2) m s K)) (q2 : (decide (0 < (opn.length : Int)) = true) → (g33 = false) → ((!c39.l) = true) → (g47 = true) → (0 ≤ w64 ((opn.length : Int) - 1) ∧ w64 ((opn.length : Int) - 1) < (opn.length : Int)) ∧ (opn[(w64 ((opn.length : Int) - 1)).toNat]? = some (I x24)) ∧ (0 ≤ w64 ((opn.length : Int) - 1) ∧ w64 ((opn.length : Int) - 1) ≤ (opn.length : Int)) ∧ (0 ≤ x24 ∧ x24 < (out.length : Int)) ∧ (out[x24.toNat]? = some (B g33)) ∧ (0 ≤ x24 ∧ x24 < (out.length : Int)) ∧ (out[x24.toNat]? = some (B g100036)) ∧ ((0 ≤ x24 ∧ x24 < (cs.length : Int)) ∧ cs[x24.toNat]? = some (Dat.agg [B c39.l, I c39.n, I c39.a, I c39.b])) ∧ (den cfg kk 85 [D.dat (I x24), D.ptr (Ref.up 0) 0] [[D.dat (I o), D.dat (Dat.lst b2 cs2), D.dat (Dat.lst b2 rs), D.dat (Dat.lst b2 ns)]] [] = some ([D.dat (B g47)], [[D.dat (I o), D.dat (Dat.lst b2 cs2), D.dat (Dat.lst b2 rs), D.dat (Dat.lst b2 ns)]], [])) ∧ ((List.take (w64 ((opn.length : Int) - 1)).toNat opn).length + 2 ≤ 2147483648) ∧ (∀ s : St, s.norm ((zac cfg kk 62 Go.Proofs.Tryd.f62).live (zaa (lp Go.Proofs.Tryd.f62 2))) = Nm [0, 2, 7, 8] [D.dat (Dat.lst b cs), D.fn 85 [Ref.up 0], D.own 4 (out.set x24.toNat (B true)), D.own 3 (List.take (w64 ((opn.length : Int) - 1)).toNat opn ++ [I c39.a, I c39.b])] [none, none, none, none] [[D.dat (I o), D.dat (Dat.lst b2 cs2), D.dat (Dat.lst b2 rs), D.dat (Dat.lst b2 ns)]] [] → zae (zac cfg kk 62 Go.Proofs.Tryd.f62) kk (lp Go.Proofs.Tryd.f62 2) m s K)) (q3 : (decide (0 < (opn.length : Int)) = true) → (g33 = false) → ((!c39.l) = true) → (g47 = false) → (0 ≤ w64 ((opn.length : Int) - 1) ∧ w64 ((opn.length : Int) - 1) < (opn.length : Int)) ∧ (opn[(w64 ((opn.length : Int) - 1)).toNat]? = some (I x24)) ∧ (0 ≤ w64 ((opn.length : Int) - 1) ∧ w64 ((opn.length : Int) - 1) ≤ (opn.length : Int)) ∧ (0 ≤ x24 ∧ x24 < (out.length : Int)) ∧ (out[x24.toNat]? = some (B g33)) ∧ (0 ≤ x24 ∧ x24 < (out.length : Int)) ∧ (out[x24.toNat]? = some (B g100036)) ∧ ((0 ≤ x24 ∧ x24 < (cs.length : Int)) ∧ cs[x24.toNat]? = some (Dat.agg [B c39.l, I c39.n, I c39.a, I c39.b])) ∧ (den cfg kk 85 [D.dat (I x24), D.ptr (Ref.up 0) 0] [[D.dat (I o), D.dat (Dat.lst b2 cs2), D.dat (Dat.lst b2 rs), D.dat (Dat.lst b2 ns)]] [] = some ([D.dat (B g47)], [[D.dat (I o), D.dat (Dat.lst b2 cs2), D.dat (Dat.lst b2 rs), D.dat (Dat.lst b2 ns)]], [])) ∧ (∀ s : St, s.norm ((zac cfg kk 62 Go.Proofs.Tryd.f62).live (zaa (lp Go.Proofs.Tryd.f62 2))) = Nm [0, 2, 7, 8] [D.dat (Dat.lst b cs), D.fn 85 [Ref.up 0], D.own 4 (out.set x24.toNat (B true)), D.own 3 (List.take (w64 ((opn.length : Int) - 1)).toNat opn)] [none, none, none, none] [[D.dat (I o), D.dat (Dat.lst b2 cs2), D.dat (Dat.lst b2 rs), D.dat (Dat.lst b2 ns)]] [] → zae (zac cfg kk 62 Go.Proofs.Tryd.f62) kk (lp Go.Proofs.Tryd.f62 2) m s K)) (q4 : (decide (0 < (opn.length : Int)) = true) → (g33 = false) → ((!c39.l) = false) → (0 ≤ w64 ((opn.length : Int) - 1) ∧ w64 ((opn.length : Int) - 1) < (opn.length : Int)) ∧ (opn[(w64 ((opn.length : Int) - 1)).toNat]? = some (I x24)) ∧ (0 ≤ w64 ((opn.length : Int) - 1) ∧ w64 ((opn.length : Int) - 1) ≤ (opn.length : Int)) ∧ (0 ≤ x24 ∧ x24 < (out.length : Int)) ∧ (out[x24.toNat]? = some (B g33)) ∧ (0 ≤ x24 ∧ x24 < (out.length : Int)) ∧ (out[x24.toNat]? = some (B g100036)) ∧ ((0 ≤ x24 ∧ x24 < (cs.length : Int)) ∧ cs[x24.toNat]? = some (Dat.agg [B c39.l, I c39.n, I c39.a, I c39.b])) ∧ (∀ s : St, s.norm ((zac cfg kk 62 Go.Proofs.Tryd.f62).live (zaa (lp Go.Proofs.Tryd.f62 2))) = Nm [0, 2, 7, 8] [D.dat (Dat.lst b cs), D.fn 85 [Ref.up 0], D.own 4 (out.set x24.toNat (B true)), D.own 3 (List.take (w64 ((opn.length : Int) - 1)).toNat opn)] [none, none, none, none] [[D.dat (I o), D.dat (Dat.lst b2 cs2), D.dat (Dat.lst b2 rs), D.dat (Dat.lst b2 ns)]] [] → zae (zac cfg kk 62 Go.Proofs.Tryd.f62) kk (lp Go.Proofs.Tryd.f62 2) m s K)) (q5 : (decide (0 < (opn.length : Int)) = false) → K (X.exit 0) (Nm [7] [D.own 4 out] [none] [[D.dat (I o), D.dat (Dat.lst b2 cs2), D.dat (Dat.lst b2 rs), D.dat (Dat.lst b2 ns)]] [])) : zae (zac cfg kk 62 Go.Proofs.Tryd.f62) kk (lp Go.Proofs.Tryd.f62 2) (m + 1) s K := by
 rcases Bool.eq_false_or_eq_true (decide (0 < (opn.length : Int))) with d1 | d1
 · rcases Bool.eq_false_or_eq_true (g33) with d7 | d7
   · obtain ⟨hz1, hz2, hz3, hz4, hz5, oz⟩ := q1 d1 d7
     exact zag [(47, .back [.dat (B g47)] [[.dat (I o), .dat (.lst b2 cs2), .dat (.lst b2 rs), .dat (.lst b2 ns)]] []), (23, .ok), (24, .at (I x24)), (29, .ok), (32, .ok), (33, .at (B g33)), (36, .ok), (100036, .at (B g100036)), (39, .at (c39.d)), (55, .ok), (200018, .yes), (200033, .yes)] hs (by kernel_rfl) (ob d1 (ob hz1 (ob hz2 (ob hz3 (ob hz4 (ob hz5 (ob d7 ob0))))))) (by kernel_rfl) oz
   · rcases Bool.eq_false_or_eq_true ((!c39.l)) with d11 | d11
     · rcases Bool.eq_false_or_eq_true (g47) with d16 | d16
       · obtain ⟨hz1, hz2, hz3, hz4, hz5, hz6, hz7, hz8, hz9, hz10, oz⟩ := q2 d1 d7 d11 d16
         exact zag [(47, .back [.dat (B g47)] [[.dat (I o), .dat (.lst b2 cs2), .dat (.lst b2 rs), .dat (.lst b2 ns)]] []), (23, .ok), (24, .at (I x24)), (29, .ok), (32, .ok), (33, .at (B g33)), (36, .ok), (100036, .at (B g100036)), (39, .at (c39.d)), (55, .ok), (200018, .yes), (200033, .no), (200044, .yes), (200048, .yes)] hs (by kernel_rfl) (ob d1 (ob hz1 (ob hz2 (ob hz3 (ob hz4 (ob hz5 (ob d7 (ob hz6 (ob hz7 (ob hz8 (ob d11 (ob (rfl : true = true) (ob (rfl : true = true) (ob hz9 (ob (rfl : false = false) (ob d16 (ob (obT hz10) ob0))))))))))))))))) (by kernel_rfl) oz
       · obtain ⟨hz1, hz2, hz3, hz4, hz5, hz6, hz7, hz8, hz9, oz⟩ := q3 d1 d7 d11 d16
         exact zag [(47, .back [.dat (B g47)] [[.dat (I o), .dat (.lst b2 cs2), .dat (.lst b2 rs), .dat (.lst b2 ns)]] []), (23, .ok), (24, .at (I x24)), (29, .ok), (32, .ok), (33, .at (B g33)), (36, .ok), (100036, .at (B g100036)), (39, .at (c39.d)), (55, .ok), (200018, .yes), (200033, .no), (200044, .yes), (200048, .no)] hs (by kernel_rfl) (ob d1 (ob hz1 (ob hz2 (ob hz3 (ob hz4 (ob hz5 (ob d7 (ob hz6 (ob hz7 (ob hz8 (ob d11 (ob (rfl : true = true) (ob (rfl : true = true) (ob hz9 (ob (rfl : false = false) (ob d16 ob0)))))))))))))))) (by kernel_rfl) oz
     · obtain ⟨hz1, hz2, hz3, hz4, hz5, hz6, hz7, hz8, oz⟩ := q4 d1 d7 d11
       exact zag [(47, .back [.dat (B g47)] [[.dat (I o), .dat (.lst b2 cs2), .dat (.lst b2 rs), .dat (.lst b2 ns)]] []), (23, .ok), (24, .at (I x24)), (29, .ok), (32, .ok), (33, .at (B g33)), (36, .ok), (100036, .at (B g100036)), (39, .at (c39.d)), (55, .ok), (200018, .yes), (200033, .no), (200044, .no)] hs (by kernel_rfl) (ob d1 (ob hz1 (ob hz2 (ob hz3 (ob hz4 (ob hz5 (ob d7 (ob hz6 (ob hz7 (ob hz8 (ob d11 (ob (rfl : false = false) (ob (rfl : false = false) ob0))))))))))))) (by kernel_rfl) oz
 · have oz := q5 d1
   exact zam [(47, .back [.dat (B g47)] [[.dat (I o), .dat (.lst b2 cs2), .dat (.lst b2 rs), .dat (.lst b2 ns)]] []), (23, .ok), (24, .at (I x24)), (29, .ok), (32, .ok), (33, .at (B g33)), (36, .ok), (100036, .at (B g100036)), (39, .at (c39.d)), (55, .ok), (200018, .no)] hs (by kernel_rfl) rfl (ob d1 ob0) (by kernel_rfl) oz
theorem zpU (kk : Nat) (b b1 : Bool) (cs fr opn out : List Dat) (b2 : Bool) (o : Int) (cs2 rs ns : List Dat) {r : Res} (q1 : (den cfg kk 82 [D.dat (Dat.lst b1 fr)] [] [] = some ([D.own 3 opn], [], [])) ∧ (0 ≤ (cs.length : Int) ∧ (cs.length : Int) ≤ (cs.length : Int) ∧ (cs.length : Int) ≤ 2147483648) ∧ (zap cfg kk 62 Go.Proofs.Tryd.f62 2 (zji b cs (List.replicate cs.length (B false)) opn b2 o cs2 rs ns) (X.exit 0) (Nm [7] [D.own 4 out] [none] [[D.dat (I o), D.dat (Dat.lst b2 cs2), D.dat (Dat.lst b2 rs), D.dat (Dat.lst b2 ns)]] [])) ∧ r = ([D.own 4 out], [[D.dat (I o), D.dat (Dat.lst b2 cs2), D.dat (Dat.lst b2 rs), D.dat (Dat.lst b2 ns)]], [])) : zak cfg kk (den cfg kk) 62 Go.Proofs.Tryd.f62 [.dat (Dat.lst b cs), .dat (Dat.lst b1 fr), .fn 85 [.up 0]] [[.dat (I o), .dat (.lst b2 cs2), .dat (.lst b2 rs), .dat (.lst b2 ns)]] [] = some r := by
 obtain ⟨hz1, hz2, hz3, oz⟩ := q1
 subst oz; exact zab [(15, .ret [.own 3 opn]), (300002, .loop (zji b cs (List.replicate cs.length (B false)) opn b2 o cs2 rs ns) (.exit 0) (Nm [7] [.own 4 out] [none] [[.dat (I o), .dat (.lst b2 cs2), .dat (.lst b2 rs), .dat (.lst b2 ns)]] [])), (13, .ok)] (ob hz1 (ob hz2 (ob (rfl : _ = zji b cs (List.replicate cs.length (B false)) opn b2 o cs2 rs ns) (ob hz3 ob0)))) (by kernel_rfl)
theorem zpA (kk : Nat) (x : Int) {r : Res} (q1 : r = ([D.dat (B true)], [], [])) : zak cfg kk (den cfg kk) 63 Go.Proofs.Tryd.f63 [.dat (I x)] [] [] = some r := by
 have oz := q1
 subst oz; exact zab [] ob0 (by kernel_rfl)
theorem zoq (kk : Nat) (x : Int) (b2 : Bool) (o : Int) (cs2 rs ns : List Dat) (g12 : Bool) {r : Res} (q1 : (decide (o ≤ x) = true) → r = ([D.dat (B true)], [[D.dat (I o), D.dat (Dat.lst b2 cs2), D.dat (Dat.lst b2 rs), D.dat (Dat.lst b2 ns)]], [])) (q2 : (decide (o ≤ x) = false) → (den cfg kk 67 [D.dat (Dat.lst b2 rs), D.dat (I x)] [] [] = some ([D.dat (B g12)], [], [])) ∧ r = ([D.dat (B g12)], [[D.dat (I o), D.dat (Dat.lst b2 cs2), D.dat (Dat.lst b2 rs), D.dat (Dat.lst b2 ns)]], [])) : zak cfg kk (den cfg kk) 85 Go.Proofs.Tryd.f85 [.dat (I x), .ptr (.up 0) 0] [[.dat (I o), .dat (.lst b2 cs2), .dat (.lst b2 rs), .dat (.lst b2 ns)]] [] = some r := by
 rcases Bool.eq_false_or_eq_true (decide (o ≤ x)) with d1 | d1
 · have oz := q1 d1
   subst oz; exact zab [(12, .ret [.dat (B g12)]), (200008, .yes)] (ob d1 (ob (rfl : true = true) (ob (rfl : true = true) (ob (rfl : true = true) ob0)))) (by kernel_rfl)
 · obtain ⟨hz1, oz⟩ := q2 d1
   subst oz; exact zab [(12, .ret [.dat (B g12)]), (200008, .no)] (ob d1 (ob (rfl : false = false) (ob (rfl : false = false) (ob (rfl : false = false) (ob hz1 ob0))))) (by kernel_rfl)
def zgr (b kb rb : Bool) (cs rs ks : List Dat) (to : List Dat) (n i : Int) : St := Nm [0, 1, 2, 8, 9, 10, 11, 23, 24, 25] [.dat (.lst b cs), .dat (.lst rb rs), .dat (.lst kb ks), .own 3 to, .own 97 [], .own 3 [], .dat (I n), .dat (.lst kb ks), .dat (I ks.length), .dat (I i)] [none, none, none, none, none, none, none, none, none, none] [] []
theorem zmg (kk m : Nat) {s : St} {K : X → St → Prop} (b kb rb : Bool) (cs rs ks : List Dat) (to : List Dat) (n i : Int) (g28 : Bool) (x100033 : Int) (hs : s.norm ((zac cfg kk 118 Go.Proofs.Tryd.f118).live (zaa (lp Go.Proofs.Tryd.f118 4))) = zgr b kb rb cs rs ks to n i) (q1 : (decide (i < (ks.length : Int)) = true) → (g28 = true) → ((0 ≤ i ∧ i < (ks.length : Int)) ∧ ks[i.toNat]? = some (B g28)) ∧ (0 ≤ i ∧ i < (to.length : Int)) ∧ (to[i.toNat]? = some (I x100033)) ∧ (∀ s : St, s.norm ((zac cfg kk 118 Go.Proofs.Tryd.f118).live (zaa (lp Go.Proofs.Tryd.f118 4))) = Nm [0, 1, 2, 8, 9, 10, 11, 23, 24, 25] [D.dat (Dat.lst b cs), D.dat (Dat.lst rb rs), D.dat (Dat.lst kb ks), D.own 3 (to.set i.toNat (I n)), D.own 97 [], D.own 3 [], D.dat (I (w64 (n + 1))), D.dat (Dat.lst kb ks), D.dat (I (ks.length : Int)), D.dat (I (w64 (i + 1)))] [none, none, none, none, none, none, none, none, none, none] [] [] → zae (zac cfg kk 118 Go.Proofs.Tryd.f118) kk (lp Go.Proofs.Tryd.f118 4) m s K)) (q2 : (decide (i < (ks.length : Int)) = true) → (g28 = false) → ((0 ≤ i ∧ i < (ks.length : Int)) ∧ ks[i.toNat]? = some (B g28)) ∧ (0 ≤ i ∧ i < (to.length : Int)) ∧ (to[i.toNat]? = some (I x100033)) ∧ (∀ s : St, s.norm ((zac cfg kk 118 Go.Proofs.Tryd.f118).live (zaa (lp Go.Proofs.Tryd.f118 4))) = Nm [0, 1, 2, 8, 9, 10, 11, 23, 24, 25] [D.dat (Dat.lst b cs), D.dat (Dat.lst rb rs), D.dat (Dat.lst kb ks), D.own 3 (to.set i.toNat (I n)), D.own 97 [], D.own 3 [], D.dat (I n), D.dat (Dat.lst kb ks), D.dat (I (ks.length : Int)), D.dat (I (w64 (i + 1)))] [none, none, none, none, none, none, none, none, none, none] [] [] → zae (zac cfg kk 118 Go.Proofs.Tryd.f118) kk (lp Go.Proofs.Tryd.f118 4) m s K)) (q3 : (decide (i < (ks.length : Int)) = false) → K (X.exit 0) (Nm [0, 1, 2, 8, 9, 10] [D.dat (Dat.lst b cs), D.dat (Dat.lst rb rs), D.dat (Dat.lst kb ks), D.own 3 to, D.own 97 [], D.own 3 []] [none, none, none, none, none, none] [] [])) : zae (zac cfg kk 118 Go.Proofs.Tryd.f118) kk (lp Go.Proofs.Tryd.f118 4) (m + 1) s K := by
 rcases Bool.eq_false_or_eq_true (decide (i < (ks.length : Int))) with d1 | d1
 · rcases Bool.eq_false_or_eq_true (g28) with d5 | d5
   · obtain ⟨hz1, hz2, hz3, oz⟩ := q1 d1 d5
     exact zag [(28, .at (B g28)), (33, .ok), (100033, .at (I x100033)), (200026, .yes), (200034, .yes)] hs (by kernel_rfl) (ob d1 (ob hz1 (ob hz2 (ob hz3 (ob d5 ob0))))) (by kernel_rfl) oz
   · obtain ⟨hz1, hz2, hz3, oz⟩ := q2 d1 d5
     exact zag [(28, .at (B g28)), (33, .ok), (100033, .at (I x100033)), (200026, .yes), (200034, .no)] hs (by kernel_rfl) (ob d1 (ob hz1 (ob hz2 (ob hz3 (ob d5 ob0))))) (by kernel_rfl) oz
 · have oz := q3 d1
   exact zam [(28, .at (B g28)), (33, .ok), (100033, .at (I x100033)), (200026, .no)] hs (by kernel_rfl) rfl (ob d1 ob0) (by kernel_rfl) oz
def zgI (b kb rb : Bool) (cs rs ks : List Dat) (to acc : List Dat) (i : Int) : St := Nm [1, 2, 8, 9, 10, 38, 39, 40] [.dat (.lst rb rs), .dat (.lst kb ks), .own 3 to, .own 97 acc, .own 3 [], .dat (.lst b cs), .dat (I cs.length), .dat (I i)] [none, none, none, none, none, none, none, none] [] []
theorem zjL (kk m : Nat) {s : St} {K : X → St → Prop} (b kb rb : Bool) (cs rs ks : List Dat) (to acc : List Dat) (i : Int) (c43 : Cl) (g47 : Bool) (x57 : Int) (x62 : Int) (hs : s.norm ((zac cfg kk 118 Go.Proofs.Tryd.f118).live (zaa (lp Go.Proofs.Tryd.f118 11))) = zgI b kb rb cs rs ks to acc i) (q1 : (decide (i < (cs.length : Int)) = true) → ((!g47) = true) → ((0 ≤ i ∧ i < (cs.length : Int)) ∧ cs[i.toNat]? = some (Dat.agg [B c43.l, I c43.n, I c43.a, I c43.b])) ∧ ((0 ≤ i ∧ i < (ks.length : Int)) ∧ ks[i.toNat]? = some (B g47)) ∧ (∀ s : St, s.norm ((zac cfg kk 118 Go.Proofs.Tryd.f118).live (zaa (lp Go.Proofs.Tryd.f118 11))) = Nm [1, 2, 8, 9, 10, 38, 39, 40] [D.dat (Dat.lst rb rs), D.dat (Dat.lst kb ks), D.own 3 to, D.own 97 acc, D.own 3 [], D.dat (Dat.lst b cs), D.dat (I (cs.length : Int)), D.dat (I (w64 (i + 1)))] [none, none, none, none, none, none, none, none] [] [] → zae (zac cfg kk 118 Go.Proofs.Tryd.f118) kk (lp Go.Proofs.Tryd.f118 11) m s K)) (q2 : (decide (i < (cs.length : Int)) = true) → ((!g47) = false) → ((!c43.l) = true) → ((0 ≤ i ∧ i < (cs.length : Int)) ∧ cs[i.toNat]? = some (Dat.agg [B c43.l, I c43.n, I c43.a, I c43.b])) ∧ ((0 ≤ i ∧ i < (ks.length : Int)) ∧ ks[i.toNat]? = some (B g47)) ∧ (0 ≤ c43.a ∧ c43.a < (to.length : Int)) ∧ (to[c43.a.toNat]? = some (I x57)) ∧ (0 ≤ c43.b ∧ c43.b < (to.length : Int)) ∧ (to[c43.b.toNat]? = some (I x62)) ∧ (acc.length + 1 ≤ 2147483648) ∧ (∀ s : St, s.norm ((zac cfg kk 118 Go.Proofs.Tryd.f118).live (zaa (lp Go.Proofs.Tryd.f118 11))) = Nm [1, 2, 8, 9, 10, 38, 39, 40] [D.dat (Dat.lst rb rs), D.dat (Dat.lst kb ks), D.own 3 to, D.own 97 (acc ++ [Dat.agg [B c43.l, I c43.n, I x57, I x62]]), D.own 3 [], D.dat (Dat.lst b cs), D.dat (I (cs.length : Int)), D.dat (I (w64 (i + 1)))] [none, none, none, none, none, none, none, none] [] [] → zae (zac cfg kk 118 Go.Proofs.Tryd.f118) kk (lp Go.Proofs.Tryd.f118 11) m s K)) (q3 : (decide (i < (cs.length : Int)) = true) → ((!g47) = false) → ((!c43.l) = false) → ((0 ≤ i ∧ i < (cs.length : Int)) ∧ cs[i.toNat]? = some (Dat.agg [B c43.l, I c43.n, I c43.a, I c43.b])) ∧ ((0 ≤ i ∧ i < (ks.length : Int)) ∧ ks[i.toNat]? = some (B g47)) ∧ (acc.length + 1 ≤ 2147483648) ∧ (∀ s : St, s.norm ((zac cfg kk 118 Go.Proofs.Tryd.f118).live (zaa (lp Go.Proofs.Tryd.f118 11))) = Nm [1, 2, 8, 9, 10, 38, 39, 40] [D.dat (Dat.lst rb rs), D.dat (Dat.lst kb ks), D.own 3 to, D.own 97 (acc ++ [Dat.agg [B c43.l, I c43.n, I c43.a, I c43.b]]), D.own 3 [], D.dat (Dat.lst b cs), D.dat (I (cs.length : Int)), D.dat (I (w64 (i + 1)))] [none, none, none, none, none, none, none, none] [] [] → zae (zac cfg kk 118 Go.Proofs.Tryd.f118) kk (lp Go.Proofs.Tryd.f118 11) m s K)) (q4 : (decide (i < (cs.length : Int)) = false) → K (X.exit 2) (Nm [1, 8, 9, 10] [D.dat (Dat.lst rb rs), D.own 3 to, D.own 97 acc, D.own 3 []] [none, none, none, none] [] [])) : zae (zac cfg kk 118 Go.Proofs.Tryd.f118) kk (lp Go.Proofs.Tryd.f118 11) (m + 1) s K := by
 rcases Bool.eq_false_or_eq_true (decide (i < (cs.length : Int))) with d1 | d1
 · rcases Bool.eq_false_or_eq_true ((!g47)) with d4 | d4
   · obtain ⟨hz1, hz2, oz⟩ := q1 d1 d4
     exact zag [(43, .at (c43.d)), (47, .at (B g47)), (68, .ok), (56, .ok), (57, .at (I x57)), (61, .ok), (62, .at (I x62)), (200041, .yes), (200049, .yes)] hs (by kernel_rfl) (ob d1 (ob hz1 (ob hz2 (ob d4 ob0)))) (by kernel_rfl) oz
   · rcases Bool.eq_false_or_eq_true ((!c43.l)) with d5 | d5
     · obtain ⟨hz1, hz2, hz3, hz4, hz5, hz6, hz7, oz⟩ := q2 d1 d4 d5
       exact zag [(43, .at (c43.d)), (47, .at (B g47)), (68, .ok), (56, .ok), (57, .at (I x57)), (61, .ok), (62, .at (I x62)), (200041, .yes), (200049, .no), (200052, .yes)] hs (by kernel_rfl) (ob d1 (ob hz1 (ob hz2 (ob d4 (ob d5 (ob hz3 (ob hz4 (ob hz5 (ob hz6 (ob (obT hz7) ob0)))))))))) (by kernel_rfl) oz
     · obtain ⟨hz1, hz2, hz3, oz⟩ := q3 d1 d4 d5
       exact zag [(43, .at (c43.d)), (47, .at (B g47)), (68, .ok), (56, .ok), (57, .at (I x57)), (61, .ok), (62, .at (I x62)), (200041, .yes), (200049, .no), (200052, .no)] hs (by kernel_rfl) (ob d1 (ob hz1 (ob hz2 (ob d4 (ob d5 (ob (obT hz3) ob0)))))) (by kernel_rfl) oz
 · have oz := q4 d1
   exact zam [(43, .at (c43.d)), (47, .at (B g47)), (68, .ok), (56, .ok), (57, .at (I x57)), (61, .ok), (62, .at (I x62)), (200041, .no)] hs (by kernel_rfl) rfl (ob d1 ob0) (by kernel_rfl) oz
def zf7 (rb : Bool) (rs to acc qs : List Dat) (i : Int) : St := Nm [8, 9, 10, 70, 71, 72] [.own 3 to, .own 97 acc, .own 3 qs, .dat (.lst rb rs), .dat (I rs.length), .dat (I i)] [none, none, none, none, none, none] [] []
theorem zok (kk m : Nat) {s : St} {K : X → St → Prop} (rb : Bool) (rs to acc qs : List Dat) (i : Int) (x74 : Int) (x80 : Int) (hs : s.norm ((zac cfg kk 118 Go.Proofs.Tryd.f118).live (zaa (lp Go.Proofs.Tryd.f118 19))) = zf7 rb rs to acc qs i) (q1 : (decide (i < (rs.length : Int)) = true) → ((0 ≤ i ∧ i < (rs.length : Int)) ∧ rs[i.toNat]? = some (I x74)) ∧ (0 ≤ x74 ∧ x74 < (to.length : Int)) ∧ (to[x74.toNat]? = some (I x80)) ∧ (qs.length + 1 ≤ 2147483648) ∧ (∀ s : St, s.norm ((zac cfg kk 118 Go.Proofs.Tryd.f118).live (zaa (lp Go.Proofs.Tryd.f118 19))) = Nm [8, 9, 10, 70, 71, 72] [D.own 3 to, D.own 97 acc, D.own 3 (qs ++ [I x80]), D.dat (Dat.lst rb rs), D.dat (I (rs.length : Int)), D.dat (I (w64 (i + 1)))] [none, none, none, none, none, none] [] [] → zae (zac cfg kk 118 Go.Proofs.Tryd.f118) kk (lp Go.Proofs.Tryd.f118 19) m s K)) (q2 : (decide (i < (rs.length : Int)) = false) → K (X.exit 4) (Nm [9, 10] [D.own 97 acc, D.own 3 qs] [none, none] [] [])) : zae (zac cfg kk 118 Go.Proofs.Tryd.f118) kk (lp Go.Proofs.Tryd.f118 19) (m + 1) s K := by
 rcases Bool.eq_false_or_eq_true (decide (i < (rs.length : Int))) with d1 | d1
 · obtain ⟨hz1, hz2, hz3, hz4, oz⟩ := q1 d1
   exact zag [(74, .at (I x74)), (79, .ok), (80, .at (I x80)), (82, .ok), (200073, .yes)] hs (by kernel_rfl) (ob d1 (ob hz1 (ob hz2 (ob hz3 (ob (obT hz4) ob0))))) (by kernel_rfl) oz
 · have oz := q2 d1
   exact zam [(74, .at (I x74)), (79, .ok), (80, .at (I x80)), (82, .ok), (200073, .no)] hs (by kernel_rfl) rfl (ob d1 ob0) (by kernel_rfl) oz
theorem kept (kk : Nat) (b kb rb : Bool) (cs rs ks : List Dat) (to acc qs : List Dat) (n : Int) {r : Res} (q1 : (0 ≤ (cs.length : Int) ∧ (cs.length : Int) ≤ (cs.length : Int) ∧ (cs.length : Int) ≤ 2147483648) ∧ (zap cfg kk 118 Go.Proofs.Tryd.f118 4 (zgr b kb rb cs rs ks (List.replicate cs.length (I 0)) 0 0) (X.exit 0) (Nm [0, 1, 2, 8, 9, 10] [D.dat (Dat.lst b cs), D.dat (Dat.lst rb rs), D.dat (Dat.lst kb ks), D.own 3 to, D.own 97 [], D.own 3 []] [none, none, none, none, none, none] [] [])) ∧ (zap cfg kk 118 Go.Proofs.Tryd.f118 11 (zgI b kb rb cs rs ks to [] 0) (X.exit 2) (Nm [1, 8, 9, 10] [D.dat (Dat.lst rb rs), D.own 3 to, D.own 97 acc, D.own 3 []] [none, none, none, none] [] [])) ∧ (zap cfg kk 118 Go.Proofs.Tryd.f118 19 (zf7 rb rs to acc [] 0) (X.exit 4) (Nm [9, 10] [D.own 97 acc, D.own 3 qs] [none, none] [] [])) ∧ r = ([D.own 97 acc, D.own 3 qs], [], [])) : zak cfg kk (den cfg kk) 118 Go.Proofs.Tryd.f118 [.dat (Dat.lst b cs), .dat (Dat.lst rb rs), .dat (Dat.lst kb ks)] [] [] = some r := by
 obtain ⟨hz1, hz2, hz3, hz4, oz⟩ := q1
 subst oz; exact zab [(300004, .loop (zgr b kb rb cs rs ks (List.replicate cs.length (I 0)) 0 0) (.exit 0) (Nm [0, 1, 2, 8, 9, 10] [.dat (.lst b cs), .dat (.lst rb rs), .dat (.lst kb ks), .own 3 to, .own 97 [], .own 3 []] [none, none, none, none, none, none] [] [])), (300011, .loop (zgI b kb rb cs rs ks to [] 0) (.exit 2) (Nm [1, 8, 9, 10] [.dat (.lst rb rs), .own 3 to, .own 97 acc, .own 3 []] [none, none, none, none] [] [])), (300019, .loop (zf7 rb rs to acc [] 0) (.exit 4) (Nm [9, 10] [.own 97 acc, .own 3 qs] [none, none] [] [])), (20, .ok)] (ob hz1 (ob (rfl : _ = zgr b kb rb cs rs ks (List.replicate cs.length (I 0)) 0 0) (ob hz2 (ob (rfl : _ = zgI b kb rb cs rs ks to [] 0) (ob hz3 (ob (rfl : _ = zf7 rb rs to acc [] 0) (ob hz4 ob0))))))) (by kernel_rfl)
theorem stayI (kk : Nat) (b : Bool) (o : Int) (cs rs ns : List Dat) (kb : Bool) (ks : List Dat) (c1 r1 : List Dat) {r : Res} (q1 : (den cfg kk 118 [D.dat (Dat.lst b cs), D.dat (Dat.lst b rs), D.dat (Dat.lst kb ks)] [] [] = some ([D.own 97 c1, D.own 3 r1], [], [])) ∧ r = ([D.seq false [D.dat (I (c1.length : Int)), D.own 97 c1, D.own 3 r1, D.own 3 []]], [], [])) : zak cfg kk (den cfg kk) 86 Go.Proofs.Tryd.f86 [.dat (Yd b o cs rs ns), .dat (Dat.lst kb ks)] [] [] = some r := by
 obtain ⟨hz1, oz⟩ := q1
 subst oz; exact zab [(13, .ret [.own 97 c1, .own 3 r1])] (ob hz1 ob0) (by kernel_rfl)
theorem fullI (kk : Nat) (b : Bool) (o : Int) (cs rs ns : List Dat) (ks : List Dat) (o1 : Int) (cs1 rs1 ns1 : List Dat) {r : Res} (q1 : (den cfg kk 62 [D.dat (Dat.lst b cs), D.dat (Dat.lst b rs), D.fn 63 []] [] [] = some ([D.own 4 ks], [], [])) ∧ (D.cleans [D.seq false [D.dat (I o1), D.own 97 cs1, D.own 3 rs1, D.own 3 ns1]] = true) ∧ (den cfg kk 86 [D.dat (Dat.agg [I o, Dat.lst b cs, Dat.lst b rs, Dat.lst b ns]), D.dat (Dat.lst true ks)] [] [] = some ([D.seq false [D.dat (I o1), D.own 97 cs1, D.own 3 rs1, D.own 3 ns1]], [], [])) ∧ r = ([D.seq false [D.dat (I o1), D.own 97 cs1, D.own 3 rs1, D.own 3 ns1]], [], [])) : zak cfg kk (den cfg kk) 60 Go.Proofs.Tryd.f60 [.dat (Yd b o cs rs ns)] [] [] = some r := by
 obtain ⟨hz1, hz2, hz3, oz⟩ := q1
 subst oz; exact zab [(8, .back [.own 4 ks] [] []), (9, .ret [.seq false [.dat (I o1), .own 97 cs1, .own 3 rs1, .own 3 ns1]])] (ob hz1 (ob hz2 (ob hz3 ob0))) (by kernel_rfl)
def ziZ (b : Bool) (o : Int) (cs rs ns : List Dat) (fr : List Dat) (i : Int) : St := Nm [1, 2, 3, 13, 14, 15] [.ptr (.loc 1) 0, .ptr (.loc 2) 0, .own 3 fr, .dat (.lst b ns), .dat (I ns.length), .dat (I i)] [Yb b o cs rs ns, some (Yo 0 [] [] []), none, none, none, none] [] []
theorem zhb (kk m : Nat) {s : St} {K : X → St → Prop} (b : Bool) (o : Int) (cs rs ns : List Dat) (fr : List Dat) (i : Int) (x17 : Int) (c22 : Cl) (hs : s.norm ((zac cfg kk 59 Go.Proofs.Tryd.f59).live (zaa (lp Go.Proofs.Tryd.f59 3))) = ziZ b o cs rs ns fr i) (q1 : (decide (i < (ns.length : Int)) = true) → ((!c22.l) = true) → ((0 ≤ i ∧ i < (ns.length : Int)) ∧ ns[i.toNat]? = some (I x17)) ∧ ((0 ≤ x17 ∧ x17 < (cs.length : Int)) ∧ cs[x17.toNat]? = some (Dat.agg [B c22.l, I c22.n, I c22.a, I c22.b])) ∧ (fr.length + 2 ≤ 2147483648) ∧ (∀ s : St, s.norm ((zac cfg kk 59 Go.Proofs.Tryd.f59).live (zaa (lp Go.Proofs.Tryd.f59 3))) = Nm [1, 2, 3, 13, 14, 15] [D.ptr (Ref.loc 1) 0, D.ptr (Ref.loc 2) 0, D.own 3 (fr ++ [I c22.a, I c22.b]), D.dat (Dat.lst b ns), D.dat (I (ns.length : Int)), D.dat (I (w64 (i + 1)))] [some [D.dat (I o), D.dat (Dat.lst b cs), D.dat (Dat.lst b rs), D.dat (Dat.lst b ns)], some [D.dat (I 0), D.own 97 [], D.own 3 [], D.own 3 []], none, none, none, none] [] [] → zae (zac cfg kk 59 Go.Proofs.Tryd.f59) kk (lp Go.Proofs.Tryd.f59 3) m s K)) (q2 : (decide (i < (ns.length : Int)) = true) → ((!c22.l) = false) → ((0 ≤ i ∧ i < (ns.length : Int)) ∧ ns[i.toNat]? = some (I x17)) ∧ ((0 ≤ x17 ∧ x17 < (cs.length : Int)) ∧ cs[x17.toNat]? = some (Dat.agg [B c22.l, I c22.n, I c22.a, I c22.b])) ∧ (∀ s : St, s.norm ((zac cfg kk 59 Go.Proofs.Tryd.f59).live (zaa (lp Go.Proofs.Tryd.f59 3))) = Nm [1, 2, 3, 13, 14, 15] [D.ptr (Ref.loc 1) 0, D.ptr (Ref.loc 2) 0, D.own 3 fr, D.dat (Dat.lst b ns), D.dat (I (ns.length : Int)), D.dat (I (w64 (i + 1)))] [some [D.dat (I o), D.dat (Dat.lst b cs), D.dat (Dat.lst b rs), D.dat (Dat.lst b ns)], some [D.dat (I 0), D.own 97 [], D.own 3 [], D.own 3 []], none, none, none, none] [] [] → zae (zac cfg kk 59 Go.Proofs.Tryd.f59) kk (lp Go.Proofs.Tryd.f59 3) m s K)) (q3 : (decide (i < (ns.length : Int)) = false) → K (X.exit 0) (Nm [1, 2, 3] [D.ptr (Ref.loc 1) 0, D.ptr (Ref.loc 2) 0, D.own 3 fr] [some [D.dat (I o), D.dat (Dat.lst b cs), D.dat (Dat.lst b rs), D.dat (Dat.lst b ns)], some [D.dat (I 0), D.own 97 [], D.own 3 [], D.own 3 []], none] [] [])) : zae (zac cfg kk 59 Go.Proofs.Tryd.f59) kk (lp Go.Proofs.Tryd.f59 3) (m + 1) s K := by
 rcases Bool.eq_false_or_eq_true (decide (i < (ns.length : Int))) with d1 | d1
 · rcases Bool.eq_false_or_eq_true ((!c22.l)) with d4 | d4
   · obtain ⟨hz1, hz2, hz3, oz⟩ := q1 d1 d4
     exact zag [(17, .at (I x17)), (22, .at (c22.d)), (33, .ok), (200016, .yes), (200026, .yes)] hs (by kernel_rfl) (ob d1 (ob hz1 (ob hz2 (ob d4 (ob (obT hz3) ob0))))) (by kernel_rfl) oz
   · obtain ⟨hz1, hz2, oz⟩ := q2 d1 d4
     exact zag [(17, .at (I x17)), (22, .at (c22.d)), (33, .ok), (200016, .yes), (200026, .no)] hs (by kernel_rfl) (ob d1 (ob hz1 (ob hz2 (ob d4 ob0)))) (by kernel_rfl) oz
 · have oz := q3 d1
   exact zam [(17, .at (I x17)), (22, .at (c22.d)), (33, .ok), (200016, .no)] hs (by kernel_rfl) rfl (ob d1 ob0) (by kernel_rfl) oz
def zk4 (b : Bool) (o : Int) (cs rs ns : List Dat) (ks : List Dat) (i : Int) : St := Nm [1, 2, 7, 41, 42] [.ptr (.loc 1) 0, .ptr (.loc 2) 0, .own 4 ks, .dat (I o), .dat (I i)] [Yb b o cs rs ns, some (Yo 0 [] [] []), none, none, none] [] []
theorem zjM (kk m : Nat) {s : St} {K : X → St → Prop} (b : Bool) (o : Int) (cs rs ns : List Dat) (ks : List Dat) (i : Int) (g100047 : Bool) (hs : s.norm ((zac cfg kk 59 Go.Proofs.Tryd.f59).live (zaa (lp Go.Proofs.Tryd.f59 11))) = zk4 b o cs rs ns ks i) (q1 : (decide (i < o) = true) → (0 ≤ i ∧ i < (ks.length : Int)) ∧ (ks[i.toNat]? = some (B g100047)) ∧ (∀ s : St, s.norm ((zac cfg kk 59 Go.Proofs.Tryd.f59).live (zaa (lp Go.Proofs.Tryd.f59 11))) = Nm [1, 2, 7, 41, 42] [D.ptr (Ref.loc 1) 0, D.ptr (Ref.loc 2) 0, D.own 4 (ks.set i.toNat (B true)), D.dat (I o), D.dat (I (w64 (i + 1)))] [some [D.dat (I o), D.dat (Dat.lst b cs), D.dat (Dat.lst b rs), D.dat (Dat.lst b ns)], some [D.dat (I 0), D.own 97 [], D.own 3 [], D.own 3 []], none, none, none] [] [] → zae (zac cfg kk 59 Go.Proofs.Tryd.f59) kk (lp Go.Proofs.Tryd.f59 11) m s K)) (q2 : (decide (i < o) = false) → K (X.exit 2) (Nm [1, 2, 7] [D.ptr (Ref.loc 1) 0, D.ptr (Ref.loc 2) 0, D.own 4 ks] [some [D.dat (I o), D.dat (Dat.lst b cs), D.dat (Dat.lst b rs), D.dat (Dat.lst b ns)], some [D.dat (I 0), D.own 97 [], D.own 3 [], D.own 3 []], none] [] [])) : zae (zac cfg kk 59 Go.Proofs.Tryd.f59) kk (lp Go.Proofs.Tryd.f59 11) (m + 1) s K := by
 rcases Bool.eq_false_or_eq_true (decide (i < o)) with d1 | d1
 · obtain ⟨hz1, hz2, oz⟩ := q1 d1
   exact zag [(47, .ok), (100047, .at (B g100047)), (200043, .yes)] hs (by kernel_rfl) (ob d1 (ob hz1 (ob hz2 ob0))) (by kernel_rfl) oz
 · have oz := q2 d1
   exact zam [(47, .ok), (100047, .at (B g100047)), (200043, .no)] hs (by kernel_rfl) rfl (ob d1 ob0) (by kernel_rfl) oz
theorem zpx (kk : Nat) (b : Bool) (o : Int) (cs rs ns : List Dat) (f0 fr ka kc : List Dat) (o1 : Int) (cs1 rs1 ns1 : List Dat) {r : Res} (q1 : (den cfg kk 82 [D.dat (Dat.lst b rs)] [] [] = some ([D.own 3 f0], [], [])) ∧ (zap cfg kk 59 Go.Proofs.Tryd.f59 3 (ziZ b o cs rs ns f0 0) (X.exit 0) (Nm [1, 2, 3] [D.ptr (Ref.loc 1) 0, D.ptr (Ref.loc 2) 0, D.own 3 fr] [some [D.dat (I o), D.dat (Dat.lst b cs), D.dat (Dat.lst b rs), D.dat (Dat.lst b ns)], some [D.dat (I 0), D.own 97 [], D.own 3 [], D.own 3 []], none] [] [])) ∧ (den cfg kk 62 [D.dat (Dat.lst b cs), D.dat (Dat.lst false fr), D.fn 85 [Ref.up 0]] [[D.dat (I o), D.dat (Dat.lst b cs), D.dat (Dat.lst b rs), D.dat (Dat.lst b ns)]] [] = some ([D.own 4 ka], [[D.dat (I o), D.dat (Dat.lst b cs), D.dat (Dat.lst b rs), D.dat (Dat.lst b ns)]], [])) ∧ (zap cfg kk 59 Go.Proofs.Tryd.f59 11 (zk4 b o cs rs ns ka 0) (X.exit 2) (Nm [1, 2, 7] [D.ptr (Ref.loc 1) 0, D.ptr (Ref.loc 2) 0, D.own 4 kc] [some [D.dat (I o), D.dat (Dat.lst b cs), D.dat (Dat.lst b rs), D.dat (Dat.lst b ns)], some [D.dat (I 0), D.own 97 [], D.own 3 [], D.own 3 []], none] [] [])) ∧ (D.cleans [D.seq false [D.dat (I o1), D.own 97 cs1, D.own 3 rs1, D.own 3 ns1]] = true) ∧ (den cfg kk 86 [D.dat (Dat.agg [I o, Dat.lst b cs, Dat.lst b rs, Dat.lst b ns]), D.dat (Dat.lst true kc)] [] [] = some ([D.seq false [D.dat (I o1), D.own 97 cs1, D.own 3 rs1, D.own 3 ns1]], [], [])) ∧ r = ([D.seq false [D.dat (I o1), D.own 97 cs1, D.own 3 rs1, D.own 3 ns1]], [], [])) : zak cfg kk (den cfg kk) 59 Go.Proofs.Tryd.f59 [.dat (Yd b o cs rs ns)] [] [] = some r := by
 obtain ⟨hz1, hz2, hz3, hz4, hz5, hz6, oz⟩ := q1
 subst oz; exact zab [(11, .ret [.own 3 f0]), (300003, .loop (ziZ b o cs rs ns f0 0) (.exit 0) (Nm [1, 2, 3] [.ptr (.loc 1) 0, .ptr (.loc 2) 0, .own 3 fr] [Yb b o cs rs ns, some (Yo 0 [] [] []), none] [] [])), (39, .back [.own 4 ka] [[.dat (I o), .dat (.lst b cs), .dat (.lst b rs), .dat (.lst b ns)]] []), (300011, .loop (zk4 b o cs rs ns ka 0) (.exit 2) (Nm [1, 2, 7] [.ptr (.loc 1) 0, .ptr (.loc 2) 0, .own 4 kc] [Yb b o cs rs ns, some (Yo 0 [] [] []), none] [] [])), (51, .ret [.seq false [.dat (I o1), .own 97 cs1, .own 3 rs1, .own 3 ns1]])] (ob hz1 (ob (rfl : _ = ziZ b o cs rs ns f0 0) (ob hz2 (ob hz3 (ob (rfl : false = false) (ob (rfl : _ = zk4 b o cs rs ns ka 0) (ob hz4 (ob hz5 (ob hz6 ob0))))))))) (by kernel_rfl)
end Go.Den
namespace Go.Den
open Go
set_option linter.unusedVariables false
set_option maxRecDepth 100000
theorem zkq {α : Type} {E : Env} {kk : Nat} {c : Code} (st : Nat → α → St) (P : Nat → α → Prop) (n : Nat)
 (hgo : ∀ i a, i < n → P i a → ∃ a', P (i + 1) a' ∧ ∀ (m : Nat) (s : St) (K : X → St → Prop), s.norm (E.live (zaa c)) = st i a → (∀ s : St, s.norm (E.live (zaa c)) = st (i + 1) a' → zae E kk c m s K) → zae E kk c (m + 1) s K) :
 ∀ (d i : Nat) (a : α), i + d = n → P i a → ∃ a', P n a' ∧ ∀ K : X → St → Prop, (∀ (m : Nat) (s : St), s.norm (E.live (zaa c)) = st n a' → zae E kk c (m + 1) s K) → ∀ m, d < m → ∀ s : St, s.norm (E.live (zaa c)) = st i a → zae E kk c m s K := by
 intro d
 induction d with
 | zero =>
   intro i a hi hP
   have : i = n := by omega
   subst this
   refine ⟨a, hP, fun K hend m hm s hs => ?_⟩
   obtain ⟨m, rfl⟩ : ∃ k, m = k + 1 := ⟨m - 1, by omega⟩
   exact hend m s hs
 | succ d ih =>
   intro i a hi hP
   obtain ⟨a1, hP1, hstep⟩ := hgo i a (by omega) hP
   obtain ⟨a', hP', f⟩ := ih (i + 1) a1 (by omega) hP1
   refine ⟨a', hP', fun K hend m hm s hs => ?_⟩
   obtain ⟨m, rfl⟩ : ∃ k, m = k + 1 := ⟨m - 1, by omega⟩
   exact hstep m s K hs fun s hs => f K hend m (by omega) s hs
theorem zbh {α : Type} {kk f : Nat} {fn : Func} {r : Nat} {x : X} (st : Nat → α → St) (fin : α → St) (P : Nat → α → Prop) (n : Nat) (hk : n < kk) (a0 : α) (h0 : P 0 a0)
 (hgo : ∀ i a, i < n → P i a → ∃ a', P (i + 1) a' ∧ ∀ (m : Nat) (s : St) (K : X → St → Prop), s.norm ((zac cfg kk f fn).live (zaa (lp fn r))) = st i a → (∀ s : St, s.norm ((zac cfg kk f fn).live (zaa (lp fn r))) = st (i + 1) a' → zae (zac cfg kk f fn) kk (lp fn r) m s K) → zae (zac cfg kk f fn) kk (lp fn r) (m + 1) s K)
 (hend : ∀ a, P n a → ∀ (m : Nat) (s : St) (K : X → St → Prop), s.norm ((zac cfg kk f fn).live (zaa (lp fn r))) = st n a → K x (fin a) → zae (zac cfg kk f fn) kk (lp fn r) (m + 1) s K) {s0 : St} (hs0 : s0 = st 0 a0) :
 ∃ a, P n a ∧ zap cfg kk f fn r s0 x (fin a) := by
 obtain ⟨a', hP', f⟩ := zkq st P n hgo n 0 a0 (by omega) h0
 exact ⟨a', hP', zcH fun s hs => f _ (fun m s hs => hend a' hP' m s _ hs ⟨rfl, rfl⟩) kk hk s (by rw [hs, hs0])⟩
theorem zjg {α : Type} {E : Env} {kk : Nat} {c : Code} (st : α → St) (P fin : α → Prop) (μ : α → Nat)
 (hgo : ∀ a, P a → fin a ∨ ∃ a', P a' ∧ μ a' < μ a ∧ ∀ (m : Nat) (s : St) (K : X → St → Prop), s.norm (E.live (zaa c)) = st a → (∀ s : St, s.norm (E.live (zaa c)) = st a' → zae E kk c m s K) → zae E kk c (m + 1) s K) :
 ∀ (d : Nat) (a : α), μ a ≤ d → P a → ∃ a', P a' ∧ fin a' ∧ ∀ K : X → St → Prop, (∀ (m : Nat) (s : St), s.norm (E.live (zaa c)) = st a' → zae E kk c (m + 1) s K) → ∀ m, d < m → ∀ s : St, s.norm (E.live (zaa c)) = st a → zae E kk c m s K := by
 intro d
 induction d with
 | zero =>
   intro a hd hP
   rcases hgo a hP with hf | ⟨a', _, h, _⟩
   · refine ⟨a, hP, hf, fun K hend m hm s hs => ?_⟩
     obtain ⟨m, rfl⟩ : ∃ k, m = k + 1 := ⟨m - 1, by omega⟩
     exact hend m s hs
   · omega
 | succ d ih =>
   intro a hd hP
   rcases hgo a hP with hf | ⟨a1, hP1, h1, hstep⟩
   · refine ⟨a, hP, hf, fun K hend m hm s hs => ?_⟩
     obtain ⟨m, rfl⟩ : ∃ k, m = k + 1 := ⟨m - 1, by omega⟩
     exact hend m s hs
   · obtain ⟨a', hP', hf, f⟩ := ih a1 (by omega) hP1
     refine ⟨a', hP', hf, fun K hend m hm s hs => ?_⟩
     obtain ⟨m, rfl⟩ : ∃ k, m = k + 1 := ⟨m - 1, by omega⟩
     exact hstep m s K hs fun s hs => f K hend m (by omega) s hs
theorem zfV {α : Type} {kk f : Nat} {fn : Func} {r : Nat} {x : X} (st fst : α → St) (P fin : α → Prop) (μ : α → Nat) (a0 : α) (hk : μ a0 < kk) (h0 : P a0)
 (hgo : ∀ a, P a → fin a ∨ ∃ a', P a' ∧ μ a' < μ a ∧ ∀ (m : Nat) (s : St) (K : X → St → Prop), s.norm ((zac cfg kk f fn).live (zaa (lp fn r))) = st a → (∀ s : St, s.norm ((zac cfg kk f fn).live (zaa (lp fn r))) = st a' → zae (zac cfg kk f fn) kk (lp fn r) m s K) → zae (zac cfg kk f fn) kk (lp fn r) (m + 1) s K)
 (hend : ∀ a, P a → fin a → ∀ (m : Nat) (s : St) (K : X → St → Prop), s.norm ((zac cfg kk f fn).live (zaa (lp fn r))) = st a → K x (fst a) → zae (zac cfg kk f fn) kk (lp fn r) (m + 1) s K) {s0 : St} (hs0 : s0 = st a0) :
 ∃ a, P a ∧ fin a ∧ zap cfg kk f fn r s0 x (fst a) := by
 obtain ⟨a', hP', hf, f⟩ := zjg st P fin μ hgo (μ a0) a0 (Nat.le_refl _) h0
 exact ⟨a', hP', hf, zcH fun s hs => f _ (fun m s hs => hend a' hP' hf m s _ hs ⟨rfl, rfl⟩) kk hk s (by rw [hs, hs0])⟩
abbrev BD (ks : List Bool) : List Dat := ks.map (B ·)
abbrev ID (zs : List Int) : List Dat := zs.map (I ·)
abbrev CD (cs : List Cl) : List Dat := cs.map Cl.d
theorem zh8 {ks : List Bool} {i : Int} (h0 : 0 ≤ i) (h : i < (ks.length : Int)) : (0 ≤ i ∧ i < ((BD ks).length : Int)) ∧ (BD ks)[i.toNat]? = some (B (ks.getD i.toNat false)) := by
 have hlt : i.toNat < ks.length := by omega
 refine ⟨⟨h0, by simpa using h⟩, ?_⟩
 rw [List.getElem?_map, List.getD_eq_getElem?_getD, List.getElem?_eq_getElem hlt]
 rfl
theorem zhO (ks : List Bool) (i : Nat) : (BD ks).set i (B true) = BD (ks.set i true) := by simp [BD, List.map_set]
theorem zjp (n : Nat) : List.replicate n (B false) = BD (List.replicate n false) := by simp [BD]
theorem zol (n : Nat) : List.replicate n (I 0) = ID (List.replicate n 0) := by simp [ID]
theorem zmz (zs : List Int) (i : Nat) (x : Int) : (ID zs).set i (I x) = ID (zs.set i x) := by simp [ID, List.map_set]
theorem zf1 {c : List Cl} {i : Int} (h0 : 0 ≤ i) (h : i < (c.length : Int)) : (0 ≤ i ∧ i < ((CD c).length : Int)) ∧ (CD c)[i.toNat]? = some (cg c i).d := ih2 h0 (zkw h0 h)
theorem zey {zs : List Int} {i : Nat} {x : Int} (h : zs[i]? = some x) : (0 ≤ (i : Int) ∧ (i : Int) < ((ID zs).length : Int)) ∧ (ID zs)[((i : Int)).toNat]? = some (I x) := ih (gm (f := (I ·)) h)
def On (o : Int) (young : Bool) (i : Int) : Prop := young = true → ¬ i < o
theorem zm2 (b : Bool) (o : Int) (c : List Cl) (rs ns : List Dat) (young : Bool) (hw : Wf c) : ∀ (m : Nat) (ks : List Bool) (at_ : Int), ks.length = c.length → 0 ≤ at_ → at_ < (c.length : Int) → lack ks ≤ m →
 ∃ k' : List Bool, EvN (m + 1) 124 [.dat (Yd b o (CD c) rs ns), .dat (I at_), .bor (.lent 0) none, .dat (B young)] [] [some (4, BD ks)] ([], [], [some (4, BD k')]) ∧ Mk c (On o young) (· = at_) ks k' ∧ K k' at_ := by
 intro m
 induction m with
 | zero =>
   intro ks at_ hl h0 h1 hm
   have hk : K ks at_ := by
    by_cases hk : K ks at_
    · exact hk
    · have := zeO h0 (by omega) hk
      omega
   have hg : ks.getD at_.toNat false = true := hk
   obtain ⟨ha, hb⟩ := zh8 (ks := ks) h0 (by omega)
   refine ⟨ks, zax Go.Proofs.Tryd.f124 0 (by kernel_rfl) (by kernel_rfl) fun kk _ => ?_, Mk.refl hl, hk⟩
   rw [hg] at hb
   exact zmB kk b o _ rs ns at_ _ young [] [] true true c0 (fun _ => ⟨ha, hb, rfl⟩) (fun d => by cases d) (fun d => by cases d) (fun d => by cases d) (fun d => by cases d)
 | succ m ihm =>
   intro ks at_ hl h0 h1 hm
   obtain ⟨ha, hb⟩ := zh8 (ks := ks) h0 (by omega)
   by_cases hk : K ks at_
   · have hg : ks.getD at_.toNat false = true := hk
     rw [hg] at hb
     exact ⟨ks, zax Go.Proofs.Tryd.f124 (m + 1) (by kernel_rfl) (by kernel_rfl) fun kk _ => zmB kk b o _ rs ns at_ _ young [] [] true true c0 (fun _ => ⟨ha, hb, rfl⟩) (fun d => by cases d) (fun d => by cases d) (fun d => by cases d) (fun d => by cases d), Mk.refl hl, hk⟩
   · have hg : ks.getD at_.toNat false = false := by
      cases e : ks.getD at_.toNat false with
      | false => rfl
      | true => exact absurd e hk
     rw [hg] at hb
     have hset := zeO h0 (by omega) hk
     have hls : (ks.set at_.toNat true).length = c.length := by simpa using hl
     have hks : ∀ j, 0 ≤ j → (K (ks.set at_.toNat true) j ↔ (j = at_ ∨ K ks j)) := fun j hj => zo6 h0 (by omega) j hj
     have hc := zf1 (c := c) h0 h1
     have hbs := zhO ks at_.toNat
     generalize ks.set at_.toNat true = y at hset hls hks hbs
     have stop : ((cg c at_).l = true ∨ ¬ On o young at_) → Mk c (On o young) (· = at_) ks y ∧ K y at_ := fun hor => by
      refine ⟨⟨hls, fun i hi h => (hks i hi).2 (.inr h), fun i hi h h' => ?_⟩, (hks at_ h0).2 (.inl rfl)⟩
      rcases (hks i hi).1 h with rfl | h
      · exact ⟨fun hon hleaf => by
         rcases hor with h | h
         · rw [hleaf] at h; cases h
         · exact absurd hon h, .src rfl⟩
      · exact absurd h h'
     cases hleaf : (cg c at_).l with
     | true =>
       obtain ⟨h2, h3⟩ := stop (.inl hleaf)
       exact ⟨y, zax Go.Proofs.Tryd.f124 (m + 1) (by kernel_rfl) (by kernel_rfl) fun kk _ => zmB kk b o _ rs ns at_ _ young [] [] false false (cg c at_) (fun d => by cases d) (fun _ _ => ⟨ha, hb, ha, hb, hc, by rw [hbs]⟩) (fun _ d => by rw [hleaf] at d; cases d) (fun _ d => by rw [hleaf] at d; cases d) (fun _ d => by rw [hleaf] at d; cases d), h2, h3⟩
     | false =>
       by_cases hon : On o young at_
       · obtain ⟨⟨a0, a1⟩, b0, b1⟩ := hw at_ h0 h1 hleaf
         obtain ⟨k1, e1, m1, t1⟩ := ihm y _ hls a0 a1 (by omega)
         have hle := zl3 (l := y) (l' := k1) (by rw [m1.len, hls]) m1.mono
         obtain ⟨k2, e2, m2, t2⟩ := ihm k1 _ m1.len b0 b1 (by omega)
         refine ⟨k2, zax Go.Proofs.Tryd.f124 (m + 1) (by kernel_rfl) (by kernel_rfl) fun kk hkk => ?_, ?_, ?_⟩
         · have c1 := e1 kk (by omega)
           have c2 := e2 kk (by omega)
           rw [← hbs] at c1
           exact zmB kk b o _ rs ns at_ _ young (BD k1) (BD k2) false false (cg c at_) (fun d => by cases d) (fun _ d => by rw [hleaf] at d; cases d) (fun _ _ d1 d2 => absurd (of_decide_eq_true d2) (hon d1)) (fun _ _ _ _ => ⟨ha, hb, ha, hb, hc, c1, c2, rfl⟩) (fun _ _ _ => ⟨ha, hb, ha, hb, hc, c1, c2, rfl⟩)
         · have M0 : Mk c (On o young) (· = at_) y k1 := m1.src fun i hi => by rw [hi]; exact .a (.src rfl) hon hleaf
           have M1 : Mk c (On o young) (· = at_) k1 k2 := m2.src fun i hi => by rw [hi]; exact .b (.src rfl) hon hleaf
           have M := M0.trans hw M1
           refine ⟨M.len, fun i hi h => M.mono i hi ((hks i hi).2 (.inr h)), fun i hi h h' => ?_⟩
           by_cases hy : K y i
           · rcases (hks i hi).1 hy with rfl | hy
             · exact ⟨fun _ _ => ⟨m2.mono _ a0 t1, t2⟩, .src rfl⟩
             · exact absurd hy h'
           · exact M.new i hi h hy
         · exact m2.mono _ h0 (m1.mono _ h0 ((hks at_ h0).2 (.inl rfl)))
       · obtain ⟨h2, h3⟩ := stop (.inr hon)
         have hon' : young = true ∧ at_ < o := by
          unfold On at hon
          by_cases hy : young = true
          · exact ⟨hy, by
             by_cases hlt : at_ < o
             · exact hlt
             · exact absurd (fun _ => hlt) hon⟩
          · exact absurd (fun h => absurd h hy) hon
         exact ⟨y, zax Go.Proofs.Tryd.f124 (m + 1) (by kernel_rfl) (by kernel_rfl) fun kk _ => zmB kk b o _ rs ns at_ _ young [] [] false false (cg c at_) (fun d => by cases d) (fun _ d => by rw [hleaf] at d; cases d) (fun _ _ _ _ => ⟨ha, hb, ha, hb, hc, by rw [hbs]⟩) (fun _ _ _ d => absurd hon'.2 (of_decide_eq_false d)) (fun _ _ d => by rw [hon'.1] at d; cases d), h2, h3⟩
theorem zeM (b : Bool) (h : Hp) (g : Hg h) (young : Bool) (S : Int → Prop) {ks : List Bool} (hl : ks.length = h.cs.length) {x : Int} (hx : 0 ≤ x ∧ x < (h.cs.length : Int)) (hS : S x) :
 ∃ k', EvN 201 124 [.dat (Yd b h.o (CD h.cs) (ID h.rs) (ID h.ns)), .dat (I x), .bor (.lent 0) none, .dat (B young)] [] [some (4, BD ks)] ([], [], [some (4, BD k')]) ∧ Mk h.cs (On h.o young) S ks k' ∧ K k' x := by
 obtain ⟨k', e, m, t⟩ := zm2 b h.o h.cs (ID h.rs) (ID h.ns) young g.wf (lack ks) ks x hl hx.1 hx.2 (Nat.le_refl _)
 have h1 := zi0 ks
 have h2 := g.clen
 exact ⟨k', e.mono (by omega), m.src fun i hi => by rw [hi]; exact .src hS, t⟩
theorem znl (b : Bool) (h : Hp) (g : Hg h) : EvN 300 123 [.dat (YD b h.o h.cs h.rs h.ns)] [] [] ([.own 4 (BD (zfD h))], [], []) := by
 refine zax Go.Proofs.Tryd.f123 299 (by kernel_rfl) (by kernel_rfl) fun kk hkk => ?_
 have hcl := g.clen
 have hrl := g.rlen
 have hlr : (ID h.rs).length = h.rs.length := by simp
 have hlc : (CD h.cs).length = h.cs.length := by simp
 obtain ⟨ks, ⟨hm, ht⟩, hloop⟩ := zbh (kk := kk) (f := 123) (fn := Go.Proofs.Tryd.f123) (r := 3) (x := .exit 0) (fun i (ks : List Bool) => zmJ b h.o (CD h.cs) (ID h.rs) (ID h.ns) (BD ks) i) (fun ks => Nm [3] [.own 4 (BD ks)] [none] [] [])
  (fun i ks => Mk h.cs (On h.o false) (· ∈ h.rs) (List.replicate h.cs.length false) ks ∧ ∀ x ∈ h.rs.take i, K ks x) h.rs.length (by omega) (List.replicate h.cs.length false) ⟨Mk.refl (by simp), fun x hx => by simp at hx⟩
  (fun i ks hi ⟨hm, ht⟩ => by
   obtain ⟨x, hx⟩ := zbi hi
   have hxm := List.mem_of_getElem? hx
   obtain ⟨k', e, m', t'⟩ := zeM b h g false (· ∈ h.rs) hm.len (g.rin x hxm) hxm
   refine ⟨k', ⟨hm.trans g.wf m', fun y hy => ?_⟩, fun m s K hs hn => ?_⟩
   · rw [List.take_add_one, hx] at hy
     rcases List.mem_append.1 hy with hy | hy
     · exact m'.mono y (g.rin y (List.mem_of_mem_take hy)).1 (ht y hy)
     · have : y = x := by simpa using hy
       rw [this]; exact t'
   · refine zmo kk m b h.o _ _ _ _ i (BD k') x hs (fun _ => ⟨zey hx, e kk (by omega), fun s' hs' => hn s' ?_⟩) (fun d => absurd (of_decide_eq_false d) (by omega))
     rw [hs', wi i (by omega)]
     rfl)
  (fun ks _ m s K hs hK => zmo kk m b h.o _ _ _ _ _ [] 0 hs (fun d => absurd (of_decide_eq_true d) (by omega)) (fun _ => hK)) rfl
 have hL : ks = zfD h := by
  have h1 := hm.all g.wf fun i hi => ⟨(g.rin i hi).1, (g.rin i hi).2, ht i (by rw [List.take_length]; exact hi)⟩
  rw [h1]
  unfold zfD
  congr 1
  funext i
  exact propext ⟨Rch.on (fun _ _ => trivial), Rch.on (fun _ _ e => by cases e)⟩
 subst hL
 have hlm : (List.map Cl.d h.cs).length = h.cs.length := by simp
 exact liveS kk b h.o _ _ _ (BD (zfD h)) ⟨⟨by omega, by omega, by omega⟩, by rw [hlc, zjp]; exact hloop, rfl⟩
structure RInv (c : List Cl) (on : Int → Prop) (fr : List Int) (out : List Bool) (op : List Int) : Prop where
 len : out.length = c.length
 rin : ∀ x ∈ op, 0 ≤ x ∧ x < (c.length : Int)
 src : ∀ x ∈ fr, K out x ∨ x ∈ op
 shut : ∀ i, 0 ≤ i → K out i → on i → (cg c i).l = false → (K out (cg c i).a ∨ (cg c i).a ∈ op) ∧ (K out (cg c i).b ∨ (cg c i).b ∈ op)
 sound : ∀ i, 0 ≤ i → K out i → Rch c on (· ∈ fr) i
 soundO : ∀ x ∈ op, Rch c on (· ∈ fr) x
theorem RInv.start {c : List Cl} {on : Int → Prop} {fr : List Int} (h : ∀ x ∈ fr, 0 ≤ x ∧ x < (c.length : Int)) : RInv c on fr (List.replicate c.length false) fr :=
 ⟨by simp, h, fun x hx => .inr hx, fun i _ hk => absurd hk (zkr _ _), fun i _ hk => absurd hk (zkr _ _), fun x hx => .src hx⟩
theorem RInv.skip {c : List Cl} {on : Int → Prop} {fr l : List Int} {out : List Bool} {x : Int} (h : RInv c on fr out (l ++ [x])) (hk : K out x) : RInv c on fr out l := by
 have hm : ∀ y, y ∈ l ++ [x] → K out y ∨ y ∈ l := fun y hy => by
  rcases List.mem_append.1 hy with hy | hy
  · exact .inr hy
  · have : y = x := by simpa using hy
    rw [this]; exact .inl hk
 exact ⟨h.len, fun y hy => h.rin y (by simp [hy]), fun y hy => (h.src y hy).elim .inl (hm y), fun i hi hki ho hl => ⟨(h.shut i hi hki ho hl).1.elim .inl (hm _), (h.shut i hi hki ho hl).2.elim .inl (hm _)⟩, h.sound, fun y hy => h.soundO y (by simp [hy])⟩
theorem RInv.mark {c : List Cl} {on : Int → Prop} {fr l l' : List Int} {out : List Bool} {x : Int} (hw : Wf c) (h : RInv c on fr out (l ++ [x])) (hl' : ∀ y, y ∈ l' ↔ y ∈ l ∨ (on x ∧ (cg c x).l = false ∧ (y = (cg c x).a ∨ y = (cg c x).b))) : RInv c on fr (out.set x.toNat true) l' := by
 obtain ⟨x0, x1⟩ := h.rin x (by simp)
 have hx : Rch c on (· ∈ fr) x := h.soundO x (by simp)
 have hks : ∀ j, 0 ≤ j → (K (out.set x.toNat true) j ↔ (j = x ∨ K out j)) := fun j hj => zo6 x0 (by rw [h.len]; exact x1) j hj
 have hm : ∀ y, 0 ≤ y → y ∈ l ++ [x] → K (out.set x.toNat true) y ∨ y ∈ l' := fun y y0 hy => by
  rcases List.mem_append.1 hy with hy | hy
  · exact .inr ((hl' y).2 (.inl hy))
  · have : y = x := by simpa using hy
    rw [this]; exact .inl ((hks x x0).2 (.inl rfl))
 refine ⟨by simpa using h.len, fun y hy => ?_, fun y hy => ?_, fun i hi hk ho hl => ?_, fun i hi hk => ?_, fun y hy => ?_⟩
 · rcases (hl' y).1 hy with hy | ⟨_, hlf, hy⟩
   · exact h.rin y (by simp [hy])
   · rcases hy with rfl | rfl
     · exact (hw x x0 x1 hlf).1
     · exact (hw x x0 x1 hlf).2
 · rcases h.src y hy with hk | hy
   · by_cases y0 : 0 ≤ y
     · exact .inl ((hks y y0).2 (.inr hk))
     · left
       unfold K at hk ⊢
       have e : y.toNat = 0 := by omega
       rw [e] at hk ⊢
       rw [List.getD_eq_getElem?_getD, List.getElem?_set]
       rw [List.getD_eq_getElem?_getD] at hk
       split
       · split
         · rfl
         · rename_i hlt
           rw [List.getElem?_eq_none (by omega)] at hk
           cases hk
       · exact hk
   · exact hm y (h.rin y hy).1 hy
 · by_cases hix : i = x
   · subst hix
     exact ⟨.inr ((hl' _).2 (.inr ⟨ho, hl, .inl rfl⟩)), .inr ((hl' _).2 (.inr ⟨ho, hl, .inr rfl⟩))⟩
   · have hk0 : K out i := ((hks i hi).1 hk).resolve_left hix
     have hlt := K_lt hi hk0
     obtain ⟨⟨a0, _⟩, b0, _⟩ := hw i hi (by have := h.len; omega) hl
     have := h.shut i hi hk0 ho hl
     exact ⟨this.1.elim (fun h => .inl ((hks _ a0).2 (.inr h))) (hm _ a0), this.2.elim (fun h => .inl ((hks _ b0).2 (.inr h))) (hm _ b0)⟩
 · rcases (hks i hi).1 hk with rfl | hk
   · exact hx
   · exact h.sound i hi hk
 · rcases (hl' y).1 hy with hy | ⟨ho, hlf, hy⟩
   · exact h.soundO y (by simp [hy])
   · rcases hy with rfl | rfl
     · exact .a hx ho hlf
     · exact .b hx ho hlf
theorem RInv.done {c : List Cl} {on : Int → Prop} {fr : List Int} {out : List Bool} (hw : Wf c) (hfr : ∀ x ∈ fr, 0 ≤ x ∧ x < (c.length : Int)) (h : RInv c on fr out []) : out = zeB c.length (Rch c on (· ∈ fr)) := by
 refine zot (by rw [h.len, za9]) fun i hi => ?_
 rw [zbA hi]
 refine ⟨fun hk => ⟨by have := K_lt hi hk; have := h.len; omega, h.sound i hi hk⟩, fun ⟨_, hr⟩ => ?_⟩
 have no : ∀ y : Int, K out y ∨ y ∈ ([] : List Int) → K out y := fun y hy => hy.elim id fun h => by cases h
 exact (Rch.in_ hw (fun j hj => ⟨(hfr j hj).1, (hfr j hj).2, no j (h.src j hj)⟩) (fun j h0 hj ho hle => ⟨no _ (h.shut j h0 hj ho hle).1, no _ (h.shut j h0 hj ho hle).2⟩) hr).2.2
theorem zlY {op : List Int} (h : 0 < op.length) : ∃ l x, op = l ++ [x] := ⟨op.dropLast, op.getLast (by intro e; rw [e] at h; simp at h), (List.dropLast_concat_getLast _).symm⟩
theorem zjV {l : List Int} {x : Int} (hb : l.length ≤ 1000000) : w64 (((ID (l ++ [x])).length : Int) - 1) = (l.length : Int) ∧ (ID (l ++ [x]))[((l.length : Int)).toNat]? = some (I x) ∧ List.take ((l.length : Int)).toNat (ID (l ++ [x])) = ID l := by
 refine ⟨?_, ?_, ?_⟩
 · rw [List.length_map, List.length_append, zca (by simp; omega)]; simp
 · rw [Int.toNat_natCast, List.getElem?_map, List.getElem?_append_right (Nat.le_refl _)]; simp
 · rw [Int.toNat_natCast]
   show List.take l.length (List.map _ (l ++ [x])) = _
   rw [List.map_append, List.take_append_of_le_length (by simp), List.take_of_length_le (by simp)]
theorem zdR (b : Bool) (zs : List Int) (h : zs.length ≤ 1000000) : EvN 1 82 [.dat (.lst b (ID zs))] [] [] ([.own 3 (ID zs)], [], []) := by
 refine zgu (g := zcY 3 1) (by kernel_rfl) ?_
 have hw : zhW 1 (ID zs) = true := by
  induction zs with
  | nil => rfl
  | cons z zs ih => exact ih (by simp at h; omega)
 have hl : Nat.ble (ID zs).length 1000000 = true := by simpa using h
 unfold zcY
 simp only [hw, hl, Bool.and_self]
theorem zk6 (b b1 : Bool) (c : List Cl) (fr : List Int) (hw : Wf c) (hc : c.length ≤ 200) (hfr : ∀ x ∈ fr, 0 ≤ x ∧ x < (c.length : Int)) (hl : fr.length ≤ 1000) :
 EvN 3000 62 [.dat (.lst b (CD c)), .dat (.lst b1 (ID fr)), .fn 63 []] [] [] ([.own 4 (BD (zeB c.length (Rch c (fun _ => True) (· ∈ fr))))], [], []) := by
 refine zax Go.Proofs.Tryd.f62 2999 (by kernel_rfl) (by kernel_rfl) fun kk hkk => ?_
 have hlc : (CD c).length = c.length := by simp
 have hlack := zi0 (List.replicate c.length false)
 rw [List.length_replicate] at hlack
 obtain ⟨⟨out, op⟩, hP, hfin, hloop⟩ := zfV (kk := kk) (f := 62) (fn := Go.Proofs.Tryd.f62) (r := 2) (x := .exit 0) (fun (a : List Bool × List Int) => zjd b (CD c) (BD a.1) (ID a.2)) (fun a => Nm [7] [.own 4 (BD a.1)] [none] [] [])
  (fun a => RInv c (fun _ => True) fr a.1 a.2 ∧ 3 * lack a.1 + a.2.length ≤ 2000) (fun a => a.2 = []) (fun a => 3 * lack a.1 + a.2.length) (List.replicate c.length false, fr) (by simp only; omega) ⟨RInv.start hfr, by simp only; omega⟩
  (fun ⟨out, op⟩ ⟨hP, hb⟩ => by
   simp only at hP hb ⊢
   by_cases h0 : 0 < op.length
   · right
     obtain ⟨l, x, rfl⟩ := zlY h0
     simp only [List.length_append, List.length_cons, List.length_nil] at hb
     obtain ⟨e1, e2, e3⟩ := zjV (l := l) (x := x) (by omega)
     obtain ⟨x0, x1⟩ := hP.rin x (by simp)
     obtain ⟨ha, hbb⟩ := zh8 (ks := out) x0 (by rw [hP.len]; exact x1)
     have hlen : ((ID (l ++ [x])).length : Int) = (l.length : Int) + 1 := by simp
     have hcx := zf1 (c := c) x0 x1
     have h63 : EvN 1 63 [.dat (I x)] [] [] ([.dat (B true)], [], []) := zax Go.Proofs.Tryd.f63 0 (by kernel_rfl) (by kernel_rfl) fun kk _ => zpA kk x rfl
     have o1 : 0 ≤ w64 (((ID (l ++ [x])).length : Int) - 1) ∧ w64 (((ID (l ++ [x])).length : Int) - 1) < ((ID (l ++ [x])).length : Int) := by rw [e1, hlen]; omega
     have o2 : (ID (l ++ [x]))[(w64 (((ID (l ++ [x])).length : Int) - 1)).toNat]? = some (I x) := by rw [e1]; exact e2
     have o3 : 0 ≤ w64 (((ID (l ++ [x])).length : Int) - 1) ∧ w64 (((ID (l ++ [x])).length : Int) - 1) ≤ ((ID (l ++ [x])).length : Int) := ⟨o1.1, by omega⟩
     have e4 : List.take (w64 (((ID (l ++ [x])).length : Int) - 1)).toNat (ID (l ++ [x])) = ID l := by rw [e1]; exact e3
     by_cases hk : K out x
     · have hg : out.getD x.toNat false = true := hk
       rw [hg] at hbb
       refine ⟨(out, l), ⟨hP.skip hk, by simp only; omega⟩, by simp, fun m s K hs hn => ?_⟩
       exact zeP kk m b _ _ _ true x true true c0 hs (fun _ _ => ⟨o1, o2, o3, ha, hbb, fun s' hs' => hn s' (by rw [hs', e4]; rfl)⟩) (fun _ d => by cases d) (fun _ d => by cases d) (fun _ d => by cases d) (fun d => absurd (of_decide_eq_false d) (by omega))
     · have hg : out.getD x.toNat false = false := by
        cases e : out.getD x.toNat false with
        | false => rfl
        | true => exact absurd e hk
       rw [hg] at hbb
       have hset := zeO x0 (by rw [hP.len]; exact x1) hk
       have hbs := zhO out x.toNat
       cases hleaf : (cg c x).l with
       | true =>
         refine ⟨(out.set x.toNat true, l), ⟨hP.mark hw (fun y => by simp [hleaf]), by simp only; omega⟩, by simp; omega, fun m s K hs hn => ?_⟩
         exact zeP kk m b _ _ _ true x false false (cg c x) hs (fun _ d => by cases d) (fun _ _ d => by rw [hleaf] at d; cases d) (fun _ _ d => by rw [hleaf] at d; cases d) (fun _ _ _ => ⟨o1, o2, o3, ha, hbb, ha, hbb, hcx, fun s' hs' => hn s' (by rw [hs', e4, hbs]; rfl)⟩) (fun d => absurd (of_decide_eq_false d) (by omega))
       | false =>
         refine ⟨(out.set x.toNat true, l ++ [(cg c x).a, (cg c x).b]), ⟨hP.mark hw (fun y => by simp [hleaf]), by simp; omega⟩, by simp; omega, fun m s K hs hn => ?_⟩
         exact zeP kk m b _ _ _ true x false false (cg c x) hs (fun _ d => by cases d) (fun _ _ _ _ => ⟨o1, o2, o3, ha, hbb, ha, hbb, hcx, h63 kk (by omega), by rw [e4]; simp; omega, fun s' hs' => hn s' (by rw [hs', e4, hbs]; simp [zjd, ID])⟩) (fun _ _ _ d => by cases d) (fun _ _ d => by rw [hleaf] at d; cases d) (fun d => absurd (of_decide_eq_false d) (by omega))
   · left
     exact List.eq_nil_of_length_eq_zero (by omega))
  (fun ⟨out, op⟩ _ hf m s K hs hK => by
   simp only at hf
   subst hf
   exact zeP kk m b _ _ _ true 0 true true c0 hs (fun d => absurd (of_decide_eq_true d) (by simp)) (fun d => absurd (of_decide_eq_true d) (by simp)) (fun d => absurd (of_decide_eq_true d) (by simp)) (fun d => absurd (of_decide_eq_true d) (by simp)) (fun _ => hK)) (s0 := zjd b (CD c) (List.replicate (CD c).length (B false)) (ID fr)) (by rw [hlc, zjp])
 simp only at hfin hP
 subst hfin
 have hout := hP.1.done hw hfr
 subst hout
 exact zpC kk b b1 _ _ (ID fr) _ ⟨zdR b1 fr (by omega) kk (by omega), ⟨by omega, by omega, by omega⟩, hloop, rfl⟩
theorem zkj (x : Int) (b : Bool) (o : Int) (cs : List Dat) (rs : List Int) (ns : List Dat) (h : rs.length ≤ 1048576) : EvN 1048582 85 [.dat (I x), .ptr (.up 0) 0] [[.dat (I o), .dat (.lst b cs), .dat (.lst b (ID rs)), .dat (.lst b ns)]] [] ([.dat (B (decide (o ≤ x) || hasB rs x))], [[.dat (I o), .dat (.lst b cs), .dat (.lst b (ID rs)), .dat (.lst b ns)]], []) :=
 zax Go.Proofs.Tryd.f85 1048581 (by kernel_rfl) (by kernel_rfl) fun kk hkk => zoq kk x b o _ _ _ (hasB rs x) (fun d => by rw [d]; rfl) (fun d => ⟨zi9 b rs x h kk (by omega), by rw [d]; rfl⟩)
theorem zls (b b1 : Bool) (c : List Cl) (fr : List Int) (b2 : Bool) (o : Int) (cs2 : List Dat) (rs : List Int) (ns : List Dat) (hr : rs.length ≤ 1000) (hw : Wf c) (hc : c.length ≤ 200) (hfr : ∀ x ∈ fr, 0 ≤ x ∧ x < (c.length : Int)) (hl : fr.length ≤ 1000) :
 EvN 1050000 62 [.dat (.lst b (CD c)), .dat (.lst b1 (ID fr)), .fn 85 [.up 0]] [[.dat (I o), .dat (.lst b2 cs2), .dat (.lst b2 (ID rs)), .dat (.lst b2 ns)]] []
  ([.own 4 (BD (zeB c.length (Rch c (fun i => o ≤ i ∨ i ∈ rs) (· ∈ fr))))], [[.dat (I o), .dat (.lst b2 cs2), .dat (.lst b2 (ID rs)), .dat (.lst b2 ns)]], []) := by
 refine zax Go.Proofs.Tryd.f62 1049999 (by kernel_rfl) (by kernel_rfl) fun kk hkk => ?_
 have hlc : (CD c).length = c.length := by simp
 have hlack := zi0 (List.replicate c.length false)
 rw [List.length_replicate] at hlack
 obtain ⟨⟨out, op⟩, hP, hfin, hloop⟩ := zfV (kk := kk) (f := 62) (fn := Go.Proofs.Tryd.f62) (r := 2) (x := .exit 0) (fun (a : List Bool × List Int) => zji b (CD c) (BD a.1) (ID a.2) b2 o cs2 (ID rs) ns) (fun a => Nm [7] [.own 4 (BD a.1)] [none] [[.dat (I o), .dat (.lst b2 cs2), .dat (.lst b2 (ID rs)), .dat (.lst b2 ns)]] [])
  (fun a => RInv c (fun i => o ≤ i ∨ i ∈ rs) fr a.1 a.2 ∧ 3 * lack a.1 + a.2.length ≤ 2000) (fun a => a.2 = []) (fun a => 3 * lack a.1 + a.2.length) (List.replicate c.length false, fr) (by simp only; omega) ⟨RInv.start hfr, by simp only; omega⟩
  (fun ⟨out, op⟩ ⟨hP, hb⟩ => by
   simp only at hP hb ⊢
   by_cases h0 : 0 < op.length
   · right
     obtain ⟨l, x, rfl⟩ := zlY h0
     simp only [List.length_append, List.length_cons, List.length_nil] at hb
     obtain ⟨e1, e2, e3⟩ := zjV (l := l) (x := x) (by omega)
     obtain ⟨x0, x1⟩ := hP.rin x (by simp)
     obtain ⟨ha, hbb⟩ := zh8 (ks := out) x0 (by rw [hP.len]; exact x1)
     have hlen : ((ID (l ++ [x])).length : Int) = (l.length : Int) + 1 := by simp
     have hcx := zf1 (c := c) x0 x1
     have h85 := zkj x b2 o cs2 rs ns (by omega) kk (by omega)
     have hon : (decide (o ≤ x) || hasB rs x) = true ↔ (o ≤ x ∨ x ∈ rs) := by rw [Bool.or_eq_true, decide_eq_true_eq, zfd]
     generalize (decide (o ≤ x) || hasB rs x) = gg at h85 hon
     have o1 : 0 ≤ w64 (((ID (l ++ [x])).length : Int) - 1) ∧ w64 (((ID (l ++ [x])).length : Int) - 1) < ((ID (l ++ [x])).length : Int) := by rw [e1, hlen]; omega
     have o2 : (ID (l ++ [x]))[(w64 (((ID (l ++ [x])).length : Int) - 1)).toNat]? = some (I x) := by rw [e1]; exact e2
     have o3 : 0 ≤ w64 (((ID (l ++ [x])).length : Int) - 1) ∧ w64 (((ID (l ++ [x])).length : Int) - 1) ≤ ((ID (l ++ [x])).length : Int) := ⟨o1.1, by omega⟩
     have e4 : List.take (w64 (((ID (l ++ [x])).length : Int) - 1)).toNat (ID (l ++ [x])) = ID l := by rw [e1]; exact e3
     by_cases hk : K out x
     · have hg : out.getD x.toNat false = true := hk
       rw [hg] at hbb
       refine ⟨(out, l), ⟨hP.skip hk, by simp only; omega⟩, by simp, fun m s K hs hn => ?_⟩
       exact zdI kk m b _ _ _ b2 o cs2 _ ns true x true true c0 hs (fun _ _ => ⟨o1, o2, o3, ha, hbb, fun s' hs' => hn s' (by rw [hs', e4]; rfl)⟩) (fun _ d => by cases d) (fun _ d => by cases d) (fun _ d => by cases d) (fun d => absurd (of_decide_eq_false d) (by omega))
     · have hg : out.getD x.toNat false = false := by
        cases e : out.getD x.toNat false with
        | false => rfl
        | true => exact absurd e hk
       rw [hg] at hbb
       have hset := zeO x0 (by rw [hP.len]; exact x1) hk
       have hbs := zhO out x.toNat
       cases hleaf : (cg c x).l with
       | true =>
         refine ⟨(out.set x.toNat true, l), ⟨hP.mark hw (fun y => by simp [hleaf]), by simp only; omega⟩, by simp; omega, fun m s K hs hn => ?_⟩
         exact zdI kk m b _ _ _ b2 o cs2 _ ns true x false false (cg c x) hs (fun _ d => by cases d) (fun _ _ d => by rw [hleaf] at d; cases d) (fun _ _ d => by rw [hleaf] at d; cases d) (fun _ _ _ => ⟨o1, o2, o3, ha, hbb, ha, hbb, hcx, fun s' hs' => hn s' (by rw [hs', e4, hbs]; rfl)⟩) (fun d => absurd (of_decide_eq_false d) (by omega))
       | false =>
         cases gg with
         | true =>
           have hox := hon.1 rfl
           refine ⟨(out.set x.toNat true, l ++ [(cg c x).a, (cg c x).b]), ⟨hP.mark hw (fun y => by simp [hleaf, hox]), by simp; omega⟩, by simp; omega, fun m s K hs hn => ?_⟩
           exact zdI kk m b _ _ _ b2 o cs2 _ ns true x false false (cg c x) hs (fun _ d => by cases d) (fun _ _ _ _ => ⟨o1, o2, o3, ha, hbb, ha, hbb, hcx, h85, by rw [e4]; simp; omega, fun s' hs' => hn s' (by rw [hs', e4, hbs]; simp [zji, ID])⟩) (fun _ _ _ d => by cases d) (fun _ _ d => by rw [hleaf] at d; cases d) (fun d => absurd (of_decide_eq_false d) (by omega))
         | false =>
           have hox : ¬ (o ≤ x ∨ x ∈ rs) := fun h => by cases hon.2 h
           refine ⟨(out.set x.toNat true, l), ⟨hP.mark hw (fun y => by simp [hox]), by simp only; omega⟩, by simp; omega, fun m s K hs hn => ?_⟩
           exact zdI kk m b _ _ _ b2 o cs2 _ ns false x false false (cg c x) hs (fun _ d => by cases d) (fun _ _ _ d => by cases d) (fun _ _ _ _ => ⟨o1, o2, o3, ha, hbb, ha, hbb, hcx, h85, fun s' hs' => hn s' (by rw [hs', e4, hbs]; rfl)⟩) (fun _ _ d => by rw [hleaf] at d; cases d) (fun d => absurd (of_decide_eq_false d) (by omega))
   · left
     exact List.eq_nil_of_length_eq_zero (by omega))
  (fun ⟨out, op⟩ _ hf m s K hs hK => by
   simp only at hf
   subst hf
   exact zdI kk m b _ _ _ b2 o cs2 _ ns true 0 true true c0 hs (fun d => absurd (of_decide_eq_true d) (by simp)) (fun d => absurd (of_decide_eq_true d) (by simp)) (fun d => absurd (of_decide_eq_true d) (by simp)) (fun d => absurd (of_decide_eq_true d) (by simp)) (fun _ => hK)) (s0 := zji b (CD c) (List.replicate (CD c).length (B false)) (ID fr) b2 o cs2 (ID rs) ns) (by rw [hlc, zjp])
 simp only at hfin hP
 subst hfin
 have hout := hP.1.done hw hfr
 subst hout
 exact zpU kk b b1 _ _ (ID fr) _ b2 o cs2 _ ns ⟨zdR b1 fr (by omega) kk (by omega), ⟨by omega, by omega, by omega⟩, hloop, rfl⟩
end Go.Den
namespace Go.Den
open Go
set_option linter.unusedVariables false
set_option maxRecDepth 100000
abbrev HO (h : Hp) : D := .seq false [.dat (I h.o), .own 97 (CD h.cs), .own 3 (ID h.rs), .own 3 (ID h.ns)]
theorem zd8 {α : Type} (f : α → Dat) (hf : ∀ x, (f x).clean = true) : ∀ l : List α, Dat.cleans (l.map f) = true
 | [] => rfl
 | x :: l => by
   show ((f x).clean && Dat.cleans (l.map f)) = true
   rw [hf x, zd8 f hf l]; rfl
theorem znR (cs : List Cl) : Dat.cleans (CD cs) = true := zd8 _ (fun _ => rfl) cs
theorem zhg (zs : List Int) : Dat.cleans (ID zs) = true := zd8 _ (fun _ => rfl) zs
theorem zay (h : Hp) : D.cleans [HO h] = true := by
 show (((true && (Dat.cleans (CD h.cs) && (Dat.cleans (ID h.rs) && (Dat.cleans (ID h.ns) && true)))) : Bool) && true) = true
 rw [znR, zhg, zhg]; rfl
theorem zgq {ks : List Bool} {i : Nat} (h : i < ks.length) : ((0 ≤ (i : Int) ∧ (i : Int) < ((BD ks).length : Int)) ∧ (BD ks)[((i : Int)).toNat]? = some (B (ks.getD i false))) := by
 have := zh8 (ks := ks) (i := (i : Int)) (by omega) (by omega)
 rw [show ((i : Int)).toNat = i from Int.toNat_natCast i] at this
 rw [Int.toNat_natCast]
 exact this
theorem zn6 {zs : List Int} {i : Nat} (h : i < zs.length) : ((0 ≤ (i : Int) ∧ (i : Int) < ((ID zs).length : Int)) ∧ (ID zs)[((i : Int)).toNat]? = some (I (zs.getD i 0))) := by
 obtain ⟨x, hx⟩ := zbi h
 rw [gd hx]
 exact zey hx
theorem zkQ {m : List Bool} {n : Nat} {t : List Int} (h : Tb m n t) (hm : m.length = n) {j : Int} (h0 : 0 ≤ j) (hk : K m j) : (0 ≤ j ∧ j < ((ID t).length : Int)) ∧ (ID t)[j.toNat]? = some (I (cnt m j)) := by
 obtain ⟨h1, h2⟩ := h.get hm h0 hk
 exact ⟨by simpa using h1, gm (f := (I ·)) h2⟩
def TbP (m : List Bool) (n i : Nat) (t : List Int) : Prop := t.length = n ∧ ∀ j : Nat, j < i → K m (j : Int) → t.getD j 0 = cnt m (j : Int)
theorem TbP.set {m : List Bool} {n i : Nat} {t : List Int} (h : TbP m n i t) (hi : i < n) : TbP m n (i + 1) (t.set i (cnt m (i : Int))) := by
 refine ⟨by rw [List.length_set]; exact h.1, fun j hj hk => ?_⟩
 by_cases e : j = i
 · subst e
   rw [List.getD_eq_getElem?_getD, List.getElem?_set_self (by have := h.1; omega)]
   rfl
 · rw [List.getD_eq_getElem?_getD, List.getElem?_set_ne (by omega), ← List.getD_eq_getElem?_getD]
   exact h.2 j (by omega) hk
theorem TbP.skip {m : List Bool} {n i : Nat} {t : List Int} (h : TbP m n i t) (hk : ¬ K m (i : Int)) : TbP m n (i + 1) t :=
 ⟨h.1, fun j hj hkj => h.2 j (by
  by_cases e : j = i
  · subst e; exact absurd hkj hk
  · omega) hkj⟩
theorem TbP.done {m : List Bool} {n : Nat} {t : List Int} (h : TbP m n n t) (hm : m.length = n) : Tb m n t :=
 ⟨h.1, fun j hk => h.2 j (by have := K_lt (Int.natCast_nonneg j) hk; omega) hk⟩
theorem zjR {m : List Bool} {x : Cl} (h : x.l = false) : Dat.agg [B x.l, I x.n, I (cnt m x.a), I (cnt m x.b)] = (mvC m x).d := by
 unfold mvC
 rw [if_neg (by rw [h]; simp)]
theorem zjO {m : List Bool} {x : Cl} (h : x.l = true) : Dat.agg [B x.l, I x.n, I x.a, I x.b] = (mvC m x).d := by
 unfold mvC
 rw [if_pos h]
theorem zg5 {m : List Bool} {c : List Cl} {i : Nat} {x : Cl} (hm : c.length = m.length) (hx : c[i]? = some x) (hb : m[i]? = some true) : CD (mvCs m (c.take i) (m.take i)) ++ [(mvC m x).d] = CD (mvCs m (c.take (i + 1)) (m.take (i + 1))) := by
 rw [ziq m c m i x true hm hx hb]
 simp [CD]
theorem zlL {m : List Bool} {c : List Cl} {i : Nat} {x : Cl} (hm : c.length = m.length) (hx : c[i]? = some x) (hb : m[i]? = some false) : CD (mvCs m (c.take i) (m.take i)) = CD (mvCs m (c.take (i + 1)) (m.take (i + 1))) := by
 rw [ziq m c m i x false hm hx hb]
 simp [CD]
theorem zlB (m : List Bool) {rs : List Int} {i : Nat} {x : Int} (hx : rs[i]? = some x) : ID ((rs.take i).map (cnt m)) ++ [I (cnt m x)] = ID ((rs.take (i + 1)).map (cnt m)) := by
 rw [List.take_add_one, hx]
 simp [ID]
theorem zod {m : List Bool} {c : List Cl} {i : Nat} (hm : m.length ≤ 200) : (CD (mvCs m (c.take i) (m.take i))).length + 1 ≤ 2147483648 := by
 have h1 := zjI m (c.take i) (m.take i)
 rw [List.length_map]
 rw [List.length_take] at h1
 omega
theorem getM {ks : List Bool} {i : Nat} (h : i < ks.length) : ks[i]? = some (ks.getD i false) := by
 rw [List.getD_eq_getElem?_getD, List.getElem?_eq_getElem h]; rfl
theorem K_nat {ks : List Bool} {i : Nat} : K ks (i : Int) ↔ ks.getD i false = true := by unfold K; rw [Int.toNat_natCast]
theorem zjE (b kb : Bool) (h : Hp) (g : Hg h) (m : List Bool) (hm : m.length = h.cs.length) (hsh : Shut m h.cs) (hr : ∀ x ∈ h.rs, K m x) : EvN 1000 122 [.dat (YD b h.o h.cs h.rs h.ns), .dat (.lst kb (BD m))] [] [] ([HO (mvH m h)], [], []) := by
 refine zax Go.Proofs.Tryd.f122 999 (by kernel_rfl) (by kernel_rfl) fun kk hkk => ?_
 have hcl := g.clen
 have hrl := g.rlen
 have hlm : (List.map Cl.d h.cs).length = h.cs.length := by simp
 have hlc : (CD h.cs).length = h.cs.length := by simp
 have hlb : (BD m).length = m.length := by simp
 have hlr : (ID h.rs).length = h.rs.length := by simp
 obtain ⟨t, ht, la⟩ := zbh (kk := kk) (f := 122) (fn := Go.Proofs.Tryd.f122) (r := 4) (x := .exit 0) (fun i (t : List Int) => zgi b h.o (CD h.cs) (ID h.rs) (ID h.ns) kb (BD m) (ID t) (cnt m (i : Int)) (i : Int))
  (fun t => Nm [1, 2, 4, 5, 6] [.dat (.lst kb (BD m)), .ptr (.loc 2) 0, .ptr (.loc 4) 0, .own 3 (ID t), .dat (I (cnt m (m.length : Int)))] [none, Yb b h.o (CD h.cs) (ID h.rs) (ID h.ns), some (Yo 0 [] [] []), none, none] [] [])
  (TbP m m.length) m.length (by omega) (List.replicate m.length 0) ⟨by simp, fun j hj => by omega⟩
  (fun i t hi hP => by
   have hb := zgq hi
   have ht := hP.1
   have hti := zn6 (zs := t) (i := i) (by omega)
   have hle := zjo m i
   cases hk : m.getD i false with
   | true =>
     rw [hk] at hb
     refine ⟨_, hP.set (by omega), fun q s K hs hn => zjj kk q b h.o _ _ _ kb _ _ _ i true (t.getD i 0) hs (fun _ _ => ⟨hb, hti.1, hti.2, fun s' hs' => hn s' ?_⟩) (fun _ d => by cases d) (fun d => absurd (of_decide_eq_false d) (by omega))⟩
     rw [hs', wi i (by omega), Int.toNat_natCast, zmz, zca (by omega), ← zl5 m i hi (K_nat.2 hk)]
     rfl
   | false =>
     rw [hk] at hb
     have hnk : ¬ K m (i : Int) := fun h => by rw [K_nat, hk] at h; cases h
     refine ⟨_, hP.skip hnk, fun q s K hs hn => zjj kk q b h.o _ _ _ kb _ _ _ i false 0 hs (fun _ d => by cases d) (fun _ _ => ⟨hb, fun s' hs' => hn s' ?_⟩) (fun d => absurd (of_decide_eq_false d) (by omega))⟩
     rw [hs', wi i (by omega), ← zlA m i hi hnk]
     rfl)
  (fun t _ q s K hs hK => zjj kk q b h.o _ _ _ kb _ _ _ _ true 0 hs (fun d => absurd (of_decide_eq_true d) (by omega)) (fun d => absurd (of_decide_eq_true d) (by omega)) (fun _ => hK))
  (s0 := zgi b h.o (CD h.cs) (ID h.rs) (ID h.ns) kb (BD m) (List.replicate (CD h.cs).length (I 0)) 0 0) (by rw [show (CD h.cs).length = m.length by omega, zol]; simp [zj6])
 have htb : Tb m m.length t := ht.done rfl
 have lb := zaH (kk := kk) (f := 122) (fn := Go.Proofs.Tryd.f122) (r := 12) (x := .exit 2) (s' := Nm [2, 4, 5, 9] [.ptr (.loc 2) 0, .ptr (.loc 4) 0, .own 3 (ID t), .ptr (.loc 9) 0] [Yb b h.o (CD h.cs) (ID h.rs) (ID h.ns), some (Yo 0 [] [] []), none, some (Yo (cnt m m.length) (CD (mvCs m h.cs m)) [] [])] [] [])
  (fun i => zgK b h.o (CD h.cs) (ID h.rs) (ID h.ns) kb (BD m) (ID t) (cnt m m.length) (CD (mvCs m (h.cs.take i) (m.take i))) i) h.cs.length (by omega)
  (fun i hi q s K hs hn => by
   obtain ⟨x, hx⟩ := zbi hi
   have hxd := ih (gm (f := Cl.d) hx)
   have hb := zgq (ks := m) (i := i) (by omega)
   have hmi := getM (ks := m) (i := i) (by omega)
   have hlim := zod (m := m) (c := h.cs) (i := i) (by omega)
   have hcx : cg h.cs (i : Int) = x := zk1 (by rw [Int.toNat_natCast]; exact hx)
   cases hk : m.getD i false with
   | false =>
     rw [hk] at hb hmi
     refine zg8 kk q b h.o _ _ _ kb _ _ _ _ i x false 0 0 hs (fun _ _ => ⟨hxd, hb, fun s' hs' => hn s' ?_⟩) (fun _ d => by cases d) (fun _ d => by cases d) (fun d => absurd (of_decide_eq_false d) (by omega))
     rw [hs', wi i (by omega), ← zlL hm.symm hx hmi]
     rfl
   | true =>
     rw [hk] at hb hmi
     cases hl : x.l with
     | true =>
       refine zg8 kk q b h.o _ _ _ kb _ _ _ _ i x true 0 0 hs (fun _ d => by cases d) (fun _ _ d => by rw [hl] at d; cases d) (fun _ _ _ => ⟨hxd, hb, hlim, fun s' hs' => hn s' ?_⟩) (fun d => absurd (of_decide_eq_false d) (by omega))
       rw [hs', wi i (by omega), zjO hl, zg5 hm.symm hx hmi]
       rfl
     | false =>
       obtain ⟨⟨a0, a1⟩, b0, b1⟩ := hsh i (K_nat.2 hk) (by rw [hcx]; exact hl)
       rw [hcx] at a0 a1 b0 b1
       have ta := zkQ htb rfl a0 a1
       have tb := zkQ htb rfl b0 b1
       refine zg8 kk q b h.o _ _ _ kb _ _ _ _ i x true (cnt m x.a) (cnt m x.b) hs (fun _ d => by cases d) (fun _ _ _ => ⟨hxd, hb, ta.1, ta.2, tb.1, tb.2, hlim, fun s' hs' => hn s' ?_⟩) (fun _ _ d => by rw [hl] at d; cases d) (fun d => absurd (of_decide_eq_false d) (by omega))
       rw [hs', wi i (by omega), zjR hl, zg5 hm.symm hx hmi]
       rfl)
  (fun q s K hs hK => zg8 kk q b h.o _ _ _ kb _ _ _ _ _ c0 true 0 0 hs (fun d => absurd (of_decide_eq_true d) (by omega)) (fun d => absurd (of_decide_eq_true d) (by omega)) (fun d => absurd (of_decide_eq_true d) (by omega)) (fun _ => by
   rw [List.take_length, show h.cs.length = m.length from hm.symm, List.take_length]; exact hK))
  (s0 := zgK b h.o (CD h.cs) (ID h.rs) (ID h.ns) kb (BD m) (ID t) (cnt m m.length) [] 0) (by simp [mvCs])
 have lc := zaH (kk := kk) (f := 122) (fn := Go.Proofs.Tryd.f122) (r := 21) (x := .exit 4) (s' := Nm [4, 9] [.ptr (.loc 4) 0, .ptr (.loc 9) 0] [some (Yo 0 [] [] []), some (Yo (cnt m m.length) (CD (mvCs m h.cs m)) (ID (h.rs.map (cnt m))) [])] [] [])
  (fun i => zgB b h.o (CD h.cs) (ID h.rs) (ID h.ns) (ID t) (cnt m m.length) (CD (mvCs m h.cs m)) (ID ((h.rs.take i).map (cnt m))) i) h.rs.length (by omega)
  (fun i hi q s K hs hn => by
   obtain ⟨x, hx⟩ := zbi hi
   have hxm := List.mem_of_getElem? hx
   have tx := zkQ htb rfl (g.rin x hxm).1 (hr x hxm)
   refine zlo kk q b h.o _ _ _ _ _ _ _ i x (cnt m x) hs (fun _ => ⟨zey hx, tx.1, tx.2, by simp; omega, fun s' hs' => hn s' ?_⟩) (fun d => absurd (of_decide_eq_false d) (by omega))
   rw [hs', wi i (by omega), zlB m hx]
   rfl)
  (fun q s K hs hK => zlo kk q b h.o _ _ _ _ _ _ _ _ 0 0 hs (fun d => absurd (of_decide_eq_true d) (by omega)) (fun _ => by rw [List.take_length]; exact hK))
  (s0 := zgB b h.o (CD h.cs) (ID h.rs) (ID h.ns) (ID t) (cnt m m.length) (CD (mvCs m h.cs m)) [] 0) (by simp)
 exact moveS kk b h.o _ _ _ kb _ (ID t) (cnt m m.length) (CD (mvCs m h.cs m)) (ID (h.rs.map (cnt m))) ⟨⟨by omega, by omega, by omega⟩, la, lb, lc, rfl⟩
theorem zoF (b kb rb : Bool) (h : Hp) (g : Hg h) (m : List Bool) (hm : m.length = h.cs.length) (hsh : Shut m h.cs) (hr : ∀ x ∈ h.rs, K m x) : EvN 1000 118 [.dat (.lst b (CD h.cs)), .dat (.lst rb (ID h.rs)), .dat (.lst kb (BD m))] [] [] ([.own 97 (CD (mvCs m h.cs m)), .own 3 (ID (h.rs.map (cnt m)))], [], []) := by
 refine zax Go.Proofs.Tryd.f118 999 (by kernel_rfl) (by kernel_rfl) fun kk hkk => ?_
 have hcl := g.clen
 have hrl := g.rlen
 have hlm : (List.map Cl.d h.cs).length = h.cs.length := by simp
 have hlc : (CD h.cs).length = h.cs.length := by simp
 have hlb : (BD m).length = m.length := by simp
 have hlr : (ID h.rs).length = h.rs.length := by simp
 obtain ⟨t, ht, la⟩ := zbh (kk := kk) (f := 118) (fn := Go.Proofs.Tryd.f118) (r := 4) (x := .exit 0) (fun i (t : List Int) => zgr b kb rb (CD h.cs) (ID h.rs) (BD m) (ID t) (cnt m (i : Int)) (i : Int))
  (fun t => Nm [0, 1, 2, 8, 9, 10] [.dat (.lst b (CD h.cs)), .dat (.lst rb (ID h.rs)), .dat (.lst kb (BD m)), .own 3 (ID t), .own 97 [], .own 3 []] [none, none, none, none, none, none] [] [])
  (TbP m m.length) m.length (by omega) (List.replicate m.length 0) ⟨by simp, fun j hj => by omega⟩
  (fun i t hi hP => by
   have hb := zgq hi
   have ht := hP.1
   have hti := zn6 (zs := t) (i := i) (by omega)
   have hle := zjo m i
   cases hk : m.getD i false with
   | true =>
     rw [hk] at hb
     refine ⟨_, hP.set (by omega), fun q s K hs hn => zmg kk q b kb rb _ _ _ _ _ i true (t.getD i 0) hs (fun _ _ => ⟨hb, hti.1, hti.2, fun s' hs' => hn s' ?_⟩) (fun _ d => by cases d) (fun d => absurd (of_decide_eq_false d) (by omega))⟩
     rw [hs', wi i (by omega), Int.toNat_natCast, zmz, zca (by omega), ← zl5 m i hi (K_nat.2 hk)]
     rfl
   | false =>
     rw [hk] at hb
     have hnk : ¬ K m (i : Int) := fun h => by rw [K_nat, hk] at h; cases h
     refine ⟨_, hP.set (by omega), fun q s K hs hn => zmg kk q b kb rb _ _ _ _ _ i false (t.getD i 0) hs (fun _ d => by cases d) (fun _ _ => ⟨hb, hti.1, hti.2, fun s' hs' => hn s' ?_⟩) (fun d => absurd (of_decide_eq_false d) (by omega))⟩
     rw [hs', wi i (by omega), Int.toNat_natCast, zmz, ← zlA m i hi hnk]
     rfl)
  (fun t _ q s K hs hK => zmg kk q b kb rb _ _ _ _ _ _ true 0 hs (fun d => absurd (of_decide_eq_true d) (by omega)) (fun d => absurd (of_decide_eq_true d) (by omega)) (fun _ => hK))
  (s0 := zgr b kb rb (CD h.cs) (ID h.rs) (BD m) (List.replicate (CD h.cs).length (I 0)) 0 0) (by rw [show (CD h.cs).length = m.length by omega, zol]; simp [zj6])
 have htb : Tb m m.length t := ht.done rfl
 have lb := zaH (kk := kk) (f := 118) (fn := Go.Proofs.Tryd.f118) (r := 11) (x := .exit 2) (s' := Nm [1, 8, 9, 10] [.dat (.lst rb (ID h.rs)), .own 3 (ID t), .own 97 (CD (mvCs m h.cs m)), .own 3 []] [none, none, none, none] [] [])
  (fun i => zgI b kb rb (CD h.cs) (ID h.rs) (BD m) (ID t) (CD (mvCs m (h.cs.take i) (m.take i))) i) h.cs.length (by omega)
  (fun i hi q s K hs hn => by
   obtain ⟨x, hx⟩ := zbi hi
   have hxd := ih (gm (f := Cl.d) hx)
   have hb := zgq (ks := m) (i := i) (by omega)
   have hmi := getM (ks := m) (i := i) (by omega)
   have hlim := zod (m := m) (c := h.cs) (i := i) (by omega)
   have hcx : cg h.cs (i : Int) = x := zk1 (by rw [Int.toNat_natCast]; exact hx)
   cases hk : m.getD i false with
   | false =>
     rw [hk] at hb hmi
     refine zjL kk q b kb rb _ _ _ _ _ i x false 0 0 hs (fun _ _ => ⟨hxd, hb, fun s' hs' => hn s' ?_⟩) (fun _ d => by cases d) (fun _ d => by cases d) (fun d => absurd (of_decide_eq_false d) (by omega))
     rw [hs', wi i (by omega), ← zlL hm.symm hx hmi]
     rfl
   | true =>
     rw [hk] at hb hmi
     cases hl : x.l with
     | true =>
       refine zjL kk q b kb rb _ _ _ _ _ i x true 0 0 hs (fun _ d => by cases d) (fun _ _ d => by rw [hl] at d; cases d) (fun _ _ _ => ⟨hxd, hb, hlim, fun s' hs' => hn s' ?_⟩) (fun d => absurd (of_decide_eq_false d) (by omega))
       rw [hs', wi i (by omega), zjO hl, zg5 hm.symm hx hmi]
       rfl
     | false =>
       obtain ⟨⟨a0, a1⟩, b0, b1⟩ := hsh i (K_nat.2 hk) (by rw [hcx]; exact hl)
       rw [hcx] at a0 a1 b0 b1
       have ta := zkQ htb rfl a0 a1
       have tb := zkQ htb rfl b0 b1
       refine zjL kk q b kb rb _ _ _ _ _ i x true (cnt m x.a) (cnt m x.b) hs (fun _ d => by cases d) (fun _ _ _ => ⟨hxd, hb, ta.1, ta.2, tb.1, tb.2, hlim, fun s' hs' => hn s' ?_⟩) (fun _ _ d => by rw [hl] at d; cases d) (fun d => absurd (of_decide_eq_false d) (by omega))
       rw [hs', wi i (by omega), zjR hl, zg5 hm.symm hx hmi]
       rfl)
  (fun q s K hs hK => zjL kk q b kb rb _ _ _ _ _ _ c0 true 0 0 hs (fun d => absurd (of_decide_eq_true d) (by omega)) (fun d => absurd (of_decide_eq_true d) (by omega)) (fun d => absurd (of_decide_eq_true d) (by omega)) (fun _ => by
   rw [List.take_length, show h.cs.length = m.length from hm.symm, List.take_length]; exact hK))
  (s0 := zgI b kb rb (CD h.cs) (ID h.rs) (BD m) (ID t) [] 0) (by simp [mvCs])
 have lc := zaH (kk := kk) (f := 118) (fn := Go.Proofs.Tryd.f118) (r := 19) (x := .exit 4) (s' := Nm [9, 10] [.own 97 (CD (mvCs m h.cs m)), .own 3 (ID (h.rs.map (cnt m)))] [none, none] [] [])
  (fun i => zf7 rb (ID h.rs) (ID t) (CD (mvCs m h.cs m)) (ID ((h.rs.take i).map (cnt m))) i) h.rs.length (by omega)
  (fun i hi q s K hs hn => by
   obtain ⟨x, hx⟩ := zbi hi
   have hxm := List.mem_of_getElem? hx
   have tx := zkQ htb rfl (g.rin x hxm).1 (hr x hxm)
   refine zok kk q rb _ _ _ _ i x (cnt m x) hs (fun _ => ⟨zey hx, tx.1, tx.2, by simp; omega, fun s' hs' => hn s' ?_⟩) (fun d => absurd (of_decide_eq_false d) (by omega))
   rw [hs', wi i (by omega), zlB m hx]
   rfl)
  (fun q s K hs hK => zok kk q rb _ _ _ _ _ 0 0 hs (fun d => absurd (of_decide_eq_true d) (by omega)) (fun _ => by rw [List.take_length]; exact hK))
  (s0 := zf7 rb (ID h.rs) (ID t) (CD (mvCs m h.cs m)) [] 0) (by simp)
 exact kept kk b kb rb _ _ _ (ID t) (CD (mvCs m h.cs m)) (ID (h.rs.map (cnt m))) (cnt m m.length) ⟨⟨by omega, by omega, by omega⟩, la, lb, lc, rfl⟩
theorem zkg (b kb : Bool) (h : Hp) (g : Hg h) (m : List Bool) (hm : m.length = h.cs.length) (hsh : Shut m h.cs) (hr : ∀ x ∈ h.rs, K m x) : EvN 1001 86 [.dat (YD b h.o h.cs h.rs h.ns), .dat (.lst kb (BD m))] [] [] ([HO (mvH m h)], [], []) := by
 refine zax Go.Proofs.Tryd.f86 1000 (by kernel_rfl) (by kernel_rfl) fun kk hkk => ?_
 refine stayI kk b h.o _ _ _ kb _ _ _ ⟨zoF b kb b h g m hm hsh hr kk (by omega), ?_⟩
 rw [show ((List.map Cl.d (mvCs m h.cs m)).length : Int) = cnt m m.length by rw [List.length_map]; exact zjz hm]
 rfl
theorem zeS (b : Bool) (h : Hp) (g : Hg h) : EvN 1100 92 [.dat (YD b h.o h.cs h.rs h.ns)] [] [] ([HO (zco h)], [], []) :=
 zax Go.Proofs.Tryd.f92 1099 (by kernel_rfl) (by kernel_rfl) fun kk hkk => fullS kk b h.o _ _ _ (BD (zfD h)) _ _ _ _ ⟨znl b h g kk (by omega), zay (zco h), zjE b true h g (zfD h) (za9 _ _) (zeZ g) (zfo g) kk (by omega), rfl⟩
theorem zgY (b : Bool) (h : Hp) (g : Hg h) : EvN 3100 60 [.dat (YD b h.o h.cs h.rs h.ns)] [] [] ([HO (zco h)], [], []) :=
 zax Go.Proofs.Tryd.f60 3099 (by kernel_rfl) (by kernel_rfl) fun kk hkk => fullI kk b h.o _ _ _ (BD (zfD h)) _ _ _ _ ⟨zk6 b b h.cs h.rs g.wf g.clen g.rin (by have := g.rlen; omega) kk (by omega), zay (zco h), zkg b true h g (zfD h) (za9 _ _) (zeZ g) (zfo g) kk (by omega), rfl⟩
end Go.Den
namespace Go.Den
open Go
set_option linter.unusedVariables false
set_option maxRecDepth 100000
theorem zdf {h : Hp} (g : Hg h) {x : Int} (hx : x ∈ h.ns) : 0 ≤ x ∧ x < (h.cs.length : Int) := by
 have h1 := g.nin x hx
 have h2 := g.o1
 omega
def FillP (n : Nat) (ks : List Bool) (i : Nat) (ks' : List Bool) : Prop := ks'.length = n ∧ ∀ j : Int, 0 ≤ j → (K ks' j ↔ (K ks j ∨ j < (i : Int)))
theorem FillP.set {n : Nat} {ks ks' : List Bool} {i : Nat} (h : FillP n ks i ks') (hi : i < n) : FillP n ks (i + 1) (ks'.set i true) := by
 refine ⟨by simpa using h.1, fun j hj => ?_⟩
 have := zo6 (l := ks') (i := (i : Int)) (by omega) (by have := h.1; omega) j hj
 rw [Int.toNat_natCast] at this
 rw [this, h.2 j hj]
 constructor
 · rintro (h | h | h)
   · exact .inr (by omega)
   · exact .inl h
   · exact .inr (by omega)
 · rintro (h | h)
   · exact .inr (.inl h)
   · by_cases e : j = (i : Int)
     · exact .inl e
     · exact .inr (.inr (by omega))
theorem zmH {h : Hp} (g : Hg h) {ks kc : List Bool} (hk : ∀ i, 0 ≤ i → (K ks i ∨ i < h.o ↔ i < (h.cs.length : Int) ∧ (i < h.o ∨ Rch h.cs (fun i => ¬ i < h.o) (Src h) i))) (hf : FillP h.cs.length ks h.o.toNat kc) : kc = zez h := by
 refine zot (by rw [hf.1, zez, za9]) fun i hi => ?_
 have e : ((h.o.toNat : Nat) : Int) = h.o := by have := g.o0; omega
 rw [hf.2 i hi, e, hk i hi]
 unfold zez
 rw [zbA hi]
theorem zft (b : Bool) (h : Hp) (g : Hg h) : EvN 1100 93 [.dat (YD b h.o h.cs h.rs h.ns)] [] [] ([HO (zaN h)], [], []) := by
 refine zax Go.Proofs.Tryd.f93 1099 (by kernel_rfl) (by kernel_rfl) fun kk hkk => ?_
 have hcl := g.clen
 have hrl := g.rlen
 have hnl := zeJ g
 have ho0 := g.o0
 have ho1 := g.o1
 have hlm : (List.map Cl.d h.cs).length = h.cs.length := by simp
 have hlc : (CD h.cs).length = h.cs.length := by simp
 have hlr : (ID h.rs).length = h.rs.length := by simp
 have hln : (ID h.ns).length = h.ns.length := by simp
 have hsrc : ∀ i, Src h i → 0 ≤ i ∧ i < (h.cs.length : Int) := by
  rintro i (hi | ⟨x, hx, hf, hi⟩)
  · exact g.rin i hi
  · obtain ⟨a, b⟩ := g.wf x (zdf g hx).1 (zdf g hx).2 hf
    rcases hi with rfl | rfl
    · exact a
    · exact b
 obtain ⟨ka, ⟨ma, ta⟩, la⟩ := zbh (kk := kk) (f := 93) (fn := Go.Proofs.Tryd.f93) (r := 3) (x := .exit 0) (fun i (ks : List Bool) => zlO b h.o (CD h.cs) (ID h.rs) (ID h.ns) (BD ks) i)
  (fun ks => Nm [1, 2, 3] [.ptr (.loc 1) 0, .ptr (.loc 2) 0, .own 4 (BD ks)] [Yb b h.o (CD h.cs) (ID h.rs) (ID h.ns), some (Yo 0 [] [] []), none] [] [])
  (fun i ks => Mk h.cs (On h.o true) (Src h) (List.replicate h.cs.length false) ks ∧ ∀ x ∈ h.rs.take i, K ks x) h.rs.length (by omega) (List.replicate h.cs.length false) ⟨Mk.refl (by simp), fun x hx => by simp at hx⟩
  (fun i ks hi ⟨hm, ht⟩ => by
   obtain ⟨x, hx⟩ := zbi hi
   have hxm := List.mem_of_getElem? hx
   obtain ⟨k', e, m', t'⟩ := zeM b h g true (Src h) hm.len (g.rin x hxm) (.inl hxm)
   refine ⟨k', ⟨hm.trans g.wf m', fun y hy => ?_⟩, fun m s K hs hn => ?_⟩
   · rw [List.take_add_one, hx] at hy
     rcases List.mem_append.1 hy with hy | hy
     · exact m'.mono y (g.rin y (List.mem_of_mem_take hy)).1 (ht y hy)
     · have : y = x := by simpa using hy
       rw [this]; exact t'
   · refine zju kk m b h.o _ _ _ _ i (BD k') x hs (fun _ => ⟨zey hx, e kk (by omega), fun s' hs' => hn s' ?_⟩) (fun d => absurd (of_decide_eq_false d) (by omega))
     rw [hs', wi i (by omega)]
     rfl)
  (fun ks _ m s K hs hK => zju kk m b h.o _ _ _ _ _ [] 0 hs (fun d => absurd (of_decide_eq_true d) (by omega)) (fun _ => hK)) rfl
 obtain ⟨kb, ⟨mb, tb⟩, lb⟩ := zbh (kk := kk) (f := 93) (fn := Go.Proofs.Tryd.f93) (r := 8) (x := .exit 2) (fun i (ks : List Bool) => zly b h.o (CD h.cs) (ID h.rs) (ID h.ns) (BD ks) i)
  (fun ks => Nm [1, 2, 3] [.ptr (.loc 1) 0, .ptr (.loc 2) 0, .own 4 (BD ks)] [Yb b h.o (CD h.cs) (ID h.rs) (ID h.ns), some (Yo 0 [] [] []), none] [] [])
  (fun i ks => Mk h.cs (On h.o true) (Src h) ka ks ∧ ∀ x ∈ h.ns.take i, (cg h.cs x).l = false → K ks (cg h.cs x).a ∧ K ks (cg h.cs x).b) h.ns.length (by omega) ka ⟨Mk.refl ma.len, fun x hx => by simp at hx⟩
  (fun i ks hi ⟨hm, ht⟩ => by
   obtain ⟨x, hx⟩ := zbi hi
   have hxm := List.mem_of_getElem? hx
   obtain ⟨x0, x1⟩ := zdf g hxm
   have hc := zf1 (c := h.cs) x0 x1
   cases hl : (cg h.cs x).l with
   | true =>
     refine ⟨ks, ⟨hm, fun y hy hyl => ?_⟩, fun m s K hs hn => ?_⟩
     · rw [List.take_add_one, hx] at hy
       rcases List.mem_append.1 hy with hy | hy
       · exact ht y hy hyl
       · have : y = x := by simpa using hy
         rw [this, hl] at hyl
         cases hyl
     · refine zhj kk m b h.o _ _ _ _ i [] [] x (cg h.cs x) hs (fun _ d => by rw [hl] at d; cases d) (fun _ _ => ⟨zey hx, hc, fun s' hs' => hn s' ?_⟩) (fun d => absurd (of_decide_eq_false d) (by omega))
       rw [hs', wi i (by omega)]
       rfl
   | false =>
     obtain ⟨pa, pb⟩ := g.wf x x0 x1 hl
     obtain ⟨k1, e1, m1, t1⟩ := zeM b h g true (Src h) hm.len pa (.inr ⟨x, hxm, hl, .inl rfl⟩)
     obtain ⟨k2, e2, m2, t2⟩ := zeM b h g true (Src h) m1.len pb (.inr ⟨x, hxm, hl, .inr rfl⟩)
     refine ⟨k2, ⟨(hm.trans g.wf m1).trans g.wf m2, fun y hy hyl => ?_⟩, fun m s K hs hn => ?_⟩
     · rw [List.take_add_one, hx] at hy
       rcases List.mem_append.1 hy with hy | hy
       · have hyn := zdf g (List.mem_of_mem_take hy)
         obtain ⟨qa, qb⟩ := g.wf y hyn.1 hyn.2 hyl
         have := ht y hy hyl
         exact ⟨m2.mono _ qa.1 (m1.mono _ qa.1 this.1), m2.mono _ qb.1 (m1.mono _ qb.1 this.2)⟩
       · have : y = x := by simpa using hy
         rw [this]
         exact ⟨m2.mono _ pa.1 t1, t2⟩
     · refine zhj kk m b h.o _ _ _ _ i (BD k1) (BD k2) x (cg h.cs x) hs (fun _ _ => ⟨zey hx, hc, e1 kk (by omega), e2 kk (by omega), fun s' hs' => hn s' ?_⟩) (fun _ d => by rw [hl] at d; cases d) (fun d => absurd (of_decide_eq_false d) (by omega))
       rw [hs', wi i (by omega)]
       rfl)
  (fun ks _ m s K hs hK => zhj kk m b h.o _ _ _ _ _ [] [] 0 c0 hs (fun d => absurd (of_decide_eq_true d) (by omega)) (fun d => absurd (of_decide_eq_true d) (by omega)) (fun _ => hK)) rfl
 obtain ⟨kc, hfill, lc⟩ := zbh (kk := kk) (f := 93) (fn := Go.Proofs.Tryd.f93) (r := 16) (x := .exit 4) (fun i (ks : List Bool) => zlg b h.o (CD h.cs) (ID h.rs) (ID h.ns) (BD ks) i)
  (fun ks => Nm [1, 2, 3] [.ptr (.loc 1) 0, .ptr (.loc 2) 0, .own 4 (BD ks)] [Yb b h.o (CD h.cs) (ID h.rs) (ID h.ns), some (Yo 0 [] [] []), none] [] [])
  (FillP h.cs.length kb) h.o.toNat (by omega) kb ⟨mb.len, fun j hj => ⟨.inl, fun h => h.elim id fun h => by simp at h; omega⟩⟩
  (fun i ks hi hP => by
   have hlen := hP.1
   have hb := zgq (ks := ks) (i := i) (by omega)
   refine ⟨_, hP.set (by omega), fun m s K hs hn => zjZ kk m b h.o _ _ _ _ i (ks.getD i false) hs (fun _ => ⟨hb.1, hb.2, fun s' hs' => hn s' ?_⟩) (fun d => absurd (of_decide_eq_false d) (by omega))⟩
   rw [hs', wi i (by omega), Int.toNat_natCast, zhO]
   rfl)
  (fun ks _ m s K hs hK => zjZ kk m b h.o _ _ _ _ _ true hs (fun d => absurd (of_decide_eq_true d) (by omega)) (fun _ => hK)) rfl
 have M := ma.trans g.wf mb
 have hS : ∀ i, Src h i → 0 ≤ i ∧ i < (h.cs.length : Int) ∧ K kb i := fun i hi => by
  refine ⟨(hsrc i hi).1, (hsrc i hi).2, ?_⟩
  rcases hi with hi | ⟨x, hx, hf, hi⟩
  · exact mb.mono i (g.rin i hi).1 (ta i (by rw [List.take_length]; exact hi))
  · have := tb x (by rw [List.take_length]; exact hx) hf
    rcases hi with rfl | rfl
    · exact this.1
    · exact this.2
 have hon : ∀ i, On h.o true i ↔ ¬ i < h.o := fun i => ⟨fun f => f rfl, fun f _ => f⟩
 have hkc : kc = zez h := zmH g (fun i hi => by
  constructor
  · rintro (hk | hlt)
    · have hr := (M.new i hi hk (zkr _ _)).2
      exact ⟨by have := K_lt hi hk; have := mb.len; omega, .inr (Rch.on (fun j hj => (hon j).1 hj) hr)⟩
    · exact ⟨by omega, .inl hlt⟩
  · rintro ⟨_, hlt | hr⟩
    · exact .inr hlt
    · exact .inl (Rch.in_ g.wf hS (fun j h0 hj ho hle => (M.new j h0 hj (zkr _ _)).1 ho hle) (Rch.on (fun j hj => (hon j).2 hj) hr)).2.2) hfill
 subst hkc
 exact zp5 kk b h.o _ _ _ (BD ka) (BD kb) (BD (zez h)) _ _ _ _ ⟨⟨by omega, by omega, by omega⟩, by rw [hlc, zjp]; exact la, lb, lc, zay (zaN h), zjE b true h g (zez h) (za9 _ _) (zfy g) (zfR g) kk (by omega), rfl⟩
def kid (c : List Cl) (x : Int) : List Int := match (cg c x).l with | true => [] | false => [(cg c x).a, (cg c x).b]
theorem zhi (c : List Cl) : ∀ n : List Int, (n.flatMap (kid c)).length ≤ 2 * n.length
 | [] => by simp
 | x :: n => by
   have := zhi c n
   have h2 : (kid c x).length ≤ 2 := by unfold kid; split <;> simp
   simp only [List.flatMap_cons, List.length_append, List.length_cons]
   omega
theorem zhM (b : Bool) (h : Hp) (g : Hg h) : EvN 1050100 59 [.dat (YD b h.o h.cs h.rs h.ns)] [] [] ([HO (zaN h)], [], []) := by
 refine zax Go.Proofs.Tryd.f59 1050099 (by kernel_rfl) (by kernel_rfl) fun kk hkk => ?_
 have hcl := g.clen
 have hrl := g.rlen
 have hnl := zeJ g
 have ho0 := g.o0
 have ho1 := g.o1
 have hlc : (CD h.cs).length = h.cs.length := by simp
 have hlr : (ID h.rs).length = h.rs.length := by simp
 have hln : (ID h.ns).length = h.ns.length := by simp
 have la := zaH (kk := kk) (f := 59) (fn := Go.Proofs.Tryd.f59) (r := 3) (x := .exit 0) (s' := Nm [1, 2, 3] [.ptr (.loc 1) 0, .ptr (.loc 2) 0, .own 3 (ID (h.rs ++ h.ns.flatMap (kid h.cs)))] [Yb b h.o (CD h.cs) (ID h.rs) (ID h.ns), some (Yo 0 [] [] []), none] [] [])
  (fun i => ziZ b h.o (CD h.cs) (ID h.rs) (ID h.ns) (ID (h.rs ++ (h.ns.take i).flatMap (kid h.cs))) i) h.ns.length (by omega)
  (fun i hi m s K hs hn => by
   obtain ⟨x, hx⟩ := zbi hi
   have hxm := List.mem_of_getElem? hx
   obtain ⟨x0, x1⟩ := zdf g hxm
   have hc := zf1 (c := h.cs) x0 x1
   have hkl := zhi h.cs (h.ns.take i)
   rw [List.length_take] at hkl
   cases hl : (cg h.cs x).l with
   | true =>
     refine zhb kk m b h.o _ _ _ _ i x (cg h.cs x) hs (fun _ d => by rw [hl] at d; cases d) (fun _ _ => ⟨zey hx, hc, fun s' hs' => hn s' ?_⟩) (fun d => absurd (of_decide_eq_false d) (by omega))
     have hk : kid h.cs x = [] := by unfold kid; rw [hl]
     rw [hs', wi i (by omega), List.take_add_one, hx]
     simp only [Option.toList_some, List.flatMap_append, List.flatMap_cons, List.flatMap_nil, hk, List.append_nil]
     rfl
   | false =>
     refine zhb kk m b h.o _ _ _ _ i x (cg h.cs x) hs (fun _ _ => ⟨zey hx, hc, by simp only [List.length_map, List.length_append]; omega, fun s' hs' => hn s' ?_⟩) (fun _ d => by rw [hl] at d; cases d) (fun d => absurd (of_decide_eq_false d) (by omega))
     have hk : kid h.cs x = [(cg h.cs x).a, (cg h.cs x).b] := by unfold kid; rw [hl]
     rw [hs', wi i (by omega), List.take_add_one, hx]
     simp only [Option.toList_some, List.flatMap_append, List.flatMap_cons, List.flatMap_nil, hk, List.append_nil]
     simp [ziZ, ID])
  (fun m s K hs hK => zhb kk m b h.o _ _ _ _ _ 0 c0 hs (fun d => absurd (of_decide_eq_true d) (by omega)) (fun d => absurd (of_decide_eq_true d) (by omega)) (fun _ => by rw [List.take_length]; exact hK))
  (s0 := ziZ b h.o (CD h.cs) (ID h.rs) (ID h.ns) (ID h.rs) 0) (by simp)
 have hfr : ∀ x ∈ h.rs ++ h.ns.flatMap (kid h.cs), 0 ≤ x ∧ x < (h.cs.length : Int) := fun x hx => by
  rcases List.mem_append.1 hx with hx | hx
  · exact g.rin x hx
  · obtain ⟨y, hy, hx⟩ := List.mem_flatMap.1 hx
    unfold kid at hx
    split at hx
    · simp at hx
    · rename_i hf
      obtain ⟨a, b⟩ := g.wf y (zdf g hy).1 (zdf g hy).2 hf
      simp only [List.mem_cons, List.not_mem_nil, or_false] at hx
      rcases hx with rfl | rfl
      · exact a
      · exact b
 have hfl := zhi h.cs h.ns
 have hreach := zls b false h.cs (h.rs ++ h.ns.flatMap (kid h.cs)) b h.o (CD h.cs) h.rs (ID h.ns) (by omega) g.wf hcl hfr (by simp only [List.length_append]; omega)
 have hka : ∀ i, 0 ≤ i → (K (zeB h.cs.length (Rch h.cs (fun i => h.o ≤ i ∨ i ∈ h.rs) (· ∈ h.rs ++ h.ns.flatMap (kid h.cs)))) i ↔ i < (h.cs.length : Int) ∧ Rch h.cs (fun i => h.o ≤ i ∨ i ∈ h.rs) (· ∈ h.rs ++ h.ns.flatMap (kid h.cs)) i) := fun i hi => zbA hi
 have hla := za9 h.cs.length (Rch h.cs (fun i => h.o ≤ i ∨ i ∈ h.rs) (· ∈ h.rs ++ h.ns.flatMap (kid h.cs)))
 generalize zeB h.cs.length (Rch h.cs (fun i => h.o ≤ i ∨ i ∈ h.rs) (· ∈ h.rs ++ h.ns.flatMap (kid h.cs))) = ka at hreach hka hla
 obtain ⟨kc, hfill, lc⟩ := zbh (kk := kk) (f := 59) (fn := Go.Proofs.Tryd.f59) (r := 11) (x := .exit 2) (fun i (ks : List Bool) => zk4 b h.o (CD h.cs) (ID h.rs) (ID h.ns) (BD ks) i)
  (fun ks => Nm [1, 2, 7] [.ptr (.loc 1) 0, .ptr (.loc 2) 0, .own 4 (BD ks)] [Yb b h.o (CD h.cs) (ID h.rs) (ID h.ns), some (Yo 0 [] [] []), none] [] [])
  (FillP h.cs.length ka) h.o.toNat (by omega) ka ⟨hla, fun j hj => ⟨.inl, fun h => h.elim id fun h => by simp at h; omega⟩⟩
  (fun i ks hi hP => by
   have hlen := hP.1
   have hb := zgq (ks := ks) (i := i) (by omega)
   refine ⟨_, hP.set (by omega), fun m s K hs hn => zjM kk m b h.o _ _ _ _ i (ks.getD i false) hs (fun _ => ⟨hb.1, hb.2, fun s' hs' => hn s' ?_⟩) (fun d => absurd (of_decide_eq_false d) (by omega))⟩
   rw [hs', wi i (by omega), Int.toNat_natCast, zhO]
   rfl)
  (fun ks _ m s K hs hK => zjM kk m b h.o _ _ _ _ _ true hs (fun d => absurd (of_decide_eq_true d) (by omega)) (fun _ => hK)) rfl
 have hsrc : ∀ i, i ∈ h.rs ++ h.ns.flatMap (kid h.cs) ↔ Src h i := fun i => by
  unfold Src
  rw [List.mem_append, List.mem_flatMap]
  refine or_congr Iff.rfl ⟨?_, ?_⟩
  · rintro ⟨x, hx, h⟩
    unfold kid at h
    split at h
    · simp at h
    · rename_i hf
      exact ⟨x, hx, hf, by simpa using h⟩
  · rintro ⟨x, hx, hf, h⟩
    refine ⟨x, hx, ?_⟩
    unfold kid
    rw [hf]
    simpa using h
 have hto : ∀ i, Rch h.cs (fun i => ¬ i < h.o) (Src h) i → Rch h.cs (fun i => h.o ≤ i ∨ i ∈ h.rs) (· ∈ h.rs ++ h.ns.flatMap (kid h.cs)) i := fun i hr =>
  Rch.mono (fun j hj => .src ((hsrc j).2 hj)) (Rch.on (fun j hj => .inl (by omega)) hr)
 have hof : ∀ i, Rch h.cs (fun i => h.o ≤ i ∨ i ∈ h.rs) (· ∈ h.rs ++ h.ns.flatMap (kid h.cs)) i → (0 ≤ i ∧ i < (h.cs.length : Int)) ∧ (i < h.o ∨ Rch h.cs (fun i => ¬ i < h.o) (Src h) i) := fun i hr => by
  induction hr with
  | src hs => exact ⟨hfr _ hs, .inr (.src ((hsrc _).1 hs))⟩
  | @a j _ hp hf ih =>
    refine ⟨(g.wf j ih.1.1 ih.1.2 hf).1, ?_⟩
    have hat := zkw ih.1.1 ih.1.2
    by_cases hj : j < h.o
    · by_cases hk : (cg h.cs j).a < h.o
      · exact .inl hk
      · have := g.old j.toNat _ hat (by omega) hf (.inl (by omega))
        exact .inr (.src (.inr ⟨j, by rwa [show ((j.toNat : Nat) : Int) = j by omega] at this, hf, .inl rfl⟩))
    · rcases ih.2 with h | h
      · exact absurd h hj
      · exact .inr (.a h hj hf)
  | @b j _ hp hf ih =>
    refine ⟨(g.wf j ih.1.1 ih.1.2 hf).2, ?_⟩
    have hat := zkw ih.1.1 ih.1.2
    by_cases hj : j < h.o
    · by_cases hk : (cg h.cs j).b < h.o
      · exact .inl hk
      · have := g.old j.toNat _ hat (by omega) hf (.inr (by omega))
        exact .inr (.src (.inr ⟨j, by rwa [show ((j.toNat : Nat) : Int) = j by omega] at this, hf, .inr rfl⟩))
    · rcases ih.2 with h | h
      · exact absurd h hj
      · exact .inr (.b h hj hf)
 have hkc : kc = zez h := zmH g (fun i hi => by
  rw [hka i hi]
  constructor
  · rintro (⟨h1, hr⟩ | hlt)
    · exact ⟨h1, (hof i hr).2⟩
    · exact ⟨by omega, .inl hlt⟩
  · rintro ⟨h1, hlt | hr⟩
    · exact .inr hlt
    · exact .inl ⟨h1, hto i hr⟩) hfill
 subst hkc
 exact zpx kk b h.o _ _ _ (ID h.rs) (ID (h.rs ++ h.ns.flatMap (kid h.cs))) (BD ka) (BD (zez h)) _ _ _ _ ⟨zdR b h.rs (by omega) kk (by omega), la, hreach kk (by omega), lc, zay (zaN h), zkg b true h g (zez h) (za9 _ _) (zfy g) (zfR g) kk (by omega), rfl⟩
end Go.Den
namespace Go.Den
open Go
set_option linter.unusedVariables false
set_option maxRecDepth 100000
open Go.Proofs.YtcmcfebihbmmeaaDoor (num numV)
theorem zg1 {α : Type} (f : α → Dat) (n : Nat) (hf : ∀ x, (f x).cells.length = n) : ∀ l : List α, (l.map f).all (fun d => Nat.beq d.cells.length n) = true
 | [] => rfl
 | x :: l => by rw [List.map_cons, List.all_cons, hf x, zg1 f n hf l, Bool.and_true]; exact beq_eq.2 rfl
theorem zpF (cs : List Cl) : (CD cs).all (fun d => Nat.beq d.cells.length 4) = true := zg1 _ 4 (fun _ => rfl) cs
theorem zml (zs : List Int) : (ID zs).all (fun d => Nat.beq d.cells.length 1) = true := zg1 _ 1 (fun _ => rfl) zs
theorem set_cd {h : Hp} {at_ to : Int} : (CD h.cs).set at_.toNat (Dat.agg [B (cg h.cs at_).l, I (cg h.cs at_).n, I (cg h.cs at_).a, I to]) = CD (setH h at_ true to).cs ∧ (CD h.cs).set at_.toNat (Dat.agg [B (cg h.cs at_).l, I (cg h.cs at_).n, I to, I (cg h.cs at_).b]) = CD (setH h at_ false to).cs := by
 refine ⟨?_, ?_⟩ <;> simp [setH, setC, CD, List.map_set]
def zcB (put : Bool) (at_ : Int) (l : List Int) : List Int := match put with | true => insL at_ l | false => l
theorem zjF (b : Bool) (h : Hp) (g : Hg h) (at_ : Int) (second : Bool) (to : Int) (ha : 0 ≤ at_ ∧ at_ < (h.cs.length : Int)) : EvN 1048700 58 [.dat (YD b h.o h.cs h.rs h.ns), .dat (I at_), .dat (B second), .dat (I to)] [] [] ([HO (setH h at_ second to)], [], []) := by
 refine zax Go.Proofs.Tryd.f58 1048699 (by kernel_rfl) (by kernel_rfl) fun kk hkk => ?_
 have hcl := g.clen
 have hrl := g.rlen
 have hnl := zeJ g
 have hlc : (CD h.cs).length = h.cs.length := by simp
 have hlr : (ID h.rs).length = h.rs.length := by simp
 have hln : (ID h.ns).length = h.ns.length := by simp
 have hc := zf1 (c := h.cs) ha.1 ha.2
 have h71 := znz b h.ns at_ (by omega) kk (by omega)
 obtain ⟨⟨out, put⟩, ⟨hP, hlen⟩, hloop⟩ := zbh (kk := kk) (f := 58) (fn := Go.Proofs.Tryd.f58) (r := 8) (x := .exit 0) (fun i (q : List Int × Bool) => hd58 b h.o (CD (setH h at_ second to).cs) (ID h.rs) (ID h.ns) at_ (ID q.1) q.2 i)
  (fun q => Nm [1, 4, 8, 9, 10] [.dat (I at_), .ptr (.loc 4) 0, .ptr (.loc 8) 0, .own 3 (ID q.1), .dat (B q.2)] [none, some [.dat (I h.o), .own 97 (CD (setH h at_ second to).cs), .dat (.lst b (ID h.rs)), .dat (.lst b (ID h.ns))], some (Yo 0 [] [] []), none, none] [] [])
  (fun i q => q.1 ++ zcB q.2 at_ (h.ns.drop i) = zcB (putN h at_ to) at_ h.ns ∧ q.1.length + q.2.toNat ≤ i + 1) h.ns.length (by omega) ([], putN h at_ to) ⟨by simp, by simp; cases putN h at_ to <;> decide⟩
  (fun i ⟨out, put⟩ hi ⟨hP, hlen⟩ => by
   simp only at hP hlen ⊢
   obtain ⟨x, hx⟩ := zbi hi
   have hdrop : h.ns.drop i = x :: h.ns.drop (i + 1) := by
    rw [List.drop_eq_getElem_cons hi]
    congr 1
    rw [List.getElem?_eq_getElem hi] at hx
    exact Option.some.inj hx
   rw [hdrop] at hP
   cases put with
   | true =>
     simp only [Bool.toNat_true] at hlen
     by_cases hlt : at_ < x
     · refine ⟨(out ++ [at_] ++ [x], false), ⟨?_, by simp; omega⟩, fun m s K hs hn => zg2 kk m b h.o _ _ _ at_ _ true i x hs (fun _ _ _ => ⟨zey hx, by simp; omega, by simp; omega, fun s' hs' => hn s' ?_⟩) (fun _ _ d => absurd hlt (of_decide_eq_false d)) (fun _ d => by cases d) (fun d => absurd (of_decide_eq_false d) (by omega))⟩
       · rw [← hP]
         simp [zcB, insL, hlt]
       · rw [hs', wi i (by omega)]
         simp [hd58, ID]
     · refine ⟨(out ++ [x], true), ⟨?_, by simp; omega⟩, fun m s K hs hn => zg2 kk m b h.o _ _ _ at_ _ true i x hs (fun _ _ d => absurd (of_decide_eq_true d) hlt) (fun _ _ _ => ⟨zey hx, by simp; omega, fun s' hs' => hn s' ?_⟩) (fun _ d => by cases d) (fun d => absurd (of_decide_eq_false d) (by omega))⟩
       · rw [← hP]
         simp [zcB, insL, hlt]
       · rw [hs', wi i (by omega)]
         simp [hd58, ID]
   | false =>
     simp only [Bool.toNat_false] at hlen
     refine ⟨(out ++ [x], false), ⟨?_, by simp; omega⟩, fun m s K hs hn => zg2 kk m b h.o _ _ _ at_ _ false i x hs (fun _ d => by cases d) (fun _ d => by cases d) (fun _ _ => ⟨zey hx, by simp; omega, fun s' hs' => hn s' ?_⟩) (fun d => absurd (of_decide_eq_false d) (by omega))⟩
     · rw [← hP]
       simp [zcB]
     · rw [hs', wi i (by omega)]
       simp [hd58, ID])
  (fun ⟨out, put⟩ _ m s K hs hK => zg2 kk m b h.o _ _ _ at_ _ put _ 0 hs (fun d => absurd (of_decide_eq_true d) (by omega)) (fun d => absurd (of_decide_eq_true d) (by omega)) (fun d => absurd (of_decide_eq_true d) (by omega)) (fun _ => hK)) rfl
 simp only at hP hlen hloop
 rw [List.drop_length] at hP
 have hns : (setH h at_ second to).ns = zcB (putN h at_ to) at_ h.ns := rfl
 have hft : put = true → ID out ++ [I at_] = ID (setH h at_ second to).ns := fun e => by
  rw [hns, ← hP, e]
  simp [zcB, insL, ID]
 have hff : put = false → ID out = ID (setH h at_ second to).ns := fun e => by
  rw [hns, ← hP, e]
  simp [zcB]
 have hst : second = true → ([] ++ CD h.cs).set at_.toNat (Dat.agg [B (cg h.cs at_).l, I (cg h.cs at_).n, I (cg h.cs at_).a, I to]) = CD (setH h at_ second to).cs := fun e => by rw [e]; exact set_cd.1
 have hsf : second = false → ([] ++ CD h.cs).set at_.toNat (Dat.agg [B (cg h.cs at_).l, I (cg h.cs at_).n, I to, I (cg h.cs at_).b]) = CD (setH h at_ second to).cs := fun e => by rw [e]; exact set_cd.2
 have hp1 : decide (at_ < h.o) = true → decide (h.o ≤ to) = true → putN h at_ to = !hasB h.ns at_ := fun d1 d2 => by unfold putN; rw [d1, d2]; rfl
 have hp2 : decide (at_ < h.o) = true → decide (h.o ≤ to) = false → putN h at_ to = false := fun d1 d2 => by unfold putN; rw [d1, d2]; rfl
 have hp3 : decide (at_ < h.o) = false → putN h at_ to = false := fun d1 => by unfold putN; rw [d1]; rfl
 have oA : ((CD h.cs).all fun d => Nat.beq d.cells.length 4) = true ∧ 0 + (CD h.cs).length ≤ 2147483648 := ⟨zpF _, by omega⟩
 have oR : ((ID h.rs).all fun d => Nat.beq d.cells.length 1) = true ∧ 0 + (ID h.rs).length ≤ 2147483648 := ⟨zml _, by omega⟩
 have oL : (ID out).length + 1 ≤ 2147483648 := by simp; omega
 exact lhSet kk b h.o _ _ _ at_ second to (CD (setH h at_ second to).cs) (putN h at_ to) (ID out) put (cg h.cs at_) (cg h.cs at_) (hasB h.ns at_)
  (fun d1 d2 d3 d4 => ⟨oA, hc.1, hc.2, h71, by rw [hst d1, hp1 d2 d3]; rfl, hloop, oL, oR, by rw [hft d4]; rfl⟩)
  (fun d1 d2 d3 d4 => ⟨oA, hc.1, hc.2, h71, by rw [hst d1, hp1 d2 d3]; rfl, hloop, oR, by rw [hff d4]; rfl⟩)
  (fun d1 d2 d3 d4 => ⟨oA, hc.1, hc.2, by rw [hst d1, hp2 d2 d3]; rfl, hloop, oL, oR, by rw [hft d4]; rfl⟩)
  (fun d1 d2 d3 d4 => ⟨oA, hc.1, hc.2, by rw [hst d1, hp2 d2 d3]; rfl, hloop, oR, by rw [hff d4]; rfl⟩)
  (fun d1 d2 d4 => ⟨oA, hc.1, hc.2, by rw [hst d1, hp3 d2]; rfl, hloop, oL, oR, by rw [hft d4]; rfl⟩)
  (fun d1 d2 d4 => ⟨oA, hc.1, hc.2, by rw [hst d1, hp3 d2]; rfl, hloop, oR, by rw [hff d4]; rfl⟩)
  (fun d1 d2 d3 d4 => ⟨oA, hc.1, hc.2, h71, by rw [hsf d1, hp1 d2 d3]; rfl, hloop, oL, oR, by rw [hft d4]; rfl⟩)
  (fun d1 d2 d3 d4 => ⟨oA, hc.1, hc.2, h71, by rw [hsf d1, hp1 d2 d3]; rfl, hloop, oR, by rw [hff d4]; rfl⟩)
  (fun d1 d2 d3 d4 => ⟨oA, hc.1, hc.2, by rw [hsf d1, hp2 d2 d3]; rfl, hloop, oL, oR, by rw [hft d4]; rfl⟩)
  (fun d1 d2 d3 d4 => ⟨oA, hc.1, hc.2, by rw [hsf d1, hp2 d2 d3]; rfl, hloop, oR, by rw [hff d4]; rfl⟩)
  (fun d1 d2 d4 => ⟨oA, hc.1, hc.2, by rw [hsf d1, hp3 d2]; rfl, hloop, oL, oR, by rw [hft d4]; rfl⟩)
  (fun d1 d2 d4 => ⟨oA, hc.1, hc.2, by rw [hsf d1, hp3 d2]; rfl, hloop, oR, by rw [hff d4]; rfl⟩)
theorem zg9 : ∀ zs : List Int, zer (ID zs) = some zs
 | [] => rfl
 | z :: zs => by
   show (zer (ID zs)).map (z :: ·) = some (z :: zs)
   rw [zg9 zs]; rfl
theorem up_b : ∀ {l : List Int}, l.Pairwise (· < ·) → upB l = true
 | [], _ => rfl
 | [_], _ => rfl
 | a :: b :: l, h => by
   have h1 := List.pairwise_cons.1 h
   have h2 := h1.1 b (by simp)
   unfold upB
   rw [up_b h1.2, Bool.and_true]
   simp; omega
theorem ev_bs (b : Bool) (ns : List Int) (x : Int) (hu : ns.Pairwise (· < ·)) (hl : ns.length ≤ 1000000) : EvN 1 83 [.dat (.lst b (ID ns)), .dat (I x)] [] [] ([.dat (I ((ns.countP (· < x) : Nat) : Int)), .dat (B (ns.contains x))], [], []) := by
 refine zgu (g := zlK) (by kernel_rfl) ?_
 have hl' : Nat.ble ns.length 1000000 = true := by simpa using hl
 unfold zlK
 simp only [zg9, Option.bind_some, up_b hu, hl', Bool.and_self]
 rfl
theorem zpX (ns : List Int) (k : Nat) (x : Int) (hk : k ≤ ns.length) (hl : ns.length ≤ 1000000) : EvN 1 84 [.own 3 (ID ns), .dat (I (k : Int)), .own 3 [I x]] [] [] ([.own 3 (ID (insZ ns k x))], [], []) := by
 refine zgu (g := zht 3) (by kernel_rfl) ?_
 have h1 : (Nat.beq 3 3 && Nat.beq 3 3) = true := rfl
 have h2 : (decide (0 ≤ (k : Int)) && decide ((k : Int) ≤ ((ID ns).length : Int))) = true := by simp; omega
 have h3 : Nat.ble (ID ns).length 1000000 = true := by simpa using hl
 unfold zht
 simp only [h1, h2, h3, Bool.and_self, zg9, Option.map_some, Int.toNat_natCast]
 rfl
theorem zpo (zs : List Int) (i : Int) (h0 : 0 ≤ i) (h1 : i < (zs.length : Int)) (hl : zs.length ≤ 1000000) : EvN 1 109 [.own 3 (ID zs), .dat (I i), .dat (I (i + 1))] [] [] ([.own 3 (ID (zs.take i.toNat ++ zs.drop (i.toNat + 1)))], [], []) := by
 refine zgu (g := zip 3) (by kernel_rfl) ?_
 have h2 : (decide (0 ≤ i) && decide (i ≤ i + 1) && decide (i + 1 ≤ ((ID zs).length : Int))) = true := by simp; omega
 have h3 : Nat.ble (ID zs).length 1000000 = true := by simpa using hl
 have h4 : Nat.beq 3 3 = true := rfl
 have h5 : (i + 1).toNat = i.toNat + 1 := by omega
 unfold zip
 simp only [h2, h3, h4, Bool.and_self, zg9, Option.map_some, h5]
 rfl
abbrev WrD (w : Ws) (room nur : Int) : List D := Wr w.h.o (CD w.h.cs) (ID w.h.rs) (ID w.h.ns) (zai w.out) room nur w.full
abbrev LsD (w : Ws) (room nur : Int) (fr : Bool) : List D := Ls w.h.o (CD w.h.cs) (ID w.h.rs) (ID w.h.ns) room nur fr w.full w.out
theorem zl8 (h : Hp) (g : Hg h) (bs : List Dat) (room nur : Int) (full : Bool) (at_ : Int) (second : Bool) (to : Int) (ha : 0 ≤ at_ ∧ at_ < (h.cs.length : Int)) :
 EvN 10 57 [.ptr (.up 0) 0, .dat (I at_), .dat (B second), .dat (I to)] [Wr h.o (CD h.cs) (ID h.rs) (ID h.ns) bs room nur full] [] ([], [Wr (setH h at_ second to).o (CD (setH h at_ second to).cs) (ID (setH h at_ second to).rs) (ID (setH h at_ second to).ns) bs room nur full], []) := by
 refine zax Go.Proofs.Tryd.f57 9 (by kernel_rfl) (by kernel_rfl) fun kk hkk => ?_
 have hnl := zeJ g
 have hc := zf1 (c := h.cs) ha.1 ha.2
 have hcont : h.ns.contains at_ = hasB h.ns at_ := by
  rw [Bool.eq_iff_iff, zfd]; simp
 have h83 := ev_bs true h.ns at_ g.nup (by omega) kk (by omega)
 rw [hcont] at h83
 have h84 := zpX h.ns (h.ns.countP (· < at_)) at_ List.countP_le_length (by omega) kk (by omega)
 have hins : hasB h.ns at_ = false → insZ h.ns (h.ns.countP (· < at_)) at_ = insL at_ h.ns := fun e => zj5 g.nup fun hm => by rw [(zfd _ _).2 hm] at e; cases e
 have hp1 : decide (at_ < h.o) = true → decide (h.o ≤ to) = true → (!hasB h.ns at_) = true → (setH h at_ second to).ns = insZ h.ns (h.ns.countP (· < at_)) at_ := fun d1 d2 d3 => by
  have : putN h at_ to = true := by unfold putN; rw [d1, d2, d3]; rfl
  rw [hins (by simpa using d3)]
  show (match putN h at_ to with | true => insL at_ h.ns | false => h.ns) = _
  rw [this]
 have hp2 : putN h at_ to = false → (setH h at_ second to).ns = h.ns := fun d => by
  show (match putN h at_ to with | true => insL at_ h.ns | false => h.ns) = _
  rw [d]
 have hq1 : (!hasB h.ns at_) = false → putN h at_ to = false := fun d => by unfold putN; rw [d, Bool.and_false]
 have hq2 : decide (h.o ≤ to) = false → putN h at_ to = false := fun d => by unfold putN; rw [d, Bool.and_false, Bool.false_and]
 have hq3 : decide (at_ < h.o) = false → putN h at_ to = false := fun d => by unfold putN; rw [d, Bool.false_and, Bool.false_and]
 have hst : second = true → (CD h.cs).set at_.toNat (Dat.agg [B (cg h.cs at_).l, I (cg h.cs at_).n, I (cg h.cs at_).a, I to]) = CD (setH h at_ second to).cs := fun e => by rw [e]; exact set_cd.1
 have hsf : second = false → (CD h.cs).set at_.toNat (Dat.agg [B (cg h.cs at_).l, I (cg h.cs at_).n, I to, I (cg h.cs at_).b]) = CD (setH h at_ second to).cs := fun e => by rw [e]; exact set_cd.2
 exact setW kk h.o _ _ _ bs room nur full at_ second to (cg h.cs at_) (cg h.cs at_) _ (hasB h.ns at_) _
  (fun d1 d2 d3 d4 => ⟨hc.1, hc.2, h83, h84, by rw [hst d1, ← hp1 d2 d3 d4]; rfl⟩)
  (fun d1 d2 d3 d4 => ⟨hc.1, hc.2, h83, by rw [hst d1, hp2 (hq1 d4)]; rfl⟩)
  (fun d1 d2 d3 => ⟨hc.1, hc.2, h83, by rw [hst d1, hp2 (hq2 d3)]; rfl⟩)
  (fun d1 d2 => ⟨hc.1, hc.2, h83, by rw [hst d1, hp2 (hq3 d2)]; rfl⟩)
  (fun d1 d2 d3 d4 => ⟨hc.1, hc.2, h83, h84, by rw [hsf d1, ← hp1 d2 d3 d4]; rfl⟩)
  (fun d1 d2 d3 d4 => ⟨hc.1, hc.2, h83, by rw [hsf d1, hp2 (hq1 d4)]; rfl⟩)
  (fun d1 d2 d3 => ⟨hc.1, hc.2, h83, by rw [hsf d1, hp2 (hq2 d3)]; rfl⟩)
  (fun d1 d2 => ⟨hc.1, hc.2, h83, by rw [hsf d1, hp2 (hq3 d2)]; rfl⟩)
theorem zjU {room nur : Int} {h : Hp} : (decide (nur ≤ (h.cs.length : Int) - h.o) = true → decide (room ≤ ((zaN h).cs.length : Int)) = true → zbn false room nur h = zco (zaN h)) ∧ (decide (nur ≤ (h.cs.length : Int) - h.o) = true → decide (room ≤ ((zaN h).cs.length : Int)) = false → zbn false room nur h = zaN h) ∧
 (decide (nur ≤ (h.cs.length : Int) - h.o) = false → decide (room ≤ (h.cs.length : Int)) = true → zbn false room nur h = zco h) ∧ (decide (nur ≤ (h.cs.length : Int) - h.o) = false → decide (room ≤ (h.cs.length : Int)) = false → zbn false room nur h = h) := by
 refine ⟨fun d1 d2 => ?_, fun d1 d2 => ?_, fun d1 d2 => ?_, fun d1 d2 => ?_⟩ <;> (unfold zbn; simp only [d1, d2])
theorem zo9 (fr : Bool) (room nur : Int) (h : Hp) (g : Hg h) (out : ByteArray) : EvN 1200 121 [.ptr (.up 0) 0] [Ls h.o (CD h.cs) (ID h.rs) (ID h.ns) room nur fr false out] []
 ([], [Ls (zbn fr room nur h).o (CD (zbn fr room nur h).cs) (ID (zbn fr room nur h).rs) (ID (zbn fr room nur h).ns) room nur fr (zcd fr room (zbn fr room nur h)) out], []) := by
 refine zax Go.Proofs.Tryd.f121 1199 (by kernel_rfl) (by kernel_rfl) fun kk hkk => ?_
 have hcl := g.clen
 have ho0 := g.o0
 have ho1 := g.o1
 cases fr with
 | true => exact tidy kk h.o _ _ _ room nur true false out 0 [] [] [] 0 [] [] [] (fun d => by cases d) (fun d => by cases d) (fun d => by cases d) (fun d => by cases d) (fun _ => rfl)
 | false =>
   have hlc : ((CD h.cs).length : Int) = (h.cs.length : Int) := by simp
   have hw : w64 (((CD h.cs).length : Int) - h.o) = (h.cs.length : Int) - h.o := by rw [hlc, zca (by omega)]
   have hly : ((CD (zaN h).cs).length : Int) = ((zaN h).cs.length : Int) := by simp
   obtain ⟨t1, t2, t3, t4⟩ := zjU (room := room) (nur := nur) (h := h)
   have h93 := zft true h g kk (by omega)
   have hfw : ∀ x : Hp, zcd false room x = decide (room ≤ ((CD x.cs).length : Int)) := fun x => by simp [zcd]
   by_cases hy : decide (nur ≤ (h.cs.length : Int) - h.o) = true
   · have h92 := zeS true (zaN h) (zb4 g) kk (by omega)
     exact tidy kk h.o _ _ _ room nur false false out (zaN h).o _ _ _ (zco (zaN h)).o _ _ _ (fun _ _ d => ⟨zay _, h93, zay _, h92, by rw [t1 hy (by rw [← hly]; exact d), hfw]⟩) (fun _ _ d => ⟨zay _, h93, by rw [t2 hy (by rw [← hly]; exact d), hfw]⟩) (fun _ d => by rw [hw, hy] at d; cases d) (fun _ d => by rw [hw, hy] at d; cases d) (fun d => by cases d)
   · have hy : decide (nur ≤ (h.cs.length : Int) - h.o) = false := by simpa using hy
     have h92 := zeS true h g kk (by omega)
     exact tidy kk h.o _ _ _ room nur false false out 0 [] [] [] (zco h).o _ _ _ (fun _ d => by rw [hw, hy] at d; cases d) (fun _ d => by rw [hw, hy] at d; cases d) (fun _ _ d => ⟨zay _, h92, by rw [t3 hy (by rw [← hlc]; exact d), hfw]⟩) (fun _ _ d => by rw [t4 hy (by rw [← hlc]; exact d), hfw]) (fun d => by cases d)
theorem zfU (fr : Bool) (room nur : Int) (hfr : fr = decide (room < 0)) (h : Hp) (g : Hg h) (bs : List Dat) (hr : h.rs.length < 60) : EvN 1050200 94 [.ptr (.up 0) 0] [Wr h.o (CD h.cs) (ID h.rs) (ID h.ns) bs room nur false] []
 ([.dat (B (!zcd fr room (zbn fr room nur h)))], [Wr (zbn fr room nur h).o (CD (zbn fr room nur h).cs) (ID (zbn fr room nur h).rs) (ID (zbn fr room nur h).ns) bs room nur (zcd fr room (zbn fr room nur h))], []) := by
 refine zax Go.Proofs.Tryd.f94 1050199 (by kernel_rfl) (by kernel_rfl) fun kk hkk => ?_
 have hcl := g.clen
 have ho0 := g.o0
 have ho1 := g.o1
 have hlr : ((ID h.rs).length : Int) = (h.rs.length : Int) := by simp
 have n60 : ∀ {p : Prop}, decide (60 ≤ ((ID h.rs).length : Int)) = true → p := fun d => by
  have := of_decide_eq_true d
  rw [hlr] at this
  omega
 cases fr with
 | true => exact zeU kk h.o _ _ _ bs room nur false 0 [] [] [] 0 [] [] [] n60 (fun _ _ => rfl) (fun _ d => by rw [← hfr] at d; cases d) (fun _ d => by rw [← hfr] at d; cases d) (fun _ d => by rw [← hfr] at d; cases d) (fun _ d => by rw [← hfr] at d; cases d)
 | false =>
   have hlc : ((CD h.cs).length : Int) = (h.cs.length : Int) := by simp
   have hw : w64 (((CD h.cs).length : Int) - h.o) = (h.cs.length : Int) - h.o := by rw [hlc, zca (by omega)]
   have hly : ((CD (zaN h).cs).length : Int) = ((zaN h).cs.length : Int) := by simp
   obtain ⟨t1, t2, t3, t4⟩ := zjU (room := room) (nur := nur) (h := h)
   have h59 := zhM true h g kk (by omega)
   have hfw : ∀ x : Hp, zcd false room x = decide (room ≤ ((CD x.cs).length : Int)) := fun x => by simp [zcd]
   by_cases hy : decide (nur ≤ (h.cs.length : Int) - h.o) = true
   · have h60 := zgY true (zaN h) (zb4 g) kk (by omega)
     exact zeU kk h.o _ _ _ bs room nur false (zaN h).o _ _ _ (zco (zaN h)).o _ _ _ n60 (fun _ d => by rw [← hfr] at d; cases d) (fun _ _ _ d => ⟨zay _, h59, zay _, h60, by rw [t1 hy (by rw [← hly]; exact d), hfw]⟩) (fun _ _ _ d => ⟨zay _, h59, by rw [t2 hy (by rw [← hly]; exact d), hfw]⟩) (fun _ _ d => by rw [hw, hy] at d; cases d) (fun _ _ d => by rw [hw, hy] at d; cases d)
   · have hy : decide (nur ≤ (h.cs.length : Int) - h.o) = false := by simpa using hy
     have h60 := zgY true h g kk (by omega)
     exact zeU kk h.o _ _ _ bs room nur false 0 [] [] [] (zco h).o _ _ _ n60 (fun _ d => by rw [← hfr] at d; cases d) (fun _ _ d => by rw [hw, hy] at d; cases d) (fun _ _ d => by rw [hw, hy] at d; cases d) (fun _ _ _ d => ⟨zay _, h60, by rw [t3 hy (by rw [← hlc]; exact d), hfw]⟩) (fun _ _ _ d => by rw [t4 hy (by rw [← hlc]; exact d), hfw])
theorem zda (room nur : Int) (h : Hp) (bs : List Dat) (full : Bool) (hr : 60 ≤ h.rs.length) : EvN 1 94 [.ptr (.up 0) 0] [Wr h.o (CD h.cs) (ID h.rs) (ID h.ns) bs room nur full] [] ([.dat (B false)], [Wr h.o (CD h.cs) (ID h.rs) (ID h.ns) bs room nur full], []) := by
 refine zax Go.Proofs.Tryd.f94 0 (by kernel_rfl) (by kernel_rfl) fun kk hkk => ?_
 have n60 : ∀ {p : Prop}, decide (60 ≤ ((ID h.rs).length : Int)) = false → p := fun d => by
  have := of_decide_eq_false d
  simp at this
  omega
 exact zeU kk h.o _ _ _ bs room nur full 0 [] [] [] 0 [] [] [] (fun _ => rfl) (fun d => n60 d) (fun d => n60 d) (fun d => n60 d) (fun d => n60 d) (fun d => n60 d)
end Go.Den
namespace Go.Den
open Go
set_option linter.unusedVariables false
set_option maxRecDepth 100000
open Go.Proofs.YtcmcfebihbmmeaaDoor (num numV)
theorem zfn {h : Hp} (g : Hg h) {a : Int} (ha : zad a h.rs.length = true) : (0 ≤ a ∧ a < ((ID h.rs).length : Int)) ∧ (ID h.rs)[a.toNat]? = some (I (rg h a)) ∧ (0 ≤ rg h a ∧ rg h a < ((CD h.cs).length : Int)) ∧ (CD h.cs)[(rg h a).toNat]? = some (cg h.cs (rg h a)).d := by
 obtain ⟨h1, h2⟩ := zmu ha
 have h3 := zcN g ha
 obtain ⟨h4, h5⟩ := zf1 (c := h.cs) h3.1 h3.2
 exact ⟨by simpa using h1, gm (f := (I ·)) h2, h4, h5⟩
theorem in39 {h : Hp} (g : Hg h) (a : Int) : EvN 1 39 [.dat (I a), .dat (I 0), .dat (I (w64 (((ID h.rs).length : Int) - 1)))] [] [] ([.dat (B (zad a h.rs.length))], [], []) := by
 have hrl := g.rlen
 have := ziX a 0 ((h.rs.length : Int) - 1)
 rw [zn4] at this
 rw [show w64 (((ID h.rs).length : Int) - 1) = (h.rs.length : Int) - 1 by rw [List.length_map, zca (by omega)]]
 exact this
theorem zmE (cs : List Cl) (c : Cl) : CD cs ++ [c.d] = CD (cs ++ [c]) := by simp [CD]
theorem zfK (zs : List Int) (z : Int) : ID zs ++ [I z] = ID (zs ++ [z]) := by simp [ID]
theorem zlP {cs : List Cl} {c : Cl} (h : cs.length ≤ 1000) : w64 (((CD cs ++ [c.d]).length : Int) - 1) = (cs.length : Int) := by
 rw [List.length_append, List.length_map, zca (by simp; omega)]; simp
theorem zmf (fr : Bool) (room nur : Int) (k a b : Int) (w : Ws) (g : Hg w.h) (hf : w.full = false) (hk2 : k = 2 → zad a w.h.rs.length = true ∧ zad b w.h.rs.length = true) :
 EvN 1210 91 [.ptr (.up 0) 0, .dat (N3 k a b)] [LsD w room nur fr] [] ([], [LsD (putO fr room nur (decide (k = 2)) a b w) room nur fr], []) := by
 refine zax Go.Proofs.Tryd.f91 1209 (by kernel_rfl) (by kernel_rfl) fun kk hkk => ?_
 have h121 := zo9 fr room nur w.h g w.out kk (by omega)
 have gt := zdK (fr := fr) (room := room) (nur := nur) g
 have hrs := zd9 (fr := fr) (room := room) (nur := nur) (h := w.h)
 rw [← hf] at h121
 unfold putO
 generalize zbn fr room nur w.h = t at *
 have hcl := gt.clen
 have hrl := gt.rlen
 have lc : (CD t.cs).length + 1 ≤ 2147483648 := by simp; omega
 have lr : (ID t.rs).length + 1 ≤ 2147483648 := by simp; omega
 refine putL kk w.h.o _ _ _ room nur fr w.full w.out k a b t.o _ _ _ (zcd fr room t) (rg t a) (rg t b) (fun d => ⟨h121, by rw [d]⟩) (fun d d2 => ?_) (fun d d2 => ?_)
 · obtain ⟨ha, hb⟩ := hk2 (of_decide_eq_true d2)
   obtain ⟨a1, a2, _⟩ := zfn gt (a := a) (by rw [hrs]; exact ha)
   obtain ⟨b1, b2, _⟩ := zfn gt (a := b) (by rw [hrs]; exact hb)
   refine ⟨h121, a1, a2, b1, b2, lc, lr, ?_⟩
   have e1 := zmE t.cs (zex true a b t)
   have e2 := zlP (cs := t.cs) (c := zex true a b t) (by omega)
   have e3 := zfK t.rs (t.cs.length : Int)
   rw [d, d2]
   show (([], [Ls t.o (CD (t.cs ++ [zex true a b t])) (ID (t.rs ++ [(t.cs.length : Int)])) (ID t.ns) room nur fr false w.out], []) : Res) = _
   rw [← e1, ← e3, ← e2]
   rfl
 · refine ⟨h121, lc, lr, ?_⟩
   have e1 := zmE t.cs (zex false a b t)
   have e2 := zlP (cs := t.cs) (c := zex false a b t) (by omega)
   have e3 := zfK t.rs (t.cs.length : Int)
   rw [d, d2]
   show (([], [Ls t.o (CD (t.cs ++ [zex false a b t])) (ID (t.rs ++ [(t.cs.length : Int)])) (ID t.ns) room nur fr false w.out], []) : Res) = _
   rw [← e1, ← e3, ← e2]
   rfl
section
variable {fr : Bool} {room nur : Int} {a b : Int} {w : Ws}
theorem zpy : opW fr room nur 1 a b w = (match decide ((w.h.rs.length : Int) < 60) with | true => putO fr room nur false a b w | false => w) := by
 unfold opW
 rw [if_pos rfl]
 try rfl
theorem znc : opW fr room nur 2 a b w = (match zad a w.h.rs.length && zad b w.h.rs.length && decide ((w.h.rs.length : Int) < 60) with | true => putO fr room nur true a b w | false => w) := by
 unfold opW
 rw [if_neg (by decide : ¬ (2 : Int) = 1), if_pos rfl]
 try rfl
theorem zoB : opW fr room nur 3 a b w = (match zad a w.h.rs.length && decide ((w.h.rs.length : Int) < 60) && !(cg w.h.cs (rg w.h a)).l with | true => zlZ w false (rg w.h a) | false => w) := by
 unfold opW
 rw [if_neg (by decide : ¬ (3 : Int) = 1), if_neg (by decide : ¬ (3 : Int) = 2), if_pos rfl]
 try rfl
theorem zo4 : opW fr room nur 4 a b w = (match zad a w.h.rs.length && decide ((w.h.rs.length : Int) < 60) && !(cg w.h.cs (rg w.h a)).l with | true => zlZ w true (rg w.h a) | false => w) := by
 unfold opW
 rw [if_neg (by decide : ¬ (4 : Int) = 1), if_neg (by decide : ¬ (4 : Int) = 2), if_neg (by decide : ¬ (4 : Int) = 3), if_pos rfl]
 try rfl
theorem zpa : opW fr room nur 5 a b w = (match zad a w.h.rs.length with | true => ⟨znL w.h a, w.full, w.out⟩ | false => w) := by
 unfold opW
 rw [if_neg (by decide : ¬ (5 : Int) = 1), if_neg (by decide : ¬ (5 : Int) = 2), if_neg (by decide : ¬ (5 : Int) = 3), if_neg (by decide : ¬ (5 : Int) = 4), if_pos rfl]
 try rfl
theorem zoG : opW fr room nur 6 a b w = (match zad a w.h.rs.length with | true => ⟨w.h, w.full, w.out ++ (showB w.h.cs 4 (rg w.h a) ++ nlB)⟩ | false => w) := by
 unfold opW
 rw [if_neg (by decide : ¬ (6 : Int) = 1), if_neg (by decide : ¬ (6 : Int) = 2), if_neg (by decide : ¬ (6 : Int) = 3), if_neg (by decide : ¬ (6 : Int) = 4), if_neg (by decide : ¬ (6 : Int) = 5), if_pos rfl]
 try rfl
theorem znC : opW fr room nur 7 a b w = (match zad a w.h.rs.length && zad b w.h.rs.length && !(cg w.h.cs (rg w.h a)).l with | true => ⟨setH w.h (rg w.h a) false (rg w.h b), w.full, w.out⟩ | false => w) := by
 unfold opW
 rw [if_neg (by decide : ¬ (7 : Int) = 1), if_neg (by decide : ¬ (7 : Int) = 2), if_neg (by decide : ¬ (7 : Int) = 3), if_neg (by decide : ¬ (7 : Int) = 4), if_neg (by decide : ¬ (7 : Int) = 5), if_neg (by decide : ¬ (7 : Int) = 6), if_pos rfl]
 try rfl
theorem zmX : opW fr room nur 8 a b w = (match zad a w.h.rs.length && zad b w.h.rs.length && !(cg w.h.cs (rg w.h a)).l with | true => ⟨setH w.h (rg w.h a) true (rg w.h b), w.full, w.out⟩ | false => w) := by
 unfold opW
 rw [if_neg (by decide : ¬ (8 : Int) = 1), if_neg (by decide : ¬ (8 : Int) = 2), if_neg (by decide : ¬ (8 : Int) = 3), if_neg (by decide : ¬ (8 : Int) = 4), if_neg (by decide : ¬ (8 : Int) = 5), if_neg (by decide : ¬ (8 : Int) = 6), if_neg (by decide : ¬ (8 : Int) = 7), if_pos rfl]
 try rfl
theorem zn3 : opW fr room nur 9 a b w = (match zad a w.h.rs.length && zad b w.h.rs.length with | true => ⟨w.h, w.full, w.out ++ (if rg w.h a = rg w.h b then sameB else otherB)⟩ | false => w) := by
 unfold opW
 rw [if_neg (by decide : ¬ (9 : Int) = 1), if_neg (by decide : ¬ (9 : Int) = 2), if_neg (by decide : ¬ (9 : Int) = 3), if_neg (by decide : ¬ (9 : Int) = 4), if_neg (by decide : ¬ (9 : Int) = 5), if_neg (by decide : ¬ (9 : Int) = 6), if_neg (by decide : ¬ (9 : Int) = 7), if_neg (by decide : ¬ (9 : Int) = 8), if_pos rfl]
 try rfl
theorem zoo : opW fr room nur 10 a b w = (match fr with | true => w | false => ⟨zco w.h, w.full, w.out⟩) := by
 unfold opW
 rw [if_neg (by decide : ¬ (10 : Int) = 1), if_neg (by decide : ¬ (10 : Int) = 2), if_neg (by decide : ¬ (10 : Int) = 3), if_neg (by decide : ¬ (10 : Int) = 4), if_neg (by decide : ¬ (10 : Int) = 5), if_neg (by decide : ¬ (10 : Int) = 6), if_neg (by decide : ¬ (10 : Int) = 7), if_neg (by decide : ¬ (10 : Int) = 8), if_neg (by decide : ¬ (10 : Int) = 9), if_pos rfl]
 try rfl
theorem zoi : opW fr room nur 11 a b w = (match fr with | true => w | false => ⟨zaN w.h, w.full, w.out⟩) := by
 unfold opW
 rw [if_neg (by decide : ¬ (11 : Int) = 1), if_neg (by decide : ¬ (11 : Int) = 2), if_neg (by decide : ¬ (11 : Int) = 3), if_neg (by decide : ¬ (11 : Int) = 4), if_neg (by decide : ¬ (11 : Int) = 5), if_neg (by decide : ¬ (11 : Int) = 6), if_neg (by decide : ¬ (11 : Int) = 7), if_neg (by decide : ¬ (11 : Int) = 8), if_neg (by decide : ¬ (11 : Int) = 9), if_neg (by decide : ¬ (11 : Int) = 10), if_pos rfl]
 try rfl
def zpL (k : Int) : Prop := k ≠ 1 ∧ k ≠ 2 ∧ k ≠ 3 ∧ k ≠ 4 ∧ k ≠ 5 ∧ k ≠ 6 ∧ k ≠ 7 ∧ k ≠ 8 ∧ k ≠ 9 ∧ k ≠ 10 ∧ k ≠ 11
theorem zpG {k : Int} (h : zpL k) : opW fr room nur k a b w = w := by
 obtain ⟨h1, h2, h3, h4, h5, h6, h7, h8, h9, h10, h11⟩ := h
 unfold opW
 rw [if_neg h1, if_neg h2, if_neg h3, if_neg h4, if_neg h5, if_neg h6, if_neg h7, if_neg h8, if_neg h9, if_neg h10, if_neg h11]
end
theorem zjq {fr : Bool} {room nur : Int} {pair : Bool} {a b : Int} {w : Ws} : (putO fr room nur pair a b w).out = w.out := by
 unfold putO
 split <;> rfl
theorem zms (zs : List Int) (n : Nat) : List.take n (ID zs) = ID (zs.take n) := by simp [ID]
theorem zlU (zs : List Int) (n : Nat) : List.drop n (ID zs) = ID (zs.drop n) := by simp [ID]
theorem zpN (fr : Bool) (room nur : Int) (k a b : Int) (w : Ws) (g : Hg w.h) (hf : w.full = false) (ho : w.out.size ≤ 1000000) : EvN 1050000 76 [.ptr (.up 0) 0, .dat (N3 k a b)] [LsD w room nur fr] [] ([], [LsD (opW fr room nur k a b w) room nur fr], []) := by
 refine zax Go.Proofs.Tryd.f76 1049999 (by kernel_rfl) (by kernel_rfl) fun kk hkk => ?_
 have hcl := g.clen
 have hrl := g.rlen
 have hlr : ((ID w.h.rs).length : Int) = (w.h.rs.length : Int) := by simp
 have A1 := in39 g a kk (by omega)
 have B1 := in39 g b kk (by omega)
 have hA := fun h => zfn g (a := a) h
 have hB := fun h => zfn g (a := b) h
 have lr : (ID w.h.rs).length + 1 ≤ 2147483648 := by simp; omega
 have hn1 : (ByteArray.mk #[10]).size = 1 := rfl
 by_cases k1 : k = 1
 · subst k1
   have hput := zmf fr room nur 1 a b w g hf (fun e => by cases e) kk (by omega)
   have e : (decide ((1 : Int) = 2)) = false := rfl
   rw [e] at hput
   rw [zpy, ← hlr]
   have hp := zjq (fr := fr) (room := room) (nur := nur) (pair := false) (a := a) (b := b) (w := w)
   generalize putO fr room nur false a b w = p at hput hp ⊢
   have hput : den cfg kk 91 [.ptr (.up 0) 0, .dat (N3 1 a b)] [LsD w room nur fr] [] = some ([], [Ls p.h.o (CD p.h.cs) (ID p.h.rs) (ID p.h.ns) room nur fr p.full w.out], []) := by rw [← hp]; exact hput
   exact opL_1 kk w.h.o _ _ _ room nur fr w.full w.out a b _ _ _ _ p.full (zad a w.h.rs.length) (zad b w.h.rs.length) (rg w.h a) (cg w.h.cs (rg w.h a))
    (fun d d2 => ⟨A1, B1, (hA d).1, (hA d).2.1, (hA d).2.2.1, (hA d).2.2.2, hput, by rw [d2, ← hp]⟩)
    (fun d d2 => ⟨A1, B1, (hA d).1, (hA d).2.1, (hA d).2.2.1, (hA d).2.2.2, by rw [d2]⟩)
    (fun d d2 => ⟨A1, B1, hput, by rw [d2, ← hp]⟩) (fun d d2 => ⟨A1, B1, by rw [d2]⟩)
 by_cases k2 : k = 2
 · subst k2
   have e : (decide ((2 : Int) = 2)) = true := rfl
   have hput := fun h1 h2 => zmf fr room nur 2 a b w g hf (fun _ => ⟨h1, h2⟩) kk (by omega)
   rw [e] at hput
   rw [znc, ← hlr]
   have hp := zjq (fr := fr) (room := room) (nur := nur) (pair := true) (a := a) (b := b) (w := w)
   generalize putO fr room nur true a b w = p at hput hp ⊢
   have hput : zad a w.h.rs.length = true → zad b w.h.rs.length = true → den cfg kk 91 [.ptr (.up 0) 0, .dat (N3 2 a b)] [LsD w room nur fr] [] = some ([], [Ls p.h.o (CD p.h.cs) (ID p.h.rs) (ID p.h.ns) room nur fr p.full w.out], []) := by rw [← hp]; exact hput
   rw [hlr]
   exact opL_2 kk w.h.o _ _ _ room nur fr w.full w.out a b _ _ _ _ p.full (zad a w.h.rs.length) (zad b w.h.rs.length) (rg w.h a) (cg w.h.cs (rg w.h a))
    (fun d d2 d3 => ⟨A1, B1, (hA d).1, (hA d).2.1, (hA d).2.2.1, (hA d).2.2.2, hput d d3, by rw [hlr] at d2; rw [d, d2, d3, ← hp]; rfl⟩)
    (fun d d2 d3 => ⟨A1, B1, (hA d).1, (hA d).2.1, (hA d).2.2.1, (hA d).2.2.2, by rw [d, d3]; rfl⟩)
    (fun d d2 => ⟨A1, B1, (hA d).1, (hA d).2.1, (hA d).2.2.1, (hA d).2.2.2, by rw [hlr] at d2; rw [d2, Bool.and_false]⟩)
    (fun d d2 => ⟨A1, B1, by rw [d]; rfl⟩) (fun d d2 => ⟨A1, B1, by rw [d]; rfl⟩)
 have h60 : decide (((ID w.h.rs).length : Int) = 60) = true → decide ((w.h.rs.length : Int) < 60) = false := fun d => by
  have := of_decide_eq_true d
  rw [hlr] at this
  simp; omega
 have h59 : decide (((ID w.h.rs).length : Int) = 60) = false → decide ((w.h.rs.length : Int) < 60) = true := fun d => by
  have := of_decide_eq_false d
  rw [hlr] at this
  simp; omega
 by_cases k3 : k = 3
 · subst k3
   rw [zoB]
   exact opL_3 kk w.h.o _ _ _ room nur fr w.full w.out a b (zad a w.h.rs.length) (zad b w.h.rs.length) (rg w.h a) (cg w.h.cs (rg w.h a))
    (fun d d2 => ⟨A1, B1, (hA d).1, (hA d).2.1, (hA d).2.2.1, (hA d).2.2.2, by rw [d, h60 d2]; rfl⟩)
    (fun d d2 d3 => ⟨A1, B1, (hA d).1, (hA d).2.1, (hA d).2.2.1, (hA d).2.2.2, by rw [d, h59 d2, d3]; rfl⟩)
    (fun d d2 d3 => ⟨A1, B1, (hA d).1, (hA d).2.1, (hA d).2.2.1, (hA d).2.2.2, lr, by rw [d, h59 d2, d3, zfK]; rfl⟩)
    (fun d => ⟨A1, B1, by rw [d]; rfl⟩)
 by_cases k4 : k = 4
 · subst k4
   rw [zo4]
   exact opL_4 kk w.h.o _ _ _ room nur fr w.full w.out a b (zad a w.h.rs.length) (zad b w.h.rs.length) (rg w.h a) (cg w.h.cs (rg w.h a))
    (fun d d2 => ⟨A1, B1, (hA d).1, (hA d).2.1, (hA d).2.2.1, (hA d).2.2.2, by rw [d, h60 d2]; rfl⟩)
    (fun d d2 d3 => ⟨A1, B1, (hA d).1, (hA d).2.1, (hA d).2.2.1, (hA d).2.2.2, by rw [d, h59 d2, d3]; rfl⟩)
    (fun d d2 d3 => ⟨A1, B1, (hA d).1, (hA d).2.1, (hA d).2.2.1, (hA d).2.2.2, lr, by rw [d, h59 d2, d3, zfK]; rfl⟩)
    (fun d => ⟨A1, B1, by rw [d]; rfl⟩)
 by_cases k5 : k = 5
 · subst k5
   rw [zpa]
   exact opL_5 kk w.h.o _ _ _ room nur fr w.full w.out a b (zad a w.h.rs.length) (zad b w.h.rs.length) (rg w.h a) (cg w.h.cs (rg w.h a))
    (fun d => by
     have h1 := (hA d).1
     have hw : w64 (a + 1) = a + 1 := zca (by omega)
     refine ⟨A1, B1, h1, (hA d).2.1, (hA d).2.2.1, (hA d).2.2.2, ⟨h1.1, by omega⟩, ⟨by omega, by omega⟩, ⟨by rw [zms]; exact zml _, by simp; omega⟩, ⟨by rw [zlU]; exact zml _, by simp; omega⟩, ?_⟩
     rw [d, zms, zlU, hw, show (a + 1).toNat = a.toNat + 1 by omega]
     simp [LsD, znL, ID])
    (fun d => ⟨A1, B1, by rw [d]⟩)
 by_cases k6 : k = 6
 · subst k6
   rw [zoG]
   exact opL_6 kk w.h.o _ _ _ room nur fr w.full w.out a b (zad a w.h.rs.length) (zad b w.h.rs.length) (rg w.h a) (cg w.h.cs (rg w.h a)) (rg w.h a) (showB w.h.cs 4 (rg w.h a))
    (fun d => ⟨A1, B1, (hA d).1, (hA d).2.1, (hA d).2.2.1, (hA d).2.2.2, (hA d).1, (hA d).2.1, znO true w.h.cs g.cells 4 (rg w.h a) (by omega) (zcN g d).1 (zcN g d).2 kk (by omega), by have := zbw w.h.cs g.cells 4 (rg w.h a); omega, by have := zbw w.h.cs g.cells 4 (rg w.h a); rw [ByteArray.size_append]; omega, by rw [d]⟩)
    (fun d => ⟨A1, B1, by rw [d]⟩)
 by_cases k7 : k = 7
 · subst k7
   rw [znC]
   exact opL_7 kk w.h.o _ _ _ room nur fr w.full w.out a b (zad a w.h.rs.length) (zad b w.h.rs.length) (rg w.h a) (cg w.h.cs (rg w.h a)) (rg w.h a) (rg w.h b) _ _ _ _
    (fun d d2 d3 => ⟨A1, B1, (hA d).1, (hA d).2.1, (hA d).2.2.1, (hA d).2.2.2, (hA d).1, (hA d).2.1, (hB d2).1, (hB d2).2.1, zay (setH w.h (rg w.h a) false (rg w.h b)), zjF true w.h g (rg w.h a) false (rg w.h b) (zcN g d) kk (by omega), by rw [d, d2, d3]; rfl⟩)
    (fun d d2 d3 => ⟨A1, B1, (hA d).1, (hA d).2.1, (hA d).2.2.1, (hA d).2.2.2, by rw [d, d2, d3]; rfl⟩)
    (fun d d2 => ⟨A1, B1, (hA d).1, (hA d).2.1, (hA d).2.2.1, (hA d).2.2.2, by rw [d, d2]; rfl⟩)
    (fun d => ⟨A1, B1, by rw [d]; rfl⟩)
 by_cases k8 : k = 8
 · subst k8
   rw [zmX]
   exact opL_8 kk w.h.o _ _ _ room nur fr w.full w.out a b (zad a w.h.rs.length) (zad b w.h.rs.length) (rg w.h a) (cg w.h.cs (rg w.h a)) (rg w.h a) (rg w.h b) _ _ _ _
    (fun d d2 d3 => ⟨A1, B1, (hA d).1, (hA d).2.1, (hA d).2.2.1, (hA d).2.2.2, (hA d).1, (hA d).2.1, (hB d2).1, (hB d2).2.1, zay (setH w.h (rg w.h a) true (rg w.h b)), zjF true w.h g (rg w.h a) true (rg w.h b) (zcN g d) kk (by omega), by rw [d, d2, d3]; rfl⟩)
    (fun d d2 d3 => ⟨A1, B1, (hA d).1, (hA d).2.1, (hA d).2.2.1, (hA d).2.2.2, by rw [d, d2, d3]; rfl⟩)
    (fun d d2 => ⟨A1, B1, (hA d).1, (hA d).2.1, (hA d).2.2.1, (hA d).2.2.2, by rw [d, d2]; rfl⟩)
    (fun d => ⟨A1, B1, by rw [d]; rfl⟩)
 by_cases k9 : k = 9
 · subst k9
   rw [zn3]
   exact opL_9 kk w.h.o _ _ _ room nur fr w.full w.out a b (zad a w.h.rs.length) (zad b w.h.rs.length) (rg w.h a) (cg w.h.cs (rg w.h a)) (rg w.h a) (rg w.h b)
    (fun d d2 d3 => ⟨A1, B1, (hA d).1, (hA d).2.1, (hA d).2.2.1, (hA d).2.2.2, (hA d).1, (hA d).2.1, (hB d2).1, (hB d2).2.1, by omega, by rw [d, d2, if_pos (of_decide_eq_true d3)]; rfl⟩)
    (fun d d2 d3 => ⟨A1, B1, (hA d).1, (hA d).2.1, (hA d).2.2.1, (hA d).2.2.2, (hA d).1, (hA d).2.1, (hB d2).1, (hB d2).2.1, by omega, by rw [d, d2, if_neg (of_decide_eq_false d3)]; rfl⟩)
    (fun d d2 => ⟨A1, B1, (hA d).1, (hA d).2.1, (hA d).2.2.1, (hA d).2.2.2, by rw [d, d2]; rfl⟩)
    (fun d => ⟨A1, B1, by rw [d]; rfl⟩)
 by_cases k10 : k = 10
 · subst k10
   rw [zoo]
   exact zpB kk w.h.o _ _ _ room nur fr w.full w.out a b (zad a w.h.rs.length) (zad b w.h.rs.length) (zco w.h).o _ _ _ (rg w.h a) (cg w.h.cs (rg w.h a))
    (fun d d2 => ⟨A1, B1, (hA d).1, (hA d).2.1, (hA d).2.2.1, (hA d).2.2.2, zay _, zeS true w.h g kk (by omega), by cases fr <;> first | rfl | cases d2⟩)
    (fun d d2 => ⟨A1, B1, (hA d).1, (hA d).2.1, (hA d).2.2.1, (hA d).2.2.2, by cases fr <;> first | rfl | cases d2⟩)
    (fun d d2 => ⟨A1, B1, zay _, zeS true w.h g kk (by omega), by cases fr <;> first | rfl | cases d2⟩)
    (fun d d2 => ⟨A1, B1, by cases fr <;> first | rfl | cases d2⟩)
 by_cases k11 : k = 11
 · subst k11
   rw [zoi]
   exact zpI kk w.h.o _ _ _ room nur fr w.full w.out a b (zad a w.h.rs.length) (zad b w.h.rs.length) (zaN w.h).o _ _ _ (rg w.h a) (cg w.h.cs (rg w.h a))
    (fun d d2 => ⟨A1, B1, (hA d).1, (hA d).2.1, (hA d).2.2.1, (hA d).2.2.2, zay _, zft true w.h g kk (by omega), by cases fr <;> first | rfl | cases d2⟩)
    (fun d d2 => ⟨A1, B1, (hA d).1, (hA d).2.1, (hA d).2.2.1, (hA d).2.2.2, by cases fr <;> first | rfl | cases d2⟩)
    (fun d d2 => ⟨A1, B1, zay _, zft true w.h g kk (by omega), by cases fr <;> first | rfl | cases d2⟩)
    (fun d d2 => ⟨A1, B1, by cases fr <;> first | rfl | cases d2⟩)
 rw [zpG ⟨k1, k2, k3, k4, k5, k6, k7, k8, k9, k10, k11⟩]
 have n : ∀ j : Int, k ≠ j → decide (k = j) = false := fun j h => by simpa using h
 cases d : zad a w.h.rs.length with
 | true =>
   rw [d] at A1
   exact zpt kk w.h.o _ _ _ room nur fr w.full w.out k a b (rg w.h a) (cg w.h.cs (rg w.h a)) true (zad b w.h.rs.length) A1 B1 rfl (hA d).1 (hA d).2.1 (hA d).2.2.1 (hA d).2.2.2 (n 1 k1) (n 2 k2) (n 3 k3) (n 4 k4) (n 5 k5) (n 6 k6) (n 7 k7) (n 8 k8) (n 9 k9) (n 10 k10) (n 11 k11)
 | false =>
   rw [d] at A1
   exact zpz kk w.h.o _ _ _ room nur fr w.full w.out k a b false (zad b w.h.rs.length) A1 B1 rfl (n 1 k1) (n 2 k2) (n 3 k3) (n 4 k4) (n 5 k5) (n 6 k6) (n 7 k7) (n 8 k8) (n 9 k9) (n 10 k10) (n 11 k11)
end Go.Den
