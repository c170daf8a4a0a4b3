/- Merged out of: E1 E2 E3 E4 EA EB EC (prune.py, a program of this work's). -/
import Derived.Test.YtcmcfebihbmmeaaDoorZm6
import Derived.KernelRfl
set_option linter.unusedVariables false
set_option linter.unusedSimpArgs false
set_option linter.unnecessarySimpa false
namespace Go.Den
open Go.Proofs
open Go
set_option linter.unusedVariables false
set_option maxRecDepth 100000
structure Cl where
 l : Bool
 n : Int
 a : Int
 b : Int
abbrev Cl.d (x : Cl) : Dat := .agg [B x.l, I x.n, I x.a, I x.b]
abbrev Yd (b : Bool) (o : Int) (cs rs ns : List Dat) : Dat := .agg [I o, .lst b cs, .lst b rs, .lst b ns]
abbrev Yb (b : Bool) (o : Int) (cs rs ns : List Dat) : Option (List D) := some (fB b o cs rs ns)
theorem l1In (kk : Nat) (x lo hi : Int) {r : Res} (q1 : (tT (lo ≤ x)) → r = ([D.dat (B (decide (x ≤ hi)))], [], [])) (q2 : (tF (lo ≤ x)) → r = ([D.dat (B false)], [], [])) : zak cfg kk (den cfg kk) 39 Tryd.f39 [.dat (I x), .dat (I lo), .dat (I hi)] [] [] = some r := by
 rcases Bool.eq_false_or_eq_true (decide (lo ≤ x)) with d1 | d1
 · have oz := q1 d1
   subst oz; exact zaa [(200010, .yes)] (ob d1 (ob rT (ob rT ob0))) (by kernel_rfl)
 · have oz := q2 d1
   subst oz; exact zaa [(200010, .no)] (ob d1 (ob rF (ob rF ob0))) (by kernel_rfl)
def hd71 (b : Bool) (es : List Dat) (x i : Int) : St := Nm [1, 7, 8, 9] [.dat (I x), .dat (.lst b es), .dat (I es.length), .dat (I i)] [none, none, none, none] [] []
theorem zmQ (kk m : Nat) {s : St} {K : X → St → Prop} (b : Bool) (es : List Dat) (x i : Int) (x11 : Int) (hs : s.norm (fN kk 71 Tryd.f71 2) = hd71 b es x i) (q1 : (tT (i < (es.length : Int))) → (tT (x11 = x)) → ((0 ≤ i ∧ i < (es.length : Int)) ∧ es[i.toNat]? = some (I x11)) ∧ K (X.ret) (Nm [4] [D.dat (B true)] [none] [] [])) (q2 : (tT (i < (es.length : Int))) → (tF (x11 = x)) → ((0 ≤ i ∧ i < (es.length : Int)) ∧ es[i.toNat]? = some (I x11)) ∧ (∀ s : St, s.norm (fN kk 71 Tryd.f71 2) = Nm [1, 7, 8, 9] [D.dat (I x), D.dat (Dat.lst b es), D.dat (I (es.length : Int)), D.dat (I (w64 (i + 1)))] [none, none, none, none] [] [] → fR kk 71 Tryd.f71 2 m s K)) (q3 : (tF (i < (es.length : Int))) → K (X.exit 0) (Nm [4] [D.junk] [none] [] [])) : fR kk 71 Tryd.f71 2 (m + 1) s K := by
 rcases Bool.eq_false_or_eq_true (decide (i < (es.length : Int))) with d1 | d1
 · rcases Bool.eq_false_or_eq_true (decide (x11 = x)) with d3 | d3
   · obtain ⟨hz1, oz⟩ := q1 d1 d3
     exact zae [(11, .at (I x11)), (200010, .yes), (200015, .yes)] hs (by kernel_rfl) rfl (ob d1 (ob hz1 (ob d3 ob0))) (by kernel_rfl) oz
   · obtain ⟨hz1, oz⟩ := q2 d1 d3
     exact zad [(11, .at (I x11)), (200010, .yes), (200015, .no)] hs (by kernel_rfl) (ob d1 (ob hz1 (ob d3 ob0))) (by kernel_rfl) oz
 · have oz := q3 d1
   exact zae [(11, .at (I x11)), (200010, .no)] hs (by kernel_rfl) rfl (ob d1 ob0) (by kernel_rfl) oz
theorem zpj (kk : Nat) (b : Bool) (es : List Dat) (x : Int) {r : Res} (q1 : (zai cfg kk 71 Tryd.f71 2 (hd71 b es x 0) (X.exit 0) (Nm [4] [D.junk] [none] [] [])) ∧ r = ([D.dat (B false)], [], [])) : zak cfg kk (den cfg kk) 71 Tryd.f71 [.dat (Dat.lst b es), .dat (I x)] [] [] = some r := by
 obtain ⟨hz1, oz⟩ := q1
 subst oz; exact zaa [(300002, .loop (hd71 b es x 0) (.exit 0) (Nm [4] [.junk] [none] [] []))] (ob (rfl : _ = hd71 b es x 0) (ob hz1 ob0)) (by kernel_rfl)
theorem zpH (kk : Nat) (b : Bool) (es : List Dat) (x : Int) {r : Res} (q1 : (zai cfg kk 71 Tryd.f71 2 (hd71 b es x 0) X.ret (Nm [4] [D.dat (B true)] [none] [] [])) ∧ r = ([D.dat (B true)], [], [])) : zak cfg kk (den cfg kk) 71 Tryd.f71 [.dat (Dat.lst b es), .dat (I x)] [] [] = some r := by
 obtain ⟨hz1, oz⟩ := q1
 subst oz; exact zaa [(300002, .loop (hd71 b es x 0) .ret (Nm [4] [.dat (B true)] [none] [] []))] (ob (rfl : _ = hd71 b es x 0) (ob hz1 ob0)) (by kernel_rfl)
def zbB (b : Bool) (o : Int) (cs rs ns : List Dat) (i : Int) : St := Nm [1, 29, 30, 31] [.ptr (.loc 1) 0, .dat (.lst b ns), .dat (I ns.length), .dat (I i)] [Yb b o cs rs ns, none, none, none] [] []
theorem zl4 (kk m : Nat) {s : St} {K : X → St → Prop} (b : Bool) (o : Int) (cs rs ns : List Dat) (i : Int) (x34 : Int) (g40 : Bool) (x50 : Int) (hs : s.norm (fN kk 38 Tryd.f38 4) = zbB b o cs rs ns i) (q1 : (tT (i < (ns.length : Int))) → ((!g40) = true) → ((0 ≤ i ∧ i < (ns.length : Int)) ∧ ns[i.toNat]? = some (I x34)) ∧ (fD kk 39 [D.dat (I x34), D.dat (I 0), D.dat (I (w64 (o - 1)))] [D.dat (B g40)]) ∧ K (X.ret) (Nm [1, 2] [D.ptr (Ref.loc 1) 0, D.dat (B false)] [some (fB b o cs rs ns), none] [] [])) (q2 : (tT (i < (ns.length : Int))) → ((!g40) = false) → (tT (0 < i)) → (tT (x34 ≤ x50)) → ((0 ≤ i ∧ i < (ns.length : Int)) ∧ ns[i.toNat]? = some (I x34)) ∧ (fD kk 39 [D.dat (I x34), D.dat (I 0), D.dat (I (w64 (o - 1)))] [D.dat (B g40)]) ∧ ((0 ≤ w64 (i - 1) ∧ w64 (i - 1) < (ns.length : Int)) ∧ ns[(w64 (i - 1)).toNat]? = some (I x50)) ∧ K (X.ret) (Nm [1, 2] [D.ptr (Ref.loc 1) 0, D.dat (B false)] [some (fB b o cs rs ns), none] [] [])) (q3 : (tT (i < (ns.length : Int))) → ((!g40) = false) → (tT (0 < i)) → (tF (x34 ≤ x50)) → ((0 ≤ i ∧ i < (ns.length : Int)) ∧ ns[i.toNat]? = some (I x34)) ∧ (fD kk 39 [D.dat (I x34), D.dat (I 0), D.dat (I (w64 (o - 1)))] [D.dat (B g40)]) ∧ ((0 ≤ w64 (i - 1) ∧ w64 (i - 1) < (ns.length : Int)) ∧ ns[(w64 (i - 1)).toNat]? = some (I x50)) ∧ (∀ s : St, s.norm (fN kk 38 Tryd.f38 4) = Nm [1, 29, 30, 31] [D.ptr (Ref.loc 1) 0, D.dat (Dat.lst b ns), D.dat (I (ns.length : Int)), D.dat (I (w64 (i + 1)))] [some (fB b o cs rs ns), none, none, none] [] [] → fR kk 38 Tryd.f38 4 m s K)) (q4 : (tT (i < (ns.length : Int))) → ((!g40) = false) → (tF (0 < i)) → ((0 ≤ i ∧ i < (ns.length : Int)) ∧ ns[i.toNat]? = some (I x34)) ∧ (fD kk 39 [D.dat (I x34), D.dat (I 0), D.dat (I (w64 (o - 1)))] [D.dat (B g40)]) ∧ (∀ s : St, s.norm (fN kk 38 Tryd.f38 4) = Nm [1, 29, 30, 31] [D.ptr (Ref.loc 1) 0, D.dat (Dat.lst b ns), D.dat (I (ns.length : Int)), D.dat (I (w64 (i + 1)))] [some (fB b o cs rs ns), none, none, none] [] [] → fR kk 38 Tryd.f38 4 m s K)) (q5 : (tF (i < (ns.length : Int))) → K (X.exit 0) (Nm [1, 2] [D.ptr (Ref.loc 1) 0, D.junk] [some (fB b o cs rs ns), none] [] [])) : fR kk 38 Tryd.f38 4 (m + 1) s K := by
 rcases Bool.eq_false_or_eq_true (decide (i < (ns.length : Int))) with d1 | d1
 · rcases Bool.eq_false_or_eq_true ((!g40)) with d4 | d4
   · obtain ⟨hz1, hz2, oz⟩ := q1 d1 d4
     exact zae [(34, .at (I x34)), (40, .ret [.dat (B g40)]), (50, .at (I x50)), (200032, .yes), (200042, .yes)] hs (by kernel_rfl) rfl (ob d1 (ob hz1 (ob hz2 (ob d4 (ob rT (ob rT (ob rT ob0))))))) (by kernel_rfl) oz
   · rcases Bool.eq_false_or_eq_true (decide (0 < i)) with d7 | d7
     · rcases Bool.eq_false_or_eq_true (decide (x34 ≤ x50)) with d17 | d17
       · obtain ⟨hz1, hz2, hz3, oz⟩ := q2 d1 d4 d7 d17
         exact zae [(34, .at (I x34)), (40, .ret [.dat (B g40)]), (50, .at (I x50)), (200032, .yes), (200042, .no), (200045, .yes), (200055, .yes)] hs (by kernel_rfl) rfl (ob d1 (ob hz1 (ob hz2 (ob d4 (ob rF (ob rF (ob d7 (ob rT (ob rT (ob rT (ob rT (ob hz3 (ob rT (ob rT (ob rT (ob rF (ob d17 ob0))))))))))))))))) (by kernel_rfl) oz
       · obtain ⟨hz1, hz2, hz3, oz⟩ := q3 d1 d4 d7 d17
         exact zad [(34, .at (I x34)), (40, .ret [.dat (B g40)]), (50, .at (I x50)), (200032, .yes), (200042, .no), (200045, .yes), (200055, .no)] hs (by kernel_rfl) (ob d1 (ob hz1 (ob hz2 (ob d4 (ob rF (ob rF (ob d7 (ob rT (ob rT (ob rT (ob rT (ob hz3 (ob rT (ob rT (ob rT (ob rF (ob d17 ob0))))))))))))))))) (by kernel_rfl) oz
     · obtain ⟨hz1, hz2, oz⟩ := q4 d1 d4 d7
       exact zad [(34, .at (I x34)), (40, .ret [.dat (B g40)]), (50, .at (I x50)), (200032, .yes), (200042, .no), (200045, .no)] hs (by kernel_rfl) (ob d1 (ob hz1 (ob hz2 (ob d4 (ob rF (ob rF (ob d7 (ob rF (ob rF (ob rF (ob rF (ob rF (ob rF (ob rF (ob rF ob0))))))))))))))) (by kernel_rfl) oz
 · have oz := q5 d1
   exact zae [(34, .at (I x34)), (40, .ret [.dat (B g40)]), (50, .at (I x50)), (200032, .no)] hs (by kernel_rfl) rfl (ob d1 ob0) (by kernel_rfl) oz
def zb8 (b : Bool) (o : Int) (cs rs ns : List Dat) (i : Int) : St := Nm [1, 58, 59, 60] [.ptr (.loc 1) 0, .dat (.lst b cs), .dat (I cs.length), .dat (I i)] [Yb b o cs rs ns, none, none, none] [] []
theorem znr (kk m : Nat) {s : St} {K : X → St → Prop} (b : Bool) (o : Int) (cs rs ns : List Dat) (i : Int) (c63 : Cl) (g92 : Bool) (g102 : Bool) (g134 : Bool) (hs : s.norm (fN kk 38 Tryd.f38 10) = zb8 b o cs rs ns i) (q1 : (tT (i < (cs.length : Int))) → (c63.l = true) → ((!decide (c63.a = 0)) = true) → ((0 ≤ i ∧ i < (cs.length : Int)) ∧ cs[i.toNat]? = some (fE c63.l c63.n c63.a c63.b)) ∧ K (X.ret) (Nm [1, 2] [D.ptr (Ref.loc 1) 0, D.dat (B false)] [some (fB b o cs rs ns), none] [] [])) (q2 : (tT (i < (cs.length : Int))) → (c63.l = true) → ((!decide (c63.a = 0)) = false) → ((!decide (c63.b = 0)) = true) → ((0 ≤ i ∧ i < (cs.length : Int)) ∧ cs[i.toNat]? = some (fE c63.l c63.n c63.a c63.b)) ∧ K (X.ret) (Nm [1, 2] [D.ptr (Ref.loc 1) 0, D.dat (B false)] [some (fB b o cs rs ns), none] [] [])) (q3 : (tT (i < (cs.length : Int))) → (c63.l = true) → ((!decide (c63.a = 0)) = false) → ((!decide (c63.b = 0)) = false) → ((0 ≤ i ∧ i < (cs.length : Int)) ∧ cs[i.toNat]? = some (fE c63.l c63.n c63.a c63.b)) ∧ (∀ s : St, s.norm (fN kk 38 Tryd.f38 10) = Nm [1, 58, 59, 60] [D.ptr (Ref.loc 1) 0, D.dat (Dat.lst b cs), D.dat (I (cs.length : Int)), D.dat (I (w64 (i + 1)))] [some (fB b o cs rs ns), none, none, none] [] [] → fR kk 38 Tryd.f38 10 m s K)) (q4 : (tT (i < (cs.length : Int))) → (c63.l = false) → ((!decide (c63.n = 0)) = true) → ((0 ≤ i ∧ i < (cs.length : Int)) ∧ cs[i.toNat]? = some (fE c63.l c63.n c63.a c63.b)) ∧ K (X.ret) (Nm [1, 2] [D.ptr (Ref.loc 1) 0, D.dat (B false)] [some (fB b o cs rs ns), none] [] [])) (q5 : (tT (i < (cs.length : Int))) → (c63.l = false) → ((!decide (c63.n = 0)) = false) → ((!g92) = true) → ((0 ≤ i ∧ i < (cs.length : Int)) ∧ cs[i.toNat]? = some (fE c63.l c63.n c63.a c63.b)) ∧ (den cfg kk 39 (fG c63.a cs) [] [] = some ([D.dat (B g92)], [], [])) ∧ K (X.ret) (Nm [1, 2] [D.ptr (Ref.loc 1) 0, D.dat (B false)] [some (fB b o cs rs ns), none] [] [])) (q6 : (tT (i < (cs.length : Int))) → (c63.l = false) → ((!decide (c63.n = 0)) = false) → ((!g92) = false) → ((!g102) = true) → ((0 ≤ i ∧ i < (cs.length : Int)) ∧ cs[i.toNat]? = some (fE c63.l c63.n c63.a c63.b)) ∧ (den cfg kk 39 (fG c63.a cs) [] [] = some ([D.dat (B g92)], [], [])) ∧ (den cfg kk 39 (fG c63.b cs) [] [] = some ([D.dat (B g102)], [], [])) ∧ K (X.ret) (Nm [1, 2] [D.ptr (Ref.loc 1) 0, D.dat (B false)] [some (fB b o cs rs ns), none] [] [])) (q7 : (tT (i < (cs.length : Int))) → (c63.l = false) → ((!decide (c63.n = 0)) = false) → ((!g92) = false) → ((!g102) = false) → (tT (i < o)) → (tT (o ≤ c63.a)) → ((!g134) = true) → ((0 ≤ i ∧ i < (cs.length : Int)) ∧ cs[i.toNat]? = some (fE c63.l c63.n c63.a c63.b)) ∧ (den cfg kk 39 (fG c63.a cs) [] [] = some ([D.dat (B g92)], [], [])) ∧ (den cfg kk 39 (fG c63.b cs) [] [] = some ([D.dat (B g102)], [], [])) ∧ (fD kk 71 [D.dat (Dat.lst b ns), D.dat (I i)] [D.dat (B g134)]) ∧ K (X.ret) (Nm [1, 2] [D.ptr (Ref.loc 1) 0, D.dat (B false)] [some (fB b o cs rs ns), none] [] [])) (q8 : (tT (i < (cs.length : Int))) → (c63.l = false) → ((!decide (c63.n = 0)) = false) → ((!g92) = false) → ((!g102) = false) → (tT (i < o)) → (tT (o ≤ c63.a)) → ((!g134) = false) → ((0 ≤ i ∧ i < (cs.length : Int)) ∧ cs[i.toNat]? = some (fE c63.l c63.n c63.a c63.b)) ∧ (den cfg kk 39 (fG c63.a cs) [] [] = some ([D.dat (B g92)], [], [])) ∧ (den cfg kk 39 (fG c63.b cs) [] [] = some ([D.dat (B g102)], [], [])) ∧ (fD kk 71 [D.dat (Dat.lst b ns), D.dat (I i)] [D.dat (B g134)]) ∧ (∀ s : St, s.norm (fN kk 38 Tryd.f38 10) = Nm [1, 58, 59, 60] [D.ptr (Ref.loc 1) 0, D.dat (Dat.lst b cs), D.dat (I (cs.length : Int)), D.dat (I (w64 (i + 1)))] [some (fB b o cs rs ns), none, none, none] [] [] → fR kk 38 Tryd.f38 10 m s K)) (q9 : (tT (i < (cs.length : Int))) → (c63.l = false) → ((!decide (c63.n = 0)) = false) → ((!g92) = false) → ((!g102) = false) → (tT (i < o)) → (tF (o ≤ c63.a)) → (tT (o ≤ c63.b)) → ((!g134) = true) → ((0 ≤ i ∧ i < (cs.length : Int)) ∧ cs[i.toNat]? = some (fE c63.l c63.n c63.a c63.b)) ∧ (den cfg kk 39 (fG c63.a cs) [] [] = some ([D.dat (B g92)], [], [])) ∧ (den cfg kk 39 (fG c63.b cs) [] [] = some ([D.dat (B g102)], [], [])) ∧ (fD kk 71 [D.dat (Dat.lst b ns), D.dat (I i)] [D.dat (B g134)]) ∧ K (X.ret) (Nm [1, 2] [D.ptr (Ref.loc 1) 0, D.dat (B false)] [some (fB b o cs rs ns), none] [] [])) (q10 : (tT (i < (cs.length : Int))) → (c63.l = false) → ((!decide (c63.n = 0)) = false) → ((!g92) = false) → ((!g102) = false) → (tT (i < o)) → (tF (o ≤ c63.a)) → (tT (o ≤ c63.b)) → ((!g134) = false) → ((0 ≤ i ∧ i < (cs.length : Int)) ∧ cs[i.toNat]? = some (fE c63.l c63.n c63.a c63.b)) ∧ (den cfg kk 39 (fG c63.a cs) [] [] = some ([D.dat (B g92)], [], [])) ∧ (den cfg kk 39 (fG c63.b cs) [] [] = some ([D.dat (B g102)], [], [])) ∧ (fD kk 71 [D.dat (Dat.lst b ns), D.dat (I i)] [D.dat (B g134)]) ∧ (∀ s : St, s.norm (fN kk 38 Tryd.f38 10) = Nm [1, 58, 59, 60] [D.ptr (Ref.loc 1) 0, D.dat (Dat.lst b cs), D.dat (I (cs.length : Int)), D.dat (I (w64 (i + 1)))] [some (fB b o cs rs ns), none, none, none] [] [] → fR kk 38 Tryd.f38 10 m s K)) (q11 : (tT (i < (cs.length : Int))) → (c63.l = false) → ((!decide (c63.n = 0)) = false) → ((!g92) = false) → ((!g102) = false) → (tT (i < o)) → (tF (o ≤ c63.a)) → (tF (o ≤ c63.b)) → ((0 ≤ i ∧ i < (cs.length : Int)) ∧ cs[i.toNat]? = some (fE c63.l c63.n c63.a c63.b)) ∧ (den cfg kk 39 (fG c63.a cs) [] [] = some ([D.dat (B g92)], [], [])) ∧ (den cfg kk 39 (fG c63.b cs) [] [] = some ([D.dat (B g102)], [], [])) ∧ (∀ s : St, s.norm (fN kk 38 Tryd.f38 10) = Nm [1, 58, 59, 60] [D.ptr (Ref.loc 1) 0, D.dat (Dat.lst b cs), D.dat (I (cs.length : Int)), D.dat (I (w64 (i + 1)))] [some (fB b o cs rs ns), none, none, none] [] [] → fR kk 38 Tryd.f38 10 m s K)) (q12 : (tT (i < (cs.length : Int))) → (c63.l = false) → ((!decide (c63.n = 0)) = false) → ((!g92) = false) → ((!g102) = false) → (tF (i < o)) → ((0 ≤ i ∧ i < (cs.length : Int)) ∧ cs[i.toNat]? = some (fE c63.l c63.n c63.a c63.b)) ∧ (den cfg kk 39 (fG c63.a cs) [] [] = some ([D.dat (B g92)], [], [])) ∧ (den cfg kk 39 (fG c63.b cs) [] [] = some ([D.dat (B g102)], [], [])) ∧ (∀ s : St, s.norm (fN kk 38 Tryd.f38 10) = Nm [1, 58, 59, 60] [D.ptr (Ref.loc 1) 0, D.dat (Dat.lst b cs), D.dat (I (cs.length : Int)), D.dat (I (w64 (i + 1)))] [some (fB b o cs rs ns), none, none, none] [] [] → fR kk 38 Tryd.f38 10 m s K)) (q13 : (tF (i < (cs.length : Int))) → K (X.exit 2) (Nm [1, 2] [D.ptr (Ref.loc 1) 0, D.junk] [some (fB b o cs rs ns), none] [] [])) : fR kk 38 Tryd.f38 10 (m + 1) s K := by
 rcases Bool.eq_false_or_eq_true (decide (i < (cs.length : Int))) with d1 | d1
 · rcases Bool.eq_false_or_eq_true (c63.l) with d3 | d3
   · rcases Bool.eq_false_or_eq_true ((!decide (c63.a = 0))) with d7 | d7
     · obtain ⟨hz1, oz⟩ := q1 d1 d3 d7
       exact zae [(63, .at (c63.d)), (92, .ret [.dat (B g92)]), (102, .ret [.dat (B g102)]), (134, .ret [.dat (B g134)]), (200061, .yes), (200067, .yes), (200071, .yes)] hs (by kernel_rfl) rfl (ob d1 (ob hz1 (ob d3 (ob rT (ob rT (ob rT (ob d7 (ob rT (ob rT (ob rT ob0)))))))))) (by kernel_rfl) oz
     · rcases Bool.eq_false_or_eq_true ((!decide (c63.b = 0))) with d11 | d11
       · obtain ⟨hz1, oz⟩ := q2 d1 d3 d7 d11
         exact zae [(63, .at (c63.d)), (92, .ret [.dat (B g92)]), (102, .ret [.dat (B g102)]), (134, .ret [.dat (B g134)]), (200061, .yes), (200067, .yes), (200071, .no), (200077, .yes)] hs (by kernel_rfl) rfl (ob d1 (ob hz1 (ob d3 (ob rT (ob rT (ob rT (ob d7 (ob rF (ob rF (ob rT (ob d11 (ob rT (ob rT (ob rT (ob rT ob0))))))))))))))) (by kernel_rfl) oz
       · obtain ⟨hz1, oz⟩ := q3 d1 d3 d7 d11
         exact zad [(63, .at (c63.d)), (92, .ret [.dat (B g92)]), (102, .ret [.dat (B g102)]), (134, .ret [.dat (B g134)]), (200061, .yes), (200067, .yes), (200071, .no), (200077, .no), (200081, .no), (200110, .no)] hs (by kernel_rfl) (ob d1 (ob hz1 (ob d3 (ob rT (ob rT (ob rT (ob d7 (ob rF (ob rF (ob rT (ob d11 (ob rF (ob rF (ob rF (ob (show (!c63.l) = false from (by simp [d1, d3, d7, d11])) (ob rF (ob rF (ob rF (ob rF (ob rF (ob rF (ob rF (ob (show (!c63.l) = false from (by simp [d1, d3, d7, d11])) (ob rF (ob rF (ob rF ob0)))))))))))))))))))))))))) (by kernel_rfl) oz
   · rcases Bool.eq_false_or_eq_true ((!decide (c63.n = 0))) with d12 | d12
     · obtain ⟨hz1, oz⟩ := q4 d1 d3 d12
       exact zae [(63, .at (c63.d)), (92, .ret [.dat (B g92)]), (102, .ret [.dat (B g102)]), (134, .ret [.dat (B g134)]), (200061, .yes), (200067, .no), (200081, .yes), (200085, .yes)] hs (by kernel_rfl) rfl (ob d1 (ob hz1 (ob d3 (ob rF (ob rF (ob rF (ob rF (ob (show (!c63.l) = true from (by simp [d1, d3])) (ob rT (ob rT (ob rT (ob d12 (ob rT (ob rT (ob rT (ob rT (ob rT (ob rT (ob rT (ob rT (ob rT (ob rT ob0)))))))))))))))))))))) (by kernel_rfl) oz
     · rcases Bool.eq_false_or_eq_true ((!g92)) with d23 | d23
       · obtain ⟨hz1, hz2, oz⟩ := q5 d1 d3 d12 d23
         exact zae [(63, .at (c63.d)), (92, .ret [.dat (B g92)]), (102, .ret [.dat (B g102)]), (134, .ret [.dat (B g134)]), (200061, .yes), (200067, .no), (200081, .yes), (200085, .no), (200095, .yes)] hs (by kernel_rfl) rfl (ob d1 (ob hz1 (ob d3 (ob rF (ob rF (ob rF (ob rF (ob (show (!c63.l) = true from (by simp [d1, d3])) (ob rT (ob rT (ob rT (ob d12 (ob rF (ob rF (ob rF (ob rF (ob rF (ob rF (ob hz2 (ob rF (ob rT (ob rT (ob d23 (ob rT (ob rT (ob rT (ob rT (ob rT (ob rT (ob rT (ob rT ob0))))))))))))))))))))))))))))))) (by kernel_rfl) oz
       · rcases Bool.eq_false_or_eq_true ((!g102)) with d33 | d33
         · obtain ⟨hz1, hz2, hz3, oz⟩ := q6 d1 d3 d12 d23 d33
           exact zae [(63, .at (c63.d)), (92, .ret [.dat (B g92)]), (102, .ret [.dat (B g102)]), (134, .ret [.dat (B g134)]), (200061, .yes), (200067, .no), (200081, .yes), (200085, .no), (200095, .no), (200106, .yes)] hs (by kernel_rfl) rfl (ob d1 (ob hz1 (ob d3 (ob rF (ob rF (ob rF (ob rF (ob (show (!c63.l) = true from (by simp [d1, d3])) (ob rT (ob rT (ob rT (ob d12 (ob rF (ob rF (ob rF (ob rF (ob rF (ob rF (ob hz2 (ob rF (ob rT (ob rT (ob d23 (ob rF (ob rF (ob rF (ob rF (ob rF (ob rF (ob hz3 (ob rF (ob rT (ob d33 ob0))))))))))))))))))))))))))))))))) (by kernel_rfl) oz
         · rcases Bool.eq_false_or_eq_true (decide (i < o)) with d38 | d38
           · rcases Bool.eq_false_or_eq_true (decide (o ≤ c63.a)) with d44 | d44
             · rcases Bool.eq_false_or_eq_true ((!g134)) with d51 | d51
               · obtain ⟨hz1, hz2, hz3, hz4, oz⟩ := q7 d1 d3 d12 d23 d33 d38 d44 d51
                 exact zae [(63, .at (c63.d)), (92, .ret [.dat (B g92)]), (102, .ret [.dat (B g102)]), (134, .ret [.dat (B g134)]), (200061, .yes), (200067, .no), (200081, .yes), (200085, .no), (200095, .no), (200106, .no), (200110, .yes), (200116, .yes), (200122, .yes), (200136, .yes)] hs (by kernel_rfl) rfl (ob d1 (ob hz1 (ob d3 (ob rF (ob rF (ob rF (ob rF (ob (show (!c63.l) = true from (by simp [d1, d3])) (ob rT (ob rT (ob rT (ob d12 (ob rF (ob rF (ob rF (ob rF (ob rF (ob rF (ob hz2 (ob rF (ob rT (ob rT (ob d23 (ob rF (ob rF (ob rF (ob rF (ob rF (ob rF (ob hz3 (ob rF (ob rT (ob d33 (ob (show (!c63.l) = true from (by simp [d1, d3, d12, d23, d33])) (ob rT (ob rT (ob rT (ob d38 (ob rT (ob rT (ob rT (ob rT (ob rT (ob d44 (ob rT (ob rT (ob rT (ob rT (ob rT (ob hz4 (ob d51 ob0))))))))))))))))))))))))))))))))))))))))))))))))))) (by kernel_rfl) oz
               · obtain ⟨hz1, hz2, hz3, hz4, oz⟩ := q8 d1 d3 d12 d23 d33 d38 d44 d51
                 exact zad [(63, .at (c63.d)), (92, .ret [.dat (B g92)]), (102, .ret [.dat (B g102)]), (134, .ret [.dat (B g134)]), (200061, .yes), (200067, .no), (200081, .yes), (200085, .no), (200095, .no), (200106, .no), (200110, .yes), (200116, .yes), (200122, .yes), (200136, .no)] hs (by kernel_rfl) (ob d1 (ob hz1 (ob d3 (ob rF (ob rF (ob rF (ob rF (ob (show (!c63.l) = true from (by simp [d1, d3])) (ob rT (ob rT (ob rT (ob d12 (ob rF (ob rF (ob rF (ob rF (ob rF (ob rF (ob hz2 (ob rF (ob rT (ob rT (ob d23 (ob rF (ob rF (ob rF (ob rF (ob rF (ob rF (ob hz3 (ob rF (ob rT (ob d33 (ob (show (!c63.l) = true from (by simp [d1, d3, d12, d23, d33])) (ob rT (ob rT (ob rT (ob d38 (ob rT (ob rT (ob rT (ob rT (ob rT (ob d44 (ob rT (ob rT (ob rT (ob rT (ob rT (ob hz4 (ob d51 ob0))))))))))))))))))))))))))))))))))))))))))))))))))) (by kernel_rfl) oz
             · rcases Bool.eq_false_or_eq_true (decide (o ≤ c63.b)) with d50 | d50
               · rcases Bool.eq_false_or_eq_true ((!g134)) with d56 | d56
                 · obtain ⟨hz1, hz2, hz3, hz4, oz⟩ := q9 d1 d3 d12 d23 d33 d38 d44 d50 d56
                   exact zae [(63, .at (c63.d)), (92, .ret [.dat (B g92)]), (102, .ret [.dat (B g102)]), (134, .ret [.dat (B g134)]), (200061, .yes), (200067, .no), (200081, .yes), (200085, .no), (200095, .no), (200106, .no), (200110, .yes), (200116, .yes), (200122, .no), (200130, .yes), (200136, .yes)] hs (by kernel_rfl) rfl (ob d1 (ob hz1 (ob d3 (ob rF (ob rF (ob rF (ob rF (ob (show (!c63.l) = true from (by simp [d1, d3])) (ob rT (ob rT (ob rT (ob d12 (ob rF (ob rF (ob rF (ob rF (ob rF (ob rF (ob hz2 (ob rF (ob rT (ob rT (ob d23 (ob rF (ob rF (ob rF (ob rF (ob rF (ob rF (ob hz3 (ob rF (ob rT (ob d33 (ob (show (!c63.l) = true from (by simp [d1, d3, d12, d23, d33])) (ob rT (ob rT (ob rT (ob d38 (ob rT (ob rT (ob rT (ob rT (ob rT (ob d44 (ob rF (ob rF (ob rF (ob rF (ob rT (ob d50 (ob rT (ob rT (ob rT (ob hz4 (ob rT (ob d56 ob0)))))))))))))))))))))))))))))))))))))))))))))))))))))))) (by kernel_rfl) oz
                 · obtain ⟨hz1, hz2, hz3, hz4, oz⟩ := q10 d1 d3 d12 d23 d33 d38 d44 d50 d56
                   exact zad [(63, .at (c63.d)), (92, .ret [.dat (B g92)]), (102, .ret [.dat (B g102)]), (134, .ret [.dat (B g134)]), (200061, .yes), (200067, .no), (200081, .yes), (200085, .no), (200095, .no), (200106, .no), (200110, .yes), (200116, .yes), (200122, .no), (200130, .yes), (200136, .no)] hs (by kernel_rfl) (ob d1 (ob hz1 (ob d3 (ob rF (ob rF (ob rF (ob rF (ob (show (!c63.l) = true from (by simp [d1, d3])) (ob rT (ob rT (ob rT (ob d12 (ob rF (ob rF (ob rF (ob rF (ob rF (ob rF (ob hz2 (ob rF (ob rT (ob rT (ob d23 (ob rF (ob rF (ob rF (ob rF (ob rF (ob rF (ob hz3 (ob rF (ob rT (ob d33 (ob (show (!c63.l) = true from (by simp [d1, d3, d12, d23, d33])) (ob rT (ob rT (ob rT (ob d38 (ob rT (ob rT (ob rT (ob rT (ob rT (ob d44 (ob rF (ob rF (ob rF (ob rF (ob rT (ob d50 (ob rT (ob rT (ob rT (ob hz4 (ob rT (ob d56 ob0)))))))))))))))))))))))))))))))))))))))))))))))))))))))) (by kernel_rfl) oz
               · obtain ⟨hz1, hz2, hz3, oz⟩ := q11 d1 d3 d12 d23 d33 d38 d44 d50
                 exact zad [(63, .at (c63.d)), (92, .ret [.dat (B g92)]), (102, .ret [.dat (B g102)]), (134, .ret [.dat (B g134)]), (200061, .yes), (200067, .no), (200081, .yes), (200085, .no), (200095, .no), (200106, .no), (200110, .yes), (200116, .yes), (200122, .no), (200130, .no)] hs (by kernel_rfl) (ob d1 (ob hz1 (ob d3 (ob rF (ob rF (ob rF (ob rF (ob (show (!c63.l) = true from (by simp [d1, d3])) (ob rT (ob rT (ob rT (ob d12 (ob rF (ob rF (ob rF (ob rF (ob rF (ob rF (ob hz2 (ob rF (ob rT (ob rT (ob d23 (ob rF (ob rF (ob rF (ob rF (ob rF (ob rF (ob hz3 (ob rF (ob rT (ob d33 (ob (show (!c63.l) = true from (by simp [d1, d3, d12, d23, d33])) (ob rT (ob rT (ob rT (ob d38 (ob rT (ob rT (ob rT (ob rT (ob rT (ob d44 (ob rF (ob rF (ob rF (ob rF (ob rT (ob d50 (ob rF (ob rF (ob rF (ob rF ob0)))))))))))))))))))))))))))))))))))))))))))))))))))))) (by kernel_rfl) oz
           · obtain ⟨hz1, hz2, hz3, oz⟩ := q12 d1 d3 d12 d23 d33 d38
             exact zad [(63, .at (c63.d)), (92, .ret [.dat (B g92)]), (102, .ret [.dat (B g102)]), (134, .ret [.dat (B g134)]), (200061, .yes), (200067, .no), (200081, .yes), (200085, .no), (200095, .no), (200106, .no), (200110, .yes), (200116, .no)] hs (by kernel_rfl) (ob d1 (ob hz1 (ob d3 (ob rF (ob rF (ob rF (ob rF (ob (show (!c63.l) = true from (by simp [d1, d3])) (ob rT (ob rT (ob rT (ob d12 (ob rF (ob rF (ob rF (ob rF (ob rF (ob rF (ob hz2 (ob rF (ob rT (ob rT (ob d23 (ob rF (ob rF (ob rF (ob rF (ob rF (ob rF (ob hz3 (ob rF (ob rT (ob d33 (ob (show (!c63.l) = true from (by simp [d1, d3, d12, d23, d33])) (ob rT (ob rT (ob rT (ob d38 (ob rF (ob rF (ob rF (ob rF (ob rF (ob rF ob0)))))))))))))))))))))))))))))))))))))))))))) (by kernel_rfl) oz
 · have oz := q13 d1
   exact zae [(63, .at (c63.d)), (92, .ret [.dat (B g92)]), (102, .ret [.dat (B g102)]), (134, .ret [.dat (B g134)]), (200061, .no)] hs (by kernel_rfl) rfl (ob d1 ob0) (by kernel_rfl) oz
def zdy (b : Bool) (o : Int) (cs rs ns : List Dat) (i : Int) : St := Nm [1, 139, 140, 141] [.ptr (.loc 1) 0, .dat (.lst b rs), .dat (I rs.length), .dat (I i)] [Yb b o cs rs ns, none, none, none] [] []
theorem zlY (kk m : Nat) {s : St} {K : X → St → Prop} (b : Bool) (o : Int) (cs rs ns : List Dat) (i : Int) (x143 : Int) (g150 : Bool) (hs : s.norm (fN kk 38 Tryd.f38 18) = zdy b o cs rs ns i) (q1 : (tT (i < (rs.length : Int))) → ((!g150) = true) → ((0 ≤ i ∧ i < (rs.length : Int)) ∧ rs[i.toNat]? = some (I x143)) ∧ (den cfg kk 39 (fG x143 cs) [] [] = some ([D.dat (B g150)], [], [])) ∧ K (X.ret) (Nm [2] [D.dat (B false)] [none] [] [])) (q2 : (tT (i < (rs.length : Int))) → ((!g150) = false) → ((0 ≤ i ∧ i < (rs.length : Int)) ∧ rs[i.toNat]? = some (I x143)) ∧ (den cfg kk 39 (fG x143 cs) [] [] = some ([D.dat (B g150)], [], [])) ∧ (∀ s : St, s.norm (fN kk 38 Tryd.f38 18) = Nm [1, 139, 140, 141] [D.ptr (Ref.loc 1) 0, D.dat (Dat.lst b rs), D.dat (I (rs.length : Int)), D.dat (I (w64 (i + 1)))] [some (fB b o cs rs ns), none, none, none] [] [] → fR kk 38 Tryd.f38 18 m s K)) (q3 : (tF (i < (rs.length : Int))) → K (X.exit 4) (Nm [2] [D.junk] [none] [] [])) : fR kk 38 Tryd.f38 18 (m + 1) s K := by
 rcases Bool.eq_false_or_eq_true (decide (i < (rs.length : Int))) with d1 | d1
 · rcases Bool.eq_false_or_eq_true ((!g150)) with d4 | d4
   · obtain ⟨hz1, hz2, oz⟩ := q1 d1 d4
     exact zae [(143, .at (I x143)), (150, .ret [.dat (B g150)]), (200142, .yes), (200151, .yes)] hs (by kernel_rfl) rfl (ob d1 (ob hz1 (ob hz2 (ob d4 ob0)))) (by kernel_rfl) oz
   · obtain ⟨hz1, hz2, oz⟩ := q2 d1 d4
     exact zad [(143, .at (I x143)), (150, .ret [.dat (B g150)]), (200142, .yes), (200151, .no)] hs (by kernel_rfl) (ob d1 (ob hz1 (ob hz2 (ob d4 ob0)))) (by kernel_rfl) oz
 · have oz := q3 d1
   exact zae [(143, .at (I x143)), (150, .ret [.dat (B g150)]), (200142, .no)] hs (by kernel_rfl) rfl (ob d1 ob0) (by kernel_rfl) oz
theorem zpr (kk : Nat) (b : Bool) (o : Int) (cs rs ns : List Dat) (g25 : Bool) {r : Res} (q1 : (tT (200 < (cs.length : Int))) → r = ([D.dat (B false)], [], [])) (q2 : (tF (200 < (cs.length : Int))) → (tT (60 < (rs.length : Int))) → r = ([D.dat (B false)], [], [])) (q3 : (tF (200 < (cs.length : Int))) → (tF (60 < (rs.length : Int))) → ((!g25) = true) → (fD kk 39 [D.dat (I o), D.dat (I 0), D.dat (I (cs.length : Int))] [D.dat (B g25)]) ∧ r = ([D.dat (B false)], [], [])) (q4 : (tF (200 < (cs.length : Int))) → (tF (60 < (rs.length : Int))) → ((!g25) = false) → (fD kk 39 [D.dat (I o), D.dat (I 0), D.dat (I (cs.length : Int))] [D.dat (B g25)]) ∧ (zai cfg kk 38 Tryd.f38 4 (zbB b o cs rs ns 0) X.ret (Nm [1, 2] [D.ptr (Ref.loc 1) 0, D.dat (B false)] [some (fB b o cs rs ns), none] [] [])) ∧ r = ([D.dat (B false)], [], [])) : zak cfg kk (den cfg kk) 38 Tryd.f38 [.dat (Yd b o cs rs ns)] [] [] = some r := by
 rcases Bool.eq_false_or_eq_true (decide (200 < (cs.length : Int))) with d1 | d1
 · have oz := q1 d1
   subst oz; exact zaa [(300004, .loop (zbB b o cs rs ns 0) .ret (Nm [1, 2] [.ptr (.loc 1) 0, .dat (B false)] [Yb b o cs rs ns, none] [] [])), (25, .ret [.dat (B g25)]), (200013, .yes)] (ob d1 (ob rT (ob rT (ob rT ob0)))) (by kernel_rfl)
 · rcases Bool.eq_false_or_eq_true (decide (60 < (rs.length : Int))) with d5 | d5
   · have oz := q2 d1 d5
     subst oz; exact zaa [(300004, .loop (zbB b o cs rs ns 0) .ret (Nm [1, 2] [.ptr (.loc 1) 0, .dat (B false)] [Yb b o cs rs ns, none] [] [])), (25, .ret [.dat (B g25)]), (200013, .no), (200019, .yes)] (ob d1 (ob rF (ob rF (ob rF (ob d5 (ob rT (ob rT (ob rT (ob rT (ob rT (ob rT ob0))))))))))) (by kernel_rfl)
   · rcases Bool.eq_false_or_eq_true ((!g25)) with d13 | d13
     · obtain ⟨hz1, oz⟩ := q3 d1 d5 d13
       subst oz; exact zaa [(300004, .loop (zbB b o cs rs ns 0) .ret (Nm [1, 2] [.ptr (.loc 1) 0, .dat (B false)] [Yb b o cs rs ns, none] [] [])), (25, .ret [.dat (B g25)]), (200013, .no), (200019, .no), (200027, .yes)] (ob d1 (ob rF (ob rF (ob rF (ob d5 (ob rF (ob rF (ob rF (ob rF (ob rF (ob hz1 (ob rF (ob d13 ob0))))))))))))) (by kernel_rfl)
     · obtain ⟨hz1, hz2, oz⟩ := q4 d1 d5 d13
       subst oz; exact zaa [(300004, .loop (zbB b o cs rs ns 0) .ret (Nm [1, 2] [.ptr (.loc 1) 0, .dat (B false)] [Yb b o cs rs ns, none] [] [])), (25, .ret [.dat (B g25)]), (200013, .no), (200019, .no), (200027, .no)] (ob d1 (ob rF (ob rF (ob rF (ob d5 (ob rF (ob rF (ob rF (ob rF (ob rF (ob hz1 (ob rF (ob d13 (ob (rfl : _ = zbB b o cs rs ns 0) (ob hz2 ob0))))))))))))))) (by kernel_rfl)
theorem zpf (kk : Nat) (b : Bool) (o : Int) (cs rs ns : List Dat) (g25 : Bool) {r : Res} (q1 : (tT (200 < (cs.length : Int))) → r = ([D.dat (B false)], [], [])) (q2 : (tF (200 < (cs.length : Int))) → (tT (60 < (rs.length : Int))) → r = ([D.dat (B false)], [], [])) (q3 : (tF (200 < (cs.length : Int))) → (tF (60 < (rs.length : Int))) → ((!g25) = true) → (fD kk 39 [D.dat (I o), D.dat (I 0), D.dat (I (cs.length : Int))] [D.dat (B g25)]) ∧ r = ([D.dat (B false)], [], [])) (q4 : (tF (200 < (cs.length : Int))) → (tF (60 < (rs.length : Int))) → ((!g25) = false) → (fD kk 39 [D.dat (I o), D.dat (I 0), D.dat (I (cs.length : Int))] [D.dat (B g25)]) ∧ (zai cfg kk 38 Tryd.f38 4 (zbB b o cs rs ns 0) (X.exit 0) (Nm [1, 2] [D.ptr (Ref.loc 1) 0, D.junk] [some (fB b o cs rs ns), none] [] [])) ∧ (zai cfg kk 38 Tryd.f38 10 (zb8 b o cs rs ns 0) X.ret (Nm [1, 2] [D.ptr (Ref.loc 1) 0, D.dat (B false)] [some (fB b o cs rs ns), none] [] [])) ∧ r = ([D.dat (B false)], [], [])) : zak cfg kk (den cfg kk) 38 Tryd.f38 [.dat (Yd b o cs rs ns)] [] [] = some r := by
 rcases Bool.eq_false_or_eq_true (decide (200 < (cs.length : Int))) with d1 | d1
 · have oz := q1 d1
   subst oz; exact zaa [(300004, .loop (zbB b o cs rs ns 0) (.exit 0) (Nm [1, 2] [.ptr (.loc 1) 0, .junk] [Yb b o cs rs ns, none] [] [])), (300010, .loop (zb8 b o cs rs ns 0) .ret (Nm [1, 2] [.ptr (.loc 1) 0, .dat (B false)] [Yb b o cs rs ns, none] [] [])), (25, .ret [.dat (B g25)]), (200013, .yes)] (ob d1 (ob rT (ob rT (ob rT ob0)))) (by kernel_rfl)
 · rcases Bool.eq_false_or_eq_true (decide (60 < (rs.length : Int))) with d5 | d5
   · have oz := q2 d1 d5
     subst oz; exact zaa [(300004, .loop (zbB b o cs rs ns 0) (.exit 0) (Nm [1, 2] [.ptr (.loc 1) 0, .junk] [Yb b o cs rs ns, none] [] [])), (300010, .loop (zb8 b o cs rs ns 0) .ret (Nm [1, 2] [.ptr (.loc 1) 0, .dat (B false)] [Yb b o cs rs ns, none] [] [])), (25, .ret [.dat (B g25)]), (200013, .no), (200019, .yes)] (ob d1 (ob rF (ob rF (ob rF (ob d5 (ob rT (ob rT (ob rT (ob rT (ob rT (ob rT ob0))))))))))) (by kernel_rfl)
   · rcases Bool.eq_false_or_eq_true ((!g25)) with d13 | d13
     · obtain ⟨hz1, oz⟩ := q3 d1 d5 d13
       subst oz; exact zaa [(300004, .loop (zbB b o cs rs ns 0) (.exit 0) (Nm [1, 2] [.ptr (.loc 1) 0, .junk] [Yb b o cs rs ns, none] [] [])), (300010, .loop (zb8 b o cs rs ns 0) .ret (Nm [1, 2] [.ptr (.loc 1) 0, .dat (B false)] [Yb b o cs rs ns, none] [] [])), (25, .ret [.dat (B g25)]), (200013, .no), (200019, .no), (200027, .yes)] (ob d1 (ob rF (ob rF (ob rF (ob d5 (ob rF (ob rF (ob rF (ob rF (ob rF (ob hz1 (ob rF (ob d13 ob0))))))))))))) (by kernel_rfl)
     · obtain ⟨hz1, hz2, hz3, oz⟩ := q4 d1 d5 d13
       subst oz; exact zaa [(300004, .loop (zbB b o cs rs ns 0) (.exit 0) (Nm [1, 2] [.ptr (.loc 1) 0, .junk] [Yb b o cs rs ns, none] [] [])), (300010, .loop (zb8 b o cs rs ns 0) .ret (Nm [1, 2] [.ptr (.loc 1) 0, .dat (B false)] [Yb b o cs rs ns, none] [] [])), (25, .ret [.dat (B g25)]), (200013, .no), (200019, .no), (200027, .no)] (ob d1 (ob rF (ob rF (ob rF (ob d5 (ob rF (ob rF (ob rF (ob rF (ob rF (ob hz1 (ob rF (ob d13 (ob (rfl : _ = zbB b o cs rs ns 0) (ob hz2 (ob (rfl : _ = zb8 b o cs rs ns 0) (ob hz3 ob0))))))))))))))))) (by kernel_rfl)
theorem zpp (kk : Nat) (b : Bool) (o : Int) (cs rs ns : List Dat) (g25 : Bool) {r : Res} (q1 : (tT (200 < (cs.length : Int))) → r = ([D.dat (B false)], [], [])) (q2 : (tF (200 < (cs.length : Int))) → (tT (60 < (rs.length : Int))) → r = ([D.dat (B false)], [], [])) (q3 : (tF (200 < (cs.length : Int))) → (tF (60 < (rs.length : Int))) → ((!g25) = true) → (fD kk 39 [D.dat (I o), D.dat (I 0), D.dat (I (cs.length : Int))] [D.dat (B g25)]) ∧ r = ([D.dat (B false)], [], [])) (q4 : (tF (200 < (cs.length : Int))) → (tF (60 < (rs.length : Int))) → ((!g25) = false) → (fD kk 39 [D.dat (I o), D.dat (I 0), D.dat (I (cs.length : Int))] [D.dat (B g25)]) ∧ (zai cfg kk 38 Tryd.f38 4 (zbB b o cs rs ns 0) (X.exit 0) (Nm [1, 2] [D.ptr (Ref.loc 1) 0, D.junk] [some (fB b o cs rs ns), none] [] [])) ∧ (zai cfg kk 38 Tryd.f38 10 (zb8 b o cs rs ns 0) (X.exit 2) (Nm [1, 2] [D.ptr (Ref.loc 1) 0, D.junk] [some (fB b o cs rs ns), none] [] [])) ∧ (zai cfg kk 38 Tryd.f38 18 (zdy b o cs rs ns 0) X.ret (Nm [2] [D.dat (B false)] [none] [] [])) ∧ r = ([D.dat (B false)], [], [])) : zak cfg kk (den cfg kk) 38 Tryd.f38 [.dat (Yd b o cs rs ns)] [] [] = some r := by
 rcases Bool.eq_false_or_eq_true (decide (200 < (cs.length : Int))) with d1 | d1
 · have oz := q1 d1
   subst oz; exact zaa [(300004, .loop (zbB b o cs rs ns 0) (.exit 0) (Nm [1, 2] [.ptr (.loc 1) 0, .junk] [Yb b o cs rs ns, none] [] [])), (300010, .loop (zb8 b o cs rs ns 0) (.exit 2) (Nm [1, 2] [.ptr (.loc 1) 0, .junk] [Yb b o cs rs ns, none] [] [])), (300018, .loop (zdy b o cs rs ns 0) .ret (Nm [2] [.dat (B false)] [none] [] [])), (25, .ret [.dat (B g25)]), (200013, .yes)] (ob d1 (ob rT (ob rT (ob rT ob0)))) (by kernel_rfl)
 · rcases Bool.eq_false_or_eq_true (decide (60 < (rs.length : Int))) with d5 | d5
   · have oz := q2 d1 d5
     subst oz; exact zaa [(300004, .loop (zbB b o cs rs ns 0) (.exit 0) (Nm [1, 2] [.ptr (.loc 1) 0, .junk] [Yb b o cs rs ns, none] [] [])), (300010, .loop (zb8 b o cs rs ns 0) (.exit 2) (Nm [1, 2] [.ptr (.loc 1) 0, .junk] [Yb b o cs rs ns, none] [] [])), (300018, .loop (zdy b o cs rs ns 0) .ret (Nm [2] [.dat (B false)] [none] [] [])), (25, .ret [.dat (B g25)]), (200013, .no), (200019, .yes)] (ob d1 (ob rF (ob rF (ob rF (ob d5 (ob rT (ob rT (ob rT (ob rT (ob rT (ob rT ob0))))))))))) (by kernel_rfl)
   · rcases Bool.eq_false_or_eq_true ((!g25)) with d13 | d13
     · obtain ⟨hz1, oz⟩ := q3 d1 d5 d13
       subst oz; exact zaa [(300004, .loop (zbB b o cs rs ns 0) (.exit 0) (Nm [1, 2] [.ptr (.loc 1) 0, .junk] [Yb b o cs rs ns, none] [] [])), (300010, .loop (zb8 b o cs rs ns 0) (.exit 2) (Nm [1, 2] [.ptr (.loc 1) 0, .junk] [Yb b o cs rs ns, none] [] [])), (300018, .loop (zdy b o cs rs ns 0) .ret (Nm [2] [.dat (B false)] [none] [] [])), (25, .ret [.dat (B g25)]), (200013, .no), (200019, .no), (200027, .yes)] (ob d1 (ob rF (ob rF (ob rF (ob d5 (ob rF (ob rF (ob rF (ob rF (ob rF (ob hz1 (ob rF (ob d13 ob0))))))))))))) (by kernel_rfl)
     · obtain ⟨hz1, hz2, hz3, hz4, oz⟩ := q4 d1 d5 d13
       subst oz; exact zaa [(300004, .loop (zbB b o cs rs ns 0) (.exit 0) (Nm [1, 2] [.ptr (.loc 1) 0, .junk] [Yb b o cs rs ns, none] [] [])), (300010, .loop (zb8 b o cs rs ns 0) (.exit 2) (Nm [1, 2] [.ptr (.loc 1) 0, .junk] [Yb b o cs rs ns, none] [] [])), (300018, .loop (zdy b o cs rs ns 0) .ret (Nm [2] [.dat (B false)] [none] [] [])), (25, .ret [.dat (B g25)]), (200013, .no), (200019, .no), (200027, .no)] (ob d1 (ob rF (ob rF (ob rF (ob d5 (ob rF (ob rF (ob rF (ob rF (ob rF (ob hz1 (ob rF (ob d13 (ob (rfl : _ = zbB b o cs rs ns 0) (ob hz2 (ob (rfl : _ = zb8 b o cs rs ns 0) (ob hz3 (ob (rfl : _ = zdy b o cs rs ns 0) (ob hz4 ob0))))))))))))))))))) (by kernel_rfl)
theorem zpg (kk : Nat) (b : Bool) (o : Int) (cs rs ns : List Dat) (g25 : Bool) {r : Res} (q1 : (tT (200 < (cs.length : Int))) → r = ([D.dat (B false)], [], [])) (q2 : (tF (200 < (cs.length : Int))) → (tT (60 < (rs.length : Int))) → r = ([D.dat (B false)], [], [])) (q3 : (tF (200 < (cs.length : Int))) → (tF (60 < (rs.length : Int))) → ((!g25) = true) → (fD kk 39 [D.dat (I o), D.dat (I 0), D.dat (I (cs.length : Int))] [D.dat (B g25)]) ∧ r = ([D.dat (B false)], [], [])) (q4 : (tF (200 < (cs.length : Int))) → (tF (60 < (rs.length : Int))) → ((!g25) = false) → (fD kk 39 [D.dat (I o), D.dat (I 0), D.dat (I (cs.length : Int))] [D.dat (B g25)]) ∧ (zai cfg kk 38 Tryd.f38 4 (zbB b o cs rs ns 0) (X.exit 0) (Nm [1, 2] [D.ptr (Ref.loc 1) 0, D.junk] [some (fB b o cs rs ns), none] [] [])) ∧ (zai cfg kk 38 Tryd.f38 10 (zb8 b o cs rs ns 0) (X.exit 2) (Nm [1, 2] [D.ptr (Ref.loc 1) 0, D.junk] [some (fB b o cs rs ns), none] [] [])) ∧ (zai cfg kk 38 Tryd.f38 18 (zdy b o cs rs ns 0) (X.exit 4) (Nm [2] [D.junk] [none] [] [])) ∧ r = ([D.dat (B true)], [], [])) : zak cfg kk (den cfg kk) 38 Tryd.f38 [.dat (Yd b o cs rs ns)] [] [] = some r := by
 rcases Bool.eq_false_or_eq_true (decide (200 < (cs.length : Int))) with d1 | d1
 · have oz := q1 d1
   subst oz; exact zaa [(300004, .loop (zbB b o cs rs ns 0) (.exit 0) (Nm [1, 2] [.ptr (.loc 1) 0, .junk] [Yb b o cs rs ns, none] [] [])), (300010, .loop (zb8 b o cs rs ns 0) (.exit 2) (Nm [1, 2] [.ptr (.loc 1) 0, .junk] [Yb b o cs rs ns, none] [] [])), (300018, .loop (zdy b o cs rs ns 0) (.exit 4) (Nm [2] [.junk] [none] [] [])), (25, .ret [.dat (B g25)]), (200013, .yes)] (ob d1 (ob rT (ob rT (ob rT ob0)))) (by kernel_rfl)
 · rcases Bool.eq_false_or_eq_true (decide (60 < (rs.length : Int))) with d5 | d5
   · have oz := q2 d1 d5
     subst oz; exact zaa [(300004, .loop (zbB b o cs rs ns 0) (.exit 0) (Nm [1, 2] [.ptr (.loc 1) 0, .junk] [Yb b o cs rs ns, none] [] [])), (300010, .loop (zb8 b o cs rs ns 0) (.exit 2) (Nm [1, 2] [.ptr (.loc 1) 0, .junk] [Yb b o cs rs ns, none] [] [])), (300018, .loop (zdy b o cs rs ns 0) (.exit 4) (Nm [2] [.junk] [none] [] [])), (25, .ret [.dat (B g25)]), (200013, .no), (200019, .yes)] (ob d1 (ob rF (ob rF (ob rF (ob d5 (ob rT (ob rT (ob rT (ob rT (ob rT (ob rT ob0))))))))))) (by kernel_rfl)
   · rcases Bool.eq_false_or_eq_true ((!g25)) with d13 | d13
     · obtain ⟨hz1, oz⟩ := q3 d1 d5 d13
       subst oz; exact zaa [(300004, .loop (zbB b o cs rs ns 0) (.exit 0) (Nm [1, 2] [.ptr (.loc 1) 0, .junk] [Yb b o cs rs ns, none] [] [])), (300010, .loop (zb8 b o cs rs ns 0) (.exit 2) (Nm [1, 2] [.ptr (.loc 1) 0, .junk] [Yb b o cs rs ns, none] [] [])), (300018, .loop (zdy b o cs rs ns 0) (.exit 4) (Nm [2] [.junk] [none] [] [])), (25, .ret [.dat (B g25)]), (200013, .no), (200019, .no), (200027, .yes)] (ob d1 (ob rF (ob rF (ob rF (ob d5 (ob rF (ob rF (ob rF (ob rF (ob rF (ob hz1 (ob rF (ob d13 ob0))))))))))))) (by kernel_rfl)
     · obtain ⟨hz1, hz2, hz3, hz4, oz⟩ := q4 d1 d5 d13
       subst oz; exact zaa [(300004, .loop (zbB b o cs rs ns 0) (.exit 0) (Nm [1, 2] [.ptr (.loc 1) 0, .junk] [Yb b o cs rs ns, none] [] [])), (300010, .loop (zb8 b o cs rs ns 0) (.exit 2) (Nm [1, 2] [.ptr (.loc 1) 0, .junk] [Yb b o cs rs ns, none] [] [])), (300018, .loop (zdy b o cs rs ns 0) (.exit 4) (Nm [2] [.junk] [none] [] [])), (25, .ret [.dat (B g25)]), (200013, .no), (200019, .no), (200027, .no)] (ob d1 (ob rF (ob rF (ob rF (ob d5 (ob rF (ob rF (ob rF (ob rF (ob rF (ob hz1 (ob rF (ob d13 (ob (rfl : _ = zbB b o cs rs ns 0) (ob hz2 (ob (rfl : _ = zb8 b o cs rs ns 0) (ob hz3 (ob (rfl : _ = zdy b o cs rs ns 0) (ob hz4 ob0))))))))))))))))))) (by kernel_rfl)
theorem zpD (kk : Nat) (x hi : Int) {r : Res} (q1 : (tT (0 ≤ x)) → r = ([D.dat (B (decide (x < hi)))], [], [])) (q2 : (tF (0 ≤ x)) → r = ([D.dat (B false)], [], [])) : zak cfg kk (den cfg kk) 43 Tryd.f43 [.dat (I x), .dat (I hi)] [] [] = some r := by
 rcases Bool.eq_false_or_eq_true (decide (0 ≤ x)) with d1 | d1
 · have oz := q1 d1
   subst oz; exact zaa [(200007, .yes)] (ob d1 (ob rT (ob rT ob0))) (by kernel_rfl)
 · have oz := q2 d1
   subst oz; exact zaa [(200007, .no)] (ob d1 (ob rF (ob rF ob0))) (by kernel_rfl)
theorem zpF (kk : Nat) (c : Cl) (hi : Int) (g22 : Bool) (g28 : Bool) {r : Res} (q1 : (c.l = true) → (tT (c.a = 0)) → r = ([D.dat (B (decide (c.b = 0)))], [], [])) (q2 : (c.l = true) → (tF (c.a = 0)) → r = ([D.dat (B false)], [], [])) (q3 : (c.l = false) → (tT (c.n = 0)) → (g22 = true) → (fD kk 43 [D.dat (I c.a), D.dat (I hi)] [D.dat (B g22)]) ∧ (fD kk 43 [D.dat (I c.b), D.dat (I hi)] [D.dat (B g28)]) ∧ r = ([D.dat (B g28)], [], [])) (q4 : (c.l = false) → (tT (c.n = 0)) → (g22 = false) → (fD kk 43 [D.dat (I c.a), D.dat (I hi)] [D.dat (B g22)]) ∧ r = ([D.dat (B false)], [], [])) (q5 : (c.l = false) → (tF (c.n = 0)) → r = ([D.dat (B false)], [], [])) : zak cfg kk (den cfg kk) 65 Tryd.f65 [.dat (c.d), .dat (I hi)] [] [] = some r := by
 rcases Bool.eq_false_or_eq_true (c.l) with d1 | d1
 · rcases Bool.eq_false_or_eq_true (decide (c.a = 0)) with d2 | d2
   · have oz := q1 d1 d2
     subst oz; exact zaa [(22, .ret [.dat (B g22)]), (28, .ret [.dat (B g28)]), (200006, .yes), (200010, .yes)] (ob d1 (ob d2 (ob rT (ob rT ob0)))) (by kernel_rfl)
   · have oz := q2 d1 d2
     subst oz; exact zaa [(22, .ret [.dat (B g22)]), (28, .ret [.dat (B g28)]), (200006, .yes), (200010, .no)] (ob d1 (ob d2 (ob rF (ob rF ob0)))) (by kernel_rfl)
 · rcases Bool.eq_false_or_eq_true (decide (c.n = 0)) with d2 | d2
   · rcases Bool.eq_false_or_eq_true (g22) with d7 | d7
     · obtain ⟨hz1, hz2, oz⟩ := q3 d1 d2 d7
       subst oz; exact zaa [(22, .ret [.dat (B g22)]), (28, .ret [.dat (B g28)]), (200006, .no), (200018, .yes), (200024, .yes)] (ob d1 (ob d2 (ob rT (ob rT (ob rT (ob hz1 (ob d7 (ob rT (ob rT (ob rT (ob hz2 ob0))))))))))) (by kernel_rfl)
     · obtain ⟨hz1, oz⟩ := q4 d1 d2 d7
       subst oz; exact zaa [(22, .ret [.dat (B g22)]), (28, .ret [.dat (B g28)]), (200006, .no), (200018, .yes), (200024, .no)] (ob d1 (ob d2 (ob rT (ob rT (ob rT (ob hz1 (ob d7 (ob rF (ob rF (ob rF ob0)))))))))) (by kernel_rfl)
   · have oz := q5 d1 d2
     subst oz; exact zaa [(22, .ret [.dat (B g22)]), (28, .ret [.dat (B g28)]), (200006, .no), (200018, .no)] (ob d1 (ob d2 (ob rF (ob rF (ob rF ob0))))) (by kernel_rfl)
theorem names (kk : Nat) (b : Bool) (o : Int) (cs rs ns : List Dat) (c : Cl) {r : Res} (q1 : ((!c.l) = true) → (tT (o ≤ c.a)) → r = ([D.dat (B true)], [], [])) (q2 : ((!c.l) = true) → (tF (o ≤ c.a)) → r = ([D.dat (B (decide (o ≤ c.b)))], [], [])) (q3 : ((!c.l) = false) → r = ([D.dat (B false)], [], [])) : zak cfg kk (den cfg kk) 66 Tryd.f66 [.dat (Yd b o cs rs ns), .dat (c.d)] [] [] = some r := by
 rcases Bool.eq_false_or_eq_true ((!c.l)) with d1 | d1
 · rcases Bool.eq_false_or_eq_true (decide (o ≤ c.a)) with d7 | d7
   · have oz := q1 d1 d7
     subst oz; exact zaa [(200008, .yes), (200014, .yes)] (ob d1 (ob rT (ob rT (ob rT (ob rT (ob rT (ob d7 (ob rT (ob rT (ob rT (ob rT (ob rT ob0)))))))))))) (by kernel_rfl)
   · have oz := q2 d1 d7
     subst oz; exact zaa [(200008, .yes), (200014, .no)] (ob d1 (ob rT (ob rT (ob rT (ob rT (ob rT (ob d7 (ob rF (ob rF (ob rF (ob rF (ob rT ob0)))))))))))) (by kernel_rfl)
 · have oz := q3 d1
   subst oz; exact zaa [(200008, .no)] (ob d1 (ob rF (ob rF (ob rF (ob rF (ob rF (ob rF ob0))))))) (by kernel_rfl)
def hd89 (b : Bool) (es : List Dat) (x i : Int) : St := Nm [0, 1, 7, 8] [.dat (.lst b es), .dat (I x), .dat (I es.length), .dat (I i)] [none, none, none, none] [] []
theorem zmR (kk m : Nat) {s : St} {K : X → St → Prop} (b : Bool) (es : List Dat) (x i : Int) (x14 : Int) (hs : s.norm (fN kk 89 Tryd.f89 2) = hd89 b es x i) (q1 : (tT (i < (es.length : Int))) → (tT (x = x14)) → ((0 ≤ i ∧ i < (es.length : Int)) ∧ es[i.toNat]? = some (I x14)) ∧ K (X.ret) (Nm [4] [D.dat (I i)] [none] [] [])) (q2 : (tT (i < (es.length : Int))) → (tF (x = x14)) → ((0 ≤ i ∧ i < (es.length : Int)) ∧ es[i.toNat]? = some (I x14)) ∧ (∀ s : St, s.norm (fN kk 89 Tryd.f89 2) = Nm [0, 1, 7, 8] [D.dat (Dat.lst b es), D.dat (I x), D.dat (I (es.length : Int)), D.dat (I (w64 (i + 1)))] [none, none, none, none] [] [] → fR kk 89 Tryd.f89 2 m s K)) (q3 : (tF (i < (es.length : Int))) → K (X.exit 0) (Nm [4] [D.junk] [none] [] [])) : fR kk 89 Tryd.f89 2 (m + 1) s K := by
 rcases Bool.eq_false_or_eq_true (decide (i < (es.length : Int))) with d1 | d1
 · rcases Bool.eq_false_or_eq_true (decide (x = x14)) with d3 | d3
   · obtain ⟨hz1, oz⟩ := q1 d1 d3
     exact zae [(14, .at (I x14)), (200009, .yes), (200016, .yes)] hs (by kernel_rfl) rfl (ob d1 (ob hz1 (ob d3 ob0))) (by kernel_rfl) oz
   · obtain ⟨hz1, oz⟩ := q2 d1 d3
     exact zad [(14, .at (I x14)), (200009, .yes), (200016, .no)] hs (by kernel_rfl) (ob d1 (ob hz1 (ob d3 ob0))) (by kernel_rfl) oz
 · have oz := q3 d1
   exact zae [(14, .at (I x14)), (200009, .no)] hs (by kernel_rfl) rfl (ob d1 ob0) (by kernel_rfl) oz
theorem zpB (kk : Nat) (b : Bool) (es : List Dat) (x : Int) {r : Res} (q1 : (zai cfg kk 89 Tryd.f89 2 (hd89 b es x 0) (X.exit 0) (Nm [4] [D.junk] [none] [] [])) ∧ r = ([D.dat (I (-1))], [], [])) : zak cfg kk (den cfg kk) 89 Tryd.f89 [.dat (Dat.lst b es), .dat (I x)] [] [] = some r := by
 obtain ⟨hz1, oz⟩ := q1
 subst oz; exact zaa [(300002, .loop (hd89 b es x 0) (.exit 0) (Nm [4] [.junk] [none] [] []))] (ob (rfl : _ = hd89 b es x 0) (ob hz1 ob0)) (by kernel_rfl)
theorem zpK (kk : Nat) (b : Bool) (es : List Dat) (x j : Int) {r : Res} (q1 : (zai cfg kk 89 Tryd.f89 2 (hd89 b es x 0) X.ret (Nm [4] [D.dat (I j)] [none] [] [])) ∧ r = ([D.dat (I j)], [], [])) : zak cfg kk (den cfg kk) 89 Tryd.f89 [.dat (Dat.lst b es), .dat (I x)] [] [] = some r := by
 obtain ⟨hz1, oz⟩ := q1
 subst oz; exact zaa [(300002, .loop (hd89 b es x 0) .ret (Nm [4] [.dat (I j)] [none] [] []))] (ob (rfl : _ = hd89 b es x 0) (ob hz1 ob0)) (by kernel_rfl)
theorem contains (kk : Nat) (b : Bool) (es : List Dat) (x : Int) (x7 : Int) {r : Res} (q1 : (fD kk 89 [D.dat (Dat.lst b es), D.dat (I x)] [D.dat (I x7)]) ∧ r = ([D.dat (B (decide (0 ≤ x7)))], [], [])) : zak cfg kk (den cfg kk) 67 Tryd.f67 [.dat (Dat.lst b es), .dat (I x)] [] [] = some r := by
 obtain ⟨hz1, oz⟩ := q1
 subst oz; exact zaa [(7, .ret [.dat (I x7)])] (ob hz1 ob0) (by kernel_rfl)
theorem root1 (kk : Nat) (x hi : Int) (g6 : Bool) {r : Res} (q1 : (fD kk 43 [D.dat (I x), D.dat (I hi)] [D.dat (B g6)]) ∧ r = ([D.dat (B !g6)], [[D.dat (I hi)]], [])) : zak cfg kk (den cfg kk) 88 Tryd.f88 [.dat (I x), .ptr (.up 0) 0] [[.dat (I hi)]] [] = some r := by
 obtain ⟨hz1, oz⟩ := q1
 subst oz; exact zaa [(6, .ret [.dat (B g6)])] (ob hz1 ob0) (by kernel_rfl)
def zhi (b : Bool) (es : List Dat) (hi i : Int) : St := Nm [0, 1, 7, 8] [.dat (.lst b es), .fn 88 [.up 0], .dat (I es.length), .dat (I i)] [none, none, none, none] [[.dat (I hi)]] []
theorem zkQ (kk m : Nat) {s : St} {K : X → St → Prop} (b : Bool) (es : List Dat) (hi i : Int) (g16 : Bool) (x14 : Int) (hs : s.norm (fN kk 119 Tryd.f119 2) = zhi b es hi i) (q1 : (tT (i < (es.length : Int))) → (g16 = true) → ((0 ≤ i ∧ i < (es.length : Int)) ∧ es[i.toNat]? = some (I x14)) ∧ (fU kk 88 [D.dat (I x14), D.ptr (Ref.up 0) 0] [[D.dat (I hi)]] [D.dat (B g16)] [[D.dat (I hi)]]) ∧ K (X.ret) (Nm [4] [D.dat (I i)] [none] [[D.dat (I hi)]] [])) (q2 : (tT (i < (es.length : Int))) → (g16 = false) → ((0 ≤ i ∧ i < (es.length : Int)) ∧ es[i.toNat]? = some (I x14)) ∧ (fU kk 88 [D.dat (I x14), D.ptr (Ref.up 0) 0] [[D.dat (I hi)]] [D.dat (B g16)] [[D.dat (I hi)]]) ∧ (∀ s : St, s.norm (fN kk 119 Tryd.f119 2) = Nm [0, 1, 7, 8] [D.dat (Dat.lst b es), D.fn 88 [Ref.up 0], D.dat (I (es.length : Int)), D.dat (I (w64 (i + 1)))] [none, none, none, none] [[D.dat (I hi)]] [] → fR kk 119 Tryd.f119 2 m s K)) (q3 : (tF (i < (es.length : Int))) → K (X.exit 0) (Nm [4] [D.junk] [none] [[D.dat (I hi)]] [])) : fR kk 119 Tryd.f119 2 (m + 1) s K := by
 rcases Bool.eq_false_or_eq_true (decide (i < (es.length : Int))) with d1 | d1
 · rcases Bool.eq_false_or_eq_true (g16) with d5 | d5
   · obtain ⟨hz1, hz2, oz⟩ := q1 d1 d5
     exact zae [(16, .back [.dat (B g16)] [[.dat (I hi)]] []), (14, .at (I x14)), (200009, .yes), (200016, .yes)] hs (by kernel_rfl) rfl (ob d1 (ob hz1 (ob hz2 (ob rF (ob d5 ob0))))) (by kernel_rfl) oz
   · obtain ⟨hz1, hz2, oz⟩ := q2 d1 d5
     exact zad [(16, .back [.dat (B g16)] [[.dat (I hi)]] []), (14, .at (I x14)), (200009, .yes), (200016, .no)] hs (by kernel_rfl) (ob d1 (ob hz1 (ob hz2 (ob rF (ob d5 ob0))))) (by kernel_rfl) oz
 · have oz := q3 d1
   exact zae [(16, .back [.dat (B g16)] [[.dat (I hi)]] []), (14, .at (I x14)), (200009, .no)] hs (by kernel_rfl) rfl (ob d1 ob0) (by kernel_rfl) oz
theorem znH (kk : Nat) (b : Bool) (es : List Dat) (hi : Int) {r : Res} (q1 : (zai cfg kk 119 Tryd.f119 2 (zhi b es hi 0) (X.exit 0) (Nm [4] [D.junk] [none] [[D.dat (I hi)]] [])) ∧ r = ([D.dat (I (-1))], [[D.dat (I hi)]], [])) : zak cfg kk (den cfg kk) 119 Tryd.f119 [.dat (Dat.lst b es), .fn 88 [.up 0]] [[.dat (I hi)]] [] = some r := by
 obtain ⟨hz1, oz⟩ := q1
 subst oz; exact zaa [(300002, .loop (zhi b es hi 0) (.exit 0) (Nm [4] [.junk] [none] [[.dat (I hi)]] []))] (ob (rfl : _ = zhi b es hi 0) (ob hz1 ob0)) (by kernel_rfl)
theorem zox (kk : Nat) (b : Bool) (es : List Dat) (hi j : Int) {r : Res} (q1 : (zai cfg kk 119 Tryd.f119 2 (zhi b es hi 0) X.ret (Nm [4] [D.dat (I j)] [none] [[D.dat (I hi)]] [])) ∧ r = ([D.dat (I j)], [[D.dat (I hi)]], [])) : zak cfg kk (den cfg kk) 119 Tryd.f119 [.dat (Dat.lst b es), .fn 88 [.up 0]] [[.dat (I hi)]] [] = some r := by
 obtain ⟨hz1, oz⟩ := q1
 subst oz; exact zaa [(300002, .loop (zhi b es hi 0) .ret (Nm [4] [.dat (I j)] [none] [[.dat (I hi)]] []))] (ob (rfl : _ = zhi b es hi 0) (ob hz1 ob0)) (by kernel_rfl)
theorem zmj (kk : Nat) (b : Bool) (es : List Dat) (hi j : Int) {r : Res} (q1 : (fU kk 119 [D.dat (Dat.lst b es), D.fn 88 [Ref.up 0]] [[D.dat (I hi)]] [D.dat (I j)] [[D.dat (I hi)]]) ∧ r = ([D.dat (B (decide (0 ≤ j)))], [[D.dat (I hi)]], [])) : zak cfg kk (den cfg kk) 87 Tryd.f87 [.dat (Dat.lst b es), .fn 88 [.up 0]] [[.dat (I hi)]] [] = some r := by
 obtain ⟨hz1, oz⟩ := q1
 subst oz; exact zaa [(7, .back [.dat (I j)] [[.dat (I hi)]] [])] (ob hz1 (ob rF ob0)) (by kernel_rfl)
theorem zoy (kk : Nat) (b : Bool) (es : List Dat) (hi : Int) (g : Bool) {r : Res} (q1 : (tT ((es.length : Int) ≤ 60)) → (fU kk 87 [D.dat (Dat.lst b es), D.fn 88 [Ref.up 0]] [[D.dat (I hi)]] [D.dat (B g)] [[D.dat (I hi)]]) ∧ r = ([D.dat (B !g)], [], [])) (q2 : (tF ((es.length : Int) ≤ 60)) → r = ([D.dat (B false)], [], [])) : zak cfg kk (den cfg kk) 64 Tryd.f64 [.dat (Dat.lst b es), .dat (I hi)] [] [] = some r := by
 rcases Bool.eq_false_or_eq_true (decide ((es.length : Int) ≤ 60)) with d1 | d1
 · obtain ⟨hz1, oz⟩ := q1 d1
   subst oz; exact zaa [(11, .back [.dat (B g)] [[.dat (I hi)]] []), (200008, .yes)] (ob d1 (ob rT (ob rT (ob hz1 (ob rF (ob rT ob0)))))) (by kernel_rfl)
 · have oz := q2 d1
   subst oz; exact zaa [(11, .back [.dat (B g)] [[.dat (I hi)]] []), (200008, .no)] (ob d1 (ob rF (ob rF (ob rF ob0)))) (by kernel_rfl)
def zbR (b : Bool) (o : Int) (cs rs ns : List Dat) (i : Int) : St := Nm [1, 3, 32, 33, 34] [.ptr (.loc 1) 0, .dat (I cs.length), .dat (.lst b ns), .dat (I ns.length), .dat (I i)] [Yb b o cs rs ns, none, none, none, none] [] []
theorem zm1 (kk m : Nat) {s : St} {K : X → St → Prop} (b : Bool) (o : Int) (cs rs ns : List Dat) (i : Int) (x37 : Int) (g42 : Bool) (x52 : Int) (hs : s.norm (fN kk 33 Tryd.f33 5) = zbR b o cs rs ns i) (q1 : (tT (i < (ns.length : Int))) → ((!g42) = true) → ((0 ≤ i ∧ i < (ns.length : Int)) ∧ ns[i.toNat]? = some (I x37)) ∧ (fD kk 43 [D.dat (I x37), D.dat (I o)] [D.dat (B g42)]) ∧ K (X.ret) (Nm [1, 2, 3] [D.ptr (Ref.loc 1) 0, D.dat (B false), D.dat (I (cs.length : Int))] [some (fB b o cs rs ns), none, none] [] [])) (q2 : (tT (i < (ns.length : Int))) → ((!g42) = false) → (tT (0 < i)) → (tT (x37 ≤ x52)) → ((0 ≤ i ∧ i < (ns.length : Int)) ∧ ns[i.toNat]? = some (I x37)) ∧ (fD kk 43 [D.dat (I x37), D.dat (I o)] [D.dat (B g42)]) ∧ ((0 ≤ w64 (i - 1) ∧ w64 (i - 1) < (ns.length : Int)) ∧ ns[(w64 (i - 1)).toNat]? = some (I x52)) ∧ K (X.ret) (Nm [1, 2, 3] [D.ptr (Ref.loc 1) 0, D.dat (B false), D.dat (I (cs.length : Int))] [some (fB b o cs rs ns), none, none] [] [])) (q3 : (tT (i < (ns.length : Int))) → ((!g42) = false) → (tT (0 < i)) → (tF (x37 ≤ x52)) → ((0 ≤ i ∧ i < (ns.length : Int)) ∧ ns[i.toNat]? = some (I x37)) ∧ (fD kk 43 [D.dat (I x37), D.dat (I o)] [D.dat (B g42)]) ∧ ((0 ≤ w64 (i - 1) ∧ w64 (i - 1) < (ns.length : Int)) ∧ ns[(w64 (i - 1)).toNat]? = some (I x52)) ∧ (∀ s : St, s.norm (fN kk 33 Tryd.f33 5) = Nm [1, 3, 32, 33, 34] [D.ptr (Ref.loc 1) 0, D.dat (I (cs.length : Int)), D.dat (Dat.lst b ns), D.dat (I (ns.length : Int)), D.dat (I (w64 (i + 1)))] [some (fB b o cs rs ns), none, none, none, none] [] [] → fR kk 33 Tryd.f33 5 m s K)) (q4 : (tT (i < (ns.length : Int))) → ((!g42) = false) → (tF (0 < i)) → ((0 ≤ i ∧ i < (ns.length : Int)) ∧ ns[i.toNat]? = some (I x37)) ∧ (fD kk 43 [D.dat (I x37), D.dat (I o)] [D.dat (B g42)]) ∧ (∀ s : St, s.norm (fN kk 33 Tryd.f33 5) = Nm [1, 3, 32, 33, 34] [D.ptr (Ref.loc 1) 0, D.dat (I (cs.length : Int)), D.dat (Dat.lst b ns), D.dat (I (ns.length : Int)), D.dat (I (w64 (i + 1)))] [some (fB b o cs rs ns), none, none, none, none] [] [] → fR kk 33 Tryd.f33 5 m s K)) (q5 : (tF (i < (ns.length : Int))) → K (X.exit 0) (Nm [1, 2, 3] [D.ptr (Ref.loc 1) 0, D.junk, D.dat (I (cs.length : Int))] [some (fB b o cs rs ns), none, none] [] [])) : fR kk 33 Tryd.f33 5 (m + 1) s K := by
 rcases Bool.eq_false_or_eq_true (decide (i < (ns.length : Int))) with d1 | d1
 · rcases Bool.eq_false_or_eq_true ((!g42)) with d4 | d4
   · obtain ⟨hz1, hz2, oz⟩ := q1 d1 d4
     exact zae [(37, .at (I x37)), (42, .ret [.dat (B g42)]), (52, .at (I x52)), (200035, .yes), (200044, .yes)] hs (by kernel_rfl) rfl (ob d1 (ob hz1 (ob hz2 (ob d4 (ob rT (ob rT (ob rT ob0))))))) (by kernel_rfl) oz
   · rcases Bool.eq_false_or_eq_true (decide (0 < i)) with d7 | d7
     · rcases Bool.eq_false_or_eq_true (decide (x37 ≤ x52)) with d17 | d17
       · obtain ⟨hz1, hz2, hz3, oz⟩ := q2 d1 d4 d7 d17
         exact zae [(37, .at (I x37)), (42, .ret [.dat (B g42)]), (52, .at (I x52)), (200035, .yes), (200044, .no), (200047, .yes), (200057, .yes)] hs (by kernel_rfl) rfl (ob d1 (ob hz1 (ob hz2 (ob d4 (ob rF (ob rF (ob d7 (ob rT (ob rT (ob rT (ob rT (ob hz3 (ob rT (ob rT (ob rT (ob rF (ob d17 ob0))))))))))))))))) (by kernel_rfl) oz
       · obtain ⟨hz1, hz2, hz3, oz⟩ := q3 d1 d4 d7 d17
         exact zad [(37, .at (I x37)), (42, .ret [.dat (B g42)]), (52, .at (I x52)), (200035, .yes), (200044, .no), (200047, .yes), (200057, .no)] hs (by kernel_rfl) (ob d1 (ob hz1 (ob hz2 (ob d4 (ob rF (ob rF (ob d7 (ob rT (ob rT (ob rT (ob rT (ob hz3 (ob rT (ob rT (ob rT (ob rF (ob d17 ob0))))))))))))))))) (by kernel_rfl) oz
     · obtain ⟨hz1, hz2, oz⟩ := q4 d1 d4 d7
       exact zad [(37, .at (I x37)), (42, .ret [.dat (B g42)]), (52, .at (I x52)), (200035, .yes), (200044, .no), (200047, .no)] hs (by kernel_rfl) (ob d1 (ob hz1 (ob hz2 (ob d4 (ob rF (ob rF (ob d7 (ob rF (ob rF (ob rF (ob rF (ob rF (ob rF (ob rF (ob rF ob0))))))))))))))) (by kernel_rfl) oz
 · have oz := q5 d1
   exact zae [(37, .at (I x37)), (42, .ret [.dat (B g42)]), (52, .at (I x52)), (200035, .no)] hs (by kernel_rfl) rfl (ob d1 ob0) (by kernel_rfl) oz
def zdc (b : Bool) (o : Int) (cs rs ns : List Dat) (i : Int) : St := Nm [1, 3, 60, 61, 62] [.ptr (.loc 1) 0, .dat (I cs.length), .dat (.lst b cs), .dat (I cs.length), .dat (I i)] [Yb b o cs rs ns, none, none, none, none] [] []
theorem zmi (kk m : Nat) {s : St} {K : X → St → Prop} (b : Bool) (o : Int) (cs rs ns : List Dat) (i : Int) (c65 : Cl) (g69 : Bool) (g79 : Bool) (g85 : Bool) (hs : s.norm (fN kk 33 Tryd.f33 11) = zdc b o cs rs ns i) (q1 : (tT (i < (cs.length : Int))) → ((!g69) = true) → ((0 ≤ i ∧ i < (cs.length : Int)) ∧ cs[i.toNat]? = some (fE c65.l c65.n c65.a c65.b)) ∧ (fD kk 65 [D.dat (fE c65.l c65.n c65.a c65.b), D.dat (I (cs.length : Int))] [D.dat (B g69)]) ∧ K (X.ret) (Nm [2] [D.dat (B false)] [none] [] [])) (q2 : (tT (i < (cs.length : Int))) → ((!g69) = false) → (tT (i < o)) → (g79 = true) → ((!g85) = true) → ((0 ≤ i ∧ i < (cs.length : Int)) ∧ cs[i.toNat]? = some (fE c65.l c65.n c65.a c65.b)) ∧ (fD kk 65 [D.dat (fE c65.l c65.n c65.a c65.b), D.dat (I (cs.length : Int))] [D.dat (B g69)]) ∧ (fD kk 66 [D.dat (fA b o cs rs ns), D.dat (fE c65.l c65.n c65.a c65.b)] [D.dat (B g79)]) ∧ (fD kk 67 [D.dat (Dat.lst b ns), D.dat (I i)] [D.dat (B g85)]) ∧ K (X.ret) (Nm [2] [D.dat (B false)] [none] [] [])) (q3 : (tT (i < (cs.length : Int))) → ((!g69) = false) → (tT (i < o)) → (g79 = true) → ((!g85) = false) → ((0 ≤ i ∧ i < (cs.length : Int)) ∧ cs[i.toNat]? = some (fE c65.l c65.n c65.a c65.b)) ∧ (fD kk 65 [D.dat (fE c65.l c65.n c65.a c65.b), D.dat (I (cs.length : Int))] [D.dat (B g69)]) ∧ (fD kk 66 [D.dat (fA b o cs rs ns), D.dat (fE c65.l c65.n c65.a c65.b)] [D.dat (B g79)]) ∧ (fD kk 67 [D.dat (Dat.lst b ns), D.dat (I i)] [D.dat (B g85)]) ∧ (∀ s : St, s.norm (fN kk 33 Tryd.f33 11) = Nm [1, 3, 60, 61, 62] [D.ptr (Ref.loc 1) 0, D.dat (I (cs.length : Int)), D.dat (Dat.lst b cs), D.dat (I (cs.length : Int)), D.dat (I (w64 (i + 1)))] [some (fB b o cs rs ns), none, none, none, none] [] [] → fR kk 33 Tryd.f33 11 m s K)) (q4 : (tT (i < (cs.length : Int))) → ((!g69) = false) → (tT (i < o)) → (g79 = false) → ((0 ≤ i ∧ i < (cs.length : Int)) ∧ cs[i.toNat]? = some (fE c65.l c65.n c65.a c65.b)) ∧ (fD kk 65 [D.dat (fE c65.l c65.n c65.a c65.b), D.dat (I (cs.length : Int))] [D.dat (B g69)]) ∧ (fD kk 66 [D.dat (fA b o cs rs ns), D.dat (fE c65.l c65.n c65.a c65.b)] [D.dat (B g79)]) ∧ (∀ s : St, s.norm (fN kk 33 Tryd.f33 11) = Nm [1, 3, 60, 61, 62] [D.ptr (Ref.loc 1) 0, D.dat (I (cs.length : Int)), D.dat (Dat.lst b cs), D.dat (I (cs.length : Int)), D.dat (I (w64 (i + 1)))] [some (fB b o cs rs ns), none, none, none, none] [] [] → fR kk 33 Tryd.f33 11 m s K)) (q5 : (tT (i < (cs.length : Int))) → ((!g69) = false) → (tF (i < o)) → ((0 ≤ i ∧ i < (cs.length : Int)) ∧ cs[i.toNat]? = some (fE c65.l c65.n c65.a c65.b)) ∧ (fD kk 65 [D.dat (fE c65.l c65.n c65.a c65.b), D.dat (I (cs.length : Int))] [D.dat (B g69)]) ∧ (∀ s : St, s.norm (fN kk 33 Tryd.f33 11) = Nm [1, 3, 60, 61, 62] [D.ptr (Ref.loc 1) 0, D.dat (I (cs.length : Int)), D.dat (Dat.lst b cs), D.dat (I (cs.length : Int)), D.dat (I (w64 (i + 1)))] [some (fB b o cs rs ns), none, none, none, none] [] [] → fR kk 33 Tryd.f33 11 m s K)) (q6 : (tF (i < (cs.length : Int))) → K (X.exit 2) (Nm [2] [D.junk] [none] [] [])) : fR kk 33 Tryd.f33 11 (m + 1) s K := by
 rcases Bool.eq_false_or_eq_true (decide (i < (cs.length : Int))) with d1 | d1
 · rcases Bool.eq_false_or_eq_true ((!g69)) with d4 | d4
   · obtain ⟨hz1, hz2, oz⟩ := q1 d1 d4
     exact zae [(65, .at (c65.d)), (69, .ret [.dat (B g69)]), (79, .ret [.dat (B g79)]), (85, .ret [.dat (B g85)]), (200063, .yes), (200071, .yes)] hs (by kernel_rfl) rfl (ob d1 (ob hz1 (ob hz2 (ob d4 (ob rT (ob rT (ob rT (ob rT (ob rT (ob rT (ob rT ob0))))))))))) (by kernel_rfl) oz
   · rcases Bool.eq_false_or_eq_true (decide (i < o)) with d9 | d9
     · rcases Bool.eq_false_or_eq_true (g79) with d15 | d15
       · rcases Bool.eq_false_or_eq_true ((!g85)) with d22 | d22
         · obtain ⟨hz1, hz2, hz3, hz4, oz⟩ := q2 d1 d4 d9 d15 d22
           exact zae [(65, .at (c65.d)), (69, .ret [.dat (B g69)]), (79, .ret [.dat (B g79)]), (85, .ret [.dat (B g85)]), (200063, .yes), (200071, .no), (200076, .yes), (200081, .yes), (200088, .yes)] hs (by kernel_rfl) rfl (ob d1 (ob hz1 (ob hz2 (ob d4 (ob rF (ob rF (ob rF (ob rF (ob d9 (ob rT (ob rT (ob hz3 (ob rF (ob rF (ob d15 (ob rT (ob rT (ob rT (ob hz4 (ob rT (ob rF (ob d22 ob0)))))))))))))))))))))) (by kernel_rfl) oz
         · obtain ⟨hz1, hz2, hz3, hz4, oz⟩ := q3 d1 d4 d9 d15 d22
           exact zad [(65, .at (c65.d)), (69, .ret [.dat (B g69)]), (79, .ret [.dat (B g79)]), (85, .ret [.dat (B g85)]), (200063, .yes), (200071, .no), (200076, .yes), (200081, .yes), (200088, .no)] hs (by kernel_rfl) (ob d1 (ob hz1 (ob hz2 (ob d4 (ob rF (ob rF (ob rF (ob rF (ob d9 (ob rT (ob rT (ob hz3 (ob rF (ob rF (ob d15 (ob rT (ob rT (ob rT (ob hz4 (ob rT (ob rF (ob d22 ob0)))))))))))))))))))))) (by kernel_rfl) oz
       · obtain ⟨hz1, hz2, hz3, oz⟩ := q4 d1 d4 d9 d15
         exact zad [(65, .at (c65.d)), (69, .ret [.dat (B g69)]), (79, .ret [.dat (B g79)]), (85, .ret [.dat (B g85)]), (200063, .yes), (200071, .no), (200076, .yes), (200081, .no)] hs (by kernel_rfl) (ob d1 (ob hz1 (ob hz2 (ob d4 (ob rF (ob rF (ob rF (ob rF (ob d9 (ob rT (ob rT (ob hz3 (ob rF (ob rF (ob d15 (ob rF (ob rF (ob rF (ob rF (ob rF ob0)))))))))))))))))))) (by kernel_rfl) oz
     · obtain ⟨hz1, hz2, oz⟩ := q5 d1 d4 d9
       exact zad [(65, .at (c65.d)), (69, .ret [.dat (B g69)]), (79, .ret [.dat (B g79)]), (85, .ret [.dat (B g85)]), (200063, .yes), (200071, .no), (200076, .no)] hs (by kernel_rfl) (ob d1 (ob hz1 (ob hz2 (ob d4 (ob rF (ob rF (ob rF (ob rF (ob d9 (ob rF (ob rF (ob rF (ob rF (ob rF ob0)))))))))))))) (by kernel_rfl) oz
 · have oz := q6 d1
   exact zae [(65, .at (c65.d)), (69, .ret [.dat (B g69)]), (79, .ret [.dat (B g79)]), (85, .ret [.dat (B g85)]), (200063, .no)] hs (by kernel_rfl) rfl (ob d1 ob0) (by kernel_rfl) oz
theorem zpG (kk : Nat) (b : Bool) (o : Int) (cs rs ns : List Dat) (g28 : Bool) {r : Res} (q1 : (tT (200 < (cs.length : Int))) → r = ([D.dat (B false)], [], [])) (q2 : (tF (200 < (cs.length : Int))) → (tT (o < 0)) → r = ([D.dat (B false)], [], [])) (q3 : (tF (200 < (cs.length : Int))) → (tF (o < 0)) → (tT ((cs.length : Int) < o)) → r = ([D.dat (B false)], [], [])) (q4 : (tF (200 < (cs.length : Int))) → (tF (o < 0)) → (tF ((cs.length : Int) < o)) → ((!g28) = true) → (fD kk 64 [D.dat (Dat.lst b rs), D.dat (I (cs.length : Int))] [D.dat (B g28)]) ∧ r = ([D.dat (B false)], [], [])) (q5 : (tF (200 < (cs.length : Int))) → (tF (o < 0)) → (tF ((cs.length : Int) < o)) → ((!g28) = false) → (fD kk 64 [D.dat (Dat.lst b rs), D.dat (I (cs.length : Int))] [D.dat (B g28)]) ∧ (zai cfg kk 33 Tryd.f33 5 (zbR b o cs rs ns 0) X.ret (Nm [1, 2, 3] [D.ptr (Ref.loc 1) 0, D.dat (B false), D.dat (I (cs.length : Int))] [some (fB b o cs rs ns), none, none] [] [])) ∧ r = ([D.dat (B false)], [], [])) : zak cfg kk (den cfg kk) 33 Tryd.f33 [.dat (Yd b o cs rs ns)] [] [] = some r := by
 rcases Bool.eq_false_or_eq_true (decide (200 < (cs.length : Int))) with d1 | d1
 · have oz := q1 d1
   subst oz; exact zaa [(300005, .loop (zbR b o cs rs ns 0) .ret (Nm [1, 2, 3] [.ptr (.loc 1) 0, .dat (B false), .dat (I cs.length)] [Yb b o cs rs ns, none, none] [] [])), (28, .ret [.dat (B g28)]), (200013, .yes)] (ob d1 (ob rT (ob rT ob0))) (by kernel_rfl)
 · rcases Bool.eq_false_or_eq_true (decide (o < 0)) with d4 | d4
   · have oz := q2 d1 d4
     subst oz; exact zaa [(300005, .loop (zbR b o cs rs ns 0) .ret (Nm [1, 2, 3] [.ptr (.loc 1) 0, .dat (B false), .dat (I cs.length)] [Yb b o cs rs ns, none, none] [] [])), (28, .ret [.dat (B g28)]), (200013, .no), (200018, .yes)] (ob d1 (ob rF (ob rF (ob d4 (ob rT (ob rT (ob rT ob0))))))) (by kernel_rfl)
   · rcases Bool.eq_false_or_eq_true (decide ((cs.length : Int) < o)) with d8 | d8
     · have oz := q3 d1 d4 d8
       subst oz; exact zaa [(300005, .loop (zbR b o cs rs ns 0) .ret (Nm [1, 2, 3] [.ptr (.loc 1) 0, .dat (B false), .dat (I cs.length)] [Yb b o cs rs ns, none, none] [] [])), (28, .ret [.dat (B g28)]), (200013, .no), (200018, .no), (200024, .yes)] (ob d1 (ob rF (ob rF (ob d4 (ob rF (ob rF (ob rF (ob d8 (ob rT (ob rT (ob rT (ob rT ob0)))))))))))) (by kernel_rfl)
     · rcases Bool.eq_false_or_eq_true ((!g28)) with d14 | d14
       · obtain ⟨hz1, oz⟩ := q4 d1 d4 d8 d14
         subst oz; exact zaa [(300005, .loop (zbR b o cs rs ns 0) .ret (Nm [1, 2, 3] [.ptr (.loc 1) 0, .dat (B false), .dat (I cs.length)] [Yb b o cs rs ns, none, none] [] [])), (28, .ret [.dat (B g28)]), (200013, .no), (200018, .no), (200024, .no), (200030, .yes)] (ob d1 (ob rF (ob rF (ob d4 (ob rF (ob rF (ob rF (ob d8 (ob rF (ob rF (ob rF (ob hz1 (ob rF (ob d14 ob0)))))))))))))) (by kernel_rfl)
       · obtain ⟨hz1, hz2, oz⟩ := q5 d1 d4 d8 d14
         subst oz; exact zaa [(300005, .loop (zbR b o cs rs ns 0) .ret (Nm [1, 2, 3] [.ptr (.loc 1) 0, .dat (B false), .dat (I cs.length)] [Yb b o cs rs ns, none, none] [] [])), (28, .ret [.dat (B g28)]), (200013, .no), (200018, .no), (200024, .no), (200030, .no)] (ob d1 (ob rF (ob rF (ob d4 (ob rF (ob rF (ob rF (ob d8 (ob rF (ob rF (ob rF (ob hz1 (ob rF (ob d14 (ob (rfl : _ = zbR b o cs rs ns 0) (ob hz2 ob0)))))))))))))))) (by kernel_rfl)
theorem zpb (kk : Nat) (b : Bool) (o : Int) (cs rs ns : List Dat) (g28 : Bool) {r : Res} (q1 : (tT (200 < (cs.length : Int))) → r = ([D.dat (B false)], [], [])) (q2 : (tF (200 < (cs.length : Int))) → (tT (o < 0)) → r = ([D.dat (B false)], [], [])) (q3 : (tF (200 < (cs.length : Int))) → (tF (o < 0)) → (tT ((cs.length : Int) < o)) → r = ([D.dat (B false)], [], [])) (q4 : (tF (200 < (cs.length : Int))) → (tF (o < 0)) → (tF ((cs.length : Int) < o)) → ((!g28) = true) → (fD kk 64 [D.dat (Dat.lst b rs), D.dat (I (cs.length : Int))] [D.dat (B g28)]) ∧ r = ([D.dat (B false)], [], [])) (q5 : (tF (200 < (cs.length : Int))) → (tF (o < 0)) → (tF ((cs.length : Int) < o)) → ((!g28) = false) → (fD kk 64 [D.dat (Dat.lst b rs), D.dat (I (cs.length : Int))] [D.dat (B g28)]) ∧ (zai cfg kk 33 Tryd.f33 5 (zbR b o cs rs ns 0) (X.exit 0) (Nm [1, 2, 3] [D.ptr (Ref.loc 1) 0, D.junk, D.dat (I (cs.length : Int))] [some (fB b o cs rs ns), none, none] [] [])) ∧ (zai cfg kk 33 Tryd.f33 11 (zdc b o cs rs ns 0) X.ret (Nm [2] [D.dat (B false)] [none] [] [])) ∧ r = ([D.dat (B false)], [], [])) : zak cfg kk (den cfg kk) 33 Tryd.f33 [.dat (Yd b o cs rs ns)] [] [] = some r := by
 rcases Bool.eq_false_or_eq_true (decide (200 < (cs.length : Int))) with d1 | d1
 · have oz := q1 d1
   subst oz; exact zaa [(300005, .loop (zbR b o cs rs ns 0) (.exit 0) (Nm [1, 2, 3] [.ptr (.loc 1) 0, .junk, .dat (I cs.length)] [Yb b o cs rs ns, none, none] [] [])), (300011, .loop (zdc b o cs rs ns 0) .ret (Nm [2] [.dat (B false)] [none] [] [])), (28, .ret [.dat (B g28)]), (200013, .yes)] (ob d1 (ob rT (ob rT ob0))) (by kernel_rfl)
 · rcases Bool.eq_false_or_eq_true (decide (o < 0)) with d4 | d4
   · have oz := q2 d1 d4
     subst oz; exact zaa [(300005, .loop (zbR b o cs rs ns 0) (.exit 0) (Nm [1, 2, 3] [.ptr (.loc 1) 0, .junk, .dat (I cs.length)] [Yb b o cs rs ns, none, none] [] [])), (300011, .loop (zdc b o cs rs ns 0) .ret (Nm [2] [.dat (B false)] [none] [] [])), (28, .ret [.dat (B g28)]), (200013, .no), (200018, .yes)] (ob d1 (ob rF (ob rF (ob d4 (ob rT (ob rT (ob rT ob0))))))) (by kernel_rfl)
   · rcases Bool.eq_false_or_eq_true (decide ((cs.length : Int) < o)) with d8 | d8
     · have oz := q3 d1 d4 d8
       subst oz; exact zaa [(300005, .loop (zbR b o cs rs ns 0) (.exit 0) (Nm [1, 2, 3] [.ptr (.loc 1) 0, .junk, .dat (I cs.length)] [Yb b o cs rs ns, none, none] [] [])), (300011, .loop (zdc b o cs rs ns 0) .ret (Nm [2] [.dat (B false)] [none] [] [])), (28, .ret [.dat (B g28)]), (200013, .no), (200018, .no), (200024, .yes)] (ob d1 (ob rF (ob rF (ob d4 (ob rF (ob rF (ob rF (ob d8 (ob rT (ob rT (ob rT (ob rT ob0)))))))))))) (by kernel_rfl)
     · rcases Bool.eq_false_or_eq_true ((!g28)) with d14 | d14
       · obtain ⟨hz1, oz⟩ := q4 d1 d4 d8 d14
         subst oz; exact zaa [(300005, .loop (zbR b o cs rs ns 0) (.exit 0) (Nm [1, 2, 3] [.ptr (.loc 1) 0, .junk, .dat (I cs.length)] [Yb b o cs rs ns, none, none] [] [])), (300011, .loop (zdc b o cs rs ns 0) .ret (Nm [2] [.dat (B false)] [none] [] [])), (28, .ret [.dat (B g28)]), (200013, .no), (200018, .no), (200024, .no), (200030, .yes)] (ob d1 (ob rF (ob rF (ob d4 (ob rF (ob rF (ob rF (ob d8 (ob rF (ob rF (ob rF (ob hz1 (ob rF (ob d14 ob0)))))))))))))) (by kernel_rfl)
       · obtain ⟨hz1, hz2, hz3, oz⟩ := q5 d1 d4 d8 d14
         subst oz; exact zaa [(300005, .loop (zbR b o cs rs ns 0) (.exit 0) (Nm [1, 2, 3] [.ptr (.loc 1) 0, .junk, .dat (I cs.length)] [Yb b o cs rs ns, none, none] [] [])), (300011, .loop (zdc b o cs rs ns 0) .ret (Nm [2] [.dat (B false)] [none] [] [])), (28, .ret [.dat (B g28)]), (200013, .no), (200018, .no), (200024, .no), (200030, .no)] (ob d1 (ob rF (ob rF (ob d4 (ob rF (ob rF (ob rF (ob d8 (ob rF (ob rF (ob rF (ob hz1 (ob rF (ob d14 (ob (rfl : _ = zbR b o cs rs ns 0) (ob hz2 (ob (rfl : _ = zdc b o cs rs ns 0) (ob hz3 ob0)))))))))))))))))) (by kernel_rfl)
theorem zpQ (kk : Nat) (b : Bool) (o : Int) (cs rs ns : List Dat) (g28 : Bool) {r : Res} (q1 : (tT (200 < (cs.length : Int))) → r = ([D.dat (B false)], [], [])) (q2 : (tF (200 < (cs.length : Int))) → (tT (o < 0)) → r = ([D.dat (B false)], [], [])) (q3 : (tF (200 < (cs.length : Int))) → (tF (o < 0)) → (tT ((cs.length : Int) < o)) → r = ([D.dat (B false)], [], [])) (q4 : (tF (200 < (cs.length : Int))) → (tF (o < 0)) → (tF ((cs.length : Int) < o)) → ((!g28) = true) → (fD kk 64 [D.dat (Dat.lst b rs), D.dat (I (cs.length : Int))] [D.dat (B g28)]) ∧ r = ([D.dat (B false)], [], [])) (q5 : (tF (200 < (cs.length : Int))) → (tF (o < 0)) → (tF ((cs.length : Int) < o)) → ((!g28) = false) → (fD kk 64 [D.dat (Dat.lst b rs), D.dat (I (cs.length : Int))] [D.dat (B g28)]) ∧ (zai cfg kk 33 Tryd.f33 5 (zbR b o cs rs ns 0) (X.exit 0) (Nm [1, 2, 3] [D.ptr (Ref.loc 1) 0, D.junk, D.dat (I (cs.length : Int))] [some (fB b o cs rs ns), none, none] [] [])) ∧ (zai cfg kk 33 Tryd.f33 11 (zdc b o cs rs ns 0) (X.exit 2) (Nm [2] [D.junk] [none] [] [])) ∧ r = ([D.dat (B true)], [], [])) : zak cfg kk (den cfg kk) 33 Tryd.f33 [.dat (Yd b o cs rs ns)] [] [] = some r := by
 rcases Bool.eq_false_or_eq_true (decide (200 < (cs.length : Int))) with d1 | d1
 · have oz := q1 d1
   subst oz; exact zaa [(300005, .loop (zbR b o cs rs ns 0) (.exit 0) (Nm [1, 2, 3] [.ptr (.loc 1) 0, .junk, .dat (I cs.length)] [Yb b o cs rs ns, none, none] [] [])), (300011, .loop (zdc b o cs rs ns 0) (.exit 2) (Nm [2] [.junk] [none] [] [])), (28, .ret [.dat (B g28)]), (200013, .yes)] (ob d1 (ob rT (ob rT ob0))) (by kernel_rfl)
 · rcases Bool.eq_false_or_eq_true (decide (o < 0)) with d4 | d4
   · have oz := q2 d1 d4
     subst oz; exact zaa [(300005, .loop (zbR b o cs rs ns 0) (.exit 0) (Nm [1, 2, 3] [.ptr (.loc 1) 0, .junk, .dat (I cs.length)] [Yb b o cs rs ns, none, none] [] [])), (300011, .loop (zdc b o cs rs ns 0) (.exit 2) (Nm [2] [.junk] [none] [] [])), (28, .ret [.dat (B g28)]), (200013, .no), (200018, .yes)] (ob d1 (ob rF (ob rF (ob d4 (ob rT (ob rT (ob rT ob0))))))) (by kernel_rfl)
   · rcases Bool.eq_false_or_eq_true (decide ((cs.length : Int) < o)) with d8 | d8
     · have oz := q3 d1 d4 d8
       subst oz; exact zaa [(300005, .loop (zbR b o cs rs ns 0) (.exit 0) (Nm [1, 2, 3] [.ptr (.loc 1) 0, .junk, .dat (I cs.length)] [Yb b o cs rs ns, none, none] [] [])), (300011, .loop (zdc b o cs rs ns 0) (.exit 2) (Nm [2] [.junk] [none] [] [])), (28, .ret [.dat (B g28)]), (200013, .no), (200018, .no), (200024, .yes)] (ob d1 (ob rF (ob rF (ob d4 (ob rF (ob rF (ob rF (ob d8 (ob rT (ob rT (ob rT (ob rT ob0)))))))))))) (by kernel_rfl)
     · rcases Bool.eq_false_or_eq_true ((!g28)) with d14 | d14
       · obtain ⟨hz1, oz⟩ := q4 d1 d4 d8 d14
         subst oz; exact zaa [(300005, .loop (zbR b o cs rs ns 0) (.exit 0) (Nm [1, 2, 3] [.ptr (.loc 1) 0, .junk, .dat (I cs.length)] [Yb b o cs rs ns, none, none] [] [])), (300011, .loop (zdc b o cs rs ns 0) (.exit 2) (Nm [2] [.junk] [none] [] [])), (28, .ret [.dat (B g28)]), (200013, .no), (200018, .no), (200024, .no), (200030, .yes)] (ob d1 (ob rF (ob rF (ob d4 (ob rF (ob rF (ob rF (ob d8 (ob rF (ob rF (ob rF (ob hz1 (ob rF (ob d14 ob0)))))))))))))) (by kernel_rfl)
       · obtain ⟨hz1, hz2, hz3, oz⟩ := q5 d1 d4 d8 d14
         subst oz; exact zaa [(300005, .loop (zbR b o cs rs ns 0) (.exit 0) (Nm [1, 2, 3] [.ptr (.loc 1) 0, .junk, .dat (I cs.length)] [Yb b o cs rs ns, none, none] [] [])), (300011, .loop (zdc b o cs rs ns 0) (.exit 2) (Nm [2] [.junk] [none] [] [])), (28, .ret [.dat (B g28)]), (200013, .no), (200018, .no), (200024, .no), (200030, .no)] (ob d1 (ob rF (ob rF (ob d4 (ob rF (ob rF (ob rF (ob d8 (ob rF (ob rF (ob rF (ob hz1 (ob rF (ob d14 (ob (rfl : _ = zbR b o cs rs ns 0) (ob hz2 (ob (rfl : _ = zdc b o cs rs ns 0) (ob hz3 ob0)))))))))))))))))) (by kernel_rfl)
theorem zp6 (kk : Nat) (b : Bool) (cs : List Dat) (at_ deep : Int) (c10 : Cl) (s16 : ByteArray) (s24 : ByteArray) (s32 : ByteArray) {r : Res} (q1 : (c10.l = true) → ((0 ≤ at_ ∧ at_ < (cs.length : Int)) ∧ cs[at_.toNat]? = some (fE c10.l c10.n c10.a c10.b)) ∧ (fD kk 72 [D.dat (I c10.n)] [D.dat (Dat.val (Value.string s16))]) ∧ r = ([D.dat (Dat.val (Value.string s16))], [], [])) (q2 : (c10.l = false) → (tT (deep = 0)) → ((0 ≤ at_ ∧ at_ < (cs.length : Int)) ∧ cs[at_.toNat]? = some (fE c10.l c10.n c10.a c10.b)) ∧ r = ([D.dat (Dat.val (Value.string (ByteArray.mk #[42])))], [], [])) (q3 : (c10.l = false) → (tF (deep = 0)) → ((0 ≤ at_ ∧ at_ < (cs.length : Int)) ∧ cs[at_.toNat]? = some (fE c10.l c10.n c10.a c10.b)) ∧ (fD kk 40 [D.dat (Dat.lst b cs), D.dat (I c10.a), D.dat (I (w64 (deep - 1)))] [D.dat (Dat.val (Value.string s24))]) ∧ (1 + s24.size ≤ 9223372036854775807) ∧ ((ByteArray.mk #[40] ++ s24).size + 1 ≤ 9223372036854775807) ∧ (fD kk 40 [D.dat (Dat.lst b cs), D.dat (I c10.b), D.dat (I (w64 (deep - 1)))] [D.dat (Dat.val (Value.string s32))]) ∧ ((ByteArray.mk #[40] ++ s24 ++ ByteArray.mk #[32]).size + s32.size ≤ 9223372036854775807) ∧ ((ByteArray.mk #[40] ++ s24 ++ ByteArray.mk #[32] ++ s32).size + 1 ≤ 9223372036854775807) ∧ r = ([D.dat (Dat.val (Value.string (ByteArray.mk #[40] ++ s24 ++ ByteArray.mk #[32] ++ s32 ++ ByteArray.mk #[41])))], [], [])) : zak cfg kk (den cfg kk) 40 Tryd.f40 [.dat (Dat.lst b cs), .dat (I at_), .dat (I deep)] [] [] = some r := by
 rcases Bool.eq_false_or_eq_true (c10.l) with d2 | d2
 · obtain ⟨hz1, hz2, oz⟩ := q1 d2
   subst oz; exact zaa [(10, .at (c10.d)), (16, .ret [.dat (S s16)]), (24, .ret [.dat (S s24)]), (25, .ok), (26, .ok), (32, .ret [.dat (S s32)]), (33, .ok), (34, .ok), (200013, .yes)] (ob hz1 (ob d2 (ob hz2 ob0))) (by kernel_rfl)
 · rcases Bool.eq_false_or_eq_true (decide (deep = 0)) with d3 | d3
   · obtain ⟨hz1, oz⟩ := q2 d2 d3
     subst oz; exact zaa [(10, .at (c10.d)), (16, .ret [.dat (S s16)]), (24, .ret [.dat (S s24)]), (25, .ok), (26, .ok), (32, .ret [.dat (S s32)]), (33, .ok), (34, .ok), (200013, .no), (200018, .yes)] (ob hz1 (ob d2 (ob d3 ob0))) (by kernel_rfl)
   · obtain ⟨hz1, hz2, hz3, hz4, hz5, hz6, hz7, oz⟩ := q3 d2 d3
     subst oz; exact zaa [(10, .at (c10.d)), (16, .ret [.dat (S s16)]), (24, .ret [.dat (S s24)]), (25, .ok), (26, .ok), (32, .ret [.dat (S s32)]), (33, .ok), (34, .ok), (200013, .no), (200018, .no)] (ob hz1 (ob d2 (ob d3 (ob hz2 (ob hz3 (ob hz4 (ob hz5 (ob hz6 (ob hz7 ob0))))))))) (by kernel_rfl)
theorem zpV (kk : Nat) (b : Bool) (o : Int) (cs rs ns : List Dat) (at_ deep : Int) (c11 : Cl) (s34 : ByteArray) (s18 : ByteArray) (s26 : ByteArray) {r : Res} (q1 : (c11.l = true) → ((0 ≤ at_ ∧ at_ < (cs.length : Int)) ∧ cs[at_.toNat]? = some (fE c11.l c11.n c11.a c11.b)) ∧ (fD kk 74 [D.dat (I c11.n)] [D.dat (Dat.val (Value.string s34))]) ∧ r = ([D.dat (Dat.val (Value.string s34))], [], [])) (q2 : (c11.l = false) → (tT (deep = 0)) → ((0 ≤ at_ ∧ at_ < (cs.length : Int)) ∧ cs[at_.toNat]? = some (fE c11.l c11.n c11.a c11.b)) ∧ r = ([D.dat (Dat.val (Value.string (ByteArray.mk #[42])))], [], [])) (q3 : (c11.l = false) → (tF (deep = 0)) → ((0 ≤ at_ ∧ at_ < (cs.length : Int)) ∧ cs[at_.toNat]? = some (fE c11.l c11.n c11.a c11.b)) ∧ (fD kk 44 [D.dat (fA b o cs rs ns), D.dat (I c11.a), D.dat (I (w64 (deep - 1)))] [D.dat (Dat.val (Value.string s18))]) ∧ (1 + s18.size ≤ 9223372036854775807) ∧ ((ByteArray.mk #[40] ++ s18).size + 1 ≤ 9223372036854775807) ∧ (fD kk 44 [D.dat (fA b o cs rs ns), D.dat (I c11.b), D.dat (I (w64 (deep - 1)))] [D.dat (Dat.val (Value.string s26))]) ∧ ((ByteArray.mk #[40] ++ s18 ++ ByteArray.mk #[32]).size + s26.size ≤ 9223372036854775807) ∧ ((ByteArray.mk #[40] ++ s18 ++ ByteArray.mk #[32] ++ s26).size + 1 ≤ 9223372036854775807) ∧ r = ([D.dat (Dat.val (Value.string (ByteArray.mk #[40] ++ s18 ++ ByteArray.mk #[32] ++ s26 ++ ByteArray.mk #[41])))], [], [])) : zak cfg kk (den cfg kk) 44 Tryd.f44 [.dat (Yd b o cs rs ns), .dat (I at_), .dat (I deep)] [] [] = some r := by
 rcases Bool.eq_false_or_eq_true (c11.l) with d2 | d2
 · obtain ⟨hz1, hz2, oz⟩ := q1 d2
   subst oz; exact zaa [(11, .at (c11.d)), (34, .ret [.dat (S s34)]), (18, .ret [.dat (S s18)]), (19, .ok), (20, .ok), (26, .ret [.dat (S s26)]), (27, .ok), (28, .ok), (200029, .yes)] (ob hz1 (ob d2 (ob hz2 ob0))) (by kernel_rfl)
 · rcases Bool.eq_false_or_eq_true (decide (deep = 0)) with d3 | d3
   · obtain ⟨hz1, oz⟩ := q2 d2 d3
     subst oz; exact zaa [(11, .at (c11.d)), (34, .ret [.dat (S s34)]), (18, .ret [.dat (S s18)]), (19, .ok), (20, .ok), (26, .ret [.dat (S s26)]), (27, .ok), (28, .ok), (200029, .no), (200035, .yes)] (ob hz1 (ob d2 (ob d3 ob0))) (by kernel_rfl)
   · obtain ⟨hz1, hz2, hz3, hz4, hz5, hz6, hz7, oz⟩ := q3 d2 d3
     subst oz; exact zaa [(11, .at (c11.d)), (34, .ret [.dat (S s34)]), (18, .ret [.dat (S s18)]), (19, .ok), (20, .ok), (26, .ret [.dat (S s26)]), (27, .ok), (28, .ok), (200029, .no), (200035, .no)] (ob hz1 (ob d2 (ob d3 (ob hz2 (ob hz3 (ob hz4 (ob hz5 (ob hz6 (ob hz7 ob0))))))))) (by kernel_rfl)
theorem znz (kk : Nat) (b : Bool) (o : Int) (cs rs ns : List Dat) (at_ deep : Int) (g9 : Bool) (g16 : Bool) (s30 : ByteArray) {r : Res} (q1 : ((!g9) = true) → (fD kk 33 [D.dat (fA b o cs rs ns)] [D.dat (B g9)]) ∧ r = ([D.dat (Dat.val (Value.string (ByteArray.mk #[]))), D.dat (B false)], [], [])) (q2 : ((!g9) = false) → ((!g16) = true) → (fD kk 33 [D.dat (fA b o cs rs ns)] [D.dat (B g9)]) ∧ (fD kk 43 [D.dat (I at_), D.dat (I (cs.length : Int))] [D.dat (B g16)]) ∧ r = ([D.dat (Dat.val (Value.string (ByteArray.mk #[]))), D.dat (B false)], [], [])) (q3 : ((!g9) = false) → ((!g16) = false) → (tT (deep < 0)) → (fD kk 33 [D.dat (fA b o cs rs ns)] [D.dat (B g9)]) ∧ (fD kk 43 [D.dat (I at_), D.dat (I (cs.length : Int))] [D.dat (B g16)]) ∧ r = ([D.dat (Dat.val (Value.string (ByteArray.mk #[]))), D.dat (B false)], [], [])) (q4 : ((!g9) = false) → ((!g16) = false) → (tF (deep < 0)) → (tT (10 < deep)) → (fD kk 33 [D.dat (fA b o cs rs ns)] [D.dat (B g9)]) ∧ (fD kk 43 [D.dat (I at_), D.dat (I (cs.length : Int))] [D.dat (B g16)]) ∧ r = ([D.dat (Dat.val (Value.string (ByteArray.mk #[]))), D.dat (B false)], [], [])) (q5 : ((!g9) = false) → ((!g16) = false) → (tF (deep < 0)) → (tF (10 < deep)) → (fD kk 33 [D.dat (fA b o cs rs ns)] [D.dat (B g9)]) ∧ (fD kk 43 [D.dat (I at_), D.dat (I (cs.length : Int))] [D.dat (B g16)]) ∧ (fD kk 44 [D.dat (fA b o cs rs ns), D.dat (I at_), D.dat (I deep)] [D.dat (Dat.val (Value.string s30))]) ∧ r = ([D.dat (Dat.val (Value.string s30)), D.dat (B true)], [], [])) : zak cfg kk (den cfg kk) 14 Tryd.f14 [.dat (Yd b o cs rs ns), .dat (I at_), .dat (I deep)] [] [] = some r := by
 rcases Bool.eq_false_or_eq_true ((!g9)) with d2 | d2
 · obtain ⟨hz1, oz⟩ := q1 d2
   subst oz; exact zaa [(9, .ret [.dat (B g9)]), (16, .ret [.dat (B g16)]), (30, .ret [.dat (S s30)]), (200011, .yes)] (ob hz1 (ob d2 (ob rT (ob rT (ob rT (ob rT (ob rT ob0))))))) (by kernel_rfl)
 · rcases Bool.eq_false_or_eq_true ((!g16)) with d9 | d9
   · obtain ⟨hz1, hz2, oz⟩ := q2 d2 d9
     subst oz; exact zaa [(9, .ret [.dat (B g9)]), (16, .ret [.dat (B g16)]), (30, .ret [.dat (S s30)]), (200011, .no), (200019, .yes)] (ob hz1 (ob d2 (ob rF (ob rF (ob rF (ob rF (ob hz2 (ob rF (ob d9 (ob rT ob0)))))))))) (by kernel_rfl)
   · rcases Bool.eq_false_or_eq_true (decide (deep < 0)) with d11 | d11
     · obtain ⟨hz1, hz2, oz⟩ := q3 d2 d9 d11
       subst oz; exact zaa [(9, .ret [.dat (B g9)]), (16, .ret [.dat (B g16)]), (30, .ret [.dat (S s30)]), (200011, .no), (200019, .no), (200023, .yes)] (ob hz1 (ob d2 (ob rF (ob rF (ob rF (ob rF (ob hz2 (ob rF (ob d9 (ob rF (ob d11 (ob rT ob0)))))))))))) (by kernel_rfl)
     · rcases Bool.eq_false_or_eq_true (decide (10 < deep)) with d13 | d13
       · obtain ⟨hz1, hz2, oz⟩ := q4 d2 d9 d11 d13
         subst oz; exact zaa [(9, .ret [.dat (B g9)]), (16, .ret [.dat (B g16)]), (30, .ret [.dat (S s30)]), (200011, .no), (200019, .no), (200023, .no), (200026, .yes)] (ob hz1 (ob d2 (ob rF (ob rF (ob rF (ob rF (ob hz2 (ob rF (ob d9 (ob rF (ob d11 (ob rF (ob d13 ob0))))))))))))) (by kernel_rfl)
       · obtain ⟨hz1, hz2, hz3, oz⟩ := q5 d2 d9 d11 d13
         subst oz; exact zaa [(9, .ret [.dat (B g9)]), (16, .ret [.dat (B g16)]), (30, .ret [.dat (S s30)]), (200011, .no), (200019, .no), (200023, .no), (200026, .no)] (ob hz1 (ob d2 (ob rF (ob rF (ob rF (ob rF (ob hz2 (ob rF (ob d9 (ob rF (ob d11 (ob rF (ob d13 (ob hz3 ob0)))))))))))))) (by kernel_rfl)
end Go.Den
namespace Go.Den
open Go
set_option linter.unusedVariables false
set_option maxRecDepth 100000
theorem ih {α : Type} {es : List α} {i : Nat} {d : α} (h : es[i]? = some d) : (0 ≤ (i : Int) ∧ (i : Int) < (es.length : Int)) ∧ es[((i : Int)).toNat]? = some d := by
 have hlt := (List.getElem?_eq_some_iff.1 h).1
 refine ⟨⟨by omega, by omega⟩, ?_⟩
 rw [Int.toNat_natCast]
 exact h
theorem gm {α : Type} {L : List α} {f : α → Dat} {i : Nat} {x : α} (h : L[i]? = some x) : (L.map f)[i]? = some (f x) := by rw [List.getElem?_map, h]; rfl
theorem wi (i : Nat) (h : i ≤ 1048576) : w64 ((i : Int) + 1) = ((i + 1 : Nat) : Int) := by rw [za6 (by omega)]; rfl
theorem zaU {α : Type} {L : List α} {i : Nat} (h : i < L.length) : ∃ x, L[i]? = some x := ⟨_, List.getElem?_eq_getElem h⟩
abbrev YD (b : Bool) (o : Int) (cs : List Cl) (rs ns : List Int) : Dat := Yd b o (cs.map Cl.d) (rs.map (I ·)) (ns.map (I ·))
end Go.Den
namespace Go.Den
open Go.Proofs
open Go
set_option linter.unusedVariables false
set_option maxRecDepth 100000
def inB (x lo hi : Int) : Bool := decide (lo ≤ x) && decide (x ≤ hi)
def zac (x hi : Int) : Bool := decide (0 ≤ x) && decide (x < hi)
theorem zhz (x hi : Int) : inB x 0 (hi - 1) = zac x hi := by unfold inB zac; congr 1; rw [decide_eq_decide]; omega
def zbl (n : Int) (c : Cl) : Bool := match c.l with
 | true => decide (c.a = 0) && decide (c.b = 0)
 | false => decide (c.n = 0) && (zac c.a n && zac c.b n)
def zcG (o : Int) (c : Cl) : Bool := !c.l && (decide (o ≤ c.a) || decide (o ≤ c.b))
def hasB (zs : List Int) (x : Int) : Bool := zs.any fun z => decide (z = x)
def chkN (o : Int) (ns : List Int) (i : Nat) : Bool := zac (ns.getD i 0) o && !(decide (0 < i) && decide (ns.getD i 0 ≤ ns.getD (i - 1) 0))
def chkC (cs : List Cl) (o : Int) (ns : List Int) (i : Nat) : Bool := zbl cs.length (cs.getD i ⟨false, 0, 0, 0⟩) && !(decide ((i : Int) < o) && zcG o (cs.getD i ⟨false, 0, 0, 0⟩) && !hasB ns i)
def chkR (n : Int) (rs : List Int) (i : Nat) : Bool := zac (rs.getD i 0) n
def zcY (o : Int) (cs : List Cl) (rs ns : List Int) : Bool :=
 decide (cs.length ≤ 200) && decide (rs.length ≤ 60) && inB o 0 cs.length && (List.range ns.length).all (chkN o ns) && (List.range cs.length).all (chkC cs o ns) && (List.range rs.length).all (chkR cs.length rs)
theorem gd {α : Type} {L : List α} {i : Nat} {x z : α} (h : L[i]? = some x) : L.getD i z = x := by rw [List.getD_eq_getElem?_getD, h]; rfl
theorem zhJ (x lo hi : Int) : EvN 1 39 [.dat (I x), .dat (I lo), .dat (I hi)] [] [] ([.dat (B (inB x lo hi))], [], []) :=
 zaq Tryd.f39 0 (by kernel_rfl) (by kernel_rfl) fun kk _ => l1In kk x lo hi (fun d => by simp only [decide_eq_true_eq] at d; simp [inB, d]) (fun d => by simp only [decide_eq_false_iff_not] at d; simp [inB, d])
theorem zbv (x hi : Int) : EvN 1 43 [.dat (I x), .dat (I hi)] [] [] ([.dat (B (zac x hi))], [], []) :=
 zaq Tryd.f43 0 (by kernel_rfl) (by kernel_rfl) fun kk _ => zpD kk x hi (fun d => by simp only [decide_eq_true_eq] at d; simp [zac, d]) (fun d => by simp only [decide_eq_false_iff_not] at d; simp [zac, d])
theorem ziR {zs : List Int} {x : Int} (p : Int → Bool) : zs.any p = !(List.range zs.length).all fun i => !p (zs.getD i 0) := by
 rw [← List.not_any_eq_all_not]
 simp only [Bool.not_not, List.any_eq, List.mem_range]
 rw [decide_eq_decide]
 constructor
 · rintro ⟨z, hz, hp⟩
   obtain ⟨i, hi, rfl⟩ := List.mem_iff_getElem.1 hz
   exact ⟨i, hi, by simpa [List.getD_eq_getElem?_getD, hi] using hp⟩
 · rintro ⟨i, hi, hp⟩
   exact ⟨zs[i], List.getElem_mem hi, by simpa [List.getD_eq_getElem?_getD, hi] using hp⟩
theorem zkK (b : Bool) (zs : List Int) (x : Int) (h : zs.length ≤ 1048576) : EvN 1048580 71 [.dat (.lst b (zs.map (I ·))), .dat (I x)] [] [] ([.dat (B (hasB zs x))], [], []) := by
 refine zaq Tryd.f71 1048579 (by kernel_rfl) (by kernel_rfl) fun kk hkk => ?_
 have hlen : (zs.map (I ·)).length = zs.length := by simp
 obtain ⟨h1, h2⟩ := zbV (kk := kk) (f := 71) (fn := Tryd.f71) (r := 2) (x1 := .exit 0) (x2 := .ret) (s1 := Nm [4] [.junk] [none] [] []) (s2 := Nm [4] [.dat (B true)] [none] [] []) (s0 := hd71 b (zs.map (I ·)) x 0) (fun i => hd71 b (zs.map (I ·)) x i) (fun i => !decide (zs.getD i 0 = x)) zs.length (by omega) (fun i hi _ m s K hs hgo hbad => by
  obtain ⟨z, hz⟩ := zaU hi
  have hzd := ih (gm (f := (I ·)) hz)
  refine zmQ kk m b _ x i z hs (fun _ d => ⟨hzd, hbad ?_⟩) (fun _ d => ⟨hzd, fun s' hs' => hgo ?_ s' ?_⟩) (fun d => absurd (of_decide_eq_false d) (by omega))
  · rw [gd hz, d]; rfl
  · rw [gd hz, d]; rfl
  · rw [hs', wi i (by omega)]; rfl) (fun _ m s K hs hK => zmQ kk m b _ x _ 0 hs (fun d => absurd (of_decide_eq_true d) (by omega)) (fun d => absurd (of_decide_eq_true d) (by omega)) (fun _ => hK)) rfl
 have ha : hasB zs x = _ := ziR (x := x) fun z => decide (z = x)
 rw [ha]
 cases hall : (List.range zs.length).all fun i => !decide (zs.getD i 0 = x) with
 | true => exact zpj kk b _ x ⟨h1 hall, rfl⟩
 | false => exact zpH kk b _ x ⟨h2 hall, rfl⟩
theorem zfp (b : Bool) (zs : List Int) (x : Int) (h : zs.length ≤ 1048576) : EvN 1048581 67 [.dat (.lst b (zs.map (I ·))), .dat (I x)] [] [] ([.dat (B (hasB zs x))], [], []) := by
 have hlen : (zs.map (I ·)).length = zs.length := by simp
 have key : ∃ j : Int, EvN 1048580 89 [.dat (.lst b (zs.map (I ·))), .dat (I x)] [] [] ([.dat (I j)], [], []) ∧ decide (0 ≤ j) = hasB zs x := by
  have lp := fun kk (hkk : 1048579 ≤ kk) => zcU (kk := kk) (f := 89) (fn := Tryd.f89) (r := 2) (x1 := .exit 0) (x2 := .ret) (s1 := Nm [4] [.junk] [none] [] []) (s2 := fun i => Nm [4] [.dat (I i)] [none] [] []) (s0 := hd89 b (zs.map (I ·)) x 0) (fun i => hd89 b (zs.map (I ·)) x i) (fun i => !decide (zs.getD i 0 = x)) zs.length (by omega) (fun i hi _ m s K hs hgo hbad => by
   obtain ⟨z, hz⟩ := zaU hi
   have hzd := ih (gm (f := (I ·)) hz)
   refine zmR kk m b _ x i z hs (fun _ d => ⟨hzd, hbad ?_⟩) (fun _ d => ⟨hzd, fun s' hs' => hgo ?_ s' ?_⟩) (fun d => absurd (of_decide_eq_false d) (by omega))
   · rw [gd hz]; simp only [decide_eq_true_eq] at d; simp [d]
   · rw [gd hz]; simp only [decide_eq_false_iff_not] at d; simp [Ne.symm d]
   · rw [hs', wi i (by omega)]; rfl) (fun _ m s K hs hK => zmR kk m b _ x _ 0 hs (fun d => absurd (of_decide_eq_true d) (by omega)) (fun d => absurd (of_decide_eq_true d) (by omega)) (fun _ => hK)) rfl
  have ha : hasB zs x = _ := ziR (x := x) fun z => decide (z = x)
  rw [ha]
  cases hall : (List.range zs.length).all fun i => !decide (zs.getD i 0 = x) with
  | true => exact ⟨-1, zaq Tryd.f89 1048579 (by kernel_rfl) (by kernel_rfl) fun kk hkk => zpB kk b _ x ⟨(lp kk hkk).1 hall, rfl⟩, rfl⟩
  | false =>
    obtain ⟨j, q, h3, h4, h5⟩ := zd3 _ hall
    have hj : j < zs.length := by
     have := (List.getElem?_eq_some_iff.1 h3).1
     simpa using this
    rw [List.getElem?_range hj] at h3
    cases h3
    exact ⟨j, zaq Tryd.f89 1048579 (by kernel_rfl) (by kernel_rfl) fun kk hkk => zpK kk b _ x j ⟨(lp kk hkk).2 j hj (fun i hi => h5 i i hi (List.getElem?_range (by omega))) h4, rfl⟩, by simp⟩
 obtain ⟨j, h1, h2⟩ := key
 exact zaq Tryd.f67 1048580 (by kernel_rfl) (by kernel_rfl) fun kk hkk => contains kk b _ x j ⟨h1 kk (by omega), by rw [← h2]⟩
theorem zoe (b : Bool) (zs : List Int) (hi : Int) (h : zs.length ≤ 1048576) : EvN 1048590 87 [.dat (.lst b (zs.map (I ·))), .fn 88 [.up 0]] [[.dat (I hi)]] [] ([.dat (B (!(List.range zs.length).all (chkR hi zs)))], [[.dat (I hi)]], []) := by
 have hlen : (zs.map (I ·)).length = zs.length := by simp
 have hr : ∀ x : Int, EvN 3 88 [.dat (I x), .ptr (.up 0) 0] [[.dat (I hi)]] [] ([.dat (B (!zac x hi))], [[.dat (I hi)]], []) := fun x =>
  zaq Tryd.f88 2 (by kernel_rfl) (by kernel_rfl) fun kk hkk => root1 kk x hi _ ⟨zbv x hi kk (by omega), rfl⟩
 have key : ∃ j : Int, EvN 1048585 119 [.dat (.lst b (zs.map (I ·))), .fn 88 [.up 0]] [[.dat (I hi)]] [] ([.dat (I j)], [[.dat (I hi)]], []) ∧ decide (0 ≤ j) = !(List.range zs.length).all (chkR hi zs) := by
  have lp := fun kk (hkk : 1048579 ≤ kk) => zcU (kk := kk) (f := 119) (fn := Tryd.f119) (r := 2) (x1 := .exit 0) (x2 := .ret) (s1 := Nm [4] [.junk] [none] [[.dat (I hi)]] []) (s2 := fun i => Nm [4] [.dat (I i)] [none] [[.dat (I hi)]] []) (s0 := zhi b (zs.map (I ·)) hi 0) (fun i => zhi b (zs.map (I ·)) hi i) (chkR hi zs) zs.length (by omega) (fun i hlt _ m s K hs hgo hbad => by
   obtain ⟨z, hz⟩ := zaU hlt
   have hzd := ih (gm (f := (I ·)) hz)
   have hc : chkR hi zs i = zac z hi := by unfold chkR; rw [gd hz]
   refine zkQ kk m b _ hi i (!zac z hi) z hs (fun _ d => ⟨hzd, hr z kk (by omega), hbad ?_⟩) (fun _ d => ⟨hzd, hr z kk (by omega), fun s' hs' => hgo ?_ s' ?_⟩) (fun d => absurd (of_decide_eq_false d) (by omega))
   · rw [hc]; simpa using d
   · rw [hc]; simpa using d
   · rw [hs', wi i (by omega)]; rfl) (fun _ m s K hs hK => zkQ kk m b _ hi _ true 0 hs (fun d => absurd (of_decide_eq_true d) (by omega)) (fun d => absurd (of_decide_eq_true d) (by omega)) (fun _ => hK)) rfl
  cases hall : (List.range zs.length).all (chkR hi zs) with
  | true => exact ⟨-1, zaq Tryd.f119 1048584 (by kernel_rfl) (by kernel_rfl) fun kk hkk => znH kk b _ hi ⟨(lp kk (by omega)).1 hall, rfl⟩, rfl⟩
  | false =>
    obtain ⟨j, q, h3, h4, h5⟩ := zd3 _ hall
    have hj : j < zs.length := by
     have := (List.getElem?_eq_some_iff.1 h3).1
     simpa using this
    rw [List.getElem?_range hj] at h3
    cases h3
    exact ⟨j, zaq Tryd.f119 1048584 (by kernel_rfl) (by kernel_rfl) fun kk hkk => zox kk b _ hi j ⟨(lp kk (by omega)).2 j hj (fun i hi => h5 i i hi (List.getElem?_range (by omega))) h4, rfl⟩, by simp⟩
 obtain ⟨j, h1, h2⟩ := key
 exact zaq Tryd.f87 1048589 (by kernel_rfl) (by kernel_rfl) fun kk hkk => zmj kk b _ hi j ⟨h1 kk (by omega), by rw [← h2]⟩
theorem zjr (b : Bool) (zs : List Int) (hi : Int) (h : zs.length ≤ 1048576) : EvN 1048600 64 [.dat (.lst b (zs.map (I ·))), .dat (I hi)] [] [] ([.dat (B (decide (zs.length ≤ 60) && (List.range zs.length).all (chkR hi zs)))], [], []) := by
 have hlen : (zs.map (I ·)).length = zs.length := by simp
 refine zaq Tryd.f64 1048599 (by kernel_rfl) (by kernel_rfl) fun kk hkk => zoy kk b _ hi _ (fun d => ⟨zoe b zs hi h kk (by omega), ?_⟩) (fun d => ?_)
 · rw [hlen] at d
   have : zs.length ≤ 60 := by have := of_decide_eq_true d; omega
   simp [this]
 · rw [hlen] at d
   have : ¬ zs.length ≤ 60 := by have := of_decide_eq_false d; omega
   simp [this]
theorem zlQ (c : Cl) (hi : Int) : EvN 2 65 [.dat c.d, .dat (I hi)] [] [] ([.dat (B (zbl hi c))], [], []) := by
 refine zaq Tryd.f65 1 (by kernel_rfl) (by kernel_rfl) fun kk hkk => ?_
 have h1 := zbv c.a hi kk (by omega)
 have h2 := zbv c.b hi kk (by omega)
 refine zpF kk c hi (zac c.a hi) (zac c.b hi) (fun d1 d2 => ?_) (fun d1 d2 => ?_) (fun d1 d2 d3 => ⟨h1, h2, ?_⟩) (fun d1 d2 d3 => ⟨h1, ?_⟩) (fun d1 d2 => ?_) <;> (clear h1 h2; unfold zbl; rw [d1]; simp_all)
theorem zn9 (b : Bool) (o : Int) (cs rs ns : List Dat) (c : Cl) : EvN 1 66 [.dat (Yd b o cs rs ns), .dat c.d] [] [] ([.dat (B (zcG o c))], [], []) := by
 refine zaq Tryd.f66 0 (by kernel_rfl) (by kernel_rfl) fun kk hkk => names kk b o cs rs ns c (fun d1 d2 => ?_) (fun d1 d2 => ?_) (fun d1 => ?_) <;> simp_all [zcG] <;> omega
theorem zhE (b : Bool) (o : Int) (cs : List Cl) (rs ns : List Int) (h : cs.length + rs.length + ns.length ≤ 1048576) : EvN 1048610 33 [.dat (YD b o cs rs ns)] [] [] ([.dat (B (zcY o cs rs ns))], [], []) := by
 refine zaq Tryd.f33 1048609 (by kernel_rfl) (by kernel_rfl) fun kk hkk => ?_
 have hlc : (cs.map Cl.d).length = cs.length := by simp
 have hln : (ns.map (I ·)).length = ns.length := by simp
 have hlr : (rs.map (I ·)).length = rs.length := by simp
 have hroots := zjr b rs cs.length (by omega) kk (by omega)
 rw [← hlc] at hroots
 have la := zbV (kk := kk) (f := 33) (fn := Tryd.f33) (r := 5) (x1 := .exit 0) (x2 := .ret) (s1 := Nm [1, 2, 3] [.ptr (.loc 1) 0, .junk, .dat (I (cs.map Cl.d).length)] [Yb b o (cs.map Cl.d) (rs.map (I ·)) (ns.map (I ·)), none, none] [] []) (s2 := Nm [1, 2, 3] [.ptr (.loc 1) 0, .dat (B false), .dat (I (cs.map Cl.d).length)] [Yb b o (cs.map Cl.d) (rs.map (I ·)) (ns.map (I ·)), none, none] [] []) (s0 := zbR b o (cs.map Cl.d) (rs.map (I ·)) (ns.map (I ·)) 0) (fun i => zbR b o (cs.map Cl.d) (rs.map (I ·)) (ns.map (I ·)) i) (chkN o ns) ns.length (by omega) (fun i hi _ m s K hs hgo hbad => by
  obtain ⟨z, hz⟩ := zaU hi
  have hzd := ih (gm (f := (I ·)) hz)
  have hb := zbv z o kk (by omega)
  have hc : chkN o ns i = (zac z o && !(decide (0 < i) && decide (z ≤ ns.getD (i - 1) 0))) := by unfold chkN; rw [gd hz]
  have hp : 0 < i → (0 ≤ w64 ((i : Int) - 1) ∧ w64 ((i : Int) - 1) < ((ns.map (I ·)).length : Int)) ∧ (ns.map (I ·))[(w64 ((i : Int) - 1)).toNat]? = some (I (ns.getD (i - 1) 0)) := fun h0 => by
   have e : w64 ((i : Int) - 1) = ((i - 1 : Nat) : Int) := by rw [za6 (by omega)]; omega
   rw [e]
   obtain ⟨y, hy⟩ := zaU (L := ns) (i := i - 1) (by omega)
   rw [gd hy]
   exact ih (gm (f := (I ·)) hy)
  refine zm1 kk m b o _ _ _ i z (zac z o) (ns.getD (i - 1) 0) hs (fun _ d => ⟨hzd, hb, hbad ?_⟩) (fun _ d d2 d3 => ⟨hzd, hb, hp ?_, hbad ?_⟩) (fun _ d d2 d3 => ⟨hzd, hb, hp ?_, fun s' hs' => hgo ?_ s' ?_⟩) (fun _ d d2 => ⟨hzd, hb, fun s' hs' => hgo ?_ s' ?_⟩) (fun d => absurd (of_decide_eq_false d) (by omega)) <;> first | (rw [hs', wi i (by omega)]; rfl) | (have := of_decide_eq_true d2; omega) | skip
  · rw [hc]; simp only [Bool.not_eq_true'] at d; rw [d]; rfl
  · have : 0 < i := by have := of_decide_eq_true d2; omega
    rw [hc, d3]; simp [this]
  · simp only [Bool.not_eq_false'] at d
    rw [hc, d, d3]; simp
  · have : ¬ 0 < i := by have := of_decide_eq_false d2; omega
    simp only [Bool.not_eq_false'] at d
    rw [hc, d]; simp [this]) (fun _ m s K hs hK => zm1 kk m b o _ _ _ _ 0 true 0 hs (fun d => absurd (of_decide_eq_true d) (by omega)) (fun d => absurd (of_decide_eq_true d) (by omega)) (fun d => absurd (of_decide_eq_true d) (by omega)) (fun d => absurd (of_decide_eq_true d) (by omega)) (fun _ => hK)) rfl
 have lb := zbV (kk := kk) (f := 33) (fn := Tryd.f33) (r := 11) (x1 := .exit 2) (x2 := .ret) (s1 := Nm [2] [.junk] [none] [] []) (s2 := Nm [2] [.dat (B false)] [none] [] []) (s0 := zdc b o (cs.map Cl.d) (rs.map (I ·)) (ns.map (I ·)) 0) (fun i => zdc b o (cs.map Cl.d) (rs.map (I ·)) (ns.map (I ·)) i) (chkC cs o ns) cs.length (by omega) (fun i hi _ m s K hs hgo hbad => by
  obtain ⟨c, hz⟩ := zaU hi
  have hzd := ih (gm (f := Cl.d) hz)
  have h1 := zlQ c ((cs.map Cl.d).length : Int) kk (by omega)
  have h2 := zn9 b o (cs.map Cl.d) (rs.map (I ·)) (ns.map (I ·)) c kk (by omega)
  have h3 := zfp b ns i (by omega) kk (by omega)
  have hc : chkC cs o ns i = (zbl (cs.map Cl.d).length c && !(decide ((i : Int) < o) && zcG o c && !hasB ns i)) := by unfold chkC; rw [gd hz, hlc]
  refine zmi kk m b o _ _ _ i c (zbl (cs.map Cl.d).length c) (zcG o c) (hasB ns i) hs (fun _ d => ⟨hzd, h1, hbad ?_⟩) (fun _ d d2 d3 d4 => ⟨hzd, h1, h2, h3, hbad ?_⟩) (fun _ d d2 d3 d4 => ⟨hzd, h1, h2, h3, fun s' hs' => hgo ?_ s' ?_⟩) (fun _ d d2 d3 => ⟨hzd, h1, h2, fun s' hs' => hgo ?_ s' ?_⟩) (fun _ d d2 => ⟨hzd, h1, fun s' hs' => hgo ?_ s' ?_⟩) (fun d => absurd (of_decide_eq_false d) (by omega)) <;> first | (rw [hs', wi i (by omega)]; rfl) | skip
  · rw [hc]; clear h1 h2 h3 hs hgo hbad; simp_all
  · rw [hc]; clear h1 h2 h3 hs hgo hbad; simp_all
  · rw [hc]; clear h1 h2 h3 hs hgo hbad hs'; simp_all
  · rw [hc]; clear h1 h2 h3 hs hgo hbad hs'; simp_all
  · rw [hc]; clear h1 h2 h3 hs hgo hbad hs'; simp_all) (fun _ m s K hs hK => zmi kk m b o _ _ _ _ ⟨false, 0, 0, 0⟩ true true true hs (fun d => absurd (of_decide_eq_true d) (by omega)) (fun d => absurd (of_decide_eq_true d) (by omega)) (fun d => absurd (of_decide_eq_true d) (by omega)) (fun d => absurd (of_decide_eq_true d) (by omega)) (fun d => absurd (of_decide_eq_true d) (by omega)) (fun _ => hK)) rfl
 have hres : zcY o cs rs ns = (!decide (200 < ((cs.map Cl.d).length : Int)) && !decide (o < 0) && !decide (((cs.map Cl.d).length : Int) < o) && (decide (rs.length ≤ 60) && (List.range rs.length).all (chkR ((cs.map Cl.d).length : Int) rs)) && (List.range ns.length).all (chkN o ns) && (List.range cs.length).all (chkC cs o ns)) := by
  unfold zcY inB
  rw [hlc]
  have e1 : (!decide (200 < (cs.length : Int))) = decide (cs.length ≤ 200) := by rw [← decide_not, decide_eq_decide]; omega
  have e2 : (!decide (o < 0)) = decide (0 ≤ o) := by rw [← decide_not, decide_eq_decide]; omega
  have e3 : (!decide ((cs.length : Int) < o)) = decide (o ≤ (cs.length : Int)) := by rw [← decide_not, decide_eq_decide]; omega
  rw [e1, e2, e3]
  generalize (List.range ns.length).all (chkN o ns) = x1
  generalize (List.range cs.length).all (chkC cs o ns) = x2
  generalize (List.range rs.length).all (chkR (cs.length : Int) rs) = x3
  generalize decide (cs.length ≤ 200) = x4
  generalize decide (rs.length ≤ 60) = x5
  generalize decide (0 ≤ o) = x6
  generalize decide (o ≤ (cs.length : Int)) = x7
  revert x1 x2 x3 x4 x5 x6 x7
  decide
 rw [hres]
 clear hres
 generalize (decide (rs.length ≤ 60) && (List.range rs.length).all (chkR ((cs.map Cl.d).length : Int) rs)) = gr at *
 cases ha : (List.range ns.length).all (chkN o ns) with
 | false => exact zpG kk b o _ _ _ gr (fun d => by rw [d]; rfl) (fun d1 d2 => by rw [d1, d2]; rfl) (fun d1 d2 d3 => by rw [d1, d2, d3]; rfl) (fun d1 d2 d3 d4 => ⟨hroots, by rw [d1, d2, d3]; cases gr <;> first | rfl | cases d4⟩) (fun d1 d2 d3 d4 => ⟨hroots, la.2 ha, by rw [Bool.and_false]; rfl⟩)
 | true =>
   cases hb : (List.range cs.length).all (chkC cs o ns) with
   | false => exact zpb kk b o _ _ _ gr (fun d => by rw [d]; rfl) (fun d1 d2 => by rw [d1, d2]; rfl) (fun d1 d2 d3 => by rw [d1, d2, d3]; rfl) (fun d1 d2 d3 d4 => ⟨hroots, by rw [d1, d2, d3]; cases gr <;> first | rfl | cases d4⟩) (fun d1 d2 d3 d4 => ⟨hroots, la.1 ha, lb.2 hb, by rw [Bool.and_false]⟩)
   | true => exact zpQ kk b o _ _ _ gr (fun d => by rw [d]; rfl) (fun d1 d2 => by rw [d1, d2]; rfl) (fun d1 d2 d3 => by rw [d1, d2, d3]; rfl) (fun d1 d2 d3 d4 => ⟨hroots, by rw [d1, d2, d3]; cases gr <;> first | rfl | cases d4⟩) (fun d1 d2 d3 d4 => ⟨hroots, la.1 ha, lb.1 hb, by rw [d1, d2, d3]; cases gr <;> first | rfl | cases d4⟩)
theorem zoE (b : Bool) (o : Int) (cs : List Cl) (rs ns : List Int) (h : cs.length + rs.length + ns.length ≤ 1048576) (ho : -9223372036854775808 ≤ o ∧ o ≤ 9223372036854775807) : EvN 1048610 38 [.dat (YD b o cs rs ns)] [] [] ([.dat (B (zcY o cs rs ns))], [], []) := by
 refine zaq Tryd.f38 1048609 (by kernel_rfl) (by kernel_rfl) fun kk hkk => ?_
 have hlc : (cs.map Cl.d).length = cs.length := by simp
 have hln : (ns.map (I ·)).length = ns.length := by simp
 have hlr : (rs.map (I ·)).length = rs.length := by simp
 have h25 := zhJ o 0 ((cs.map Cl.d).length : Int) kk (by omega)
 have hin : ∀ (x n : Int), -9223372036854775808 < n → n ≤ 9223372036854775807 → den cfg kk 39 [.dat (I x), .dat (I 0), .dat (I (w64 (n - 1)))] [] [] = some ([.dat (B (zac x n))], [], []) := fun x n h1 h2 => by
  rw [za6 (by omega), ← zhz]
  exact zhJ x 0 (n - 1) kk (by omega)
 have la := fun (ho0 : 0 ≤ o) => zbV (kk := kk) (f := 38) (fn := Tryd.f38) (r := 4) (x1 := .exit 0) (x2 := .ret) (s1 := Nm [1, 2] [.ptr (.loc 1) 0, .junk] [Yb b o (cs.map Cl.d) (rs.map (I ·)) (ns.map (I ·)), none] [] []) (s2 := Nm [1, 2] [.ptr (.loc 1) 0, .dat (B false)] [Yb b o (cs.map Cl.d) (rs.map (I ·)) (ns.map (I ·)), none] [] []) (s0 := zbB b o (cs.map Cl.d) (rs.map (I ·)) (ns.map (I ·)) 0) (fun i => zbB b o (cs.map Cl.d) (rs.map (I ·)) (ns.map (I ·)) i) (chkN o ns) ns.length (by omega) (fun i hi _ m s K hs hgo hbad => by
  obtain ⟨z, hz⟩ := zaU hi
  have hzd := ih (gm (f := (I ·)) hz)
  have hb := hin z o (by omega) (by omega)
  have hc : chkN o ns i = (zac z o && !(decide (0 < i) && decide (z ≤ ns.getD (i - 1) 0))) := by unfold chkN; rw [gd hz]
  have hp : 0 < i → (0 ≤ w64 ((i : Int) - 1) ∧ w64 ((i : Int) - 1) < ((ns.map (I ·)).length : Int)) ∧ (ns.map (I ·))[(w64 ((i : Int) - 1)).toNat]? = some (I (ns.getD (i - 1) 0)) := fun h0 => by
   have e : w64 ((i : Int) - 1) = ((i - 1 : Nat) : Int) := by rw [za6 (by omega)]; omega
   rw [e]
   obtain ⟨y, hy⟩ := zaU (L := ns) (i := i - 1) (by omega)
   rw [gd hy]
   exact ih (gm (f := (I ·)) hy)
  refine zl4 kk m b o _ _ _ i z (zac z o) (ns.getD (i - 1) 0) hs (fun _ d => ⟨hzd, hb, hbad ?_⟩) (fun _ d d2 d3 => ⟨hzd, hb, hp ?_, hbad ?_⟩) (fun _ d d2 d3 => ⟨hzd, hb, hp ?_, fun s' hs' => hgo ?_ s' ?_⟩) (fun _ d d2 => ⟨hzd, hb, fun s' hs' => hgo ?_ s' ?_⟩) (fun d => absurd (of_decide_eq_false d) (by omega)) <;> first | (rw [hs', wi i (by omega)]; rfl) | (have := of_decide_eq_true d2; omega) | skip
  · rw [hc]; simp only [Bool.not_eq_true'] at d; rw [d]; rfl
  · have : 0 < i := by have := of_decide_eq_true d2; omega
    rw [hc, d3]; simp [this]
  · simp only [Bool.not_eq_false'] at d
    rw [hc, d, d3]; simp
  · have : ¬ 0 < i := by have := of_decide_eq_false d2; omega
    simp only [Bool.not_eq_false'] at d
    rw [hc, d]; simp [this]) (fun _ m s K hs hK => zl4 kk m b o _ _ _ _ 0 true 0 hs (fun d => absurd (of_decide_eq_true d) (by omega)) (fun d => absurd (of_decide_eq_true d) (by omega)) (fun d => absurd (of_decide_eq_true d) (by omega)) (fun d => absurd (of_decide_eq_true d) (by omega)) (fun _ => hK)) rfl
 have lb := zbV (kk := kk) (f := 38) (fn := Tryd.f38) (r := 10) (x1 := .exit 2) (x2 := .ret) (s1 := Nm [1, 2] [.ptr (.loc 1) 0, .junk] [Yb b o (cs.map Cl.d) (rs.map (I ·)) (ns.map (I ·)), none] [] []) (s2 := Nm [1, 2] [.ptr (.loc 1) 0, .dat (B false)] [Yb b o (cs.map Cl.d) (rs.map (I ·)) (ns.map (I ·)), none] [] []) (s0 := zb8 b o (cs.map Cl.d) (rs.map (I ·)) (ns.map (I ·)) 0) (fun i => zb8 b o (cs.map Cl.d) (rs.map (I ·)) (ns.map (I ·)) i) (chkC cs o ns) cs.length (by omega) (fun i hi _ m s K hs hgo hbad => by
  obtain ⟨c, hz⟩ := zaU hi
  have hzd := ih (gm (f := Cl.d) hz)
  have h1 := hin c.a ((cs.map Cl.d).length : Int) (by omega) (by omega)
  have h2 := hin c.b ((cs.map Cl.d).length : Int) (by omega) (by omega)
  have h3 := zkK b ns i (by omega) kk (by omega)
  have hc : chkC cs o ns i = (zbl (cs.map Cl.d).length c && !(decide ((i : Int) < o) && zcG o c && !hasB ns i)) := by unfold chkC; rw [gd hz, hlc]
  have hg : ∀ s' : St, s'.norm ((zaL cfg kk 38 Tryd.f38).live (zab (lp Tryd.f38 10))) = zb8 b o (cs.map Cl.d) (rs.map (I ·)) (ns.map (I ·)) (w64 ((i : Int) + 1)) → chkC cs o ns i = true → zat (zaL cfg kk 38 Tryd.f38) kk (lp Tryd.f38 10) m s' K := fun s' hs' hcc => hgo hcc s' (by rw [hs', wi i (by omega)])
  rw [hc] at hg hbad
  clear hgo hc
  refine znr kk m b o _ _ _ i c (zac c.a (cs.map Cl.d).length) (zac c.b (cs.map Cl.d).length) (hasB ns i) hs (fun _ d d2 => ⟨hzd, hbad ?_⟩) (fun _ d d2 d3 => ⟨hzd, hbad ?_⟩) (fun _ d d2 d3 => ⟨hzd, fun s' hs' => hg s' hs' ?_⟩) (fun _ d d2 => ⟨hzd, hbad ?_⟩) (fun _ d d2 d3 => ⟨hzd, h1, hbad ?_⟩) (fun _ d d2 d3 d4 => ⟨hzd, h1, h2, hbad ?_⟩)
   (fun _ d d2 d3 d4 d5 d6 d7 => ⟨hzd, h1, h2, h3, hbad ?_⟩) (fun _ d d2 d3 d4 d5 d6 d7 => ⟨hzd, h1, h2, h3, fun s' hs' => hg s' hs' ?_⟩) (fun _ d d2 d3 d4 d5 d6 d7 d8 => ⟨hzd, h1, h2, h3, hbad ?_⟩) (fun _ d d2 d3 d4 d5 d6 d7 d8 => ⟨hzd, h1, h2, h3, fun s' hs' => hg s' hs' ?_⟩) (fun _ d d2 d3 d4 d5 d6 d7 => ⟨hzd, h1, h2, fun s' hs' => hg s' hs' ?_⟩) (fun _ d d2 d3 d4 d5 => ⟨hzd, h1, h2, fun s' hs' => hg s' hs' ?_⟩) (fun d => absurd (of_decide_eq_false d) (by omega)) <;>
  (clear hs h1 h2 h3 hg hbad hzd hz; unfold zbl zcG; rw [d]; simp_all) <;> omega) (fun _ m s K hs hK => znr kk m b o _ _ _ _ ⟨false, 0, 0, 0⟩ true true true hs (fun d => absurd (of_decide_eq_true d) (by omega)) (fun d => absurd (of_decide_eq_true d) (by omega)) (fun d => absurd (of_decide_eq_true d) (by omega)) (fun d => absurd (of_decide_eq_true d) (by omega)) (fun d => absurd (of_decide_eq_true d) (by omega)) (fun d => absurd (of_decide_eq_true d) (by omega)) (fun d => absurd (of_decide_eq_true d) (by omega)) (fun d => absurd (of_decide_eq_true d) (by omega)) (fun d => absurd (of_decide_eq_true d) (by omega)) (fun d => absurd (of_decide_eq_true d) (by omega)) (fun d => absurd (of_decide_eq_true d) (by omega)) (fun d => absurd (of_decide_eq_true d) (by omega)) (fun _ => hK)) rfl
 have lc := zbV (kk := kk) (f := 38) (fn := Tryd.f38) (r := 18) (x1 := .exit 4) (x2 := .ret) (s1 := Nm [2] [.junk] [none] [] []) (s2 := Nm [2] [.dat (B false)] [none] [] []) (s0 := zdy b o (cs.map Cl.d) (rs.map (I ·)) (ns.map (I ·)) 0) (fun i => zdy b o (cs.map Cl.d) (rs.map (I ·)) (ns.map (I ·)) i) (chkR cs.length rs) rs.length (by omega) (fun i hi _ m s K hs hgo hbad => by
  obtain ⟨z, hz⟩ := zaU hi
  have hzd := ih (gm (f := (I ·)) hz)
  have hb := hin z ((cs.map Cl.d).length : Int) (by omega) (by omega)
  have hc : chkR cs.length rs i = zac z (cs.map Cl.d).length := by unfold chkR; rw [gd hz, hlc]
  refine zlY kk m b o _ _ _ i z (zac z (cs.map Cl.d).length) hs (fun _ d => ⟨hzd, hb, hbad ?_⟩) (fun _ d => ⟨hzd, hb, fun s' hs' => hgo ?_ s' ?_⟩) (fun d => absurd (of_decide_eq_false d) (by omega))
  · rw [hc]; simpa using d
  · rw [hc]; simpa using d
  · rw [hs', wi i (by omega)]; rfl) (fun _ m s K hs hK => zlY kk m b o _ _ _ _ 0 true hs (fun d => absurd (of_decide_eq_true d) (by omega)) (fun d => absurd (of_decide_eq_true d) (by omega)) (fun _ => hK)) rfl
 have hres : zcY o cs rs ns = (!decide (200 < ((cs.map Cl.d).length : Int)) && !decide (60 < ((rs.map (I ·)).length : Int)) && inB o 0 ((cs.map Cl.d).length : Int) && (List.range ns.length).all (chkN o ns) && (List.range cs.length).all (chkC cs o ns) && (List.range rs.length).all (chkR cs.length rs)) := by
  unfold zcY
  rw [hlc, hlr]
  have e1 : (!decide (200 < (cs.length : Int))) = decide (cs.length ≤ 200) := by rw [← decide_not, decide_eq_decide]; omega
  have e2 : (!decide (60 < (rs.length : Int))) = decide (rs.length ≤ 60) := by rw [← decide_not, decide_eq_decide]; omega
  rw [e1, e2]
 have ho0 : (!inB o 0 ((cs.map Cl.d).length : Int)) = false → 0 ≤ o := fun h => by
  simp [inB] at h
  omega
 rw [hres]
 clear hres
 generalize inB o 0 ((cs.map Cl.d).length : Int) = g at *
 cases ha : (List.range ns.length).all (chkN o ns) with
 | false => exact zpr kk b o _ _ _ g (fun d => by rw [d]; rfl) (fun d1 d2 => by rw [d1, d2]; rfl) (fun d1 d2 d3 => ⟨h25, by rw [d1, d2]; cases g <;> first | rfl | cases d3⟩) (fun d1 d2 d3 => ⟨h25, (la (ho0 d3)).2 ha, by rw [Bool.and_false]; rfl⟩)
 | true =>
   cases hb : (List.range cs.length).all (chkC cs o ns) with
   | false => exact zpf kk b o _ _ _ g (fun d => by rw [d]; rfl) (fun d1 d2 => by rw [d1, d2]; rfl) (fun d1 d2 d3 => ⟨h25, by rw [d1, d2]; cases g <;> first | rfl | cases d3⟩) (fun d1 d2 d3 => ⟨h25, (la (ho0 d3)).1 ha, lb.2 hb, by rw [Bool.and_false]; rfl⟩)
   | true =>
     cases hc : (List.range rs.length).all (chkR cs.length rs) with
     | false => exact zpp kk b o _ _ _ g (fun d => by rw [d]; rfl) (fun d1 d2 => by rw [d1, d2]; rfl) (fun d1 d2 d3 => ⟨h25, by rw [d1, d2]; cases g <;> first | rfl | cases d3⟩) (fun d1 d2 d3 => ⟨h25, (la (ho0 d3)).1 ha, lb.1 hb, lc.2 hc, by rw [Bool.and_false]⟩)
     | true => exact zpg kk b o _ _ _ g (fun d => by rw [d]; rfl) (fun d1 d2 => by rw [d1, d2]; rfl) (fun d1 d2 d3 => ⟨h25, by rw [d1, d2]; cases g <;> first | rfl | cases d3⟩) (fun d1 d2 d3 => ⟨h25, (la (ho0 d3)).1 ha, lb.1 hb, lc.1 hc, by rw [d1, d2]; cases g <;> first | rfl | cases d3⟩)
end Go.Den
namespace Go.Den
open Go.Proofs
open Go
set_option linter.unusedVariables false
set_option maxRecDepth 100000
open Go.Proofs.YtcmcfebihbmmeaaDoor (num numV)
theorem zgU {f : Nat} {g : List D → List (List D) → List (Option Row) → Option Res} {args : List D} {u : List (List D)} {l : List (Option Row)} {r : Res} (hx : cfg.ext f = some g) (h : g args u l = some r) : EvN 1 f args u l r := fun k hk => by
 obtain ⟨m, rfl⟩ : ∃ m, k = m + 1 := ⟨k - 1, by omega⟩
 simp only [den, hx, Option.bind_some, h]
def In64 (n : Int) : Prop := -9223372036854775808 ≤ n ∧ n ≤ 9223372036854775807
theorem zmk {n : Int} (h : In64 n) : zeR numV [.dat (I n)] [] [] = some ([.dat (S (num n))], [], []) := by
 have : numV [.int .i64 n] = some [.string (num n)] := by show (if -9223372036854775808 ≤ n ∧ n ≤ 9223372036854775807 then some [Value.string (num n)] else none) = _; exact if_pos h
 show (zhS [.dat (I n)]).bind (fun vs => (numV vs).map fun rs => (rs.map DV, [], [])) = _
 show (numV [.int .i64 n]).map (fun rs => (rs.map DV, ([] : List (List D)), ([] : List (Option Row)))) = _
 rw [this]
 rfl
theorem zki {n : Int} (h : In64 n) : EvN 1 72 [.dat (I n)] [] [] ([.dat (S (num n))], [], []) := zgU (by kernel_rfl) (zmk h)
theorem zmy {n : Int} (h : In64 n) : EvN 1 74 [.dat (I n)] [] [] ([.dat (S (num n))], [], []) := zgU (by kernel_rfl) (zmk h)
theorem zkW {n : Int} (h : In64 n) : (num n).size ≤ 40 := by
 have h0 := h.1
 have h2 := h.2
 have h30 : (10 : Nat) ^ (29 + 1) = 1000000000000000000000000000000 := by decide
 have h1 := Go.Proofs.YtcmcfebihbmmeaaDoor.dec_len 29 n.natAbs (by rw [h30]; omega)
 show (Lib.itoa n).toArray.size ≤ 40
 unfold Lib.itoa
 split
 · simp; omega
 · have : n.toNat = n.natAbs := by omega
   simp
   rw [this]
   omega
def Cl.fine (c : Cl) : Prop := In64 c.n ∧ In64 c.a ∧ In64 c.b
abbrev c0 : Cl := ⟨false, 0, 0, 0⟩
def star : ByteArray := ByteArray.mk #[42]
def zjI (x y : ByteArray) : ByteArray := ByteArray.mk #[40] ++ x ++ ByteArray.mk #[32] ++ y ++ ByteArray.mk #[41]
def showB (cs : List Cl) : Nat → Int → ByteArray
 | d, at_ => match (cs.getD at_.toNat c0).l with
   | true => num (cs.getD at_.toNat c0).n
   | false => match d with
     | 0 => star
     | d + 1 => zjI (showB cs d (cs.getD at_.toNat c0).a) (showB cs d (cs.getD at_.toNat c0).b)
def zeH (cs : List Cl) : Prop := ∀ (i : Nat) (c : Cl), cs[i]? = some c → c.fine ∧ zbl cs.length c = true
theorem zmg (x y : ByteArray) : (zjI x y).size = x.size + y.size + 3 := by
 unfold zjI
 simp only [ByteArray.size_append]
 show 1 + x.size + 1 + y.size + 1 = _
 omega
theorem zbW (cs : List Cl) (hc : zeH cs) : ∀ (d : Nat) (at_ : Int), (showB cs d at_).size + 3 ≤ 43 * 2 ^ d := fun d => by
 induction d with
 | zero =>
   intro at_
   unfold showB
   split
   · have : (num (cs.getD at_.toNat c0).n).size ≤ 40 := zkW (by
      by_cases h : at_.toNat < cs.length
      · obtain ⟨c, hc'⟩ := zaU h
        rw [gd hc']
        exact (hc _ c hc').1.1
      · rw [List.getD_eq_getElem?_getD, List.getElem?_eq_none (by omega)]
        exact ⟨by decide, by decide⟩)
     omega
   · show 1 + 3 ≤ _
     decide
 | succ d ihd =>
   intro at_
   unfold showB
   split
   · have h1 : (num (cs.getD at_.toNat c0).n).size ≤ 40 := zkW (by
      by_cases h : at_.toNat < cs.length
      · obtain ⟨c, hc'⟩ := zaU h
        rw [gd hc']
        exact (hc _ c hc').1.1
      · rw [List.getD_eq_getElem?_getD, List.getElem?_eq_none (by omega)]
        exact ⟨by decide, by decide⟩)
     have h2 : 0 < 2 ^ (d + 1) := Nat.pow_pos (by decide)
     omega
   · rw [zmg]
     have h1 := ihd (cs.getD at_.toNat c0).a
     have h2 := ihd (cs.getD at_.toNat c0).b
     rw [Nat.pow_succ]
     omega
theorem zc1 {x n : Int} (h : zac x n = true) : 0 ≤ x ∧ x < n := by simpa [zac] using h
theorem zhj {cs : List Cl} (hc : zeH cs) {i : Nat} {c : Cl} (h : cs[i]? = some c) (hl : c.l = false) : (0 ≤ c.a ∧ c.a < cs.length) ∧ (0 ≤ c.b ∧ c.b < cs.length) := by
 have := (hc i c h).2
 unfold zbl at this
 rw [hl] at this
 simp only [Bool.and_eq_true] at this
 exact ⟨zc1 this.2.1, zc1 this.2.2⟩
theorem zhc {cs : List Cl} {d : Nat} {at_ : Int} {c : Cl} (h : cs[at_.toNat]? = some c) : showB cs d at_ = match c.l with
 | true => num c.n
 | false => match d with
   | 0 => star
   | d + 1 => zjI (showB cs d c.a) (showB cs d c.b) := by
 cases d with
 | zero =>
   have e : showB cs 0 at_ = match (cs.getD at_.toNat c0).l with | true => num (cs.getD at_.toNat c0).n | false => star := showB.eq_def cs 0 at_
   rw [gd h] at e
   exact e
 | succ d =>
   have e : showB cs (d + 1) at_ = match (cs.getD at_.toNat c0).l with | true => num (cs.getD at_.toNat c0).n | false => zjI (showB cs d (cs.getD at_.toNat c0).a) (showB cs d (cs.getD at_.toNat c0).b) := showB.eq_def cs (d + 1) at_
   rw [gd h] at e
   exact e
theorem ih2 {cs : List Cl} {at_ : Int} {c : Cl} (h0 : 0 ≤ at_) (h : cs[at_.toNat]? = some c) : (0 ≤ at_ ∧ at_ < ((cs.map Cl.d).length : Int)) ∧ (cs.map Cl.d)[at_.toNat]? = some c.d := by
 have hlt := (List.getElem?_eq_some_iff.1 h).1
 exact ⟨⟨h0, by simp; omega⟩, gm h⟩
theorem znN (b : Bool) (cs : List Cl) (hc : zeH cs) : ∀ (d : Nat) (at_ : Int), d ≤ 10 → 0 ≤ at_ → at_ < cs.length → EvN (d + 2) 40 [.dat (.lst b (cs.map Cl.d)), .dat (I at_), .dat (I d)] [] [] ([.dat (S (showB cs d at_))], [], []) := fun d => by
 induction d with
 | zero =>
   intro at_ hd h0 h1
   obtain ⟨c, hz⟩ := zaU (L := cs) (i := at_.toNat) (by omega)
   rw [zhc hz]
   refine zaq Tryd.f40 1 (by kernel_rfl) (by kernel_rfl) fun kk hkk => ?_
   have hzd := ih2 h0 hz
   refine zp6 kk b _ at_ _ c (num c.n) star star (fun d1 => ⟨hzd, zki (hc _ c hz).1.1 kk (by omega), by rw [d1]⟩) (fun d1 d2 => ⟨hzd, by rw [d1]; rfl⟩) (fun d1 d2 => absurd (of_decide_eq_false d2) (by simp))
 | succ d ihd =>
   intro at_ hd h0 h1
   obtain ⟨c, hz⟩ := zaU (L := cs) (i := at_.toNat) (by omega)
   rw [zhc hz]
   refine zaq Tryd.f40 (d + 2) (by kernel_rfl) (by kernel_rfl) fun kk hkk => ?_
   have hzd := ih2 h0 hz
   have hw : w64 (((d + 1 : Nat) : Int) - 1) = (d : Int) := by rw [za6 (by omega)]; omega
   refine zp6 kk b _ at_ _ c (num c.n) (showB cs d c.a) (showB cs d c.b) (fun d1 => ⟨hzd, zki (hc _ c hz).1.1 kk (by omega), by rw [d1]⟩) (fun d1 d2 => absurd (of_decide_eq_true d2) (by omega)) (fun d1 d2 => ?_)
   obtain ⟨k1, k2⟩ := zhj hc hz d1
   have s1 := zbW cs hc d c.a
   have s2 := zbW cs hc d c.b
   have hp : 43 * 2 ^ d ≤ 43 * 2 ^ 10 := Nat.mul_le_mul_left _ (Nat.pow_le_pow_right (by decide) (by omega))
   have hp2 : 43 * 2 ^ 10 = 44032 := by decide
   rw [hw]
   refine ⟨hzd, ihd c.a (by omega) k1.1 k1.2 kk (by omega), by omega, ?_, ihd c.b (by omega) k2.1 k2.2 kk (by omega), ?_, ?_, by rw [d1]; rfl⟩
   · simp only [ByteArray.size_append]; show 1 + _ + 1 ≤ _; omega
   · simp only [ByteArray.size_append]; show 1 + _ + 1 + _ ≤ _; omega
   · simp only [ByteArray.size_append]; show 1 + _ + 1 + _ + 1 ≤ _; omega
theorem znO (b : Bool) (o : Int) (cs : List Cl) (rs ns : List Dat) (hc : zeH cs) : ∀ (d : Nat) (at_ : Int), d ≤ 10 → 0 ≤ at_ → at_ < cs.length → EvN (d + 2) 44 [.dat (Yd b o (cs.map Cl.d) rs ns), .dat (I at_), .dat (I d)] [] [] ([.dat (S (showB cs d at_))], [], []) := fun d => by
 induction d with
 | zero =>
   intro at_ hd h0 h1
   obtain ⟨c, hz⟩ := zaU (L := cs) (i := at_.toNat) (by omega)
   rw [zhc hz]
   refine zaq Tryd.f44 1 (by kernel_rfl) (by kernel_rfl) fun kk hkk => ?_
   have hzd := ih2 h0 hz
   refine zpV kk b o _ rs ns at_ _ c (num c.n) star star (fun d1 => ⟨hzd, zmy (hc _ c hz).1.1 kk (by omega), by rw [d1]⟩) (fun d1 d2 => ⟨hzd, by rw [d1]; rfl⟩) (fun d1 d2 => absurd (of_decide_eq_false d2) (by simp))
 | succ d ihd =>
   intro at_ hd h0 h1
   obtain ⟨c, hz⟩ := zaU (L := cs) (i := at_.toNat) (by omega)
   rw [zhc hz]
   refine zaq Tryd.f44 (d + 2) (by kernel_rfl) (by kernel_rfl) fun kk hkk => ?_
   have hzd := ih2 h0 hz
   have hw : w64 (((d + 1 : Nat) : Int) - 1) = (d : Int) := by rw [za6 (by omega)]; omega
   refine zpV kk b o _ rs ns at_ _ c (num c.n) (showB cs d c.a) (showB cs d c.b) (fun d1 => ⟨hzd, zmy (hc _ c hz).1.1 kk (by omega), by rw [d1]⟩) (fun d1 d2 => absurd (of_decide_eq_true d2) (by omega)) (fun d1 d2 => ?_)
   obtain ⟨k1, k2⟩ := zhj hc hz d1
   have s1 := zbW cs hc d c.a
   have s2 := zbW cs hc d c.b
   have hp : 43 * 2 ^ d ≤ 43 * 2 ^ 10 := Nat.mul_le_mul_left _ (Nat.pow_le_pow_right (by decide) (by omega))
   have hp2 : 43 * 2 ^ 10 = 44032 := by decide
   rw [hw]
   refine ⟨hzd, ihd c.a (by omega) k1.1 k1.2 kk (by omega), by omega, ?_, ihd c.b (by omega) k2.1 k2.2 kk (by omega), ?_, ?_, by rw [d1]; rfl⟩
   · simp only [ByteArray.size_append]; show 1 + _ + 1 ≤ _; omega
   · simp only [ByteArray.size_append]; show 1 + _ + 1 + _ ≤ _; omega
   · simp only [ByteArray.size_append]; show 1 + _ + 1 + _ + 1 ≤ _; omega
theorem zgY {o : Int} {cs : List Cl} {rs ns : List Int} (hf : ∀ c ∈ cs, c.fine) (h : zcY o cs rs ns = true) : zeH cs := fun i c hc => by
 refine ⟨hf c (List.mem_of_getElem? hc), ?_⟩
 unfold zcY at h
 simp only [Bool.and_eq_true] at h
 have h1 := (List.all_eq_true.1 h.1.2) i (List.mem_range.2 (List.getElem?_eq_some_iff.1 hc).1)
 unfold chkC at h1
 rw [gd hc] at h1
 simp only [Bool.and_eq_true] at h1
 exact h1.1
end Go.Den
namespace Go.Den
open Go
set_option linter.unusedVariables false
set_option maxRecDepth 100000
def cg (c : List Cl) (i : Int) : Cl := c.getD i.toNat c0
theorem zkl {c : List Cl} {i : Int} {x : Cl} (h : c[i.toNat]? = some x) : cg c i = x := gd h
theorem zjM {c : List Cl} {i : Int} (h0 : 0 ≤ i) (h : i < (c.length : Int)) : c[i.toNat]? = some (cg c i) := by
 have : i.toNat < c.length := by omega
 unfold cg
 rw [List.getD_eq_getElem?_getD, List.getElem?_eq_getElem this]
 rfl
def Wf (c : List Cl) : Prop := ∀ i : Int, 0 ≤ i → i < (c.length : Int) → (cg c i).l = false → (0 ≤ (cg c i).a ∧ (cg c i).a < (c.length : Int)) ∧ (0 ≤ (cg c i).b ∧ (cg c i).b < (c.length : Int))
def K (l : List Bool) (i : Int) : Prop := l.getD i.toNat false = true
def lack (l : List Bool) : Nat := (List.range l.length).countP fun i => !(l.getD i false)
theorem zhY {α : Type} {p q : α → Bool} : ∀ {l : List α}, (∀ x ∈ l, p x = true → q x = true) → (∃ x ∈ l, q x = true ∧ p x = false) → l.countP p < l.countP q
 | [], _, h => by obtain ⟨x, hx, _⟩ := h; simp at hx
 | y :: l, hpq, h => by
   have hle : l.countP p ≤ l.countP q := List.countP_mono_left (fun x hx => hpq x (List.mem_cons_of_mem _ hx))
   obtain ⟨x, hx, hq, hp⟩ := h
   rcases List.mem_cons.1 hx with rfl | hx
   · have e1 : (x :: l).countP p = l.countP p := List.countP_cons_of_neg (by simp [hp])
     have e2 : (x :: l).countP q = l.countP q + 1 := List.countP_cons_of_pos hq
     omega
   · have ih := zhY (fun x hx => hpq x (List.mem_cons_of_mem _ hx)) ⟨x, hx, hq, hp⟩
     by_cases hy : p y = true
     · have e1 : (y :: l).countP p = l.countP p + 1 := List.countP_cons_of_pos hy
       have e2 : (y :: l).countP q = l.countP q + 1 := List.countP_cons_of_pos (hpq y List.mem_cons_self hy)
       omega
     · have e1 : (y :: l).countP p = l.countP p := List.countP_cons_of_neg hy
       have e2 : l.countP q ≤ (y :: l).countP q := by rw [List.countP_cons]; omega
       omega
theorem zmw {l l' : List Bool} (hl : l'.length = l.length) (h : ∀ i : Int, 0 ≤ i → K l i → K l' i) : lack l' ≤ lack l := by
 unfold lack
 rw [hl]
 refine List.countP_mono_left fun i _ hi => ?_
 have := h (i : Int) (by omega)
 unfold K at this
 simp only [Int.toNat_natCast] at this
 revert hi this
 cases l.getD i false <;> cases l'.getD i false <;> simp
theorem zpz {l : List Bool} {i : Int} (h0 : 0 ≤ i) (hi : i < (l.length : Int)) (j : Int) (hj : 0 ≤ j) : K (l.set i.toNat true) j ↔ (j = i ∨ K l j) := by
 unfold K
 have hlt : i.toNat < l.length := by omega
 by_cases e : j = i
 · subst e
   simp [List.getD_eq_getElem?_getD, hlt]
 · have : i.toNat ≠ j.toNat := by omega
   simp [List.getD_eq_getElem?_getD, List.getElem?_set_ne this, e]
theorem zfd {l : List Bool} {i : Int} (h0 : 0 ≤ i) (hi : i < (l.length : Int)) (hk : ¬ K l i) : lack (l.set i.toNat true) < lack l := by
 have hlt : i.toNat < l.length := by omega
 unfold lack
 rw [List.length_set]
 refine zhY (fun j _ hj => ?_) ⟨i.toNat, by simpa using hlt, ?_, ?_⟩
 · by_cases e : j = i.toNat
   · subst e
     simp [List.getD_eq_getElem?_getD, hlt] at hj
   · simp only [List.getD_eq_getElem?_getD, List.getElem?_set_ne (Ne.symm e)] at hj ⊢
     exact hj
 · unfold K at hk
   simpa using hk
 · simp [List.getD_eq_getElem?_getD, hlt]
theorem zjv (l : List Bool) : lack l ≤ l.length := by
 unfold lack
 have := List.countP_le_length (p := fun i => !(l.getD i false)) (l := List.range l.length)
 simpa using this
theorem K_lt {l : List Bool} {i : Int} (h0 : 0 ≤ i) (h : K l i) : i < (l.length : Int) := by
 unfold K at h
 by_cases hi : i.toNat < l.length
 · omega
 · rw [List.getD_eq_getElem?_getD, List.getElem?_eq_none (by omega)] at h
   cases h
theorem zla (n : Nat) (i : Int) : ¬ K (List.replicate n false) i := by
 unfold K
 by_cases h : i.toNat < n
 · simp [List.getD_eq_getElem?_getD, h]
 · simp [List.getD_eq_getElem?_getD, h]
theorem zo1 {l l' : List Bool} (hl : l.length = l'.length) (h : ∀ i, 0 ≤ i → (K l i ↔ K l' i)) : l = l' := by
 refine List.ext_getElem hl fun i h1 h2 => ?_
 have := h (i : Int) (by omega)
 unfold K at this
 simp only [Int.toNat_natCast, List.getD_eq_getElem?_getD, List.getElem?_eq_getElem h1, List.getElem?_eq_getElem h2, Option.getD_some] at this
 cases e : l[i] <;> cases e' : l'[i] <;> simp_all
theorem K_get {l : List Bool} {i : Nat} {k : Bool} (h : l[i]? = some k) : K l (i : Int) ↔ k = true := by
 unfold K
 rw [Int.toNat_natCast, gd h]
inductive Rch (c : List Cl) (on : Int → Prop) (src : Int → Prop) : Int → Prop
 | src {i} : src i → Rch c on src i
 | a {i} : Rch c on src i → on i → (cg c i).l = false → Rch c on src (cg c i).a
 | b {i} : Rch c on src i → on i → (cg c i).l = false → Rch c on src (cg c i).b
theorem Rch.mono {c : List Cl} {on : Int → Prop} {s s' : Int → Prop} (h : ∀ i, s i → Rch c on s' i) {i : Int} (hr : Rch c on s i) : Rch c on s' i := by
 induction hr with
 | src hs => exact h _ hs
 | a _ ho hl ih => exact .a ih ho hl
 | b _ ho hl ih => exact .b ih ho hl
theorem Rch.on {c : List Cl} {on on' : Int → Prop} {s : Int → Prop} (h : ∀ i, on i → on' i) {i : Int} (hr : Rch c on s i) : Rch c on' s i := by
 induction hr with
 | src hs => exact .src hs
 | a _ ho hl ih => exact .a ih (h _ ho) hl
 | b _ ho hl ih => exact .b ih (h _ ho) hl
theorem Rch.in_ {c : List Cl} {on : Int → Prop} {s : Int → Prop} {k : List Bool} (hw : Wf c) (hs : ∀ i, s i → 0 ≤ i ∧ i < (c.length : Int) ∧ K k i)
 (hcl : ∀ i, 0 ≤ i → K k i → on i → (cg c i).l = false → K k (cg c i).a ∧ K k (cg c i).b) {i : Int} (hr : Rch c on s i) : 0 ≤ i ∧ i < (c.length : Int) ∧ K k i := by
 induction hr with
 | src h => exact hs _ h
 | a _ ho hl ih => exact ⟨(hw _ ih.1 ih.2.1 hl).1.1, (hw _ ih.1 ih.2.1 hl).1.2, (hcl _ ih.1 ih.2.2 ho hl).1⟩
 | b _ ho hl ih => exact ⟨(hw _ ih.1 ih.2.1 hl).2.1, (hw _ ih.1 ih.2.1 hl).2.2, (hcl _ ih.1 ih.2.2 ho hl).2⟩
structure Mk (c : List Cl) (on : Int → Prop) (S : Int → Prop) (k k' : List Bool) : Prop where
 len : k'.length = c.length
 mono : ∀ i, 0 ≤ i → K k i → K k' i
 new : ∀ i, 0 ≤ i → K k' i → ¬ K k i → (on i → (cg c i).l = false → K k' (cg c i).a ∧ K k' (cg c i).b) ∧ Rch c on S i
theorem Mk.refl {c : List Cl} {on S : Int → Prop} {k : List Bool} (h : k.length = c.length) : Mk c on S k k := ⟨h, fun _ _ h => h, fun _ _ h h' => absurd h h'⟩
theorem Mk.trans {c : List Cl} {on S : Int → Prop} {k k1 k2 : List Bool} (hw : Wf c) (h : Mk c on S k k1) (h' : Mk c on S k1 k2) : Mk c on S k k2 :=
 ⟨h'.len, fun i hi hk => h'.mono i hi (h.mono i hi hk), fun j hj hk hn => by
  by_cases hk1 : K k1 j
  · obtain ⟨p, q⟩ := h.new j hj hk1 hn
    refine ⟨fun ho hl => ?_, q⟩
    have hlt := K_lt hj hk1
    obtain ⟨⟨a0, _⟩, b0, _⟩ := hw j hj (by have := h.len; omega) hl
    exact ⟨h'.mono _ a0 (p ho hl).1, h'.mono _ b0 (p ho hl).2⟩
  · exact h'.new j hj hk hk1⟩
theorem Mk.src {c : List Cl} {on S S' : Int → Prop} {k k' : List Bool} (h : Mk c on S k k') (hs : ∀ i, S i → Rch c on S' i) : Mk c on S' k k' := ⟨h.len, h.mono, fun i hi hk hn => ⟨(h.new i hi hk hn).1, Rch.mono hs (h.new i hi hk hn).2⟩⟩
noncomputable def ze5 (n : Nat) (P : Int → Prop) : List Bool := (List.range n).map fun (i : Nat) => @decide (P (i : Int)) (Classical.propDecidable _)
theorem zaA (n : Nat) (P : Int → Prop) : (ze5 n P).length = n := by simp [ze5]
theorem zbu {n : Nat} {P : Int → Prop} {i : Int} (h0 : 0 ≤ i) : K (ze5 n P) i ↔ i < (n : Int) ∧ P i := by
 unfold K ze5
 rw [List.getD_eq_getElem?_getD, List.getElem?_map]
 by_cases h : i.toNat < n
 · rw [List.getElem?_range h]
   have : ((i.toNat : Nat) : Int) = i := by omega
   simp only [Option.map_some, Option.getD_some, decide_eq_true_eq, this]
   exact ⟨fun h => ⟨by omega, h⟩, fun h => h.2⟩
 · rw [List.getElem?_eq_none (by simpa using h)]
   simp only [Option.map_none, Option.getD_none]
   exact ⟨fun h => by simp at h, fun h1 => by omega⟩
theorem Mk.all {c : List Cl} {on S : Int → Prop} {k' : List Bool} (hw : Wf c) (h : Mk c on S (List.replicate c.length false) k') (hs : ∀ i, S i → 0 ≤ i ∧ i < (c.length : Int) ∧ K k' i) : k' = ze5 c.length (Rch c on S) := by
 refine zo1 (by rw [h.len, zaA]) fun i hi => ?_
 rw [zbu hi]
 constructor
 · intro hk
   exact ⟨by have := K_lt hi hk; have := h.len; omega, (h.new i hi hk (zla _ _)).2⟩
 · rintro ⟨_, hr⟩
   exact (Rch.in_ hw hs (fun j h0 hj ho hle => (h.new j h0 hj (zla _ _)).1 ho hle) hr).2.2
def cnt (m : List Bool) (i : Int) : Int := ((m.take i.toNat).count true : Nat)
theorem zkM (m : List Bool) : cnt m 0 = 0 := by simp [cnt]
theorem zj7 (m : List Bool) (i : Nat) : 0 ≤ cnt m i ∧ cnt m i ≤ i := by
 unfold cnt
 have h1 : (m.take i).count true ≤ (m.take i).length := List.count_le_length
 have h2 : (m.take i).length ≤ i := by rw [List.length_take]; omega
 simp only [Int.toNat_natCast]
 omega
theorem zko (m : List Bool) (i : Nat) (h : i < m.length) (hk : K m (i : Int)) : cnt m ((i + 1 : Nat) : Int) = cnt m i + 1 := by
 unfold cnt
 unfold K at hk
 simp only [Int.toNat_natCast, List.getD_eq_getElem?_getD, List.getElem?_eq_getElem h, Option.getD_some] at hk
 simp only [Int.toNat_natCast, List.take_add_one, List.getElem?_eq_getElem h, List.count_append, hk]
 simp
theorem zmY (m : List Bool) (i : Nat) (h : i < m.length) (hk : ¬ K m (i : Int)) : cnt m ((i + 1 : Nat) : Int) = cnt m i := by
 unfold cnt
 unfold K at hk
 simp only [Int.toNat_natCast, List.getD_eq_getElem?_getD, List.getElem?_eq_getElem h, Option.getD_some, Bool.not_eq_true] at hk
 simp only [Int.toNat_natCast, List.take_add_one, List.getElem?_eq_getElem h, List.count_append, hk]
 simp
def mvC (m : List Bool) (x : Cl) : Cl := if x.l = true then x else ⟨x.l, x.n, cnt m x.a, cnt m x.b⟩
def mvCs (m : List Bool) : List Cl → List Bool → List Cl
 | x :: c, b :: l => if b = true then mvC m x :: mvCs m c l else mvCs m c l
 | _, _ => []
theorem zj8 (m : List Bool) (c : List Cl) (l : List Bool) : (mvCs m c l).length ≤ l.length := by
 induction c generalizing l with
 | nil => simp [mvCs]
 | cons x c ih =>
   cases l with
   | nil => simp [mvCs]
   | cons b l =>
     unfold mvCs
     have := ih l
     split <;> simp <;> omega
theorem zew (m : List Bool) (c : List Cl) (l : List Bool) (h : l.length = c.length) : (mvCs m c l).length = l.count true := by
 induction c generalizing l with
 | nil =>
   obtain rfl := List.eq_nil_of_length_eq_zero h
   simp [mvCs]
 | cons x c ih =>
   cases l with
   | nil => simp at h
   | cons b l =>
     unfold mvCs
     have := ih l (by simpa using h)
     cases b <;> simp [this]
theorem zis (m : List Bool) : ∀ (c : List Cl) (l : List Bool) (x : Cl) (b : Bool), c.length = l.length → mvCs m (c ++ [x]) (l ++ [b]) = mvCs m c l ++ (if b = true then [mvC m x] else [])
 | [], [], x, b, _ => by cases b <;> simp [mvCs]
 | y :: c, k :: l, x, b, h => by
   have := zis m c l x b (by simpa using h)
   cases k <;> simp [mvCs, this]
 | [], _ :: _, _, _, h => by simp at h
 | _ :: _, [], _, _, h => by simp at h
theorem ziO (m : List Bool) (c : List Cl) (l : List Bool) (i : Nat) (x : Cl) (b : Bool) (hl : c.length = l.length) (hx : c[i]? = some x) (hb : l[i]? = some b) : mvCs m (c.take (i + 1)) (l.take (i + 1)) = mvCs m (c.take i) (l.take i) ++ (if b = true then [mvC m x] else []) := by
 rw [List.take_add_one, List.take_add_one, hx, hb]
 exact zis m _ _ x b (by simp [List.length_take, hl])
def Shut (m : List Bool) (c : List Cl) : Prop := ∀ i : Nat, K m i → (cg c i).l = false → (0 ≤ (cg c i).a ∧ K m (cg c i).a) ∧ (0 ≤ (cg c i).b ∧ K m (cg c i).b)
def Tb (m : List Bool) (n : Nat) (t : List Int) : Prop := t.length = n ∧ ∀ j : Nat, K m j → t.getD j 0 = cnt m j
theorem Tb.get {m : List Bool} {n : Nat} {t : List Int} (h : Tb m n t) (hm : m.length = n) {j : Int} (h0 : 0 ≤ j) (hk : K m j) : (0 ≤ j ∧ j < (t.length : Int)) ∧ t[j.toNat]? = some (cnt m j) := by
 have hlt := K_lt h0 hk
 have h1 := h.1
 have e : ((j.toNat : Nat) : Int) = j := by omega
 have h2 := h.2 j.toNat (by rw [e]; exact hk)
 rw [e] at h2
 refine ⟨⟨h0, by omega⟩, ?_⟩
 rw [List.getElem?_eq_getElem (by omega)]
 rw [List.getD_eq_getElem?_getD, List.getElem?_eq_getElem (by omega)] at h2
 simpa using h2
end Go.Den
namespace Go.Den
open Go
set_option linter.unusedVariables false
set_option maxRecDepth 100000
open Go.Proofs.YtcmcfebihbmmeaaDoor (num numV)
structure Hp where
 o : Int
 cs : List Cl
 rs : List Int
 ns : List Int
structure Hg (h : Hp) : Prop where
 cells : zeH h.cs
 clen : h.cs.length ≤ 200
 rlen : h.rs.length ≤ 60
 o0 : 0 ≤ h.o
 o1 : h.o ≤ (h.cs.length : Int)
 rin : ∀ x ∈ h.rs, 0 ≤ x ∧ x < (h.cs.length : Int)
 nup : h.ns.Pairwise (· < ·)
 nin : ∀ x ∈ h.ns, 0 ≤ x ∧ x < h.o
 old : ∀ (i : Nat) (c : Cl), h.cs[i]? = some c → (i : Int) < h.o → c.l = false → (h.o ≤ c.a ∨ h.o ≤ c.b) → (i : Int) ∈ h.ns
theorem Hg.wf {h : Hp} (g : Hg h) : Wf h.cs := fun i h0 hi hl => zhj g.cells (zjM h0 hi) hl
theorem up_of {ns : List Int} (h : ∀ i, i + 1 < ns.length → ns.getD i 0 < ns.getD (i + 1) 0) : ns.Pairwise (· < ·) := by
 induction ns with
 | nil => exact .nil
 | cons a l ih =>
   have ihl := ih fun i hi => by simpa using h (i + 1) (by simpa using hi)
   refine List.pairwise_cons.2 ⟨fun x hx => ?_, ihl⟩
   cases l with
   | nil => cases hx
   | cons b l =>
     have hab : a < b := by simpa using h 0 (by simp)
     rcases List.mem_cons.1 hx with rfl | hx
     · exact hab
     · exact Int.lt_trans hab ((List.pairwise_cons.1 ihl).1 x hx)
theorem zdD (zs : List Int) (x : Int) : hasB zs x = true ↔ x ∈ zs := by
 unfold hasB
 rw [List.any_eq_true]
 constructor
 · rintro ⟨z, hz, he⟩
   rw [← of_decide_eq_true he]; exact hz
 · exact fun h => ⟨x, h, by simp⟩
theorem zjX {o : Int} {cs : List Cl} {rs ns : List Int} (hf : ∀ c ∈ cs, c.fine) (h : zcY o cs rs ns = true) : Hg ⟨o, cs, rs, ns⟩ := by
 have hc := zgY hf h
 unfold zcY at h
 simp only [Bool.and_eq_true, decide_eq_true_eq] at h
 obtain ⟨⟨⟨⟨⟨h1, h2⟩, h3⟩, h4⟩, h5⟩, h6⟩ := h
 have h3 : 0 ≤ o ∧ o ≤ (cs.length : Int) := by simpa [inB] using h3
 have h4 : ∀ i, i < ns.length → chkN o ns i = true := fun i hi => (List.all_eq_true.1 h4) i (List.mem_range.2 hi)
 have h6 : ∀ i, i < rs.length → chkR cs.length rs i = true := fun i hi => (List.all_eq_true.1 h6) i (List.mem_range.2 hi)
 refine ⟨hc, h1, h2, h3.1, h3.2, fun x hx => ?_, up_of fun i hi => ?_, fun x hx => ?_, fun i c hi hio hl hor => ?_⟩
 · obtain ⟨i, hi, rfl⟩ := List.mem_iff_getElem.1 hx
   have := h6 i hi
   unfold chkR at this
   rw [gd (List.getElem?_eq_getElem hi)] at this
   exact zc1 this
 · have := h4 (i + 1) hi
   unfold chkN at this
   simp only [Bool.and_eq_true, Bool.not_eq_true', Nat.add_sub_cancel] at this
   have h7 := this.2
   show ns.getD i 0 < ns.getD (i + 1) 0
   generalize ns.getD i 0 = y at *
   generalize ns.getD (i + 1) 0 = z at *
   simp at h7
   omega
 · obtain ⟨i, hi, rfl⟩ := List.mem_iff_getElem.1 hx
   have := h4 i hi
   unfold chkN at this
   rw [gd (List.getElem?_eq_getElem hi)] at this
   simp only [Bool.and_eq_true] at this
   exact zc1 this.1
 · have := (List.all_eq_true.1 h5) i (List.mem_range.2 (List.getElem?_eq_some_iff.1 hi).1)
   unfold chkC at this
   rw [gd hi] at this
   simp only [Bool.and_eq_true] at this
   have h7 := this.2
   have h8 : zcG o c = true := by unfold zcG; rw [hl]; simpa using hor
   rw [h8] at h7
   rw [← zdD]
   have h9 : decide ((i : Int) < o) = true := by simpa using hio
   rw [h9] at h7
   simpa using h7
theorem zne {h : Hp} (g : Hg h) : zcY h.o h.cs h.rs h.ns = true := by
 unfold zcY
 simp only [Bool.and_eq_true, decide_eq_true_eq]
 refine ⟨⟨⟨⟨⟨g.clen, g.rlen⟩, ?_⟩, ?_⟩, ?_⟩, ?_⟩
 · have h1 := g.o0
   have h2 := g.o1
   simp [inB, h1, h2]
 · refine List.all_eq_true.2 fun i hi => ?_
   have hi := List.mem_range.1 hi
   unfold chkN
   have h1 := g.nin _ (List.getElem_mem hi)
   rw [gd (List.getElem?_eq_getElem hi)]
   have hb : zac h.ns[i] h.o = true := by simp [zac, h1]
   rw [hb, Bool.true_and]
   cases i with
   | zero => rfl
   | succ i =>
     have h2 := List.pairwise_iff_getElem.1 g.nup i (i + 1) (by omega) hi (by omega)
     rw [Nat.add_sub_cancel, gd (List.getElem?_eq_getElem (show i < h.ns.length by omega))]
     simp; omega
 · refine List.all_eq_true.2 fun i hi => ?_
   obtain ⟨c, hc⟩ := zaU (List.mem_range.1 hi)
   unfold chkC
   rw [gd hc, (g.cells i c hc).2, Bool.true_and]
   cases hl : c.l with
   | true => simp [zcG, hl]
   | false =>
     by_cases hio : (i : Int) < h.o
     · by_cases hor : h.o ≤ c.a ∨ h.o ≤ c.b
       · have := (zdD _ _).2 (g.old i c hc hio hl hor)
         simp [this]
       · have : zcG h.o c = false := by unfold zcG; rw [hl]; simpa using hor
         simp [this]
     · simp [hio]
 · refine List.all_eq_true.2 fun i hi => ?_
   have hi := List.mem_range.1 hi
   unfold chkR
   rw [gd (List.getElem?_eq_getElem hi)]
   have := g.rin _ (List.getElem_mem hi)
   simp [zac, this]
theorem zdp {h : Hp} (g : Hg h) : h.ns.length ≤ 200 := by
 have key : ∀ (l : List Int) (lo hi : Int), l.Pairwise (· < ·) → (∀ x ∈ l, lo ≤ x ∧ x < hi) → lo ≤ hi → (l.length : Int) ≤ hi - lo := by
  intro l
  induction l with
  | nil => intro lo hi _ _ h; simp; omega
  | cons a l ih =>
    intro lo hi hp hx hle
    have ha := hx a (by simp)
    have := ih (a + 1) hi (List.pairwise_cons.1 hp).2 (fun x hx' => ⟨by have := (List.pairwise_cons.1 hp).1 x hx'; omega, (hx x (List.mem_cons_of_mem _ hx')).2⟩) (by omega)
    simp only [List.length_cons]
    omega
 have := key h.ns 0 h.o g.nup (fun x hx => g.nin x hx) g.o0
 have h1 := g.o1
 have h2 := g.clen
 omega
noncomputable def mvH (m : List Bool) (h : Hp) : Hp := ⟨cnt m m.length, mvCs m h.cs m, h.rs.map (cnt m), []⟩
noncomputable def zb0 (h : Hp) : List Bool := ze5 h.cs.length (Rch h.cs (fun _ => True) (· ∈ h.rs))
def Src (h : Hp) (i : Int) : Prop := i ∈ h.rs ∨ ∃ x ∈ h.ns, (cg h.cs x).l = false ∧ (i = (cg h.cs x).a ∨ i = (cg h.cs x).b)
noncomputable def zdr (h : Hp) : List Bool := ze5 h.cs.length fun i => i < h.o ∨ Rch h.cs (fun i => ¬ i < h.o) (Src h) i
noncomputable def zaX (h : Hp) : Hp := mvH (zb0 h) h
noncomputable def zap (h : Hp) : Hp := mvH (zdr h) h
theorem zj1 (m : List Bool) {i j : Nat} (h : i ≤ j) : cnt m i ≤ cnt m j := by
 unfold cnt
 simp only [Int.toNat_natCast]
 have := List.Sublist.count_le true (List.take_sublist_take_left h (l := m))
 omega
theorem zkw {m : List Bool} {x : Int} (h0 : 0 ≤ x) (hk : K m x) : 0 ≤ cnt m x ∧ cnt m x < cnt m m.length := by
 have hlt := K_lt h0 hk
 have e : ((x.toNat : Nat) : Int) = x := by omega
 have h1 := zko m x.toNat (by omega) (by rw [e]; exact hk)
 have h2 := zj1 m (show x.toNat + 1 ≤ m.length by omega)
 rw [e] at h1
 have h3 := (zj7 m x.toNat).1
 rw [e] at h3
 omega
theorem zha {m : List Bool} {y : Cl} : ∀ {c : List Cl} {l : List Bool}, y ∈ mvCs m c l → ∃ (i : Nat) (x : Cl), c[i]? = some x ∧ l[i]? = some true ∧ y = mvC m x
 | x :: c, b :: l, h => by
   cases b with
   | true =>
     simp only [mvCs, if_true, List.mem_cons] at h
     rcases h with rfl | h
     · exact ⟨0, x, rfl, rfl, rfl⟩
     · obtain ⟨i, x', h1, h2, h3⟩ := zha h
       exact ⟨i + 1, x', by simpa using h1, by simpa using h2, h3⟩
   | false =>
     simp only [mvCs, Bool.false_eq_true, if_false] at h
     obtain ⟨i, x', h1, h2, h3⟩ := zha h
     exact ⟨i + 1, x', by simpa using h1, by simpa using h2, h3⟩
 | [], _, h => by simp [mvCs] at h
 | _ :: _, [], h => by simp [mvCs] at h
theorem zhn {m : List Bool} {c : List Cl} (h : m.length = c.length) : ((mvCs m c m).length : Int) = cnt m m.length := by
 rw [zew m c m h]; simp [cnt]
theorem zm7 {h : Hp} {m : List Bool} (g : Hg h) (hm : m.length = h.cs.length) (hs : Shut m h.cs) (hr : ∀ x ∈ h.rs, K m x) : Hg (mvH m h) := by
 have hlen := zhn hm
 have hle := zj8 m h.cs m
 have hcl := g.clen
 have hcell : ∀ y ∈ mvCs m h.cs m, y.fine ∧ zbl (mvCs m h.cs m).length y = true := fun y hy => by
  obtain ⟨i, x, h1, h2, rfl⟩ := zha hy
  have hf := (g.cells i x h1)
  have hk : K m (i : Int) := (K_get h2).2 rfl
  cases hl : x.l with
  | true =>
    have e : mvC m x = x := by unfold mvC; rw [if_pos hl]
    rw [e]
    refine ⟨hf.1, ?_⟩
    have := hf.2
    unfold zbl at this ⊢
    rw [hl] at this ⊢
    exact this
  | false =>
    have e : mvC m x = ⟨x.l, x.n, cnt m x.a, cnt m x.b⟩ := by unfold mvC; rw [if_neg (by rw [hl]; simp)]
    have hx : cg h.cs (i : Int) = x := zkl (by rw [Int.toNat_natCast]; exact h1)
    obtain ⟨⟨a0, a1⟩, b0, b1⟩ := hs i hk (by rw [hx]; exact hl)
    rw [hx] at a0 a1 b0 b1
    have ha := zkw a0 a1
    have hb := zkw b0 b1
    rw [e]
    refine ⟨⟨hf.1.1, ⟨by show _ ≤ cnt m x.a; omega, by show cnt m x.a ≤ _; omega⟩, ⟨by show _ ≤ cnt m x.b; omega, by show cnt m x.b ≤ _; omega⟩⟩, ?_⟩
    have := hf.2
    unfold zbl at this ⊢
    rw [hl] at this
    simp only [Bool.and_eq_true] at this
    simp only [hl, this.1, Bool.true_and]
    rw [hlen]
    simp [zac, ha, hb]
 refine ⟨fun i c hc => hcell c (List.mem_of_getElem? hc), by show (mvCs m h.cs m).length ≤ 200; omega, by show (h.rs.map (cnt m)).length ≤ 60; rw [List.length_map]; exact g.rlen, ?_, ?_, fun x hx => ?_, .nil, fun x hx => (by cases hx), fun i c hc hi hl hor => ?_⟩
 · show 0 ≤ cnt m m.length
   exact (zj7 m m.length).1
 · show cnt m m.length ≤ ((mvCs m h.cs m).length : Int)
   omega
 · show 0 ≤ x ∧ x < ((mvCs m h.cs m).length : Int)
   obtain ⟨y, hy, rfl⟩ := List.mem_map.1 hx
   have := zkw (g.rin y hy).1 (hr y hy)
   omega
 · have h1 := (hcell c (List.mem_of_getElem? hc)).2
   unfold zbl at h1
   rw [hl] at h1
   simp only [Bool.and_eq_true] at h1
   have ha := zc1 h1.2.1
   have hb := zc1 h1.2.2
   have ho : (mvH m h).o = cnt m m.length := rfl
   rw [ho] at hor
   omega
theorem zd5 {h : Hp} (g : Hg h) : Shut (zb0 h) h.cs := fun i hk hl => by
 obtain ⟨hi, hr⟩ := (zbu (Int.natCast_nonneg i)).1 hk
 obtain ⟨⟨a0, a1⟩, b0, b1⟩ := g.wf i (by omega) hi hl
 exact ⟨⟨a0, (zbu a0).2 ⟨a1, .a hr trivial hl⟩⟩, b0, (zbu b0).2 ⟨b1, .b hr trivial hl⟩⟩
theorem zdZ {h : Hp} (g : Hg h) : ∀ x ∈ h.rs, K (zb0 h) x := fun x hx => (zbu (g.rin x hx).1).2 ⟨(g.rin x hx).2, .src hx⟩
theorem zcS {h : Hp} (g : Hg h) : Shut (zdr h) h.cs := fun i hk hl => by
 obtain ⟨hi, hr⟩ := (zbu (Int.natCast_nonneg i)).1 hk
 obtain ⟨⟨a0, a1⟩, b0, b1⟩ := g.wf i (by omega) hi hl
 have hat := zjM (Int.natCast_nonneg i) hi
 rw [Int.toNat_natCast] at hat
 refine ⟨⟨a0, (zbu a0).2 ⟨a1, ?_⟩⟩, b0, (zbu b0).2 ⟨b1, ?_⟩⟩
 · by_cases hio : (i : Int) < h.o
   · by_cases hk : (cg h.cs i).a < h.o
     · exact .inl hk
     · exact .inr (.src (.inr ⟨i, g.old i _ hat hio hl (.inl (by omega)), hl, .inl rfl⟩))
   · rcases hr with h | h
     · exact absurd h hio
     · exact .inr (.a h hio hl)
 · by_cases hio : (i : Int) < h.o
   · by_cases hk : (cg h.cs i).b < h.o
     · exact .inl hk
     · exact .inr (.src (.inr ⟨i, g.old i _ hat hio hl (.inr (by omega)), hl, .inr rfl⟩))
   · rcases hr with h | h
     · exact absurd h hio
     · exact .inr (.b h hio hl)
theorem zcQ {h : Hp} (g : Hg h) : ∀ x ∈ h.rs, K (zdr h) x := fun x hx => (zbu (g.rin x hx).1).2 ⟨(g.rin x hx).2, .inr (.src (.inl hx))⟩
theorem zdO {h : Hp} (g : Hg h) : Hg (zaX h) := zm7 g (zaA _ _) (zd5 g) (zdZ g)
theorem zcn {h : Hp} (g : Hg h) : Hg (zap h) := zm7 g (zaA _ _) (zcS g) (zcQ g)
def addH (h : Hp) (c : Cl) : Hp := ⟨h.o, h.cs ++ [c], h.rs ++ [(h.cs.length : Int)], h.ns⟩
def zp5 (h : Hp) (r : Int) : Hp := ⟨h.o, h.cs, h.rs ++ [r], h.ns⟩
def zoF (h : Hp) (a : Int) : Hp := ⟨h.o, h.cs, h.rs.take a.toNat ++ h.rs.drop (a.toNat + 1), h.ns⟩
def insL (x : Int) : List Int → List Int
 | [] => [x]
 | n :: l => if x < n then x :: n :: l else n :: insL x l
def setC (c : Cl) (second : Bool) (to : Int) : Cl := match second with | true => { c with b := to } | false => { c with a := to }
def putN (h : Hp) (at_ to : Int) : Bool := decide (at_ < h.o) && decide (h.o ≤ to) && !hasB h.ns at_
def setH (h : Hp) (at_ : Int) (second : Bool) (to : Int) : Hp := ⟨h.o, h.cs.set at_.toNat (setC (cg h.cs at_) second to), h.rs, match putN h at_ to with | true => insL at_ h.ns | false => h.ns⟩
theorem zjR {n m : Nat} {c : Cl} (h : zbl n c = true) (hnm : n ≤ m) : zbl m c = true := by
 unfold zbl at h ⊢
 cases hl : c.l with
 | true => rw [hl] at h; exact h
 | false =>
   rw [hl] at h
   simp only [Bool.and_eq_true] at h ⊢
   have ha := zc1 h.2.1
   have hb := zc1 h.2.2
   refine ⟨h.1, ?_, ?_⟩
   · simp only [zac, Bool.and_eq_true, decide_eq_true_eq]; omega
   · simp only [zac, Bool.and_eq_true, decide_eq_true_eq]; omega
theorem zkG {α : Type} {l : List α} {x y : α} {i : Nat} (h : (l ++ [x])[i]? = some y) : (i < l.length ∧ l[i]? = some y) ∨ (i = l.length ∧ y = x) := by
 by_cases hi : i < l.length
 · rw [List.getElem?_append_left hi] at h; exact .inl ⟨hi, h⟩
 · rw [List.getElem?_append_right (by omega)] at h
   have : i - l.length = 0 := by
    cases hd : i - l.length with
    | zero => rfl
    | succ d => rw [hd] at h; simp at h
   rw [this] at h
   simp at h
   exact .inr ⟨by omega, h.symm⟩
theorem znC {h : Hp} (g : Hg h) {c : Cl} (hc : c.fine) (hok : zbl (h.cs.length + 1) c = true) (h1 : h.cs.length < 200) (h2 : h.rs.length < 60) : Hg (addH h c) := by
 have ho1 := g.o1
 refine ⟨fun i x hx => ?_, by show (h.cs ++ [c]).length ≤ 200; simp; omega, by show (h.rs ++ [(h.cs.length : Int)]).length ≤ 60; simp; omega, g.o0, by show h.o ≤ ((h.cs ++ [c]).length : Int); simp; omega, fun x hx => ?_, g.nup, g.nin, fun i x hx hi hl hor => ?_⟩
 · have e : (addH h c).cs.length = h.cs.length + 1 := by simp [addH]
   rw [e]
   rcases zkG hx with ⟨_, h3⟩ | ⟨_, rfl⟩
   · have := g.cells i x h3
     exact ⟨this.1, zjR this.2 (by omega)⟩
   · exact ⟨hc, hok⟩
 · show 0 ≤ x ∧ x < ((h.cs ++ [c]).length : Int)
   rw [List.length_append]
   rcases List.mem_append.1 hx with hx | hx
   · have := g.rin x hx; simp; omega
   · have : x = (h.cs.length : Int) := by simpa using hx
     simp; omega
 · have hi : (i : Int) < h.o := hi
   rcases zkG hx with ⟨_, h3⟩ | ⟨h3, rfl⟩
   · exact g.old i x h3 hi hl hor
   · omega
theorem zii {h : Hp} (g : Hg h) {r : Int} (hr : 0 ≤ r ∧ r < (h.cs.length : Int)) (h2 : h.rs.length < 60) : Hg (zp5 h r) :=
 ⟨g.cells, g.clen, by show (h.rs ++ [r]).length ≤ 60; simp; omega, g.o0, g.o1, fun x hx => by
  rcases List.mem_append.1 hx with hx | hx
  · exact g.rin x hx
  · have : x = r := by simpa using hx
    rw [this]; exact hr, g.nup, g.nin, g.old⟩
theorem zmL {h : Hp} (g : Hg h) (a : Int) : Hg (zoF h a) :=
 ⟨g.cells, g.clen, by
  show (h.rs.take a.toNat ++ h.rs.drop (a.toNat + 1)).length ≤ 60
  have := g.rlen
  simp; omega, g.o0, g.o1, fun x hx => by
  rcases List.mem_append.1 hx with hx | hx
  · exact g.rin x (List.mem_of_mem_take hx)
  · exact g.rin x (List.mem_of_mem_drop hx), g.nup, g.nin, g.old⟩
theorem insL_mem {x y : Int} : ∀ {l : List Int}, y ∈ insL x l ↔ y = x ∨ y ∈ l
 | [] => by simp [insL]
 | n :: l => by
   unfold insL
   split
   · simp
   · simp only [List.mem_cons, insL_mem (l := l)]
     exact ⟨fun h => h.elim (fun h => .inr (.inl h)) (fun h => h.elim .inl fun h => .inr (.inr h)), fun h => h.elim (fun h => .inr (.inl h)) fun h => h.elim .inl fun h => .inr (.inr h)⟩
theorem zmD {x : Int} : ∀ {l : List Int}, l.Pairwise (· < ·) → x ∉ l → (insL x l).Pairwise (· < ·)
 | [], _, _ => List.pairwise_singleton _ _
 | n :: l, h, hx => by
   unfold insL
   have h1 := List.pairwise_cons.1 h
   split
   · rename_i hlt
     refine List.pairwise_cons.2 ⟨fun y hy => ?_, h⟩
     rcases List.mem_cons.1 hy with rfl | hy
     · exact hlt
     · exact Int.lt_trans hlt (h1.1 y hy)
   · rename_i hlt
     have hne : x ≠ n := fun e => hx (by simp [e])
     refine List.pairwise_cons.2 ⟨fun y hy => ?_, zmD h1.2 fun hm => hx (List.mem_cons_of_mem _ hm)⟩
     rcases insL_mem.1 hy with rfl | hy
     · omega
     · exact h1.1 y hy
theorem zkN {x : Int} : ∀ {l : List Int}, l.Pairwise (· < ·) → x ∉ l → insZ l (l.countP (· < x)) x = insL x l
 | [], _, _ => rfl
 | n :: l, h, hx => by
   have h1 := List.pairwise_cons.1 h
   have hne : x ≠ n := fun e => hx (by simp [e])
   unfold insL
   by_cases hlt : x < n
   · rw [if_pos hlt]
     have : (n :: l).countP (· < x) = 0 := by
      rw [List.countP_eq_zero]
      intro y hy
      rcases List.mem_cons.1 hy with rfl | hy
      · simp; omega
      · have := h1.1 y hy
        simp; omega
     rw [this]
     rfl
   · rw [if_neg hlt, List.countP_cons_of_pos (by simp; omega)]
     have := zkN h1.2 fun hm => hx (List.mem_cons_of_mem _ hm)
     rw [← this]
     simp [insZ]
theorem zhG {h : Hp} (g : Hg h) {at_ to : Int} {second : Bool} (ha : 0 ≤ at_ ∧ at_ < (h.cs.length : Int)) (ht : 0 ≤ to ∧ to < (h.cs.length : Int)) (hl : (cg h.cs at_).l = false) : Hg (setH h at_ second to) := by
 have hat := zjM ha.1 ha.2
 have hclen := g.clen
 have hset : ∀ (i : Nat) (x : Cl), (h.cs.set at_.toNat (setC (cg h.cs at_) second to))[i]? = some x → (i ≠ at_.toNat ∧ h.cs[i]? = some x) ∨ (i = at_.toNat ∧ x = setC (cg h.cs at_) second to) := fun i x hx => by
  rw [List.getElem?_set] at hx
  split at hx
  · rename_i he
    split at hx
    · exact .inr ⟨he.symm, (Option.some.inj hx).symm⟩
    · cases hx
  · rename_i he
    exact .inl ⟨fun e => he e.symm, hx⟩
 have hok := g.cells _ _ hat
 have hkids := zhj g.cells hat hl
 have hn0 : (cg h.cs at_).n = 0 := by
  have := hok.2
  unfold zbl at this
  rw [hl] at this
  simp only [Bool.and_eq_true, decide_eq_true_eq] at this
  exact this.1
 have hnotes : ∀ y, y ∈ (setH h at_ second to).ns ↔ (y = at_ ∧ putN h at_ to = true) ∨ y ∈ h.ns := fun y => by
  show y ∈ (match putN h at_ to with | true => insL at_ h.ns | false => h.ns) ↔ _
  cases hp : putN h at_ to with
  | true => simp [insL_mem]
  | false => simp
 have hput : putN h at_ to = true → (at_ < h.o ∧ h.o ≤ to) ∧ at_ ∉ h.ns := fun hp => by
  unfold putN at hp
  simp only [Bool.and_eq_true, decide_eq_true_eq, Bool.not_eq_true'] at hp
  refine ⟨hp.1, fun hm => ?_⟩
  rw [(zdD _ _).2 hm] at hp
  cases hp.2
 have hlen : (setH h at_ second to).cs.length = h.cs.length := by simp [setH]
 refine ⟨fun i x hx => ?_, by rw [hlen]; exact hclen, g.rlen, g.o0, by rw [hlen]; exact g.o1, by rw [hlen]; exact g.rin, ?_, fun x hx => ?_, fun i x hx hi hxl hor => ?_⟩
 · rw [hlen]
   rcases hset i x hx with ⟨_, h1⟩ | ⟨_, rfl⟩
   · exact g.cells i x h1
   · cases second with
     | true =>
       refine ⟨⟨hok.1.1, hok.1.2.1, ⟨by show _ ≤ to; omega, by show to ≤ _; omega⟩⟩, ?_⟩
       simp [setC, zbl, hl, hn0, zac, hkids.1, ht]
     | false =>
       refine ⟨⟨hok.1.1, ⟨by show _ ≤ to; omega, by show to ≤ _; omega⟩, hok.1.2.2⟩, ?_⟩
       simp [setC, zbl, hl, hn0, zac, hkids.2, ht]
 · show (match putN h at_ to with | true => insL at_ h.ns | false => h.ns).Pairwise (· < ·)
   cases hp : putN h at_ to with
   | true => exact zmD g.nup (hput hp).2
   | false => exact g.nup
 · rcases (hnotes x).1 hx with ⟨rfl, hp⟩ | hx
   · exact ⟨ha.1, (hput hp).1.1⟩
   · exact g.nin x hx
 · have hi : (i : Int) < h.o := hi
   have hor : h.o ≤ x.a ∨ h.o ≤ x.b := hor
   rw [hnotes]
   rcases hset i x hx with ⟨_, h1⟩ | ⟨he, rfl⟩
   · exact .inr (g.old i x h1 hi hxl hor)
   · have e : (i : Int) = at_ := by omega
     rw [e] at hi ⊢
     by_cases hm : at_ ∈ h.ns
     · exact .inr hm
     · refine .inl ⟨rfl, ?_⟩
       have hold : h.o ≤ (cg h.cs at_).a ∨ h.o ≤ (cg h.cs at_).b → False := fun hh => hm (by
        have := g.old at_.toNat _ hat (by omega) hl hh
        rwa [show ((at_.toNat : Nat) : Int) = at_ by omega] at this)
       have hto : h.o ≤ to := by
        cases second with
        | true => rcases hor with hh | hh
                  · exact absurd (Or.inl hh) hold
                  · exact hh
        | false => rcases hor with hh | hh
                   · exact hh
                   · exact absurd (Or.inr hh) hold
       have : hasB h.ns at_ = false := by
        cases hb : hasB h.ns at_ with
        | false => rfl
        | true => exact absurd ((zdD _ _).1 hb) hm
       simp [putN, hi, hto, this]
end Go.Den
namespace Go.Den
open Go
set_option linter.unusedVariables false
set_option maxRecDepth 100000
open Go.Proofs.YtcmcfebihbmmeaaDoor (num numV)
structure Ws where
 h : Hp
 full : Bool
 out : ByteArray
abbrev nlB : ByteArray := ByteArray.mk #[10]
abbrev sameB : ByteArray := ByteArray.mk #[115, 97, 109, 101, 10]
abbrev otherB : ByteArray := ByteArray.mk #[111, 116, 104, 101, 114, 10]
noncomputable def zck (fr : Bool) (room nur : Int) (h : Hp) : Hp :=
 match fr with
 | true => h
 | false => match decide (nur ≤ (h.cs.length : Int) - h.o) with
   | true => (match decide (room ≤ ((zap h).cs.length : Int)) with | true => zaX (zap h) | false => zap h)
   | false => (match decide (room ≤ (h.cs.length : Int)) with | true => zaX h | false => h)
def zjf (fr : Bool) (room : Int) (h : Hp) : Bool := !fr && decide (room ≤ (h.cs.length : Int))
def rg (h : Hp) (a : Int) : Int := h.rs.getD a.toNat 0
def ziw (pair : Bool) (a b : Int) (h : Hp) : Cl := match pair with | true => ⟨false, 0, rg h a, rg h b⟩ | false => ⟨true, a, 0, 0⟩
noncomputable def putO (fr : Bool) (room nur : Int) (pair : Bool) (a b : Int) (w : Ws) : Ws :=
 match zjf fr room (zck fr room nur w.h) with
 | true => ⟨zck fr room nur w.h, true, w.out⟩
 | false => ⟨addH (zck fr room nur w.h) (ziw pair a b (zck fr room nur w.h)), false, w.out⟩
def znS (w : Ws) (second : Bool) (at_ : Int) : Ws := ⟨zp5 w.h (match second with | true => (cg w.h.cs at_).b | false => (cg w.h.cs at_).a), w.full, w.out⟩
noncomputable def opW (fr : Bool) (room nur : Int) (k a b : Int) (w : Ws) : Ws :=
 if k = 1 then (match decide ((w.h.rs.length : Int) < 60) with | true => putO fr room nur false a b w | false => w)
 else if k = 2 then (match zac a w.h.rs.length && zac b w.h.rs.length && decide ((w.h.rs.length : Int) < 60) with | true => putO fr room nur true a b w | false => w)
 else if k = 3 then (match zac a w.h.rs.length && decide ((w.h.rs.length : Int) < 60) && !(cg w.h.cs (rg w.h a)).l with | true => znS w false (rg w.h a) | false => w)
 else if k = 4 then (match zac a w.h.rs.length && decide ((w.h.rs.length : Int) < 60) && !(cg w.h.cs (rg w.h a)).l with | true => znS w true (rg w.h a) | false => w)
 else if k = 5 then (match zac a w.h.rs.length with | true => ⟨zoF w.h a, w.full, w.out⟩ | false => w)
 else if k = 6 then (match zac a w.h.rs.length with | true => ⟨w.h, w.full, w.out ++ (showB w.h.cs 4 (rg w.h a) ++ nlB)⟩ | false => w)
 else if k = 7 then (match zac a w.h.rs.length && zac b w.h.rs.length && !(cg w.h.cs (rg w.h a)).l with | true => ⟨setH w.h (rg w.h a) false (rg w.h b), w.full, w.out⟩ | false => w)
 else if k = 8 then (match zac a w.h.rs.length && zac b w.h.rs.length && !(cg w.h.cs (rg w.h a)).l with | true => ⟨setH w.h (rg w.h a) true (rg w.h b), w.full, w.out⟩ | false => w)
 else if k = 9 then (match zac a w.h.rs.length && zac b w.h.rs.length with | true => ⟨w.h, w.full, w.out ++ (if rg w.h a = rg w.h b then sameB else otherB)⟩ | false => w)
 else if k = 10 then (match fr with | true => w | false => ⟨zaX w.h, w.full, w.out⟩)
 else if k = 11 then (match fr with | true => w | false => ⟨zap w.h, w.full, w.out⟩)
 else w
structure Op3 where
 k : Int
 a : Int
 b : Int
noncomputable def runW (fr : Bool) (room nur : Int) : List Op3 → Ws → Ws
 | [], w => w
 | x :: l, w => match (opW fr room nur x.k x.a x.b w).full with
   | true => opW fr room nur x.k x.a x.b w
   | false => runW fr room nur l (opW fr room nur x.k x.a x.b w)
structure Iv (fr : Bool) (m : Nat) (w : Ws) : Prop where
 g : Hg w.h
 len : fr = true → w.h.cs.length ≤ m
 out : w.out.size ≤ 700 * m
theorem Iv.up {fr : Bool} {m : Nat} {w : Ws} (h : Iv fr m w) : Iv fr (m + 1) w := ⟨h.g, fun e => by have := h.len e; omega, by have := h.out; omega⟩
theorem zib {fr : Bool} {room nur : Int} {h : Hp} (g : Hg h) : Hg (zck fr room nur h) := by
 unfold zck
 split
 · exact g
 · split
   · split
     · exact zdO (zcn g)
     · exact zcn g
   · split
     · exact zdO g
     · exact g
theorem zgM {fr : Bool} {room nur : Int} {h : Hp} : (zck fr room nur h).rs.length = h.rs.length := by
 unfold zck zaX zap mvH
 split
 · rfl
 · split <;> split <;> simp
theorem zoQ {h : Hp} {a : Int} (ha : zac a h.rs.length = true) : (0 ≤ a ∧ a < (h.rs.length : Int)) ∧ h.rs[a.toNat]? = some (rg h a) := by
 have h1 := zc1 ha
 refine ⟨h1, ?_⟩
 have : a.toNat < h.rs.length := by omega
 unfold rg
 rw [List.getD_eq_getElem?_getD, List.getElem?_eq_getElem this]
 rfl
theorem zdA {h : Hp} (g : Hg h) {a : Int} (ha : zac a h.rs.length = true) : 0 ≤ rg h a ∧ rg h a < (h.cs.length : Int) := g.rin _ (List.mem_of_getElem? (zoQ ha).2)
theorem zkf {fr : Bool} {room nur : Int} {pair : Bool} {a b : Int} {w : Ws} {m : Nat} (i : Iv fr m w) (hr : fr = false → room ≤ 200) (hm : m < 200) (ha : In64 a) (hlt : w.h.rs.length < 60)
 (hp : pair = true → zac a w.h.rs.length = true ∧ zac b w.h.rs.length = true) : Iv fr (m + 1) (putO fr room nur pair a b w) := by
 have g := zib (fr := fr) (room := room) (nur := nur) i.g
 have hrs := zgM (fr := fr) (room := room) (nur := nur) (h := w.h)
 have ht := fun (e : fr = true) => (by subst e; rfl : zck fr room nur w.h = w.h)
 have ho := i.out
 unfold putO
 generalize zck fr room nur w.h = h1 at *
 cases hf : zjf fr room h1 with
 | true => exact ⟨g, fun e => by show h1.cs.length ≤ _; rw [ht e]; have := i.len e; omega, by show w.out.size ≤ _; omega⟩
 | false =>
   have hc : h1.cs.length < 200 := by
    cases fr with
    | true => have := i.len rfl; rw [ht rfl]; omega
    | false =>
      have := hr rfl
      simp [zjf] at hf
      omega
   refine ⟨znC g ?_ ?_ hc (by omega), fun e => ?_, by show w.out.size ≤ _; omega⟩
   · cases pair with
     | true =>
       obtain ⟨h2, h3⟩ := hp rfl
       have h4 := zdA g (by rw [hrs]; exact h2)
       have h5 := zdA g (by rw [hrs]; exact h3)
       exact ⟨(show In64 0 from ⟨by decide, by decide⟩), ⟨by show _ ≤ rg h1 a; omega, by show rg h1 a ≤ _; omega⟩, ⟨by show _ ≤ rg h1 b; omega, by show rg h1 b ≤ _; omega⟩⟩
     | false => exact ⟨ha, (show In64 0 from ⟨by decide, by decide⟩), (show In64 0 from ⟨by decide, by decide⟩)⟩
   · cases pair with
     | true =>
       obtain ⟨h2, h3⟩ := hp rfl
       have h4 := zdA g (by rw [hrs]; exact h2)
       have h5 := zdA g (by rw [hrs]; exact h3)
       have h6 : rg h1 a < (h1.cs.length : Int) + 1 := by omega
       have h7 : rg h1 b < (h1.cs.length : Int) + 1 := by omega
       simp [ziw, zbl, zac, h4.1, h5.1, h6, h7]
     | false => rfl
   · show (h1.cs ++ [_]).length ≤ m + 1
     rw [ht e]
     have := i.len e
     simp; omega
theorem zlJ {fr : Bool} {room nur : Int} {k a b : Int} {w : Ws} {m : Nat} (i : Iv fr m w) (hr : fr = false → room ≤ 200) (hm : m < 200) (ha : In64 a) : Iv fr (m + 1) (opW fr room nur k a b w) := by
 have ho := i.out
 have same : ∀ h', Hg h' → (fr = true → h'.cs.length ≤ m + 1) → Iv fr (m + 1) ⟨h', w.full, w.out⟩ := fun h' g' hl => ⟨g', hl, by show w.out.size ≤ _; omega⟩
 unfold opW
 by_cases hk1 : k = 1
 · rw [if_pos hk1]
   cases hd : decide ((w.h.rs.length : Int) < 60) with
   | true => exact zkf i hr hm ha (by have := of_decide_eq_true hd; omega) (fun e => by cases e)
   | false => exact i.up
 rw [if_neg hk1]
 by_cases hk2 : k = 2
 · rw [if_pos hk2]
   cases hd : zac a w.h.rs.length && zac b w.h.rs.length && decide ((w.h.rs.length : Int) < 60) with
   | true =>
     simp only [Bool.and_eq_true, decide_eq_true_eq] at hd
     exact zkf i hr hm ha (by omega) (fun _ => hd.1)
   | false => exact i.up
 rw [if_neg hk2]
 by_cases hk3 : k = 3
 · rw [if_pos hk3]
   cases hd : zac a w.h.rs.length && decide ((w.h.rs.length : Int) < 60) && !(cg w.h.cs (rg w.h a)).l with
   | true =>
     simp only [Bool.and_eq_true, decide_eq_true_eq, Bool.not_eq_true'] at hd
     have h1 := zdA i.g hd.1.1
     exact same _ (zii i.g (i.g.wf _ h1.1 h1.2 hd.2).1 (by omega)) (fun e => by have := i.len e; show w.h.cs.length ≤ _; omega)
   | false => exact i.up
 rw [if_neg hk3]
 by_cases hk4 : k = 4
 · rw [if_pos hk4]
   cases hd : zac a w.h.rs.length && decide ((w.h.rs.length : Int) < 60) && !(cg w.h.cs (rg w.h a)).l with
   | true =>
     simp only [Bool.and_eq_true, decide_eq_true_eq, Bool.not_eq_true'] at hd
     have h1 := zdA i.g hd.1.1
     exact same _ (zii i.g (i.g.wf _ h1.1 h1.2 hd.2).2 (by omega)) (fun e => by have := i.len e; show w.h.cs.length ≤ _; omega)
   | false => exact i.up
 rw [if_neg hk4]
 by_cases hk5 : k = 5
 · rw [if_pos hk5]
   cases hd : zac a w.h.rs.length with
   | true => exact same _ (zmL i.g a) (fun e => by have := i.len e; show w.h.cs.length ≤ _; omega)
   | false => exact i.up
 rw [if_neg hk5]
 by_cases hk6 : k = 6
 · rw [if_pos hk6]
   cases hd : zac a w.h.rs.length with
   | true =>
     refine ⟨i.g, fun e => by have := i.len e; show w.h.cs.length ≤ _; omega, ?_⟩
     have := zbW w.h.cs i.g.cells 4 (rg w.h a)
     show (w.out ++ (showB w.h.cs 4 (rg w.h a) ++ nlB)).size ≤ _
     rw [ByteArray.size_append, ByteArray.size_append]
     have h1 : nlB.size = 1 := rfl
     omega
   | false => exact i.up
 rw [if_neg hk6]
 by_cases hk7 : k = 7
 · rw [if_pos hk7]
   cases hd : zac a w.h.rs.length && zac b w.h.rs.length && !(cg w.h.cs (rg w.h a)).l with
   | true =>
     simp only [Bool.and_eq_true, Bool.not_eq_true'] at hd
     exact same _ (zhG i.g (zdA i.g hd.1.1) (zdA i.g hd.1.2) hd.2) (fun e => by have := i.len e; show (w.h.cs.set _ _).length ≤ _; rw [List.length_set]; omega)
   | false => exact i.up
 rw [if_neg hk7]
 by_cases hk8 : k = 8
 · rw [if_pos hk8]
   cases hd : zac a w.h.rs.length && zac b w.h.rs.length && !(cg w.h.cs (rg w.h a)).l with
   | true =>
     simp only [Bool.and_eq_true, Bool.not_eq_true'] at hd
     exact same _ (zhG i.g (zdA i.g hd.1.1) (zdA i.g hd.1.2) hd.2) (fun e => by have := i.len e; show (w.h.cs.set _ _).length ≤ _; rw [List.length_set]; omega)
   | false => exact i.up
 rw [if_neg hk8]
 by_cases hk9 : k = 9
 · rw [if_pos hk9]
   cases hd : zac a w.h.rs.length && zac b w.h.rs.length with
   | true =>
     refine ⟨i.g, fun e => by have := i.len e; show w.h.cs.length ≤ _; omega, ?_⟩
     show (w.out ++ _).size ≤ _
     rw [ByteArray.size_append]
     have h1 : sameB.size = 5 := rfl
     have h2 : otherB.size = 6 := rfl
     split <;> omega
   | false => exact i.up
 rw [if_neg hk9]
 by_cases hk10 : k = 10
 · rw [if_pos hk10]
   cases fr with
   | true => exact i.up
   | false => exact same _ (zdO i.g) (fun e => by cases e)
 rw [if_neg hk10]
 by_cases hk11 : k = 11
 · rw [if_pos hk11]
   cases fr with
   | true => exact i.up
   | false => exact same _ (zcn i.g) (fun e => by cases e)
 rw [if_neg hk11]
 exact i.up
end Go.Den
