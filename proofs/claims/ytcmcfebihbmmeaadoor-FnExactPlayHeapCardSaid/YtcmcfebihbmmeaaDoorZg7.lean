/- Merged out of: HB ED HC E2 E3 E4 EA EB EF (prune.py, a program of this work's). -/
import Derived.Test.YtcmcfebihbmmeaaDoorZg6
import Derived.Test.YtcmcfebihbmmeaaDoorZg5
import Derived.KernelRfl
set_option linter.unusedVariables false
set_option linter.unusedSimpArgs false
set_option linter.unnecessarySimpa false
namespace Go.Den
open Go
set_option linter.unusedVariables false
set_option maxRecDepth 100000
abbrev L7 (o : Int) (cs rs : List Dat) (room nur : Int) (free full : Bool) (out : ByteArray) : List D := [.dat (I o), .own 97 cs, .own 3 rs, .dat (I room), .dat (I nur), .dat (B free), .dat (B full), .dat (S out)]
abbrev P7 (o : Int) (cs rs bs : List Dat) (room nur : Int) (full : Bool) : List D := [.dat (I o), .own 97 cs, .own 3 rs, .own 5 bs, .dat (I room), .dat (I nur), .dat (B full)]
theorem zkA (kk : Nat) (o : Int) (cs rs : List Dat) (room nur : Int) (free full : Bool) (out : ByteArray) (pair : Bool) (n a b : Int) (oa : Int) (ca ra : List Dat) (ob_ : Int) (cb rb : List Dat) (x91 : Int) (x99 : Int) {r : Res} (q1 : (decide ((rs.length : Int) = 60) = true) → r = ([], [[D.dat (I o), D.own 97 cs, D.own 3 rs, D.dat (I room), D.dat (I nur), D.dat (B free), D.dat (B full), D.dat (Dat.val (Value.string out))]], [])) (q2 : (decide ((rs.length : Int) = 60) = false) → ((!free) = true) → (decide (nur ≤ w64 ((cs.length : Int) - o)) = true) → (decide (room ≤ (ca.length : Int)) = true) → (decide (room ≤ (cb.length : Int)) = true) → (D.cleans [D.seq false [D.dat (I oa), D.own 97 ca, D.own 3 ra]] = true) ∧ (den cfg kk 102 [D.dat (Dat.agg [I o, Dat.lst true cs, Dat.lst true rs])] [] [] = some ([D.seq false [D.dat (I oa), D.own 97 ca, D.own 3 ra]], [], [])) ∧ (D.cleans [D.seq false [D.dat (I ob_), D.own 97 cb, D.own 3 rb]] = true) ∧ (den cfg kk 101 [D.dat (Dat.agg [I oa, Dat.lst true ca, Dat.lst true ra])] [] [] = some ([D.seq false [D.dat (I ob_), D.own 97 cb, D.own 3 rb]], [], [])) ∧ r = ([], [[D.dat (I ob_), D.own 97 cb, D.own 3 rb, D.dat (I room), D.dat (I nur), D.dat (B free), D.dat (B true), D.dat (Dat.val (Value.string out))]], [])) (q3 : (decide ((rs.length : Int) = 60) = false) → ((!free) = true) → (decide (nur ≤ w64 ((cs.length : Int) - o)) = true) → (decide (room ≤ (ca.length : Int)) = true) → (decide (room ≤ (cb.length : Int)) = false) → (pair = true) → (D.cleans [D.seq false [D.dat (I oa), D.own 97 ca, D.own 3 ra]] = true) ∧ (den cfg kk 102 [D.dat (Dat.agg [I o, Dat.lst true cs, Dat.lst true rs])] [] [] = some ([D.seq false [D.dat (I oa), D.own 97 ca, D.own 3 ra]], [], [])) ∧ (D.cleans [D.seq false [D.dat (I ob_), D.own 97 cb, D.own 3 rb]] = true) ∧ (den cfg kk 101 [D.dat (Dat.agg [I oa, Dat.lst true ca, Dat.lst true ra])] [] [] = some ([D.seq false [D.dat (I ob_), D.own 97 cb, D.own 3 rb]], [], [])) ∧ (0 ≤ a ∧ a < (rb.length : Int)) ∧ (rb[a.toNat]? = some (I x91)) ∧ (0 ≤ b ∧ b < (rb.length : Int)) ∧ (rb[b.toNat]? = some (I x99)) ∧ (cb.length + 1 ≤ 2147483648) ∧ (rb.length + 1 ≤ 2147483648) ∧ r = ([], [[D.dat (I ob_), D.own 97 (cb ++ [Dat.agg [B false, I 0, I x91, I x99]]), D.own 3 (rb ++ [Dat.val (Value.int IntKind.i64 (w64 (((cb ++ [Dat.agg [B false, I 0, I x91, I x99]]).length : Int) - 1)))]), D.dat (I room), D.dat (I nur), D.dat (B free), D.dat (B full), D.dat (Dat.val (Value.string out))]], [])) (q4 : (decide ((rs.length : Int) = 60) = false) → ((!free) = true) → (decide (nur ≤ w64 ((cs.length : Int) - o)) = true) → (decide (room ≤ (ca.length : Int)) = true) → (decide (room ≤ (cb.length : Int)) = false) → (pair = false) → (D.cleans [D.seq false [D.dat (I oa), D.own 97 ca, D.own 3 ra]] = true) ∧ (den cfg kk 102 [D.dat (Dat.agg [I o, Dat.lst true cs, Dat.lst true rs])] [] [] = some ([D.seq false [D.dat (I oa), D.own 97 ca, D.own 3 ra]], [], [])) ∧ (D.cleans [D.seq false [D.dat (I ob_), D.own 97 cb, D.own 3 rb]] = true) ∧ (den cfg kk 101 [D.dat (Dat.agg [I oa, Dat.lst true ca, Dat.lst true ra])] [] [] = some ([D.seq false [D.dat (I ob_), D.own 97 cb, D.own 3 rb]], [], [])) ∧ (cb.length + 1 ≤ 2147483648) ∧ (rb.length + 1 ≤ 2147483648) ∧ r = ([], [[D.dat (I ob_), D.own 97 (cb ++ [Dat.agg [B true, I n, I 0, I 0]]), D.own 3 (rb ++ [Dat.val (Value.int IntKind.i64 (w64 (((cb ++ [Dat.agg [B true, I n, I 0, I 0]]).length : Int) - 1)))]), D.dat (I room), D.dat (I nur), D.dat (B free), D.dat (B full), D.dat (Dat.val (Value.string out))]], [])) (q5 : (decide ((rs.length : Int) = 60) = false) → ((!free) = true) → (decide (nur ≤ w64 ((cs.length : Int) - o)) = true) → (decide (room ≤ (ca.length : Int)) = false) → (pair = true) → (D.cleans [D.seq false [D.dat (I oa), D.own 97 ca, D.own 3 ra]] = true) ∧ (den cfg kk 102 [D.dat (Dat.agg [I o, Dat.lst true cs, Dat.lst true rs])] [] [] = some ([D.seq false [D.dat (I oa), D.own 97 ca, D.own 3 ra]], [], [])) ∧ (0 ≤ a ∧ a < (ra.length : Int)) ∧ (ra[a.toNat]? = some (I x91)) ∧ (0 ≤ b ∧ b < (ra.length : Int)) ∧ (ra[b.toNat]? = some (I x99)) ∧ (ca.length + 1 ≤ 2147483648) ∧ (ra.length + 1 ≤ 2147483648) ∧ r = ([], [[D.dat (I oa), D.own 97 (ca ++ [Dat.agg [B false, I 0, I x91, I x99]]), D.own 3 (ra ++ [Dat.val (Value.int IntKind.i64 (w64 (((ca ++ [Dat.agg [B false, I 0, I x91, I x99]]).length : Int) - 1)))]), D.dat (I room), D.dat (I nur), D.dat (B free), D.dat (B full), D.dat (Dat.val (Value.string out))]], [])) (q6 : (decide ((rs.length : Int) = 60) = false) → ((!free) = true) → (decide (nur ≤ w64 ((cs.length : Int) - o)) = true) → (decide (room ≤ (ca.length : Int)) = false) → (pair = false) → (D.cleans [D.seq false [D.dat (I oa), D.own 97 ca, D.own 3 ra]] = true) ∧ (den cfg kk 102 [D.dat (Dat.agg [I o, Dat.lst true cs, Dat.lst true rs])] [] [] = some ([D.seq false [D.dat (I oa), D.own 97 ca, D.own 3 ra]], [], [])) ∧ (ca.length + 1 ≤ 2147483648) ∧ (ra.length + 1 ≤ 2147483648) ∧ r = ([], [[D.dat (I oa), D.own 97 (ca ++ [Dat.agg [B true, I n, I 0, I 0]]), D.own 3 (ra ++ [Dat.val (Value.int IntKind.i64 (w64 (((ca ++ [Dat.agg [B true, I n, I 0, I 0]]).length : Int) - 1)))]), D.dat (I room), D.dat (I nur), D.dat (B free), D.dat (B full), D.dat (Dat.val (Value.string out))]], [])) (q7 : (decide ((rs.length : Int) = 60) = false) → ((!free) = true) → (decide (nur ≤ w64 ((cs.length : Int) - o)) = false) → (decide (room ≤ (cs.length : Int)) = true) → (decide (room ≤ (cb.length : Int)) = true) → (D.cleans [D.seq false [D.dat (I ob_), D.own 97 cb, D.own 3 rb]] = true) ∧ (den cfg kk 101 [D.dat (Dat.agg [I o, Dat.lst true cs, Dat.lst true rs])] [] [] = some ([D.seq false [D.dat (I ob_), D.own 97 cb, D.own 3 rb]], [], [])) ∧ r = ([], [[D.dat (I ob_), D.own 97 cb, D.own 3 rb, D.dat (I room), D.dat (I nur), D.dat (B free), D.dat (B true), D.dat (Dat.val (Value.string out))]], [])) (q8 : (decide ((rs.length : Int) = 60) = false) → ((!free) = true) → (decide (nur ≤ w64 ((cs.length : Int) - o)) = false) → (decide (room ≤ (cs.length : Int)) = true) → (decide (room ≤ (cb.length : Int)) = false) → (pair = true) → (D.cleans [D.seq false [D.dat (I ob_), D.own 97 cb, D.own 3 rb]] = true) ∧ (den cfg kk 101 [D.dat (Dat.agg [I o, Dat.lst true cs, Dat.lst true rs])] [] [] = some ([D.seq false [D.dat (I ob_), D.own 97 cb, D.own 3 rb]], [], [])) ∧ (0 ≤ a ∧ a < (rb.length : Int)) ∧ (rb[a.toNat]? = some (I x91)) ∧ (0 ≤ b ∧ b < (rb.length : Int)) ∧ (rb[b.toNat]? = some (I x99)) ∧ (cb.length + 1 ≤ 2147483648) ∧ (rb.length + 1 ≤ 2147483648) ∧ r = ([], [[D.dat (I ob_), D.own 97 (cb ++ [Dat.agg [B false, I 0, I x91, I x99]]), D.own 3 (rb ++ [Dat.val (Value.int IntKind.i64 (w64 (((cb ++ [Dat.agg [B false, I 0, I x91, I x99]]).length : Int) - 1)))]), D.dat (I room), D.dat (I nur), D.dat (B free), D.dat (B full), D.dat (Dat.val (Value.string out))]], [])) (q9 : (decide ((rs.length : Int) = 60) = false) → ((!free) = true) → (decide (nur ≤ w64 ((cs.length : Int) - o)) = false) → (decide (room ≤ (cs.length : Int)) = true) → (decide (room ≤ (cb.length : Int)) = false) → (pair = false) → (D.cleans [D.seq false [D.dat (I ob_), D.own 97 cb, D.own 3 rb]] = true) ∧ (den cfg kk 101 [D.dat (Dat.agg [I o, Dat.lst true cs, Dat.lst true rs])] [] [] = some ([D.seq false [D.dat (I ob_), D.own 97 cb, D.own 3 rb]], [], [])) ∧ (cb.length + 1 ≤ 2147483648) ∧ (rb.length + 1 ≤ 2147483648) ∧ r = ([], [[D.dat (I ob_), D.own 97 (cb ++ [Dat.agg [B true, I n, I 0, I 0]]), D.own 3 (rb ++ [Dat.val (Value.int IntKind.i64 (w64 (((cb ++ [Dat.agg [B true, I n, I 0, I 0]]).length : Int) - 1)))]), D.dat (I room), D.dat (I nur), D.dat (B free), D.dat (B full), D.dat (Dat.val (Value.string out))]], [])) (q10 : (decide ((rs.length : Int) = 60) = false) → ((!free) = true) → (decide (nur ≤ w64 ((cs.length : Int) - o)) = false) → (decide (room ≤ (cs.length : Int)) = false) → (pair = true) → (0 ≤ a ∧ a < (rs.length : Int)) ∧ (rs[a.toNat]? = some (I x91)) ∧ (0 ≤ b ∧ b < (rs.length : Int)) ∧ (rs[b.toNat]? = some (I x99)) ∧ (cs.length + 1 ≤ 2147483648) ∧ (rs.length + 1 ≤ 2147483648) ∧ r = ([], [[D.dat (I o), D.own 97 (cs ++ [Dat.agg [B false, I 0, I x91, I x99]]), D.own 3 (rs ++ [Dat.val (Value.int IntKind.i64 (w64 (((cs ++ [Dat.agg [B false, I 0, I x91, I x99]]).length : Int) - 1)))]), D.dat (I room), D.dat (I nur), D.dat (B free), D.dat (B full), D.dat (Dat.val (Value.string out))]], [])) (q11 : (decide ((rs.length : Int) = 60) = false) → ((!free) = true) → (decide (nur ≤ w64 ((cs.length : Int) - o)) = false) → (decide (room ≤ (cs.length : Int)) = false) → (pair = false) → (cs.length + 1 ≤ 2147483648) ∧ (rs.length + 1 ≤ 2147483648) ∧ r = ([], [[D.dat (I o), D.own 97 (cs ++ [Dat.agg [B true, I n, I 0, I 0]]), D.own 3 (rs ++ [Dat.val (Value.int IntKind.i64 (w64 (((cs ++ [Dat.agg [B true, I n, I 0, I 0]]).length : Int) - 1)))]), D.dat (I room), D.dat (I nur), D.dat (B free), D.dat (B full), D.dat (Dat.val (Value.string out))]], [])) (q12 : (decide ((rs.length : Int) = 60) = false) → ((!free) = false) → (pair = true) → (0 ≤ a ∧ a < (rs.length : Int)) ∧ (rs[a.toNat]? = some (I x91)) ∧ (0 ≤ b ∧ b < (rs.length : Int)) ∧ (rs[b.toNat]? = some (I x99)) ∧ (cs.length + 1 ≤ 2147483648) ∧ (rs.length + 1 ≤ 2147483648) ∧ r = ([], [[D.dat (I o), D.own 97 (cs ++ [Dat.agg [B false, I 0, I x91, I x99]]), D.own 3 (rs ++ [Dat.val (Value.int IntKind.i64 (w64 (((cs ++ [Dat.agg [B false, I 0, I x91, I x99]]).length : Int) - 1)))]), D.dat (I room), D.dat (I nur), D.dat (B free), D.dat (B full), D.dat (Dat.val (Value.string out))]], [])) (q13 : (decide ((rs.length : Int) = 60) = false) → ((!free) = false) → (pair = false) → (cs.length + 1 ≤ 2147483648) ∧ (rs.length + 1 ≤ 2147483648) ∧ r = ([], [[D.dat (I o), D.own 97 (cs ++ [Dat.agg [B true, I n, I 0, I 0]]), D.own 3 (rs ++ [Dat.val (Value.int IntKind.i64 (w64 (((cs ++ [Dat.agg [B true, I n, I 0, I 0]]).length : Int) - 1)))]), D.dat (I room), D.dat (I nur), D.dat (B free), D.dat (B full), D.dat (Dat.val (Value.string out))]], [])) : zan cfg kk (den cfg kk) 99 Go.Proofs.Tryd.f99 [.ptr (.up 0) 0, .dat (B pair), .dat (I n), .dat (I a), .dat (I b)] [L7 o cs rs room nur free full out] [] = some r := by
 rcases Bool.eq_false_or_eq_true (decide ((rs.length : Int) = 60)) with d1 | d1
 · have oz := q1 d1
   subst oz; exact zab [(45, .ret [.seq false [.dat (I oa), .own 97 ca, .own 3 ra]]), (64, .ret [.seq false [.dat (I ob_), .own 97 cb, .own 3 rb]]), (109, .ok), (90, .ok), (127, .ok), (91, .at (I x91)), (98, .ok), (99, .at (I x99)), (200017, .yes)] (ob d1 ob0) (by kernel_rfl)
 · rcases Bool.eq_false_or_eq_true ((!free)) with d2 | d2
   · rcases Bool.eq_false_or_eq_true (decide (nur ≤ w64 ((cs.length : Int) - o))) with d3 | d3
     · rcases Bool.eq_false_or_eq_true (decide (room ≤ (ca.length : Int))) with d6 | d6
       · rcases Bool.eq_false_or_eq_true (decide (room ≤ (cb.length : Int))) with d9 | d9
         · obtain ⟨hz1, hz2, hz3, hz4, oz⟩ := q2 d1 d2 d3 d6 d9
           subst oz; exact zab [(45, .ret [.seq false [.dat (I oa), .own 97 ca, .own 3 ra]]), (64, .ret [.seq false [.dat (I ob_), .own 97 cb, .own 3 rb]]), (109, .ok), (90, .ok), (127, .ok), (91, .at (I x91)), (98, .ok), (99, .at (I x99)), (200017, .no), (200022, .yes), (200039, .yes), (200058, .yes), (200077, .yes)] (ob d1 (ob d2 (ob d3 (ob hz1 (ob hz2 (ob d6 (ob hz3 (ob hz4 (ob d9 ob0))))))))) (by kernel_rfl)
         · rcases Bool.eq_false_or_eq_true (pair) with d10 | d10
           · obtain ⟨hz1, hz2, hz3, hz4, hz5, hz6, hz7, hz8, hz9, hz10, oz⟩ := q3 d1 d2 d3 d6 d9 d10
             subst oz; exact zab [(45, .ret [.seq false [.dat (I oa), .own 97 ca, .own 3 ra]]), (64, .ret [.seq false [.dat (I ob_), .own 97 cb, .own 3 rb]]), (109, .ok), (90, .ok), (127, .ok), (91, .at (I x91)), (98, .ok), (99, .at (I x99)), (200017, .no), (200022, .yes), (200039, .yes), (200058, .yes), (200077, .no), (200083, .yes)] (ob d1 (ob d2 (ob d3 (ob hz1 (ob hz2 (ob d6 (ob hz3 (ob hz4 (ob d9 (ob d10 (ob hz5 (ob hz6 (ob hz7 (ob hz8 (ob (obT hz9) (ob (obT hz10) ob0)))))))))))))))) (by kernel_rfl)
           · obtain ⟨hz1, hz2, hz3, hz4, hz5, hz6, oz⟩ := q4 d1 d2 d3 d6 d9 d10
             subst oz; exact zab [(45, .ret [.seq false [.dat (I oa), .own 97 ca, .own 3 ra]]), (64, .ret [.seq false [.dat (I ob_), .own 97 cb, .own 3 rb]]), (109, .ok), (90, .ok), (127, .ok), (91, .at (I x91)), (98, .ok), (99, .at (I x99)), (200017, .no), (200022, .yes), (200039, .yes), (200058, .yes), (200077, .no), (200083, .no)] (ob d1 (ob d2 (ob d3 (ob hz1 (ob hz2 (ob d6 (ob hz3 (ob hz4 (ob d9 (ob d10 (ob (obT hz5) (ob (obT hz6) ob0)))))))))))) (by kernel_rfl)
       · rcases Bool.eq_false_or_eq_true (pair) with d8 | d8
         · obtain ⟨hz1, hz2, hz3, hz4, hz5, hz6, hz7, hz8, oz⟩ := q5 d1 d2 d3 d6 d8
           subst oz; exact zab [(45, .ret [.seq false [.dat (I oa), .own 97 ca, .own 3 ra]]), (64, .ret [.seq false [.dat (I ob_), .own 97 cb, .own 3 rb]]), (109, .ok), (90, .ok), (127, .ok), (91, .at (I x91)), (98, .ok), (99, .at (I x99)), (200017, .no), (200022, .yes), (200039, .yes), (200058, .no), (200077, .no), (200083, .yes)] (ob d1 (ob d2 (ob d3 (ob hz1 (ob hz2 (ob d6 (ob (show decide (room ≤ (ca.length : Int)) = false from (by simp [d1, d2, d3, d6])) (ob d8 (ob hz3 (ob hz4 (ob hz5 (ob hz6 (ob (obT hz7) (ob (obT hz8) ob0)))))))))))))) (by kernel_rfl)
         · obtain ⟨hz1, hz2, hz3, hz4, oz⟩ := q6 d1 d2 d3 d6 d8
           subst oz; exact zab [(45, .ret [.seq false [.dat (I oa), .own 97 ca, .own 3 ra]]), (64, .ret [.seq false [.dat (I ob_), .own 97 cb, .own 3 rb]]), (109, .ok), (90, .ok), (127, .ok), (91, .at (I x91)), (98, .ok), (99, .at (I x99)), (200017, .no), (200022, .yes), (200039, .yes), (200058, .no), (200077, .no), (200083, .no)] (ob d1 (ob d2 (ob d3 (ob hz1 (ob hz2 (ob d6 (ob (show decide (room ≤ (ca.length : Int)) = false from (by simp [d1, d2, d3, d6])) (ob d8 (ob (obT hz3) (ob (obT hz4) ob0)))))))))) (by kernel_rfl)
     · rcases Bool.eq_false_or_eq_true (decide (room ≤ (cs.length : Int))) with d4 | d4
       · rcases Bool.eq_false_or_eq_true (decide (room ≤ (cb.length : Int))) with d7 | d7
         · obtain ⟨hz1, hz2, oz⟩ := q7 d1 d2 d3 d4 d7
           subst oz; exact zab [(45, .ret [.seq false [.dat (I oa), .own 97 ca, .own 3 ra]]), (64, .ret [.seq false [.dat (I ob_), .own 97 cb, .own 3 rb]]), (109, .ok), (90, .ok), (127, .ok), (91, .at (I x91)), (98, .ok), (99, .at (I x99)), (200017, .no), (200022, .yes), (200039, .no), (200058, .yes), (200077, .yes)] (ob d1 (ob d2 (ob d3 (ob d4 (ob hz1 (ob hz2 (ob d7 ob0))))))) (by kernel_rfl)
         · rcases Bool.eq_false_or_eq_true (pair) with d8 | d8
           · obtain ⟨hz1, hz2, hz3, hz4, hz5, hz6, hz7, hz8, oz⟩ := q8 d1 d2 d3 d4 d7 d8
             subst oz; exact zab [(45, .ret [.seq false [.dat (I oa), .own 97 ca, .own 3 ra]]), (64, .ret [.seq false [.dat (I ob_), .own 97 cb, .own 3 rb]]), (109, .ok), (90, .ok), (127, .ok), (91, .at (I x91)), (98, .ok), (99, .at (I x99)), (200017, .no), (200022, .yes), (200039, .no), (200058, .yes), (200077, .no), (200083, .yes)] (ob d1 (ob d2 (ob d3 (ob d4 (ob hz1 (ob hz2 (ob d7 (ob d8 (ob hz3 (ob hz4 (ob hz5 (ob hz6 (ob (obT hz7) (ob (obT hz8) ob0)))))))))))))) (by kernel_rfl)
           · obtain ⟨hz1, hz2, hz3, hz4, oz⟩ := q9 d1 d2 d3 d4 d7 d8
             subst oz; exact zab [(45, .ret [.seq false [.dat (I oa), .own 97 ca, .own 3 ra]]), (64, .ret [.seq false [.dat (I ob_), .own 97 cb, .own 3 rb]]), (109, .ok), (90, .ok), (127, .ok), (91, .at (I x91)), (98, .ok), (99, .at (I x99)), (200017, .no), (200022, .yes), (200039, .no), (200058, .yes), (200077, .no), (200083, .no)] (ob d1 (ob d2 (ob d3 (ob d4 (ob hz1 (ob hz2 (ob d7 (ob d8 (ob (obT hz3) (ob (obT hz4) ob0)))))))))) (by kernel_rfl)
       · rcases Bool.eq_false_or_eq_true (pair) with d6 | d6
         · obtain ⟨hz1, hz2, hz3, hz4, hz5, hz6, oz⟩ := q10 d1 d2 d3 d4 d6
           subst oz; exact zab [(45, .ret [.seq false [.dat (I oa), .own 97 ca, .own 3 ra]]), (64, .ret [.seq false [.dat (I ob_), .own 97 cb, .own 3 rb]]), (109, .ok), (90, .ok), (127, .ok), (91, .at (I x91)), (98, .ok), (99, .at (I x99)), (200017, .no), (200022, .yes), (200039, .no), (200058, .no), (200077, .no), (200083, .yes)] (ob d1 (ob d2 (ob d3 (ob d4 (ob (show decide (room ≤ (cs.length : Int)) = false from (by simp [d1, d2, d3, d4])) (ob d6 (ob hz1 (ob hz2 (ob hz3 (ob hz4 (ob (obT hz5) (ob (obT hz6) ob0)))))))))))) (by kernel_rfl)
         · obtain ⟨hz1, hz2, oz⟩ := q11 d1 d2 d3 d4 d6
           subst oz; exact zab [(45, .ret [.seq false [.dat (I oa), .own 97 ca, .own 3 ra]]), (64, .ret [.seq false [.dat (I ob_), .own 97 cb, .own 3 rb]]), (109, .ok), (90, .ok), (127, .ok), (91, .at (I x91)), (98, .ok), (99, .at (I x99)), (200017, .no), (200022, .yes), (200039, .no), (200058, .no), (200077, .no), (200083, .no)] (ob d1 (ob d2 (ob d3 (ob d4 (ob (show decide (room ≤ (cs.length : Int)) = false from (by simp [d1, d2, d3, d4])) (ob d6 (ob (obT hz1) (ob (obT hz2) ob0)))))))) (by kernel_rfl)
   · rcases Bool.eq_false_or_eq_true (pair) with d3 | d3
     · obtain ⟨hz1, hz2, hz3, hz4, hz5, hz6, oz⟩ := q12 d1 d2 d3
       subst oz; exact zab [(45, .ret [.seq false [.dat (I oa), .own 97 ca, .own 3 ra]]), (64, .ret [.seq false [.dat (I ob_), .own 97 cb, .own 3 rb]]), (109, .ok), (90, .ok), (127, .ok), (91, .at (I x91)), (98, .ok), (99, .at (I x99)), (200017, .no), (200022, .no), (200083, .yes)] (ob d1 (ob d2 (ob d3 (ob hz1 (ob hz2 (ob hz3 (ob hz4 (ob (obT hz5) (ob (obT hz6) ob0))))))))) (by kernel_rfl)
     · obtain ⟨hz1, hz2, oz⟩ := q13 d1 d2 d3
       subst oz; exact zab [(45, .ret [.seq false [.dat (I oa), .own 97 ca, .own 3 ra]]), (64, .ret [.seq false [.dat (I ob_), .own 97 cb, .own 3 rb]]), (109, .ok), (90, .ok), (127, .ok), (91, .at (I x91)), (98, .ok), (99, .at (I x99)), (200017, .no), (200022, .no), (200083, .no)] (ob d1 (ob d2 (ob d3 (ob (obT hz1) (ob (obT hz2) ob0))))) (by kernel_rfl)
theorem op7_1 (kk : Nat) (o : Int) (cs rs : List Dat) (room nur : Int) (free full : Bool) (out : ByteArray) (a b : Int) (o1 : Int) (cs1 rs1 : List Dat) (full1 : Bool) (g19 : Bool) (g24 : Bool) {r : Res} (q1 : (den cfg kk 39 [D.dat (I a), D.dat (I 0), D.dat (I (w64 ((rs.length : Int) - 1)))] [] [] = some ([D.dat (B g19)], [], [])) ∧ (den cfg kk 39 [D.dat (I b), D.dat (I 0), D.dat (I (w64 ((rs.length : Int) - 1)))] [] [] = some ([D.dat (B g24)], [], [])) ∧ (den cfg kk 99 [D.ptr (Ref.up 0) 0, D.dat (B false), D.dat (I a), D.dat (I 0), D.dat (I 0)] [[D.dat (I o), D.own 97 cs, D.own 3 rs, D.dat (I room), D.dat (I nur), D.dat (B free), D.dat (B full), D.dat (Dat.val (Value.string out))]] [] = some ([], [[D.dat (I o1), D.own 97 cs1, D.own 3 rs1, D.dat (I room), D.dat (I nur), D.dat (B free), D.dat (B full1), D.dat (Dat.val (Value.string out))]], [])) ∧ r = ([], [[D.dat (I o1), D.own 97 cs1, D.own 3 rs1, D.dat (I room), D.dat (I nur), D.dat (B free), D.dat (B full1), D.dat (Dat.val (Value.string out))]], [])) : zan cfg kk (den cfg kk) 78 Go.Proofs.Tryd.f78 [.ptr (.up 0) 0, .dat (N3 1 a b)] [L7 o cs rs room nur free full out] [] = some r := by
 obtain ⟨hz1, hz2, hz3, oz⟩ := q1
 subst oz; exact zab [(32, .back [] [L7 o1 cs1 rs1 room nur free full1 out] []), (44, .back [] [L7 o1 cs1 rs1 room nur free full1 out] []), (19, .ret [.dat (B g19)]), (24, .ret [.dat (B g24)])] (ob hz1 (ob hz2 (ob hz3 (ob (rfl : false = false) ob0)))) (by kernel_rfl)
theorem zpM (kk : Nat) (o : Int) (cs rs : List Dat) (room nur : Int) (free full : Bool) (out : ByteArray) (a b : Int) (o1 : Int) (cs1 rs1 : List Dat) (full1 : Bool) (g19 : Bool) (g24 : Bool) {r : Res} (q1 : (g19 = true) → (g24 = true) → (den cfg kk 39 [D.dat (I a), D.dat (I 0), D.dat (I (w64 ((rs.length : Int) - 1)))] [] [] = some ([D.dat (B g19)], [], [])) ∧ (den cfg kk 39 [D.dat (I b), D.dat (I 0), D.dat (I (w64 ((rs.length : Int) - 1)))] [] [] = some ([D.dat (B g24)], [], [])) ∧ (den cfg kk 99 [D.ptr (Ref.up 0) 0, D.dat (B true), D.dat (I 0), D.dat (I a), D.dat (I b)] [[D.dat (I o), D.own 97 cs, D.own 3 rs, D.dat (I room), D.dat (I nur), D.dat (B free), D.dat (B full), D.dat (Dat.val (Value.string out))]] [] = some ([], [[D.dat (I o1), D.own 97 cs1, D.own 3 rs1, D.dat (I room), D.dat (I nur), D.dat (B free), D.dat (B full1), D.dat (Dat.val (Value.string out))]], [])) ∧ r = ([], [[D.dat (I o1), D.own 97 cs1, D.own 3 rs1, D.dat (I room), D.dat (I nur), D.dat (B free), D.dat (B full1), D.dat (Dat.val (Value.string out))]], [])) (q2 : (g19 = true) → (g24 = false) → (den cfg kk 39 [D.dat (I a), D.dat (I 0), D.dat (I (w64 ((rs.length : Int) - 1)))] [] [] = some ([D.dat (B g19)], [], [])) ∧ (den cfg kk 39 [D.dat (I b), D.dat (I 0), D.dat (I (w64 ((rs.length : Int) - 1)))] [] [] = some ([D.dat (B g24)], [], [])) ∧ r = ([], [[D.dat (I o), D.own 97 cs, D.own 3 rs, D.dat (I room), D.dat (I nur), D.dat (B free), D.dat (B full), D.dat (Dat.val (Value.string out))]], [])) (q3 : (g19 = false) → (den cfg kk 39 [D.dat (I a), D.dat (I 0), D.dat (I (w64 ((rs.length : Int) - 1)))] [] [] = some ([D.dat (B g19)], [], [])) ∧ (den cfg kk 39 [D.dat (I b), D.dat (I 0), D.dat (I (w64 ((rs.length : Int) - 1)))] [] [] = some ([D.dat (B g24)], [], [])) ∧ r = ([], [[D.dat (I o), D.own 97 cs, D.own 3 rs, D.dat (I room), D.dat (I nur), D.dat (B free), D.dat (B full), D.dat (Dat.val (Value.string out))]], [])) : zan cfg kk (den cfg kk) 78 Go.Proofs.Tryd.f78 [.ptr (.up 0) 0, .dat (N3 2 a b)] [L7 o cs rs room nur free full out] [] = some r := by
 rcases Bool.eq_false_or_eq_true (g19) with d3 | d3
 · rcases Bool.eq_false_or_eq_true (g24) with d4 | d4
   · obtain ⟨hz1, hz2, hz3, oz⟩ := q1 d3 d4
     subst oz; exact zab [(32, .back [] [L7 o1 cs1 rs1 room nur free full1 out] []), (44, .back [] [L7 o1 cs1 rs1 room nur free full1 out] []), (19, .ret [.dat (B g19)]), (24, .ret [.dat (B g24)]), (200036, .yes), (200038, .yes)] (ob hz1 (ob hz2 (ob d3 (ob d4 (ob hz3 (ob (rfl : false = false) ob0)))))) (by kernel_rfl)
   · obtain ⟨hz1, hz2, oz⟩ := q2 d3 d4
     subst oz; exact zab [(32, .back [] [L7 o1 cs1 rs1 room nur free full1 out] []), (44, .back [] [L7 o1 cs1 rs1 room nur free full1 out] []), (19, .ret [.dat (B g19)]), (24, .ret [.dat (B g24)]), (200036, .yes), (200038, .no)] (ob hz1 (ob hz2 (ob d3 (ob d4 ob0)))) (by kernel_rfl)
 · obtain ⟨hz1, hz2, oz⟩ := q3 d3
   subst oz; exact zab [(32, .back [] [L7 o1 cs1 rs1 room nur free full1 out] []), (44, .back [] [L7 o1 cs1 rs1 room nur free full1 out] []), (19, .ret [.dat (B g19)]), (24, .ret [.dat (B g24)]), (200036, .no)] (ob hz1 (ob hz2 (ob d3 ob0))) (by kernel_rfl)
theorem op7_3 (kk : Nat) (o : Int) (cs rs : List Dat) (room nur : Int) (free full : Bool) (out : ByteArray) (a b : Int) (g19 : Bool) (g24 : Bool) (x67 : Int) (c69 : Cl) {r : Res} (q1 : ((!g19) = true) → (den cfg kk 39 [D.dat (I a), D.dat (I 0), D.dat (I (w64 ((rs.length : Int) - 1)))] [] [] = some ([D.dat (B g19)], [], [])) ∧ (den cfg kk 39 [D.dat (I b), D.dat (I 0), D.dat (I (w64 ((rs.length : Int) - 1)))] [] [] = some ([D.dat (B g24)], [], [])) ∧ r = ([], [[D.dat (I o), D.own 97 cs, D.own 3 rs, D.dat (I room), D.dat (I nur), D.dat (B free), D.dat (B full), D.dat (Dat.val (Value.string out))]], [])) (q2 : ((!g19) = false) → (decide ((rs.length : Int) = 60) = true) → (den cfg kk 39 [D.dat (I a), D.dat (I 0), D.dat (I (w64 ((rs.length : Int) - 1)))] [] [] = some ([D.dat (B g19)], [], [])) ∧ (den cfg kk 39 [D.dat (I b), D.dat (I 0), D.dat (I (w64 ((rs.length : Int) - 1)))] [] [] = some ([D.dat (B g24)], [], [])) ∧ r = ([], [[D.dat (I o), D.own 97 cs, D.own 3 rs, D.dat (I room), D.dat (I nur), D.dat (B free), D.dat (B full), D.dat (Dat.val (Value.string out))]], [])) (q3 : ((!g19) = false) → (decide ((rs.length : Int) = 60) = false) → ((!c69.l) = true) → (den cfg kk 39 [D.dat (I a), D.dat (I 0), D.dat (I (w64 ((rs.length : Int) - 1)))] [] [] = some ([D.dat (B g19)], [], [])) ∧ (den cfg kk 39 [D.dat (I b), D.dat (I 0), D.dat (I (w64 ((rs.length : Int) - 1)))] [] [] = some ([D.dat (B g24)], [], [])) ∧ (0 ≤ a ∧ a < (rs.length : Int)) ∧ (rs[a.toNat]? = some (I x67)) ∧ (0 ≤ x67 ∧ x67 < (cs.length : Int)) ∧ (cs[x67.toNat]? = some (Dat.agg [B c69.l, I c69.n, I c69.a, I c69.b])) ∧ (rs.length + 1 ≤ 2147483648) ∧ r = ([], [[D.dat (I o), D.own 97 cs, D.own 3 (rs ++ [I c69.a]), D.dat (I room), D.dat (I nur), D.dat (B free), D.dat (B full), D.dat (Dat.val (Value.string out))]], [])) (q4 : ((!g19) = false) → (decide ((rs.length : Int) = 60) = false) → ((!c69.l) = false) → (den cfg kk 39 [D.dat (I a), D.dat (I 0), D.dat (I (w64 ((rs.length : Int) - 1)))] [] [] = some ([D.dat (B g19)], [], [])) ∧ (den cfg kk 39 [D.dat (I b), D.dat (I 0), D.dat (I (w64 ((rs.length : Int) - 1)))] [] [] = some ([D.dat (B g24)], [], [])) ∧ (0 ≤ a ∧ a < (rs.length : Int)) ∧ (rs[a.toNat]? = some (I x67)) ∧ (0 ≤ x67 ∧ x67 < (cs.length : Int)) ∧ (cs[x67.toNat]? = some (Dat.agg [B c69.l, I c69.n, I c69.a, I c69.b])) ∧ r = ([], [[D.dat (I o), D.own 97 cs, D.own 3 rs, D.dat (I room), D.dat (I nur), D.dat (B free), D.dat (B full), D.dat (Dat.val (Value.string out))]], [])) : zan cfg kk (den cfg kk) 78 Go.Proofs.Tryd.f78 [.ptr (.up 0) 0, .dat (N3 3 a b)] [L7 o cs rs room nur free full out] [] = some r := by
 rcases Bool.eq_false_or_eq_true ((!g19)) with d3 | d3
 · obtain ⟨hz1, hz2, oz⟩ := q1 d3
   subst oz; exact zab [(19, .ret [.dat (B g19)]), (24, .ret [.dat (B g24)]), (66, .ok), (67, .at (I x67)), (68, .ok), (69, .at (c69.d)), (87, .ok), (200050, .yes)] (ob hz1 (ob hz2 (ob d3 (ob (rfl : true = true) ob0)))) (by kernel_rfl)
 · rcases Bool.eq_false_or_eq_true (decide ((rs.length : Int) = 60)) with d5 | d5
   · obtain ⟨hz1, hz2, oz⟩ := q2 d3 d5
     subst oz; exact zab [(19, .ret [.dat (B g19)]), (24, .ret [.dat (B g24)]), (66, .ok), (67, .at (I x67)), (68, .ok), (69, .at (c69.d)), (87, .ok), (200050, .no), (200053, .yes)] (ob hz1 (ob hz2 (ob d3 (ob (rfl : false = false) (ob d5 ob0))))) (by kernel_rfl)
   · rcases Bool.eq_false_or_eq_true ((!c69.l)) with d10 | d10
     · obtain ⟨hz1, hz2, hz3, hz4, hz5, hz6, hz7, oz⟩ := q3 d3 d5 d10
       subst oz; exact zab [(19, .ret [.dat (B g19)]), (24, .ret [.dat (B g24)]), (66, .ok), (67, .at (I x67)), (68, .ok), (69, .at (c69.d)), (87, .ok), (200050, .no), (200053, .no), (200073, .yes)] (ob hz1 (ob hz2 (ob d3 (ob (rfl : false = false) (ob d5 (ob hz3 (ob hz4 (ob hz5 (ob hz6 (ob d10 (ob (rfl : true = true) (ob (rfl : true = true) (ob (obT hz7) ob0))))))))))))) (by kernel_rfl)
     · obtain ⟨hz1, hz2, hz3, hz4, hz5, hz6, oz⟩ := q4 d3 d5 d10
       subst oz; exact zab [(19, .ret [.dat (B g19)]), (24, .ret [.dat (B g24)]), (66, .ok), (67, .at (I x67)), (68, .ok), (69, .at (c69.d)), (87, .ok), (200050, .no), (200053, .no), (200073, .no), (200093, .no)] (ob hz1 (ob hz2 (ob d3 (ob (rfl : false = false) (ob d5 (ob hz3 (ob hz4 (ob hz5 (ob hz6 (ob d10 (ob (rfl : false = false) (ob (rfl : false = false) (ob (show (!c69.l) = false from (by simp [d3, d5, d10])) ob0))))))))))))) (by kernel_rfl)
theorem op7_4 (kk : Nat) (o : Int) (cs rs : List Dat) (room nur : Int) (free full : Bool) (out : ByteArray) (a b : Int) (g19 : Bool) (g24 : Bool) (x67 : Int) (c69 : Cl) {r : Res} (q1 : ((!g19) = true) → (den cfg kk 39 [D.dat (I a), D.dat (I 0), D.dat (I (w64 ((rs.length : Int) - 1)))] [] [] = some ([D.dat (B g19)], [], [])) ∧ (den cfg kk 39 [D.dat (I b), D.dat (I 0), D.dat (I (w64 ((rs.length : Int) - 1)))] [] [] = some ([D.dat (B g24)], [], [])) ∧ r = ([], [[D.dat (I o), D.own 97 cs, D.own 3 rs, D.dat (I room), D.dat (I nur), D.dat (B free), D.dat (B full), D.dat (Dat.val (Value.string out))]], [])) (q2 : ((!g19) = false) → (decide ((rs.length : Int) = 60) = true) → (den cfg kk 39 [D.dat (I a), D.dat (I 0), D.dat (I (w64 ((rs.length : Int) - 1)))] [] [] = some ([D.dat (B g19)], [], [])) ∧ (den cfg kk 39 [D.dat (I b), D.dat (I 0), D.dat (I (w64 ((rs.length : Int) - 1)))] [] [] = some ([D.dat (B g24)], [], [])) ∧ r = ([], [[D.dat (I o), D.own 97 cs, D.own 3 rs, D.dat (I room), D.dat (I nur), D.dat (B free), D.dat (B full), D.dat (Dat.val (Value.string out))]], [])) (q3 : ((!g19) = false) → (decide ((rs.length : Int) = 60) = false) → ((!c69.l) = true) → (den cfg kk 39 [D.dat (I a), D.dat (I 0), D.dat (I (w64 ((rs.length : Int) - 1)))] [] [] = some ([D.dat (B g19)], [], [])) ∧ (den cfg kk 39 [D.dat (I b), D.dat (I 0), D.dat (I (w64 ((rs.length : Int) - 1)))] [] [] = some ([D.dat (B g24)], [], [])) ∧ (0 ≤ a ∧ a < (rs.length : Int)) ∧ (rs[a.toNat]? = some (I x67)) ∧ (0 ≤ x67 ∧ x67 < (cs.length : Int)) ∧ (cs[x67.toNat]? = some (Dat.agg [B c69.l, I c69.n, I c69.a, I c69.b])) ∧ (rs.length + 1 ≤ 2147483648) ∧ r = ([], [[D.dat (I o), D.own 97 cs, D.own 3 (rs ++ [I c69.b]), D.dat (I room), D.dat (I nur), D.dat (B free), D.dat (B full), D.dat (Dat.val (Value.string out))]], [])) (q4 : ((!g19) = false) → (decide ((rs.length : Int) = 60) = false) → ((!c69.l) = false) → (den cfg kk 39 [D.dat (I a), D.dat (I 0), D.dat (I (w64 ((rs.length : Int) - 1)))] [] [] = some ([D.dat (B g19)], [], [])) ∧ (den cfg kk 39 [D.dat (I b), D.dat (I 0), D.dat (I (w64 ((rs.length : Int) - 1)))] [] [] = some ([D.dat (B g24)], [], [])) ∧ (0 ≤ a ∧ a < (rs.length : Int)) ∧ (rs[a.toNat]? = some (I x67)) ∧ (0 ≤ x67 ∧ x67 < (cs.length : Int)) ∧ (cs[x67.toNat]? = some (Dat.agg [B c69.l, I c69.n, I c69.a, I c69.b])) ∧ r = ([], [[D.dat (I o), D.own 97 cs, D.own 3 rs, D.dat (I room), D.dat (I nur), D.dat (B free), D.dat (B full), D.dat (Dat.val (Value.string out))]], [])) : zan cfg kk (den cfg kk) 78 Go.Proofs.Tryd.f78 [.ptr (.up 0) 0, .dat (N3 4 a b)] [L7 o cs rs room nur free full out] [] = some r := by
 rcases Bool.eq_false_or_eq_true ((!g19)) with d3 | d3
 · obtain ⟨hz1, hz2, oz⟩ := q1 d3
   subst oz; exact zab [(19, .ret [.dat (B g19)]), (24, .ret [.dat (B g24)]), (66, .ok), (67, .at (I x67)), (68, .ok), (69, .at (c69.d)), (103, .ok), (200050, .yes)] (ob hz1 (ob hz2 (ob d3 (ob (rfl : true = true) ob0)))) (by kernel_rfl)
 · rcases Bool.eq_false_or_eq_true (decide ((rs.length : Int) = 60)) with d5 | d5
   · obtain ⟨hz1, hz2, oz⟩ := q2 d3 d5
     subst oz; exact zab [(19, .ret [.dat (B g19)]), (24, .ret [.dat (B g24)]), (66, .ok), (67, .at (I x67)), (68, .ok), (69, .at (c69.d)), (103, .ok), (200050, .no), (200053, .yes)] (ob hz1 (ob hz2 (ob d3 (ob (rfl : false = false) (ob d5 ob0))))) (by kernel_rfl)
   · rcases Bool.eq_false_or_eq_true ((!c69.l)) with d10 | d10
     · obtain ⟨hz1, hz2, hz3, hz4, hz5, hz6, hz7, oz⟩ := q3 d3 d5 d10
       subst oz; exact zab [(19, .ret [.dat (B g19)]), (24, .ret [.dat (B g24)]), (66, .ok), (67, .at (I x67)), (68, .ok), (69, .at (c69.d)), (103, .ok), (200050, .no), (200053, .no), (200073, .yes), (200093, .yes)] (ob hz1 (ob hz2 (ob d3 (ob (rfl : false = false) (ob d5 (ob hz3 (ob hz4 (ob hz5 (ob hz6 (ob d10 (ob (rfl : true = true) (ob (rfl : true = true) (ob (show (!c69.l) = true from (by simp [d3, d5, d10])) (ob (obT hz7) ob0)))))))))))))) (by kernel_rfl)
     · obtain ⟨hz1, hz2, hz3, hz4, hz5, hz6, oz⟩ := q4 d3 d5 d10
       subst oz; exact zab [(19, .ret [.dat (B g19)]), (24, .ret [.dat (B g24)]), (66, .ok), (67, .at (I x67)), (68, .ok), (69, .at (c69.d)), (103, .ok), (200050, .no), (200053, .no), (200073, .no), (200093, .no)] (ob hz1 (ob hz2 (ob d3 (ob (rfl : false = false) (ob d5 (ob hz3 (ob hz4 (ob hz5 (ob hz6 (ob d10 (ob (rfl : false = false) (ob (rfl : false = false) (ob (show (!c69.l) = false from (by simp [d3, d5, d10])) ob0))))))))))))) (by kernel_rfl)
theorem op7_5 (kk : Nat) (o : Int) (cs rs : List Dat) (room nur : Int) (free full : Bool) (out : ByteArray) (a b : Int) (g19 : Bool) (g24 : Bool) {r : Res} (q1 : (g19 = true) → (den cfg kk 39 [D.dat (I a), D.dat (I 0), D.dat (I (w64 ((rs.length : Int) - 1)))] [] [] = some ([D.dat (B g19)], [], [])) ∧ (den cfg kk 39 [D.dat (I b), D.dat (I 0), D.dat (I (w64 ((rs.length : Int) - 1)))] [] [] = some ([D.dat (B g24)], [], [])) ∧ (0 ≤ a ∧ a ≤ (rs.length : Int)) ∧ (0 ≤ w64 (a + 1) ∧ w64 (a + 1) ≤ (rs.length : Int)) ∧ (((List.take a.toNat rs).all fun d => d.cells.length.beq (TI.mk (TK.int IntKind.i64) 1 8 [] [D.dat (I 0)]).sz) = true ∧ 0 + (List.take a.toNat rs).length ≤ 2147483648) ∧ (((List.drop (w64 (a + 1)).toNat rs).all fun d => d.cells.length.beq (TI.mk (TK.int IntKind.i64) 1 8 [] [D.dat (I 0)]).sz) = true ∧ ([] ++ List.take a.toNat rs).length + (List.drop (w64 (a + 1)).toNat rs).length ≤ 2147483648) ∧ r = ([], [[D.dat (I o), D.own 97 cs, D.own 3 ([] ++ List.take a.toNat rs ++ List.drop (w64 (a + 1)).toNat rs), D.dat (I room), D.dat (I nur), D.dat (B free), D.dat (B full), D.dat (Dat.val (Value.string out))]], [])) (q2 : (g19 = false) → (den cfg kk 39 [D.dat (I a), D.dat (I 0), D.dat (I (w64 ((rs.length : Int) - 1)))] [] [] = some ([D.dat (B g19)], [], [])) ∧ (den cfg kk 39 [D.dat (I b), D.dat (I 0), D.dat (I (w64 ((rs.length : Int) - 1)))] [] [] = some ([D.dat (B g24)], [], [])) ∧ r = ([], [[D.dat (I o), D.own 97 cs, D.own 3 rs, D.dat (I room), D.dat (I nur), D.dat (B free), D.dat (B full), D.dat (Dat.val (Value.string out))]], [])) : zan cfg kk (den cfg kk) 78 Go.Proofs.Tryd.f78 [.ptr (.up 0) 0, .dat (N3 5 a b)] [L7 o cs rs room nur free full out] [] = some r := by
 rcases Bool.eq_false_or_eq_true (g19) with d3 | d3
 · obtain ⟨hz1, hz2, hz3, hz4, hz5, hz6, oz⟩ := q1 d3
   subst oz; exact zab [(19, .ret [.dat (B g19)]), (24, .ret [.dat (B g24)]), (119, .ok), (129, .ok), (120, .ok), (130, .ok), (200109, .yes)] (ob hz1 (ob hz2 (ob d3 (ob hz3 (ob hz4 (ob hz5 (ob hz6 ob0))))))) (by kernel_rfl)
 · obtain ⟨hz1, hz2, oz⟩ := q2 d3
   subst oz; exact zab [(19, .ret [.dat (B g19)]), (24, .ret [.dat (B g24)]), (119, .ok), (129, .ok), (120, .ok), (130, .ok), (200109, .no)] (ob hz1 (ob hz2 (ob d3 ob0))) (by kernel_rfl)
theorem op7_6 (kk : Nat) (o : Int) (cs rs : List Dat) (room nur : Int) (free full : Bool) (out : ByteArray) (a b : Int) (g19 : Bool) (g24 : Bool) (x150 : Int) (s151 : ByteArray) {r : Res} (q1 : (g19 = true) → (decide (500 < (s151.size : Int)) = true) → (den cfg kk 39 [D.dat (I a), D.dat (I 0), D.dat (I (w64 ((rs.length : Int) - 1)))] [] [] = some ([D.dat (B g19)], [], [])) ∧ (den cfg kk 39 [D.dat (I b), D.dat (I 0), D.dat (I (w64 ((rs.length : Int) - 1)))] [] [] = some ([D.dat (B g24)], [], [])) ∧ (0 ≤ a ∧ a < (rs.length : Int)) ∧ (rs[a.toNat]? = some (I x150)) ∧ (den cfg kk 100 [D.dat (Dat.lst true cs), D.dat (I x150)] [] [] = some ([D.dat (Dat.val (Value.string s151))], [], [])) ∧ (5 ≤ 9223372036854775807) ∧ (out.size + 5 ≤ 9223372036854775807) ∧ r = ([], [[D.dat (I o), D.own 97 cs, D.own 3 rs, D.dat (I room), D.dat (I nur), D.dat (B free), D.dat (B full), D.dat (Dat.val (Value.string (out ++ (ByteArray.mk #[108, 111, 110, 103] ++ ByteArray.mk #[10]))))]], [])) (q2 : (g19 = true) → (decide (500 < (s151.size : Int)) = false) → (den cfg kk 39 [D.dat (I a), D.dat (I 0), D.dat (I (w64 ((rs.length : Int) - 1)))] [] [] = some ([D.dat (B g19)], [], [])) ∧ (den cfg kk 39 [D.dat (I b), D.dat (I 0), D.dat (I (w64 ((rs.length : Int) - 1)))] [] [] = some ([D.dat (B g24)], [], [])) ∧ (0 ≤ a ∧ a < (rs.length : Int)) ∧ (rs[a.toNat]? = some (I x150)) ∧ (den cfg kk 100 [D.dat (Dat.lst true cs), D.dat (I x150)] [] [] = some ([D.dat (Dat.val (Value.string s151))], [], [])) ∧ (s151.size + 1 ≤ 9223372036854775807) ∧ (out.size + (s151 ++ ByteArray.mk #[10]).size ≤ 9223372036854775807) ∧ r = ([], [[D.dat (I o), D.own 97 cs, D.own 3 rs, D.dat (I room), D.dat (I nur), D.dat (B free), D.dat (B full), D.dat (Dat.val (Value.string (out ++ (s151 ++ ByteArray.mk #[10]))))]], [])) (q3 : (g19 = false) → (den cfg kk 39 [D.dat (I a), D.dat (I 0), D.dat (I (w64 ((rs.length : Int) - 1)))] [] [] = some ([D.dat (B g19)], [], [])) ∧ (den cfg kk 39 [D.dat (I b), D.dat (I 0), D.dat (I (w64 ((rs.length : Int) - 1)))] [] [] = some ([D.dat (B g24)], [], [])) ∧ r = ([], [[D.dat (I o), D.own 97 cs, D.own 3 rs, D.dat (I room), D.dat (I nur), D.dat (B free), D.dat (B full), D.dat (Dat.val (Value.string out))]], [])) : zan cfg kk (den cfg kk) 78 Go.Proofs.Tryd.f78 [.ptr (.up 0) 0, .dat (N3 6 a b)] [L7 o cs rs room nur free full out] [] = some r := by
 rcases Bool.eq_false_or_eq_true (g19) with d3 | d3
 · rcases Bool.eq_false_or_eq_true (decide (500 < (s151.size : Int))) with d8 | d8
   · obtain ⟨hz1, hz2, hz3, hz4, hz5, hz6, hz7, oz⟩ := q1 d3 d8
     subst oz; exact zab [(19, .ret [.dat (B g19)]), (24, .ret [.dat (B g24)]), (149, .ok), (150, .at (I x150)), (151, .ret [.dat (S s151)]), (161, .ok), (160, .ok), (200136, .yes), (200154, .yes)] (ob hz1 (ob hz2 (ob d3 (ob hz3 (ob hz4 (ob (rfl : true = true) (ob hz5 (ob d8 (ob hz6 (ob hz7 ob0)))))))))) (by kernel_rfl)
   · obtain ⟨hz1, hz2, hz3, hz4, hz5, hz6, hz7, oz⟩ := q2 d3 d8
     subst oz; exact zab [(19, .ret [.dat (B g19)]), (24, .ret [.dat (B g24)]), (149, .ok), (150, .at (I x150)), (151, .ret [.dat (S s151)]), (161, .ok), (160, .ok), (200136, .yes), (200154, .no)] (ob hz1 (ob hz2 (ob d3 (ob hz3 (ob hz4 (ob (rfl : true = true) (ob hz5 (ob d8 (ob hz6 (ob hz7 ob0)))))))))) (by kernel_rfl)
 · obtain ⟨hz1, hz2, oz⟩ := q3 d3
   subst oz; exact zab [(19, .ret [.dat (B g19)]), (24, .ret [.dat (B g24)]), (149, .ok), (150, .at (I x150)), (151, .ret [.dat (S s151)]), (161, .ok), (160, .ok), (200136, .no)] (ob hz1 (ob hz2 (ob d3 ob0))) (by kernel_rfl)
theorem op7_7 (kk : Nat) (o : Int) (cs rs : List Dat) (room nur : Int) (free full : Bool) (out : ByteArray) (a b : Int) (g19 : Bool) (g24 : Bool) (x179 : Int) (x188 : Int) {r : Res} (q1 : (g19 = true) → (g24 = true) → (decide (x179 = x188) = true) → (den cfg kk 39 [D.dat (I a), D.dat (I 0), D.dat (I (w64 ((rs.length : Int) - 1)))] [] [] = some ([D.dat (B g19)], [], [])) ∧ (den cfg kk 39 [D.dat (I b), D.dat (I 0), D.dat (I (w64 ((rs.length : Int) - 1)))] [] [] = some ([D.dat (B g24)], [], [])) ∧ (0 ≤ a ∧ a < (rs.length : Int)) ∧ (rs[a.toNat]? = some (I x179)) ∧ (0 ≤ b ∧ b < (rs.length : Int)) ∧ (rs[b.toNat]? = some (I x188)) ∧ (out.size + 5 ≤ 9223372036854775807) ∧ r = ([], [[D.dat (I o), D.own 97 cs, D.own 3 rs, D.dat (I room), D.dat (I nur), D.dat (B free), D.dat (B full), D.dat (Dat.val (Value.string (out ++ ByteArray.mk #[115, 97, 109, 101, 10])))]], [])) (q2 : (g19 = true) → (g24 = true) → (decide (x179 = x188) = false) → (den cfg kk 39 [D.dat (I a), D.dat (I 0), D.dat (I (w64 ((rs.length : Int) - 1)))] [] [] = some ([D.dat (B g19)], [], [])) ∧ (den cfg kk 39 [D.dat (I b), D.dat (I 0), D.dat (I (w64 ((rs.length : Int) - 1)))] [] [] = some ([D.dat (B g24)], [], [])) ∧ (0 ≤ a ∧ a < (rs.length : Int)) ∧ (rs[a.toNat]? = some (I x179)) ∧ (0 ≤ b ∧ b < (rs.length : Int)) ∧ (rs[b.toNat]? = some (I x188)) ∧ (out.size + 6 ≤ 9223372036854775807) ∧ r = ([], [[D.dat (I o), D.own 97 cs, D.own 3 rs, D.dat (I room), D.dat (I nur), D.dat (B free), D.dat (B full), D.dat (Dat.val (Value.string (out ++ ByteArray.mk #[111, 116, 104, 101, 114, 10])))]], [])) (q3 : (g19 = true) → (g24 = false) → (den cfg kk 39 [D.dat (I a), D.dat (I 0), D.dat (I (w64 ((rs.length : Int) - 1)))] [] [] = some ([D.dat (B g19)], [], [])) ∧ (den cfg kk 39 [D.dat (I b), D.dat (I 0), D.dat (I (w64 ((rs.length : Int) - 1)))] [] [] = some ([D.dat (B g24)], [], [])) ∧ r = ([], [[D.dat (I o), D.own 97 cs, D.own 3 rs, D.dat (I room), D.dat (I nur), D.dat (B free), D.dat (B full), D.dat (Dat.val (Value.string out))]], [])) (q4 : (g19 = false) → (den cfg kk 39 [D.dat (I a), D.dat (I 0), D.dat (I (w64 ((rs.length : Int) - 1)))] [] [] = some ([D.dat (B g19)], [], [])) ∧ (den cfg kk 39 [D.dat (I b), D.dat (I 0), D.dat (I (w64 ((rs.length : Int) - 1)))] [] [] = some ([D.dat (B g24)], [], [])) ∧ r = ([], [[D.dat (I o), D.own 97 cs, D.own 3 rs, D.dat (I room), D.dat (I nur), D.dat (B free), D.dat (B full), D.dat (Dat.val (Value.string out))]], [])) : zan cfg kk (den cfg kk) 78 Go.Proofs.Tryd.f78 [.ptr (.up 0) 0, .dat (N3 7 a b)] [L7 o cs rs room nur free full out] [] = some r := by
 rcases Bool.eq_false_or_eq_true (g19) with d3 | d3
 · rcases Bool.eq_false_or_eq_true (g24) with d4 | d4
   · rcases Bool.eq_false_or_eq_true (decide (x179 = x188)) with d27 | d27
     · obtain ⟨hz1, hz2, hz3, hz4, hz5, hz6, hz7, oz⟩ := q1 d3 d4 d27
       subst oz; exact zab [(19, .ret [.dat (B g19)]), (24, .ret [.dat (B g24)]), (178, .ok), (179, .at (I x179)), (187, .ok), (188, .at (I x188)), (195, .ok), (206, .ok), (200167, .yes), (200170, .yes), (200190, .yes)] (ob hz1 (ob hz2 (ob d3 (ob d4 (ob (rfl : true = true) (ob (rfl : true = true) (ob (rfl : true = true) (ob (rfl : true = true) (ob (rfl : true = true) (ob (rfl : true = true) (ob (rfl : true = true) (ob hz3 (ob (rfl : true = true) (ob hz4 (ob (rfl : true = true) (ob (rfl : true = true) (ob (rfl : true = true) (ob (rfl : true = true) (ob (rfl : true = true) (ob (rfl : true = true) (ob (rfl : true = true) (ob (rfl : true = true) (ob hz5 (ob (rfl : true = true) (ob hz6 (ob (rfl : true = true) (ob d27 (ob hz7 ob0)))))))))))))))))))))))))))) (by kernel_rfl)
     · obtain ⟨hz1, hz2, hz3, hz4, hz5, hz6, hz7, oz⟩ := q2 d3 d4 d27
       subst oz; exact zab [(19, .ret [.dat (B g19)]), (24, .ret [.dat (B g24)]), (178, .ok), (179, .at (I x179)), (187, .ok), (188, .at (I x188)), (195, .ok), (206, .ok), (200167, .yes), (200170, .yes), (200190, .no), (200199, .yes), (200201, .yes)] (ob hz1 (ob hz2 (ob d3 (ob d4 (ob (rfl : true = true) (ob (rfl : true = true) (ob (rfl : true = true) (ob (rfl : true = true) (ob (rfl : true = true) (ob (rfl : true = true) (ob (rfl : true = true) (ob hz3 (ob (rfl : true = true) (ob hz4 (ob (rfl : true = true) (ob (rfl : true = true) (ob (rfl : true = true) (ob (rfl : true = true) (ob (rfl : true = true) (ob (rfl : true = true) (ob (rfl : true = true) (ob (rfl : true = true) (ob hz5 (ob (rfl : true = true) (ob hz6 (ob (rfl : true = true) (ob d27 (ob (show g19 = true from (by simp [d3, d4, d27])) (ob (show g24 = true from (by simp [d3, d4, d27])) (ob hz7 ob0)))))))))))))))))))))))))))))) (by kernel_rfl)
   · obtain ⟨hz1, hz2, oz⟩ := q3 d3 d4
     subst oz; exact zab [(19, .ret [.dat (B g19)]), (24, .ret [.dat (B g24)]), (178, .ok), (179, .at (I x179)), (187, .ok), (188, .at (I x188)), (195, .ok), (206, .ok), (200167, .yes), (200170, .no), (200199, .yes), (200201, .no)] (ob hz1 (ob hz2 (ob d3 (ob d4 (ob (rfl : false = false) (ob (rfl : false = false) (ob (rfl : false = false) (ob (rfl : false = false) (ob (rfl : false = false) (ob (rfl : false = false) (ob (rfl : false = false) (ob (rfl : false = false) (ob (rfl : false = false) (ob (rfl : false = false) (ob (rfl : false = false) (ob (rfl : false = false) (ob (rfl : false = false) (ob (rfl : false = false) (ob (rfl : false = false) (ob (rfl : false = false) (ob (rfl : false = false) (ob (rfl : false = false) (ob (show g19 = true from (by simp [d3, d4])) (ob (show g24 = false from (by simp [d3, d4])) ob0)))))))))))))))))))))))) (by kernel_rfl)
 · obtain ⟨hz1, hz2, oz⟩ := q4 d3
   subst oz; exact zab [(19, .ret [.dat (B g19)]), (24, .ret [.dat (B g24)]), (178, .ok), (179, .at (I x179)), (187, .ok), (188, .at (I x188)), (195, .ok), (206, .ok), (200167, .no), (200199, .no)] (ob hz1 (ob hz2 (ob d3 (ob (show g19 = false from (by simp [d3])) ob0)))) (by kernel_rfl)
theorem op7_8 (kk : Nat) (o : Int) (cs rs : List Dat) (room nur : Int) (free full : Bool) (out : ByteArray) (a b : Int) (oa : Int) (ca ra : List Dat) (g19 : Bool) (g24 : Bool) {r : Res} (q1 : ((!free) = true) → (den cfg kk 39 [D.dat (I a), D.dat (I 0), D.dat (I (w64 ((rs.length : Int) - 1)))] [] [] = some ([D.dat (B g19)], [], [])) ∧ (den cfg kk 39 [D.dat (I b), D.dat (I 0), D.dat (I (w64 ((rs.length : Int) - 1)))] [] [] = some ([D.dat (B g24)], [], [])) ∧ (D.cleans [D.seq false [D.dat (I oa), D.own 97 ca, D.own 3 ra]] = true) ∧ (den cfg kk 101 [D.dat (Dat.agg [I o, Dat.lst true cs, Dat.lst true rs])] [] [] = some ([D.seq false [D.dat (I oa), D.own 97 ca, D.own 3 ra]], [], [])) ∧ r = ([], [[D.dat (I oa), D.own 97 ca, D.own 3 ra, D.dat (I room), D.dat (I nur), D.dat (B free), D.dat (B full), D.dat (Dat.val (Value.string out))]], [])) (q2 : ((!free) = false) → (den cfg kk 39 [D.dat (I a), D.dat (I 0), D.dat (I (w64 ((rs.length : Int) - 1)))] [] [] = some ([D.dat (B g19)], [], [])) ∧ (den cfg kk 39 [D.dat (I b), D.dat (I 0), D.dat (I (w64 ((rs.length : Int) - 1)))] [] [] = some ([D.dat (B g24)], [], [])) ∧ r = ([], [[D.dat (I o), D.own 97 cs, D.own 3 rs, D.dat (I room), D.dat (I nur), D.dat (B free), D.dat (B full), D.dat (Dat.val (Value.string out))]], [])) : zan cfg kk (den cfg kk) 78 Go.Proofs.Tryd.f78 [.ptr (.up 0) 0, .dat (N3 8 a b)] [L7 o cs rs room nur free full out] [] = some r := by
 rcases Bool.eq_false_or_eq_true ((!free)) with d3 | d3
 · obtain ⟨hz1, hz2, hz3, hz4, oz⟩ := q1 d3
   subst oz; exact zab [(221, .ret [.seq false [.dat (I oa), .own 97 ca, .own 3 ra]]), (236, .ret [.seq false [.dat (I oa), .own 97 ca, .own 3 ra]]), (19, .ret [.dat (B g19)]), (24, .ret [.dat (B g24)]), (200215, .yes)] (ob hz1 (ob hz2 (ob d3 (ob hz3 (ob hz4 ob0))))) (by kernel_rfl)
 · obtain ⟨hz1, hz2, oz⟩ := q2 d3
   subst oz; exact zab [(221, .ret [.seq false [.dat (I oa), .own 97 ca, .own 3 ra]]), (236, .ret [.seq false [.dat (I oa), .own 97 ca, .own 3 ra]]), (19, .ret [.dat (B g19)]), (24, .ret [.dat (B g24)]), (200215, .no)] (ob hz1 (ob hz2 (ob d3 ob0))) (by kernel_rfl)
theorem op7_9 (kk : Nat) (o : Int) (cs rs : List Dat) (room nur : Int) (free full : Bool) (out : ByteArray) (a b : Int) (oa : Int) (ca ra : List Dat) (g19 : Bool) (g24 : Bool) {r : Res} (q1 : ((!free) = true) → (den cfg kk 39 [D.dat (I a), D.dat (I 0), D.dat (I (w64 ((rs.length : Int) - 1)))] [] [] = some ([D.dat (B g19)], [], [])) ∧ (den cfg kk 39 [D.dat (I b), D.dat (I 0), D.dat (I (w64 ((rs.length : Int) - 1)))] [] [] = some ([D.dat (B g24)], [], [])) ∧ (D.cleans [D.seq false [D.dat (I oa), D.own 97 ca, D.own 3 ra]] = true) ∧ (den cfg kk 102 [D.dat (Dat.agg [I o, Dat.lst true cs, Dat.lst true rs])] [] [] = some ([D.seq false [D.dat (I oa), D.own 97 ca, D.own 3 ra]], [], [])) ∧ r = ([], [[D.dat (I oa), D.own 97 ca, D.own 3 ra, D.dat (I room), D.dat (I nur), D.dat (B free), D.dat (B full), D.dat (Dat.val (Value.string out))]], [])) (q2 : ((!free) = false) → (den cfg kk 39 [D.dat (I a), D.dat (I 0), D.dat (I (w64 ((rs.length : Int) - 1)))] [] [] = some ([D.dat (B g19)], [], [])) ∧ (den cfg kk 39 [D.dat (I b), D.dat (I 0), D.dat (I (w64 ((rs.length : Int) - 1)))] [] [] = some ([D.dat (B g24)], [], [])) ∧ r = ([], [[D.dat (I o), D.own 97 cs, D.own 3 rs, D.dat (I room), D.dat (I nur), D.dat (B free), D.dat (B full), D.dat (Dat.val (Value.string out))]], [])) : zan cfg kk (den cfg kk) 78 Go.Proofs.Tryd.f78 [.ptr (.up 0) 0, .dat (N3 9 a b)] [L7 o cs rs room nur free full out] [] = some r := by
 rcases Bool.eq_false_or_eq_true ((!free)) with d3 | d3
 · obtain ⟨hz1, hz2, hz3, hz4, oz⟩ := q1 d3
   subst oz; exact zab [(221, .ret [.seq false [.dat (I oa), .own 97 ca, .own 3 ra]]), (236, .ret [.seq false [.dat (I oa), .own 97 ca, .own 3 ra]]), (19, .ret [.dat (B g19)]), (24, .ret [.dat (B g24)]), (200230, .yes)] (ob hz1 (ob hz2 (ob d3 (ob hz3 (ob hz4 ob0))))) (by kernel_rfl)
 · obtain ⟨hz1, hz2, oz⟩ := q2 d3
   subst oz; exact zab [(221, .ret [.seq false [.dat (I oa), .own 97 ca, .own 3 ra]]), (236, .ret [.seq false [.dat (I oa), .own 97 ca, .own 3 ra]]), (19, .ret [.dat (B g19)]), (24, .ret [.dat (B g24)]), (200230, .no)] (ob hz1 (ob hz2 (ob d3 ob0))) (by kernel_rfl)
theorem op7_o (kk : Nat) (o : Int) (cs rs : List Dat) (room nur : Int) (free full : Bool) (out : ByteArray) (k a b : Int) (g19 g24 : Bool) (h1 : den cfg kk 39 [D.dat (I a), D.dat (I 0), D.dat (I (w64 ((rs.length : Int) - 1)))] [] [] = some ([D.dat (B g19)], [], [])) (h2 : den cfg kk 39 [D.dat (I b), D.dat (I 0), D.dat (I (w64 ((rs.length : Int) - 1)))] [] [] = some ([D.dat (B g24)], [], [])) (h3 : decide (k = 1) = false) (h4 : decide (k = 2) = false) (h5 : decide (k = 3) = false) (h6 : decide (k = 4) = false) (h7 : decide (k = 5) = false) (h8 : decide (k = 6) = false) (h9 : decide (k = 7) = false) (h10 : decide (k = 8) = false) (h11 : decide (k = 9) = false) : zan cfg kk (den cfg kk) 78 Go.Proofs.Tryd.f78 [.ptr (.up 0) 0, .dat (N3 k a b)] [L7 o cs rs room nur free full out] [] = some ([], [[D.dat (I o), D.own 97 cs, D.own 3 rs, D.dat (I room), D.dat (I nur), D.dat (B free), D.dat (B full), D.dat (Dat.val (Value.string out))]], []) :=
 zab [(19, .ret [.dat (B g19)]), (24, .ret [.dat (B g24)]), (200027, .no), (200033, .no), (200045, .no), (200107, .no), (200134, .no), (200164, .no), (200209, .no), (200224, .no)] (ob h1 (ob h2 (ob h3 (ob h4 (ob h5 (ob h6 (ob h7 (ob h8 (ob h9 (ob h10 (ob h11 ob0))))))))))) (by kernel_rfl)
theorem root7 (kk : Nat) (o : Int) (cs rs bs : List Dat) (room nur : Int) (full : Bool) (at_ : Int) (g13 : Bool) (x22 : Int) {r : Res} (q1 : ((!g13) = true) → (den cfg kk 43 [D.dat (I at_), D.dat (I (rs.length : Int))] [] [] = some ([D.dat (B g13)], [], [])) ∧ r = ([D.dat (I 0), D.dat (B false)], [[D.dat (I o), D.own 97 cs, D.own 3 rs, D.own 5 bs, D.dat (I room), D.dat (I nur), D.dat (B full)]], [])) (q2 : ((!g13) = false) → (den cfg kk 43 [D.dat (I at_), D.dat (I (rs.length : Int))] [] [] = some ([D.dat (B g13)], [], [])) ∧ (0 ≤ at_ ∧ at_ < (rs.length : Int)) ∧ (rs[at_.toNat]? = some (I x22)) ∧ r = ([D.dat (I x22), D.dat (B true)], [[D.dat (I o), D.own 97 cs, D.own 3 rs, D.own 5 bs, D.dat (I room), D.dat (I nur), D.dat (B full)]], [])) : zan cfg kk (den cfg kk) 103 Go.Proofs.Tryd.f103 [.ptr (.up 0) 0, .dat (I at_)] [P7 o cs rs bs room nur full] [] = some r := by
 rcases Bool.eq_false_or_eq_true ((!g13)) with d2 | d2
 · obtain ⟨hz1, oz⟩ := q1 d2
   subst oz; exact zab [(13, .ret [.dat (B g13)]), (21, .ok), (22, .at (I x22)), (200014, .yes)] (ob hz1 (ob d2 ob0)) (by kernel_rfl)
 · obtain ⟨hz1, hz2, hz3, oz⟩ := q2 d2
   subst oz; exact zab [(13, .ret [.dat (B g13)]), (21, .ok), (22, .at (I x22)), (200014, .no)] (ob hz1 (ob d2 (ob hz2 (ob hz3 ob0)))) (by kernel_rfl)
theorem may7 (kk : Nat) (o : Int) (cs rs bs : List Dat) (room nur : Int) (full : Bool) {r : Res} (q1 : r = ([D.dat (B (decide ((rs.length : Int) < 60)))], [[D.dat (I o), D.own 97 cs, D.own 3 rs, D.own 5 bs, D.dat (I room), D.dat (I nur), D.dat (B full)]], [])) : zan cfg kk (den cfg kk) 104 Go.Proofs.Tryd.f104 [.ptr (.up 0) 0] [P7 o cs rs bs room nur full] [] = some r := by
 have oz := q1
 subst oz; exact zab [] ob0 (by kernel_rfl)
theorem zo5 (kk : Nat) (o : Int) (cs rs bs : List Dat) (room nur : Int) (full : Bool) (oa : Int) (ca ra : List Dat) (ob_ : Int) (cb rb : List Dat) {r : Res} (q1 : (decide (room < 0) = true) → r = ([D.dat (B true)], [[D.dat (I o), D.own 97 cs, D.own 3 rs, D.own 5 bs, D.dat (I room), D.dat (I nur), D.dat (B full)]], [])) (q2 : (decide (room < 0) = false) → (decide (nur ≤ w64 ((cs.length : Int) - o)) = true) → (decide (room ≤ (ca.length : Int)) = true) → (D.cleans [D.seq false [D.dat (I oa), D.own 97 ca, D.own 3 ra]] = true) ∧ (den cfg kk 113 [D.dat (Dat.agg [I o, Dat.lst true cs, Dat.lst true rs])] [] [] = some ([D.seq false [D.dat (I oa), D.own 97 ca, D.own 3 ra]], [], [])) ∧ (D.cleans [D.seq false [D.dat (I ob_), D.own 97 cb, D.own 3 rb]] = true) ∧ (den cfg kk 112 [D.dat (Dat.agg [I oa, Dat.lst true ca, Dat.lst true ra])] [] [] = some ([D.seq false [D.dat (I ob_), D.own 97 cb, D.own 3 rb]], [], [])) ∧ r = ([D.dat (B !decide (room ≤ (cb.length : Int)))], [[D.dat (I ob_), D.own 97 cb, D.own 3 rb, D.own 5 bs, D.dat (I room), D.dat (I nur), D.dat (B (decide (room ≤ (cb.length : Int))))]], [])) (q3 : (decide (room < 0) = false) → (decide (nur ≤ w64 ((cs.length : Int) - o)) = true) → (decide (room ≤ (ca.length : Int)) = false) → (D.cleans [D.seq false [D.dat (I oa), D.own 97 ca, D.own 3 ra]] = true) ∧ (den cfg kk 113 [D.dat (Dat.agg [I o, Dat.lst true cs, Dat.lst true rs])] [] [] = some ([D.seq false [D.dat (I oa), D.own 97 ca, D.own 3 ra]], [], [])) ∧ r = ([D.dat (B !decide (room ≤ (ca.length : Int)))], [[D.dat (I oa), D.own 97 ca, D.own 3 ra, D.own 5 bs, D.dat (I room), D.dat (I nur), D.dat (B (decide (room ≤ (ca.length : Int))))]], [])) (q4 : (decide (room < 0) = false) → (decide (nur ≤ w64 ((cs.length : Int) - o)) = false) → (decide (room ≤ (cs.length : Int)) = true) → (D.cleans [D.seq false [D.dat (I ob_), D.own 97 cb, D.own 3 rb]] = true) ∧ (den cfg kk 112 [D.dat (Dat.agg [I o, Dat.lst true cs, Dat.lst true rs])] [] [] = some ([D.seq false [D.dat (I ob_), D.own 97 cb, D.own 3 rb]], [], [])) ∧ r = ([D.dat (B !decide (room ≤ (cb.length : Int)))], [[D.dat (I ob_), D.own 97 cb, D.own 3 rb, D.own 5 bs, D.dat (I room), D.dat (I nur), D.dat (B (decide (room ≤ (cb.length : Int))))]], [])) (q5 : (decide (room < 0) = false) → (decide (nur ≤ w64 ((cs.length : Int) - o)) = false) → (decide (room ≤ (cs.length : Int)) = false) → r = ([D.dat (B !decide (room ≤ (cs.length : Int)))], [[D.dat (I o), D.own 97 cs, D.own 3 rs, D.own 5 bs, D.dat (I room), D.dat (I nur), D.dat (B (decide (room ≤ (cs.length : Int))))]], [])) : zan cfg kk (den cfg kk) 105 Go.Proofs.Tryd.f105 [.ptr (.up 0) 0] [P7 o cs rs bs room nur full] [] = some r := by
 rcases Bool.eq_false_or_eq_true (decide (room < 0)) with d1 | d1
 · have oz := q1 d1
   subst oz; exact zab [(30, .ret [.seq false [.dat (I oa), .own 97 ca, .own 3 ra]]), (49, .ret [.seq false [.dat (I ob_), .own 97 cb, .own 3 rb]]), (200007, .yes)] (ob d1 ob0) (by kernel_rfl)
 · rcases Bool.eq_false_or_eq_true (decide (nur ≤ w64 ((cs.length : Int) - o))) with d2 | d2
   · rcases Bool.eq_false_or_eq_true (decide (room ≤ (ca.length : Int))) with d5 | d5
     · obtain ⟨hz1, hz2, hz3, hz4, oz⟩ := q2 d1 d2 d5
       subst oz; exact zab [(30, .ret [.seq false [.dat (I oa), .own 97 ca, .own 3 ra]]), (49, .ret [.seq false [.dat (I ob_), .own 97 cb, .own 3 rb]]), (200007, .no), (200024, .yes), (200043, .yes)] (ob d1 (ob d2 (ob hz1 (ob hz2 (ob d5 (ob hz3 (ob hz4 ob0))))))) (by kernel_rfl)
     · obtain ⟨hz1, hz2, oz⟩ := q3 d1 d2 d5
       subst oz; exact zab [(30, .ret [.seq false [.dat (I oa), .own 97 ca, .own 3 ra]]), (49, .ret [.seq false [.dat (I ob_), .own 97 cb, .own 3 rb]]), (200007, .no), (200024, .yes), (200043, .no)] (ob d1 (ob d2 (ob hz1 (ob hz2 (ob d5 ob0))))) (by kernel_rfl)
   · rcases Bool.eq_false_or_eq_true (decide (room ≤ (cs.length : Int))) with d3 | d3
     · obtain ⟨hz1, hz2, oz⟩ := q4 d1 d2 d3
       subst oz; exact zab [(30, .ret [.seq false [.dat (I oa), .own 97 ca, .own 3 ra]]), (49, .ret [.seq false [.dat (I ob_), .own 97 cb, .own 3 rb]]), (200007, .no), (200024, .no), (200043, .yes)] (ob d1 (ob d2 (ob d3 (ob hz1 (ob hz2 ob0))))) (by kernel_rfl)
     · have oz := q5 d1 d2 d3
       subst oz; exact zab [(30, .ret [.seq false [.dat (I oa), .own 97 ca, .own 3 ra]]), (49, .ret [.seq false [.dat (I ob_), .own 97 cb, .own 3 rb]]), (200007, .no), (200024, .no), (200043, .no)] (ob d1 (ob d2 (ob d3 ob0))) (by kernel_rfl)
theorem put7 (kk : Nat) (o : Int) (cs rs bs : List Dat) (room nur : Int) (full : Bool) (c : Cl) {r : Res} (q1 : (rs.length + 1 ≤ 2147483648) ∧ (cs.length + 1 ≤ 2147483648) ∧ r = ([], [[D.dat (I o), D.own 97 (cs ++ [Dat.agg [B c.l, I c.n, I c.a, I c.b]]), D.own 3 (rs ++ [I (cs.length : Int)]), D.own 5 bs, D.dat (I room), D.dat (I nur), D.dat (B full)]], [])) : zan cfg kk (den cfg kk) 106 Go.Proofs.Tryd.f106 [.ptr (.up 0) 0, .dat (c.d)] [P7 o cs rs bs room nur full] [] = some r := by
 obtain ⟨hz1, hz2, oz⟩ := q1
 subst oz; exact zab [(17, .ok), (29, .ok)] (ob (obT hz1) (ob (obT hz2) ob0)) (by kernel_rfl)
theorem tell7 (kk : Nat) (o : Int) (cs rs bs : List Dat) (room nur : Int) (full : Bool) (t : ByteArray) {r : Res} (q1 : (t.size + 1 ≤ 9223372036854775807) ∧ (((zah (t ++ ByteArray.mk #[10])).all fun d => d.cells.length.beq (TI.mk (TK.int IntKind.u8) 1 1 [] [D.dat (Dat.val (Value.int IntKind.u8 0))]).sz) = true ∧ bs.length + (zah (t ++ ByteArray.mk #[10])).length ≤ 2147483648) ∧ r = ([], [[D.dat (I o), D.own 97 cs, D.own 3 rs, D.own 5 (bs ++ zah (t ++ ByteArray.mk #[10])), D.dat (I room), D.dat (I nur), D.dat (B full)]], [])) : zan cfg kk (den cfg kk) 111 Go.Proofs.Tryd.f111 [.ptr (.up 0) 0, .dat (S t)] [P7 o cs rs bs room nur full] [] = some r := by
 obtain ⟨hz1, hz2, oz⟩ := q1
 subst oz; exact zab [(10, .ok), (11, .ok)] (ob hz1 (ob hz2 ob0)) (by kernel_rfl)
theorem zp9 (kk : Nat) (o : Int) (cs rs bs : List Dat) (room nur : Int) (full : Bool) (at_ x12 : Int) (second g12 g30 : Bool) (c26 : Cl) (c41 : Cl) (c51 : Cl) {r : Res} (q1 : ((!g12) = true) → (den cfg kk 103 [D.ptr (Ref.up 0) 0, D.dat (I at_)] [[D.dat (I o), D.own 97 cs, D.own 3 rs, D.own 5 bs, D.dat (I room), D.dat (I nur), D.dat (B full)]] [] = some ([D.dat (I x12), D.dat (B g12)], [[D.dat (I o), D.own 97 cs, D.own 3 rs, D.own 5 bs, D.dat (I room), D.dat (I nur), D.dat (B full)]], [])) ∧ r = ([], [[D.dat (I o), D.own 97 cs, D.own 3 rs, D.own 5 bs, D.dat (I room), D.dat (I nur), D.dat (B full)]], [])) (q2 : ((!g12) = false) → (c26.l = true) → (den cfg kk 103 [D.ptr (Ref.up 0) 0, D.dat (I at_)] [[D.dat (I o), D.own 97 cs, D.own 3 rs, D.own 5 bs, D.dat (I room), D.dat (I nur), D.dat (B full)]] [] = some ([D.dat (I x12), D.dat (B g12)], [[D.dat (I o), D.own 97 cs, D.own 3 rs, D.own 5 bs, D.dat (I room), D.dat (I nur), D.dat (B full)]], [])) ∧ (0 ≤ x12 ∧ x12 < (cs.length : Int)) ∧ (cs[x12.toNat]? = some (Dat.agg [B c26.l, I c26.n, I c26.a, I c26.b])) ∧ r = ([], [[D.dat (I o), D.own 97 cs, D.own 3 rs, D.own 5 bs, D.dat (I room), D.dat (I nur), D.dat (B full)]], [])) (q3 : ((!g12) = false) → (c26.l = false) → ((!g30) = true) → (den cfg kk 103 [D.ptr (Ref.up 0) 0, D.dat (I at_)] [[D.dat (I o), D.own 97 cs, D.own 3 rs, D.own 5 bs, D.dat (I room), D.dat (I nur), D.dat (B full)]] [] = some ([D.dat (I x12), D.dat (B g12)], [[D.dat (I o), D.own 97 cs, D.own 3 rs, D.own 5 bs, D.dat (I room), D.dat (I nur), D.dat (B full)]], [])) ∧ (0 ≤ x12 ∧ x12 < (cs.length : Int)) ∧ (cs[x12.toNat]? = some (Dat.agg [B c26.l, I c26.n, I c26.a, I c26.b])) ∧ (den cfg kk 104 [D.ptr (Ref.up 0) 0] [[D.dat (I o), D.own 97 cs, D.own 3 rs, D.own 5 bs, D.dat (I room), D.dat (I nur), D.dat (B full)]] [] = some ([D.dat (B g30)], [[D.dat (I o), D.own 97 cs, D.own 3 rs, D.own 5 bs, D.dat (I room), D.dat (I nur), D.dat (B full)]], [])) ∧ r = ([], [[D.dat (I o), D.own 97 cs, D.own 3 rs, D.own 5 bs, D.dat (I room), D.dat (I nur), D.dat (B full)]], [])) (q4 : ((!g12) = false) → (c26.l = false) → ((!g30) = false) → (second = true) → (den cfg kk 103 [D.ptr (Ref.up 0) 0, D.dat (I at_)] [[D.dat (I o), D.own 97 cs, D.own 3 rs, D.own 5 bs, D.dat (I room), D.dat (I nur), D.dat (B full)]] [] = some ([D.dat (I x12), D.dat (B g12)], [[D.dat (I o), D.own 97 cs, D.own 3 rs, D.own 5 bs, D.dat (I room), D.dat (I nur), D.dat (B full)]], [])) ∧ (0 ≤ x12 ∧ x12 < (cs.length : Int)) ∧ (cs[x12.toNat]? = some (Dat.agg [B c26.l, I c26.n, I c26.a, I c26.b])) ∧ (den cfg kk 104 [D.ptr (Ref.up 0) 0] [[D.dat (I o), D.own 97 cs, D.own 3 rs, D.own 5 bs, D.dat (I room), D.dat (I nur), D.dat (B full)]] [] = some ([D.dat (B g30)], [[D.dat (I o), D.own 97 cs, D.own 3 rs, D.own 5 bs, D.dat (I room), D.dat (I nur), D.dat (B full)]], [])) ∧ (0 ≤ x12 ∧ x12 < (cs.length : Int)) ∧ (cs[x12.toNat]? = some (Dat.agg [B c41.l, I c41.n, I c41.a, I c41.b])) ∧ (0 ≤ x12 ∧ x12 < (cs.length : Int)) ∧ (cs[x12.toNat]? = some (Dat.agg [B c51.l, I c51.n, I c51.a, I c51.b])) ∧ (rs.length + 1 ≤ 2147483648) ∧ r = ([], [[D.dat (I o), D.own 97 cs, D.own 3 (rs ++ [I c51.b]), D.own 5 bs, D.dat (I room), D.dat (I nur), D.dat (B full)]], [])) (q5 : ((!g12) = false) → (c26.l = false) → ((!g30) = false) → (second = false) → (den cfg kk 103 [D.ptr (Ref.up 0) 0, D.dat (I at_)] [[D.dat (I o), D.own 97 cs, D.own 3 rs, D.own 5 bs, D.dat (I room), D.dat (I nur), D.dat (B full)]] [] = some ([D.dat (I x12), D.dat (B g12)], [[D.dat (I o), D.own 97 cs, D.own 3 rs, D.own 5 bs, D.dat (I room), D.dat (I nur), D.dat (B full)]], [])) ∧ (0 ≤ x12 ∧ x12 < (cs.length : Int)) ∧ (cs[x12.toNat]? = some (Dat.agg [B c26.l, I c26.n, I c26.a, I c26.b])) ∧ (den cfg kk 104 [D.ptr (Ref.up 0) 0] [[D.dat (I o), D.own 97 cs, D.own 3 rs, D.own 5 bs, D.dat (I room), D.dat (I nur), D.dat (B full)]] [] = some ([D.dat (B g30)], [[D.dat (I o), D.own 97 cs, D.own 3 rs, D.own 5 bs, D.dat (I room), D.dat (I nur), D.dat (B full)]], [])) ∧ (0 ≤ x12 ∧ x12 < (cs.length : Int)) ∧ (cs[x12.toNat]? = some (Dat.agg [B c41.l, I c41.n, I c41.a, I c41.b])) ∧ (rs.length + 1 ≤ 2147483648) ∧ r = ([], [[D.dat (I o), D.own 97 cs, D.own 3 (rs ++ [I c41.a]), D.own 5 bs, D.dat (I room), D.dat (I nur), D.dat (B full)]], [])) : zan cfg kk (den cfg kk) 108 Go.Proofs.Tryd.f108 [.ptr (.up 0) 0, .dat (I at_), .dat (B second)] [P7 o cs rs bs room nur full] [] = some r := by
 rcases Bool.eq_false_or_eq_true ((!g12)) with d3 | d3
 · obtain ⟨hz1, oz⟩ := q1 d3
   subst oz; exact zab [(12, .back [.dat (I x12), .dat (B g12)] [P7 o cs rs bs room nur full] []), (30, .back [.dat (B g30)] [P7 o cs rs bs room nur full] []), (24, .ok), (26, .at (c26.d)), (39, .ok), (41, .at (c41.d)), (60, .ok), (49, .ok), (51, .at (c51.d)), (200017, .yes)] (ob hz1 (ob (rfl : false = false) (ob d3 (ob (rfl : true = true) (ob (rfl : true = true) (ob (rfl : true = true) (ob (rfl : true = true) (ob (rfl : true = true) (ob (rfl : true = true) (ob (rfl : true = true) (ob (rfl : true = true) ob0))))))))))) (by kernel_rfl)
 · rcases Bool.eq_false_or_eq_true (c26.l) with d14 | d14
   · obtain ⟨hz1, hz2, hz3, oz⟩ := q2 d3 d14
     subst oz; exact zab [(12, .back [.dat (I x12), .dat (B g12)] [P7 o cs rs bs room nur full] []), (30, .back [.dat (B g30)] [P7 o cs rs bs room nur full] []), (24, .ok), (26, .at (c26.d)), (39, .ok), (41, .at (c41.d)), (60, .ok), (49, .ok), (51, .at (c51.d)), (200017, .no), (200028, .yes)] (ob hz1 (ob (rfl : false = false) (ob d3 (ob (rfl : false = false) (ob (rfl : false = false) (ob (rfl : false = false) (ob (rfl : false = false) (ob (rfl : false = false) (ob (rfl : false = false) (ob hz2 (ob (rfl : false = false) (ob (rfl : false = false) (ob hz3 (ob d14 (ob (rfl : true = true) (ob (rfl : true = true) ob0)))))))))))))))) (by kernel_rfl)
   · rcases Bool.eq_false_or_eq_true ((!g30)) with d19 | d19
     · obtain ⟨hz1, hz2, hz3, hz4, oz⟩ := q3 d3 d14 d19
       subst oz; exact zab [(12, .back [.dat (I x12), .dat (B g12)] [P7 o cs rs bs room nur full] []), (30, .back [.dat (B g30)] [P7 o cs rs bs room nur full] []), (24, .ok), (26, .at (c26.d)), (39, .ok), (41, .at (c41.d)), (60, .ok), (49, .ok), (51, .at (c51.d)), (200017, .no), (200028, .no), (200032, .yes)] (ob hz1 (ob (rfl : false = false) (ob d3 (ob (rfl : false = false) (ob (rfl : false = false) (ob (rfl : false = false) (ob (rfl : false = false) (ob (rfl : false = false) (ob (rfl : false = false) (ob hz2 (ob (rfl : false = false) (ob (rfl : false = false) (ob hz3 (ob d14 (ob (rfl : false = false) (ob hz4 (ob (rfl : false = false) (ob (rfl : false = false) (ob d19 ob0))))))))))))))))))) (by kernel_rfl)
     · rcases Bool.eq_false_or_eq_true (second) with d22 | d22
       · obtain ⟨hz1, hz2, hz3, hz4, hz5, hz6, hz7, hz8, hz9, oz⟩ := q4 d3 d14 d19 d22
         subst oz; exact zab [(12, .back [.dat (I x12), .dat (B g12)] [P7 o cs rs bs room nur full] []), (30, .back [.dat (B g30)] [P7 o cs rs bs room nur full] []), (24, .ok), (26, .at (c26.d)), (39, .ok), (41, .at (c41.d)), (60, .ok), (49, .ok), (51, .at (c51.d)), (200017, .no), (200028, .no), (200032, .no), (200042, .yes)] (ob hz1 (ob (rfl : false = false) (ob d3 (ob (rfl : false = false) (ob (rfl : false = false) (ob (rfl : false = false) (ob (rfl : false = false) (ob (rfl : false = false) (ob (rfl : false = false) (ob hz2 (ob (rfl : false = false) (ob (rfl : false = false) (ob hz3 (ob d14 (ob (rfl : false = false) (ob hz4 (ob (rfl : false = false) (ob (rfl : false = false) (ob d19 (ob hz5 (ob hz6 (ob d22 (ob hz7 (ob hz8 (ob (obT hz9) ob0))))))))))))))))))))))))) (by kernel_rfl)
       · obtain ⟨hz1, hz2, hz3, hz4, hz5, hz6, hz7, oz⟩ := q5 d3 d14 d19 d22
         subst oz; exact zab [(12, .back [.dat (I x12), .dat (B g12)] [P7 o cs rs bs room nur full] []), (30, .back [.dat (B g30)] [P7 o cs rs bs room nur full] []), (24, .ok), (26, .at (c26.d)), (39, .ok), (41, .at (c41.d)), (60, .ok), (49, .ok), (51, .at (c51.d)), (200017, .no), (200028, .no), (200032, .no), (200042, .no)] (ob hz1 (ob (rfl : false = false) (ob d3 (ob (rfl : false = false) (ob (rfl : false = false) (ob (rfl : false = false) (ob (rfl : false = false) (ob (rfl : false = false) (ob (rfl : false = false) (ob hz2 (ob (rfl : false = false) (ob (rfl : false = false) (ob hz3 (ob d14 (ob (rfl : false = false) (ob hz4 (ob (rfl : false = false) (ob (rfl : false = false) (ob d19 (ob hz5 (ob hz6 (ob d22 (ob (obT hz7) ob0))))))))))))))))))))))) (by kernel_rfl)
theorem zlN (kk : Nat) (o : Int) (cs rs bs : List Dat) (room nur : Int) (full : Bool) (a b x13 x19 : Int) (g13 g19 g28 : Bool) (o2 : Int) (cs2 rs2 : List Dat) (full2 g2 : Bool) (o1 : Int) (cs1 rs1 bs1 : List Dat) (full1 : Bool) (x42 : Int) (x50 : Int) {r : Res} (q1 : (g13 = true) → (g19 = true) → (g28 = true) → (g2 = true) → (den cfg kk 103 [D.ptr (Ref.up 0) 0, D.dat (I a)] [[D.dat (I o), D.own 97 cs, D.own 3 rs, D.own 5 bs, D.dat (I room), D.dat (I nur), D.dat (B full)]] [] = some ([D.dat (I x13), D.dat (B g13)], [[D.dat (I o), D.own 97 cs, D.own 3 rs, D.own 5 bs, D.dat (I room), D.dat (I nur), D.dat (B full)]], [])) ∧ (den cfg kk 103 [D.ptr (Ref.up 0) 0, D.dat (I b)] [[D.dat (I o), D.own 97 cs, D.own 3 rs, D.own 5 bs, D.dat (I room), D.dat (I nur), D.dat (B full)]] [] = some ([D.dat (I x19), D.dat (B g19)], [[D.dat (I o), D.own 97 cs, D.own 3 rs, D.own 5 bs, D.dat (I room), D.dat (I nur), D.dat (B full)]], [])) ∧ (den cfg kk 104 [D.ptr (Ref.up 0) 0] [[D.dat (I o), D.own 97 cs, D.own 3 rs, D.own 5 bs, D.dat (I room), D.dat (I nur), D.dat (B full)]] [] = some ([D.dat (B g28)], [[D.dat (I o), D.own 97 cs, D.own 3 rs, D.own 5 bs, D.dat (I room), D.dat (I nur), D.dat (B full)]], [])) ∧ (den cfg kk 105 [D.ptr (Ref.up 0) 0] [[D.dat (I o), D.own 97 cs, D.own 3 rs, D.own 5 bs, D.dat (I room), D.dat (I nur), D.dat (B full)]] [] = some ([D.dat (B g2)], [[D.dat (I o2), D.own 97 cs2, D.own 3 rs2, D.own 5 bs, D.dat (I room), D.dat (I nur), D.dat (B full2)]], [])) ∧ (0 ≤ a ∧ a < (rs2.length : Int)) ∧ (rs2[a.toNat]? = some (I x42)) ∧ (0 ≤ b ∧ b < (rs2.length : Int)) ∧ (rs2[b.toNat]? = some (I x50)) ∧ (den cfg kk 106 [D.ptr (Ref.up 0) 0, D.dat (Dat.agg [B false, I 0, I x42, I x50])] [[D.dat (I o2), D.own 97 cs2, D.own 3 rs2, D.own 5 bs, D.dat (I room), D.dat (I nur), D.dat (B full2)]] [] = some ([], [[D.dat (I o1), D.own 97 cs1, D.own 3 rs1, D.own 5 bs1, D.dat (I room), D.dat (I nur), D.dat (B full1)]], [])) ∧ r = ([], [[D.dat (I o1), D.own 97 cs1, D.own 3 rs1, D.own 5 bs1, D.dat (I room), D.dat (I nur), D.dat (B full1)]], [])) (q2 : (g13 = true) → (g19 = true) → (g28 = true) → (g2 = false) → (den cfg kk 103 [D.ptr (Ref.up 0) 0, D.dat (I a)] [[D.dat (I o), D.own 97 cs, D.own 3 rs, D.own 5 bs, D.dat (I room), D.dat (I nur), D.dat (B full)]] [] = some ([D.dat (I x13), D.dat (B g13)], [[D.dat (I o), D.own 97 cs, D.own 3 rs, D.own 5 bs, D.dat (I room), D.dat (I nur), D.dat (B full)]], [])) ∧ (den cfg kk 103 [D.ptr (Ref.up 0) 0, D.dat (I b)] [[D.dat (I o), D.own 97 cs, D.own 3 rs, D.own 5 bs, D.dat (I room), D.dat (I nur), D.dat (B full)]] [] = some ([D.dat (I x19), D.dat (B g19)], [[D.dat (I o), D.own 97 cs, D.own 3 rs, D.own 5 bs, D.dat (I room), D.dat (I nur), D.dat (B full)]], [])) ∧ (den cfg kk 104 [D.ptr (Ref.up 0) 0] [[D.dat (I o), D.own 97 cs, D.own 3 rs, D.own 5 bs, D.dat (I room), D.dat (I nur), D.dat (B full)]] [] = some ([D.dat (B g28)], [[D.dat (I o), D.own 97 cs, D.own 3 rs, D.own 5 bs, D.dat (I room), D.dat (I nur), D.dat (B full)]], [])) ∧ (den cfg kk 105 [D.ptr (Ref.up 0) 0] [[D.dat (I o), D.own 97 cs, D.own 3 rs, D.own 5 bs, D.dat (I room), D.dat (I nur), D.dat (B full)]] [] = some ([D.dat (B g2)], [[D.dat (I o2), D.own 97 cs2, D.own 3 rs2, D.own 5 bs, D.dat (I room), D.dat (I nur), D.dat (B full2)]], [])) ∧ r = ([], [[D.dat (I o2), D.own 97 cs2, D.own 3 rs2, D.own 5 bs, D.dat (I room), D.dat (I nur), D.dat (B full2)]], [])) (q3 : (g13 = true) → (g19 = true) → (g28 = false) → (den cfg kk 103 [D.ptr (Ref.up 0) 0, D.dat (I a)] [[D.dat (I o), D.own 97 cs, D.own 3 rs, D.own 5 bs, D.dat (I room), D.dat (I nur), D.dat (B full)]] [] = some ([D.dat (I x13), D.dat (B g13)], [[D.dat (I o), D.own 97 cs, D.own 3 rs, D.own 5 bs, D.dat (I room), D.dat (I nur), D.dat (B full)]], [])) ∧ (den cfg kk 103 [D.ptr (Ref.up 0) 0, D.dat (I b)] [[D.dat (I o), D.own 97 cs, D.own 3 rs, D.own 5 bs, D.dat (I room), D.dat (I nur), D.dat (B full)]] [] = some ([D.dat (I x19), D.dat (B g19)], [[D.dat (I o), D.own 97 cs, D.own 3 rs, D.own 5 bs, D.dat (I room), D.dat (I nur), D.dat (B full)]], [])) ∧ (den cfg kk 104 [D.ptr (Ref.up 0) 0] [[D.dat (I o), D.own 97 cs, D.own 3 rs, D.own 5 bs, D.dat (I room), D.dat (I nur), D.dat (B full)]] [] = some ([D.dat (B g28)], [[D.dat (I o), D.own 97 cs, D.own 3 rs, D.own 5 bs, D.dat (I room), D.dat (I nur), D.dat (B full)]], [])) ∧ r = ([], [[D.dat (I o), D.own 97 cs, D.own 3 rs, D.own 5 bs, D.dat (I room), D.dat (I nur), D.dat (B full)]], [])) (q4 : (g13 = true) → (g19 = false) → (den cfg kk 103 [D.ptr (Ref.up 0) 0, D.dat (I a)] [[D.dat (I o), D.own 97 cs, D.own 3 rs, D.own 5 bs, D.dat (I room), D.dat (I nur), D.dat (B full)]] [] = some ([D.dat (I x13), D.dat (B g13)], [[D.dat (I o), D.own 97 cs, D.own 3 rs, D.own 5 bs, D.dat (I room), D.dat (I nur), D.dat (B full)]], [])) ∧ (den cfg kk 103 [D.ptr (Ref.up 0) 0, D.dat (I b)] [[D.dat (I o), D.own 97 cs, D.own 3 rs, D.own 5 bs, D.dat (I room), D.dat (I nur), D.dat (B full)]] [] = some ([D.dat (I x19), D.dat (B g19)], [[D.dat (I o), D.own 97 cs, D.own 3 rs, D.own 5 bs, D.dat (I room), D.dat (I nur), D.dat (B full)]], [])) ∧ r = ([], [[D.dat (I o), D.own 97 cs, D.own 3 rs, D.own 5 bs, D.dat (I room), D.dat (I nur), D.dat (B full)]], [])) (q5 : (g13 = false) → (den cfg kk 103 [D.ptr (Ref.up 0) 0, D.dat (I a)] [[D.dat (I o), D.own 97 cs, D.own 3 rs, D.own 5 bs, D.dat (I room), D.dat (I nur), D.dat (B full)]] [] = some ([D.dat (I x13), D.dat (B g13)], [[D.dat (I o), D.own 97 cs, D.own 3 rs, D.own 5 bs, D.dat (I room), D.dat (I nur), D.dat (B full)]], [])) ∧ (den cfg kk 103 [D.ptr (Ref.up 0) 0, D.dat (I b)] [[D.dat (I o), D.own 97 cs, D.own 3 rs, D.own 5 bs, D.dat (I room), D.dat (I nur), D.dat (B full)]] [] = some ([D.dat (I x19), D.dat (B g19)], [[D.dat (I o), D.own 97 cs, D.own 3 rs, D.own 5 bs, D.dat (I room), D.dat (I nur), D.dat (B full)]], [])) ∧ r = ([], [[D.dat (I o), D.own 97 cs, D.own 3 rs, D.own 5 bs, D.dat (I room), D.dat (I nur), D.dat (B full)]], [])) : zan cfg kk (den cfg kk) 107 Go.Proofs.Tryd.f107 [.ptr (.up 0) 0, .dat (I a), .dat (I b)] [P7 o cs rs bs room nur full] [] = some r := by
 rcases Bool.eq_false_or_eq_true (g13) with d5 | d5
 · rcases Bool.eq_false_or_eq_true (g19) with d6 | d6
   · rcases Bool.eq_false_or_eq_true (g28) with d10 | d10
     · rcases Bool.eq_false_or_eq_true (g2) with d14 | d14
       · obtain ⟨hz1, hz2, hz3, hz4, hz5, hz6, hz7, hz8, hz9, oz⟩ := q1 d5 d6 d10 d14
         subst oz; exact zab [(13, .back [.dat (I x13), .dat (B g13)] [P7 o cs rs bs room nur full] []), (19, .back [.dat (I x19), .dat (B g19)] [P7 o cs rs bs room nur full] []), (28, .back [.dat (B g28)] [P7 o cs rs bs room nur full] []), (32, .back [.dat (B g2)] [P7 o2 cs2 rs2 bs room nur full2] []), (52, .back [] [P7 o1 cs1 rs1 bs1 room nur full1] []), (41, .ok), (42, .at (I x42)), (49, .ok), (50, .at (I x50)), (200023, .yes), (200026, .yes), (200030, .yes), (200033, .yes)] (ob hz1 (ob (rfl : false = false) (ob hz2 (ob (rfl : false = false) (ob d5 (ob d6 (ob (rfl : true = true) (ob hz3 (ob (rfl : false = false) (ob d10 (ob (rfl : true = true) (ob hz4 (ob (rfl : false = false) (ob d14 (ob hz5 (ob hz6 (ob hz7 (ob hz8 (ob hz9 (ob (rfl : false = false) ob0)))))))))))))))))))) (by kernel_rfl)
       · obtain ⟨hz1, hz2, hz3, hz4, oz⟩ := q2 d5 d6 d10 d14
         subst oz; exact zab [(13, .back [.dat (I x13), .dat (B g13)] [P7 o cs rs bs room nur full] []), (19, .back [.dat (I x19), .dat (B g19)] [P7 o cs rs bs room nur full] []), (28, .back [.dat (B g28)] [P7 o cs rs bs room nur full] []), (32, .back [.dat (B g2)] [P7 o2 cs2 rs2 bs room nur full2] []), (52, .back [] [P7 o1 cs1 rs1 bs1 room nur full1] []), (41, .ok), (42, .at (I x42)), (49, .ok), (50, .at (I x50)), (200023, .yes), (200026, .yes), (200030, .yes), (200033, .no)] (ob hz1 (ob (rfl : false = false) (ob hz2 (ob (rfl : false = false) (ob d5 (ob d6 (ob (rfl : true = true) (ob hz3 (ob (rfl : false = false) (ob d10 (ob (rfl : true = true) (ob hz4 (ob (rfl : false = false) (ob d14 ob0)))))))))))))) (by kernel_rfl)
     · obtain ⟨hz1, hz2, hz3, oz⟩ := q3 d5 d6 d10
       subst oz; exact zab [(13, .back [.dat (I x13), .dat (B g13)] [P7 o cs rs bs room nur full] []), (19, .back [.dat (I x19), .dat (B g19)] [P7 o cs rs bs room nur full] []), (28, .back [.dat (B g28)] [P7 o cs rs bs room nur full] []), (32, .back [.dat (B g2)] [P7 o2 cs2 rs2 bs room nur full2] []), (52, .back [] [P7 o1 cs1 rs1 bs1 room nur full1] []), (41, .ok), (42, .at (I x42)), (49, .ok), (50, .at (I x50)), (200023, .yes), (200026, .yes), (200030, .no)] (ob hz1 (ob (rfl : false = false) (ob hz2 (ob (rfl : false = false) (ob d5 (ob d6 (ob (rfl : true = true) (ob hz3 (ob (rfl : false = false) (ob d10 (ob (rfl : false = false) ob0))))))))))) (by kernel_rfl)
   · obtain ⟨hz1, hz2, oz⟩ := q4 d5 d6
     subst oz; exact zab [(13, .back [.dat (I x13), .dat (B g13)] [P7 o cs rs bs room nur full] []), (19, .back [.dat (I x19), .dat (B g19)] [P7 o cs rs bs room nur full] []), (28, .back [.dat (B g28)] [P7 o cs rs bs room nur full] []), (32, .back [.dat (B g2)] [P7 o2 cs2 rs2 bs room nur full2] []), (52, .back [] [P7 o1 cs1 rs1 bs1 room nur full1] []), (41, .ok), (42, .at (I x42)), (49, .ok), (50, .at (I x50)), (200023, .yes), (200026, .no)] (ob hz1 (ob (rfl : false = false) (ob hz2 (ob (rfl : false = false) (ob d5 (ob d6 (ob (rfl : false = false) ob0))))))) (by kernel_rfl)
 · obtain ⟨hz1, hz2, oz⟩ := q5 d5
   subst oz; exact zab [(13, .back [.dat (I x13), .dat (B g13)] [P7 o cs rs bs room nur full] []), (19, .back [.dat (I x19), .dat (B g19)] [P7 o cs rs bs room nur full] []), (28, .back [.dat (B g28)] [P7 o cs rs bs room nur full] []), (32, .back [.dat (B g2)] [P7 o2 cs2 rs2 bs room nur full2] []), (52, .back [] [P7 o1 cs1 rs1 bs1 room nur full1] []), (41, .ok), (42, .at (I x42)), (49, .ok), (50, .at (I x50)), (200023, .no)] (ob hz1 (ob (rfl : false = false) (ob hz2 (ob (rfl : false = false) (ob d5 ob0))))) (by kernel_rfl)
theorem zo1 (kk : Nat) (o : Int) (cs rs bs : List Dat) (room nur : Int) (full : Bool) (a b : Int) (x14 : Int) (g14 : Bool) (g22 : Bool) (o2 : Int) (cs2 rs2 : List Dat) (full2 g2 : Bool) (o1 : Int) (cs1 rs1 bs1 : List Dat) (full1 : Bool) {r : Res} (q1 : (g22 = true) → (g2 = true) → (den cfg kk 103 [D.ptr (Ref.up 0) 0, D.dat (I a)] [[D.dat (I o), D.own 97 cs, D.own 3 rs, D.own 5 bs, D.dat (I room), D.dat (I nur), D.dat (B full)]] [] = some ([D.dat (I x14), D.dat (B g14)], [[D.dat (I o), D.own 97 cs, D.own 3 rs, D.own 5 bs, D.dat (I room), D.dat (I nur), D.dat (B full)]], [])) ∧ (den cfg kk 104 [D.ptr (Ref.up 0) 0] [[D.dat (I o), D.own 97 cs, D.own 3 rs, D.own 5 bs, D.dat (I room), D.dat (I nur), D.dat (B full)]] [] = some ([D.dat (B g22)], [[D.dat (I o), D.own 97 cs, D.own 3 rs, D.own 5 bs, D.dat (I room), D.dat (I nur), D.dat (B full)]], [])) ∧ (den cfg kk 105 [D.ptr (Ref.up 0) 0] [[D.dat (I o), D.own 97 cs, D.own 3 rs, D.own 5 bs, D.dat (I room), D.dat (I nur), D.dat (B full)]] [] = some ([D.dat (B g2)], [[D.dat (I o2), D.own 97 cs2, D.own 3 rs2, D.own 5 bs, D.dat (I room), D.dat (I nur), D.dat (B full2)]], [])) ∧ (den cfg kk 106 [D.ptr (Ref.up 0) 0, D.dat (Dat.agg [B true, I a, I 0, I 0])] [[D.dat (I o2), D.own 97 cs2, D.own 3 rs2, D.own 5 bs, D.dat (I room), D.dat (I nur), D.dat (B full2)]] [] = some ([], [[D.dat (I o1), D.own 97 cs1, D.own 3 rs1, D.own 5 bs1, D.dat (I room), D.dat (I nur), D.dat (B full1)]], [])) ∧ r = ([], [[D.dat (I o1), D.own 97 cs1, D.own 3 rs1, D.own 5 bs1, D.dat (I room), D.dat (I nur), D.dat (B full1)]], [])) (q2 : (g22 = true) → (g2 = false) → (den cfg kk 103 [D.ptr (Ref.up 0) 0, D.dat (I a)] [[D.dat (I o), D.own 97 cs, D.own 3 rs, D.own 5 bs, D.dat (I room), D.dat (I nur), D.dat (B full)]] [] = some ([D.dat (I x14), D.dat (B g14)], [[D.dat (I o), D.own 97 cs, D.own 3 rs, D.own 5 bs, D.dat (I room), D.dat (I nur), D.dat (B full)]], [])) ∧ (den cfg kk 104 [D.ptr (Ref.up 0) 0] [[D.dat (I o), D.own 97 cs, D.own 3 rs, D.own 5 bs, D.dat (I room), D.dat (I nur), D.dat (B full)]] [] = some ([D.dat (B g22)], [[D.dat (I o), D.own 97 cs, D.own 3 rs, D.own 5 bs, D.dat (I room), D.dat (I nur), D.dat (B full)]], [])) ∧ (den cfg kk 105 [D.ptr (Ref.up 0) 0] [[D.dat (I o), D.own 97 cs, D.own 3 rs, D.own 5 bs, D.dat (I room), D.dat (I nur), D.dat (B full)]] [] = some ([D.dat (B g2)], [[D.dat (I o2), D.own 97 cs2, D.own 3 rs2, D.own 5 bs, D.dat (I room), D.dat (I nur), D.dat (B full2)]], [])) ∧ r = ([], [[D.dat (I o2), D.own 97 cs2, D.own 3 rs2, D.own 5 bs, D.dat (I room), D.dat (I nur), D.dat (B full2)]], [])) (q3 : (g22 = false) → (den cfg kk 103 [D.ptr (Ref.up 0) 0, D.dat (I a)] [[D.dat (I o), D.own 97 cs, D.own 3 rs, D.own 5 bs, D.dat (I room), D.dat (I nur), D.dat (B full)]] [] = some ([D.dat (I x14), D.dat (B g14)], [[D.dat (I o), D.own 97 cs, D.own 3 rs, D.own 5 bs, D.dat (I room), D.dat (I nur), D.dat (B full)]], [])) ∧ (den cfg kk 104 [D.ptr (Ref.up 0) 0] [[D.dat (I o), D.own 97 cs, D.own 3 rs, D.own 5 bs, D.dat (I room), D.dat (I nur), D.dat (B full)]] [] = some ([D.dat (B g22)], [[D.dat (I o), D.own 97 cs, D.own 3 rs, D.own 5 bs, D.dat (I room), D.dat (I nur), D.dat (B full)]], [])) ∧ r = ([], [[D.dat (I o), D.own 97 cs, D.own 3 rs, D.own 5 bs, D.dat (I room), D.dat (I nur), D.dat (B full)]], [])) : zan cfg kk (den cfg kk) 79 Go.Proofs.Tryd.f79 [.ptr (.up 0) 0, .dat (N3 1 a b)] [P7 o cs rs bs room nur full] [] = some r := by
 rcases Bool.eq_false_or_eq_true (g22) with d5 | d5
 · rcases Bool.eq_false_or_eq_true (g2) with d9 | d9
   · obtain ⟨hz1, hz2, hz3, hz4, oz⟩ := q1 d5 d9
     subst oz; exact zab [(14, .back [.dat (I x14), .dat (B g14)] [P7 o cs rs bs room nur full] []), (22, .back [.dat (B g22)] [P7 o cs rs bs room nur full] []), (25, .back [.dat (B g2)] [P7 o2 cs2 rs2 bs room nur full2] []), (31, .back [] [P7 o1 cs1 rs1 bs1 room nur full1] []), (200023, .yes), (200026, .yes)] (ob hz1 (ob (rfl : false = false) (ob hz2 (ob (rfl : false = false) (ob d5 (ob (rfl : true = true) (ob hz3 (ob (rfl : false = false) (ob d9 (ob hz4 (ob (rfl : false = false) ob0))))))))))) (by kernel_rfl)
   · obtain ⟨hz1, hz2, hz3, oz⟩ := q2 d5 d9
     subst oz; exact zab [(14, .back [.dat (I x14), .dat (B g14)] [P7 o cs rs bs room nur full] []), (22, .back [.dat (B g22)] [P7 o cs rs bs room nur full] []), (25, .back [.dat (B g2)] [P7 o2 cs2 rs2 bs room nur full2] []), (31, .back [] [P7 o1 cs1 rs1 bs1 room nur full1] []), (200023, .yes), (200026, .no)] (ob hz1 (ob (rfl : false = false) (ob hz2 (ob (rfl : false = false) (ob d5 (ob (rfl : true = true) (ob hz3 (ob (rfl : false = false) (ob d9 ob0))))))))) (by kernel_rfl)
 · obtain ⟨hz1, hz2, oz⟩ := q3 d5
   subst oz; exact zab [(14, .back [.dat (I x14), .dat (B g14)] [P7 o cs rs bs room nur full] []), (22, .back [.dat (B g22)] [P7 o cs rs bs room nur full] []), (25, .back [.dat (B g2)] [P7 o2 cs2 rs2 bs room nur full2] []), (31, .back [] [P7 o1 cs1 rs1 bs1 room nur full1] []), (200023, .no)] (ob hz1 (ob (rfl : false = false) (ob hz2 (ob (rfl : false = false) (ob d5 (ob (rfl : false = false) ob0)))))) (by kernel_rfl)
theorem do7_2 (kk : Nat) (o : Int) (cs rs bs : List Dat) (room nur : Int) (full : Bool) (a b : Int) (x14 : Int) (g14 : Bool) (o1 : Int) (cs1 rs1 bs1 : List Dat) (full1 : Bool) {r : Res} (q1 : (den cfg kk 103 [D.ptr (Ref.up 0) 0, D.dat (I a)] [[D.dat (I o), D.own 97 cs, D.own 3 rs, D.own 5 bs, D.dat (I room), D.dat (I nur), D.dat (B full)]] [] = some ([D.dat (I x14), D.dat (B g14)], [[D.dat (I o), D.own 97 cs, D.own 3 rs, D.own 5 bs, D.dat (I room), D.dat (I nur), D.dat (B full)]], [])) ∧ (den cfg kk 107 [D.ptr (Ref.up 0) 0, D.dat (I a), D.dat (I b)] [[D.dat (I o), D.own 97 cs, D.own 3 rs, D.own 5 bs, D.dat (I room), D.dat (I nur), D.dat (B full)]] [] = some ([], [[D.dat (I o1), D.own 97 cs1, D.own 3 rs1, D.own 5 bs1, D.dat (I room), D.dat (I nur), D.dat (B full1)]], [])) ∧ r = ([], [[D.dat (I o1), D.own 97 cs1, D.own 3 rs1, D.own 5 bs1, D.dat (I room), D.dat (I nur), D.dat (B full1)]], [])) : zan cfg kk (den cfg kk) 79 Go.Proofs.Tryd.f79 [.ptr (.up 0) 0, .dat (N3 2 a b)] [P7 o cs rs bs room nur full] [] = some r := by
 obtain ⟨hz1, hz2, oz⟩ := q1
 subst oz; exact zab [(14, .back [.dat (I x14), .dat (B g14)] [P7 o cs rs bs room nur full] []), (39, .back [] [P7 o1 cs1 rs1 bs1 room nur full1] [])] (ob hz1 (ob (rfl : false = false) (ob hz2 (ob (rfl : false = false) ob0)))) (by kernel_rfl)
theorem do7_3 (kk : Nat) (o : Int) (cs rs bs : List Dat) (room nur : Int) (full : Bool) (a b : Int) (x14 : Int) (g14 : Bool) (o1 : Int) (cs1 rs1 bs1 : List Dat) (full1 : Bool) {r : Res} (q1 : (den cfg kk 103 [D.ptr (Ref.up 0) 0, D.dat (I a)] [[D.dat (I o), D.own 97 cs, D.own 3 rs, D.own 5 bs, D.dat (I room), D.dat (I nur), D.dat (B full)]] [] = some ([D.dat (I x14), D.dat (B g14)], [[D.dat (I o), D.own 97 cs, D.own 3 rs, D.own 5 bs, D.dat (I room), D.dat (I nur), D.dat (B full)]], [])) ∧ (den cfg kk 108 [D.ptr (Ref.up 0) 0, D.dat (I a), D.dat (B false)] [[D.dat (I o), D.own 97 cs, D.own 3 rs, D.own 5 bs, D.dat (I room), D.dat (I nur), D.dat (B full)]] [] = some ([], [[D.dat (I o1), D.own 97 cs1, D.own 3 rs1, D.own 5 bs1, D.dat (I room), D.dat (I nur), D.dat (B full1)]], [])) ∧ r = ([], [[D.dat (I o1), D.own 97 cs1, D.own 3 rs1, D.own 5 bs1, D.dat (I room), D.dat (I nur), D.dat (B full1)]], [])) : zan cfg kk (den cfg kk) 79 Go.Proofs.Tryd.f79 [.ptr (.up 0) 0, .dat (N3 3 a b)] [P7 o cs rs bs room nur full] [] = some r := by
 obtain ⟨hz1, hz2, oz⟩ := q1
 subst oz; exact zab [(14, .back [.dat (I x14), .dat (B g14)] [P7 o cs rs bs room nur full] []), (49, .back [] [P7 o1 cs1 rs1 bs1 room nur full1] [])] (ob hz1 (ob (rfl : false = false) (ob hz2 (ob (rfl : false = false) ob0)))) (by kernel_rfl)
theorem do7_4 (kk : Nat) (o : Int) (cs rs bs : List Dat) (room nur : Int) (full : Bool) (a b : Int) (x14 : Int) (g14 : Bool) (o1 : Int) (cs1 rs1 bs1 : List Dat) (full1 : Bool) {r : Res} (q1 : (den cfg kk 103 [D.ptr (Ref.up 0) 0, D.dat (I a)] [[D.dat (I o), D.own 97 cs, D.own 3 rs, D.own 5 bs, D.dat (I room), D.dat (I nur), D.dat (B full)]] [] = some ([D.dat (I x14), D.dat (B g14)], [[D.dat (I o), D.own 97 cs, D.own 3 rs, D.own 5 bs, D.dat (I room), D.dat (I nur), D.dat (B full)]], [])) ∧ (den cfg kk 108 [D.ptr (Ref.up 0) 0, D.dat (I a), D.dat (B true)] [[D.dat (I o), D.own 97 cs, D.own 3 rs, D.own 5 bs, D.dat (I room), D.dat (I nur), D.dat (B full)]] [] = some ([], [[D.dat (I o1), D.own 97 cs1, D.own 3 rs1, D.own 5 bs1, D.dat (I room), D.dat (I nur), D.dat (B full1)]], [])) ∧ r = ([], [[D.dat (I o1), D.own 97 cs1, D.own 3 rs1, D.own 5 bs1, D.dat (I room), D.dat (I nur), D.dat (B full1)]], [])) : zan cfg kk (den cfg kk) 79 Go.Proofs.Tryd.f79 [.ptr (.up 0) 0, .dat (N3 4 a b)] [P7 o cs rs bs room nur full] [] = some r := by
 obtain ⟨hz1, hz2, oz⟩ := q1
 subst oz; exact zab [(14, .back [.dat (I x14), .dat (B g14)] [P7 o cs rs bs room nur full] []), (49, .back [] [P7 o1 cs1 rs1 bs1 room nur full1] [])] (ob hz1 (ob (rfl : false = false) (ob hz2 (ob (rfl : false = false) ob0)))) (by kernel_rfl)
theorem do7_5 (kk : Nat) (o : Int) (cs rs bs : List Dat) (room nur : Int) (full : Bool) (a b : Int) (x14 : Int) (g14 : Bool) (e59 : List Dat) (e65 : List Dat) {r : Res} (q1 : (g14 = true) → (den cfg kk 103 [D.ptr (Ref.up 0) 0, D.dat (I a)] [[D.dat (I o), D.own 97 cs, D.own 3 rs, D.own 5 bs, D.dat (I room), D.dat (I nur), D.dat (B full)]] [] = some ([D.dat (I x14), D.dat (B g14)], [[D.dat (I o), D.own 97 cs, D.own 3 rs, D.own 5 bs, D.dat (I room), D.dat (I nur), D.dat (B full)]], [])) ∧ (D.cleans [D.own 3 e59] = true) ∧ (den cfg kk 82 [D.dat (Dat.lst true rs)] [] [] = some ([D.own 3 e59], [], [])) ∧ (den cfg kk 109 [D.own 3 e59, D.dat (I a), D.dat (I (w64 (a + 1)))] [] [] = some ([D.own 3 e65], [], [])) ∧ r = ([], [[D.dat (I o), D.own 97 cs, D.own 3 e65, D.own 5 bs, D.dat (I room), D.dat (I nur), D.dat (B full)]], [])) (q2 : (g14 = false) → (den cfg kk 103 [D.ptr (Ref.up 0) 0, D.dat (I a)] [[D.dat (I o), D.own 97 cs, D.own 3 rs, D.own 5 bs, D.dat (I room), D.dat (I nur), D.dat (B full)]] [] = some ([D.dat (I x14), D.dat (B g14)], [[D.dat (I o), D.own 97 cs, D.own 3 rs, D.own 5 bs, D.dat (I room), D.dat (I nur), D.dat (B full)]], [])) ∧ r = ([], [[D.dat (I o), D.own 97 cs, D.own 3 rs, D.own 5 bs, D.dat (I room), D.dat (I nur), D.dat (B full)]], [])) : zan cfg kk (den cfg kk) 79 Go.Proofs.Tryd.f79 [.ptr (.up 0) 0, .dat (N3 5 a b)] [P7 o cs rs bs room nur full] [] = some r := by
 rcases Bool.eq_false_or_eq_true (g14) with d3 | d3
 · obtain ⟨hz1, hz2, hz3, hz4, oz⟩ := q1 d3
   subst oz; exact zab [(14, .back [.dat (I x14), .dat (B g14)] [P7 o cs rs bs room nur full] []), (59, .ret [.own 3 e59]), (65, .back [.own 3 e65] [] []), (200052, .yes)] (ob hz1 (ob (rfl : false = false) (ob d3 (ob hz2 (ob hz3 (ob hz4 (ob (rfl : false = false) ob0))))))) (by kernel_rfl)
 · obtain ⟨hz1, oz⟩ := q2 d3
   subst oz; exact zab [(14, .back [.dat (I x14), .dat (B g14)] [P7 o cs rs bs room nur full] []), (59, .ret [.own 3 e59]), (65, .back [.own 3 e65] [] []), (200052, .no)] (ob hz1 (ob (rfl : false = false) (ob d3 ob0))) (by kernel_rfl)
theorem zpC (kk : Nat) (o : Int) (cs rs bs : List Dat) (room nur : Int) (full : Bool) (a b : Int) (x14 : Int) (g14 : Bool) (s : ByteArray) (sh : Bool) (o1 : Int) (cs1 rs1 bs1 : List Dat) (full1 : Bool) {r : Res} (q1 : (g14 = true) → ((!sh) = true) → (den cfg kk 103 [D.ptr (Ref.up 0) 0, D.dat (I a)] [[D.dat (I o), D.own 97 cs, D.own 3 rs, D.own 5 bs, D.dat (I room), D.dat (I nur), D.dat (B full)]] [] = some ([D.dat (I x14), D.dat (B g14)], [[D.dat (I o), D.own 97 cs, D.own 3 rs, D.own 5 bs, D.dat (I room), D.dat (I nur), D.dat (B full)]], [])) ∧ (den cfg kk 110 [D.dat (Dat.lst true cs), D.dat (I x14)] [] [] = some ([D.dat (Dat.val (Value.string s)), D.dat (B sh)], [], [])) ∧ (den cfg kk 111 [D.ptr (Ref.up 0) 0, D.dat (Dat.val (Value.string (ByteArray.mk #[108, 111, 110, 103])))] [[D.dat (I o), D.own 97 cs, D.own 3 rs, D.own 5 bs, D.dat (I room), D.dat (I nur), D.dat (B full)]] [] = some ([], [[D.dat (I o1), D.own 97 cs1, D.own 3 rs1, D.own 5 bs1, D.dat (I room), D.dat (I nur), D.dat (B full1)]], [])) ∧ r = ([], [[D.dat (I o1), D.own 97 cs1, D.own 3 rs1, D.own 5 bs1, D.dat (I room), D.dat (I nur), D.dat (B full1)]], [])) (q2 : (g14 = true) → ((!sh) = false) → (den cfg kk 103 [D.ptr (Ref.up 0) 0, D.dat (I a)] [[D.dat (I o), D.own 97 cs, D.own 3 rs, D.own 5 bs, D.dat (I room), D.dat (I nur), D.dat (B full)]] [] = some ([D.dat (I x14), D.dat (B g14)], [[D.dat (I o), D.own 97 cs, D.own 3 rs, D.own 5 bs, D.dat (I room), D.dat (I nur), D.dat (B full)]], [])) ∧ (den cfg kk 110 [D.dat (Dat.lst true cs), D.dat (I x14)] [] [] = some ([D.dat (Dat.val (Value.string s)), D.dat (B sh)], [], [])) ∧ (den cfg kk 111 [D.ptr (Ref.up 0) 0, D.dat (Dat.val (Value.string s))] [[D.dat (I o), D.own 97 cs, D.own 3 rs, D.own 5 bs, D.dat (I room), D.dat (I nur), D.dat (B full)]] [] = some ([], [[D.dat (I o1), D.own 97 cs1, D.own 3 rs1, D.own 5 bs1, D.dat (I room), D.dat (I nur), D.dat (B full1)]], [])) ∧ r = ([], [[D.dat (I o1), D.own 97 cs1, D.own 3 rs1, D.own 5 bs1, D.dat (I room), D.dat (I nur), D.dat (B full1)]], [])) (q3 : (g14 = false) → (den cfg kk 103 [D.ptr (Ref.up 0) 0, D.dat (I a)] [[D.dat (I o), D.own 97 cs, D.own 3 rs, D.own 5 bs, D.dat (I room), D.dat (I nur), D.dat (B full)]] [] = some ([D.dat (I x14), D.dat (B g14)], [[D.dat (I o), D.own 97 cs, D.own 3 rs, D.own 5 bs, D.dat (I room), D.dat (I nur), D.dat (B full)]], [])) ∧ r = ([], [[D.dat (I o), D.own 97 cs, D.own 3 rs, D.own 5 bs, D.dat (I room), D.dat (I nur), D.dat (B full)]], [])) : zan cfg kk (den cfg kk) 79 Go.Proofs.Tryd.f79 [.ptr (.up 0) 0, .dat (N3 6 a b)] [P7 o cs rs bs room nur full] [] = some r := by
 rcases Bool.eq_false_or_eq_true (g14) with d3 | d3
 · rcases Bool.eq_false_or_eq_true ((!sh)) with d6 | d6
   · obtain ⟨hz1, hz2, hz3, oz⟩ := q1 d3 d6
     subst oz; exact zab [(14, .back [.dat (I x14), .dat (B g14)] [P7 o cs rs bs room nur full] []), (79, .ret [.dat (S s), .dat (B sh)]), (86, .back [] [P7 o1 cs1 rs1 bs1 room nur full1] []), (200071, .yes), (200083, .yes)] (ob hz1 (ob (rfl : false = false) (ob d3 (ob (rfl : true = true) (ob hz2 (ob d6 (ob hz3 (ob (rfl : false = false) ob0)))))))) (by kernel_rfl)
   · obtain ⟨hz1, hz2, hz3, oz⟩ := q2 d3 d6
     subst oz; exact zab [(14, .back [.dat (I x14), .dat (B g14)] [P7 o cs rs bs room nur full] []), (79, .ret [.dat (S s), .dat (B sh)]), (86, .back [] [P7 o1 cs1 rs1 bs1 room nur full1] []), (200071, .yes), (200083, .no)] (ob hz1 (ob (rfl : false = false) (ob d3 (ob (rfl : true = true) (ob hz2 (ob d6 (ob hz3 (ob (rfl : false = false) ob0)))))))) (by kernel_rfl)
 · obtain ⟨hz1, oz⟩ := q3 d3
   subst oz; exact zab [(14, .back [.dat (I x14), .dat (B g14)] [P7 o cs rs bs room nur full] []), (79, .ret [.dat (S s), .dat (B sh)]), (86, .back [] [P7 o1 cs1 rs1 bs1 room nur full1] []), (200071, .no)] (ob hz1 (ob (rfl : false = false) (ob d3 ob0))) (by kernel_rfl)
theorem znj (kk : Nat) (o : Int) (cs rs bs : List Dat) (room nur : Int) (full : Bool) (a b : Int) (x14 : Int) (g14 : Bool) (x93 : Int) (g93 : Bool) (o1 : Int) (cs1 rs1 bs1 : List Dat) (full1 : Bool) (s106 : ByteArray) {r : Res} (q1 : (g14 = true) → (g93 = true) → (den cfg kk 103 [D.ptr (Ref.up 0) 0, D.dat (I a)] [[D.dat (I o), D.own 97 cs, D.own 3 rs, D.own 5 bs, D.dat (I room), D.dat (I nur), D.dat (B full)]] [] = some ([D.dat (I x14), D.dat (B g14)], [[D.dat (I o), D.own 97 cs, D.own 3 rs, D.own 5 bs, D.dat (I room), D.dat (I nur), D.dat (B full)]], [])) ∧ (den cfg kk 103 [D.ptr (Ref.up 0) 0, D.dat (I b)] [[D.dat (I o), D.own 97 cs, D.own 3 rs, D.own 5 bs, D.dat (I room), D.dat (I nur), D.dat (B full)]] [] = some ([D.dat (I x93), D.dat (B g93)], [[D.dat (I o), D.own 97 cs, D.own 3 rs, D.own 5 bs, D.dat (I room), D.dat (I nur), D.dat (B full)]], [])) ∧ (zdk (TI.mk TK.bool 1 1 [] [D.dat (B false)]).kind (Value.bool (decide (x14 = x93))) (D.etc Etc.mark :: (fun l' => D.dat (B true) :: D.dat (Dat.val (Value.string (ByteArray.mk #[115, 97, 109, 101]))) :: l') [D.dat (B false), D.dat (Dat.val (Value.string (ByteArray.mk #[111, 116, 104, 101, 114])))]).tail = some (some (Value.string s106))) ∧ (den cfg kk 111 [D.ptr (Ref.up 0) 0, D.dat (Dat.val (Value.string s106))] [[D.dat (I o), D.own 97 cs, D.own 3 rs, D.own 5 bs, D.dat (I room), D.dat (I nur), D.dat (B full)]] [] = some ([], [[D.dat (I o1), D.own 97 cs1, D.own 3 rs1, D.own 5 bs1, D.dat (I room), D.dat (I nur), D.dat (B full1)]], [])) ∧ r = ([], [[D.dat (I o1), D.own 97 cs1, D.own 3 rs1, D.own 5 bs1, D.dat (I room), D.dat (I nur), D.dat (B full1)]], [])) (q2 : (g14 = true) → (g93 = false) → (den cfg kk 103 [D.ptr (Ref.up 0) 0, D.dat (I a)] [[D.dat (I o), D.own 97 cs, D.own 3 rs, D.own 5 bs, D.dat (I room), D.dat (I nur), D.dat (B full)]] [] = some ([D.dat (I x14), D.dat (B g14)], [[D.dat (I o), D.own 97 cs, D.own 3 rs, D.own 5 bs, D.dat (I room), D.dat (I nur), D.dat (B full)]], [])) ∧ (den cfg kk 103 [D.ptr (Ref.up 0) 0, D.dat (I b)] [[D.dat (I o), D.own 97 cs, D.own 3 rs, D.own 5 bs, D.dat (I room), D.dat (I nur), D.dat (B full)]] [] = some ([D.dat (I x93), D.dat (B g93)], [[D.dat (I o), D.own 97 cs, D.own 3 rs, D.own 5 bs, D.dat (I room), D.dat (I nur), D.dat (B full)]], [])) ∧ r = ([], [[D.dat (I o), D.own 97 cs, D.own 3 rs, D.own 5 bs, D.dat (I room), D.dat (I nur), D.dat (B full)]], [])) (q3 : (g14 = false) → (den cfg kk 103 [D.ptr (Ref.up 0) 0, D.dat (I a)] [[D.dat (I o), D.own 97 cs, D.own 3 rs, D.own 5 bs, D.dat (I room), D.dat (I nur), D.dat (B full)]] [] = some ([D.dat (I x14), D.dat (B g14)], [[D.dat (I o), D.own 97 cs, D.own 3 rs, D.own 5 bs, D.dat (I room), D.dat (I nur), D.dat (B full)]], [])) ∧ (den cfg kk 103 [D.ptr (Ref.up 0) 0, D.dat (I b)] [[D.dat (I o), D.own 97 cs, D.own 3 rs, D.own 5 bs, D.dat (I room), D.dat (I nur), D.dat (B full)]] [] = some ([D.dat (I x93), D.dat (B g93)], [[D.dat (I o), D.own 97 cs, D.own 3 rs, D.own 5 bs, D.dat (I room), D.dat (I nur), D.dat (B full)]], [])) ∧ r = ([], [[D.dat (I o), D.own 97 cs, D.own 3 rs, D.own 5 bs, D.dat (I room), D.dat (I nur), D.dat (B full)]], [])) : zan cfg kk (den cfg kk) 79 Go.Proofs.Tryd.f79 [.ptr (.up 0) 0, .dat (N3 7 a b)] [P7 o cs rs bs room nur full] [] = some r := by
 rcases Bool.eq_false_or_eq_true (g14) with d5 | d5
 · rcases Bool.eq_false_or_eq_true (g93) with d6 | d6
   · obtain ⟨hz1, hz2, hz3, hz4, oz⟩ := q1 d5 d6
     subst oz; exact zab [(14, .back [.dat (I x14), .dat (B g14)] [P7 o cs rs bs room nur full] []), (93, .back [.dat (I x93), .dat (B g93)] [P7 o cs rs bs room nur full] []), (107, .back [] [P7 o1 cs1 rs1 bs1 room nur full1] []), (106, .at (S s106)), (200097, .yes), (200099, .yes)] (ob hz1 (ob (rfl : false = false) (ob hz2 (ob (rfl : false = false) (ob d5 (ob d6 (ob hz3 (ob hz4 (ob (rfl : false = false) ob0))))))))) (by kernel_rfl)
   · obtain ⟨hz1, hz2, oz⟩ := q2 d5 d6
     subst oz; exact zab [(14, .back [.dat (I x14), .dat (B g14)] [P7 o cs rs bs room nur full] []), (93, .back [.dat (I x93), .dat (B g93)] [P7 o cs rs bs room nur full] []), (107, .back [] [P7 o1 cs1 rs1 bs1 room nur full1] []), (106, .at (S s106)), (200097, .yes), (200099, .no)] (ob hz1 (ob (rfl : false = false) (ob hz2 (ob (rfl : false = false) (ob d5 (ob d6 ob0)))))) (by kernel_rfl)
 · obtain ⟨hz1, hz2, oz⟩ := q3 d5
   subst oz; exact zab [(14, .back [.dat (I x14), .dat (B g14)] [P7 o cs rs bs room nur full] []), (93, .back [.dat (I x93), .dat (B g93)] [P7 o cs rs bs room nur full] []), (107, .back [] [P7 o1 cs1 rs1 bs1 room nur full1] []), (106, .at (S s106)), (200097, .no)] (ob hz1 (ob (rfl : false = false) (ob hz2 (ob (rfl : false = false) (ob d5 ob0))))) (by kernel_rfl)
theorem do7_8 (kk : Nat) (o : Int) (cs rs bs : List Dat) (room nur : Int) (full : Bool) (a b : Int) (x14 : Int) (g14 : Bool) (oa : Int) (ca ra : List Dat) {r : Res} (q1 : (decide (0 ≤ room) = true) → (den cfg kk 103 [D.ptr (Ref.up 0) 0, D.dat (I a)] [[D.dat (I o), D.own 97 cs, D.own 3 rs, D.own 5 bs, D.dat (I room), D.dat (I nur), D.dat (B full)]] [] = some ([D.dat (I x14), D.dat (B g14)], [[D.dat (I o), D.own 97 cs, D.own 3 rs, D.own 5 bs, D.dat (I room), D.dat (I nur), D.dat (B full)]], [])) ∧ (D.cleans [D.seq false [D.dat (I oa), D.own 97 ca, D.own 3 ra]] = true) ∧ (den cfg kk 112 [D.dat (Dat.agg [I o, Dat.lst true cs, Dat.lst true rs])] [] [] = some ([D.seq false [D.dat (I oa), D.own 97 ca, D.own 3 ra]], [], [])) ∧ r = ([], [[D.dat (I oa), D.own 97 ca, D.own 3 ra, D.own 5 bs, D.dat (I room), D.dat (I nur), D.dat (B full)]], [])) (q2 : (decide (0 ≤ room) = false) → (den cfg kk 103 [D.ptr (Ref.up 0) 0, D.dat (I a)] [[D.dat (I o), D.own 97 cs, D.own 3 rs, D.own 5 bs, D.dat (I room), D.dat (I nur), D.dat (B full)]] [] = some ([D.dat (I x14), D.dat (B g14)], [[D.dat (I o), D.own 97 cs, D.own 3 rs, D.own 5 bs, D.dat (I room), D.dat (I nur), D.dat (B full)]], [])) ∧ r = ([], [[D.dat (I o), D.own 97 cs, D.own 3 rs, D.own 5 bs, D.dat (I room), D.dat (I nur), D.dat (B full)]], [])) : zan cfg kk (den cfg kk) 79 Go.Proofs.Tryd.f79 [.ptr (.up 0) 0, .dat (N3 8 a b)] [P7 o cs rs bs room nur full] [] = some r := by
 rcases Bool.eq_false_or_eq_true (decide (0 ≤ room)) with d3 | d3
 · obtain ⟨hz1, hz2, hz3, oz⟩ := q1 d3
   subst oz; exact zab [(14, .back [.dat (I x14), .dat (B g14)] [P7 o cs rs bs room nur full] []), (120, .ret [.seq false [.dat (I oa), .own 97 ca, .own 3 ra]]), (200114, .yes)] (ob hz1 (ob (rfl : false = false) (ob d3 (ob hz2 (ob hz3 ob0))))) (by kernel_rfl)
 · obtain ⟨hz1, oz⟩ := q2 d3
   subst oz; exact zab [(14, .back [.dat (I x14), .dat (B g14)] [P7 o cs rs bs room nur full] []), (120, .ret [.seq false [.dat (I oa), .own 97 ca, .own 3 ra]]), (200114, .no)] (ob hz1 (ob (rfl : false = false) (ob d3 ob0))) (by kernel_rfl)
theorem do7_9 (kk : Nat) (o : Int) (cs rs bs : List Dat) (room nur : Int) (full : Bool) (a b : Int) (x14 : Int) (g14 : Bool) (oa : Int) (ca ra : List Dat) {r : Res} (q1 : (decide (0 ≤ room) = true) → (den cfg kk 103 [D.ptr (Ref.up 0) 0, D.dat (I a)] [[D.dat (I o), D.own 97 cs, D.own 3 rs, D.own 5 bs, D.dat (I room), D.dat (I nur), D.dat (B full)]] [] = some ([D.dat (I x14), D.dat (B g14)], [[D.dat (I o), D.own 97 cs, D.own 3 rs, D.own 5 bs, D.dat (I room), D.dat (I nur), D.dat (B full)]], [])) ∧ (D.cleans [D.seq false [D.dat (I oa), D.own 97 ca, D.own 3 ra]] = true) ∧ (den cfg kk 113 [D.dat (Dat.agg [I o, Dat.lst true cs, Dat.lst true rs])] [] [] = some ([D.seq false [D.dat (I oa), D.own 97 ca, D.own 3 ra]], [], [])) ∧ r = ([], [[D.dat (I oa), D.own 97 ca, D.own 3 ra, D.own 5 bs, D.dat (I room), D.dat (I nur), D.dat (B full)]], [])) (q2 : (decide (0 ≤ room) = false) → (den cfg kk 103 [D.ptr (Ref.up 0) 0, D.dat (I a)] [[D.dat (I o), D.own 97 cs, D.own 3 rs, D.own 5 bs, D.dat (I room), D.dat (I nur), D.dat (B full)]] [] = some ([D.dat (I x14), D.dat (B g14)], [[D.dat (I o), D.own 97 cs, D.own 3 rs, D.own 5 bs, D.dat (I room), D.dat (I nur), D.dat (B full)]], [])) ∧ r = ([], [[D.dat (I o), D.own 97 cs, D.own 3 rs, D.own 5 bs, D.dat (I room), D.dat (I nur), D.dat (B full)]], [])) : zan cfg kk (den cfg kk) 79 Go.Proofs.Tryd.f79 [.ptr (.up 0) 0, .dat (N3 9 a b)] [P7 o cs rs bs room nur full] [] = some r := by
 rcases Bool.eq_false_or_eq_true (decide (0 ≤ room)) with d3 | d3
 · obtain ⟨hz1, hz2, hz3, oz⟩ := q1 d3
   subst oz; exact zab [(14, .back [.dat (I x14), .dat (B g14)] [P7 o cs rs bs room nur full] []), (135, .ret [.seq false [.dat (I oa), .own 97 ca, .own 3 ra]]), (200129, .yes)] (ob hz1 (ob (rfl : false = false) (ob d3 (ob hz2 (ob hz3 ob0))))) (by kernel_rfl)
 · obtain ⟨hz1, oz⟩ := q2 d3
   subst oz; exact zab [(14, .back [.dat (I x14), .dat (B g14)] [P7 o cs rs bs room nur full] []), (135, .ret [.seq false [.dat (I oa), .own 97 ca, .own 3 ra]]), (200129, .no)] (ob hz1 (ob (rfl : false = false) (ob d3 ob0))) (by kernel_rfl)
theorem do7_o (kk : Nat) (o : Int) (cs rs bs : List Dat) (room nur : Int) (full : Bool) (k a b : Int) (x14 : Int) (g14 : Bool) (h1 : den cfg kk 103 [D.ptr (Ref.up 0) 0, D.dat (I a)] [[D.dat (I o), D.own 97 cs, D.own 3 rs, D.own 5 bs, D.dat (I room), D.dat (I nur), D.dat (B full)]] [] = some ([D.dat (I x14), D.dat (B g14)], [[D.dat (I o), D.own 97 cs, D.own 3 rs, D.own 5 bs, D.dat (I room), D.dat (I nur), D.dat (B full)]], [])) (h3 : decide (k = 1) = false) (h4 : decide (k = 2) = false) (h5 : decide (k = 3) = false) (h6 : decide (k = 4) = false) (h7 : decide (k = 5) = false) (h8 : decide (k = 6) = false) (h9 : decide (k = 7) = false) (h10 : decide (k = 8) = false) (h11 : decide (k = 9) = false) : zan cfg kk (den cfg kk) 79 Go.Proofs.Tryd.f79 [.ptr (.up 0) 0, .dat (N3 k a b)] [P7 o cs rs bs room nur full] [] = some ([], [[D.dat (I o), D.own 97 cs, D.own 3 rs, D.own 5 bs, D.dat (I room), D.dat (I nur), D.dat (B full)]], []) :=
 zab [(14, .back [.dat (I x14), .dat (B g14)] [P7 o cs rs bs room nur full] []), (200019, .no), (200032, .no), (200040, .no), (200050, .no), (200069, .no), (200087, .no), (200108, .no), (200123, .no)] (ob h1 (ob (rfl : false = false) (ob h3 (ob h4 (ob h5 (ob h6 (ob h7 (ob h8 (ob h9 (ob h10 (ob h11 ob0))))))))))) (by kernel_rfl)
end Go.Den
namespace Go.Den
open Go
set_option linter.unusedVariables false
set_option maxRecDepth 100000
theorem szO (kk : Nat) (left : Int) (b : Bool) (es : List Dat) {r : Res} (q1 : (decide (w64 (left - (es.length : Int)) < 0) = true) → r = ([D.dat (I (-1))], [], [])) (q2 : (decide (w64 (left - (es.length : Int)) < 0) = false) → r = ([D.dat (I (w64 (left - (es.length : Int))))], [], [])) : zan cfg kk (den cfg kk) 16 Go.Proofs.Tryd.f16 [.dat (Dat.lst b es), .dat (I left)] [] [] = some r := by
 rcases Bool.eq_false_or_eq_true (decide (w64 (left - (es.length : Int)) < 0)) with d1 | d1
 · have oz := q1 d1
   subst oz; exact zab [(200010, .yes)] (ob d1 ob0) (by kernel_rfl)
 · have oz := q2 d1
   subst oz; exact zab [(200010, .no)] (ob d1 ob0) (by kernel_rfl)
theorem toOp (kk : Nat) (k a b : Int) {r : Res} (q1 : r = ([D.dat (N3 k a b)], [], [])) : zan cfg kk (den cfg kk) 48 Go.Proofs.Tryd.f48 [.dat (N3 k a b)] [] [] = some r := by
 have oz := q1
 subst oz; exact zab [] ob0 (by kernel_rfl)
def hd18 (b : Bool) (es out : List Dat) (i : Int) : St := Nm [0, 3, 4] [.dat (.lst b es), .own 72 out, .dat (I i)] [none, none, none] [] []
theorem zmO (kk m : Nat) {s : St} {K : X → St → Prop} (b : Bool) (es out : List Dat) (i : Int) (x18_0 : Int) (x18_1 : Int) (x18_2 : Int) (k20 a20 b20 : Int) (k100021 a100021 b100021 : Int) (hs : s.norm ((zaf cfg kk 18 Go.Proofs.Tryd.f18).live (zaa (lp Go.Proofs.Tryd.f18 3))) = hd18 b es out i) (q1 : (decide (i < (es.length : Int)) = true) → ((0 ≤ i ∧ i < (es.length : Int)) ∧ es[i.toNat]? = some (N3 x18_0 x18_1 x18_2)) ∧ (den cfg kk 48 [D.dat (N3 x18_0 x18_1 x18_2)] [] [] = some ([D.dat (N3 k20 a20 b20)], [], [])) ∧ (0 ≤ i ∧ i < (out.length : Int)) ∧ (out[i.toNat]? = some (N3 k100021 a100021 b100021)) ∧ (∀ s : St, s.norm ((zaf cfg kk 18 Go.Proofs.Tryd.f18).live (zaa (lp Go.Proofs.Tryd.f18 3))) = Nm [0, 3, 4] [D.dat (Dat.lst b es), D.own 72 (out.set i.toNat (N3 k20 a20 b20)), D.dat (I (w64 (i + 1)))] [none, none, none] [] [] → zag (zaf cfg kk 18 Go.Proofs.Tryd.f18) kk (lp Go.Proofs.Tryd.f18 3) m s K)) (q2 : (decide (i < (es.length : Int)) = false) → K (X.exit 0) (Nm [3] [D.own 72 out] [none] [] [])) : zag (zaf cfg kk 18 Go.Proofs.Tryd.f18) kk (lp Go.Proofs.Tryd.f18 3) (m + 1) s K := by
 rcases Bool.eq_false_or_eq_true (decide (i < (es.length : Int))) with d1 | d1
 · obtain ⟨hz1, hz2, hz3, hz4, oz⟩ := q1 d1
   exact zal [(18, .at (Dat.agg [I x18_0, I x18_1, I x18_2])), (20, .ret [.dat (N3 k20 a20 b20)]), (21, .ok), (100021, .at (N3 k100021 a100021 b100021)), (200011, .yes)] hs (by kernel_rfl) (ob d1 (ob hz1 (ob hz2 (ob hz3 (ob hz4 ob0))))) (by kernel_rfl) oz
 · have oz := q2 d1
   exact zam [(18, .at (Dat.agg [I x18_0, I x18_1, I x18_2])), (20, .ret [.dat (N3 k20 a20 b20)]), (21, .ok), (100021, .at (N3 k100021 a100021 b100021)), (200011, .no)] hs (by kernel_rfl) rfl (ob d1 ob0) (by kernel_rfl) oz
theorem toOpS (kk : Nat) (b : Bool) (es out : List Dat) {r : Res} (q1 : (0 ≤ (es.length : Int) ∧ (es.length : Int) ≤ (es.length : Int) ∧ (es.length : Int) ≤ 2147483648) ∧ (za7 cfg kk 18 Go.Proofs.Tryd.f18 3 (hd18 b es (List.replicate es.length (N3 0 0 0)) 0) (X.exit 0) (Nm [3] [D.own 72 out] [none] [] [])) ∧ r = ([D.own 72 out], [], [])) : zan cfg kk (den cfg kk) 18 Go.Proofs.Tryd.f18 [.dat (Dat.lst b es)] [] [] = some r := by
 obtain ⟨hz1, hz2, oz⟩ := q1
 subst oz; exact zab [(300003, .loop (hd18 b es (List.replicate es.length (N3 0 0 0)) 0) (.exit 0) (Nm [3] [.own 72 out] [none] [] [])), (7, .ok)] (ob hz1 (ob (rfl : _ = hd18 b es (List.replicate es.length (N3 0 0 0)) 0) (ob hz2 ob0))) (by kernel_rfl)
theorem eqOp (kk : Nat) (k a b k' a' b' : Int) {r : Res} (q1 : ((!decide (k = k')) = true) → r = ([D.dat (B false)], [], [])) (q2 : ((!decide (k = k')) = false) → ((!decide (a = a')) = true) → r = ([D.dat (B false)], [], [])) (q3 : ((!decide (k = k')) = false) → ((!decide (a = a')) = false) → ((!decide (b = b')) = true) → r = ([D.dat (B false)], [], [])) (q4 : ((!decide (k = k')) = false) → ((!decide (a = a')) = false) → ((!decide (b = b')) = false) → r = ([D.dat (B true)], [], [])) : zan cfg kk (den cfg kk) 50 Go.Proofs.Tryd.f50 [.dat (N3 k a b), .dat (N3 k' a' b')] [] [] = some r := by
 rcases Bool.eq_false_or_eq_true ((!decide (k = k'))) with d1 | d1
 · have oz := q1 d1
   subst oz; exact zab [(200009, .yes)] (ob d1 ob0) (by kernel_rfl)
 · rcases Bool.eq_false_or_eq_true ((!decide (a = a'))) with d2 | d2
   · have oz := q2 d1 d2
     subst oz; exact zab [(200009, .no), (200014, .yes)] (ob d1 (ob d2 ob0)) (by kernel_rfl)
   · rcases Bool.eq_false_or_eq_true ((!decide (b = b'))) with d3 | d3
     · have oz := q3 d1 d2 d3
       subst oz; exact zab [(200009, .no), (200014, .no), (200019, .yes)] (ob d1 (ob d2 (ob d3 ob0))) (by kernel_rfl)
     · have oz := q4 d1 d2 d3
       subst oz; exact zab [(200009, .no), (200014, .no), (200019, .no)] (ob d1 (ob d2 (ob d3 ob0))) (by kernel_rfl)
def hd20 (b1 b2 : Bool) (xs ys : List Dat) (i : Int) : St := Nm [0, 1, 5] [.dat (.lst b1 xs), .dat (.lst b2 ys), .dat (I i)] [none, none, none] [] []
theorem zk7 (kk m : Nat) {s : St} {K : X → St → Prop} (b1 b2 : Bool) (xs ys : List Dat) (i : Int) (k19 a19 b19 : Int) (k23 a23 b23 : Int) (g25 : Bool) (hs : s.norm ((zaf cfg kk 20 Go.Proofs.Tryd.f20).live (zaa (lp Go.Proofs.Tryd.f20 4))) = hd20 b1 b2 xs ys i) (q1 : (decide (i < (xs.length : Int)) = true) → ((!g25) = true) → ((0 ≤ i ∧ i < (xs.length : Int)) ∧ xs[i.toNat]? = some (N3 k19 a19 b19)) ∧ ((0 ≤ i ∧ i < (ys.length : Int)) ∧ ys[i.toNat]? = some (N3 k23 a23 b23)) ∧ (den cfg kk 50 [D.dat (N3 k19 a19 b19), D.dat (N3 k23 a23 b23)] [] [] = some ([D.dat (B g25)], [], [])) ∧ K (X.ret) (Nm [4] [D.dat (B false)] [none] [] [])) (q2 : (decide (i < (xs.length : Int)) = true) → ((!g25) = false) → ((0 ≤ i ∧ i < (xs.length : Int)) ∧ xs[i.toNat]? = some (N3 k19 a19 b19)) ∧ ((0 ≤ i ∧ i < (ys.length : Int)) ∧ ys[i.toNat]? = some (N3 k23 a23 b23)) ∧ (den cfg kk 50 [D.dat (N3 k19 a19 b19), D.dat (N3 k23 a23 b23)] [] [] = some ([D.dat (B g25)], [], [])) ∧ (∀ s : St, s.norm ((zaf cfg kk 20 Go.Proofs.Tryd.f20).live (zaa (lp Go.Proofs.Tryd.f20 4))) = Nm [0, 1, 5] [D.dat (Dat.lst b1 xs), D.dat (Dat.lst b2 ys), D.dat (I (w64 (i + 1)))] [none, none, none] [] [] → zag (zaf cfg kk 20 Go.Proofs.Tryd.f20) kk (lp Go.Proofs.Tryd.f20 4) m s K)) (q3 : (decide (i < (xs.length : Int)) = false) → K (X.exit 0) (Nm [4] [D.junk] [none] [] [])) : zag (zaf cfg kk 20 Go.Proofs.Tryd.f20) kk (lp Go.Proofs.Tryd.f20 4) (m + 1) s K := by
 rcases Bool.eq_false_or_eq_true (decide (i < (xs.length : Int))) with d1 | d1
 · rcases Bool.eq_false_or_eq_true ((!g25)) with d5 | d5
   · obtain ⟨hz1, hz2, hz3, oz⟩ := q1 d1 d5
     exact zam [(19, .at (N3 k19 a19 b19)), (23, .at (N3 k23 a23 b23)), (25, .ret [.dat (B g25)]), (200014, .yes), (200026, .yes)] hs (by kernel_rfl) rfl (ob d1 (ob hz1 (ob hz2 (ob hz3 (ob d5 ob0))))) (by kernel_rfl) oz
   · obtain ⟨hz1, hz2, hz3, oz⟩ := q2 d1 d5
     exact zal [(19, .at (N3 k19 a19 b19)), (23, .at (N3 k23 a23 b23)), (25, .ret [.dat (B g25)]), (200014, .yes), (200026, .no)] hs (by kernel_rfl) (ob d1 (ob hz1 (ob hz2 (ob hz3 (ob d5 ob0))))) (by kernel_rfl) oz
 · have oz := q3 d1
   exact zam [(19, .at (N3 k19 a19 b19)), (23, .at (N3 k23 a23 b23)), (25, .ret [.dat (B g25)]), (200014, .no)] hs (by kernel_rfl) rfl (ob d1 ob0) (by kernel_rfl) oz
theorem zoZ (kk : Nat) (b1 b2 : Bool) (xs ys : List Dat) {r : Res} (q1 : ((!decide ((xs.length : Int) = (ys.length : Int))) = true) → r = ([D.dat (B false)], [], [])) (q2 : ((!decide ((xs.length : Int) = (ys.length : Int))) = false) → (za7 cfg kk 20 Go.Proofs.Tryd.f20 4 (hd20 b1 b2 xs ys 0) (X.exit 0) (Nm [4] [D.junk] [none] [] [])) ∧ r = ([D.dat (B true)], [], [])) : zan cfg kk (den cfg kk) 20 Go.Proofs.Tryd.f20 [.dat (Dat.lst b1 xs), .dat (Dat.lst b2 ys)] [] [] = some r := by
 rcases Bool.eq_false_or_eq_true ((!decide ((xs.length : Int) = (ys.length : Int)))) with d1 | d1
 · have oz := q1 d1
   subst oz; exact zab [(300004, .loop (hd20 b1 b2 xs ys 0) (.exit 0) (Nm [4] [.junk] [none] [] [])), (200010, .yes)] (ob d1 ob0) (by kernel_rfl)
 · obtain ⟨hz1, oz⟩ := q2 d1
   subst oz; exact zab [(300004, .loop (hd20 b1 b2 xs ys 0) (.exit 0) (Nm [4] [.junk] [none] [] [])), (200010, .no)] (ob d1 (ob (rfl : _ = hd20 b1 b2 xs ys 0) (ob hz1 ob0))) (by kernel_rfl)
end Go.Den
namespace Go.Den
open Go
set_option linter.unusedVariables false
set_option maxRecDepth 100000
theorem zpi (kk : Nat) (b : Bool) (cs : List Dat) (at_ : Int) (c9 : Cl) (s15 : ByteArray) (s19 : ByteArray) (s30 : ByteArray) {r : Res} (q1 : (c9.l = true) → ((0 ≤ at_ ∧ at_ < (cs.length : Int)) ∧ cs[at_.toNat]? = some (Dat.agg [B c9.l, I c9.n, I c9.a, I c9.b])) ∧ (den cfg kk 72 [D.dat (I c9.n)] [] [] = some ([D.dat (Dat.val (Value.string s15))], [], [])) ∧ r = ([D.dat (Dat.val (Value.string s15))], [], [])) (q2 : (c9.l = false) → (decide (500 < ((ByteArray.mk #[40] ++ s19).size : Int)) = true) → ((0 ≤ at_ ∧ at_ < (cs.length : Int)) ∧ cs[at_.toNat]? = some (Dat.agg [B c9.l, I c9.n, I c9.a, I c9.b])) ∧ (den cfg kk 100 [D.dat (Dat.lst b cs), D.dat (I c9.a)] [] [] = some ([D.dat (Dat.val (Value.string s19))], [], [])) ∧ (1 + s19.size ≤ 9223372036854775807) ∧ r = ([D.dat (Dat.val (Value.string (ByteArray.mk #[40] ++ s19)))], [], [])) (q3 : (c9.l = false) → (decide (500 < ((ByteArray.mk #[40] ++ s19).size : Int)) = false) → ((0 ≤ at_ ∧ at_ < (cs.length : Int)) ∧ cs[at_.toNat]? = some (Dat.agg [B c9.l, I c9.n, I c9.a, I c9.b])) ∧ (den cfg kk 100 [D.dat (Dat.lst b cs), D.dat (I c9.a)] [] [] = some ([D.dat (Dat.val (Value.string s19))], [], [])) ∧ (1 + s19.size ≤ 9223372036854775807) ∧ ((ByteArray.mk #[40] ++ s19).size + 1 ≤ 9223372036854775807) ∧ (den cfg kk 100 [D.dat (Dat.lst b cs), D.dat (I c9.b)] [] [] = some ([D.dat (Dat.val (Value.string s30))], [], [])) ∧ ((ByteArray.mk #[40] ++ s19 ++ ByteArray.mk #[32]).size + s30.size ≤ 9223372036854775807) ∧ ((ByteArray.mk #[40] ++ s19 ++ ByteArray.mk #[32] ++ s30).size + 1 ≤ 9223372036854775807) ∧ r = ([D.dat (Dat.val (Value.string (ByteArray.mk #[40] ++ s19 ++ ByteArray.mk #[32] ++ s30 ++ ByteArray.mk #[41])))], [], [])) : zan cfg kk (den cfg kk) 100 Go.Proofs.Tryd.f100 [.dat (Dat.lst b cs), .dat (I at_)] [] [] = some r := by
 rcases Bool.eq_false_or_eq_true (c9.l) with d2 | d2
 · obtain ⟨hz1, hz2, oz⟩ := q1 d2
   subst oz; exact zab [(9, .at (c9.d)), (15, .ret [.dat (S s15)]), (19, .ret [.dat (S s19)]), (20, .ok), (26, .ok), (30, .ret [.dat (S s30)]), (31, .ok), (32, .ok), (200012, .yes)] (ob hz1 (ob d2 (ob hz2 ob0))) (by kernel_rfl)
 · rcases Bool.eq_false_or_eq_true (decide (500 < ((ByteArray.mk #[40] ++ s19).size : Int))) with d5 | d5
   · obtain ⟨hz1, hz2, hz3, oz⟩ := q2 d2 d5
     subst oz; exact zab [(9, .at (c9.d)), (15, .ret [.dat (S s15)]), (19, .ret [.dat (S s19)]), (20, .ok), (26, .ok), (30, .ret [.dat (S s30)]), (31, .ok), (32, .ok), (200012, .no), (200023, .yes)] (ob hz1 (ob d2 (ob hz2 (ob hz3 (ob d5 ob0))))) (by kernel_rfl)
   · obtain ⟨hz1, hz2, hz3, hz4, hz5, hz6, hz7, oz⟩ := q3 d2 d5
     subst oz; exact zab [(9, .at (c9.d)), (15, .ret [.dat (S s15)]), (19, .ret [.dat (S s19)]), (20, .ok), (26, .ok), (30, .ret [.dat (S s30)]), (31, .ok), (32, .ok), (200012, .no), (200023, .no)] (ob hz1 (ob d2 (ob hz2 (ob hz3 (ob d5 (ob hz4 (ob hz5 (ob hz6 (ob hz7 ob0))))))))) (by kernel_rfl)
theorem zp6 (kk : Nat) (bs : List Dat) (n k : Int) (bs1 : List Dat) {r : Res} (q1 : (den cfg kk 139 [D.own 5 bs, D.dat (I n), D.dat (I k)] [] [] = some ([D.own 5 bs1], [], [])) ∧ r = ([D.own 5 bs1], [], [])) : zan cfg kk (den cfg kk) 130 Go.Proofs.Tryd.f130 [.own 5 bs, .dat (I n), .dat (I k)] [] [] = some r := by
 obtain ⟨hz1, oz⟩ := q1
 subst oz; exact zab [(10, .back [.own 5 bs1] [] [])] (ob hz1 (ob (rfl : false = false) ob0)) (by kernel_rfl)
theorem zpt (kk : Nat) (bs : List Dat) (n k : Int) (bs1 : List Dat) {r : Res} (q1 : (decide (n < 0) = true) → (bs.length + 1 ≤ 2147483648) ∧ (den cfg kk 151 [D.own 5 (bs ++ [Dat.val (Value.int IntKind.u8 45)]), D.dat (Dat.val (Value.int IntKind.u64 (IntKind.u64.wrap (0 - IntKind.u64.wrap n)))), D.dat (I k)] [] [] = some ([D.own 5 bs1], [], [])) ∧ r = ([D.own 5 bs1], [], [])) (q2 : (decide (n < 0) = false) → (den cfg kk 151 [D.own 5 bs, D.dat (Dat.val (Value.int IntKind.u64 (IntKind.u64.wrap n))), D.dat (I k)] [] [] = some ([D.own 5 bs1], [], [])) ∧ r = ([D.own 5 bs1], [], [])) : zan cfg kk (den cfg kk) 139 Go.Proofs.Tryd.f139 [.own 5 bs, .dat (I n), .dat (I k)] [] [] = some r := by
 rcases Bool.eq_false_or_eq_true (decide (n < 0)) with d1 | d1
 · obtain ⟨hz1, hz2, oz⟩ := q1 d1
   subst oz; exact zab [(20, .back [.own 5 bs1] [] []), (14, .ok), (200011, .yes)] (ob d1 (ob (obT hz1) (ob hz2 (ob (rfl : false = false) ob0)))) (by kernel_rfl)
 · obtain ⟨hz1, oz⟩ := q2 d1
   subst oz; exact zab [(20, .back [.own 5 bs1] [] []), (14, .ok), (200011, .no)] (ob d1 (ob hz1 (ob (rfl : false = false) ob0))) (by kernel_rfl)
def zf5 (b : Bool) (cs out opn : List Dat) : St := Nm [0, 6, 7] [.dat (.lst b cs), .own 5 out, .own 9 opn] [none, none, none] [] []
theorem zlh (kk m : Nat) {s : St} {K : X → St → Prop} (b : Bool) (cs out opn : List Dat) (x36 : Int) (out1 : List Dat) (s28 : ByteArray) (c63 : Cl) (c69 : Cl) (c42 : Cl) (c48 : Cl) (s45 : ByteArray) (s51 : ByteArray) (hs : s.norm ((zaf cfg kk 110 Go.Proofs.Tryd.f110).live (zaa (lp Go.Proofs.Tryd.f110 2))) = zf5 b cs out opn) (q1 : (decide (0 < (opn.length : Int)) = true) → (decide ((out.length : Int) ≤ 500) = true) → (c63.l = true) → (0 ≤ w64 ((opn.length : Int) - 1) ∧ w64 ((opn.length : Int) - 1) < (opn.length : Int)) ∧ (opn[(w64 ((opn.length : Int) - 1)).toNat]? = some (Dat.val (Value.string s28))) ∧ (0 ≤ w64 ((opn.length : Int) - 1) ∧ w64 ((opn.length : Int) - 1) ≤ (opn.length : Int)) ∧ (den cfg kk 129 [D.dat (Dat.val (Value.string s28))] [] [] = some ([D.dat (I x36), D.dat (Dat.val Value.nilIface)], [], [])) ∧ ((0 ≤ x36 ∧ x36 < (cs.length : Int)) ∧ cs[x36.toNat]? = some (Dat.agg [B c63.l, I c63.n, I c63.a, I c63.b])) ∧ ((0 ≤ x36 ∧ x36 < (cs.length : Int)) ∧ cs[x36.toNat]? = some (Dat.agg [B c69.l, I c69.n, I c69.a, I c69.b])) ∧ (den cfg kk 130 [D.own 5 out, D.dat (I c69.n), D.dat (I 10)] [] [] = some ([D.own 5 out1], [], [])) ∧ (∀ s : St, s.norm ((zaf cfg kk 110 Go.Proofs.Tryd.f110).live (zaa (lp Go.Proofs.Tryd.f110 2))) = Nm [0, 6, 7] [D.dat (Dat.lst b cs), D.own 5 out1, D.own 9 (List.take (w64 ((opn.length : Int) - 1)).toNat opn)] [none, none, none] [] [] → zag (zaf cfg kk 110 Go.Proofs.Tryd.f110) kk (lp Go.Proofs.Tryd.f110 2) m s K)) (q2 : (decide (0 < (opn.length : Int)) = true) → (decide ((out.length : Int) ≤ 500) = true) → (c63.l = false) → (0 ≤ w64 ((opn.length : Int) - 1) ∧ w64 ((opn.length : Int) - 1) < (opn.length : Int)) ∧ (opn[(w64 ((opn.length : Int) - 1)).toNat]? = some (Dat.val (Value.string s28))) ∧ (0 ≤ w64 ((opn.length : Int) - 1) ∧ w64 ((opn.length : Int) - 1) ≤ (opn.length : Int)) ∧ (den cfg kk 129 [D.dat (Dat.val (Value.string s28))] [] [] = some ([D.dat (I x36), D.dat (Dat.val Value.nilIface)], [], [])) ∧ ((0 ≤ x36 ∧ x36 < (cs.length : Int)) ∧ cs[x36.toNat]? = some (Dat.agg [B c63.l, I c63.n, I c63.a, I c63.b])) ∧ ((0 ≤ x36 ∧ x36 < (cs.length : Int)) ∧ cs[x36.toNat]? = some (Dat.agg [B c42.l, I c42.n, I c42.a, I c42.b])) ∧ ((0 ≤ x36 ∧ x36 < (cs.length : Int)) ∧ cs[x36.toNat]? = some (Dat.agg [B c48.l, I c48.n, I c48.a, I c48.b])) ∧ (den cfg kk 74 [D.dat (I c42.b)] [] [] = some ([D.dat (Dat.val (Value.string s45))], [], [])) ∧ (den cfg kk 74 [D.dat (I c48.a)] [] [] = some ([D.dat (Dat.val (Value.string s51))], [], [])) ∧ ((List.take (w64 ((opn.length : Int) - 1)).toNat opn).length + 5 ≤ 2147483648) ∧ (∀ s : St, s.norm ((zaf cfg kk 110 Go.Proofs.Tryd.f110).live (zaa (lp Go.Proofs.Tryd.f110 2))) = Nm [0, 6, 7] [D.dat (Dat.lst b cs), D.own 5 out, D.own 9 (List.take (w64 ((opn.length : Int) - 1)).toNat opn ++ [Dat.val (Value.string (ByteArray.mk #[41])), Dat.val (Value.string s45), Dat.val (Value.string (ByteArray.mk #[32])), Dat.val (Value.string s51), Dat.val (Value.string (ByteArray.mk #[40]))])] [none, none, none] [] [] → zag (zaf cfg kk 110 Go.Proofs.Tryd.f110) kk (lp Go.Proofs.Tryd.f110 2) m s K)) (q3 : (decide (0 < (opn.length : Int)) = true) → (decide ((out.length : Int) ≤ 500) = false) → K (X.exit 0) (Nm [6] [D.own 5 out] [none] [] [])) (q4 : (decide (0 < (opn.length : Int)) = false) → K (X.exit 0) (Nm [6] [D.own 5 out] [none] [] [])) : zag (zaf cfg kk 110 Go.Proofs.Tryd.f110) kk (lp Go.Proofs.Tryd.f110 2) (m + 1) s K := by
 rcases Bool.eq_false_or_eq_true (decide (0 < (opn.length : Int))) with d1 | d1
 · rcases Bool.eq_false_or_eq_true (decide ((out.length : Int) ≤ 500)) with d4 | d4
   · rcases Bool.eq_false_or_eq_true (c63.l) with d10 | d10
     · obtain ⟨hz1, hz2, hz3, hz4, hz5, hz6, hz7, oz⟩ := q1 d1 d4 d10
       exact zal [(36, .ret [.dat (I x36), .dat (Dat.val .nilIface)]), (72, .back [.own 5 out1] [] []), (27, .ok), (28, .at (S s28)), (33, .ok), (63, .at (c63.d)), (69, .at (c69.d)), (42, .at (c42.d)), (48, .at (c48.d)), (45, .ret [.dat (S s45)]), (51, .ret [.dat (S s51)]), (53, .ok), (200018, .yes), (200022, .yes), (200060, .yes)] hs (by kernel_rfl) (ob d1 (ob (rfl : true = true) (ob (rfl : true = true) (ob d4 (ob hz1 (ob hz2 (ob hz3 (ob hz4 (ob hz5 (ob d10 (ob hz6 (ob hz7 (ob (rfl : false = false) ob0))))))))))))) (by kernel_rfl) oz
     · obtain ⟨hz1, hz2, hz3, hz4, hz5, hz6, hz7, hz8, hz9, hz10, oz⟩ := q2 d1 d4 d10
       exact zal [(36, .ret [.dat (I x36), .dat (Dat.val .nilIface)]), (72, .back [.own 5 out1] [] []), (27, .ok), (28, .at (S s28)), (33, .ok), (63, .at (c63.d)), (69, .at (c69.d)), (42, .at (c42.d)), (48, .at (c48.d)), (45, .ret [.dat (S s45)]), (51, .ret [.dat (S s51)]), (53, .ok), (200018, .yes), (200022, .yes), (200060, .no)] hs (by kernel_rfl) (ob d1 (ob (rfl : true = true) (ob (rfl : true = true) (ob d4 (ob hz1 (ob hz2 (ob hz3 (ob hz4 (ob hz5 (ob d10 (ob hz6 (ob hz7 (ob hz8 (ob hz9 (ob (obT hz10) ob0))))))))))))))) (by kernel_rfl) oz
   · have oz := q3 d1 d4
     exact zam [(36, .ret [.dat (I x36), .dat (Dat.val .nilIface)]), (72, .back [.own 5 out1] [] []), (27, .ok), (28, .at (S s28)), (33, .ok), (63, .at (c63.d)), (69, .at (c69.d)), (42, .at (c42.d)), (48, .at (c48.d)), (45, .ret [.dat (S s45)]), (51, .ret [.dat (S s51)]), (53, .ok), (200018, .yes), (200022, .no)] hs (by kernel_rfl) rfl (ob d1 (ob (rfl : true = true) (ob (rfl : true = true) (ob d4 ob0)))) (by kernel_rfl) oz
 · have oz := q4 d1
   exact zam [(36, .ret [.dat (I x36), .dat (Dat.val .nilIface)]), (72, .back [.own 5 out1] [] []), (27, .ok), (28, .at (S s28)), (33, .ok), (63, .at (c63.d)), (69, .at (c69.d)), (42, .at (c42.d)), (48, .at (c48.d)), (45, .ret [.dat (S s45)]), (51, .ret [.dat (S s51)]), (53, .ok), (200018, .no)] hs (by kernel_rfl) rfl (ob d1 (ob (rfl : false = false) (ob (rfl : false = false) ob0))) (by kernel_rfl) oz
theorem zlM (kk m : Nat) {s : St} {K : X → St → Prop} (b : Bool) (cs out opn : List Dat) (x36 : Int) (s28 : ByteArray) (hs : s.norm ((zaf cfg kk 110 Go.Proofs.Tryd.f110).live (zaa (lp Go.Proofs.Tryd.f110 2))) = zf5 b cs out opn) (q1 : (decide (0 < (opn.length : Int)) = true) → (decide ((out.length : Int) ≤ 500) = true) → (0 ≤ w64 ((opn.length : Int) - 1) ∧ w64 ((opn.length : Int) - 1) < (opn.length : Int)) ∧ (opn[(w64 ((opn.length : Int) - 1)).toNat]? = some (Dat.val (Value.string s28))) ∧ (0 ≤ w64 ((opn.length : Int) - 1) ∧ w64 ((opn.length : Int) - 1) ≤ (opn.length : Int)) ∧ (den cfg kk 129 [D.dat (Dat.val (Value.string s28))] [] [] = some ([D.dat (I x36), D.etc Etc.err], [], [])) ∧ (((zah s28).all fun d => d.cells.length.beq (TI.mk (TK.int IntKind.u8) 1 1 [] [D.dat (Dat.val (Value.int IntKind.u8 0))]).sz) = true ∧ out.length + (zah s28).length ≤ 2147483648) ∧ (∀ s : St, s.norm ((zaf cfg kk 110 Go.Proofs.Tryd.f110).live (zaa (lp Go.Proofs.Tryd.f110 2))) = Nm [0, 6, 7] [D.dat (Dat.lst b cs), D.own 5 (out ++ zah s28), D.own 9 (List.take (w64 ((opn.length : Int) - 1)).toNat opn)] [none, none, none] [] [] → zag (zaf cfg kk 110 Go.Proofs.Tryd.f110) kk (lp Go.Proofs.Tryd.f110 2) m s K)) (q2 : (decide (0 < (opn.length : Int)) = true) → (decide ((out.length : Int) ≤ 500) = false) → K (X.exit 0) (Nm [6] [D.own 5 out] [none] [] [])) (q3 : (decide (0 < (opn.length : Int)) = false) → K (X.exit 0) (Nm [6] [D.own 5 out] [none] [] [])) : zag (zaf cfg kk 110 Go.Proofs.Tryd.f110) kk (lp Go.Proofs.Tryd.f110 2) (m + 1) s K := by
 rcases Bool.eq_false_or_eq_true (decide (0 < (opn.length : Int))) with d1 | d1
 · rcases Bool.eq_false_or_eq_true (decide ((out.length : Int) ≤ 500)) with d4 | d4
   · obtain ⟨hz1, hz2, hz3, hz4, hz5, oz⟩ := q1 d1 d4
     exact zal [(36, .ret [.dat (I x36), .etc .err]), (27, .ok), (28, .at (S s28)), (33, .ok), (59, .ok), (200018, .yes), (200022, .yes)] hs (by kernel_rfl) (ob d1 (ob (rfl : true = true) (ob (rfl : true = true) (ob d4 (ob hz1 (ob hz2 (ob hz3 (ob hz4 (ob hz5 ob0))))))))) (by kernel_rfl) oz
   · have oz := q2 d1 d4
     exact zam [(36, .ret [.dat (I x36), .etc .err]), (27, .ok), (28, .at (S s28)), (33, .ok), (59, .ok), (200018, .yes), (200022, .no)] hs (by kernel_rfl) rfl (ob d1 (ob (rfl : true = true) (ob (rfl : true = true) (ob d4 ob0)))) (by kernel_rfl) oz
 · have oz := q3 d1
   exact zam [(36, .ret [.dat (I x36), .etc .err]), (27, .ok), (28, .at (S s28)), (33, .ok), (59, .ok), (200018, .no)] hs (by kernel_rfl) rfl (ob d1 (ob (rfl : false = false) (ob (rfl : false = false) ob0))) (by kernel_rfl) oz
theorem showI (kk : Nat) (b : Bool) (cs out : List Dat) (at_ : Int) (s13 : ByteArray) {r : Res} (q1 : (decide (500 < (out.length : Int)) = true) → (den cfg kk 74 [D.dat (I at_)] [] [] = some ([D.dat (Dat.val (Value.string s13))], [], [])) ∧ (za7 cfg kk 110 Go.Proofs.Tryd.f110 2 (zf5 b cs [] [S s13]) (X.exit 0) (Nm [6] [D.own 5 out] [none] [] [])) ∧ r = ([D.dat (Dat.val (Value.string (ByteArray.mk #[]))), D.dat (B false)], [], [])) (q2 : (decide (500 < (out.length : Int)) = false) → (den cfg kk 74 [D.dat (I at_)] [] [] = some ([D.dat (Dat.val (Value.string s13))], [], [])) ∧ (za7 cfg kk 110 Go.Proofs.Tryd.f110 2 (zf5 b cs [] [S s13]) (X.exit 0) (Nm [6] [D.own 5 out] [none] [] [])) ∧ (zde ((fun r => zaN none r.snd) (5, out)) ≠ none) ∧ r = ([D.dat (Dat.val ((zde ((fun r => zaN none r.snd) (5, out))).getD (Value.string ByteArray.empty))), D.dat (B true)], [], [])) : zan cfg kk (den cfg kk) 110 Go.Proofs.Tryd.f110 [.dat (Dat.lst b cs), .dat (I at_)] [] [] = some r := by
 rcases Bool.eq_false_or_eq_true (decide (500 < (out.length : Int))) with d4 | d4
 · obtain ⟨hz1, hz2, oz⟩ := q1 d4
   subst oz; exact zab [(13, .ret [.dat (S s13)]), (300002, .loop (zf5 b cs [] [S s13]) (.exit 0) (Nm [6] [.own 5 out] [none] [] [])), (77, .ok), (200075, .yes)] (ob hz1 (ob (rfl : _ = zf5 b cs [] [S s13]) (ob hz2 (ob d4 ob0)))) (by kernel_rfl)
 · obtain ⟨hz1, hz2, hz3, oz⟩ := q2 d4
   subst oz; exact zab [(13, .ret [.dat (S s13)]), (300002, .loop (zf5 b cs [] [S s13]) (.exit 0) (Nm [6] [.own 5 out] [none] [] [])), (77, .ok), (200075, .no)] (ob hz1 (ob (rfl : _ = zf5 b cs [] [S s13]) (ob hz2 (ob d4 (ob hz3 ob0))))) (by kernel_rfl)
def hd51 (b : Bool) (es : List Dat) (o : Int) (cs rs : List Dat) (room nur : Int) (free full : Bool) (out : ByteArray) (i : Int) : St := Nm [0, 6, 7, 8] [.ptr (.up 0) 0, .dat (.lst b es), .dat (I es.length), .dat (I i)] [none, none, none, none] [L7 o cs rs room nur free full out] []
theorem zmy (kk m : Nat) {s : St} {K : X → St → Prop} (b : Bool) (es : List Dat) (o : Int) (cs rs : List Dat) (room nur : Int) (free full : Bool) (out : ByteArray) (i : Int) (o1 : Int) (cs1 rs1 : List Dat) (full1 : Bool) (out1 : ByteArray) (x10_0 : Int) (x10_1 : Int) (x10_2 : Int) (hs : s.norm ((zaf cfg kk 51 Go.Proofs.Tryd.f51).live (zaa (lp Go.Proofs.Tryd.f51 1))) = hd51 b es o cs rs room nur free full out i) (q1 : (decide (i < (es.length : Int)) = true) → (full1 = true) → ((0 ≤ i ∧ i < (es.length : Int)) ∧ es[i.toNat]? = some (N3 x10_0 x10_1 x10_2)) ∧ (den cfg kk 78 [D.ptr (Ref.up 0) 0, D.dat (N3 x10_0 x10_1 x10_2)] [[D.dat (I o), D.own 97 cs, D.own 3 rs, D.dat (I room), D.dat (I nur), D.dat (B free), D.dat (B full), D.dat (Dat.val (Value.string out))]] [] = some ([], [[D.dat (I o1), D.own 97 cs1, D.own 3 rs1, D.dat (I room), D.dat (I nur), D.dat (B free), D.dat (B full1), D.dat (Dat.val (Value.string out1))]], [])) ∧ K (X.ret) (Nm [] [] [] [[D.dat (I o1), D.own 97 cs1, D.own 3 rs1, D.dat (I room), D.dat (I nur), D.dat (B free), D.dat (B full1), D.dat (Dat.val (Value.string out1))]] [])) (q2 : (decide (i < (es.length : Int)) = true) → (full1 = false) → ((0 ≤ i ∧ i < (es.length : Int)) ∧ es[i.toNat]? = some (N3 x10_0 x10_1 x10_2)) ∧ (den cfg kk 78 [D.ptr (Ref.up 0) 0, D.dat (N3 x10_0 x10_1 x10_2)] [[D.dat (I o), D.own 97 cs, D.own 3 rs, D.dat (I room), D.dat (I nur), D.dat (B free), D.dat (B full), D.dat (Dat.val (Value.string out))]] [] = some ([], [[D.dat (I o1), D.own 97 cs1, D.own 3 rs1, D.dat (I room), D.dat (I nur), D.dat (B free), D.dat (B full1), D.dat (Dat.val (Value.string out1))]], [])) ∧ (∀ s : St, s.norm ((zaf cfg kk 51 Go.Proofs.Tryd.f51).live (zaa (lp Go.Proofs.Tryd.f51 1))) = Nm [0, 6, 7, 8] [D.ptr (Ref.up 0) 0, D.dat (Dat.lst b es), D.dat (I (es.length : Int)), D.dat (I (w64 (i + 1)))] [none, none, none, none] [[D.dat (I o1), D.own 97 cs1, D.own 3 rs1, D.dat (I room), D.dat (I nur), D.dat (B free), D.dat (B full1), D.dat (Dat.val (Value.string out1))]] [] → zag (zaf cfg kk 51 Go.Proofs.Tryd.f51) kk (lp Go.Proofs.Tryd.f51 1) m s K)) (q3 : (decide (i < (es.length : Int)) = false) → K (X.exit 0) (Nm [] [] [] [[D.dat (I o), D.own 97 cs, D.own 3 rs, D.dat (I room), D.dat (I nur), D.dat (B free), D.dat (B full), D.dat (Dat.val (Value.string out))]] [])) : zag (zaf cfg kk 51 Go.Proofs.Tryd.f51) kk (lp Go.Proofs.Tryd.f51 1) (m + 1) s K := by
 rcases Bool.eq_false_or_eq_true (decide (i < (es.length : Int))) with d1 | d1
 · rcases Bool.eq_false_or_eq_true (full1) with d5 | d5
   · obtain ⟨hz1, hz2, oz⟩ := q1 d1 d5
     exact zam [(14, .back [] [L7 o1 cs1 rs1 room nur free full1 out1] []), (10, .at (Dat.agg [I x10_0, I x10_1, I x10_2])), (200009, .yes), (200018, .yes)] hs (by kernel_rfl) rfl (ob d1 (ob hz1 (ob hz2 (ob (rfl : false = false) (ob d5 ob0))))) (by kernel_rfl) oz
   · obtain ⟨hz1, hz2, oz⟩ := q2 d1 d5
     exact zal [(14, .back [] [L7 o1 cs1 rs1 room nur free full1 out1] []), (10, .at (Dat.agg [I x10_0, I x10_1, I x10_2])), (200009, .yes), (200018, .no)] hs (by kernel_rfl) (ob d1 (ob hz1 (ob hz2 (ob (rfl : false = false) (ob d5 ob0))))) (by kernel_rfl) oz
 · have oz := q3 d1
   exact zam [(14, .back [] [L7 o1 cs1 rs1 room nur free full1 out1] []), (10, .at (Dat.agg [I x10_0, I x10_1, I x10_2])), (200009, .no)] hs (by kernel_rfl) rfl (ob d1 ob0) (by kernel_rfl) oz
theorem zoW (kk : Nat) (b : Bool) (es : List Dat) (o : Int) (cs rs : List Dat) (room nur : Int) (free full : Bool) (out : ByteArray) (o1 : Int) (cs1 rs1 : List Dat) (full1 : Bool) (out1 : ByteArray) {r : Res} (q1 : (za7 cfg kk 51 Go.Proofs.Tryd.f51 1 (hd51 b es o cs rs room nur free full out 0) (X.exit 0) (Nm [] [] [] [[D.dat (I o1), D.own 97 cs1, D.own 3 rs1, D.dat (I room), D.dat (I nur), D.dat (B free), D.dat (B full1), D.dat (Dat.val (Value.string out1))]] [])) ∧ r = ([], [[D.dat (I o1), D.own 97 cs1, D.own 3 rs1, D.dat (I room), D.dat (I nur), D.dat (B free), D.dat (B full1), D.dat (Dat.val (Value.string out1))]], [])) : zan cfg kk (den cfg kk) 51 Go.Proofs.Tryd.f51 [.ptr (.up 0) 0, .dat (Dat.lst b es)] [L7 o cs rs room nur free full out] [] = some r := by
 obtain ⟨hz1, oz⟩ := q1
 subst oz; exact zab [(300001, .loop (hd51 b es o cs rs room nur free full out 0) (.exit 0) (Nm [] [] [] [L7 o1 cs1 rs1 room nur free full1 out1] []))] (ob (rfl : _ = hd51 b es o cs rs room nur free full out 0) (ob hz1 ob0)) (by kernel_rfl)
theorem zoV (kk : Nat) (b : Bool) (es : List Dat) (o : Int) (cs rs : List Dat) (room nur : Int) (free full : Bool) (out : ByteArray) (o1 : Int) (cs1 rs1 : List Dat) (full1 : Bool) (out1 : ByteArray) {r : Res} (q1 : (za7 cfg kk 51 Go.Proofs.Tryd.f51 1 (hd51 b es o cs rs room nur free full out 0) X.ret (Nm [] [] [] [[D.dat (I o1), D.own 97 cs1, D.own 3 rs1, D.dat (I room), D.dat (I nur), D.dat (B free), D.dat (B full1), D.dat (Dat.val (Value.string out1))]] [])) ∧ r = ([], [[D.dat (I o1), D.own 97 cs1, D.own 3 rs1, D.dat (I room), D.dat (I nur), D.dat (B free), D.dat (B full1), D.dat (Dat.val (Value.string out1))]], [])) : zan cfg kk (den cfg kk) 51 Go.Proofs.Tryd.f51 [.ptr (.up 0) 0, .dat (Dat.lst b es)] [L7 o cs rs room nur free full out] [] = some r := by
 obtain ⟨hz1, oz⟩ := q1
 subst oz; exact zab [(300001, .loop (hd51 b es o cs rs room nur free full out 0) .ret (Nm [] [] [] [L7 o1 cs1 rs1 room nur free full1 out1] []))] (ob (rfl : _ = hd51 b es o cs rs room nur free full out 0) (ob hz1 ob0)) (by kernel_rfl)
def hd52 (b : Bool) (es : List Dat) (o : Int) (cs rs bs : List Dat) (room nur : Int) (full : Bool) (i : Int) : St := Nm [7, 13, 14, 15, 16] [.ptr (.loc 13) 0, .ptr (.loc 13) 0, .dat (.lst b es), .dat (I es.length), .dat (I i)] [none, some (P7 o cs rs bs room nur full), none, none, none] [] []
theorem zj7 (kk m : Nat) {s : St} {K : X → St → Prop} (b : Bool) (es : List Dat) (o : Int) (cs rs bs : List Dat) (room nur : Int) (full : Bool) (i : Int) (o1 : Int) (cs1 rs1 bs1 : List Dat) (full1 : Bool) (x18_0 : Int) (x18_1 : Int) (x18_2 : Int) (hs : s.norm ((zaf cfg kk 52 Go.Proofs.Tryd.f52).live (zaa (lp Go.Proofs.Tryd.f52 3))) = hd52 b es o cs rs bs room nur full i) (q1 : (decide (i < (es.length : Int)) = true) → (full1 = true) → ((0 ≤ i ∧ i < (es.length : Int)) ∧ es[i.toNat]? = some (N3 x18_0 x18_1 x18_2)) ∧ (den cfg kk 79 [D.ptr (Ref.up 0) 0, D.dat (N3 x18_0 x18_1 x18_2)] [[D.dat (I o), D.own 97 cs, D.own 3 rs, D.own 5 bs, D.dat (I room), D.dat (I nur), D.dat (B full)]] [] = some ([], [[D.dat (I o1), D.own 97 cs1, D.own 3 rs1, D.own 5 bs1, D.dat (I room), D.dat (I nur), D.dat (B full1)]], [])) ∧ K (X.exit 0) (Nm [7, 13] [D.ptr (Ref.loc 13) 0, D.ptr (Ref.loc 13) 0] [none, some [D.dat (I o1), D.own 97 cs1, D.own 3 rs1, D.own 5 bs1, D.dat (I room), D.dat (I nur), D.dat (B full1)]] [] [])) (q2 : (decide (i < (es.length : Int)) = true) → (full1 = false) → ((0 ≤ i ∧ i < (es.length : Int)) ∧ es[i.toNat]? = some (N3 x18_0 x18_1 x18_2)) ∧ (den cfg kk 79 [D.ptr (Ref.up 0) 0, D.dat (N3 x18_0 x18_1 x18_2)] [[D.dat (I o), D.own 97 cs, D.own 3 rs, D.own 5 bs, D.dat (I room), D.dat (I nur), D.dat (B full)]] [] = some ([], [[D.dat (I o1), D.own 97 cs1, D.own 3 rs1, D.own 5 bs1, D.dat (I room), D.dat (I nur), D.dat (B full1)]], [])) ∧ (∀ s : St, s.norm ((zaf cfg kk 52 Go.Proofs.Tryd.f52).live (zaa (lp Go.Proofs.Tryd.f52 3))) = Nm [7, 13, 14, 15, 16] [D.ptr (Ref.loc 13) 0, D.ptr (Ref.loc 13) 0, D.dat (Dat.lst b es), D.dat (I (es.length : Int)), D.dat (I (w64 (i + 1)))] [none, some [D.dat (I o1), D.own 97 cs1, D.own 3 rs1, D.own 5 bs1, D.dat (I room), D.dat (I nur), D.dat (B full1)], none, none, none] [] [] → zag (zaf cfg kk 52 Go.Proofs.Tryd.f52) kk (lp Go.Proofs.Tryd.f52 3) m s K)) (q3 : (decide (i < (es.length : Int)) = false) → K (X.exit 0) (Nm [7, 13] [D.ptr (Ref.loc 13) 0, D.ptr (Ref.loc 13) 0] [none, some [D.dat (I o), D.own 97 cs, D.own 3 rs, D.own 5 bs, D.dat (I room), D.dat (I nur), D.dat (B full)]] [] [])) : zag (zaf cfg kk 52 Go.Proofs.Tryd.f52) kk (lp Go.Proofs.Tryd.f52 3) (m + 1) s K := by
 rcases Bool.eq_false_or_eq_true (decide (i < (es.length : Int))) with d1 | d1
 · rcases Bool.eq_false_or_eq_true (full1) with d5 | d5
   · obtain ⟨hz1, hz2, oz⟩ := q1 d1 d5
     exact zam [(22, .back [] [P7 o1 cs1 rs1 bs1 room nur full1] []), (18, .at (Dat.agg [I x18_0, I x18_1, I x18_2])), (200017, .yes), (200026, .yes)] hs (by kernel_rfl) rfl (ob d1 (ob hz1 (ob hz2 (ob (rfl : false = false) (ob d5 ob0))))) (by kernel_rfl) oz
   · obtain ⟨hz1, hz2, oz⟩ := q2 d1 d5
     exact zal [(22, .back [] [P7 o1 cs1 rs1 bs1 room nur full1] []), (18, .at (Dat.agg [I x18_0, I x18_1, I x18_2])), (200017, .yes), (200026, .no)] hs (by kernel_rfl) (ob d1 (ob hz1 (ob hz2 (ob (rfl : false = false) (ob d5 ob0))))) (by kernel_rfl) oz
 · have oz := q3 d1
   exact zam [(22, .back [] [P7 o1 cs1 rs1 bs1 room nur full1] []), (18, .at (Dat.agg [I x18_0, I x18_1, I x18_2])), (200017, .no)] hs (by kernel_rfl) rfl (ob d1 ob0) (by kernel_rfl) oz
theorem zpN (kk : Nat) (b : Bool) (es : List Dat) (room nur : Int) (o1 : Int) (cs1 rs1 bs1 : List Dat) (full1 : Bool) {r : Res} (q1 : (za7 cfg kk 52 Go.Proofs.Tryd.f52 3 (hd52 b es 0 [] [] [] room nur false 0) (X.exit 0) (Nm [7, 13] [D.ptr (Ref.loc 13) 0, D.ptr (Ref.loc 13) 0] [none, some [D.dat (I o1), D.own 97 cs1, D.own 3 rs1, D.own 5 bs1, D.dat (I room), D.dat (I nur), D.dat (B full1)]] [] [])) ∧ r = ([D.ptr (Ref.loc 0) 0], [[D.dat (I o1), D.own 97 cs1, D.own 3 rs1, D.own 5 bs1, D.dat (I room), D.dat (I nur), D.dat (B full1)]], [])) : zan cfg kk (den cfg kk) 52 Go.Proofs.Tryd.f52 [.dat (Dat.lst b es), .dat (I room), .dat (I nur)] [] [] = some r := by
 obtain ⟨hz1, oz⟩ := q1
 subst oz; exact zab [(300003, .loop (hd52 b es 0 [] [] [] room nur false 0) (.exit 0) (Nm [7, 13] [.ptr (.loc 13) 0, .ptr (.loc 13) 0] [none, some (P7 o1 cs1 rs1 bs1 room nur full1)] [] []))] (ob (rfl : _ = hd52 b es 0 [] [] [] room nur false 0) (ob hz1 ob0)) (by kernel_rfl)
theorem zpS (kk : Nat) (b : Bool) (es : List Dat) (room nur : Int) (o1 : Int) (cs1 rs1 : List Dat) (full1 : Bool) (out1 : ByteArray) (g15 : Bool) (g20 : Bool) {r : Res} (q1 : (decide (150 < (es.length : Int)) = true) → r = ([D.dat (Dat.val (Value.string (ByteArray.mk #[]))), D.dat (B false), D.dat (B false)], [], [])) (q2 : (decide (150 < (es.length : Int)) = false) → ((!g15) = true) → (den cfg kk 39 [D.dat (I room), D.dat (I 0), D.dat (I 200)] [] [] = some ([D.dat (B g15)], [], [])) ∧ r = ([D.dat (Dat.val (Value.string (ByteArray.mk #[]))), D.dat (B false), D.dat (B false)], [], [])) (q3 : (decide (150 < (es.length : Int)) = false) → ((!g15) = false) → ((!g20) = true) → (den cfg kk 39 [D.dat (I room), D.dat (I 0), D.dat (I 200)] [] [] = some ([D.dat (B g15)], [], [])) ∧ (den cfg kk 39 [D.dat (I nur), D.dat (I 1), D.dat (I 200)] [] [] = some ([D.dat (B g20)], [], [])) ∧ r = ([D.dat (Dat.val (Value.string (ByteArray.mk #[]))), D.dat (B false), D.dat (B false)], [], [])) (q4 : (decide (150 < (es.length : Int)) = false) → ((!g15) = false) → ((!g20) = false) → (den cfg kk 39 [D.dat (I room), D.dat (I 0), D.dat (I 200)] [] [] = some ([D.dat (B g15)], [], [])) ∧ (den cfg kk 39 [D.dat (I nur), D.dat (I 1), D.dat (I 200)] [] [] = some ([D.dat (B g20)], [], [])) ∧ (den cfg kk 51 [D.ptr (Ref.up 0) 0, D.dat (Dat.lst b es)] [[D.dat (I 0), D.own 97 [], D.own 3 [], D.dat (I room), D.dat (I nur), D.dat (B false), D.dat (B false), D.dat (Dat.val (Value.string ByteArray.empty))]] [] = some ([], [[D.dat (I o1), D.own 97 cs1, D.own 3 rs1, D.dat (I room), D.dat (I nur), D.dat (B false), D.dat (B full1), D.dat (Dat.val (Value.string out1))]], [])) ∧ r = ([D.dat (Dat.val (Value.string out1)), D.dat (B full1), D.dat (B true)], [], [])) : zan cfg kk (den cfg kk) 25 Go.Proofs.Tryd.f25 [.dat (Dat.lst b es), .dat (I room), .dat (I nur)] [] [] = some r := by
 rcases Bool.eq_false_or_eq_true (decide (150 < (es.length : Int))) with d1 | d1
 · have oz := q1 d1
   subst oz; exact zab [(29, .back [] [L7 o1 cs1 rs1 room nur false full1 out1] []), (15, .ret [.dat (B g15)]), (20, .ret [.dat (B g20)]), (200013, .yes)] (ob d1 (ob (rfl : true = true) (ob (rfl : true = true) ob0))) (by kernel_rfl)
 · rcases Bool.eq_false_or_eq_true ((!g15)) with d5 | d5
   · obtain ⟨hz1, oz⟩ := q2 d1 d5
     subst oz; exact zab [(29, .back [] [L7 o1 cs1 rs1 room nur false full1 out1] []), (15, .ret [.dat (B g15)]), (20, .ret [.dat (B g20)]), (200013, .no), (200018, .yes)] (ob d1 (ob (rfl : false = false) (ob hz1 (ob (rfl : false = false) (ob d5 (ob (rfl : true = true) (ob (rfl : true = true) ob0))))))) (by kernel_rfl)
   · rcases Bool.eq_false_or_eq_true ((!g20)) with d9 | d9
     · obtain ⟨hz1, hz2, oz⟩ := q3 d1 d5 d9
       subst oz; exact zab [(29, .back [] [L7 o1 cs1 rs1 room nur false full1 out1] []), (15, .ret [.dat (B g15)]), (20, .ret [.dat (B g20)]), (200013, .no), (200018, .no), (200022, .yes)] (ob d1 (ob (rfl : false = false) (ob hz1 (ob (rfl : false = false) (ob d5 (ob (rfl : false = false) (ob hz2 (ob (rfl : false = false) (ob d9 ob0))))))))) (by kernel_rfl)
     · obtain ⟨hz1, hz2, hz3, oz⟩ := q4 d1 d5 d9
       subst oz; exact zab [(29, .back [] [L7 o1 cs1 rs1 room nur false full1 out1] []), (15, .ret [.dat (B g15)]), (20, .ret [.dat (B g20)]), (200013, .no), (200018, .no), (200022, .no)] (ob d1 (ob (rfl : false = false) (ob hz1 (ob (rfl : false = false) (ob d5 (ob (rfl : false = false) (ob hz2 (ob (rfl : false = false) (ob d9 (ob hz3 (ob (rfl : false = false) ob0))))))))))) (by kernel_rfl)
theorem zpT (kk : Nat) (b : Bool) (es : List Dat) (room nur : Int) (o1 : Int) (cs1 rs1 bs1 : List Dat) (full1 : Bool) {r : Res} (q1 : (decide (150 < (es.length : Int)) = true) → r = ([D.dat (Dat.val (Value.string (ByteArray.mk #[]))), D.dat (B false), D.dat (B false)], [], [])) (q2 : (decide (150 < (es.length : Int)) = false) → (decide (room < 0) = true) → r = ([D.dat (Dat.val (Value.string (ByteArray.mk #[]))), D.dat (B false), D.dat (B false)], [], [])) (q3 : (decide (150 < (es.length : Int)) = false) → (decide (room < 0) = false) → (decide (200 < room) = true) → r = ([D.dat (Dat.val (Value.string (ByteArray.mk #[]))), D.dat (B false), D.dat (B false)], [], [])) (q4 : (decide (150 < (es.length : Int)) = false) → (decide (room < 0) = false) → (decide (200 < room) = false) → (decide (nur < 1) = true) → r = ([D.dat (Dat.val (Value.string (ByteArray.mk #[]))), D.dat (B false), D.dat (B false)], [], [])) (q5 : (decide (150 < (es.length : Int)) = false) → (decide (room < 0) = false) → (decide (200 < room) = false) → (decide (nur < 1) = false) → (decide (200 < nur) = true) → r = ([D.dat (Dat.val (Value.string (ByteArray.mk #[]))), D.dat (B false), D.dat (B false)], [], [])) (q6 : (decide (150 < (es.length : Int)) = false) → (decide (room < 0) = false) → (decide (200 < room) = false) → (decide (nur < 1) = false) → (decide (200 < nur) = false) → (den cfg kk 52 [D.dat (Dat.lst b es), D.dat (I room), D.dat (I nur)] [] [] = some ([D.ptr (Ref.loc 0) 0], [[D.dat (I o1), D.own 97 cs1, D.own 3 rs1, D.own 5 bs1, D.dat (I room), D.dat (I nur), D.dat (B full1)]], [])) ∧ (zde ((fun r => zaN none r.snd) (5, bs1)) ≠ none) ∧ r = ([D.dat (Dat.val ((zde ((fun r => zaN none r.snd) (5, bs1))).getD (Value.string ByteArray.empty))), D.dat (B full1), D.dat (B true)], [], [])) : zan cfg kk (den cfg kk) 26 Go.Proofs.Tryd.f26 [.dat (Dat.lst b es), .dat (I room), .dat (I nur)] [] [] = some r := by
 rcases Bool.eq_false_or_eq_true (decide (150 < (es.length : Int))) with d1 | d1
 · have oz := q1 d1
   subst oz; exact zab [(32, .back [.ptr (.loc 0) 0] [P7 o1 cs1 rs1 bs1 room nur full1] []), (37, .ok), (200013, .yes)] (ob d1 (ob (rfl : true = true) ob0)) (by kernel_rfl)
 · rcases Bool.eq_false_or_eq_true (decide (room < 0)) with d3 | d3
   · have oz := q2 d1 d3
     subst oz; exact zab [(32, .back [.ptr (.loc 0) 0] [P7 o1 cs1 rs1 bs1 room nur full1] []), (37, .ok), (200013, .no), (200017, .yes)] (ob d1 (ob (rfl : false = false) (ob d3 (ob (rfl : true = true) ob0)))) (by kernel_rfl)
   · rcases Bool.eq_false_or_eq_true (decide (200 < room)) with d5 | d5
     · have oz := q3 d1 d3 d5
       subst oz; exact zab [(32, .back [.ptr (.loc 0) 0] [P7 o1 cs1 rs1 bs1 room nur full1] []), (37, .ok), (200013, .no), (200017, .no), (200021, .yes)] (ob d1 (ob (rfl : false = false) (ob d3 (ob (rfl : false = false) (ob d5 (ob (rfl : true = true) ob0)))))) (by kernel_rfl)
     · rcases Bool.eq_false_or_eq_true (decide (nur < 1)) with d7 | d7
       · have oz := q4 d1 d3 d5 d7
         subst oz; exact zab [(32, .back [.ptr (.loc 0) 0] [P7 o1 cs1 rs1 bs1 room nur full1] []), (37, .ok), (200013, .no), (200017, .no), (200021, .no), (200025, .yes)] (ob d1 (ob (rfl : false = false) (ob d3 (ob (rfl : false = false) (ob d5 (ob (rfl : false = false) (ob d7 (ob (rfl : true = true) ob0)))))))) (by kernel_rfl)
       · rcases Bool.eq_false_or_eq_true (decide (200 < nur)) with d9 | d9
         · have oz := q5 d1 d3 d5 d7 d9
           subst oz; exact zab [(32, .back [.ptr (.loc 0) 0] [P7 o1 cs1 rs1 bs1 room nur full1] []), (37, .ok), (200013, .no), (200017, .no), (200021, .no), (200025, .no), (200028, .yes)] (ob d1 (ob (rfl : false = false) (ob d3 (ob (rfl : false = false) (ob d5 (ob (rfl : false = false) (ob d7 (ob (rfl : false = false) (ob d9 ob0))))))))) (by kernel_rfl)
         · obtain ⟨hz1, hz2, oz⟩ := q6 d1 d3 d5 d7 d9
           subst oz; exact zab [(32, .back [.ptr (.loc 0) 0] [P7 o1 cs1 rs1 bs1 room nur full1] []), (37, .ok), (200013, .no), (200017, .no), (200021, .no), (200025, .no), (200028, .no)] (ob d1 (ob (rfl : false = false) (ob d3 (ob (rfl : false = false) (ob d5 (ob (rfl : false = false) (ob d7 (ob (rfl : false = false) (ob d9 (ob hz1 (ob hz2 ob0))))))))))) (by kernel_rfl)
theorem ziH (kk : Nat) (es : List Dat) (room nur : Int) (x17 : Int) (e22 : List Dat) (s25_0 : ByteArray) (g25_1 : Bool) (g25_2 : Bool) (e30 : List Dat) (s35_0 : ByteArray) (g35_1 : Bool) (g35_2 : Bool) (e54 : List Dat) (g55 : Bool) {r : Res} (q1 : (decide (x17 < 0) = true) → (den cfg kk 16 [D.dat (Dat.lst false es), D.dat (I 1048576)] [] [] = some ([D.dat (I x17)], [], [])) ∧ r = ([D.dat (B true)], [], [])) (q2 : (decide (x17 < 0) = false) → ((!decide (s35_0 = s25_0)) = true) → (den cfg kk 16 [D.dat (Dat.lst false es), D.dat (I 1048576)] [] [] = some ([D.dat (I x17)], [], [])) ∧ (den cfg kk 18 [D.dat (Dat.lst false es)] [] [] = some ([D.own 72 e22], [], [])) ∧ (den cfg kk 25 [D.dat (Dat.lst true e22), D.dat (I room), D.dat (I nur)] [] [] = some ([D.dat (Dat.val (Value.string s25_0)), D.dat (B g25_1), D.dat (B g25_2)], [], [])) ∧ (den cfg kk 18 [D.dat (Dat.lst false es)] [] [] = some ([D.own 72 e30], [], [])) ∧ (den cfg kk 26 [D.dat (Dat.lst true e30), D.dat (I room), D.dat (I nur)] [] [] = some ([D.dat (Dat.val (Value.string s35_0)), D.dat (B g35_1), D.dat (B g35_2)], [], [])) ∧ r = ([D.dat (B false)], [], [])) (q3 : (decide (x17 < 0) = false) → ((!decide (s35_0 = s25_0)) = false) → ((!g35_1 == g25_1) = true) → (den cfg kk 16 [D.dat (Dat.lst false es), D.dat (I 1048576)] [] [] = some ([D.dat (I x17)], [], [])) ∧ (den cfg kk 18 [D.dat (Dat.lst false es)] [] [] = some ([D.own 72 e22], [], [])) ∧ (den cfg kk 25 [D.dat (Dat.lst true e22), D.dat (I room), D.dat (I nur)] [] [] = some ([D.dat (Dat.val (Value.string s25_0)), D.dat (B g25_1), D.dat (B g25_2)], [], [])) ∧ (den cfg kk 18 [D.dat (Dat.lst false es)] [] [] = some ([D.own 72 e30], [], [])) ∧ (den cfg kk 26 [D.dat (Dat.lst true e30), D.dat (I room), D.dat (I nur)] [] [] = some ([D.dat (Dat.val (Value.string s35_0)), D.dat (B g35_1), D.dat (B g35_2)], [], [])) ∧ r = ([D.dat (B false)], [], [])) (q4 : (decide (x17 < 0) = false) → ((!decide (s35_0 = s25_0)) = false) → ((!g35_1 == g25_1) = false) → ((!g35_2 == g25_2) = true) → (den cfg kk 16 [D.dat (Dat.lst false es), D.dat (I 1048576)] [] [] = some ([D.dat (I x17)], [], [])) ∧ (den cfg kk 18 [D.dat (Dat.lst false es)] [] [] = some ([D.own 72 e22], [], [])) ∧ (den cfg kk 25 [D.dat (Dat.lst true e22), D.dat (I room), D.dat (I nur)] [] [] = some ([D.dat (Dat.val (Value.string s25_0)), D.dat (B g25_1), D.dat (B g25_2)], [], [])) ∧ (den cfg kk 18 [D.dat (Dat.lst false es)] [] [] = some ([D.own 72 e30], [], [])) ∧ (den cfg kk 26 [D.dat (Dat.lst true e30), D.dat (I room), D.dat (I nur)] [] [] = some ([D.dat (Dat.val (Value.string s35_0)), D.dat (B g35_1), D.dat (B g35_2)], [], [])) ∧ r = ([D.dat (B false)], [], [])) (q5 : (decide (x17 < 0) = false) → ((!decide (s35_0 = s25_0)) = false) → ((!g35_1 == g25_1) = false) → ((!g35_2 == g25_2) = false) → ((!g55) = true) → (den cfg kk 16 [D.dat (Dat.lst false es), D.dat (I 1048576)] [] [] = some ([D.dat (I x17)], [], [])) ∧ (den cfg kk 18 [D.dat (Dat.lst false es)] [] [] = some ([D.own 72 e22], [], [])) ∧ (den cfg kk 25 [D.dat (Dat.lst true e22), D.dat (I room), D.dat (I nur)] [] [] = some ([D.dat (Dat.val (Value.string s25_0)), D.dat (B g25_1), D.dat (B g25_2)], [], [])) ∧ (den cfg kk 18 [D.dat (Dat.lst false es)] [] [] = some ([D.own 72 e30], [], [])) ∧ (den cfg kk 26 [D.dat (Dat.lst true e30), D.dat (I room), D.dat (I nur)] [] [] = some ([D.dat (Dat.val (Value.string s35_0)), D.dat (B g35_1), D.dat (B g35_2)], [], [])) ∧ (den cfg kk 18 [D.dat (Dat.lst false es)] [] [] = some ([D.own 72 e54], [], [])) ∧ (den cfg kk 20 [D.dat (Dat.lst true e30), D.dat (Dat.lst true e54)] [] [] = some ([D.dat (B g55)], [], [])) ∧ r = ([D.dat (B false)], [], [])) (q6 : (decide (x17 < 0) = false) → ((!decide (s35_0 = s25_0)) = false) → ((!g35_1 == g25_1) = false) → ((!g35_2 == g25_2) = false) → ((!g55) = false) → (den cfg kk 16 [D.dat (Dat.lst false es), D.dat (I 1048576)] [] [] = some ([D.dat (I x17)], [], [])) ∧ (den cfg kk 18 [D.dat (Dat.lst false es)] [] [] = some ([D.own 72 e22], [], [])) ∧ (den cfg kk 25 [D.dat (Dat.lst true e22), D.dat (I room), D.dat (I nur)] [] [] = some ([D.dat (Dat.val (Value.string s25_0)), D.dat (B g25_1), D.dat (B g25_2)], [], [])) ∧ (den cfg kk 18 [D.dat (Dat.lst false es)] [] [] = some ([D.own 72 e30], [], [])) ∧ (den cfg kk 26 [D.dat (Dat.lst true e30), D.dat (I room), D.dat (I nur)] [] [] = some ([D.dat (Dat.val (Value.string s35_0)), D.dat (B g35_1), D.dat (B g35_2)], [], [])) ∧ (den cfg kk 18 [D.dat (Dat.lst false es)] [] [] = some ([D.own 72 e54], [], [])) ∧ (den cfg kk 20 [D.dat (Dat.lst true e30), D.dat (Dat.lst true e54)] [] [] = some ([D.dat (B g55)], [], [])) ∧ r = ([D.dat (B true)], [], [])) : zan cfg kk (den cfg kk) 7 Go.Proofs.Tryd.f7 [.dat (Dat.lst false es), .dat (I room), .dat (I nur)] [] [] = some r := by
 rcases Bool.eq_false_or_eq_true (decide (x17 < 0)) with d2 | d2
 · obtain ⟨hz1, oz⟩ := q1 d2
   subst oz; exact zab [(17, .ret [.dat (I x17)]), (22, .ret [.own 72 e22]), (25, .ret [.dat (S s25_0), .dat (B g25_1), .dat (B g25_2)]), (30, .ret [.own 72 e30]), (35, .ret [.dat (S s35_0), .dat (B g35_1), .dat (B g35_2)]), (54, .ret [.own 72 e54]), (55, .ret [.dat (B g55)]), (200019, .yes)] (ob hz1 (ob d2 ob0)) (by kernel_rfl)
 · rcases Bool.eq_false_or_eq_true ((!decide (s35_0 = s25_0))) with d9 | d9
   · obtain ⟨hz1, hz2, hz3, hz4, hz5, oz⟩ := q2 d2 d9
     subst oz; exact zab [(17, .ret [.dat (I x17)]), (22, .ret [.own 72 e22]), (25, .ret [.dat (S s25_0), .dat (B g25_1), .dat (B g25_2)]), (30, .ret [.own 72 e30]), (35, .ret [.dat (S s35_0), .dat (B g35_1), .dat (B g35_2)]), (54, .ret [.own 72 e54]), (55, .ret [.dat (B g55)]), (200019, .no), (200042, .yes)] (ob hz1 (ob d2 (ob hz2 (ob (rfl : true = true) (ob hz3 (ob hz4 (ob (rfl : true = true) (ob hz5 (ob d9 (ob (rfl : true = true) (ob (rfl : true = true) ob0))))))))))) (by kernel_rfl)
   · rcases Bool.eq_false_or_eq_true ((!g35_1 == g25_1)) with d12 | d12
     · obtain ⟨hz1, hz2, hz3, hz4, hz5, oz⟩ := q3 d2 d9 d12
       subst oz; exact zab [(17, .ret [.dat (I x17)]), (22, .ret [.own 72 e22]), (25, .ret [.dat (S s25_0), .dat (B g25_1), .dat (B g25_2)]), (30, .ret [.own 72 e30]), (35, .ret [.dat (S s35_0), .dat (B g35_1), .dat (B g35_2)]), (54, .ret [.own 72 e54]), (55, .ret [.dat (B g55)]), (200019, .no), (200042, .no), (200047, .yes)] (ob hz1 (ob d2 (ob hz2 (ob (rfl : true = true) (ob hz3 (ob hz4 (ob (rfl : true = true) (ob hz5 (ob d9 (ob (rfl : false = false) (ob (rfl : false = false) (ob d12 (ob (rfl : true = true) (ob (rfl : true = true) ob0)))))))))))))) (by kernel_rfl)
     · rcases Bool.eq_false_or_eq_true ((!g35_2 == g25_2)) with d15 | d15
       · obtain ⟨hz1, hz2, hz3, hz4, hz5, oz⟩ := q4 d2 d9 d12 d15
         subst oz; exact zab [(17, .ret [.dat (I x17)]), (22, .ret [.own 72 e22]), (25, .ret [.dat (S s25_0), .dat (B g25_1), .dat (B g25_2)]), (30, .ret [.own 72 e30]), (35, .ret [.dat (S s35_0), .dat (B g35_1), .dat (B g35_2)]), (54, .ret [.own 72 e54]), (55, .ret [.dat (B g55)]), (200019, .no), (200042, .no), (200047, .no), (200051, .yes)] (ob hz1 (ob d2 (ob hz2 (ob (rfl : true = true) (ob hz3 (ob hz4 (ob (rfl : true = true) (ob hz5 (ob d9 (ob (rfl : false = false) (ob (rfl : false = false) (ob d12 (ob (rfl : false = false) (ob (rfl : false = false) (ob d15 ob0))))))))))))))) (by kernel_rfl)
       · rcases Bool.eq_false_or_eq_true ((!g55)) with d19 | d19
         · obtain ⟨hz1, hz2, hz3, hz4, hz5, hz6, hz7, oz⟩ := q5 d2 d9 d12 d15 d19
           subst oz; exact zab [(17, .ret [.dat (I x17)]), (22, .ret [.own 72 e22]), (25, .ret [.dat (S s25_0), .dat (B g25_1), .dat (B g25_2)]), (30, .ret [.own 72 e30]), (35, .ret [.dat (S s35_0), .dat (B g35_1), .dat (B g35_2)]), (54, .ret [.own 72 e54]), (55, .ret [.dat (B g55)]), (200019, .no), (200042, .no), (200047, .no), (200051, .no), (200056, .yes)] (ob hz1 (ob d2 (ob hz2 (ob (rfl : true = true) (ob hz3 (ob hz4 (ob (rfl : true = true) (ob hz5 (ob d9 (ob (rfl : false = false) (ob (rfl : false = false) (ob d12 (ob (rfl : false = false) (ob (rfl : false = false) (ob d15 (ob hz6 (ob (rfl : true = true) (ob hz7 (ob d19 ob0))))))))))))))))))) (by kernel_rfl)
         · obtain ⟨hz1, hz2, hz3, hz4, hz5, hz6, hz7, oz⟩ := q6 d2 d9 d12 d15 d19
           subst oz; exact zab [(17, .ret [.dat (I x17)]), (22, .ret [.own 72 e22]), (25, .ret [.dat (S s25_0), .dat (B g25_1), .dat (B g25_2)]), (30, .ret [.own 72 e30]), (35, .ret [.dat (S s35_0), .dat (B g35_1), .dat (B g35_2)]), (54, .ret [.own 72 e54]), (55, .ret [.dat (B g55)]), (200019, .no), (200042, .no), (200047, .no), (200051, .no), (200056, .no)] (ob hz1 (ob d2 (ob hz2 (ob (rfl : true = true) (ob hz3 (ob hz4 (ob (rfl : true = true) (ob hz5 (ob d9 (ob (rfl : false = false) (ob (rfl : false = false) (ob d12 (ob (rfl : false = false) (ob (rfl : false = false) (ob d15 (ob hz6 (ob (rfl : true = true) (ob hz7 (ob d19 ob0))))))))))))))))))) (by kernel_rfl)
end Go.Den
namespace Go.Den
open Go
set_option linter.unusedVariables false
set_option maxRecDepth 100000
theorem ih {α : Type} {es : List α} {i : Nat} {d : α} (h : es[i]? = some d) : (0 ≤ (i : Int) ∧ (i : Int) < (es.length : Int)) ∧ es[((i : Int)).toNat]? = some d := by
 have hlt := (List.getElem?_eq_some_iff.1 h).1
 refine ⟨⟨by omega, by omega⟩, ?_⟩
 rw [Int.toNat_natCast]
 exact h
theorem gm {α : Type} {L : List α} {f : α → Dat} {i : Nat} {x : α} (h : L[i]? = some x) : (L.map f)[i]? = some (f x) := by rw [List.getElem?_map, h]; rfl
theorem wi (i : Nat) (h : i ≤ 1048576) : w64 ((i : Int) + 1) = ((i + 1 : Nat) : Int) := by rw [zca (by omega)]; rfl
theorem zev {α : Type} {L : List α} {i : Nat} (h : i < L.length) : ∃ x, L[i]? = some x := ⟨_, List.getElem?_eq_getElem h⟩
def zdA (l : Int) (n : Nat) : Int := if l - n < 0 then -1 else l - n
theorem zor {l : Int} {n : Nat} (h : l - n < 0) : zdA l n = -1 := if_pos h
theorem zox {l : Int} {n : Nat} (h : ¬ l - n < 0) : zdA l n = l - n := if_neg h
theorem zkE (l : Int) (n : Nat) : (zdA l n = -1 ∧ l - n < 0) ∨ (zdA l n = l - n ∧ 0 ≤ l - n) := by
 unfold zdA
 split
 · exact .inl ⟨rfl, by assumption⟩
 · exact .inr ⟨rfl, by omega⟩
end Go.Den
namespace Go.Den
open Go
set_option linter.unusedVariables false
set_option maxRecDepth 100000
def inB (x lo hi : Int) : Bool := decide (lo ≤ x) && decide (x ≤ hi)
def zac (x hi : Int) : Bool := decide (0 ≤ x) && decide (x < hi)
theorem zns (x hi : Int) : inB x 0 (hi - 1) = zac x hi := by unfold inB zac; congr 1; rw [decide_eq_decide]; omega
def zcq (n : Int) (c : Cl) : Bool := match c.l with
 | true => decide (c.a = 0) && decide (c.b = 0)
 | false => decide (c.n = 0) && (zac c.a n && zac c.b n)
theorem gd {α : Type} {L : List α} {i : Nat} {x z : α} (h : L[i]? = some x) : L.getD i z = x := by rw [List.getD_eq_getElem?_getD, h]; rfl
theorem zjw (x lo hi : Int) : EvN 1 39 [.dat (I x), .dat (I lo), .dat (I hi)] [] [] ([.dat (B (inB x lo hi))], [], []) :=
 zaY Go.Proofs.Tryd.f39 0 (by kernel_rfl) (by kernel_rfl) fun kk _ => l1In kk x lo hi (fun d => by simp only [decide_eq_true_eq] at d; simp [inB, d]) (fun d => by simp only [decide_eq_false_iff_not] at d; simp [inB, d])
theorem zky (x hi : Int) : EvN 1 43 [.dat (I x), .dat (I hi)] [] [] ([.dat (B (zac x hi))], [], []) :=
 zaY Go.Proofs.Tryd.f43 0 (by kernel_rfl) (by kernel_rfl) fun kk _ => zog kk x hi (fun d => by simp only [decide_eq_true_eq] at d; simp [zac, d]) (fun d => by simp only [decide_eq_false_iff_not] at d; simp [zac, d])
end Go.Den
namespace Go.Den
open Go
set_option linter.unusedVariables false
set_option maxRecDepth 100000
open Go.Proofs.YtcmcfebihbmmeaaDoor (num numV)
theorem zff {f : Nat} {g : List D → List (List D) → List (Option Row) → Option Res} {args : List D} {u : List (List D)} {l : List (Option Row)} {r : Res} (hx : cfg.ext f = some g) (h : g args u l = some r) : EvN 1 f args u l r := fun k hk => by
 obtain ⟨m, rfl⟩ : ∃ m, k = m + 1 := ⟨k - 1, by omega⟩
 simp only [den, hx, Option.bind_some, h]
def In64 (n : Int) : Prop := -9223372036854775808 ≤ n ∧ n ≤ 9223372036854775807
theorem zk4 {n : Int} (h : In64 n) : zeC numV [.dat (I n)] [] [] = some ([.dat (S (num n))], [], []) := by
 have : numV [.int .i64 n] = some [.string (num n)] := by show (if -9223372036854775808 ≤ n ∧ n ≤ 9223372036854775807 then some [Value.string (num n)] else none) = _; exact if_pos h
 show (zhQ [.dat (I n)]).bind (fun vs => (numV vs).map fun rs => (rs.map DV, [], [])) = _
 show (numV [.int .i64 n]).map (fun rs => (rs.map DV, ([] : List (List D)), ([] : List (Option Row)))) = _
 rw [this]
 rfl
theorem znf {n : Int} (h : In64 n) : EvN 1 72 [.dat (I n)] [] [] ([.dat (S (num n))], [], []) := zff (by kernel_rfl) (zk4 h)
theorem zjx {n : Int} (h : In64 n) : EvN 1 74 [.dat (I n)] [] [] ([.dat (S (num n))], [], []) := zff (by kernel_rfl) (zk4 h)
theorem znN {n : Int} (h : In64 n) : (num n).size ≤ 40 := by
 have h0 := h.1
 have h2 := h.2
 have h30 : (10 : Nat) ^ (29 + 1) = 1000000000000000000000000000000 := by decide
 have h1 := Go.Proofs.YtcmcfebihbmmeaaDoor.dec_len 29 n.natAbs (by rw [h30]; omega)
 show (Lib.itoa n).toArray.size ≤ 40
 unfold Lib.itoa
 split
 · simp; omega
 · have : n.toNat = n.natAbs := by omega
   simp
   rw [this]
   omega
def Cl.fine (c : Cl) : Prop := In64 c.n ∧ In64 c.a ∧ In64 c.b
abbrev c0 : Cl := ⟨false, 0, 0, 0⟩
def star : ByteArray := ByteArray.mk #[42]
def zmd (cs : List Cl) : Prop := ∀ (i : Nat) (c : Cl), cs[i]? = some c → c.fine ∧ zcq cs.length c = true
theorem zic {x n : Int} (h : zac x n = true) : 0 ≤ x ∧ x < n := by simpa [zac] using h
theorem zo0 {cs : List Cl} (hc : zmd cs) {i : Nat} {c : Cl} (h : cs[i]? = some c) (hl : c.l = false) : (0 ≤ c.a ∧ c.a < cs.length) ∧ (0 ≤ c.b ∧ c.b < cs.length) := by
 have := (hc i c h).2
 unfold zcq at this
 rw [hl] at this
 simp only [Bool.and_eq_true] at this
 exact ⟨zic this.2.1, zic this.2.2⟩
theorem ih2 {cs : List Cl} {at_ : Int} {c : Cl} (h0 : 0 ≤ at_) (h : cs[at_.toNat]? = some c) : (0 ≤ at_ ∧ at_ < ((cs.map Cl.d).length : Int)) ∧ (cs.map Cl.d)[at_.toNat]? = some c.d := by
 have hlt := (List.getElem?_eq_some_iff.1 h).1
 exact ⟨⟨h0, by simp; omega⟩, gm h⟩
theorem zia {d : Dat} (h : WT cfg.ty 3 d) : ∃ n : Int, d = I n ∧ In64 n := by
 obtain ⟨n, h1, h2⟩ := zpY h (i := ⟨.int .i64, 1, 8, [], [.dat (.val (.int .i64 0))]⟩) (by kernel_rfl) rfl
 have h3 : (decide (IntKind.i64.min ≤ n) && decide (n ≤ IntKind.i64.max)) = true := h2
 simp only [Bool.and_eq_true, decide_eq_true_eq] at h3
 exact ⟨n, h1, h3⟩
end Go.Den
namespace Go.Den
open Go
set_option linter.unusedVariables false
set_option maxRecDepth 100000
def cg (c : List Cl) (i : Int) : Cl := c.getD i.toNat c0
theorem zjC {c : List Cl} {i : Int} {x : Cl} (h : c[i.toNat]? = some x) : cg c i = x := gd h
theorem zo4 {c : List Cl} {i : Int} (h0 : 0 ≤ i) (h : i < (c.length : Int)) : c[i.toNat]? = some (cg c i) := by
 have : i.toNat < c.length := by omega
 unfold cg
 rw [List.getD_eq_getElem?_getD, List.getElem?_eq_getElem this]
 rfl
def Wf (c : List Cl) : Prop := ∀ i : Int, 0 ≤ i → i < (c.length : Int) → (cg c i).l = false → (0 ≤ (cg c i).a ∧ (cg c i).a < (c.length : Int)) ∧ (0 ≤ (cg c i).b ∧ (cg c i).b < (c.length : Int))
def K (l : List Bool) (i : Int) : Prop := l.getD i.toNat false = true
def lack (l : List Bool) : Nat := (List.range l.length).countP fun i => !(l.getD i false)
theorem zix {α : Type} {p q : α → Bool} : ∀ {l : List α}, (∀ x ∈ l, p x = true → q x = true) → (∃ x ∈ l, q x = true ∧ p x = false) → l.countP p < l.countP q
 | [], _, h => by obtain ⟨x, hx, _⟩ := h; simp at hx
 | y :: l, hpq, h => by
   have hle : l.countP p ≤ l.countP q := List.countP_mono_left (fun x hx => hpq x (List.mem_cons_of_mem _ hx))
   obtain ⟨x, hx, hq, hp⟩ := h
   rcases List.mem_cons.1 hx with rfl | hx
   · have e1 : (x :: l).countP p = l.countP p := List.countP_cons_of_neg (by simp [hp])
     have e2 : (x :: l).countP q = l.countP q + 1 := List.countP_cons_of_pos hq
     omega
   · have ih := zix (fun x hx => hpq x (List.mem_cons_of_mem _ hx)) ⟨x, hx, hq, hp⟩
     by_cases hy : p y = true
     · have e1 : (y :: l).countP p = l.countP p + 1 := List.countP_cons_of_pos hy
       have e2 : (y :: l).countP q = l.countP q + 1 := List.countP_cons_of_pos (hpq y List.mem_cons_self hy)
       omega
     · have e1 : (y :: l).countP p = l.countP p := List.countP_cons_of_neg hy
       have e2 : l.countP q ≤ (y :: l).countP q := by rw [List.countP_cons]; omega
       omega
theorem zlD {l : List Bool} {i : Int} (h0 : 0 ≤ i) (hi : i < (l.length : Int)) (j : Int) (hj : 0 ≤ j) : K (l.set i.toNat true) j ↔ (j = i ∨ K l j) := by
 unfold K
 have hlt : i.toNat < l.length := by omega
 by_cases e : j = i
 · subst e
   simp [List.getD_eq_getElem?_getD, hlt]
 · have : i.toNat ≠ j.toNat := by omega
   simp [List.getD_eq_getElem?_getD, List.getElem?_set_ne this, e]
theorem znL {l : List Bool} {i : Int} (h0 : 0 ≤ i) (hi : i < (l.length : Int)) (hk : ¬ K l i) : lack (l.set i.toNat true) < lack l := by
 have hlt : i.toNat < l.length := by omega
 unfold lack
 rw [List.length_set]
 refine zix (fun j _ hj => ?_) ⟨i.toNat, by simpa using hlt, ?_, ?_⟩
 · by_cases e : j = i.toNat
   · subst e
     simp [List.getD_eq_getElem?_getD, hlt] at hj
   · simp only [List.getD_eq_getElem?_getD, List.getElem?_set_ne (Ne.symm e)] at hj ⊢
     exact hj
 · unfold K at hk
   simpa using hk
 · simp [List.getD_eq_getElem?_getD, hlt]
theorem zoX (l : List Bool) : lack l ≤ l.length := by
 unfold lack
 have := List.countP_le_length (p := fun i => !(l.getD i false)) (l := List.range l.length)
 simpa using this
theorem K_lt {l : List Bool} {i : Int} (h0 : 0 ≤ i) (h : K l i) : i < (l.length : Int) := by
 unfold K at h
 by_cases hi : i.toNat < l.length
 · omega
 · rw [List.getD_eq_getElem?_getD, List.getElem?_eq_none (by omega)] at h
   cases h
theorem zmS (n : Nat) (i : Int) : ¬ K (List.replicate n false) i := by
 unfold K
 by_cases h : i.toNat < n
 · simp [List.getD_eq_getElem?_getD, h]
 · simp [List.getD_eq_getElem?_getD, h]
theorem zqc {l l' : List Bool} (hl : l.length = l'.length) (h : ∀ i, 0 ≤ i → (K l i ↔ K l' i)) : l = l' := by
 refine List.ext_getElem hl fun i h1 h2 => ?_
 have := h (i : Int) (by omega)
 unfold K at this
 simp only [Int.toNat_natCast, List.getD_eq_getElem?_getD, List.getElem?_eq_getElem h1, List.getElem?_eq_getElem h2, Option.getD_some] at this
 cases e : l[i] <;> cases e' : l'[i] <;> simp_all
theorem K_get {l : List Bool} {i : Nat} {k : Bool} (h : l[i]? = some k) : K l (i : Int) ↔ k = true := by
 unfold K
 rw [Int.toNat_natCast, gd h]
inductive Rch (c : List Cl) (on : Int → Prop) (src : Int → Prop) : Int → Prop
 | src {i} : src i → Rch c on src i
 | a {i} : Rch c on src i → on i → (cg c i).l = false → Rch c on src (cg c i).a
 | b {i} : Rch c on src i → on i → (cg c i).l = false → Rch c on src (cg c i).b
theorem Rch.in_ {c : List Cl} {on : Int → Prop} {s : Int → Prop} {k : List Bool} (hw : Wf c) (hs : ∀ i, s i → 0 ≤ i ∧ i < (c.length : Int) ∧ K k i)
 (hcl : ∀ i, 0 ≤ i → K k i → on i → (cg c i).l = false → K k (cg c i).a ∧ K k (cg c i).b) {i : Int} (hr : Rch c on s i) : 0 ≤ i ∧ i < (c.length : Int) ∧ K k i := by
 induction hr with
 | src h => exact hs _ h
 | a _ ho hl ih => exact ⟨(hw _ ih.1 ih.2.1 hl).1.1, (hw _ ih.1 ih.2.1 hl).1.2, (hcl _ ih.1 ih.2.2 ho hl).1⟩
 | b _ ho hl ih => exact ⟨(hw _ ih.1 ih.2.1 hl).2.1, (hw _ ih.1 ih.2.1 hl).2.2, (hcl _ ih.1 ih.2.2 ho hl).2⟩
noncomputable def zfY (n : Nat) (P : Int → Prop) : List Bool := (List.range n).map fun (i : Nat) => @decide (P (i : Int)) (Classical.propDecidable _)
theorem zbe (n : Nat) (P : Int → Prop) : (zfY n P).length = n := by simp [zfY]
theorem zb2 {n : Nat} {P : Int → Prop} {i : Int} (h0 : 0 ≤ i) : K (zfY n P) i ↔ i < (n : Int) ∧ P i := by
 unfold K zfY
 rw [List.getD_eq_getElem?_getD, List.getElem?_map]
 by_cases h : i.toNat < n
 · rw [List.getElem?_range h]
   have : ((i.toNat : Nat) : Int) = i := by omega
   simp only [Option.map_some, Option.getD_some, decide_eq_true_eq, this]
   exact ⟨fun h => ⟨by omega, h⟩, fun h => h.2⟩
 · rw [List.getElem?_eq_none (by simpa using h)]
   simp only [Option.map_none, Option.getD_none]
   exact ⟨fun h => by simp at h, fun h1 => by omega⟩
def cnt (m : List Bool) (i : Int) : Int := ((m.take i.toNat).count true : Nat)
theorem zni (m : List Bool) : cnt m 0 = 0 := by simp [cnt]
theorem zlU (m : List Bool) (i : Nat) : 0 ≤ cnt m i ∧ cnt m i ≤ i := by
 unfold cnt
 have h1 : (m.take i).count true ≤ (m.take i).length := List.count_le_length
 have h2 : (m.take i).length ≤ i := by rw [List.length_take]; omega
 simp only [Int.toNat_natCast]
 omega
theorem zmI (m : List Bool) (i : Nat) (h : i < m.length) (hk : K m (i : Int)) : cnt m ((i + 1 : Nat) : Int) = cnt m i + 1 := by
 unfold cnt
 unfold K at hk
 simp only [Int.toNat_natCast, List.getD_eq_getElem?_getD, List.getElem?_eq_getElem h, Option.getD_some] at hk
 simp only [Int.toNat_natCast, List.take_add_one, List.getElem?_eq_getElem h, List.count_append, hk]
 simp
theorem zoO (m : List Bool) (i : Nat) (h : i < m.length) (hk : ¬ K m (i : Int)) : cnt m ((i + 1 : Nat) : Int) = cnt m i := by
 unfold cnt
 unfold K at hk
 simp only [Int.toNat_natCast, List.getD_eq_getElem?_getD, List.getElem?_eq_getElem h, Option.getD_some, Bool.not_eq_true] at hk
 simp only [Int.toNat_natCast, List.take_add_one, List.getElem?_eq_getElem h, List.count_append, hk]
 simp
def mvC (m : List Bool) (x : Cl) : Cl := if x.l = true then x else ⟨x.l, x.n, cnt m x.a, cnt m x.b⟩
def mvCs (m : List Bool) : List Cl → List Bool → List Cl
 | x :: c, b :: l => if b = true then mvC m x :: mvCs m c l else mvCs m c l
 | _, _ => []
theorem zjL (m : List Bool) (c : List Cl) (l : List Bool) : (mvCs m c l).length ≤ l.length := by
 induction c generalizing l with
 | nil => simp [mvCs]
 | cons x c ih =>
   cases l with
   | nil => simp [mvCs]
   | cons b l =>
     unfold mvCs
     have := ih l
     split <;> simp <;> omega
theorem zgN (m : List Bool) (c : List Cl) (l : List Bool) (h : l.length = c.length) : (mvCs m c l).length = l.count true := by
 induction c generalizing l with
 | nil =>
   obtain rfl := List.eq_nil_of_length_eq_zero h
   simp [mvCs]
 | cons x c ih =>
   cases l with
   | nil => simp at h
   | cons b l =>
     unfold mvCs
     have := ih l (by simpa using h)
     cases b <;> simp [this]
theorem zhL (m : List Bool) : ∀ (c : List Cl) (l : List Bool) (x : Cl) (b : Bool), c.length = l.length → mvCs m (c ++ [x]) (l ++ [b]) = mvCs m c l ++ (if b = true then [mvC m x] else [])
 | [], [], x, b, _ => by cases b <;> simp [mvCs]
 | y :: c, k :: l, x, b, h => by
   have := zhL m c l x b (by simpa using h)
   cases k <;> simp [mvCs, this]
 | [], _ :: _, _, _, h => by simp at h
 | _ :: _, [], _, _, h => by simp at h
theorem zhF (m : List Bool) (c : List Cl) (l : List Bool) (i : Nat) (x : Cl) (b : Bool) (hl : c.length = l.length) (hx : c[i]? = some x) (hb : l[i]? = some b) : mvCs m (c.take (i + 1)) (l.take (i + 1)) = mvCs m (c.take i) (l.take i) ++ (if b = true then [mvC m x] else []) := by
 rw [List.take_add_one, List.take_add_one, hx, hb]
 exact zhL m _ _ x b (by simp [List.length_take, hl])
def Shut (m : List Bool) (c : List Cl) : Prop := ∀ i : Nat, K m i → (cg c i).l = false → (0 ≤ (cg c i).a ∧ K m (cg c i).a) ∧ (0 ≤ (cg c i).b ∧ K m (cg c i).b)
def Tb (m : List Bool) (n : Nat) (t : List Int) : Prop := t.length = n ∧ ∀ j : Nat, K m j → t.getD j 0 = cnt m j
theorem Tb.get {m : List Bool} {n : Nat} {t : List Int} (h : Tb m n t) (hm : m.length = n) {j : Int} (h0 : 0 ≤ j) (hk : K m j) : (0 ≤ j ∧ j < (t.length : Int)) ∧ t[j.toNat]? = some (cnt m j) := by
 have hlt := K_lt h0 hk
 have h1 := h.1
 have e : ((j.toNat : Nat) : Int) = j := by omega
 have h2 := h.2 j.toNat (by rw [e]; exact hk)
 rw [e] at h2
 refine ⟨⟨h0, by omega⟩, ?_⟩
 rw [List.getElem?_eq_getElem (by omega)]
 rw [List.getD_eq_getElem?_getD, List.getElem?_eq_getElem (by omega)] at h2
 simpa using h2
end Go.Den
namespace Go.Den
open Go
set_option linter.unusedVariables false
set_option maxRecDepth 100000
open Go.Proofs.YtcmcfebihbmmeaaDoor (num numV)
structure Hp where
 o : Int
 cs : List Cl
 rs : List Int
 ns : List Int
structure Hg (h : Hp) : Prop where
 cells : zmd h.cs
 clen : h.cs.length ≤ 200
 rlen : h.rs.length ≤ 60
 o0 : 0 ≤ h.o
 o1 : h.o ≤ (h.cs.length : Int)
 rin : ∀ x ∈ h.rs, 0 ≤ x ∧ x < (h.cs.length : Int)
 nup : h.ns.Pairwise (· < ·)
 nin : ∀ x ∈ h.ns, 0 ≤ x ∧ x < h.o
 old : ∀ (i : Nat) (c : Cl), h.cs[i]? = some c → (i : Int) < h.o → c.l = false → (h.o ≤ c.a ∨ h.o ≤ c.b) → (i : Int) ∈ h.ns
theorem Hg.wf {h : Hp} (g : Hg h) : Wf h.cs := fun i h0 hi hl => zo0 g.cells (zo4 h0 hi) hl
noncomputable def mvH (m : List Bool) (h : Hp) : Hp := ⟨cnt m m.length, mvCs m h.cs m, h.rs.map (cnt m), []⟩
noncomputable def zeJ (h : Hp) : List Bool := zfY h.cs.length (Rch h.cs (fun _ => True) (· ∈ h.rs))
def Src (h : Hp) (i : Int) : Prop := i ∈ h.rs ∨ ∃ x ∈ h.ns, (cg h.cs x).l = false ∧ (i = (cg h.cs x).a ∨ i = (cg h.cs x).b)
noncomputable def keptL (h : Hp) : List Bool := zfY h.cs.length fun i => i < h.o ∨ Rch h.cs (fun i => ¬ i < h.o) (Src h) i
noncomputable def zbw (h : Hp) : Hp := mvH (zeJ h) h
noncomputable def zmA (h : Hp) : Hp := mvH (keptL h) h
theorem zkj (m : List Bool) {i j : Nat} (h : i ≤ j) : cnt m i ≤ cnt m j := by
 unfold cnt
 simp only [Int.toNat_natCast]
 have := List.Sublist.count_le true (List.take_sublist_take_left h (l := m))
 omega
theorem zlm {m : List Bool} {x : Int} (h0 : 0 ≤ x) (hk : K m x) : 0 ≤ cnt m x ∧ cnt m x < cnt m m.length := by
 have hlt := K_lt h0 hk
 have e : ((x.toNat : Nat) : Int) = x := by omega
 have h1 := zmI m x.toNat (by omega) (by rw [e]; exact hk)
 have h2 := zkj m (show x.toNat + 1 ≤ m.length by omega)
 rw [e] at h1
 have h3 := (zlU m x.toNat).1
 rw [e] at h3
 omega
theorem zgV {m : List Bool} {y : Cl} : ∀ {c : List Cl} {l : List Bool}, y ∈ mvCs m c l → ∃ (i : Nat) (x : Cl), c[i]? = some x ∧ l[i]? = some true ∧ y = mvC m x
 | x :: c, b :: l, h => by
   cases b with
   | true =>
     simp only [mvCs, if_true, List.mem_cons] at h
     rcases h with rfl | h
     · exact ⟨0, x, rfl, rfl, rfl⟩
     · obtain ⟨i, x', h1, h2, h3⟩ := zgV h
       exact ⟨i + 1, x', by simpa using h1, by simpa using h2, h3⟩
   | false =>
     simp only [mvCs, Bool.false_eq_true, if_false] at h
     obtain ⟨i, x', h1, h2, h3⟩ := zgV h
     exact ⟨i + 1, x', by simpa using h1, by simpa using h2, h3⟩
 | [], _, h => by simp [mvCs] at h
 | _ :: _, [], h => by simp [mvCs] at h
theorem zmV {m : List Bool} {c : List Cl} (h : m.length = c.length) : ((mvCs m c m).length : Int) = cnt m m.length := by
 rw [zgN m c m h]; simp [cnt]
theorem zo6 {h : Hp} {m : List Bool} (g : Hg h) (hm : m.length = h.cs.length) (hs : Shut m h.cs) (hr : ∀ x ∈ h.rs, K m x) : Hg (mvH m h) := by
 have hlen := zmV hm
 have hle := zjL m h.cs m
 have hcl := g.clen
 have hcell : ∀ y ∈ mvCs m h.cs m, y.fine ∧ zcq (mvCs m h.cs m).length y = true := fun y hy => by
  obtain ⟨i, x, h1, h2, rfl⟩ := zgV hy
  have hf := (g.cells i x h1)
  have hk : K m (i : Int) := (K_get h2).2 rfl
  cases hl : x.l with
  | true =>
    have e : mvC m x = x := by unfold mvC; rw [if_pos hl]
    rw [e]
    refine ⟨hf.1, ?_⟩
    have := hf.2
    unfold zcq at this ⊢
    rw [hl] at this ⊢
    exact this
  | false =>
    have e : mvC m x = ⟨x.l, x.n, cnt m x.a, cnt m x.b⟩ := by unfold mvC; rw [if_neg (by rw [hl]; simp)]
    have hx : cg h.cs (i : Int) = x := zjC (by rw [Int.toNat_natCast]; exact h1)
    obtain ⟨⟨a0, a1⟩, b0, b1⟩ := hs i hk (by rw [hx]; exact hl)
    rw [hx] at a0 a1 b0 b1
    have ha := zlm a0 a1
    have hb := zlm b0 b1
    rw [e]
    refine ⟨⟨hf.1.1, ⟨by show _ ≤ cnt m x.a; omega, by show cnt m x.a ≤ _; omega⟩, ⟨by show _ ≤ cnt m x.b; omega, by show cnt m x.b ≤ _; omega⟩⟩, ?_⟩
    have := hf.2
    unfold zcq at this ⊢
    rw [hl] at this
    simp only [Bool.and_eq_true] at this
    simp only [hl, this.1, Bool.true_and]
    rw [hlen]
    simp [zac, ha, hb]
 refine ⟨fun i c hc => hcell c (List.mem_of_getElem? hc), by show (mvCs m h.cs m).length ≤ 200; omega, by show (h.rs.map (cnt m)).length ≤ 60; rw [List.length_map]; exact g.rlen, ?_, ?_, fun x hx => ?_, .nil, fun x hx => (by cases hx), fun i c hc hi hl hor => ?_⟩
 · show 0 ≤ cnt m m.length
   exact (zlU m m.length).1
 · show cnt m m.length ≤ ((mvCs m h.cs m).length : Int)
   omega
 · show 0 ≤ x ∧ x < ((mvCs m h.cs m).length : Int)
   obtain ⟨y, hy, rfl⟩ := List.mem_map.1 hx
   have := zlm (g.rin y hy).1 (hr y hy)
   omega
 · have h1 := (hcell c (List.mem_of_getElem? hc)).2
   unfold zcq at h1
   rw [hl] at h1
   simp only [Bool.and_eq_true] at h1
   have ha := zic h1.2.1
   have hb := zic h1.2.2
   have ho : (mvH m h).o = cnt m m.length := rfl
   rw [ho] at hor
   omega
theorem zfV {h : Hp} (g : Hg h) : Shut (zeJ h) h.cs := fun i hk hl => by
 obtain ⟨hi, hr⟩ := (zb2 (Int.natCast_nonneg i)).1 hk
 obtain ⟨⟨a0, a1⟩, b0, b1⟩ := g.wf i (by omega) hi hl
 exact ⟨⟨a0, (zb2 a0).2 ⟨a1, .a hr trivial hl⟩⟩, b0, (zb2 b0).2 ⟨b1, .b hr trivial hl⟩⟩
theorem ze2 {h : Hp} (g : Hg h) : ∀ x ∈ h.rs, K (zeJ h) x := fun x hx => (zb2 (g.rin x hx).1).2 ⟨(g.rin x hx).2, .src hx⟩
def addH (h : Hp) (c : Cl) : Hp := ⟨h.o, h.cs ++ [c], h.rs ++ [(h.cs.length : Int)], h.ns⟩
def zos (h : Hp) (r : Int) : Hp := ⟨h.o, h.cs, h.rs ++ [r], h.ns⟩
def zlP (h : Hp) (a : Int) : Hp := ⟨h.o, h.cs, h.rs.take a.toNat ++ h.rs.drop (a.toNat + 1), h.ns⟩
theorem ziI {n m : Nat} {c : Cl} (h : zcq n c = true) (hnm : n ≤ m) : zcq m c = true := by
 unfold zcq at h ⊢
 cases hl : c.l with
 | true => rw [hl] at h; exact h
 | false =>
   rw [hl] at h
   simp only [Bool.and_eq_true] at h ⊢
   have ha := zic h.2.1
   have hb := zic h.2.2
   refine ⟨h.1, ?_, ?_⟩
   · simp only [zac, Bool.and_eq_true, decide_eq_true_eq]; omega
   · simp only [zac, Bool.and_eq_true, decide_eq_true_eq]; omega
theorem zkq {α : Type} {l : List α} {x y : α} {i : Nat} (h : (l ++ [x])[i]? = some y) : (i < l.length ∧ l[i]? = some y) ∨ (i = l.length ∧ y = x) := by
 by_cases hi : i < l.length
 · rw [List.getElem?_append_left hi] at h; exact .inl ⟨hi, h⟩
 · rw [List.getElem?_append_right (by omega)] at h
   have : i - l.length = 0 := by
    cases hd : i - l.length with
    | zero => rfl
    | succ d => rw [hd] at h; simp at h
   rw [this] at h
   simp at h
   exact .inr ⟨by omega, h.symm⟩
theorem znx {h : Hp} (g : Hg h) {c : Cl} (hc : c.fine) (hok : zcq (h.cs.length + 1) c = true) (h1 : h.cs.length < 200) (h2 : h.rs.length < 60) : Hg (addH h c) := by
 have ho1 := g.o1
 refine ⟨fun i x hx => ?_, by show (h.cs ++ [c]).length ≤ 200; simp; omega, by show (h.rs ++ [(h.cs.length : Int)]).length ≤ 60; simp; omega, g.o0, by show h.o ≤ ((h.cs ++ [c]).length : Int); simp; omega, fun x hx => ?_, g.nup, g.nin, fun i x hx hi hl hor => ?_⟩
 · have e : (addH h c).cs.length = h.cs.length + 1 := by simp [addH]
   rw [e]
   rcases zkq hx with ⟨_, h3⟩ | ⟨_, rfl⟩
   · have := g.cells i x h3
     exact ⟨this.1, ziI this.2 (by omega)⟩
   · exact ⟨hc, hok⟩
 · show 0 ≤ x ∧ x < ((h.cs ++ [c]).length : Int)
   rw [List.length_append]
   rcases List.mem_append.1 hx with hx | hx
   · have := g.rin x hx; simp; omega
   · have : x = (h.cs.length : Int) := by simpa using hx
     simp; omega
 · have hi : (i : Int) < h.o := hi
   rcases zkq hx with ⟨_, h3⟩ | ⟨h3, rfl⟩
   · exact g.old i x h3 hi hl hor
   · omega
theorem zli {h : Hp} (g : Hg h) {r : Int} (hr : 0 ≤ r ∧ r < (h.cs.length : Int)) (h2 : h.rs.length < 60) : Hg (zos h r) :=
 ⟨g.cells, g.clen, by show (h.rs ++ [r]).length ≤ 60; simp; omega, g.o0, g.o1, fun x hx => by
  rcases List.mem_append.1 hx with hx | hx
  · exact g.rin x hx
  · have : x = r := by simpa using hx
    rw [this]; exact hr, g.nup, g.nin, g.old⟩
theorem zmN {h : Hp} (g : Hg h) (a : Int) : Hg (zlP h a) :=
 ⟨g.cells, g.clen, by
  show (h.rs.take a.toNat ++ h.rs.drop (a.toNat + 1)).length ≤ 60
  have := g.rlen
  simp; omega, g.o0, g.o1, fun x hx => by
  rcases List.mem_append.1 hx with hx | hx
  · exact g.rin x (List.mem_of_mem_take hx)
  · exact g.rin x (List.mem_of_mem_drop hx), g.nup, g.nin, g.old⟩
end Go.Den
namespace Go.Den
open Go
set_option linter.unusedVariables false
set_option maxRecDepth 100000
theorem zkv {α : Type} {E : Env} {kk : Nat} {c : Code} (st : Nat → α → St) (P : Nat → α → Prop) (n : Nat)
 (hgo : ∀ i a, i < n → P i a → ∃ a', P (i + 1) a' ∧ ∀ (m : Nat) (s : St) (K : X → St → Prop), s.norm (E.live (zaa c)) = st i a → (∀ s : St, s.norm (E.live (zaa c)) = st (i + 1) a' → zag E kk c m s K) → zag E kk c (m + 1) s K) :
 ∀ (d i : Nat) (a : α), i + d = n → P i a → ∃ a', P n a' ∧ ∀ K : X → St → Prop, (∀ (m : Nat) (s : St), s.norm (E.live (zaa c)) = st n a' → zag E kk c (m + 1) s K) → ∀ m, d < m → ∀ s : St, s.norm (E.live (zaa c)) = st i a → zag E kk c m s K := by
 intro d
 induction d with
 | zero =>
   intro i a hi hP
   have : i = n := by omega
   subst this
   refine ⟨a, hP, fun K hend m hm s hs => ?_⟩
   obtain ⟨m, rfl⟩ : ∃ k, m = k + 1 := ⟨m - 1, by omega⟩
   exact hend m s hs
 | succ d ih =>
   intro i a hi hP
   obtain ⟨a1, hP1, hstep⟩ := hgo i a (by omega) hP
   obtain ⟨a', hP', f⟩ := ih (i + 1) a1 (by omega) hP1
   refine ⟨a', hP', fun K hend m hm s hs => ?_⟩
   obtain ⟨m, rfl⟩ : ∃ k, m = k + 1 := ⟨m - 1, by omega⟩
   exact hstep m s K hs fun s hs => f K hend m (by omega) s hs
theorem zc1 {α : Type} {kk f : Nat} {fn : Func} {r : Nat} {x : X} (st : Nat → α → St) (fin : α → St) (P : Nat → α → Prop) (n : Nat) (hk : n < kk) (a0 : α) (h0 : P 0 a0)
 (hgo : ∀ i a, i < n → P i a → ∃ a', P (i + 1) a' ∧ ∀ (m : Nat) (s : St) (K : X → St → Prop), s.norm ((zaf cfg kk f fn).live (zaa (lp fn r))) = st i a → (∀ s : St, s.norm ((zaf cfg kk f fn).live (zaa (lp fn r))) = st (i + 1) a' → zag (zaf cfg kk f fn) kk (lp fn r) m s K) → zag (zaf cfg kk f fn) kk (lp fn r) (m + 1) s K)
 (hend : ∀ a, P n a → ∀ (m : Nat) (s : St) (K : X → St → Prop), s.norm ((zaf cfg kk f fn).live (zaa (lp fn r))) = st n a → K x (fin a) → zag (zaf cfg kk f fn) kk (lp fn r) (m + 1) s K) {s0 : St} (hs0 : s0 = st 0 a0) :
 ∃ a, P n a ∧ za7 cfg kk f fn r s0 x (fin a) := by
 obtain ⟨a', hP', f⟩ := zkv st P n hgo n 0 a0 (by omega) h0
 exact ⟨a', hP', zcu fun s hs => f _ (fun m s hs => hend a' hP' m s _ hs ⟨rfl, rfl⟩) kk hk s (by rw [hs, hs0])⟩
theorem zjj {α : Type} {E : Env} {kk : Nat} {c : Code} (st : α → St) (P fin : α → Prop) (μ : α → Nat)
 (hgo : ∀ a, P a → fin a ∨ ∃ a', P a' ∧ μ a' < μ a ∧ ∀ (m : Nat) (s : St) (K : X → St → Prop), s.norm (E.live (zaa c)) = st a → (∀ s : St, s.norm (E.live (zaa c)) = st a' → zag E kk c m s K) → zag E kk c (m + 1) s K) :
 ∀ (d : Nat) (a : α), μ a ≤ d → P a → ∃ a', P a' ∧ fin a' ∧ ∀ K : X → St → Prop, (∀ (m : Nat) (s : St), s.norm (E.live (zaa c)) = st a' → zag E kk c (m + 1) s K) → ∀ m, d < m → ∀ s : St, s.norm (E.live (zaa c)) = st a → zag E kk c m s K := by
 intro d
 induction d with
 | zero =>
   intro a hd hP
   rcases hgo a hP with hf | ⟨a', _, h, _⟩
   · refine ⟨a, hP, hf, fun K hend m hm s hs => ?_⟩
     obtain ⟨m, rfl⟩ : ∃ k, m = k + 1 := ⟨m - 1, by omega⟩
     exact hend m s hs
   · omega
 | succ d ih =>
   intro a hd hP
   rcases hgo a hP with hf | ⟨a1, hP1, h1, hstep⟩
   · refine ⟨a, hP, hf, fun K hend m hm s hs => ?_⟩
     obtain ⟨m, rfl⟩ : ∃ k, m = k + 1 := ⟨m - 1, by omega⟩
     exact hend m s hs
   · obtain ⟨a', hP', hf, f⟩ := ih a1 (by omega) hP1
     refine ⟨a', hP', hf, fun K hend m hm s hs => ?_⟩
     obtain ⟨m, rfl⟩ : ∃ k, m = k + 1 := ⟨m - 1, by omega⟩
     exact hstep m s K hs fun s hs => f K hend m (by omega) s hs
theorem zdx {α : Type} {kk f : Nat} {fn : Func} {r : Nat} {x : X} (st fst : α → St) (P fin : α → Prop) (μ : α → Nat) (a0 : α) (hk : μ a0 < kk) (h0 : P a0)
 (hgo : ∀ a, P a → fin a ∨ ∃ a', P a' ∧ μ a' < μ a ∧ ∀ (m : Nat) (s : St) (K : X → St → Prop), s.norm ((zaf cfg kk f fn).live (zaa (lp fn r))) = st a → (∀ s : St, s.norm ((zaf cfg kk f fn).live (zaa (lp fn r))) = st a' → zag (zaf cfg kk f fn) kk (lp fn r) m s K) → zag (zaf cfg kk f fn) kk (lp fn r) (m + 1) s K)
 (hend : ∀ a, P a → fin a → ∀ (m : Nat) (s : St) (K : X → St → Prop), s.norm ((zaf cfg kk f fn).live (zaa (lp fn r))) = st a → K x (fst a) → zag (zaf cfg kk f fn) kk (lp fn r) (m + 1) s K) {s0 : St} (hs0 : s0 = st a0) :
 ∃ a, P a ∧ fin a ∧ za7 cfg kk f fn r s0 x (fst a) := by
 obtain ⟨a', hP', hf, f⟩ := zjj st P fin μ hgo (μ a0) a0 (Nat.le_refl _) h0
 exact ⟨a', hP', hf, zcu fun s hs => f _ (fun m s hs => hend a' hP' hf m s _ hs ⟨rfl, rfl⟩) kk hk s (by rw [hs, hs0])⟩
abbrev BD (ks : List Bool) : List Dat := ks.map (B ·)
abbrev ID (zs : List Int) : List Dat := zs.map (I ·)
abbrev CD (cs : List Cl) : List Dat := cs.map Cl.d
theorem ze1 (ks : List Bool) : (BD ks).length = ks.length := by simp
theorem zfl {ks : List Bool} {i : Int} (h0 : 0 ≤ i) (h : i < (ks.length : Int)) : (0 ≤ i ∧ i < ((BD ks).length : Int)) ∧ (BD ks)[i.toNat]? = some (B (ks.getD i.toNat false)) := by
 have hlt : i.toNat < ks.length := by omega
 refine ⟨⟨h0, by simpa using h⟩, ?_⟩
 rw [List.getElem?_map, List.getD_eq_getElem?_getD, List.getElem?_eq_getElem hlt]
 rfl
theorem ze6 (ks : List Bool) (i : Nat) : (BD ks).set i (B true) = BD (ks.set i true) := by simp [BD, List.map_set]
theorem zlS (n : Nat) : List.replicate n (B false) = BD (List.replicate n false) := by simp [BD]
theorem znZ (n : Nat) : List.replicate n (I 0) = ID (List.replicate n 0) := by simp [ID]
theorem zjS (zs : List Int) (i : Nat) (x : Int) : (ID zs).set i (I x) = ID (zs.set i x) := by simp [ID, List.map_set]
theorem zmq {c : List Cl} {i : Int} (h0 : 0 ≤ i) (h : i < (c.length : Int)) : (0 ≤ i ∧ i < ((CD c).length : Int)) ∧ (CD c)[i.toNat]? = some (cg c i).d := ih2 h0 (zo4 h0 h)
theorem znm {zs : List Int} {i : Nat} {x : Int} (h : zs[i]? = some x) : (0 ≤ (i : Int) ∧ (i : Int) < ((ID zs).length : Int)) ∧ (ID zs)[((i : Int)).toNat]? = some (I x) := ih (gm (f := (I ·)) h)
structure RInv (c : List Cl) (on : Int → Prop) (fr : List Int) (out : List Bool) (op : List Int) : Prop where
 len : out.length = c.length
 rin : ∀ x ∈ op, 0 ≤ x ∧ x < (c.length : Int)
 src : ∀ x ∈ fr, K out x ∨ x ∈ op
 shut : ∀ i, 0 ≤ i → K out i → on i → (cg c i).l = false → (K out (cg c i).a ∨ (cg c i).a ∈ op) ∧ (K out (cg c i).b ∨ (cg c i).b ∈ op)
 sound : ∀ i, 0 ≤ i → K out i → Rch c on (· ∈ fr) i
 soundO : ∀ x ∈ op, Rch c on (· ∈ fr) x
theorem RInv.start {c : List Cl} {on : Int → Prop} {fr : List Int} (h : ∀ x ∈ fr, 0 ≤ x ∧ x < (c.length : Int)) : RInv c on fr (List.replicate c.length false) fr :=
 ⟨by simp, h, fun x hx => .inr hx, fun i _ hk => absurd hk (zmS _ _), fun i _ hk => absurd hk (zmS _ _), fun x hx => .src hx⟩
theorem RInv.skip {c : List Cl} {on : Int → Prop} {fr l : List Int} {out : List Bool} {x : Int} (h : RInv c on fr out (l ++ [x])) (hk : K out x) : RInv c on fr out l := by
 have hm : ∀ y, y ∈ l ++ [x] → K out y ∨ y ∈ l := fun y hy => by
  rcases List.mem_append.1 hy with hy | hy
  · exact .inr hy
  · have : y = x := by simpa using hy
    rw [this]; exact .inl hk
 exact ⟨h.len, fun y hy => h.rin y (by simp [hy]), fun y hy => (h.src y hy).elim .inl (hm y), fun i hi hki ho hl => ⟨(h.shut i hi hki ho hl).1.elim .inl (hm _), (h.shut i hi hki ho hl).2.elim .inl (hm _)⟩, h.sound, fun y hy => h.soundO y (by simp [hy])⟩
theorem RInv.mark {c : List Cl} {on : Int → Prop} {fr l l' : List Int} {out : List Bool} {x : Int} (hw : Wf c) (h : RInv c on fr out (l ++ [x])) (hl' : ∀ y, y ∈ l' ↔ y ∈ l ∨ (on x ∧ (cg c x).l = false ∧ (y = (cg c x).a ∨ y = (cg c x).b))) : RInv c on fr (out.set x.toNat true) l' := by
 obtain ⟨x0, x1⟩ := h.rin x (by simp)
 have hx : Rch c on (· ∈ fr) x := h.soundO x (by simp)
 have hks : ∀ j, 0 ≤ j → (K (out.set x.toNat true) j ↔ (j = x ∨ K out j)) := fun j hj => zlD x0 (by rw [h.len]; exact x1) j hj
 have hm : ∀ y, 0 ≤ y → y ∈ l ++ [x] → K (out.set x.toNat true) y ∨ y ∈ l' := fun y y0 hy => by
  rcases List.mem_append.1 hy with hy | hy
  · exact .inr ((hl' y).2 (.inl hy))
  · have : y = x := by simpa using hy
    rw [this]; exact .inl ((hks x x0).2 (.inl rfl))
 refine ⟨by simpa using h.len, fun y hy => ?_, fun y hy => ?_, fun i hi hk ho hl => ?_, fun i hi hk => ?_, fun y hy => ?_⟩
 · rcases (hl' y).1 hy with hy | ⟨_, hlf, hy⟩
   · exact h.rin y (by simp [hy])
   · rcases hy with rfl | rfl
     · exact (hw x x0 x1 hlf).1
     · exact (hw x x0 x1 hlf).2
 · rcases h.src y hy with hk | hy
   · by_cases y0 : 0 ≤ y
     · exact .inl ((hks y y0).2 (.inr hk))
     · left
       unfold K at hk ⊢
       have e : y.toNat = 0 := by omega
       rw [e] at hk ⊢
       rw [List.getD_eq_getElem?_getD, List.getElem?_set]
       rw [List.getD_eq_getElem?_getD] at hk
       split
       · split
         · rfl
         · rename_i hlt
           rw [List.getElem?_eq_none (by omega)] at hk
           cases hk
       · exact hk
   · exact hm y (h.rin y hy).1 hy
 · by_cases hix : i = x
   · subst hix
     exact ⟨.inr ((hl' _).2 (.inr ⟨ho, hl, .inl rfl⟩)), .inr ((hl' _).2 (.inr ⟨ho, hl, .inr rfl⟩))⟩
   · have hk0 : K out i := ((hks i hi).1 hk).resolve_left hix
     have hlt := K_lt hi hk0
     obtain ⟨⟨a0, _⟩, b0, _⟩ := hw i hi (by have := h.len; omega) hl
     have := h.shut i hi hk0 ho hl
     exact ⟨this.1.elim (fun h => .inl ((hks _ a0).2 (.inr h))) (hm _ a0), this.2.elim (fun h => .inl ((hks _ b0).2 (.inr h))) (hm _ b0)⟩
 · rcases (hks i hi).1 hk with rfl | hk
   · exact hx
   · exact h.sound i hi hk
 · rcases (hl' y).1 hy with hy | ⟨ho, hlf, hy⟩
   · exact h.soundO y (by simp [hy])
   · rcases hy with rfl | rfl
     · exact .a hx ho hlf
     · exact .b hx ho hlf
theorem RInv.done {c : List Cl} {on : Int → Prop} {fr : List Int} {out : List Bool} (hw : Wf c) (hfr : ∀ x ∈ fr, 0 ≤ x ∧ x < (c.length : Int)) (h : RInv c on fr out []) : out = zfY c.length (Rch c on (· ∈ fr)) := by
 refine zqc (by rw [h.len, zbe]) fun i hi => ?_
 rw [zb2 hi]
 refine ⟨fun hk => ⟨by have := K_lt hi hk; have := h.len; omega, h.sound i hi hk⟩, fun ⟨_, hr⟩ => ?_⟩
 have no : ∀ y : Int, K out y ∨ y ∈ ([] : List Int) → K out y := fun y hy => hy.elim id fun h => by cases h
 exact (Rch.in_ hw (fun j hj => ⟨(hfr j hj).1, (hfr j hj).2, no j (h.src j hj)⟩) (fun j h0 hj ho hle => ⟨no _ (h.shut j h0 hj ho hle).1, no _ (h.shut j h0 hj ho hle).2⟩) hr).2.2
theorem zoQ {op : List Int} (h : 0 < op.length) : ∃ l x, op = l ++ [x] := ⟨op.dropLast, op.getLast (by intro e; rw [e] at h; simp at h), (List.dropLast_concat_getLast _).symm⟩
theorem zmT {l : List Int} {x : Int} (hb : l.length ≤ 1000000) : w64 (((ID (l ++ [x])).length : Int) - 1) = (l.length : Int) ∧ (ID (l ++ [x]))[((l.length : Int)).toNat]? = some (I x) ∧ List.take ((l.length : Int)).toNat (ID (l ++ [x])) = ID l := by
 refine ⟨?_, ?_, ?_⟩
 · rw [List.length_map, List.length_append, zca (by simp; omega)]; simp
 · rw [Int.toNat_natCast, List.getElem?_map, List.getElem?_append_right (Nat.le_refl _)]; simp
 · rw [Int.toNat_natCast]
   show List.take l.length (List.map _ (l ++ [x])) = _
   rw [List.map_append, List.take_append_of_le_length (by simp), List.take_of_length_le (by simp)]
theorem ze3 (b : Bool) (zs : List Int) (h : zs.length ≤ 1000000) : EvN 1 82 [.dat (.lst b (ID zs))] [] [] ([.own 3 (ID zs)], [], []) := by
 refine zff (g := zc2 3 1) (by kernel_rfl) ?_
 have hw : zhZ 1 (ID zs) = true := by
  induction zs with
  | nil => rfl
  | cons z zs ih => exact ih (by simp at h; omega)
 have hl : Nat.ble (ID zs).length 1000000 = true := by simpa using h
 unfold zc2
 simp only [hw, hl, Bool.and_self]
theorem zhE (b b1 : Bool) (c : List Cl) (fr : List Int) (hw : Wf c) (hc : c.length ≤ 200) (hfr : ∀ x ∈ fr, 0 ≤ x ∧ x < (c.length : Int)) (hl : fr.length ≤ 1000) :
 EvN 3000 62 [.dat (.lst b (CD c)), .dat (.lst b1 (ID fr)), .fn 63 []] [] [] ([.own 4 (BD (zfY c.length (Rch c (fun _ => True) (· ∈ fr))))], [], []) := by
 refine zaY Go.Proofs.Tryd.f62 2999 (by kernel_rfl) (by kernel_rfl) fun kk hkk => ?_
 have hlc : (CD c).length = c.length := by simp
 have hlack := zoX (List.replicate c.length false)
 rw [List.length_replicate] at hlack
 obtain ⟨⟨out, op⟩, hP, hfin, hloop⟩ := zdx (kk := kk) (f := 62) (fn := Go.Proofs.Tryd.f62) (r := 2) (x := .exit 0) (fun (a : List Bool × List Int) => ziN b (CD c) (BD a.1) (ID a.2)) (fun a => Nm [7] [.own 4 (BD a.1)] [none] [] [])
  (fun a => RInv c (fun _ => True) fr a.1 a.2 ∧ 3 * lack a.1 + a.2.length ≤ 2000) (fun a => a.2 = []) (fun a => 3 * lack a.1 + a.2.length) (List.replicate c.length false, fr) (by simp only; omega) ⟨RInv.start hfr, by simp only; omega⟩
  (fun ⟨out, op⟩ ⟨hP, hb⟩ => by
   simp only at hP hb ⊢
   by_cases h0 : 0 < op.length
   · right
     obtain ⟨l, x, rfl⟩ := zoQ h0
     simp only [List.length_append, List.length_cons, List.length_nil] at hb
     obtain ⟨e1, e2, e3⟩ := zmT (l := l) (x := x) (by omega)
     obtain ⟨x0, x1⟩ := hP.rin x (by simp)
     obtain ⟨ha, hbb⟩ := zfl (ks := out) x0 (by rw [hP.len]; exact x1)
     have hlen : ((ID (l ++ [x])).length : Int) = (l.length : Int) + 1 := by simp
     have hcx := zmq (c := c) x0 x1
     have h63 : EvN 1 63 [.dat (I x)] [] [] ([.dat (B true)], [], []) := zaY Go.Proofs.Tryd.f63 0 (by kernel_rfl) (by kernel_rfl) fun kk _ => zpE kk x rfl
     have o1 : 0 ≤ w64 (((ID (l ++ [x])).length : Int) - 1) ∧ w64 (((ID (l ++ [x])).length : Int) - 1) < ((ID (l ++ [x])).length : Int) := by rw [e1, hlen]; omega
     have o2 : (ID (l ++ [x]))[(w64 (((ID (l ++ [x])).length : Int) - 1)).toNat]? = some (I x) := by rw [e1]; exact e2
     have o3 : 0 ≤ w64 (((ID (l ++ [x])).length : Int) - 1) ∧ w64 (((ID (l ++ [x])).length : Int) - 1) ≤ ((ID (l ++ [x])).length : Int) := ⟨o1.1, by omega⟩
     have e4 : List.take (w64 (((ID (l ++ [x])).length : Int) - 1)).toNat (ID (l ++ [x])) = ID l := by rw [e1]; exact e3
     by_cases hk : K out x
     · have hg : out.getD x.toNat false = true := hk
       rw [hg] at hbb
       refine ⟨(out, l), ⟨hP.skip hk, by simp only; omega⟩, by simp, fun m s K hs hn => ?_⟩
       exact zeT kk m b _ _ _ true x true true c0 hs (fun _ _ => ⟨o1, o2, o3, ha, hbb, fun s' hs' => hn s' (by rw [hs', e4]; rfl)⟩) (fun _ d => by cases d) (fun _ d => by cases d) (fun _ d => by cases d) (fun d => absurd (of_decide_eq_false d) (by omega))
     · have hg : out.getD x.toNat false = false := by
        cases e : out.getD x.toNat false with
        | false => rfl
        | true => exact absurd e hk
       rw [hg] at hbb
       have hset := znL x0 (by rw [hP.len]; exact x1) hk
       have hbs := ze6 out x.toNat
       cases hleaf : (cg c x).l with
       | true =>
         refine ⟨(out.set x.toNat true, l), ⟨hP.mark hw (fun y => by simp [hleaf]), by simp only; omega⟩, by simp; omega, fun m s K hs hn => ?_⟩
         exact zeT kk m b _ _ _ true x false false (cg c x) hs (fun _ d => by cases d) (fun _ _ d => by rw [hleaf] at d; cases d) (fun _ _ d => by rw [hleaf] at d; cases d) (fun _ _ _ => ⟨o1, o2, o3, ha, hbb, ha, hbb, hcx, fun s' hs' => hn s' (by rw [hs', e4, hbs]; rfl)⟩) (fun d => absurd (of_decide_eq_false d) (by omega))
       | false =>
         refine ⟨(out.set x.toNat true, l ++ [(cg c x).a, (cg c x).b]), ⟨hP.mark hw (fun y => by simp [hleaf]), by simp; omega⟩, by simp; omega, fun m s K hs hn => ?_⟩
         exact zeT kk m b _ _ _ true x false false (cg c x) hs (fun _ d => by cases d) (fun _ _ _ _ => ⟨o1, o2, o3, ha, hbb, ha, hbb, hcx, h63 kk (by omega), by rw [e4]; simp; omega, fun s' hs' => hn s' (by rw [hs', e4, hbs]; simp [ziN, ID])⟩) (fun _ _ _ d => by cases d) (fun _ _ d => by rw [hleaf] at d; cases d) (fun d => absurd (of_decide_eq_false d) (by omega))
   · left
     exact List.eq_nil_of_length_eq_zero (by omega))
  (fun ⟨out, op⟩ _ hf m s K hs hK => by
   simp only at hf
   subst hf
   exact zeT kk m b _ _ _ true 0 true true c0 hs (fun d => absurd (of_decide_eq_true d) (by simp)) (fun d => absurd (of_decide_eq_true d) (by simp)) (fun d => absurd (of_decide_eq_true d) (by simp)) (fun d => absurd (of_decide_eq_true d) (by simp)) (fun _ => hK)) (s0 := ziN b (CD c) (List.replicate (CD c).length (B false)) (ID fr)) (by rw [hlc, zlS])
 simp only at hfin hP
 subst hfin
 have hout := hP.1.done hw hfr
 subst hout
 exact zp0 kk b b1 _ _ (ID fr) _ ⟨ze3 b1 fr (by omega) kk (by omega), ⟨by omega, by omega, by omega⟩, hloop, rfl⟩
end Go.Den
