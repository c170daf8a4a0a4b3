/- Merged out of: HC HD HE HF HG HH HI HJ HK HL HM SQ YFnUnseen LFnUnseen LFnUnseenCard (prune.py, a program of this work's). -/
import Derived.Test.YtcmcfebihbmmeaaDoorZi6
import Derived.Test.YtcmcfebihbmmeaaDoorZi5
import Derived.Test.YtcmcfebihbmmeaaDoorZi7
import Derived.KernelRfl
import Derived.Test.YtcmcfebihbmmeaaDoorZi4
import Derived.LaidHandle
import Derived.Handed
import Derived.Stop.LaidErr
import Derived.Lib.LaidTab
import Derived.Test.YtcmcfebihbmmeaaDoorRows
import Derived.WalkKit
import Derived.ProofKit
import Derived.OpenShut
import Derived.ShutString
import Derived.ChangeOld
import Derived.Below
import Derived.Test.YtcmcfebihbmmeaaDoorCards
import Derived.Test.YtcmcfebihbmmeaaDoorTie
import Derived.SevenTiedAt
set_option linter.unusedVariables false
set_option linter.unusedSimpArgs false
set_option linter.unnecessarySimpa false
namespace Go.Den
open Go
set_option linter.unusedVariables false
set_option maxRecDepth 100000
theorem zoV (kk : Nat) (b : Bool) (cs : List Dat) (at_ : Int) (c9 : Cl) (s15 : ByteArray) (s19 : ByteArray) (s30 : ByteArray) {r : Res} (q1 : (c9.l = true) → ((0 ≤ at_ ∧ at_ < (cs.length : Int)) ∧ cs[at_.toNat]? = some (Dat.agg [B c9.l, I c9.n, I c9.a, I c9.b])) ∧ (den cfg kk 72 [D.dat (I c9.n)] [] [] = some ([D.dat (Dat.val (Value.string s15))], [], [])) ∧ r = ([D.dat (Dat.val (Value.string s15))], [], [])) (q2 : (c9.l = false) → (decide (500 < ((ByteArray.mk #[40] ++ s19).size : Int)) = true) → ((0 ≤ at_ ∧ at_ < (cs.length : Int)) ∧ cs[at_.toNat]? = some (Dat.agg [B c9.l, I c9.n, I c9.a, I c9.b])) ∧ (den cfg kk 100 [D.dat (Dat.lst b cs), D.dat (I c9.a)] [] [] = some ([D.dat (Dat.val (Value.string s19))], [], [])) ∧ (1 + s19.size ≤ 9223372036854775807) ∧ r = ([D.dat (Dat.val (Value.string (ByteArray.mk #[40] ++ s19)))], [], [])) (q3 : (c9.l = false) → (decide (500 < ((ByteArray.mk #[40] ++ s19).size : Int)) = false) → ((0 ≤ at_ ∧ at_ < (cs.length : Int)) ∧ cs[at_.toNat]? = some (Dat.agg [B c9.l, I c9.n, I c9.a, I c9.b])) ∧ (den cfg kk 100 [D.dat (Dat.lst b cs), D.dat (I c9.a)] [] [] = some ([D.dat (Dat.val (Value.string s19))], [], [])) ∧ (1 + s19.size ≤ 9223372036854775807) ∧ ((ByteArray.mk #[40] ++ s19).size + 1 ≤ 9223372036854775807) ∧ (den cfg kk 100 [D.dat (Dat.lst b cs), D.dat (I c9.b)] [] [] = some ([D.dat (Dat.val (Value.string s30))], [], [])) ∧ ((ByteArray.mk #[40] ++ s19 ++ ByteArray.mk #[32]).size + s30.size ≤ 9223372036854775807) ∧ ((ByteArray.mk #[40] ++ s19 ++ ByteArray.mk #[32] ++ s30).size + 1 ≤ 9223372036854775807) ∧ r = ([D.dat (Dat.val (Value.string (ByteArray.mk #[40] ++ s19 ++ ByteArray.mk #[32] ++ s30 ++ ByteArray.mk #[41])))], [], [])) : zam cfg kk (den cfg kk) 100 Go.Proofs.Tryd.f100 [.dat (Dat.lst b cs), .dat (I at_)] [] [] = some r := by
 rcases Bool.eq_false_or_eq_true (c9.l) with d2 | d2
 · obtain ⟨hz1, hz2, oz⟩ := q1 d2
   subst oz; exact zab [(9, .at (c9.d)), (15, .ret [.dat (S s15)]), (19, .ret [.dat (S s19)]), (20, .ok), (26, .ok), (30, .ret [.dat (S s30)]), (31, .ok), (32, .ok), (200012, .yes)] (ob hz1 (ob d2 (ob hz2 ob0))) (by kernel_rfl)
 · rcases Bool.eq_false_or_eq_true (decide (500 < ((ByteArray.mk #[40] ++ s19).size : Int))) with d5 | d5
   · obtain ⟨hz1, hz2, hz3, oz⟩ := q2 d2 d5
     subst oz; exact zab [(9, .at (c9.d)), (15, .ret [.dat (S s15)]), (19, .ret [.dat (S s19)]), (20, .ok), (26, .ok), (30, .ret [.dat (S s30)]), (31, .ok), (32, .ok), (200012, .no), (200023, .yes)] (ob hz1 (ob d2 (ob hz2 (ob hz3 (ob d5 ob0))))) (by kernel_rfl)
   · obtain ⟨hz1, hz2, hz3, hz4, hz5, hz6, hz7, oz⟩ := q3 d2 d5
     subst oz; exact zab [(9, .at (c9.d)), (15, .ret [.dat (S s15)]), (19, .ret [.dat (S s19)]), (20, .ok), (26, .ok), (30, .ret [.dat (S s30)]), (31, .ok), (32, .ok), (200012, .no), (200023, .no)] (ob hz1 (ob d2 (ob hz2 (ob hz3 (ob d5 (ob hz4 (ob hz5 (ob hz6 (ob hz7 ob0))))))))) (by kernel_rfl)
theorem zpS (kk : Nat) (bs : List Dat) (n k : Int) (bs1 : List Dat) {r : Res} (q1 : (den cfg kk 139 [D.own 5 bs, D.dat (I n), D.dat (I k)] [] [] = some ([D.own 5 bs1], [], [])) ∧ r = ([D.own 5 bs1], [], [])) : zam cfg kk (den cfg kk) 130 Go.Proofs.Tryd.f130 [.own 5 bs, .dat (I n), .dat (I k)] [] [] = some r := by
 obtain ⟨hz1, oz⟩ := q1
 subst oz; exact zab [(10, .back [.own 5 bs1] [] [])] (ob hz1 (ob (rfl : false = false) ob0)) (by kernel_rfl)
theorem zqA (kk : Nat) (bs : List Dat) (n k : Int) (bs1 : List Dat) {r : Res} (q1 : (decide (n < 0) = true) → (bs.length + 1 ≤ 2147483648) ∧ (den cfg kk 151 [D.own 5 (bs ++ [Dat.val (Value.int IntKind.u8 45)]), D.dat (Dat.val (Value.int IntKind.u64 (IntKind.u64.wrap (0 - IntKind.u64.wrap n)))), D.dat (I k)] [] [] = some ([D.own 5 bs1], [], [])) ∧ r = ([D.own 5 bs1], [], [])) (q2 : (decide (n < 0) = false) → (den cfg kk 151 [D.own 5 bs, D.dat (Dat.val (Value.int IntKind.u64 (IntKind.u64.wrap n))), D.dat (I k)] [] [] = some ([D.own 5 bs1], [], [])) ∧ r = ([D.own 5 bs1], [], [])) : zam cfg kk (den cfg kk) 139 Go.Proofs.Tryd.f139 [.own 5 bs, .dat (I n), .dat (I k)] [] [] = some r := by
 rcases Bool.eq_false_or_eq_true (decide (n < 0)) with d1 | d1
 · obtain ⟨hz1, hz2, oz⟩ := q1 d1
   subst oz; exact zab [(20, .back [.own 5 bs1] [] []), (14, .ok), (200011, .yes)] (ob d1 (ob (obT hz1) (ob hz2 (ob (rfl : false = false) ob0)))) (by kernel_rfl)
 · obtain ⟨hz1, oz⟩ := q2 d1
   subst oz; exact zab [(20, .back [.own 5 bs1] [] []), (14, .ok), (200011, .no)] (ob d1 (ob hz1 (ob (rfl : false = false) ob0))) (by kernel_rfl)
def zge (b : Bool) (cs out opn : List Dat) : St := Nm [0, 6, 7] [.dat (.lst b cs), .own 5 out, .own 9 opn] [none, none, none] [] []
theorem zlX (kk m : Nat) {s : St} {K : X → St → Prop} (b : Bool) (cs out opn : List Dat) (x36 : Int) (out1 : List Dat) (s28 : ByteArray) (c63 : Cl) (c69 : Cl) (c42 : Cl) (c48 : Cl) (s45 : ByteArray) (s51 : ByteArray) (hs : s.norm ((zae cfg kk 110 Go.Proofs.Tryd.f110).live (zaa (lp Go.Proofs.Tryd.f110 2))) = zge b cs out opn) (q1 : (decide (0 < (opn.length : Int)) = true) → (decide ((out.length : Int) ≤ 500) = true) → (c63.l = true) → (0 ≤ w64 ((opn.length : Int) - 1) ∧ w64 ((opn.length : Int) - 1) < (opn.length : Int)) ∧ (opn[(w64 ((opn.length : Int) - 1)).toNat]? = some (Dat.val (Value.string s28))) ∧ (0 ≤ w64 ((opn.length : Int) - 1) ∧ w64 ((opn.length : Int) - 1) ≤ (opn.length : Int)) ∧ (den cfg kk 129 [D.dat (Dat.val (Value.string s28))] [] [] = some ([D.dat (I x36), D.dat (Dat.val Value.nilIface)], [], [])) ∧ ((0 ≤ x36 ∧ x36 < (cs.length : Int)) ∧ cs[x36.toNat]? = some (Dat.agg [B c63.l, I c63.n, I c63.a, I c63.b])) ∧ ((0 ≤ x36 ∧ x36 < (cs.length : Int)) ∧ cs[x36.toNat]? = some (Dat.agg [B c69.l, I c69.n, I c69.a, I c69.b])) ∧ (den cfg kk 130 [D.own 5 out, D.dat (I c69.n), D.dat (I 10)] [] [] = some ([D.own 5 out1], [], [])) ∧ (∀ s : St, s.norm ((zae cfg kk 110 Go.Proofs.Tryd.f110).live (zaa (lp Go.Proofs.Tryd.f110 2))) = Nm [0, 6, 7] [D.dat (Dat.lst b cs), D.own 5 out1, D.own 9 (List.take (w64 ((opn.length : Int) - 1)).toNat opn)] [none, none, none] [] [] → zad (zae cfg kk 110 Go.Proofs.Tryd.f110) kk (lp Go.Proofs.Tryd.f110 2) m s K)) (q2 : (decide (0 < (opn.length : Int)) = true) → (decide ((out.length : Int) ≤ 500) = true) → (c63.l = false) → (0 ≤ w64 ((opn.length : Int) - 1) ∧ w64 ((opn.length : Int) - 1) < (opn.length : Int)) ∧ (opn[(w64 ((opn.length : Int) - 1)).toNat]? = some (Dat.val (Value.string s28))) ∧ (0 ≤ w64 ((opn.length : Int) - 1) ∧ w64 ((opn.length : Int) - 1) ≤ (opn.length : Int)) ∧ (den cfg kk 129 [D.dat (Dat.val (Value.string s28))] [] [] = some ([D.dat (I x36), D.dat (Dat.val Value.nilIface)], [], [])) ∧ ((0 ≤ x36 ∧ x36 < (cs.length : Int)) ∧ cs[x36.toNat]? = some (Dat.agg [B c63.l, I c63.n, I c63.a, I c63.b])) ∧ ((0 ≤ x36 ∧ x36 < (cs.length : Int)) ∧ cs[x36.toNat]? = some (Dat.agg [B c42.l, I c42.n, I c42.a, I c42.b])) ∧ ((0 ≤ x36 ∧ x36 < (cs.length : Int)) ∧ cs[x36.toNat]? = some (Dat.agg [B c48.l, I c48.n, I c48.a, I c48.b])) ∧ (den cfg kk 74 [D.dat (I c42.b)] [] [] = some ([D.dat (Dat.val (Value.string s45))], [], [])) ∧ (den cfg kk 74 [D.dat (I c48.a)] [] [] = some ([D.dat (Dat.val (Value.string s51))], [], [])) ∧ ((List.take (w64 ((opn.length : Int) - 1)).toNat opn).length + 5 ≤ 2147483648) ∧ (∀ s : St, s.norm ((zae cfg kk 110 Go.Proofs.Tryd.f110).live (zaa (lp Go.Proofs.Tryd.f110 2))) = Nm [0, 6, 7] [D.dat (Dat.lst b cs), D.own 5 out, D.own 9 (List.take (w64 ((opn.length : Int) - 1)).toNat opn ++ [Dat.val (Value.string (ByteArray.mk #[41])), Dat.val (Value.string s45), Dat.val (Value.string (ByteArray.mk #[32])), Dat.val (Value.string s51), Dat.val (Value.string (ByteArray.mk #[40]))])] [none, none, none] [] [] → zad (zae cfg kk 110 Go.Proofs.Tryd.f110) kk (lp Go.Proofs.Tryd.f110 2) m s K)) (q3 : (decide (0 < (opn.length : Int)) = true) → (decide ((out.length : Int) ≤ 500) = false) → K (X.exit 0) (Nm [6] [D.own 5 out] [none] [] [])) (q4 : (decide (0 < (opn.length : Int)) = false) → K (X.exit 0) (Nm [6] [D.own 5 out] [none] [] [])) : zad (zae cfg kk 110 Go.Proofs.Tryd.f110) kk (lp Go.Proofs.Tryd.f110 2) (m + 1) s K := by
 rcases Bool.eq_false_or_eq_true (decide (0 < (opn.length : Int))) with d1 | d1
 · rcases Bool.eq_false_or_eq_true (decide ((out.length : Int) ≤ 500)) with d4 | d4
   · rcases Bool.eq_false_or_eq_true (c63.l) with d10 | d10
     · obtain ⟨hz1, hz2, hz3, hz4, hz5, hz6, hz7, oz⟩ := q1 d1 d4 d10
       exact zal [(36, .ret [.dat (I x36), .dat (Dat.val .nilIface)]), (72, .back [.own 5 out1] [] []), (27, .ok), (28, .at (S s28)), (33, .ok), (63, .at (c63.d)), (69, .at (c69.d)), (42, .at (c42.d)), (48, .at (c48.d)), (45, .ret [.dat (S s45)]), (51, .ret [.dat (S s51)]), (53, .ok), (200018, .yes), (200022, .yes), (200060, .yes)] hs (by kernel_rfl) (ob d1 (ob (rfl : true = true) (ob (rfl : true = true) (ob d4 (ob hz1 (ob hz2 (ob hz3 (ob hz4 (ob hz5 (ob d10 (ob hz6 (ob hz7 (ob (rfl : false = false) ob0))))))))))))) (by kernel_rfl) oz
     · obtain ⟨hz1, hz2, hz3, hz4, hz5, hz6, hz7, hz8, hz9, hz10, oz⟩ := q2 d1 d4 d10
       exact zal [(36, .ret [.dat (I x36), .dat (Dat.val .nilIface)]), (72, .back [.own 5 out1] [] []), (27, .ok), (28, .at (S s28)), (33, .ok), (63, .at (c63.d)), (69, .at (c69.d)), (42, .at (c42.d)), (48, .at (c48.d)), (45, .ret [.dat (S s45)]), (51, .ret [.dat (S s51)]), (53, .ok), (200018, .yes), (200022, .yes), (200060, .no)] hs (by kernel_rfl) (ob d1 (ob (rfl : true = true) (ob (rfl : true = true) (ob d4 (ob hz1 (ob hz2 (ob hz3 (ob hz4 (ob hz5 (ob d10 (ob hz6 (ob hz7 (ob hz8 (ob hz9 (ob (obT hz10) ob0))))))))))))))) (by kernel_rfl) oz
   · have oz := q3 d1 d4
     exact zao [(36, .ret [.dat (I x36), .dat (Dat.val .nilIface)]), (72, .back [.own 5 out1] [] []), (27, .ok), (28, .at (S s28)), (33, .ok), (63, .at (c63.d)), (69, .at (c69.d)), (42, .at (c42.d)), (48, .at (c48.d)), (45, .ret [.dat (S s45)]), (51, .ret [.dat (S s51)]), (53, .ok), (200018, .yes), (200022, .no)] hs (by kernel_rfl) rfl (ob d1 (ob (rfl : true = true) (ob (rfl : true = true) (ob d4 ob0)))) (by kernel_rfl) oz
 · have oz := q4 d1
   exact zao [(36, .ret [.dat (I x36), .dat (Dat.val .nilIface)]), (72, .back [.own 5 out1] [] []), (27, .ok), (28, .at (S s28)), (33, .ok), (63, .at (c63.d)), (69, .at (c69.d)), (42, .at (c42.d)), (48, .at (c48.d)), (45, .ret [.dat (S s45)]), (51, .ret [.dat (S s51)]), (53, .ok), (200018, .no)] hs (by kernel_rfl) rfl (ob d1 (ob (rfl : false = false) (ob (rfl : false = false) ob0))) (by kernel_rfl) oz
theorem znm (kk m : Nat) {s : St} {K : X → St → Prop} (b : Bool) (cs out opn : List Dat) (x36 : Int) (s28 : ByteArray) (hs : s.norm ((zae cfg kk 110 Go.Proofs.Tryd.f110).live (zaa (lp Go.Proofs.Tryd.f110 2))) = zge b cs out opn) (q1 : (decide (0 < (opn.length : Int)) = true) → (decide ((out.length : Int) ≤ 500) = true) → (0 ≤ w64 ((opn.length : Int) - 1) ∧ w64 ((opn.length : Int) - 1) < (opn.length : Int)) ∧ (opn[(w64 ((opn.length : Int) - 1)).toNat]? = some (Dat.val (Value.string s28))) ∧ (0 ≤ w64 ((opn.length : Int) - 1) ∧ w64 ((opn.length : Int) - 1) ≤ (opn.length : Int)) ∧ (den cfg kk 129 [D.dat (Dat.val (Value.string s28))] [] [] = some ([D.dat (I x36), D.etc Etc.err], [], [])) ∧ (((zah s28).all fun d => d.cells.length.beq (TI.mk (TK.int IntKind.u8) 1 1 [] [D.dat (Dat.val (Value.int IntKind.u8 0))]).sz) = true ∧ out.length + (zah s28).length ≤ 2147483648) ∧ (∀ s : St, s.norm ((zae cfg kk 110 Go.Proofs.Tryd.f110).live (zaa (lp Go.Proofs.Tryd.f110 2))) = Nm [0, 6, 7] [D.dat (Dat.lst b cs), D.own 5 (out ++ zah s28), D.own 9 (List.take (w64 ((opn.length : Int) - 1)).toNat opn)] [none, none, none] [] [] → zad (zae cfg kk 110 Go.Proofs.Tryd.f110) kk (lp Go.Proofs.Tryd.f110 2) m s K)) (q2 : (decide (0 < (opn.length : Int)) = true) → (decide ((out.length : Int) ≤ 500) = false) → K (X.exit 0) (Nm [6] [D.own 5 out] [none] [] [])) (q3 : (decide (0 < (opn.length : Int)) = false) → K (X.exit 0) (Nm [6] [D.own 5 out] [none] [] [])) : zad (zae cfg kk 110 Go.Proofs.Tryd.f110) kk (lp Go.Proofs.Tryd.f110 2) (m + 1) s K := by
 rcases Bool.eq_false_or_eq_true (decide (0 < (opn.length : Int))) with d1 | d1
 · rcases Bool.eq_false_or_eq_true (decide ((out.length : Int) ≤ 500)) with d4 | d4
   · obtain ⟨hz1, hz2, hz3, hz4, hz5, oz⟩ := q1 d1 d4
     exact zal [(36, .ret [.dat (I x36), .etc .err]), (27, .ok), (28, .at (S s28)), (33, .ok), (59, .ok), (200018, .yes), (200022, .yes)] hs (by kernel_rfl) (ob d1 (ob (rfl : true = true) (ob (rfl : true = true) (ob d4 (ob hz1 (ob hz2 (ob hz3 (ob hz4 (ob hz5 ob0))))))))) (by kernel_rfl) oz
   · have oz := q2 d1 d4
     exact zao [(36, .ret [.dat (I x36), .etc .err]), (27, .ok), (28, .at (S s28)), (33, .ok), (59, .ok), (200018, .yes), (200022, .no)] hs (by kernel_rfl) rfl (ob d1 (ob (rfl : true = true) (ob (rfl : true = true) (ob d4 ob0)))) (by kernel_rfl) oz
 · have oz := q3 d1
   exact zao [(36, .ret [.dat (I x36), .etc .err]), (27, .ok), (28, .at (S s28)), (33, .ok), (59, .ok), (200018, .no)] hs (by kernel_rfl) rfl (ob d1 (ob (rfl : false = false) (ob (rfl : false = false) ob0))) (by kernel_rfl) oz
theorem showI (kk : Nat) (b : Bool) (cs out : List Dat) (at_ : Int) (s13 : ByteArray) {r : Res} (q1 : (decide (500 < (out.length : Int)) = true) → (den cfg kk 74 [D.dat (I at_)] [] [] = some ([D.dat (Dat.val (Value.string s13))], [], [])) ∧ (zaS cfg kk 110 Go.Proofs.Tryd.f110 2 (zge b cs [] [S s13]) (X.exit 0) (Nm [6] [D.own 5 out] [none] [] [])) ∧ r = ([D.dat (Dat.val (Value.string (ByteArray.mk #[]))), D.dat (B false)], [], [])) (q2 : (decide (500 < (out.length : Int)) = false) → (den cfg kk 74 [D.dat (I at_)] [] [] = some ([D.dat (Dat.val (Value.string s13))], [], [])) ∧ (zaS cfg kk 110 Go.Proofs.Tryd.f110 2 (zge b cs [] [S s13]) (X.exit 0) (Nm [6] [D.own 5 out] [none] [] [])) ∧ (zcl ((fun r => zaK none r.snd) (5, out)) ≠ none) ∧ r = ([D.dat (Dat.val ((zcl ((fun r => zaK none r.snd) (5, out))).getD (Value.string ByteArray.empty))), D.dat (B true)], [], [])) : zam cfg kk (den cfg kk) 110 Go.Proofs.Tryd.f110 [.dat (Dat.lst b cs), .dat (I at_)] [] [] = some r := by
 rcases Bool.eq_false_or_eq_true (decide (500 < (out.length : Int))) with d4 | d4
 · obtain ⟨hz1, hz2, oz⟩ := q1 d4
   subst oz; exact zab [(13, .ret [.dat (S s13)]), (300002, .loop (zge b cs [] [S s13]) (.exit 0) (Nm [6] [.own 5 out] [none] [] [])), (77, .ok), (200075, .yes)] (ob hz1 (ob (rfl : _ = zge b cs [] [S s13]) (ob hz2 (ob d4 ob0)))) (by kernel_rfl)
 · obtain ⟨hz1, hz2, hz3, oz⟩ := q2 d4
   subst oz; exact zab [(13, .ret [.dat (S s13)]), (300002, .loop (zge b cs [] [S s13]) (.exit 0) (Nm [6] [.own 5 out] [none] [] [])), (77, .ok), (200075, .no)] (ob hz1 (ob (rfl : _ = zge b cs [] [S s13]) (ob hz2 (ob d4 (ob hz3 ob0))))) (by kernel_rfl)
def hd51 (b : Bool) (es : List Dat) (o : Int) (cs rs : List Dat) (room nur : Int) (free full : Bool) (out : ByteArray) (i : Int) : St := Nm [0, 6, 7, 8] [.ptr (.up 0) 0, .dat (.lst b es), .dat (I es.length), .dat (I i)] [none, none, none, none] [L7 o cs rs room nur free full out] []
theorem zmM (kk m : Nat) {s : St} {K : X → St → Prop} (b : Bool) (es : List Dat) (o : Int) (cs rs : List Dat) (room nur : Int) (free full : Bool) (out : ByteArray) (i : Int) (o1 : Int) (cs1 rs1 : List Dat) (full1 : Bool) (out1 : ByteArray) (x10_0 : Int) (x10_1 : Int) (x10_2 : Int) (hs : s.norm ((zae cfg kk 51 Go.Proofs.Tryd.f51).live (zaa (lp Go.Proofs.Tryd.f51 1))) = hd51 b es o cs rs room nur free full out i) (q1 : (decide (i < (es.length : Int)) = true) → (full1 = true) → ((0 ≤ i ∧ i < (es.length : Int)) ∧ es[i.toNat]? = some (N3 x10_0 x10_1 x10_2)) ∧ (den cfg kk 78 [D.ptr (Ref.up 0) 0, D.dat (N3 x10_0 x10_1 x10_2)] [[D.dat (I o), D.own 97 cs, D.own 3 rs, D.dat (I room), D.dat (I nur), D.dat (B free), D.dat (B full), D.dat (Dat.val (Value.string out))]] [] = some ([], [[D.dat (I o1), D.own 97 cs1, D.own 3 rs1, D.dat (I room), D.dat (I nur), D.dat (B free), D.dat (B full1), D.dat (Dat.val (Value.string out1))]], [])) ∧ K (X.ret) (Nm [] [] [] [[D.dat (I o1), D.own 97 cs1, D.own 3 rs1, D.dat (I room), D.dat (I nur), D.dat (B free), D.dat (B full1), D.dat (Dat.val (Value.string out1))]] [])) (q2 : (decide (i < (es.length : Int)) = true) → (full1 = false) → ((0 ≤ i ∧ i < (es.length : Int)) ∧ es[i.toNat]? = some (N3 x10_0 x10_1 x10_2)) ∧ (den cfg kk 78 [D.ptr (Ref.up 0) 0, D.dat (N3 x10_0 x10_1 x10_2)] [[D.dat (I o), D.own 97 cs, D.own 3 rs, D.dat (I room), D.dat (I nur), D.dat (B free), D.dat (B full), D.dat (Dat.val (Value.string out))]] [] = some ([], [[D.dat (I o1), D.own 97 cs1, D.own 3 rs1, D.dat (I room), D.dat (I nur), D.dat (B free), D.dat (B full1), D.dat (Dat.val (Value.string out1))]], [])) ∧ (∀ s : St, s.norm ((zae cfg kk 51 Go.Proofs.Tryd.f51).live (zaa (lp Go.Proofs.Tryd.f51 1))) = Nm [0, 6, 7, 8] [D.ptr (Ref.up 0) 0, D.dat (Dat.lst b es), D.dat (I (es.length : Int)), D.dat (I (w64 (i + 1)))] [none, none, none, none] [[D.dat (I o1), D.own 97 cs1, D.own 3 rs1, D.dat (I room), D.dat (I nur), D.dat (B free), D.dat (B full1), D.dat (Dat.val (Value.string out1))]] [] → zad (zae cfg kk 51 Go.Proofs.Tryd.f51) kk (lp Go.Proofs.Tryd.f51 1) m s K)) (q3 : (decide (i < (es.length : Int)) = false) → K (X.exit 0) (Nm [] [] [] [[D.dat (I o), D.own 97 cs, D.own 3 rs, D.dat (I room), D.dat (I nur), D.dat (B free), D.dat (B full), D.dat (Dat.val (Value.string out))]] [])) : zad (zae cfg kk 51 Go.Proofs.Tryd.f51) kk (lp Go.Proofs.Tryd.f51 1) (m + 1) s K := by
 rcases Bool.eq_false_or_eq_true (decide (i < (es.length : Int))) with d1 | d1
 · rcases Bool.eq_false_or_eq_true (full1) with d5 | d5
   · obtain ⟨hz1, hz2, oz⟩ := q1 d1 d5
     exact zao [(14, .back [] [L7 o1 cs1 rs1 room nur free full1 out1] []), (10, .at (Dat.agg [I x10_0, I x10_1, I x10_2])), (200009, .yes), (200018, .yes)] hs (by kernel_rfl) rfl (ob d1 (ob hz1 (ob hz2 (ob (rfl : false = false) (ob d5 ob0))))) (by kernel_rfl) oz
   · obtain ⟨hz1, hz2, oz⟩ := q2 d1 d5
     exact zal [(14, .back [] [L7 o1 cs1 rs1 room nur free full1 out1] []), (10, .at (Dat.agg [I x10_0, I x10_1, I x10_2])), (200009, .yes), (200018, .no)] hs (by kernel_rfl) (ob d1 (ob hz1 (ob hz2 (ob (rfl : false = false) (ob d5 ob0))))) (by kernel_rfl) oz
 · have oz := q3 d1
   exact zao [(14, .back [] [L7 o1 cs1 rs1 room nur free full1 out1] []), (10, .at (Dat.agg [I x10_0, I x10_1, I x10_2])), (200009, .no)] hs (by kernel_rfl) rfl (ob d1 ob0) (by kernel_rfl) oz
theorem zo2 (kk : Nat) (b : Bool) (es : List Dat) (o : Int) (cs rs : List Dat) (room nur : Int) (free full : Bool) (out : ByteArray) (o1 : Int) (cs1 rs1 : List Dat) (full1 : Bool) (out1 : ByteArray) {r : Res} (q1 : (zaS cfg kk 51 Go.Proofs.Tryd.f51 1 (hd51 b es o cs rs room nur free full out 0) (X.exit 0) (Nm [] [] [] [[D.dat (I o1), D.own 97 cs1, D.own 3 rs1, D.dat (I room), D.dat (I nur), D.dat (B free), D.dat (B full1), D.dat (Dat.val (Value.string out1))]] [])) ∧ r = ([], [[D.dat (I o1), D.own 97 cs1, D.own 3 rs1, D.dat (I room), D.dat (I nur), D.dat (B free), D.dat (B full1), D.dat (Dat.val (Value.string out1))]], [])) : zam cfg kk (den cfg kk) 51 Go.Proofs.Tryd.f51 [.ptr (.up 0) 0, .dat (Dat.lst b es)] [L7 o cs rs room nur free full out] [] = some r := by
 obtain ⟨hz1, oz⟩ := q1
 subst oz; exact zab [(300001, .loop (hd51 b es o cs rs room nur free full out 0) (.exit 0) (Nm [] [] [] [L7 o1 cs1 rs1 room nur free full1 out1] []))] (ob (rfl : _ = hd51 b es o cs rs room nur free full out 0) (ob hz1 ob0)) (by kernel_rfl)
theorem zpc (kk : Nat) (b : Bool) (es : List Dat) (o : Int) (cs rs : List Dat) (room nur : Int) (free full : Bool) (out : ByteArray) (o1 : Int) (cs1 rs1 : List Dat) (full1 : Bool) (out1 : ByteArray) {r : Res} (q1 : (zaS cfg kk 51 Go.Proofs.Tryd.f51 1 (hd51 b es o cs rs room nur free full out 0) X.ret (Nm [] [] [] [[D.dat (I o1), D.own 97 cs1, D.own 3 rs1, D.dat (I room), D.dat (I nur), D.dat (B free), D.dat (B full1), D.dat (Dat.val (Value.string out1))]] [])) ∧ r = ([], [[D.dat (I o1), D.own 97 cs1, D.own 3 rs1, D.dat (I room), D.dat (I nur), D.dat (B free), D.dat (B full1), D.dat (Dat.val (Value.string out1))]], [])) : zam cfg kk (den cfg kk) 51 Go.Proofs.Tryd.f51 [.ptr (.up 0) 0, .dat (Dat.lst b es)] [L7 o cs rs room nur free full out] [] = some r := by
 obtain ⟨hz1, oz⟩ := q1
 subst oz; exact zab [(300001, .loop (hd51 b es o cs rs room nur free full out 0) .ret (Nm [] [] [] [L7 o1 cs1 rs1 room nur free full1 out1] []))] (ob (rfl : _ = hd51 b es o cs rs room nur free full out 0) (ob hz1 ob0)) (by kernel_rfl)
def hd52 (b : Bool) (es : List Dat) (o : Int) (cs rs bs : List Dat) (room nur : Int) (full : Bool) (i : Int) : St := Nm [7, 13, 14, 15, 16] [.ptr (.loc 13) 0, .ptr (.loc 13) 0, .dat (.lst b es), .dat (I es.length), .dat (I i)] [none, some (P7 o cs rs bs room nur full), none, none, none] [] []
theorem zkr (kk m : Nat) {s : St} {K : X → St → Prop} (b : Bool) (es : List Dat) (o : Int) (cs rs bs : List Dat) (room nur : Int) (full : Bool) (i : Int) (o1 : Int) (cs1 rs1 bs1 : List Dat) (full1 : Bool) (x18_0 : Int) (x18_1 : Int) (x18_2 : Int) (hs : s.norm ((zae cfg kk 52 Go.Proofs.Tryd.f52).live (zaa (lp Go.Proofs.Tryd.f52 3))) = hd52 b es o cs rs bs room nur full i) (q1 : (decide (i < (es.length : Int)) = true) → (full1 = true) → ((0 ≤ i ∧ i < (es.length : Int)) ∧ es[i.toNat]? = some (N3 x18_0 x18_1 x18_2)) ∧ (den cfg kk 79 [D.ptr (Ref.up 0) 0, D.dat (N3 x18_0 x18_1 x18_2)] [[D.dat (I o), D.own 97 cs, D.own 3 rs, D.own 5 bs, D.dat (I room), D.dat (I nur), D.dat (B full)]] [] = some ([], [[D.dat (I o1), D.own 97 cs1, D.own 3 rs1, D.own 5 bs1, D.dat (I room), D.dat (I nur), D.dat (B full1)]], [])) ∧ K (X.exit 0) (Nm [7, 13] [D.ptr (Ref.loc 13) 0, D.ptr (Ref.loc 13) 0] [none, some [D.dat (I o1), D.own 97 cs1, D.own 3 rs1, D.own 5 bs1, D.dat (I room), D.dat (I nur), D.dat (B full1)]] [] [])) (q2 : (decide (i < (es.length : Int)) = true) → (full1 = false) → ((0 ≤ i ∧ i < (es.length : Int)) ∧ es[i.toNat]? = some (N3 x18_0 x18_1 x18_2)) ∧ (den cfg kk 79 [D.ptr (Ref.up 0) 0, D.dat (N3 x18_0 x18_1 x18_2)] [[D.dat (I o), D.own 97 cs, D.own 3 rs, D.own 5 bs, D.dat (I room), D.dat (I nur), D.dat (B full)]] [] = some ([], [[D.dat (I o1), D.own 97 cs1, D.own 3 rs1, D.own 5 bs1, D.dat (I room), D.dat (I nur), D.dat (B full1)]], [])) ∧ (∀ s : St, s.norm ((zae cfg kk 52 Go.Proofs.Tryd.f52).live (zaa (lp Go.Proofs.Tryd.f52 3))) = Nm [7, 13, 14, 15, 16] [D.ptr (Ref.loc 13) 0, D.ptr (Ref.loc 13) 0, D.dat (Dat.lst b es), D.dat (I (es.length : Int)), D.dat (I (w64 (i + 1)))] [none, some [D.dat (I o1), D.own 97 cs1, D.own 3 rs1, D.own 5 bs1, D.dat (I room), D.dat (I nur), D.dat (B full1)], none, none, none] [] [] → zad (zae cfg kk 52 Go.Proofs.Tryd.f52) kk (lp Go.Proofs.Tryd.f52 3) m s K)) (q3 : (decide (i < (es.length : Int)) = false) → K (X.exit 0) (Nm [7, 13] [D.ptr (Ref.loc 13) 0, D.ptr (Ref.loc 13) 0] [none, some [D.dat (I o), D.own 97 cs, D.own 3 rs, D.own 5 bs, D.dat (I room), D.dat (I nur), D.dat (B full)]] [] [])) : zad (zae cfg kk 52 Go.Proofs.Tryd.f52) kk (lp Go.Proofs.Tryd.f52 3) (m + 1) s K := by
 rcases Bool.eq_false_or_eq_true (decide (i < (es.length : Int))) with d1 | d1
 · rcases Bool.eq_false_or_eq_true (full1) with d5 | d5
   · obtain ⟨hz1, hz2, oz⟩ := q1 d1 d5
     exact zao [(22, .back [] [P7 o1 cs1 rs1 bs1 room nur full1] []), (18, .at (Dat.agg [I x18_0, I x18_1, I x18_2])), (200017, .yes), (200026, .yes)] hs (by kernel_rfl) rfl (ob d1 (ob hz1 (ob hz2 (ob (rfl : false = false) (ob d5 ob0))))) (by kernel_rfl) oz
   · obtain ⟨hz1, hz2, oz⟩ := q2 d1 d5
     exact zal [(22, .back [] [P7 o1 cs1 rs1 bs1 room nur full1] []), (18, .at (Dat.agg [I x18_0, I x18_1, I x18_2])), (200017, .yes), (200026, .no)] hs (by kernel_rfl) (ob d1 (ob hz1 (ob hz2 (ob (rfl : false = false) (ob d5 ob0))))) (by kernel_rfl) oz
 · have oz := q3 d1
   exact zao [(22, .back [] [P7 o1 cs1 rs1 bs1 room nur full1] []), (18, .at (Dat.agg [I x18_0, I x18_1, I x18_2])), (200017, .no)] hs (by kernel_rfl) rfl (ob d1 ob0) (by kernel_rfl) oz
theorem zql (kk : Nat) (b : Bool) (es : List Dat) (room nur : Int) (o1 : Int) (cs1 rs1 bs1 : List Dat) (full1 : Bool) {r : Res} (q1 : (zaS cfg kk 52 Go.Proofs.Tryd.f52 3 (hd52 b es 0 [] [] [] room nur false 0) (X.exit 0) (Nm [7, 13] [D.ptr (Ref.loc 13) 0, D.ptr (Ref.loc 13) 0] [none, some [D.dat (I o1), D.own 97 cs1, D.own 3 rs1, D.own 5 bs1, D.dat (I room), D.dat (I nur), D.dat (B full1)]] [] [])) ∧ r = ([D.ptr (Ref.loc 0) 0], [[D.dat (I o1), D.own 97 cs1, D.own 3 rs1, D.own 5 bs1, D.dat (I room), D.dat (I nur), D.dat (B full1)]], [])) : zam cfg kk (den cfg kk) 52 Go.Proofs.Tryd.f52 [.dat (Dat.lst b es), .dat (I room), .dat (I nur)] [] [] = some r := by
 obtain ⟨hz1, oz⟩ := q1
 subst oz; exact zab [(300003, .loop (hd52 b es 0 [] [] [] room nur false 0) (.exit 0) (Nm [7, 13] [.ptr (.loc 13) 0, .ptr (.loc 13) 0] [none, some (P7 o1 cs1 rs1 bs1 room nur full1)] [] []))] (ob (rfl : _ = hd52 b es 0 [] [] [] room nur false 0) (ob hz1 ob0)) (by kernel_rfl)
theorem zpP (kk : Nat) (b : Bool) (es : List Dat) (o1 : Int) (cs1 rs1 bs1 : List Dat) (full1 : Bool) (t : ByteArray) {r : Res} (q1 : (decide (150 < (es.length : Int)) = true) → r = ([D.dat (Dat.val (Value.string (ByteArray.mk #[]))), D.dat (B false)], [], [])) (q2 : (decide (150 < (es.length : Int)) = false) → (den cfg kk 52 [D.dat (Dat.lst b es), D.dat (I (-1)), D.dat (I 1)] [] [] = some ([D.ptr (Ref.loc 0) 0], [[D.dat (I o1), D.own 97 cs1, D.own 3 rs1, D.own 5 bs1, D.dat (I (-1)), D.dat (I 1), D.dat (B full1)]], [])) ∧ (zcl ((fun r => zaK none r.snd) (5, bs1)) ≠ none) ∧ r = ([D.dat (Dat.val ((zcl ((fun r => zaK none r.snd) (5, bs1))).getD (Value.string ByteArray.empty))), D.dat (B true)], [], [])) : zam cfg kk (den cfg kk) 24 Go.Proofs.Tryd.f24 [.dat (Dat.lst b es)] [] [] = some r := by
 rcases Bool.eq_false_or_eq_true (decide (150 < (es.length : Int))) with d1 | d1
 · have oz := q1 d1
   subst oz; exact zab [(8, .back [.ptr (.loc 0) 0] [P7 o1 cs1 rs1 bs1 (-1) 1 full1] []), (12, .ok), (200006, .yes)] (ob d1 ob0) (by kernel_rfl)
 · obtain ⟨hz1, hz2, oz⟩ := q2 d1
   subst oz; exact zab [(8, .back [.ptr (.loc 0) 0] [P7 o1 cs1 rs1 bs1 (-1) 1 full1] []), (12, .ok), (200006, .no)] (ob d1 (ob hz1 (ob hz2 ob0))) (by kernel_rfl)
theorem zqq (kk : Nat) (b : Bool) (es : List Dat) (room nur : Int) (o1 : Int) (cs1 rs1 : List Dat) (full1 : Bool) (out1 : ByteArray) (g15 : Bool) (g20 : Bool) {r : Res} (q1 : (decide (150 < (es.length : Int)) = true) → r = ([D.dat (Dat.val (Value.string (ByteArray.mk #[]))), D.dat (B false), D.dat (B false)], [], [])) (q2 : (decide (150 < (es.length : Int)) = false) → ((!g15) = true) → (den cfg kk 39 [D.dat (I room), D.dat (I 0), D.dat (I 200)] [] [] = some ([D.dat (B g15)], [], [])) ∧ r = ([D.dat (Dat.val (Value.string (ByteArray.mk #[]))), D.dat (B false), D.dat (B false)], [], [])) (q3 : (decide (150 < (es.length : Int)) = false) → ((!g15) = false) → ((!g20) = true) → (den cfg kk 39 [D.dat (I room), D.dat (I 0), D.dat (I 200)] [] [] = some ([D.dat (B g15)], [], [])) ∧ (den cfg kk 39 [D.dat (I nur), D.dat (I 1), D.dat (I 200)] [] [] = some ([D.dat (B g20)], [], [])) ∧ r = ([D.dat (Dat.val (Value.string (ByteArray.mk #[]))), D.dat (B false), D.dat (B false)], [], [])) (q4 : (decide (150 < (es.length : Int)) = false) → ((!g15) = false) → ((!g20) = false) → (den cfg kk 39 [D.dat (I room), D.dat (I 0), D.dat (I 200)] [] [] = some ([D.dat (B g15)], [], [])) ∧ (den cfg kk 39 [D.dat (I nur), D.dat (I 1), D.dat (I 200)] [] [] = some ([D.dat (B g20)], [], [])) ∧ (den cfg kk 51 [D.ptr (Ref.up 0) 0, D.dat (Dat.lst b es)] [[D.dat (I 0), D.own 97 [], D.own 3 [], D.dat (I room), D.dat (I nur), D.dat (B false), D.dat (B false), D.dat (Dat.val (Value.string ByteArray.empty))]] [] = some ([], [[D.dat (I o1), D.own 97 cs1, D.own 3 rs1, D.dat (I room), D.dat (I nur), D.dat (B false), D.dat (B full1), D.dat (Dat.val (Value.string out1))]], [])) ∧ r = ([D.dat (Dat.val (Value.string out1)), D.dat (B full1), D.dat (B true)], [], [])) : zam cfg kk (den cfg kk) 25 Go.Proofs.Tryd.f25 [.dat (Dat.lst b es), .dat (I room), .dat (I nur)] [] [] = some r := by
 rcases Bool.eq_false_or_eq_true (decide (150 < (es.length : Int))) with d1 | d1
 · have oz := q1 d1
   subst oz; exact zab [(29, .back [] [L7 o1 cs1 rs1 room nur false full1 out1] []), (15, .ret [.dat (B g15)]), (20, .ret [.dat (B g20)]), (200013, .yes)] (ob d1 (ob (rfl : true = true) (ob (rfl : true = true) ob0))) (by kernel_rfl)
 · rcases Bool.eq_false_or_eq_true ((!g15)) with d5 | d5
   · obtain ⟨hz1, oz⟩ := q2 d1 d5
     subst oz; exact zab [(29, .back [] [L7 o1 cs1 rs1 room nur false full1 out1] []), (15, .ret [.dat (B g15)]), (20, .ret [.dat (B g20)]), (200013, .no), (200018, .yes)] (ob d1 (ob (rfl : false = false) (ob hz1 (ob (rfl : false = false) (ob d5 (ob (rfl : true = true) (ob (rfl : true = true) ob0))))))) (by kernel_rfl)
   · rcases Bool.eq_false_or_eq_true ((!g20)) with d9 | d9
     · obtain ⟨hz1, hz2, oz⟩ := q3 d1 d5 d9
       subst oz; exact zab [(29, .back [] [L7 o1 cs1 rs1 room nur false full1 out1] []), (15, .ret [.dat (B g15)]), (20, .ret [.dat (B g20)]), (200013, .no), (200018, .no), (200022, .yes)] (ob d1 (ob (rfl : false = false) (ob hz1 (ob (rfl : false = false) (ob d5 (ob (rfl : false = false) (ob hz2 (ob (rfl : false = false) (ob d9 ob0))))))))) (by kernel_rfl)
     · obtain ⟨hz1, hz2, hz3, oz⟩ := q4 d1 d5 d9
       subst oz; exact zab [(29, .back [] [L7 o1 cs1 rs1 room nur false full1 out1] []), (15, .ret [.dat (B g15)]), (20, .ret [.dat (B g20)]), (200013, .no), (200018, .no), (200022, .no)] (ob d1 (ob (rfl : false = false) (ob hz1 (ob (rfl : false = false) (ob d5 (ob (rfl : false = false) (ob hz2 (ob (rfl : false = false) (ob d9 (ob hz3 (ob (rfl : false = false) ob0))))))))))) (by kernel_rfl)
theorem zqj (kk : Nat) (b : Bool) (es : List Dat) (room nur : Int) (o1 : Int) (cs1 rs1 bs1 : List Dat) (full1 : Bool) {r : Res} (q1 : (decide (150 < (es.length : Int)) = true) → r = ([D.dat (Dat.val (Value.string (ByteArray.mk #[]))), D.dat (B false), D.dat (B false)], [], [])) (q2 : (decide (150 < (es.length : Int)) = false) → (decide (room < 0) = true) → r = ([D.dat (Dat.val (Value.string (ByteArray.mk #[]))), D.dat (B false), D.dat (B false)], [], [])) (q3 : (decide (150 < (es.length : Int)) = false) → (decide (room < 0) = false) → (decide (200 < room) = true) → r = ([D.dat (Dat.val (Value.string (ByteArray.mk #[]))), D.dat (B false), D.dat (B false)], [], [])) (q4 : (decide (150 < (es.length : Int)) = false) → (decide (room < 0) = false) → (decide (200 < room) = false) → (decide (nur < 1) = true) → r = ([D.dat (Dat.val (Value.string (ByteArray.mk #[]))), D.dat (B false), D.dat (B false)], [], [])) (q5 : (decide (150 < (es.length : Int)) = false) → (decide (room < 0) = false) → (decide (200 < room) = false) → (decide (nur < 1) = false) → (decide (200 < nur) = true) → r = ([D.dat (Dat.val (Value.string (ByteArray.mk #[]))), D.dat (B false), D.dat (B false)], [], [])) (q6 : (decide (150 < (es.length : Int)) = false) → (decide (room < 0) = false) → (decide (200 < room) = false) → (decide (nur < 1) = false) → (decide (200 < nur) = false) → (den cfg kk 52 [D.dat (Dat.lst b es), D.dat (I room), D.dat (I nur)] [] [] = some ([D.ptr (Ref.loc 0) 0], [[D.dat (I o1), D.own 97 cs1, D.own 3 rs1, D.own 5 bs1, D.dat (I room), D.dat (I nur), D.dat (B full1)]], [])) ∧ (zcl ((fun r => zaK none r.snd) (5, bs1)) ≠ none) ∧ r = ([D.dat (Dat.val ((zcl ((fun r => zaK none r.snd) (5, bs1))).getD (Value.string ByteArray.empty))), D.dat (B full1), D.dat (B true)], [], [])) : zam cfg kk (den cfg kk) 26 Go.Proofs.Tryd.f26 [.dat (Dat.lst b es), .dat (I room), .dat (I nur)] [] [] = some r := by
 rcases Bool.eq_false_or_eq_true (decide (150 < (es.length : Int))) with d1 | d1
 · have oz := q1 d1
   subst oz; exact zab [(32, .back [.ptr (.loc 0) 0] [P7 o1 cs1 rs1 bs1 room nur full1] []), (37, .ok), (200013, .yes)] (ob d1 (ob (rfl : true = true) ob0)) (by kernel_rfl)
 · rcases Bool.eq_false_or_eq_true (decide (room < 0)) with d3 | d3
   · have oz := q2 d1 d3
     subst oz; exact zab [(32, .back [.ptr (.loc 0) 0] [P7 o1 cs1 rs1 bs1 room nur full1] []), (37, .ok), (200013, .no), (200017, .yes)] (ob d1 (ob (rfl : false = false) (ob d3 (ob (rfl : true = true) ob0)))) (by kernel_rfl)
   · rcases Bool.eq_false_or_eq_true (decide (200 < room)) with d5 | d5
     · have oz := q3 d1 d3 d5
       subst oz; exact zab [(32, .back [.ptr (.loc 0) 0] [P7 o1 cs1 rs1 bs1 room nur full1] []), (37, .ok), (200013, .no), (200017, .no), (200021, .yes)] (ob d1 (ob (rfl : false = false) (ob d3 (ob (rfl : false = false) (ob d5 (ob (rfl : true = true) ob0)))))) (by kernel_rfl)
     · rcases Bool.eq_false_or_eq_true (decide (nur < 1)) with d7 | d7
       · have oz := q4 d1 d3 d5 d7
         subst oz; exact zab [(32, .back [.ptr (.loc 0) 0] [P7 o1 cs1 rs1 bs1 room nur full1] []), (37, .ok), (200013, .no), (200017, .no), (200021, .no), (200025, .yes)] (ob d1 (ob (rfl : false = false) (ob d3 (ob (rfl : false = false) (ob d5 (ob (rfl : false = false) (ob d7 (ob (rfl : true = true) ob0)))))))) (by kernel_rfl)
       · rcases Bool.eq_false_or_eq_true (decide (200 < nur)) with d9 | d9
         · have oz := q5 d1 d3 d5 d7 d9
           subst oz; exact zab [(32, .back [.ptr (.loc 0) 0] [P7 o1 cs1 rs1 bs1 room nur full1] []), (37, .ok), (200013, .no), (200017, .no), (200021, .no), (200025, .no), (200028, .yes)] (ob d1 (ob (rfl : false = false) (ob d3 (ob (rfl : false = false) (ob d5 (ob (rfl : false = false) (ob d7 (ob (rfl : false = false) (ob d9 ob0))))))))) (by kernel_rfl)
         · obtain ⟨hz1, hz2, oz⟩ := q6 d1 d3 d5 d7 d9
           subst oz; exact zab [(32, .back [.ptr (.loc 0) 0] [P7 o1 cs1 rs1 bs1 room nur full1] []), (37, .ok), (200013, .no), (200017, .no), (200021, .no), (200025, .no), (200028, .no)] (ob d1 (ob (rfl : false = false) (ob d3 (ob (rfl : false = false) (ob d5 (ob (rfl : false = false) (ob d7 (ob (rfl : false = false) (ob d9 (ob hz1 (ob hz2 ob0))))))))))) (by kernel_rfl)
end Go.Den
namespace Go.Den
open Go
set_option linter.unusedVariables false
set_option maxRecDepth 100000
structure Og (h : Hp) : Prop where
 g : Hg h
 ns : h.ns = []
 low : ∀ i : Int, 0 ≤ i → i < (h.cs.length : Int) → (cg h.cs i).l = false → (cg h.cs i).a < i ∧ (cg h.cs i).b < i
abbrev HD (b : Bool) (h : Hp) : Dat := Hd b h.o (CD h.cs) (ID h.rs)
abbrev H3 (h : Hp) : D := .seq false [.dat (I h.o), .own 97 (CD h.cs), .own 3 (ID h.rs)]
theorem zay (h : Hp) : D.cleans [H3 h] = true := by
 simp only [D.cleans, D.clean, zkI, zhy, Bool.and_self, Dat.clean]
def KSrc (ks : List Bool) (h : Hp) (i : Int) : Prop := (0 ≤ i ∧ K ks i) ∨ i ∈ h.rs
noncomputable def zjt (ks : List Bool) (h : Hp) : List Bool := zfk h.cs.length (Rch h.cs (fun _ => True) (KSrc ks h))
theorem zpE {i : Nat} (h : i ≤ 1000000) : w64 ((i : Int) - 1) = (i : Int) - 1 := zbn (by omega)
theorem zkl (b : Bool) (h : Hp) (o : Og h) (ks : List Bool) (hk : ks.length = h.cs.length) : EvN 300 128 [.dat (HD b h), .own 4 (BD ks)] [] [] ([.own 4 (BD (zjt ks h))], [], []) := by
 refine zaO Go.Proofs.Tryd.f128 299 (by kernel_rfl) (by kernel_rfl) fun kk hkk => ?_
 have g := o.g
 have hcl := g.clen
 have hrl := g.rlen
 have hlc : (CD h.cs).length = h.cs.length := by simp
 have hlr : (ID h.rs).length = h.rs.length := by simp
 obtain ⟨l0, hP0, la⟩ := zc9 (kk := kk) (f := 128) (fn := Go.Proofs.Tryd.f128) (r := 2) (x := .exit 0) (fun i (l : List Bool) => zgG b h.o (CD h.cs) (ID h.rs) (BD l) (i : Int))
  (fun l => Nm [1, 2] [.own 4 (BD l), .ptr (.loc 2) 0] [none, Hb b h.o (CD h.cs) (ID h.rs)] [] [])
  (fun i l => l.length = h.cs.length ∧ ∀ j : Int, 0 ≤ j → (K l j ↔ K ks j ∨ j ∈ h.rs.take i)) h.rs.length (by omega) ks ⟨hk, fun j _ => by simp⟩
  (fun i l hi hP => by
   obtain ⟨x, hx⟩ := zgM hi
   have hxm := g.rin x (List.mem_of_getElem? hx)
   have hxl : 0 ≤ x ∧ x < (l.length : Int) := ⟨hxm.1, by have := hP.1; omega⟩
   refine ⟨l.set x.toNat true, ⟨by simp [hP.1], fun j hj => ?_⟩, fun q s K hs hn => zmQ kk q b h.o _ _ _ i x (l.getD x.toNat false) hs (fun _ => ⟨znD hx, by rw [zfY]; exact hxl, (zfb hxl.1 hxl.2).2, fun s' hs' => hn s' ?_⟩) (fun d => absurd (of_decide_eq_false d) (by omega))⟩
   · rw [zmF hxl.1 hxl.2 j hj, hP.2 j hj, List.take_add_one, hx]
     simp only [Option.toList_some, List.mem_append, List.mem_singleton]
     constructor
     · rintro (e | e | e)
       · exact .inr (.inr e)
       · exact .inl e
       · exact .inr (.inl e)
     · rintro (e | e | e)
       · exact .inr (.inl e)
       · exact .inr (.inr e)
       · exact .inl e
   · rw [hs', wi i (by omega), zfn]
     rfl)
  (fun l _ q s K hs hK => zmQ kk q b h.o _ _ _ _ 0 true hs (fun d => absurd (of_decide_eq_true d) (by omega)) (fun _ => hK))
  (s0 := zgG b h.o (CD h.cs) (ID h.rs) (BD ks) 0) rfl
 have h0 : ∀ j : Int, 0 ≤ j → (K l0 j ↔ KSrc ks h j) := fun j hj => by
  rw [hP0.2 j hj, List.take_length]
  exact ⟨fun e => e.elim (fun e => .inl ⟨hj, e⟩) .inr, fun e => e.elim (fun e => .inl e.2) .inr⟩
 obtain ⟨⟨l1, i1⟩, hP1, hf1, lb⟩ := zdB (kk := kk) (f := 128) (fn := Go.Proofs.Tryd.f128) (r := 7) (x := .exit 2) (fun (p : List Bool × Int) => zgp b h.o (CD h.cs) (ID h.rs) (BD p.1) p.2) (fun p => Nm [1] [.own 4 (BD p.1)] [none] [] [])
  (fun p => p.1.length = h.cs.length ∧ (-1 ≤ p.2 ∧ p.2 < (h.cs.length : Int)) ∧ (∀ j : Int, 0 ≤ j → K l0 j → K p.1 j) ∧ (∀ j : Int, 0 ≤ j → K p.1 j → Rch h.cs (fun _ => True) (KSrc ks h) j) ∧ (∀ j : Int, 0 ≤ j → p.2 < j → K p.1 j → (cg h.cs j).l = false → K p.1 (cg h.cs j).a ∧ K p.1 (cg h.cs j).b))
  (fun p => p.2 < 0) (fun p => (p.2 + 1).toNat) (l0, (h.cs.length : Int) - 1) (by show ((h.cs.length : Int) - 1 + 1).toNat < kk; omega)
  ⟨hP0.1, by show (-1 : Int) ≤ (h.cs.length : Int) - 1 ∧ _; omega, fun _ _ e => e, fun j hj e => .src ((h0 j hj).1 e), fun j hj hlt e => absurd (show j < (l0.length : Int) from K_lt hj e) (by have := hP0.1; have : (h.cs.length : Int) - 1 < j := hlt; omega)⟩
  (fun p hP => by
   obtain ⟨l, i⟩ := p
   obtain ⟨hl, hi, hs0, hr0, hc0⟩ := hP
   have hl : l.length = h.cs.length := hl
   have hi : -1 ≤ i ∧ i < (h.cs.length : Int) := hi
   by_cases hlt : i < 0
   · exact .inl hlt
   have hin : 0 ≤ i ∧ i < (h.cs.length : Int) := ⟨by omega, hi.2⟩
   have hil : i < (l.length : Int) := by omega
   have hgi := zfb hin.1 hil
   have hcd := znd hin.1 hin.2
   have wd : w64 (i - 1) = i - 1 := zbn (by have : i < (h.cs.length : Int) := hi.2; omega)
   cases hki : l.getD i.toNat false with
   | false =>
     rw [hki] at hgi
     refine .inr ⟨(l, i - 1), ⟨hl, by show (-1 : Int) ≤ i - 1 ∧ i - 1 < _; omega, hs0, hr0, fun j hj hlt e hle => ?_⟩, by show (i - 1 + 1).toNat < (i + 1).toNat; omega, fun q s K hs hn => zhu kk q b h.o _ _ _ i (cg h.cs i) false false false hs (fun _ d => by cases d) (fun _ d => by cases d) (fun _ _ => ⟨hcd, ⟨hin.1, by rw [zfY]; exact hil⟩, hgi.2, fun s' hs' => hn s' (by rw [hs', wd]; rfl)⟩) (fun d => absurd (of_decide_eq_false d) (by omega))⟩
     have hlt : i - 1 < j := hlt
     by_cases hji : j = i
     · subst hji
       unfold Go.Den.K at e
       rw [hki] at e
       cases e
     · exact hc0 j hj (by show i < j; omega) e hle
   | true =>
     rw [hki] at hgi
     have hKi : Go.Den.K l i := hki
     cases hle : (cg h.cs i).l with
     | true =>
       refine .inr ⟨(l, i - 1), ⟨hl, by show (-1 : Int) ≤ i - 1 ∧ i - 1 < _; omega, hs0, hr0, fun j hj hlt e hle2 => ?_⟩, by show (i - 1 + 1).toNat < (i + 1).toNat; omega, fun q s K hs hn => zhu kk q b h.o _ _ _ i (cg h.cs i) true false false hs (fun _ _ d => by rw [hle] at d; cases d) (fun _ _ _ => ⟨hcd, ⟨hin.1, by rw [zfY]; exact hil⟩, hgi.2, fun s' hs' => hn s' (by rw [hs', wd]; rfl)⟩) (fun _ d => by cases d) (fun d => absurd (of_decide_eq_false d) (by omega))⟩
       have hlt : i - 1 < j := hlt
       by_cases hji : j = i
       · subst hji
         rw [hle] at hle2
         cases hle2
       · exact hc0 j hj (by show i < j; omega) e hle2
     | false =>
       obtain ⟨⟨a0, a1⟩, b0, b1⟩ := g.wf i hin.1 hin.2 hle
       obtain ⟨la0, lb0⟩ := o.low i hin.1 hin.2 hle
       have ga := zfb (ks := l) a0 (by omega)
       have hl2 : (l.set (cg h.cs i).a.toNat true).length = l.length := by simp
       have gb := zfb (ks := l.set (cg h.cs i).a.toNat true) b0 (by omega)
       have hset : ∀ j : Int, 0 ≤ j → (Go.Den.K ((l.set (cg h.cs i).a.toNat true).set (cg h.cs i).b.toNat true) j ↔ j = (cg h.cs i).b ∨ j = (cg h.cs i).a ∨ Go.Den.K l j) := fun j hj => by
        rw [zmF b0 (by omega) j hj, zmF a0 (by omega) j hj]
       refine .inr ⟨((l.set (cg h.cs i).a.toNat true).set (cg h.cs i).b.toNat true, i - 1), ⟨by simp [hl], by show (-1 : Int) ≤ i - 1 ∧ i - 1 < _; omega, fun j hj e => (hset j hj).2 (.inr (.inr (hs0 j hj e))), fun j hj e => ?_, fun j hj hlt e hle2 => ?_⟩, by show (i - 1 + 1).toNat < (i + 1).toNat; omega,
        fun q s K hs hn => zhu kk q b h.o _ _ _ i (cg h.cs i) true (l.getD (cg h.cs i).a.toNat false) ((l.set (cg h.cs i).a.toNat true).getD (cg h.cs i).b.toNat false) hs (fun _ _ _ => ⟨hcd, ⟨hin.1, by rw [zfY]; exact hil⟩, hgi.2, by rw [zfY]; omega, ga.2, by rw [zfn, zfY, hl2]; omega, by rw [zfn]; exact gb.2, fun s' hs' => hn s' (by rw [hs', wd, zfn, zfn]; rfl)⟩) (fun _ _ d => by rw [hle] at d; cases d) (fun _ d => by cases d) (fun d => absurd (of_decide_eq_false d) (by omega))⟩
       · rcases (hset j hj).1 e with rfl | rfl | e
         · exact .b (hr0 i hin.1 hKi) trivial hle
         · exact .a (hr0 i hin.1 hKi) trivial hle
         · exact hr0 j hj e
       · have hlt : i - 1 < j := hlt
         have hjl := K_lt hj e
         have hjl : j < (h.cs.length : Int) := by simp at hjl; omega
         obtain ⟨⟨ja0, _⟩, jb0, _⟩ := g.wf j hj hjl hle2
         by_cases hji : j = i
         · subst hji
           exact ⟨(hset _ ja0).2 (.inr (.inl rfl)), (hset _ jb0).2 (.inl rfl)⟩
         · rcases (hset j hj).1 e with rfl | rfl | e
           · omega
           · omega
           · obtain ⟨p, q⟩ := hc0 j hj (by show i < j; omega) e hle2
             exact ⟨(hset _ ja0).2 (.inr (.inr p)), (hset _ jb0).2 (.inr (.inr q))⟩)
  (fun p hP hf q s K hs hK => by
   have hf : p.2 < 0 := hf
   exact zhu kk q b h.o _ _ _ _ c0 true true true hs (fun d => absurd (of_decide_eq_true d) (by omega)) (fun d => absurd (of_decide_eq_true d) (by omega)) (fun d => absurd (of_decide_eq_true d) (by omega)) (fun _ => hK))
  (s0 := zgp b h.o (CD h.cs) (ID h.rs) (BD l0) (w64 (((CD h.cs).length : Int) - 1))) (by rw [hlc, zpE (by omega)])
 obtain ⟨hl, hi, hs0, hr0, hc0⟩ := hP1
 have hl : l1.length = h.cs.length := hl
 have hi1 : i1 < 0 := hf1
 have hfin : l1 = zjt ks h := by
  refine zp8 (by rw [hl]; exact (zaU _ _).symm) fun j hj => ?_
  unfold zjt
  rw [zb4 hj]
  constructor
  · intro e
    exact ⟨by have := K_lt hj e; omega, hr0 j hj e⟩
  · rintro ⟨_, hr⟩
    refine (Rch.in_ g.wf (k := l1) (fun x hx => ?_) (fun x hx e _ hle => hc0 x hx (by show i1 < x; omega) e hle) hr).2.2
    have hx0 : 0 ≤ x ∧ x < (h.cs.length : Int) := hx.elim (fun e => ⟨e.1, by have := K_lt e.1 e.2; omega⟩) (fun e => g.rin x e)
    exact ⟨hx0.1, hx0.2, hs0 x hx0.1 ((h0 x hx0.1).2 hx)⟩
 rw [← hfin]
 exact keepS kk b h.o _ _ (BD ks) (BD l0) (BD l1) ⟨la, lb, rfl⟩
end Go.Den
namespace Go.Den
open Go
set_option linter.unusedVariables false
set_option maxRecDepth 100000
theorem zoF {m : List Bool} {n i : Nat} {t : List Int} (h : TbP m n i t) {j : Int} (h0 : 0 ≤ j) (hi : j < (i : Int)) (hin : i ≤ n) (hk : K m j) : (0 ≤ j ∧ j < ((ID t).length : Int)) ∧ (ID t)[j.toNat]? = some (I (cnt m j)) := by
 obtain ⟨j, rfl⟩ := Int.eq_ofNat_of_zero_le h0
 have hj : j < i := by omega
 have := zml (zs := t) (i := j) (by have := h.1; omega)
 rw [h.2 j hj hk] at this
 exact this
theorem zjs {m : List Bool} {c : List Cl} (hm : m.length = c.length) (i : Nat) : ((CD (mvCs m (c.take i) (m.take i))).length : Int) = cnt m (i : Int) := by
 rw [show (CD (mvCs m (c.take i) (m.take i))).length = (mvCs m (c.take i) (m.take i)).length by simp, zgt m _ _ (by simp [List.length_take, hm])]
 rfl
theorem zkw (b kb : Bool) (h : Hp) (o : Og h) (m : List Bool) (hm : m.length = h.cs.length) (hsh : Shut m h.cs) (hr : ∀ x ∈ h.rs, K m x) : EvN 300 127 [.dat (HD b h), .dat (.lst kb (BD m))] [] [] ([H3 (mvH m h)], [], []) := by
 refine zaO Go.Proofs.Tryd.f127 299 (by kernel_rfl) (by kernel_rfl) fun kk hkk => ?_
 have g := o.g
 have hcl := g.clen
 have hrl := g.rlen
 have hlc : (CD h.cs).length = h.cs.length := by simp
 have hlb : (BD m).length = m.length := by simp
 have hlr : (ID h.rs).length = h.rs.length := by simp
 obtain ⟨t, ht, la⟩ := zc9 (kk := kk) (f := 127) (fn := Go.Proofs.Tryd.f127) (r := 4) (x := .exit 0) (fun i (t : List Int) => zgi b h.o (CD h.cs) (ID h.rs) kb (BD m) (ID t) (CD (mvCs m (h.cs.take i) (m.take i))) (i : Int))
  (fun t => Nm [2, 4, 5, 6] [.ptr (.loc 2) 0, .ptr (.loc 4) 0, .own 3 (ID t), .ptr (.loc 6) 0] [Hb b h.o (CD h.cs) (ID h.rs), some (Ho 0 [] []), none, some (Ho 0 (CD (mvCs m h.cs m)) [])] [] [])
  (TbP m m.length) m.length (by omega) (List.replicate m.length 0) ⟨by simp, fun j hj => by omega⟩
  (fun i t hi hP => by
   have hb := zlQ hi
   have hmi := getM hi
   have ht := hP.1
   have hti := zml (zs := t) (i := i) (by omega)
   obtain ⟨x, hx⟩ := zgM (show i < h.cs.length by omega)
   have hxd := ih (gm (f := Cl.d) hx)
   have hlim := zoD (m := m) (c := h.cs) (i := i) (by omega)
   have hcx : cg h.cs (i : Int) = x := zh5 (by rw [Int.toNat_natCast]; exact hx)
   have hal := zjs (c := h.cs) hm i
   cases hk : m.getD i false with
   | false =>
     rw [hk] at hb hmi
     have hnk : ¬ K m (i : Int) := fun h => by rw [K_nat, hk] at h; cases h
     refine ⟨_, hP.skip hnk, fun q s K hs hn => zhp kk q b h.o _ _ kb _ _ _ i x false 0 0 0 hs (fun _ _ => ⟨hxd, hb, fun s' hs' => hn s' ?_⟩) (fun _ d => by cases d) (fun _ d => by cases d) (fun d => absurd (of_decide_eq_false d) (by omega))⟩
     rw [hs', wi i (by omega), ← zm2 hm.symm hx hmi]
     rfl
   | true =>
     rw [hk] at hb hmi
     cases hl : x.l with
     | true =>
       refine ⟨_, hP.set hi, fun q s K hs hn => zhp kk q b h.o _ _ kb _ _ _ i x true 0 (t.getD i 0) 0 hs (fun _ d => by cases d) (fun _ _ d => by rw [hl] at d; cases d) (fun _ _ _ => ⟨hxd, hb, hti.1, hti.2, hlim, fun s' hs' => hn s' ?_⟩) (fun d => absurd (of_decide_eq_false d) (by omega))⟩
       rw [hs', wi i (by omega), Int.toNat_natCast, hal, zki, zj0 hl, zhi hm.symm hx hmi]
       rfl
     | false =>
       obtain ⟨⟨a0, a1⟩, b0, b1⟩ := hsh i (K_nat.2 hk) (by rw [hcx]; exact hl)
       obtain ⟨lo1, lo2⟩ := o.low i (by omega) (by omega) (by rw [hcx]; exact hl)
       rw [hcx] at a0 a1 b0 b1 lo1 lo2
       have ta := zoF hP a0 lo1 (by omega) a1
       have tb := zoF hP b0 lo2 (by omega) b1
       refine ⟨_, hP.set hi, fun q s K hs hn => zhp kk q b h.o _ _ kb _ _ _ i x true (cnt m x.a) (t.getD i 0) (cnt m x.b) hs (fun _ d => by cases d) (fun _ _ _ => ⟨hxd, hb, ta.1, ta.2, tb.1, tb.2, hti.1, hti.2, hlim, fun s' hs' => hn s' ?_⟩) (fun _ _ d => by rw [hl] at d; cases d) (fun d => absurd (of_decide_eq_false d) (by omega))⟩
       rw [hs', wi i (by omega), Int.toNat_natCast, hal, zki, zj3 hl, zhi hm.symm hx hmi]
       rfl)
  (fun t _ q s K hs hK => zhp kk q b h.o _ _ kb _ _ _ _ c0 true 0 0 0 hs (fun d => absurd (of_decide_eq_true d) (by omega)) (fun d => absurd (of_decide_eq_true d) (by omega)) (fun d => absurd (of_decide_eq_true d) (by omega)) (fun _ => by
   rw [List.take_length, show m.length = h.cs.length from hm, List.take_length]; exact hK))
  (s0 := zgi b h.o (CD h.cs) (ID h.rs) kb (BD m) (List.replicate (CD h.cs).length (I 0)) [] 0) (by rw [show (CD h.cs).length = m.length by omega, zoG]; simp [mvCs])
 have htb : Tb m m.length t := ht.done rfl
 have lc := zb2 (kk := kk) (f := 127) (fn := Go.Proofs.Tryd.f127) (r := 14) (x := .exit 2) (s' := Nm [4, 6] [.ptr (.loc 4) 0, .ptr (.loc 6) 0] [some (Ho 0 [] []), some (Ho 0 (CD (mvCs m h.cs m)) (ID (h.rs.map (cnt m))))] [] [])
  (fun i => zgj b h.o (CD h.cs) (ID h.rs) (ID t) (CD (mvCs m h.cs m)) (ID ((h.rs.take i).map (cnt m))) i) h.rs.length (by omega)
  (fun i hi q s K hs hn => by
   obtain ⟨x, hx⟩ := zgM hi
   have hxm := List.mem_of_getElem? hx
   have tx := zn9 htb rfl (g.rin x hxm).1 (hr x hxm)
   refine znk kk q b h.o _ _ _ _ _ i x (cnt m x) hs (fun _ => ⟨znD hx, tx.1, tx.2, by simp; omega, fun s' hs' => hn s' ?_⟩) (fun d => absurd (of_decide_eq_false d) (by omega))
   rw [hs', wi i (by omega), zng m hx]
   rfl)
  (fun q s K hs hK => znk kk q b h.o _ _ _ _ _ _ 0 0 hs (fun d => absurd (of_decide_eq_true d) (by omega)) (fun _ => by rw [List.take_length]; exact hK))
  (s0 := zgj b h.o (CD h.cs) (ID h.rs) (ID t) (CD (mvCs m h.cs m)) [] 0) (by simp)
 refine move7 kk b h.o _ _ kb _ (ID t) (CD (mvCs m h.cs m)) (ID (h.rs.map (cnt m))) ⟨⟨by omega, by omega, by omega⟩, la, lc, ?_⟩
 have := zjs (c := h.cs) hm m.length
 rw [List.take_length, hm, List.take_length, ← hm] at this
 rw [this]
 rfl
noncomputable def minL (h : Hp) : List Bool := zfk h.cs.length (Rch h.cs (fun _ => True) fun i => (0 ≤ i ∧ i < h.o) ∨ i ∈ h.rs)
noncomputable def minH (h : Hp) : Hp := mvH (minL h) h
theorem zl1 (h : Hp) : zjt (List.replicate h.cs.length false) h = zeQ h := by
 unfold zjt zeQ
 congr 2
 funext i
 exact propext ⟨fun e => e.elim (fun e => absurd e.2 (znz _ _)) id, .inr⟩
theorem zob {ks : List Bool} {h : Hp} (hk : ∀ j : Int, 0 ≤ j → (K ks j ↔ j < h.o)) : zjt ks h = minL h := by
 unfold zjt minL
 congr 2
 funext i
 exact propext ⟨fun e => e.elim (fun e => .inl ⟨e.1, (hk i e.1).1 e.2⟩) .inr, fun e => e.elim (fun e => .inl ⟨e.1, (hk i e.1).2 e.2⟩) .inr⟩
theorem ze4 {h : Hp} (g : Hg h) : Shut (minL h) h.cs := fun i hk hl => by
 obtain ⟨hi, hr⟩ := (zb4 (Int.natCast_nonneg i)).1 hk
 obtain ⟨⟨a0, a1⟩, b0, b1⟩ := g.wf i (Int.natCast_nonneg i) hi hl
 exact ⟨⟨a0, (zb4 a0).2 ⟨a1, .a hr trivial hl⟩⟩, b0, (zb4 b0).2 ⟨b1, .b hr trivial hl⟩⟩
theorem zeW {h : Hp} (g : Hg h) : ∀ x ∈ h.rs, K (minL h) x := fun x hx => (zb4 (g.rin x hx).1).2 ⟨(g.rin x hx).2, .src (.inr hx)⟩
theorem zg6 {m : List Bool} {y : Cl} : ∀ {c : List Cl} {l : List Bool} {p : Nat}, (mvCs m c l)[p]? = some y → ∃ (i : Nat) (x : Cl), c[i]? = some x ∧ l[i]? = some true ∧ y = mvC m x ∧ p = (l.take i).count true
 | [], l, p, h => by simp [mvCs] at h
 | x :: c, [], p, h => by simp [mvCs] at h
 | x :: c, b :: l, p, h => by
   unfold mvCs at h
   cases b with
   | false =>
     obtain ⟨i, x', h1, h2, h3, h4⟩ := zg6 (c := c) (l := l) (p := p) h
     exact ⟨i + 1, x', h1, h2, h3, by simpa using h4⟩
   | true =>
     cases p with
     | zero => cases h; exact ⟨0, x, rfl, rfl, rfl, rfl⟩
     | succ p =>
       obtain ⟨i, x', h1, h2, h3, h4⟩ := zg6 (c := c) (l := l) (p := p) h
       exact ⟨i + 1, x', h1, h2, h3, by simp [h4]⟩
theorem zkD {m : List Bool} {x : Int} {i : Nat} (h0 : 0 ≤ x) (hx : x < (i : Int)) (hi : i ≤ m.length) (hk : K m x) : cnt m x < cnt m (i : Int) := by
 obtain ⟨x, rfl⟩ := Int.eq_ofNat_of_zero_le h0
 have h1 := zj5 m x (by omega) hk
 have h2 := zhg m (show x + 1 ≤ i by omega)
 omega
theorem zoB {h : Hp} (o : Og h) {m : List Bool} (hm : m.length = h.cs.length) (hs : Shut m h.cs) (hr : ∀ x ∈ h.rs, K m x) : Og (mvH m h) := by
 refine ⟨zpL o.g hm hs hr, rfl, fun p h0 hp hl => ?_⟩
 obtain ⟨i, x, h1, h2, h3, h4⟩ := zg6 (zn2 h0 hp)
 have hi := (List.getElem?_eq_some_iff.1 h2).1
 have h3 : cg (mvH m h).cs p = mvC m x := h3
 rw [h3] at hl ⊢
 have hxl : x.l = false := by
  unfold mvC at hl
  split at hl
  · exact hl
  · exact hl
 have hcx : cg h.cs (i : Int) = x := zh5 (by rw [Int.toNat_natCast]; exact h1)
 have hk : K m (i : Int) := by rw [K_nat, List.getD_eq_getElem?_getD, h2]; rfl
 obtain ⟨⟨a0, a1⟩, b0, b1⟩ := hs i hk (by rw [hcx]; exact hxl)
 obtain ⟨lo1, lo2⟩ := o.low i (by omega) (by omega) (by rw [hcx]; exact hxl)
 rw [hcx] at a0 a1 b0 b1 lo1 lo2
 have hpc : p = cnt m (i : Int) := by
  unfold cnt
  rw [Int.toNat_natCast]
  omega
 unfold mvC
 rw [if_neg (by rw [hxl]; decide), hpc]
 exact ⟨zkD a0 lo1 (by omega) a1, zkD b0 lo2 (by omega) b1⟩
theorem zjG {h : Hp} (o : Og h) : Og (zbo h) := zoB o (zaU _ _) (zdS o.g) (zdJ o.g)
theorem zgl {h : Hp} (o : Og h) : Og (minH h) := zoB o (zaU _ _) (ze4 o.g) (zeW o.g)
theorem zhv (b : Bool) (h : Hp) (o : Og h) : EvN 400 101 [.dat (HD b h)] [] [] ([H3 (zbo h)], [], []) := by
 refine zaO Go.Proofs.Tryd.f101 399 (by kernel_rfl) (by kernel_rfl) fun kk hkk => ?_
 have hcl := o.g.clen
 have hlc : (CD h.cs).length = h.cs.length := by simp
 refine coll7 kk b h.o _ _ (BD (zeQ h)) _ _ _ ⟨⟨by omega, by omega, by omega⟩, ?_, zay (zbo h), zkw b true h o (zeQ h) (zaU _ _) (zdS o.g) (zdJ o.g) kk (by omega), rfl⟩
 have := zkl b h o (List.replicate h.cs.length false) (by simp) kk (by omega)
 rw [zl1, ← zmS] at this
 rw [show ((CD h.cs).length : Int).toNat = h.cs.length by omega]
 exact this
theorem ziG (b : Bool) (h : Hp) (o : Og h) : EvN 400 102 [.dat (HD b h)] [] [] ([H3 (minH h)], [], []) := by
 refine zaO Go.Proofs.Tryd.f102 399 (by kernel_rfl) (by kernel_rfl) fun kk hkk => ?_
 have g := o.g
 have hcl := g.clen
 have hlc : (CD h.cs).length = h.cs.length := by simp
 have ho := Int.toNat_of_nonneg g.o0
 have ho1 := g.o1
 obtain ⟨l0, hP0, la⟩ := zc9 (kk := kk) (f := 102) (fn := Go.Proofs.Tryd.f102) (r := 3) (x := .exit 0) (fun i (l : List Bool) => zk6 b h.o (CD h.cs) (ID h.rs) (BD l) (i : Int))
  (fun l => Nm [1, 2, 3] [.ptr (.loc 1) 0, .ptr (.loc 2) 0, .own 4 (BD l)] [Hb b h.o (CD h.cs) (ID h.rs), some (Ho 0 [] []), none] [] [])
  (fun i l => l.length = h.cs.length ∧ ∀ j : Int, 0 ≤ j → (K l j ↔ j < (i : Int))) h.o.toNat (by omega) (List.replicate h.cs.length false) ⟨by simp, fun j hj => ⟨fun e => absurd e (znz _ _), fun e => by omega⟩⟩
  (fun i l hi hP => by
   have hil : i < l.length := by have := hP.1; omega
   have hb := zfb (ks := l) (i := (i : Int)) (by omega) (by omega)
   refine ⟨l.set i true, ⟨by simp [hP.1], fun j hj => ?_⟩, fun q s K hs hn => zkC kk q b h.o _ _ _ i (l.getD i false) hs (fun _ => ⟨⟨by omega, by rw [zfY]; omega⟩, by simpa using hb.2, fun s' hs' => hn s' ?_⟩) (fun d => absurd (of_decide_eq_false d) (by omega))⟩
   · have := zmF (l := l) (i := (i : Int)) (by omega) (by omega) j hj
     rw [Int.toNat_natCast] at this
     rw [this, hP.2 j hj]
     omega
   · rw [hs', wi i (by omega), Int.toNat_natCast, zfn]
     rfl)
  (fun l _ q s K hs hK => zkC kk q b h.o _ _ _ _ true hs (fun d => absurd (of_decide_eq_true d) (by omega)) (fun _ => hK))
  (s0 := zk6 b h.o (CD h.cs) (ID h.rs) (List.replicate (CD h.cs).length (B false)) 0) (by rw [hlc, zmS]; rfl)
 have hk := zob (ks := l0) (h := h) fun j hj => by rw [hP0.2 j hj, ho]
 have hev := zkl b h o l0 hP0.1 kk (by omega)
 rw [hk] at hev
 exact zp0 kk b h.o _ _ (BD l0) (BD (minL h)) _ _ _ ⟨⟨by omega, by omega, by omega⟩, la, hev, zay (minH h), zkw b true h o (minL h) (zaU _ _) (ze4 g) (zeW g) kk (by omega), rfl⟩
theorem ziC (h : Hp) : D.cleans [D.own 97 (CD h.cs), D.own 3 (ID h.rs)] = true := by
 simp only [D.cleans, D.clean, zkI, zhy, Bool.and_self]
theorem mv_o {h : Hp} {m : List Bool} (hm : m.length = h.cs.length) : ((CD (mvCs m h.cs m)).length : Int) = (mvH m h).o := by
 have := zjs (c := h.cs) hm m.length
 rw [List.take_length, hm, List.take_length, ← hm] at this
 exact this
theorem zfN (b : Bool) (h : Hp) (o : Og h) : EvN 3100 112 [.dat (HD b h)] [] [] ([H3 (zbo h)], [], []) := by
 refine zaO Go.Proofs.Tryd.f112 3099 (by kernel_rfl) (by kernel_rfl) fun kk hkk => ?_
 have g := o.g
 refine zqJ kk b h.o _ _ (BD (zeQ h)) (CD (zbo h).cs) (ID (zbo h).rs) ⟨zhK b b h.cs h.rs g.wf g.clen g.rin (by have := g.rlen; omega) kk (by omega), ziC (zbo h), zmj b true b h g (zeQ h) (zaU _ _) (zdS g) (zdJ g) kk (by omega), ?_⟩
 have := mv_o (h := h) (m := zeQ h) (zaU _ _)
 show _ = ([D.seq false [.dat (I ((CD (mvCs (zeQ h) h.cs (zeQ h))).length : Int)), _, _]], _, _)
 rw [this]
 rfl
def oldN (o : Int) : List Int := (List.range o.toNat).map (fun (i : Nat) => (i : Int))
theorem zjW {o i : Int} (h : 0 ≤ o) : i ∈ oldN o ↔ 0 ≤ i ∧ i < o := by
 unfold oldN
 simp only [List.mem_map, List.mem_range]
 exact ⟨fun ⟨a, h1, h2⟩ => by omega, fun ⟨h1, h2⟩ => ⟨i.toNat, by omega, by omega⟩⟩
theorem zgu (b : Bool) (h : Hp) (o : Og h) : EvN 3100 113 [.dat (HD b h)] [] [] ([H3 (minH h)], [], []) := by
 refine zaO Go.Proofs.Tryd.f113 3099 (by kernel_rfl) (by kernel_rfl) fun kk hkk => ?_
 have g := o.g
 have hcl := g.clen
 have hrl := g.rlen
 have ho := Int.toNat_of_nonneg g.o0
 have ho1 := g.o1
 have la := zb2 (kk := kk) (f := 113) (fn := Go.Proofs.Tryd.f113) (r := 3) (x := .exit 0) (s' := Nm [1, 2, 3] [.ptr (.loc 1) 0, .ptr (.loc 2) 0, .own 3 (ID (h.rs ++ oldN h.o))] [Hb b h.o (CD h.cs) (ID h.rs), some (Ho 0 [] []), none] [] [])
  (fun i => zkX b h.o (CD h.cs) (ID h.rs) (ID (h.rs ++ (List.range i).map (fun (k : Nat) => (k : Int)))) i) h.o.toNat (by omega)
  (fun i hi q s K hs hn => by
   refine zhZ kk q b h.o _ _ _ i hs (fun _ => ⟨by simp; omega, fun s' hs' => hn s' ?_⟩) (fun d => absurd (of_decide_eq_false d) (by omega))
   rw [hs', wi i (by omega), show ID (h.rs ++ (List.range i).map (fun (k : Nat) => (k : Int))) ++ [I (i : Int)] = ID (h.rs ++ (List.range (i + 1)).map (fun (k : Nat) => (k : Int))) by simp [ID, List.range_succ]]
   rfl)
  (fun q s K hs hK => zhZ kk q b h.o _ _ _ _ hs (fun d => absurd (of_decide_eq_true d) (by omega)) (fun _ => hK))
  (s0 := zkX b h.o (CD h.cs) (ID h.rs) (ID h.rs) 0) (by simp)
 have hre := zhK b false h.cs (h.rs ++ oldN h.o) g.wf g.clen (fun x hx => by
  rcases List.mem_append.1 hx with hx | hx
  · exact g.rin x hx
  · have := (zjW g.o0).1 hx; omega) (by simp [oldN]; omega) kk (by omega)
 have hmk : zfk h.cs.length (Rch h.cs (fun _ => True) (· ∈ h.rs ++ oldN h.o)) = minL h := by
  unfold minL
  congr 2
  funext i
  refine propext ?_
  rw [List.mem_append, zjW g.o0]
  exact Or.comm
 rw [hmk] at hre
 refine zpr kk b h.o _ _ (ID h.rs) (ID (h.rs ++ oldN h.o)) (BD (minL h)) (CD (minH h).cs) (ID (minH h).rs) ⟨zfm b h.rs (by omega) kk (by omega), la, hre, ziC (minH h), zmj b true b h g (minL h) (zaU _ _) (ze4 g) (zeW g) kk (by omega), ?_⟩
 have := mv_o (h := h) (m := minL h) (zaU _ _)
 show _ = ([D.seq false [.dat (I ((CD (mvCs (minL h) h.cs (minL h))).length : Int)), _, _]], _, _)
 rw [this]
 rfl
end Go.Den
namespace Go.Den
open Go
open Go.Proofs.YtcmcfebihbmmeaaDoor (num numV atoiV)
set_option linter.unusedVariables false
set_option maxRecDepth 100000
def str (l : List UInt8) : ByteArray := ⟨l.toArray⟩
theorem zb1 (l : List UInt8) : (str l).size = l.length := by simp [str, ByteArray.size]
def txt (c : List Cl) : Nat → Int → List UInt8
 | 0, _ => []
 | d + 1, i => match (cg c i).l with
   | true => Lib.itoa (cg c i).n
   | false => 40 :: (txt c d (cg c i).a ++ 32 :: (txt c d (cg c i).b ++ [41]))
def cut (c : List Cl) : Nat → Int → List UInt8
 | 0, _ => []
 | d + 1, i => match (cg c i).l with
   | true => Lib.itoa (cg c i).n
   | false => match decide (500 < 1 + (cut c d (cg c i).a).length) with
     | true => 40 :: cut c d (cg c i).a
     | false => 40 :: (cut c d (cg c i).a ++ 32 :: (cut c d (cg c i).b ++ [41]))
theorem zjf (c : List Cl) : ∀ (d : Nat) (i : Int), (500 < (cut c d i).length ↔ 500 < (txt c d i).length) ∧ ((txt c d i).length ≤ 500 → cut c d i = txt c d i)
 | 0, i => ⟨Iff.rfl, fun _ => rfl⟩
 | d + 1, i => by
   obtain ⟨a1, a2⟩ := zjf c d (cg c i).a
   obtain ⟨b1, b2⟩ := zjf c d (cg c i).b
   unfold cut txt
   cases (cg c i).l with
   | true => exact ⟨Iff.rfl, fun _ => rfl⟩
   | false =>
     simp only
     by_cases h : 500 < 1 + (cut c d (cg c i).a).length
     · rw [decide_eq_true h]
       simp only [List.length_cons, List.length_append, List.length_nil]
       by_cases h2 : 500 < (txt c d (cg c i).a).length
       · exact ⟨⟨fun _ => by omega, fun _ => by have := a1.2 h2; omega⟩, fun h3 => by omega⟩
       · have := a2 (by omega)
         rw [this] at h ⊢
         exact ⟨⟨fun _ => by omega, fun _ => by omega⟩, fun h3 => by omega⟩
     · rw [decide_eq_false h]
       have h2 : ¬ 500 < (txt c d (cg c i).a).length := fun h3 => by have := a1.2 h3; omega
       rw [a2 (by omega)]
       simp only [List.length_cons, List.length_append, List.length_nil]
       by_cases h4 : 500 < (txt c d (cg c i).b).length
       · have := b1.2 h4
         exact ⟨⟨fun _ => by omega, fun _ => by omega⟩, fun h3 => by omega⟩
       · rw [b2 (by omega)]
         exact ⟨Iff.rfl, fun _ => rfl⟩
theorem zkt {n : Int} (h : In64 n) : (Lib.itoa n).length ≤ 40 ∧ 1 ≤ (Lib.itoa n).length := by
 have := zoq h
 have e : (num n).size = (Lib.itoa n).length := zb1 _
 refine ⟨by omega, ?_⟩
 unfold Lib.itoa
 split
 · simp
 · rw [Lib.decDigits_length]; exact Lib.nDigits_pos _
def Nums (c : List Cl) : Prop := ∀ i : Int, In64 (cg c i).n
theorem zfB {c : List Cl} (hn : Nums c) : ∀ (d : Nat) (i : Int), (cut c d i).length ≤ 600 * (d + 1)
 | 0, i => by simp [cut]
 | d + 1, i => by
   have ha := zfB hn d (cg c i).a
   have hb := zfB hn d (cg c i).b
   have := (zkt (hn i)).1
   unfold cut
   cases (cg c i).l with
   | true => simp only; omega
   | false =>
     simp only
     by_cases h : 500 < 1 + (cut c d (cg c i).a).length
     · rw [decide_eq_true h]; simp only [List.length_cons]; omega
     · rw [decide_eq_false h]; simp only [List.length_cons, List.length_append, List.length_nil]; omega
def Low (c : List Cl) : Prop := ∀ i : Int, 0 ≤ i → i < (c.length : Int) → (cg c i).l = false → (0 ≤ (cg c i).a ∧ (cg c i).a < i) ∧ (0 ≤ (cg c i).b ∧ (cg c i).b < i)
theorem zeZ {c : List Cl} (hl : Low c) : ∀ (d d' : Nat) (i : Int), 0 ≤ i → i < (c.length : Int) → i < (d : Int) → i < (d' : Int) → txt c d i = txt c d' i
 | 0, d', i, h0, _, h1, _ => by omega
 | d + 1, 0, i, h0, _, _, h2 => by omega
 | d + 1, d' + 1, i, h0, hc, h1, h2 => by
   unfold txt
   cases h : (cg c i).l with
   | true => rfl
   | false =>
     obtain ⟨⟨a0, a1⟩, b0, b1⟩ := hl i h0 hc h
     simp only
     rw [zeZ hl d d' _ a0 (by omega) (by omega) (by omega), zeZ hl d d' _ b0 (by omega) (by omega) (by omega)]
theorem znR (l r : List UInt8) : ByteArray.mk #[40] ++ str l ++ ByteArray.mk #[32] ++ str r ++ ByteArray.mk #[41] = str (40 :: (l ++ 32 :: (r ++ [41]))) := by
 apply ByteArray.ext
 simp [str]
theorem zj4 (l : List UInt8) : ByteArray.mk #[40] ++ str l = str (40 :: l) := by
 apply ByteArray.ext
 simp [str]
theorem zg3 (b : Bool) {c : List Cl} (hl : Low c) (hn : Nums c) : ∀ (d : Nat) (i : Int), d ≤ 1000 → 0 ≤ i → i < (c.length : Int) → i < (d : Int) → EvN (d + 1) 100 [.dat (.lst b (CD c)), .dat (I i)] [] [] ([.dat (S (str (cut c d i)))], [], [])
 | 0, i, _, h0, _, h1 => by omega
 | d + 1, i, hd, h0, hc, h1 => by
   refine zaO Go.Proofs.Tryd.f100 (d + 1) (by kernel_rfl) (by kernel_rfl) fun kk hkk => ?_
   have hx := znd h0 hc
   have hca := zfB hn d (cg c i).a
   have hcb := zfB hn d (cg c i).b
   have hsa := zb1 (cut c d (cg c i).a)
   have hsb := zb1 (cut c d (cg c i).b)
   have ho : (ByteArray.mk #[40] ++ str (cut c d (cg c i).a)).size = 1 + (cut c d (cg c i).a).length := by rw [zj4, zb1]; simp; omega
   unfold cut
   cases hle : (cg c i).l with
   | true => exact zoV kk b _ i (cg c i) (num (cg c i).n) default default (fun _ => ⟨hx, znY (hn i) kk (by omega), rfl⟩) (fun d => by rw [hle] at d; cases d) (fun d => by rw [hle] at d; cases d)
   | false =>
     obtain ⟨⟨a0, a1⟩, b0, b1⟩ := hl i h0 hc hle
     have ea := zg3 b hl hn d _ (by omega) a0 (by omega) (by omega) kk (by omega)
     have eb := zg3 b hl hn d _ (by omega) b0 (by omega) (by omega) kk (by omega)
     simp only
     by_cases h : 500 < 1 + (cut c d (cg c i).a).length
     · rw [decide_eq_true h]
       exact zoV kk b _ i (cg c i) default (str (cut c d (cg c i).a)) default (fun d => by rw [hle] at d; cases d) (fun _ _ => ⟨hx, ea, by omega, by rw [zj4]⟩) (fun _ d => absurd (of_decide_eq_false d) (by rw [ho]; omega))
     · rw [decide_eq_false h]
       refine zoV kk b _ i (cg c i) default (str (cut c d (cg c i).a)) (str (cut c d (cg c i).b)) (fun d => by rw [hle] at d; cases d) (fun _ d => absurd (of_decide_eq_true d) (by rw [ho]; omega)) (fun _ _ => ⟨hx, ea, by omega, by omega, eb, ?_, ?_, by rw [znR]⟩)
       · rw [ByteArray.size_append, ho, hsb]; show 1 + _ + 1 + _ ≤ _; omega
       · rw [ByteArray.size_append, ByteArray.size_append, ho, hsb]; show 1 + _ + 1 + _ + 1 ≤ _; omega
end Go.Den
namespace Go.Den
open Go
open Go.Proofs.YtcmcfebihbmmeaaDoor (num numV atoiV decF zh0)
set_option linter.unusedVariables false
set_option maxRecDepth 100000
theorem zf5 : ∀ l : List UInt8, zb9 (zax l) = some l
 | [] => rfl
 | b :: l => by
   show (zb9 (zax l)).map (UInt8.ofNat ((b.toNat : Int)).toNat :: ·) = some (b :: l)
   rw [zf5 l, Int.toNat_natCast]
   simp
theorem zcj (l : List UInt8) : (zax l).length = l.length := by simp [zax]
theorem zeb (a b : List UInt8) : zax a ++ zax b = zax (a ++ b) := by simp [zax]
theorem zpY (es : List Dat) (bs : List UInt8) (n : Int) (hb : zb9 es = some bs) (h1 : decide (0 ≤ n) = true) (h2 : decide (n < 18446744073709551616) = true) (h3 : Nat.ble es.length 1000000 = true) :
 zlv 5 [.own 5 es, .dat (.val (.int .u64 n)), .dat (.val (.int .i64 10))] [] [] = some ([.own 5 (es ++ zax (Lib.decDigits n.toNat))], [], []) := by
 have h0 : Nat.beq 5 5 = true := rfl
 unfold zlv
 simp only [h0, h1, h2, h3, decide_true, Bool.and_self, hb, Option.map_some]
theorem zpX (l : List UInt8) (u : Nat) (n : Int) (hn : n = (u : Int)) (hu : n < 18446744073709551616) (hl : l.length ≤ 1000000) : EvN 1 151 [.own 5 (zax l), .dat (.val (.int .u64 n)), .dat (I 10)] [] [] ([.own 5 (zax (l ++ Lib.decDigits u))], [], []) := by
 have h3 : Nat.ble (zax l).length 1000000 = true := by rw [zcj]; exact Nat.ble_eq_true_of_le hl
 have h := zpY (zax l) l n (zf5 l) (decide_eq_true (by omega)) (decide_eq_true hu) h3
 rw [zeb, show n.toNat = u by omega] at h
 exact zfK (g := zlv 5) (by kernel_rfl) h
theorem ev_ai (l : List UInt8) (n : Int) (hn : In64 n) (hl : l.length ≤ 100000) : EvN 3 130 [.own 5 (zax l), .dat (I n), .dat (I 10)] [] [] ([.own 5 (zax (l ++ Lib.itoa n))], [], []) := by
 refine zaO Go.Proofs.Tryd.f130 2 (by kernel_rfl) (by kernel_rfl) fun kk hkk => zpS kk _ n 10 (zax (l ++ Lib.itoa n)) ⟨?_, rfl⟩
 have h : EvN 2 139 [.own 5 (zax l), .dat (I n), .dat (I 10)] [] [] ([.own 5 (zax (l ++ Lib.itoa n))], [], []) := by
  refine zaO Go.Proofs.Tryd.f139 1 (by kernel_rfl) (by kernel_rfl) fun kk hkk => zqA kk _ n 10 (zax (l ++ Lib.itoa n)) (fun d => ?_) (fun d => ?_)
  · have d := of_decide_eq_true d
    obtain ⟨u, rfl⟩ : ∃ u : Nat, n = -(u : Int) := ⟨n.natAbs, by omega⟩
    have hu1 : 1 ≤ u := by omega
    have hu2 : u < 18446744073709551616 := by have := hn.1; omega
    refine ⟨by rw [zcj]; omega, ?_, rfl⟩
    have hw : IntKind.u64.wrap (0 - IntKind.u64.wrap (-(u : Int))) = (u : Int) := by rw [IntKind.wrap_u64, IntKind.wrap_u64]; omega
    rw [hw, Lib.itoa_neg u hu1, show zax l ++ [Dat.val (.int .u8 45)] = zax (l ++ [45]) by rw [← zeb]; rfl, show l ++ 45 :: Lib.decDigits u = (l ++ [45]) ++ Lib.decDigits u by simp]
    exact zpX _ u _ rfl (by omega) (by simp; omega) kk (by omega)
  · have d := of_decide_eq_false d
    obtain ⟨u, rfl⟩ : ∃ u : Nat, n = (u : Int) := ⟨n.toNat, by omega⟩
    have hu2 : u < 18446744073709551616 := by have := hn.2; omega
    refine ⟨?_, rfl⟩
    have hw : IntKind.u64.wrap (u : Int) = (u : Int) := by rw [IntKind.wrap_u64]; omega
    rw [hw, Lib.itoa_nonneg]
    exact zpX _ u _ rfl (by omega) (by omega) kk (by omega)
 exact h kk (by omega)
inductive Tok where
 | cell (i : Int)
 | lit (b : UInt8)
def Tok.s : Tok → ByteArray
 | .cell i => num i
 | .lit b => ByteArray.mk #[b]
abbrev TD (l : List Tok) : List Dat := l.map fun t => S t.s
def Lit (b : UInt8) : Prop := b = 40 ∨ b = 32 ∨ b = 41
def Tok.ok (c : List Cl) : Tok → Prop
 | .cell i => 0 ≤ i ∧ i < (c.length : Int)
 | .lit b => Lit b
theorem zlo : ∀ i : Nat, i < 200 → Lib.atoi (decF 3 i) = some (i : Int) := by decide +kernel
theorem zn5 (n : Int) : (num n).data.toList = Lib.itoa n := by simp [num]
theorem zo8 {i : Int} (h0 : 0 ≤ i) (h1 : i < 200) : EvN 1 129 [.dat (S (num i))] [] [] ([.dat (I i), .dat (.val .nilIface)], [], []) := by
 refine zfK (g := zic atoiV) (by kernel_rfl) ?_
 obtain ⟨i, rfl⟩ := Int.eq_ofNat_of_zero_le h0
 have hs : (num (i : Int)).size ≤ 18 := by
  rw [show (num (i : Int)).size = (Lib.itoa (i : Int)).length from zb1 _, Lib.itoa_nonneg, zh0 2 i (by omega)]
  have : ∀ i : Nat, i < 200 → (decF 3 i).length ≤ 18 := by decide +kernel
  exact this i (by omega)
 have ha : Lib.atoi (num (i : Int)).data.toList = some (i : Int) := by
  rw [zn5, Lib.itoa_nonneg, zh0 2 i (by omega)]
  exact zlo i (by omega)
 have hv : atoiV (.string (num (i : Int))) = some (.int .i64 (i : Int), true) := by
  unfold atoiV
  dsimp only
  rw [if_pos hs, ha]
 show (atoiV (.string (num (i : Int)))).map _ = _
 rw [hv]
 rfl
theorem zjo {b : UInt8} (h : Lit b) : EvN 1 129 [.dat (S (ByteArray.mk #[b]))] [] [] ([.dat (I 0), .etc .err], [], []) := by
 refine zfK (g := zic atoiV) (by kernel_rfl) ?_
 have hv : atoiV (.string (ByteArray.mk #[b])) = some (.int .i64 0, false) := by
  rcases h with rfl | rfl | rfl <;> kernel_rfl
 show (atoiV (.string (ByteArray.mk #[b]))).map _ = _
 rw [hv]
 rfl
def Tt (c : List Cl) (i : Int) : List UInt8 := txt c 300 i
def flat (c : List Cl) : Tok → List UInt8
 | .cell i => Tt c i
 | .lit b => [b]
def zdh (c : List Cl) : List Tok → List UInt8
 | [] => []
 | t :: l => zdh c l ++ flat c t
theorem zfL (c : List Cl) : ∀ a b : List Tok, zdh c (a ++ b) = zdh c b ++ zdh c a
 | [], b => by simp [zdh]
 | t :: a, b => by simp [zdh, zfL c a b]
theorem zpu {c : List Cl} {i : Int} (h : (cg c i).l = true) : Tt c i = Lib.itoa (cg c i).n := by
 unfold Tt txt
 rw [h]
theorem zpb {c : List Cl} (hl : Low c) (hc : c.length ≤ 200) {i : Int} (h0 : 0 ≤ i) (hi : i < (c.length : Int)) (h : (cg c i).l = false) : Tt c i = 40 :: (Tt c (cg c i).a ++ 32 :: (Tt c (cg c i).b ++ [41])) := by
 obtain ⟨⟨a0, a1⟩, b0, b1⟩ := hl i h0 hi h
 unfold Tt
 rw [zeZ hl 300 299 (cg c i).a a0 (by omega) (by omega) (by omega), zeZ hl 300 299 (cg c i).b b0 (by omega) (by omega) (by omega)]
 rw [show (300 : Nat) = 299 + 1 from rfl, txt, h]
def za1 (c : List Cl) : List Tok → Nat
 | [] => 0
 | l => match l.getLast? with
   | some (.cell i) => if (cg c i).l = true then 0 else 1
   | _ => 0
theorem zeo (c : List Cl) (l : List Tok) : za1 c l ≤ 1 := by
 unfold za1
 split
 · omega
 · split
   · split <;> omega
   · omega
theorem zcF (c : List Cl) (l : List Tok) (i : Int) : za1 c (l ++ [.cell i]) = if (cg c i).l = true then 0 else 1 := by
 unfold za1
 split
 · rename_i h; simp at h
 · simp
theorem zcs (c : List Cl) (l : List Tok) (b : UInt8) : za1 c (l ++ [.lit b]) = 0 := by
 unfold za1
 split
 · rfl
 · simp
theorem zom {l : List Tok} (h : 0 < l.length) : ∃ l' x, l = l' ++ [x] := ⟨l.dropLast, l.getLast (by intro e; rw [e] at h; simp at h), (List.dropLast_concat_getLast _).symm⟩
theorem zoW {l : List Tok} {x : Tok} (hb : l.length ≤ 1000000) : w64 (((TD (l ++ [x])).length : Int) - 1) = (l.length : Int) ∧ (TD (l ++ [x]))[((l.length : Int)).toNat]? = some (S x.s) ∧ List.take ((l.length : Int)).toNat (TD (l ++ [x])) = TD l := by
 have e : (TD (l ++ [x])).length = l.length + 1 := by simp
 refine ⟨by rw [e, zbn (by omega)]; omega, by simp [TD], by simp [TD]⟩
structure SI (c : List Cl) (at_ : Int) (p : List UInt8 × List Tok) : Prop where
 all : p.1 ++ zdh c p.2 = Tt c at_
 ok : ∀ t ∈ p.2, t.ok c
 out : p.1.length ≤ 541
 st : p.2.length + 5 * (2 * (501 - p.1.length) + za1 c p.2) ≤ 5100
def mu (c : List Cl) (p : List UInt8 × List Tok) : Nat := 2 * (501 - p.1.length) + za1 c p.2
end Go.Den
namespace Go.Den
open Go
open Go.Proofs.YtcmcfebihbmmeaaDoor (num numV atoiV)
set_option linter.unusedVariables false
set_option maxRecDepth 100000
def zdl (c : List Cl) (i : Int) : Bool := decide ((Tt c i).length ≤ 500)
def zeD (c : List Cl) (i : Int) : ByteArray := match zdl c i with | true => str (Tt c i) | false => ByteArray.mk #[]
theorem zfu (l : List UInt8) : zcl (zax l) = some (.string (str l)) := by
 unfold zcl
 rw [zf5]
 rfl
theorem five (c : List Cl) (a b : Int) : zdh c [.lit 41, .cell b, .lit 32, .cell a, .lit 40] = 40 :: (Tt c a ++ 32 :: (Tt c b ++ [41])) := by simp [zdh, flat]
theorem zlZ (b : Bool) {c : List Cl} (hl : Low c) (hn : Nums c) (hc : c.length ≤ 200) (at_ : Int) (h0 : 0 ≤ at_) (h1 : at_ < (c.length : Int)) {kk : Nat} (hkk : 2000 ≤ kk) :
 ∃ p : List UInt8 × List Tok, SI c at_ p ∧ (p.2 = [] ∨ 500 < p.1.length) ∧ zaS cfg kk 110 Go.Proofs.Tryd.f110 2 (zge b (CD c) [] [S (num at_)]) (.exit 0) (Nm [6] [.own 5 (zax p.1)] [none] [] []) := by
 have hcl : (CD c).length = c.length := by simp
 refine zdB (kk := kk) (f := 110) (fn := Go.Proofs.Tryd.f110) (r := 2) (x := .exit 0) (fun (p : List UInt8 × List Tok) => zge b (CD c) (zax p.1) (TD p.2)) (fun p => Nm [6] [.own 5 (zax p.1)] [none] [] [])
  (SI c at_) (fun p => p.2 = [] ∨ 500 < p.1.length) (mu c) ([], [.cell at_]) ?_ ⟨by simp [zdh, flat], fun t ht => ?_, by simp, ?_⟩ (fun p hP => ?_) (fun p hP hf q s K hs hK => ?_) rfl
 · have := zeo c [.cell at_]
   unfold mu
   simp only [List.length_nil]
   omega
 · simp only [List.mem_singleton] at ht
   rw [ht]
   exact ⟨h0, h1⟩
 · have := zeo c [.cell at_]
   simp only [List.length_nil, List.length_singleton]
   omega
 · obtain ⟨out, op⟩ := p
   obtain ⟨hall, hok, hout, hst⟩ := hP
   have hall : out ++ zdh c op = Tt c at_ := hall
   have hok : ∀ t ∈ op, t.ok c := hok
   have hout : out.length ≤ 541 := hout
   have hst : op.length + 5 * (2 * (501 - out.length) + za1 c op) ≤ 5100 := hst
   by_cases he : op = []
   · exact .inl (.inl he)
   by_cases hlt : 500 < out.length
   · exact .inl (.inr hlt)
   refine .inr ?_
   obtain ⟨l, x, rfl⟩ := zom (l := op) (List.length_pos_iff.2 he)
   have hll : (l ++ [x]).length = l.length + 1 := by simp
   rw [hll] at hst
   obtain ⟨w1, w2, w3⟩ := zoW (l := l) (x := x) (by omega)
   have hlen : (TD (l ++ [x])).length = l.length + 1 := by simp
   have o1 : 0 ≤ w64 (((TD (l ++ [x])).length : Int) - 1) ∧ w64 (((TD (l ++ [x])).length : Int) - 1) < ((TD (l ++ [x])).length : Int) := by rw [w1, hlen]; omega
   have o2 : (TD (l ++ [x]))[(w64 (((TD (l ++ [x])).length : Int) - 1)).toNat]? = some (S x.s) := by rw [w1]; exact w2
   have o3 : 0 ≤ w64 (((TD (l ++ [x])).length : Int) - 1) ∧ w64 (((TD (l ++ [x])).length : Int) - 1) ≤ ((TD (l ++ [x])).length : Int) := by rw [w1, hlen]; omega
   have o4 : List.take (w64 (((TD (l ++ [x])).length : Int) - 1)).toNat (TD (l ++ [x])) = TD l := by rw [w1]; exact w3
   have hbl := zcj out
   have hokl : ∀ t ∈ l, t.ok c := fun t ht => hok t (List.mem_append_left _ ht)
   have hxo : x.ok c := hok x (List.mem_append_right _ (by simp))
   have htl := zeo c l
   rw [zfL] at hall
   cases x with
   | lit v =>
     rw [zcs] at hst
     refine ⟨(out ++ [v], l), ⟨?_, hokl, by simp; omega, ?_⟩, ?_, fun q s K hs hn2 => znm kk q b _ _ _ 0 (ByteArray.mk #[v]) hs (fun _ _ => ⟨o1, o2, o3, zjo hxo kk (by omega), ⟨zhM _, by rw [hbl]; show out.length + 1 ≤ _; omega⟩, fun s' hs' => hn2 s' ?_⟩) (fun _ d => absurd (of_decide_eq_false d) (by rw [hbl]; omega)) (fun d => absurd (of_decide_eq_false d) (by rw [hlen]; omega))⟩
     · rw [← hall]; simp [zdh, flat]
     · show l.length + 5 * (2 * (501 - (out ++ [v]).length) + za1 c l) ≤ 5100
       rw [List.length_append, List.length_singleton]; omega
     · show 2 * (501 - (out ++ [v]).length) + za1 c l < 2 * (501 - out.length) + za1 c (l ++ [.lit v])
       rw [List.length_append, List.length_singleton, zcs]; omega
     · rw [hs', o4, show zah (ByteArray.mk #[v]) = zax [v] from rfl, zeb]
       rfl
   | cell i =>
     have hxo : 0 ≤ i ∧ i < (c.length : Int) := hxo
     have hcd := znd hxo.1 hxo.2
     have hat := zo8 (i := i) hxo.1 (by omega) kk (by omega)
     rw [zcF] at hst
     cases hle : (cg c i).l with
     | true =>
       rw [if_pos hle] at hst
       have hT := zpu hle
       obtain ⟨n1, n2⟩ := zkt (hn i)
       refine ⟨(out ++ Lib.itoa (cg c i).n, l), ⟨?_, hokl, by simp; omega, ?_⟩, ?_, fun q s K hs hn2 => zlX kk q b _ _ _ i (zax (out ++ Lib.itoa (cg c i).n)) (num i) (cg c i) (cg c i) (cg c i) (cg c i) default default hs (fun _ _ _ => ⟨o1, o2, o3, hat, hcd, hcd, ev_ai out _ (hn i) (by omega) kk (by omega), fun s' hs' => hn2 s' ?_⟩) (fun _ _ d => by rw [hle] at d; cases d) (fun _ d => absurd (of_decide_eq_false d) (by rw [hbl]; omega)) (fun d => absurd (of_decide_eq_false d) (by rw [hlen]; omega))⟩
       · rw [← hall]; simp [zdh, flat, hT]
       · show l.length + 5 * (2 * (501 - (out ++ Lib.itoa (cg c i).n).length) + za1 c l) ≤ 5100
         rw [List.length_append]; omega
       · show 2 * (501 - (out ++ Lib.itoa (cg c i).n).length) + za1 c l < 2 * (501 - out.length) + za1 c (l ++ [.cell i])
         rw [List.length_append, zcF, if_pos hle]; omega
       · rw [hs', o4]
         rfl
     | false =>
       rw [if_neg (by rw [hle]; decide)] at hst
       have hT := zpb hl hc hxo.1 hxo.2 hle
       obtain ⟨⟨a0, a1⟩, b0, b1⟩ := hl i hxo.1 hxo.2 hle
       have hia : In64 (cg c i).a := ⟨by omega, by omega⟩
       have hib : In64 (cg c i).b := ⟨by omega, by omega⟩
       have e5 : l ++ [Tok.lit 41, .cell (cg c i).b, .lit 32, .cell (cg c i).a, .lit 40] = (l ++ [Tok.lit 41, .cell (cg c i).b, .lit 32, .cell (cg c i).a]) ++ [.lit 40] := by simp
       refine ⟨(out, l ++ [.lit 41, .cell (cg c i).b, .lit 32, .cell (cg c i).a, .lit 40]), ⟨?_, fun t ht => ?_, hout, ?_⟩, ?_, fun q s K hs hn2 => zlX kk q b _ _ _ i [] (num i) (cg c i) (cg c i) (cg c i) (cg c i) (num (cg c i).b) (num (cg c i).a) hs (fun _ _ d => by rw [hle] at d; cases d) (fun _ _ _ => ⟨o1, o2, o3, hat, hcd, hcd, hcd, zjL hib kk (by omega), zjL hia kk (by omega), by rw [o4]; simp; omega, fun s' hs' => hn2 s' ?_⟩) (fun _ d => absurd (of_decide_eq_false d) (by rw [hbl]; omega)) (fun d => absurd (of_decide_eq_false d) (by rw [hlen]; omega))⟩
       · show out ++ zdh c (l ++ _) = _
         rw [← hall, zfL, five, ← hT]
         simp [zdh, flat]
       · rcases List.mem_append.1 ht with ht | ht
         · exact hokl t ht
         · simp only [List.mem_cons, List.not_mem_nil, or_false] at ht
           rcases ht with rfl | rfl | rfl | rfl | rfl
           · exact .inr (.inr rfl)
           · exact ⟨b0, by omega⟩
           · exact .inr (.inl rfl)
           · exact ⟨a0, by omega⟩
           · exact .inl rfl
       · show (l ++ _).length + 5 * (2 * (501 - out.length) + za1 c (l ++ _)) ≤ 5100
         rw [e5, zcs]
         simp only [List.length_append, List.length_cons, List.length_nil]
         omega
       · show 2 * (501 - out.length) + za1 c (l ++ _) < 2 * (501 - out.length) + za1 c (l ++ [.cell i])
         rw [e5, zcs, zcF, if_neg (by rw [hle]; decide)]
         omega
       · rw [hs', o4, show TD l ++ [S (ByteArray.mk #[41]), S (num (cg c i).b), S (ByteArray.mk #[32]), S (num (cg c i).a), S (ByteArray.mk #[40])] = TD (l ++ [.lit 41, .cell (cg c i).b, .lit 32, .cell (cg c i).a, .lit 40]) by simp [TD, Tok.s]]
         rfl
 · have hbl := zcj p.1
   refine znm kk q b _ _ _ 0 default hs (fun d1 d2 => ?_) (fun _ _ => hK) (fun _ => hK)
   have d1 := of_decide_eq_true d1
   have d2 := of_decide_eq_true d2
   rcases hf with hf | hf
   · have hf : p.2 = [] := hf
     rw [hf] at d1
     simp [TD] at d1
   · rw [hbl] at d2
     have hf : 500 < p.1.length := hf
     omega
theorem znT (b : Bool) {c : List Cl} (hl : Low c) (hn : Nums c) (hc : c.length ≤ 200) (at_ : Int) (h0 : 0 ≤ at_) (h1 : at_ < (c.length : Int)) : EvN 2001 110 [.dat (.lst b (CD c)), .dat (I at_)] [] [] ([.dat (S (zeD c at_)), .dat (B (zdl c at_))], [], []) := by
 refine zaO Go.Proofs.Tryd.f110 2000 (by kernel_rfl) (by kernel_rfl) fun kk hkk => ?_
 obtain ⟨p, hP, hf, la⟩ := zlZ b hl hn hc at_ h0 h1 (kk := kk) (by omega)
 have hbl := zcj p.1
 have hit := zjL (n := at_) ⟨by omega, by omega⟩ kk (by omega)
 have hall := hP.all
 refine showI kk b _ (zax p.1) at_ (num at_) (fun d => ⟨hit, la, ?_⟩) (fun d => ⟨hit, la, ?_, ?_⟩)
 · have d := of_decide_eq_true d
   rw [hbl] at d
   have : ¬ (Tt c at_).length ≤ 500 := by rw [← hall, List.length_append]; omega
   have hs : zdl c at_ = false := decide_eq_false this
   unfold zeD
   rw [hs]
 · show zcl (zax p.1) ≠ none
   rw [zfu]
   exact fun e => by cases e
 · have d := of_decide_eq_false d
   rw [hbl] at d
   have he : p.2 = [] := hf.elim id fun h => by omega
   rw [he] at hall
   have hT : p.1 = Tt c at_ := by simpa [zdh] using hall
   have hs : zdl c at_ = true := decide_eq_true (by rw [← hT]; omega)
   show _ = ([Dat.val ((zcl (zax p.1)).getD (Value.string ByteArray.empty)) |> D.dat, _], _, _)
   unfold zeD
   rw [zfu, hs, hT]
   rfl
end Go.Den
namespace Go.Den
open Go
set_option linter.unusedVariables false
set_option maxRecDepth 100000
abbrev longB : ByteArray := ByteArray.mk #[108, 111, 110, 103]
noncomputable def zaz (fr : Bool) (room nur : Int) (h : Hp) : Hp :=
 match fr with
 | true => h
 | false => match decide (nur ≤ (h.cs.length : Int) - h.o) with
   | true => (match decide (room ≤ ((minH h).cs.length : Int)) with | true => zbo (minH h) | false => minH h)
   | false => (match decide (room ≤ (h.cs.length : Int)) with | true => zbo h | false => h)
noncomputable def putQ (fr : Bool) (room nur : Int) (pair : Bool) (a b : Int) (w : Ws) : Ws :=
 match zcT fr room (zaz fr room nur w.h) with
 | true => ⟨zaz fr room nur w.h, true, w.out⟩
 | false => ⟨addH (zaz fr room nur w.h) (zdj pair a b (zaz fr room nur w.h)), false, w.out⟩
def zdk (c : List Cl) (i : Int) : ByteArray := match zdl c i with | true => str (Tt c i) | false => longB
noncomputable def opQ (fr : Bool) (room nur : Int) (k a b : Int) (w : Ws) : Ws :=
 if k = 1 then (match decide ((w.h.rs.length : Int) < 60) with | true => putQ fr room nur false a b w | false => w)
 else if k = 2 then (match zac a w.h.rs.length && zac b w.h.rs.length && decide ((w.h.rs.length : Int) < 60) with | true => putQ fr room nur true a b w | false => w)
 else if k = 3 then (match zac a w.h.rs.length && decide ((w.h.rs.length : Int) < 60) && !(cg w.h.cs (rg w.h a)).l with | true => zlH w false (rg w.h a) | false => w)
 else if k = 4 then (match zac a w.h.rs.length && decide ((w.h.rs.length : Int) < 60) && !(cg w.h.cs (rg w.h a)).l with | true => zlH w true (rg w.h a) | false => w)
 else if k = 5 then (match zac a w.h.rs.length with | true => ⟨zg8 w.h a, w.full, w.out⟩ | false => w)
 else if k = 6 then (match zac a w.h.rs.length with | true => ⟨w.h, w.full, w.out ++ (zdk w.h.cs (rg w.h a) ++ nlB)⟩ | false => w)
 else if k = 7 then (match zac a w.h.rs.length && zac b w.h.rs.length with | true => ⟨w.h, w.full, w.out ++ (if rg w.h a = rg w.h b then zqc else zoH)⟩ | false => w)
 else if k = 8 then (match fr with | true => w | false => ⟨zbo w.h, w.full, w.out⟩)
 else if k = 9 then (match fr with | true => w | false => ⟨minH w.h, w.full, w.out⟩)
 else w
theorem zhb {fr : Bool} {room nur : Int} {h : Hp} (g : Og h) : Og (zaz fr room nur h) := by
 unfold zaz
 split
 · exact g
 · split
   · split
     · exact zjG (zgl g)
     · exact zgl g
   · split
     · exact zjG g
     · exact g
theorem zcn {fr : Bool} {room nur : Int} {h : Hp} : (zaz fr room nur h).rs.length = h.rs.length := by
 unfold zaz zbo minH mvH
 split
 · rfl
 · split <;> split <;> simp
theorem zhY {room nur : Int} {h : Hp} : (decide (nur ≤ (h.cs.length : Int) - h.o) = true → decide (room ≤ ((minH h).cs.length : Int)) = true → zaz false room nur h = zbo (minH h)) ∧ (decide (nur ≤ (h.cs.length : Int) - h.o) = true → decide (room ≤ ((minH h).cs.length : Int)) = false → zaz false room nur h = minH h) ∧
 (decide (nur ≤ (h.cs.length : Int) - h.o) = false → decide (room ≤ (h.cs.length : Int)) = true → zaz false room nur h = zbo h) ∧ (decide (nur ≤ (h.cs.length : Int) - h.o) = false → decide (room ≤ (h.cs.length : Int)) = false → zaz false room nur h = h) := by
 refine ⟨fun d1 d2 => ?_, fun d1 d2 => ?_, fun d1 d2 => ?_, fun d1 d2 => ?_⟩ <;> (unfold zaz; simp only [d1, d2])
abbrev P7D (w : Ws) (room nur : Int) : List D := P7 w.h.o (CD w.h.cs) (ID w.h.rs) (zah w.out) room nur w.full
abbrev L7D (w : Ws) (room nur : Int) (fr : Bool) : List D := L7 w.h.o (CD w.h.cs) (ID w.h.rs) room nur fr w.full w.out
theorem zkv (fr : Bool) (room nur : Int) (hfr : fr = decide (room < 0)) (h : Hp) (g : Og h) (bs : List Dat) : EvN 3200 105 [.ptr (.up 0) 0] [P7 h.o (CD h.cs) (ID h.rs) bs room nur false] []
 ([.dat (B (!zcT fr room (zaz fr room nur h)))], [P7 (zaz fr room nur h).o (CD (zaz fr room nur h).cs) (ID (zaz fr room nur h).rs) bs room nur (zcT fr room (zaz fr room nur h))], []) := by
 refine zaO Go.Proofs.Tryd.f105 3199 (by kernel_rfl) (by kernel_rfl) fun kk hkk => ?_
 have hcl := g.g.clen
 have ho0 := g.g.o0
 have ho1 := g.g.o1
 cases fr with
 | true => exact zpA kk h.o _ _ bs room nur false 0 [] [] 0 [] [] (fun _ => rfl) (fun d => by rw [← hfr] at d; cases d) (fun d => by rw [← hfr] at d; cases d) (fun d => by rw [← hfr] at d; cases d) (fun d => by rw [← hfr] at d; cases d)
 | false =>
   have hlc : ((CD h.cs).length : Int) = (h.cs.length : Int) := by simp
   have hw : w64 (((CD h.cs).length : Int) - h.o) = (h.cs.length : Int) - h.o := by rw [hlc, zbn (by omega)]
   have hly : ((CD (minH h).cs).length : Int) = ((minH h).cs.length : Int) := by simp
   obtain ⟨t1, t2, t3, t4⟩ := zhY (room := room) (nur := nur) (h := h)
   have h59 := zgu true h g kk (by omega)
   have hfw : ∀ x : Hp, zcT false room x = decide (room ≤ ((CD x.cs).length : Int)) := fun x => by simp [zcT]
   by_cases hy : decide (nur ≤ (h.cs.length : Int) - h.o) = true
   · have h60 := zfN true (minH h) (zgl g) kk (by omega)
     exact zpA kk h.o _ _ bs room nur false (minH h).o _ _ (zbo (minH h)).o _ _ (fun d => by rw [← hfr] at d; cases d) (fun _ _ d => ⟨zay _, h59, zay _, h60, by rw [t1 hy (by rw [← hly]; exact d), hfw]⟩) (fun _ _ d => ⟨zay _, h59, by rw [t2 hy (by rw [← hly]; exact d), hfw]⟩) (fun _ d => by rw [hw, hy] at d; cases d) (fun _ d => by rw [hw, hy] at d; cases d)
   · have hy : decide (nur ≤ (h.cs.length : Int) - h.o) = false := by simpa using hy
     have h60 := zfN true h g kk (by omega)
     exact zpA kk h.o _ _ bs room nur false 0 [] [] (zbo h).o _ _ (fun d => by rw [← hfr] at d; cases d) (fun _ d => by rw [hw, hy] at d; cases d) (fun _ d => by rw [hw, hy] at d; cases d) (fun _ _ d => ⟨zay _, h60, by rw [t3 hy (by rw [← hlc]; exact d), hfw]⟩) (fun _ _ d => by rw [t4 hy (by rw [← hlc]; exact d), hfw])
theorem zi3 (w : Ws) (room nur : Int) : EvN 1 104 [.ptr (.up 0) 0] [P7D w room nur] [] ([.dat (B (decide ((w.h.rs.length : Int) < 60)))], [P7D w room nur], []) :=
 zaO Go.Proofs.Tryd.f104 0 (by kernel_rfl) (by kernel_rfl) fun kk _ => may7 kk _ _ _ _ room nur w.full (by rw [List.length_map])
theorem zdT (w : Ws) (room nur : Int) (g : Hg w.h) (a : Int) : EvN 3 103 [.ptr (.up 0) 0, .dat (I a)] [P7D w room nur] [] ([.dat (I (match zac a w.h.rs.length with | true => rg w.h a | false => 0)), .dat (B (zac a w.h.rs.length))], [P7D w room nur], []) := by
 refine zaO Go.Proofs.Tryd.f103 2 (by kernel_rfl) (by kernel_rfl) fun kk hkk => ?_
 have hlr : ((ID w.h.rs).length : Int) = (w.h.rs.length : Int) := by simp
 have h43 := zkN a ((ID w.h.rs).length : Int) kk (by omega)
 rw [hlr] at h43
 rw [← hlr] at h43
 have hA := fun h => zeF g (a := a) h
 refine root7 kk w.h.o _ _ _ room nur w.full a (zac a w.h.rs.length) (rg w.h a) (fun d => ⟨by rw [hlr] at h43 ⊢; exact h43, ?_⟩) (fun d => ?_)
 · simp only [Bool.not_eq_true'] at d
   rw [d]
 · simp only [Bool.not_eq_false'] at d
   exact ⟨by rw [hlr] at h43 ⊢; exact h43, (hA d).1, (hA d).2.1, by rw [d]⟩
theorem zpD (t : Hp) (pair : Bool) (z b : Int) (room nur : Int) (fr : Bool) (out : ByteArray) (hc : t.cs.length ≤ 1000) : (([], [L7 (addH t (zdj pair z b t)).o (CD (addH t (zdj pair z b t)).cs) (ID (addH t (zdj pair z b t)).rs) room nur fr false out], []) : Res) =
 ([], [L7 t.o (CD t.cs ++ [(zdj pair z b t).d]) (ID t.rs ++ [I (w64 (((CD t.cs ++ [(zdj pair z b t).d]).length : Int) - 1))]) room nur fr false out], []) := by
 rw [zpg hc, zoR, zgq]
 rfl
theorem zor (fr : Bool) (room nur : Int) (pair : Bool) (n a b z : Int) (hz : z = match pair with | true => a | false => n) (w : Ws) (g : Og w.h) (hf : w.full = false) (hlt : w.h.rs.length < 60) (hp : pair = true → zac a w.h.rs.length = true ∧ zac b w.h.rs.length = true) :
 EvN 420 99 [.ptr (.up 0) 0, .dat (B pair), .dat (I n), .dat (I a), .dat (I b)] [L7D w room nur fr] [] ([], [L7D (putQ fr room nur pair z b w) room nur fr], []) := by
 refine zaO Go.Proofs.Tryd.f99 419 (by kernel_rfl) (by kernel_rfl) fun kk hkk => ?_
 have gt := zhb (fr := fr) (room := room) (nur := nur) g
 have hrs := zcn (fr := fr) (room := room) (nur := nur) (h := w.h)
 have hcl := gt.g.clen
 have hrl := gt.g.rlen
 have hcl0 := g.g.clen
 have ho0 := g.g.o0
 have ho1 := g.g.o1
 have hlr : ((ID w.h.rs).length : Int) = (w.h.rs.length : Int) := by simp
 have n60 : ∀ {p : Prop}, decide (((ID w.h.rs).length : Int) = 60) = true → p := fun d => by
  have := of_decide_eq_true d
  rw [hlr] at this
  omega
 have pf : zcT fr room (zaz fr room nur w.h) = true → (([], [L7D (putQ fr room nur pair z b w) room nur fr], []) : Res) = ([], [L7 (zaz fr room nur w.h).o (CD (zaz fr room nur w.h).cs) (ID (zaz fr room nur w.h).rs) room nur fr true w.out], []) := fun e => by
  unfold putQ
  rw [e]
 have pn : zcT fr room (zaz fr room nur w.h) = false → (([], [L7D (putQ fr room nur pair z b w) room nur fr], []) : Res) = ([], [L7 (zaz fr room nur w.h).o (CD (zaz fr room nur w.h).cs ++ [(zdj pair z b (zaz fr room nur w.h)).d]) (ID (zaz fr room nur w.h).rs ++ [I (w64 (((CD (zaz fr room nur w.h).cs ++ [(zdj pair z b (zaz fr room nur w.h)).d]).length : Int) - 1))]) room nur fr w.full w.out], []) := fun e => by
  unfold putQ
  rw [e, hf, ← zpD _ _ _ _ _ _ _ _ (by omega)]
 have pr : pair = true → ((0 ≤ a ∧ a < ((ID (zaz fr room nur w.h).rs).length : Int)) ∧ (ID (zaz fr room nur w.h).rs)[a.toNat]? = some (I (rg (zaz fr room nur w.h) a))) ∧ ((0 ≤ b ∧ b < ((ID (zaz fr room nur w.h).rs).length : Int)) ∧ (ID (zaz fr room nur w.h).rs)[b.toNat]? = some (I (rg (zaz fr room nur w.h) b))) := fun e => by
  obtain ⟨ha, hb⟩ := hp e
  obtain ⟨a1, a2, _⟩ := zeF gt.g (a := a) (by rw [hrs]; exact ha)
  obtain ⟨b1, b2, _⟩ := zeF gt.g (a := b) (by rw [hrs]; exact hb)
  exact ⟨⟨a1, a2⟩, b1, b2⟩
 have lc : (CD (zaz fr room nur w.h).cs).length + 1 ≤ 2147483648 := by simp; omega
 have lr : (ID (zaz fr room nur w.h).rs).length + 1 ≤ 2147483648 := by simp; omega
 have cp : pair = true → (zdj pair z b (zaz fr room nur w.h)).d = Dat.agg [B false, I 0, I (rg (zaz fr room nur w.h) a), I (rg (zaz fr room nur w.h) b)] := fun e => by subst e; rw [hz]; rfl
 have cl : pair = false → (zdj pair z b (zaz fr room nur w.h)).d = Dat.agg [B true, I n, I 0, I 0] := fun e => by subst e; rw [hz]; rfl
 cases fr with
 | true =>
   have hfw : zcT true room (zaz true room nur w.h) = false := rfl
   have pn := pn hfw
   exact zkT kk w.h.o _ _ room nur true w.full w.out pair n a b 0 [] [] 0 [] [] (rg (zaz true room nur w.h) a) (rg (zaz true room nur w.h) b) n60 (fun _ d => by cases d) (fun _ d => by cases d) (fun _ d => by cases d) (fun _ d => by cases d) (fun _ d => by cases d) (fun _ d => by cases d) (fun _ d => by cases d) (fun _ d => by cases d) (fun _ d => by cases d) (fun _ d => by cases d)
    (fun _ _ d => ⟨(pr d).1.1, (pr d).1.2, (pr d).2.1, (pr d).2.2, lc, lr, by rw [pn, cp d]; try rfl⟩) (fun _ _ d => ⟨lc, lr, by rw [pn, cl d]; try rfl⟩)
 | false =>
   have hlc : ((CD w.h.cs).length : Int) = (w.h.cs.length : Int) := by simp
   have hw : w64 (((CD w.h.cs).length : Int) - w.h.o) = (w.h.cs.length : Int) - w.h.o := by rw [hlc, zbn (by omega)]
   have hly : ((CD (minH w.h).cs).length : Int) = ((minH w.h).cs.length : Int) := by simp
   obtain ⟨t1, t2, t3, t4⟩ := zhY (room := room) (nur := nur) (h := w.h)
   have h102 := ziG true w.h g kk (by omega)
   have hfw : ∀ x : Hp, zcT false room x = decide (room ≤ ((CD x.cs).length : Int)) := fun x => by simp [zcT]
   by_cases hy : decide (nur ≤ (w.h.cs.length : Int) - w.h.o) = true
   · have h101 := zhv true (minH w.h) (zgl g) kk (by omega)
     have ny : ∀ {p : Prop}, decide (nur ≤ w64 (((CD w.h.cs).length : Int) - w.h.o)) = false → p := fun d => by rw [hw, hy] at d; cases d
     by_cases hr : decide (room ≤ ((CD (minH w.h).cs).length : Int)) = true
     · have nr : ∀ {p : Prop}, decide (room ≤ ((CD (minH w.h).cs).length : Int)) = false → p := fun d => by rw [hr] at d; cases d
       have e := t1 hy (by rw [← hly]; exact hr)
       rw [e, hfw] at pf pn
       rw [e] at pr lc lr cp cl
       exact zkT kk w.h.o _ _ room nur false w.full w.out pair n a b (minH w.h).o _ _ (zbo (minH w.h)).o _ _ (rg (zbo (minH w.h)) a) (rg (zbo (minH w.h)) b) n60
        (fun _ _ _ _ d => ⟨zay _, h102, zay _, h101, pf d⟩) (fun _ _ _ _ d d2 => ⟨zay _, h102, zay _, h101, (pr d2).1.1, (pr d2).1.2, (pr d2).2.1, (pr d2).2.2, lc, lr, by rw [pn d, cp d2]; try rfl⟩) (fun _ _ _ _ d d2 => ⟨zay _, h102, zay _, h101, lc, lr, by rw [pn d, cl d2]; try rfl⟩)
        (fun _ _ _ d => nr d) (fun _ _ _ d => nr d) (fun _ _ d => ny d) (fun _ _ d => ny d) (fun _ _ d => ny d) (fun _ _ d => ny d) (fun _ _ d => ny d) (fun _ d => by cases d) (fun _ d => by cases d)
     · have hr : decide (room ≤ ((CD (minH w.h).cs).length : Int)) = false := by simpa using hr
       have nr : ∀ {p : Prop}, decide (room ≤ ((CD (minH w.h).cs).length : Int)) = true → p := fun d => by rw [hr] at d; cases d
       have e := t2 hy (by rw [← hly]; exact hr)
       rw [e, hfw] at pf pn
       rw [e] at pr lc lr cp cl
       exact zkT kk w.h.o _ _ room nur false w.full w.out pair n a b (minH w.h).o (CD (minH w.h).cs) (ID (minH w.h).rs) 0 [] [] (rg (minH w.h) a) (rg (minH w.h) b) n60
        (fun _ _ _ d => nr d) (fun _ _ _ d => nr d) (fun _ _ _ d => nr d) (fun _ _ _ d d2 => ⟨zay _, h102, (pr d2).1.1, (pr d2).1.2, (pr d2).2.1, (pr d2).2.2, lc, lr, by rw [pn d, cp d2]; try rfl⟩) (fun _ _ _ d d2 => ⟨zay _, h102, lc, lr, by rw [pn d, cl d2]; try rfl⟩)
        (fun _ _ d => ny d) (fun _ _ d => ny d) (fun _ _ d => ny d) (fun _ _ d => ny d) (fun _ _ d => ny d) (fun _ d => by cases d) (fun _ d => by cases d)
   · have hy : decide (nur ≤ (w.h.cs.length : Int) - w.h.o) = false := by simpa using hy
     have h101 := zhv true w.h g kk (by omega)
     have ny : ∀ {p : Prop}, decide (nur ≤ w64 (((CD w.h.cs).length : Int) - w.h.o)) = true → p := fun d => by rw [hw, hy] at d; cases d
     by_cases hr : decide (room ≤ ((CD w.h.cs).length : Int)) = true
     · have nr : ∀ {p : Prop}, decide (room ≤ ((CD w.h.cs).length : Int)) = false → p := fun d => by rw [hr] at d; cases d
       have e := t3 hy (by rw [← hlc]; exact hr)
       rw [e, hfw] at pf pn
       rw [e] at pr lc lr cp cl
       exact zkT kk w.h.o _ _ room nur false w.full w.out pair n a b 0 [] [] (zbo w.h).o _ _ (rg (zbo w.h) a) (rg (zbo w.h) b) n60 (fun _ _ d => ny d) (fun _ _ d => ny d) (fun _ _ d => ny d) (fun _ _ d => ny d) (fun _ _ d => ny d)
        (fun _ _ _ _ d => ⟨zay _, h101, pf d⟩) (fun _ _ _ _ d d2 => ⟨zay _, h101, (pr d2).1.1, (pr d2).1.2, (pr d2).2.1, (pr d2).2.2, lc, lr, by rw [pn d, cp d2]; try rfl⟩) (fun _ _ _ _ d d2 => ⟨zay _, h101, lc, lr, by rw [pn d, cl d2]; try rfl⟩)
        (fun _ _ _ d => nr d) (fun _ _ _ d => nr d) (fun _ d => by cases d) (fun _ d => by cases d)
     · have hr : decide (room ≤ ((CD w.h.cs).length : Int)) = false := by simpa using hr
       have nr : ∀ {p : Prop}, decide (room ≤ ((CD w.h.cs).length : Int)) = true → p := fun d => by rw [hr] at d; cases d
       have e := t4 hy (by rw [← hlc]; exact hr)
       rw [e, hfw] at pf pn
       rw [e] at pr lc lr cp cl
       exact zkT kk w.h.o _ _ room nur false w.full w.out pair n a b 0 [] [] 0 [] [] (rg w.h a) (rg w.h b) n60 (fun _ _ d => ny d) (fun _ _ d => ny d) (fun _ _ d => ny d) (fun _ _ d => ny d) (fun _ _ d => ny d)
        (fun _ _ _ d => nr d) (fun _ _ _ d => nr d) (fun _ _ _ d => nr d) (fun _ _ _ d d2 => ⟨(pr d2).1.1, (pr d2).1.2, (pr d2).2.1, (pr d2).2.2, lc, lr, by rw [pn d, cp d2]; try rfl⟩) (fun _ _ _ d d2 => ⟨lc, lr, by rw [pn d, cl d2]; try rfl⟩) (fun _ d => by cases d) (fun _ d => by cases d)
theorem zjc (fr : Bool) (room nur : Int) (pair : Bool) (n a b : Int) (w : Ws) (h : w.h.rs.length = 60) : EvN 1 99 [.ptr (.up 0) 0, .dat (B pair), .dat (I n), .dat (I a), .dat (I b)] [L7D w room nur fr] [] ([], [L7D w room nur fr], []) := by
 refine zaO Go.Proofs.Tryd.f99 0 (by kernel_rfl) (by kernel_rfl) fun kk hkk => ?_
 have n60 : ∀ {p : Prop}, decide (((ID w.h.rs).length : Int) = 60) = false → p := fun d => by
  have := of_decide_eq_false d
  rw [List.length_map, h] at this
  exact absurd rfl this
 exact zkT kk w.h.o _ _ room nur fr w.full w.out pair n a b 0 [] [] 0 [] [] 0 0 (fun _ => rfl) (fun d => n60 d) (fun d => n60 d) (fun d => n60 d) (fun d => n60 d) (fun d => n60 d) (fun d => n60 d) (fun d => n60 d) (fun d => n60 d) (fun d => n60 d) (fun d => n60 d) (fun d => n60 d) (fun d => n60 d)
end Go.Den
namespace Go.Den
open Go
set_option linter.unusedVariables false
set_option maxRecDepth 100000
theorem zoK {h : Hp} (o : Og h) : Low h.cs := fun i h0 hi hl => by
 obtain ⟨⟨a0, _⟩, b0, _⟩ := o.g.wf i h0 hi hl
 obtain ⟨a1, b1⟩ := o.low i h0 hi hl
 exact ⟨⟨a0, a1⟩, b0, b1⟩
theorem zjv {h : Hp} (o : Og h) : Nums h.cs := fun i => by
 unfold cg
 rw [List.getD_eq_getElem?_getD]
 cases hc : h.cs[i.toNat]? with
 | none => exact ⟨by decide, by decide⟩
 | some c => exact (o.g.cells _ c hc).1.1
section
variable {fr : Bool} {room nur : Int} {a b : Int} {w : Ws}
theorem zkU : opQ fr room nur 1 a b w = (match decide ((w.h.rs.length : Int) < 60) with | true => putQ fr room nur false a b w | false => w) := by
 unfold opQ; rw [if_pos rfl]; try rfl
theorem zkM : opQ fr room nur 2 a b w = (match zac a w.h.rs.length && zac b w.h.rs.length && decide ((w.h.rs.length : Int) < 60) with | true => putQ fr room nur true a b w | false => w) := by
 unfold opQ; rw [if_neg (by decide), if_pos rfl]; try rfl
theorem zla : opQ fr room nur 3 a b w = (match zac a w.h.rs.length && decide ((w.h.rs.length : Int) < 60) && !(cg w.h.cs (rg w.h a)).l with | true => zlH w false (rg w.h a) | false => w) := by
 unfold opQ; rw [if_neg (by decide), if_neg (by decide), if_pos rfl]; try rfl
theorem zlu : opQ fr room nur 4 a b w = (match zac a w.h.rs.length && decide ((w.h.rs.length : Int) < 60) && !(cg w.h.cs (rg w.h a)).l with | true => zlH w true (rg w.h a) | false => w) := by
 unfold opQ; rw [if_neg (by decide), if_neg (by decide), if_neg (by decide), if_pos rfl]; try rfl
theorem zlr : opQ fr room nur 5 a b w = (match zac a w.h.rs.length with | true => ⟨zg8 w.h a, w.full, w.out⟩ | false => w) := by
 unfold opQ; rw [if_neg (by decide), if_neg (by decide), if_neg (by decide), if_neg (by decide), if_pos rfl]; try rfl
theorem zlq : opQ fr room nur 6 a b w = (match zac a w.h.rs.length with | true => ⟨w.h, w.full, w.out ++ (zdk w.h.cs (rg w.h a) ++ nlB)⟩ | false => w) := by
 unfold opQ; rw [if_neg (by decide), if_neg (by decide), if_neg (by decide), if_neg (by decide), if_neg (by decide), if_pos rfl]; try rfl
theorem zk3 : opQ fr room nur 7 a b w = (match zac a w.h.rs.length && zac b w.h.rs.length with | true => ⟨w.h, w.full, w.out ++ (if rg w.h a = rg w.h b then zqc else zoH)⟩ | false => w) := by
 unfold opQ; rw [if_neg (by decide), if_neg (by decide), if_neg (by decide), if_neg (by decide), if_neg (by decide), if_neg (by decide), if_pos rfl]; try rfl
theorem zlb : opQ fr room nur 8 a b w = (match fr with | true => w | false => ⟨zbo w.h, w.full, w.out⟩) := by
 unfold opQ; rw [if_neg (by decide), if_neg (by decide), if_neg (by decide), if_neg (by decide), if_neg (by decide), if_neg (by decide), if_neg (by decide), if_pos rfl]; try rfl
theorem zlp : opQ fr room nur 9 a b w = (match fr with | true => w | false => ⟨minH w.h, w.full, w.out⟩) := by
 unfold opQ; rw [if_neg (by decide), if_neg (by decide), if_neg (by decide), if_neg (by decide), if_neg (by decide), if_neg (by decide), if_neg (by decide), if_neg (by decide), if_pos rfl]; try rfl
def Oth (k : Int) : Prop := k ≠ 1 ∧ k ≠ 2 ∧ k ≠ 3 ∧ k ≠ 4 ∧ k ≠ 5 ∧ k ≠ 6 ∧ k ≠ 7 ∧ k ≠ 8 ∧ k ≠ 9
theorem zk5 {k : Int} (h : Oth k) : opQ fr room nur k a b w = w := by
 obtain ⟨h1, h2, h3, h4, h5, h6, h7, h8, h9⟩ := h
 unfold opQ
 rw [if_neg h1, if_neg h2, if_neg h3, if_neg h4, if_neg h5, if_neg h6, if_neg h7, if_neg h8, if_neg h9]
end
theorem zoa {c : List Cl} (i : Int) : (500 < (cut c 300 i).length → zdk c i = longB) ∧ (¬ 500 < (cut c 300 i).length → zdk c i = str (cut c 300 i)) := by
 obtain ⟨h1, h2⟩ := zjf c 300 i
 refine ⟨fun h => ?_, fun h => ?_⟩
 · have : zdl c i = false := decide_eq_false (by have := h1.1 h; unfold Tt; omega)
   unfold zdk
   rw [this]
 · have h3 : ¬ 500 < (txt c 300 i).length := fun h4 => h (h1.2 h4)
   have : zdl c i = true := decide_eq_true (by unfold Tt; omega)
   unfold zdk
   rw [this, h2 (by omega)]
   rfl
theorem zqs (fr : Bool) (room nur : Int) (k a b : Int) (w : Ws) (g : Og w.h) (hf : w.full = false) (ho : w.out.size ≤ 1000000) : EvN 500 78 [.ptr (.up 0) 0, .dat (N3 k a b)] [L7D w room nur fr] [] ([], [L7D (opQ fr room nur k a b w) room nur fr], []) := by
 refine zaO Go.Proofs.Tryd.f78 499 (by kernel_rfl) (by kernel_rfl) fun kk hkk => ?_
 have hcl := g.g.clen
 have hrl := g.g.rlen
 have hlr : ((ID w.h.rs).length : Int) = (w.h.rs.length : Int) := by simp
 have ha := in39 g.g a kk (by omega)
 have hb := in39 g.g b kk (by omega)
 have lr : (ID w.h.rs).length + 1 ≤ 2147483648 := by simp; omega
 have A1 := ha
 have B1 := hb
 have hA := fun h => zeF g.g (a := a) h
 have hB := fun h => zeF g.g (a := b) h
 have hn1 : (ByteArray.mk #[10]).size = 1 := rfl
 have h60 : decide (((ID w.h.rs).length : Int) = 60) = true → decide ((w.h.rs.length : Int) < 60) = false := fun d => by
  have := of_decide_eq_true d
  rw [hlr] at this
  exact decide_eq_false (by omega)
 have h59 : decide (((ID w.h.rs).length : Int) = 60) = false → decide ((w.h.rs.length : Int) < 60) = true := fun d => by
  have := of_decide_eq_false d
  rw [hlr] at this
  exact decide_eq_true (by omega)
 have cellR : ∀ (pair : Bool) (n x y z : Int), (z = match pair with | true => x | false => n) → (pair = true → zac x w.h.rs.length = true ∧ zac y w.h.rs.length = true) → ∃ p : Ws, p = (match decide ((w.h.rs.length : Int) < 60) with | true => putQ fr room nur pair z y w | false => w) ∧ p.out = w.out ∧
  den cfg kk 99 [.ptr (.up 0) 0, .dat (B pair), .dat (I n), .dat (I x), .dat (I y)] [L7D w room nur fr] [] = some ([], [L7 p.h.o (CD p.h.cs) (ID p.h.rs) room nur fr p.full w.out], []) := by
  intro pair n x y z hz hp
  refine ⟨_, rfl, ?_⟩
  by_cases hlt : w.h.rs.length < 60
  · rw [decide_eq_true (show (w.h.rs.length : Int) < 60 by omega)]
    have hput := zor fr room nur pair n x y z hz w g hf hlt hp kk (by omega)
    have ho : (putQ fr room nur pair z y w).out = w.out := by unfold putQ; cases zcT fr room (zaz fr room nur w.h) <;> rfl
    exact ⟨ho, by have h2 := hput; unfold L7D at h2; rw [ho] at h2; exact h2⟩
  · rw [decide_eq_false (show ¬ (w.h.rs.length : Int) < 60 by omega)]
    exact ⟨rfl, zjc fr room nur pair n x y w (by omega) kk (by omega)⟩
 by_cases k1 : k = 1
 · subst k1
   obtain ⟨p, hp, hpo, hden⟩ := cellR false a 0 0 a rfl (fun e => by cases e)
   have e : opQ fr room nur 1 a b w = p := by rw [zkU, hp]; rfl
   rw [e]
   exact op7_1 kk w.h.o _ _ room nur fr w.full w.out a b _ _ _ p.full _ _ ⟨A1, B1, hden, by rw [← hpo]⟩
 by_cases k2 : k = 2
 · subst k2
   rw [zkM]
   cases hab : zac a w.h.rs.length && zac b w.h.rs.length with
   | true =>
     simp only [Bool.and_eq_true] at hab
     obtain ⟨p, hp, hpo, hden⟩ := cellR true 0 a b a rfl (fun _ => hab)
     rw [Bool.true_and, ← hp]
     exact zqt kk w.h.o _ _ room nur fr w.full w.out a b _ _ _ p.full _ _ (fun _ _ => ⟨A1, B1, hden, by rw [← hpo]⟩) (fun _ d => by rw [hab.2] at d; cases d) (fun d => by rw [hab.1] at d; cases d)
   | false =>
     rw [Bool.false_and]
     exact zqt kk w.h.o _ _ room nur fr w.full w.out a b 0 [] [] false _ _ (fun d d2 => by rw [d, d2] at hab; cases hab) (fun _ _ => ⟨A1, B1, rfl⟩) (fun _ => ⟨A1, B1, rfl⟩)
 by_cases k3 : k = 3
 · subst k3
   rw [zla]
   refine op7_3 kk w.h.o _ _ room nur fr w.full w.out a b (zac a w.h.rs.length) (zac b w.h.rs.length) (rg w.h a) (cg w.h.cs (rg w.h a)) (fun d => ⟨A1, B1, ?_⟩) (fun d d2 => ⟨A1, B1, ?_⟩) (fun d d2 d3 => ?_) (fun d d2 d3 => ?_)
   · simp only [Bool.not_eq_true'] at d; rw [d]; rfl
   · rw [h60 d2, Bool.and_false]; rfl
   · simp only [Bool.not_eq_false'] at d
     exact ⟨A1, B1, (hA d).1, (hA d).2.1, (hA d).2.2.1, (hA d).2.2.2, lr, by rw [d, h59 d2, d3, zgq]; rfl⟩
   · simp only [Bool.not_eq_false'] at d
     exact ⟨A1, B1, (hA d).1, (hA d).2.1, (hA d).2.2.1, (hA d).2.2.2, by rw [d, h59 d2, d3]; rfl⟩
 by_cases k4 : k = 4
 · subst k4
   rw [zlu]
   refine op7_4 kk w.h.o _ _ room nur fr w.full w.out a b (zac a w.h.rs.length) (zac b w.h.rs.length) (rg w.h a) (cg w.h.cs (rg w.h a)) (fun d => ⟨A1, B1, ?_⟩) (fun d d2 => ⟨A1, B1, ?_⟩) (fun d d2 d3 => ?_) (fun d d2 d3 => ?_)
   · simp only [Bool.not_eq_true'] at d; rw [d]; rfl
   · rw [h60 d2, Bool.and_false]; rfl
   · simp only [Bool.not_eq_false'] at d
     exact ⟨A1, B1, (hA d).1, (hA d).2.1, (hA d).2.2.1, (hA d).2.2.2, lr, by rw [d, h59 d2, d3, zgq]; rfl⟩
   · simp only [Bool.not_eq_false'] at d
     exact ⟨A1, B1, (hA d).1, (hA d).2.1, (hA d).2.2.1, (hA d).2.2.2, by rw [d, h59 d2, d3]; rfl⟩
 by_cases k5 : k = 5
 · subst k5
   rw [zlr]
   exact op7_5 kk w.h.o _ _ room nur fr w.full w.out a b (zac a w.h.rs.length) (zac b w.h.rs.length)
    (fun d => by
     have h1 := (hA d).1
     have hw : w64 (a + 1) = a + 1 := zbn (by omega)
     refine ⟨A1, B1, ⟨h1.1, by omega⟩, ⟨by omega, by omega⟩, ⟨by rw [zlA]; exact zoL _, by simp; omega⟩, ⟨by rw [zmA]; exact zoL _, by simp; omega⟩, ?_⟩
     rw [d, zlA, zmA, hw, show (a + 1).toNat = a.toNat + 1 by omega]
     simp [zg8, ID])
    (fun d => ⟨A1, B1, by rw [d]⟩)
 by_cases k6 : k = 6
 · subst k6
   rw [zlq]
   have hs := zb1 (cut w.h.cs 300 (rg w.h a))
   have hb1 := zfB (zjv g) 300 (rg w.h a)
   obtain ⟨c1, c2⟩ := zoa (c := w.h.cs) (rg w.h a)
   have hsh := fun d => zg3 true (zoK g) (zjv g) 300 (rg w.h a) (by omega) (zik g.g d).1 (zik g.g d).2 (by have := (zik g.g d).2; omega) kk (by omega)
   exact op7_6 kk w.h.o _ _ room nur fr w.full w.out a b (zac a w.h.rs.length) (zac b w.h.rs.length) (rg w.h a) (str (cut w.h.cs 300 (rg w.h a)))
    (fun d d2 => ⟨A1, B1, (hA d).1, (hA d).2.1, hsh d, by omega, by omega, by rw [d, c1 (by have := of_decide_eq_true d2; omega)]⟩)
    (fun d d2 => ⟨A1, B1, (hA d).1, (hA d).2.1, hsh d, by omega, by rw [ByteArray.size_append]; omega, by rw [d, c2 (by have := of_decide_eq_false d2; omega)]⟩)
    (fun d => ⟨A1, B1, by rw [d]⟩)
 by_cases k7 : k = 7
 · subst k7
   rw [zk3]
   exact op7_7 kk w.h.o _ _ room nur fr w.full w.out a b (zac a w.h.rs.length) (zac b w.h.rs.length) (rg w.h a) (rg w.h b)
    (fun d d2 d3 => ⟨A1, B1, (hA d).1, (hA d).2.1, (hB d2).1, (hB d2).2.1, by omega, by rw [d, d2, if_pos (of_decide_eq_true d3)]; rfl⟩)
    (fun d d2 d3 => ⟨A1, B1, (hA d).1, (hA d).2.1, (hB d2).1, (hB d2).2.1, by omega, by rw [d, d2, if_neg (of_decide_eq_false d3)]; rfl⟩)
    (fun d d2 => ⟨A1, B1, by rw [d, d2]; rfl⟩)
    (fun d => ⟨A1, B1, by rw [d]; rfl⟩)
 by_cases k8 : k = 8
 · subst k8
   rw [zlb]
   exact op7_8 kk w.h.o _ _ room nur fr w.full w.out a b (zbo w.h).o _ _ (zac a w.h.rs.length) (zac b w.h.rs.length)
    (fun d => ⟨A1, B1, zay _, zhv true w.h g kk (by omega), by cases fr <;> first | rfl | cases d⟩)
    (fun d => ⟨A1, B1, by cases fr <;> first | rfl | cases d⟩)
 by_cases k9 : k = 9
 · subst k9
   rw [zlp]
   exact op7_9 kk w.h.o _ _ room nur fr w.full w.out a b (minH w.h).o _ _ (zac a w.h.rs.length) (zac b w.h.rs.length)
    (fun d => ⟨A1, B1, zay _, ziG true w.h g kk (by omega), by cases fr <;> first | rfl | cases d⟩)
    (fun d => ⟨A1, B1, by cases fr <;> first | rfl | cases d⟩)
 rw [zk5 ⟨k1, k2, k3, k4, k5, k6, k7, k8, k9⟩]
 have n : ∀ j : Int, k ≠ j → decide (k = j) = false := fun j h => by simpa using h
 exact op7_o kk w.h.o _ _ room nur fr w.full w.out k a b (zac a w.h.rs.length) (zac b w.h.rs.length) A1 B1 (n 1 k1) (n 2 k2) (n 3 k3) (n 4 k4) (n 5 k5) (n 6 k6) (n 7 k7) (n 8 k8) (n 9 k9)
end Go.Den
namespace Go.Den
open Go
set_option linter.unusedVariables false
set_option maxRecDepth 100000
theorem ze8 (w : Ws) (room nur : Int) (t : ByteArray) (h1 : w.out.size ≤ 1000000) (h2 : t.size ≤ 1000000) : EvN 1 111 [.ptr (.up 0) 0, .dat (S t)] [P7D w room nur] [] ([], [P7D ⟨w.h, w.full, w.out ++ (t ++ nlB)⟩ room nur], []) := by
 refine zaO Go.Proofs.Tryd.f111 0 (by kernel_rfl) (by kernel_rfl) fun kk hkk => ?_
 have hn1 : (ByteArray.mk #[10]).size = 1 := rfl
 exact tell7 kk w.h.o _ _ (zah w.out) room nur w.full t ⟨by omega, ⟨zhM _, by rw [ziF, ziF, ByteArray.size_append]; omega⟩, by rw [← zl4]⟩
theorem zmE (h : Hp) (bs : List Dat) (room nur : Int) (full : Bool) (c : Cl) (g : Hg h) : EvN 1 106 [.ptr (.up 0) 0, .dat c.d] [P7 h.o (CD h.cs) (ID h.rs) bs room nur full] [] ([], [P7 (addH h c).o (CD (addH h c).cs) (ID (addH h c).rs) bs room nur full], []) := by
 refine zaO Go.Proofs.Tryd.f106 0 (by kernel_rfl) (by kernel_rfl) fun kk hkk => ?_
 have hcl := g.clen
 have hrl := g.rlen
 refine put7 kk h.o _ _ bs room nur full c ⟨by simp; omega, by simp; omega, ?_⟩
 have e1 := zoR h.cs c
 have e3 := zgq h.rs (h.cs.length : Int)
 show (([], [P7 h.o (CD (h.cs ++ [c])) (ID (h.rs ++ [(h.cs.length : Int)])) bs room nur full], []) : Res) = _
 rw [← e1, ← e3]
 have : ((CD h.cs).length : Int) = (h.cs.length : Int) := by simp
 rw [this]
theorem zjU (w : Ws) (room nur : Int) (g : Hg w.h) (a : Int) (second : Bool) : EvN 10 108 [.ptr (.up 0) 0, .dat (I a), .dat (B second)] [P7D w room nur] [] ([], [P7D (match zac a w.h.rs.length && decide ((w.h.rs.length : Int) < 60) && !(cg w.h.cs (rg w.h a)).l with | true => zlH w second (rg w.h a) | false => w) room nur], []) := by
 refine zaO Go.Proofs.Tryd.f108 9 (by kernel_rfl) (by kernel_rfl) fun kk hkk => ?_
 have hrl := g.rlen
 have lr : (ID w.h.rs).length + 1 ≤ 2147483648 := by simp; omega
 have hr := zdT w room nur g a kk (by omega)
 have hm := zi3 w room nur kk (by omega)
 have hA := fun h => zeF g (a := a) h
 cases hb : zac a w.h.rs.length with
 | false =>
   rw [hb] at hr
   exact zp3 kk w.h.o _ _ _ room nur w.full a 0 second false false c0 c0 c0 (fun _ => ⟨hr, rfl⟩) (fun d => by cases d) (fun d => by cases d) (fun d => by cases d) (fun d => by cases d)
 | true =>
   rw [hb] at hr
   obtain ⟨_, _, x1, x2⟩ := hA hb
   refine zp3 kk w.h.o _ _ _ room nur w.full a (rg w.h a) second true (decide ((w.h.rs.length : Int) < 60)) (cg w.h.cs (rg w.h a)) (cg w.h.cs (rg w.h a)) (cg w.h.cs (rg w.h a)) (fun d => by cases d) (fun _ d => ⟨hr, x1, x2, by rw [d, Bool.not_true, Bool.and_false]⟩) (fun _ d d2 => ⟨hr, x1, x2, hm, ?_⟩) (fun _ d d2 d3 => ⟨hr, x1, x2, hm, x1, x2, x1, x2, lr, ?_⟩) (fun _ d d2 d3 => ⟨hr, x1, x2, hm, x1, x2, lr, ?_⟩)
   · simp only [Bool.not_eq_true'] at d2; rw [d2]; rfl
   · simp only [Bool.not_eq_false'] at d2; rw [d, d2, d3, zgq]; rfl
   · simp only [Bool.not_eq_false'] at d2; rw [d, d2, d3, zgq]; rfl
theorem znW (fr : Bool) (room nur : Int) (hfr : fr = decide (room < 0)) (a b : Int) (w : Ws) (g : Og w.h) (hf : w.full = false) : EvN 3250 107 [.ptr (.up 0) 0, .dat (I a), .dat (I b)] [P7D w room nur] [] ([], [P7D (opQ fr room nur 2 a b w) room nur], []) := by
 refine zaO Go.Proofs.Tryd.f107 3249 (by kernel_rfl) (by kernel_rfl) fun kk hkk => ?_
 have ra := zdT w room nur g.g a kk (by omega)
 have rb := zdT w room nur g.g b kk (by omega)
 have hm := zi3 w room nur kk (by omega)
 have hroom := zkv fr room nur hfr w.h g (zah w.out) kk (by omega)
 rw [← hf] at hroom
 have gt := zhb (fr := fr) (room := room) (nur := nur) g
 have hrs := zcn (fr := fr) (room := room) (nur := nur) (h := w.h)
 rw [zkM]
 cases ha : zac a w.h.rs.length with
 | false =>
   rw [ha] at ra
   exact zme kk w.h.o _ _ _ room nur w.full a b 0 _ false _ false 0 [] [] false false 0 [] [] [] false 0 0 (fun d => by cases d) (fun d => by cases d) (fun d => by cases d) (fun d => by cases d) (fun _ => ⟨ra, rb, rfl⟩)
 | true =>
   rw [ha] at ra
   cases hb : zac b w.h.rs.length with
   | false =>
     rw [hb] at rb
     exact zme kk w.h.o _ _ _ room nur w.full a b _ 0 true false false 0 [] [] false false 0 [] [] [] false 0 0 (fun _ d => by cases d) (fun _ d => by cases d) (fun _ d => by cases d) (fun _ _ => ⟨ra, rb, rfl⟩) (fun d => by cases d)
   | true =>
     rw [hb] at rb
     cases hd : decide ((w.h.rs.length : Int) < 60) with
     | false =>
       rw [hd] at hm
       exact zme kk w.h.o _ _ _ room nur w.full a b _ _ true true false 0 [] [] false false 0 [] [] [] false 0 0 (fun _ _ d => by cases d) (fun _ _ d => by cases d) (fun _ _ _ => ⟨ra, rb, hm, rfl⟩) (fun _ d => by cases d) (fun d => by cases d)
     | true =>
       rw [hd] at hm
       obtain ⟨a1, a2, _⟩ := zeF gt.g (a := a) (by rw [hrs]; exact ha)
       obtain ⟨b1, b2, _⟩ := zeF gt.g (a := b) (by rw [hrs]; exact hb)
       show zam _ _ _ _ _ _ _ _ = some ([], [P7D (putQ fr room nur true a b w) room nur], [])
       unfold putQ
       generalize zaz fr room nur w.h = t at *
       cases hful : zcT fr room t with
       | true =>
         rw [hful] at hroom
         exact zme kk w.h.o _ _ _ room nur w.full a b _ _ true true true t.o _ _ true false 0 [] [] [] false 0 0 (fun _ _ _ d => by cases d) (fun _ _ _ _ => ⟨ra, rb, hm, hroom, rfl⟩) (fun _ _ d => by cases d) (fun _ d => by cases d) (fun d => by cases d)
       | false =>
         rw [hful] at hroom
         exact zme kk w.h.o _ _ _ room nur w.full a b _ _ true true true t.o _ _ false true _ _ _ _ false (rg t a) (rg t b) (fun _ _ _ _ => ⟨ra, rb, hm, hroom, a1, a2, b1, b2, zmE t (zah w.out) room nur false (zdj true a b t) gt.g kk (by omega), rfl⟩) (fun _ _ _ d => by cases d) (fun _ _ d => by cases d) (fun _ d => by cases d) (fun d => by cases d)
end Go.Den
namespace Go.Den
open Go
set_option linter.unusedVariables false
set_option maxRecDepth 100000
theorem zqH (fr : Bool) (room nur : Int) (hfr : fr = decide (room < 0)) (k a b : Int) (w : Ws) (g : Og w.h) (hf : w.full = false) (ho : w.out.size ≤ 1000000) : EvN 3300 79 [.ptr (.up 0) 0, .dat (N3 k a b)] [P7D w room nur] [] ([], [P7D (opQ fr room nur k a b w) room nur], []) := by
 refine zaO Go.Proofs.Tryd.f79 3299 (by kernel_rfl) (by kernel_rfl) fun kk hkk => ?_
 have n : ∀ j : Int, k ≠ j → decide (k = j) = false := fun j h => by simpa using h
 have hcl := g.g.clen
 have hrl := g.g.rlen
 have A1 := zdT w room nur g.g a kk (by omega)
 have B1 := zdT w room nur g.g b kk (by omega)
 have hm := zi3 w room nur kk (by omega)
 have efr : ∀ {d : Bool}, decide (0 ≤ room) = d → fr = !d := fun {d} h => by
  rw [hfr]
  cases d with
  | true => have := of_decide_eq_true h; exact decide_eq_false (by omega)
  | false => have := of_decide_eq_false h; exact decide_eq_true (by omega)
 by_cases k1 : k = 1
 · subst k1
   rw [zkU]
   have hroom := zkv fr room nur hfr w.h g (zah w.out) kk (by omega)
   rw [← hf] at hroom
   have gt := zhb (fr := fr) (room := room) (nur := nur) g
   cases hd : decide ((w.h.rs.length : Int) < 60) with
   | false =>
     rw [hd] at hm
     exact zo5 kk w.h.o _ _ _ room nur w.full a b _ _ false 0 [] [] false false 0 [] [] [] false (fun d => by cases d) (fun d => by cases d) (fun _ => ⟨A1, hm, rfl⟩)
   | true =>
     rw [hd] at hm
     show zam _ _ _ _ _ _ _ _ = some ([], [P7D (putQ fr room nur false a b w) room nur], [])
     unfold putQ
     generalize zaz fr room nur w.h = t at *
     cases hful : zcT fr room t with
     | true =>
       rw [hful] at hroom
       exact zo5 kk w.h.o _ _ _ room nur w.full a b _ _ true t.o _ _ true false 0 [] [] [] false (fun _ d => by cases d) (fun _ _ => ⟨A1, hm, hroom, rfl⟩) (fun d => by cases d)
     | false =>
       rw [hful] at hroom
       exact zo5 kk w.h.o _ _ _ room nur w.full a b _ _ true t.o _ _ false true _ _ _ _ false (fun _ _ => ⟨A1, hm, hroom, zmE t (zah w.out) room nur false (zdj false a b t) gt.g kk (by omega), rfl⟩) (fun _ d => by cases d) (fun d => by cases d)
 by_cases k2 : k = 2
 · subst k2
   exact do7_2 kk w.h.o _ _ _ room nur w.full a b _ _ _ _ _ _ _ ⟨A1, znW fr room nur hfr a b w g hf kk (by omega), rfl⟩
 by_cases k3 : k = 3
 · subst k3
   rw [zla]
   exact do7_3 kk w.h.o _ _ _ room nur w.full a b _ _ _ _ _ _ _ ⟨A1, zjU w room nur g.g a false kk (by omega), rfl⟩
 by_cases k4 : k = 4
 · subst k4
   rw [zlu]
   exact do7_4 kk w.h.o _ _ _ room nur w.full a b _ _ _ _ _ _ _ ⟨A1, zjU w room nur g.g a true kk (by omega), rfl⟩
 by_cases k5 : k = 5
 · subst k5
   rw [zlr]
   refine do7_5 kk w.h.o _ _ _ room nur w.full a b (match zac a w.h.rs.length with | true => rg w.h a | false => 0) (zac a w.h.rs.length) (ID w.h.rs) (ID (w.h.rs.take a.toNat ++ w.h.rs.drop (a.toNat + 1))) (fun d => ?_) (fun d => ⟨A1, by rw [d]⟩)
   have h1 := zgg d
   have hw : w64 (a + 1) = a + 1 := zbn (by omega)
   refine ⟨A1, by simp only [D.cleans, D.clean, zhy, Bool.and_self], zfm true w.h.rs (by omega) kk (by omega), ?_, by rw [d]; rfl⟩
   rw [hw]
   exact zqp w.h.rs a h1.1 h1.2 (by omega) kk (by omega)
 by_cases k6 : k = 6
 · subst k6
   rw [zlq]
   cases hb : zac a w.h.rs.length with
   | false =>
     rw [hb] at A1
     exact zp7 kk w.h.o _ _ _ room nur w.full a b _ false default false 0 [] [] [] false (fun d => by cases d) (fun d => by cases d) (fun _ => ⟨A1, rfl⟩)
   | true =>
     rw [hb] at A1
     have hx := zik g.g hb
     have hsh := znT true (zoK g) (zjv g) hcl (rg w.h a) hx.1 hx.2 kk (by omega)
     have hn4 : longB.size = 4 := rfl
     refine zp7 kk w.h.o _ _ _ room nur w.full a b (rg w.h a) true (zeD w.h.cs (rg w.h a)) (zdl w.h.cs (rg w.h a)) w.h.o (CD w.h.cs) (ID w.h.rs) (zah (w.out ++ (zdk w.h.cs (rg w.h a) ++ nlB))) w.full (fun _ d => ?_) (fun _ d => ?_) (fun d => by cases d)
     · simp only [Bool.not_eq_true'] at d
       have e : zdk w.h.cs (rg w.h a) = longB := by unfold zdk; rw [d]
       rw [e]
       exact ⟨A1, hsh, ze8 w room nur longB ho (by omega) kk (by omega), rfl⟩
     · simp only [Bool.not_eq_false'] at d
       have e : zdk w.h.cs (rg w.h a) = zeD w.h.cs (rg w.h a) := by unfold zdk zeD; rw [d]
       have hl : (zeD w.h.cs (rg w.h a)).size ≤ 1000000 := by
        unfold zeD
        rw [d]
        have := of_decide_eq_true d
        show (str (Tt w.h.cs (rg w.h a))).size ≤ _
        rw [zb1]
        omega
       rw [e]
       exact ⟨A1, hsh, ze8 w room nur _ ho hl kk (by omega), rfl⟩
 by_cases k7 : k = 7
 · subst k7
   rw [zk3]
   cases ha : zac a w.h.rs.length with
   | false =>
     rw [ha] at A1
     exact znN kk w.h.o _ _ _ room nur w.full a b _ false _ (zac b w.h.rs.length) 0 [] [] [] false default (fun d => by cases d) (fun d => by cases d) (fun _ => ⟨A1, B1, rfl⟩)
   | true =>
     rw [ha] at A1
     cases hb : zac b w.h.rs.length with
     | false =>
       rw [hb] at B1
       exact znN kk w.h.o _ _ _ room nur w.full a b _ true _ false 0 [] [] [] false default (fun _ d => by cases d) (fun _ _ => ⟨A1, B1, rfl⟩) (fun d => by cases d)
     | true =>
       rw [hb] at B1
       have hn4 : (ByteArray.mk #[115, 97, 109, 101]).size = 4 := rfl
       have hn5 : (ByteArray.mk #[111, 116, 104, 101, 114]).size = 5 := rfl
       by_cases he : rg w.h a = rg w.h b
       · rw [Bool.true_and, if_pos he]
         exact znN kk w.h.o _ _ _ room nur w.full a b _ true _ true w.h.o _ _ _ w.full (ByteArray.mk #[115, 97, 109, 101]) (fun _ _ => ⟨A1, B1, by rw [decide_eq_true he]; rfl, ze8 w room nur _ ho (by omega) kk (by omega), rfl⟩) (fun _ d => by cases d) (fun d => by cases d)
       · rw [Bool.true_and, if_neg he]
         exact znN kk w.h.o _ _ _ room nur w.full a b _ true _ true w.h.o _ _ _ w.full (ByteArray.mk #[111, 116, 104, 101, 114]) (fun _ _ => ⟨A1, B1, by rw [decide_eq_false he]; rfl, ze8 w room nur _ ho (by omega) kk (by omega), rfl⟩) (fun _ d => by cases d) (fun d => by cases d)
 by_cases k8 : k = 8
 · subst k8
   rw [zlb]
   exact do7_8 kk w.h.o _ _ _ room nur w.full a b _ _ (zbo w.h).o _ _ (fun d => ⟨A1, zay _, zfN true w.h g kk (by omega), by rw [efr d]; rfl⟩) (fun d => ⟨A1, by rw [efr d]; rfl⟩)
 by_cases k9 : k = 9
 · subst k9
   rw [zlp]
   exact do7_9 kk w.h.o _ _ _ room nur w.full a b _ _ (minH w.h).o _ _ (fun d => ⟨A1, zay _, zgu true w.h g kk (by omega), by rw [efr d]; rfl⟩) (fun d => ⟨A1, by rw [efr d]; rfl⟩)
 rw [zk5 ⟨k1, k2, k3, k4, k5, k6, k7, k8, k9⟩]
 exact do7_o kk w.h.o _ _ _ room nur w.full k a b _ _ A1 (n 1 k1) (n 2 k2) (n 3 k3) (n 4 k4) (n 5 k5) (n 6 k6) (n 7 k7) (n 8 k8) (n 9 k9)
end Go.Den
namespace Go.Den
open Go
set_option linter.unusedVariables false
set_option maxRecDepth 100000
open Go.Proofs.YtcmcfebihbmmeaaDoor (num numV)
noncomputable def runQ (fr : Bool) (room nur : Int) : List Op3 → Ws → Ws
 | [], w => w
 | x :: l, w => match (opQ fr room nur x.k x.a x.b w).full with
   | true => opQ fr room nur x.k x.a x.b w
   | false => runQ fr room nur l (opQ fr room nur x.k x.a x.b w)
structure Iq (fr : Bool) (m : Nat) (w : Ws) : Prop where
 g : Og w.h
 len : fr = true → w.h.cs.length ≤ m
 out : w.out.size ≤ 700 * m
theorem Iq.up {fr : Bool} {m : Nat} {w : Ws} (h : Iq fr m w) : Iq fr (m + 1) w := ⟨h.g, fun e => by have := h.len e; omega, by have := h.out; omega⟩
theorem zne {h : Hp} (o : Og h) {r : Int} (hr : 0 ≤ r ∧ r < (h.cs.length : Int)) (h2 : h.rs.length < 60) : Og (zmI h r) := ⟨zm6 o.g hr h2, o.ns, o.low⟩
theorem zoT {h : Hp} (o : Og h) (a : Int) : Og (zg8 h a) := ⟨zmz o.g a, o.ns, o.low⟩
theorem zqE {h : Hp} (o : Og h) {c : Cl} (hc : c.fine) (hok : zcx (h.cs.length + 1) c = true) (h1 : h.cs.length < 200) (h2 : h.rs.length < 60) (hl : c.l = false → c.a < (h.cs.length : Int) ∧ c.b < (h.cs.length : Int)) : Og (addH h c) := by
 refine ⟨znU o.g hc hok h1 h2, o.ns, fun i h0 hi hle => ?_⟩
 have hlen : ((addH h c).cs.length : Int) = (h.cs.length : Int) + 1 := by show ((h.cs ++ [c]).length : Int) = _; simp
 by_cases hlt : i < (h.cs.length : Int)
 · have e : cg (addH h c).cs i = cg h.cs i := by
    show (h.cs ++ [c]).getD i.toNat c0 = h.cs.getD i.toNat c0
    rw [List.getD_eq_getElem?_getD, List.getD_eq_getElem?_getD, List.getElem?_append_left (by omega)]
   rw [e] at hle ⊢
   exact o.low i h0 hlt hle
 · have hi2 : i.toNat = h.cs.length := by omega
   have e : cg (addH h c).cs i = c := by
    show (h.cs ++ [c]).getD i.toNat c0 = c
    rw [List.getD_eq_getElem?_getD, hi2]
    simp
   rw [e] at hle ⊢
   have := hl hle
   omega
theorem ziA {fr : Bool} {room nur : Int} {pair : Bool} {a b : Int} {w : Ws} {m : Nat} (i : Iq fr m w) (hr : fr = false → room ≤ 200) (hm : m < 200) (ha : In64 a) (hlt : w.h.rs.length < 60)
 (hp : pair = true → zac a w.h.rs.length = true ∧ zac b w.h.rs.length = true) : Iq fr (m + 1) (putQ fr room nur pair a b w) := by
 have g := zhb (fr := fr) (room := room) (nur := nur) i.g
 have hrs := zcn (fr := fr) (room := room) (nur := nur) (h := w.h)
 have ht := fun (e : fr = true) => (by subst e; rfl : zaz fr room nur w.h = w.h)
 have ho := i.out
 unfold putQ
 generalize zaz fr room nur w.h = h1 at *
 cases hf : zcT fr room h1 with
 | true => exact ⟨g, fun e => by show h1.cs.length ≤ _; rw [ht e]; have := i.len e; omega, by show w.out.size ≤ _; omega⟩
 | false =>
   have hc : h1.cs.length < 200 := by
    cases fr with
    | true => have := i.len rfl; rw [ht rfl]; omega
    | false =>
      have := hr rfl
      simp [zcT] at hf
      omega
   have in1 := fun x (h : zac x w.h.rs.length = true) => zik g.g (a := x) (by rw [hrs]; exact h)
   refine ⟨zqE g ?_ ?_ hc (by omega) ?_, fun e => ?_, by show w.out.size ≤ _; omega⟩
   · cases pair with
     | true =>
       have h4 := in1 a (hp rfl).1
       have h5 := in1 b (hp rfl).2
       exact ⟨(show In64 0 from ⟨by decide, by decide⟩), ⟨by show _ ≤ rg h1 a; omega, by show rg h1 a ≤ _; omega⟩, ⟨by show _ ≤ rg h1 b; omega, by show rg h1 b ≤ _; omega⟩⟩
     | false => exact ⟨ha, (show In64 0 from ⟨by decide, by decide⟩), (show In64 0 from ⟨by decide, by decide⟩)⟩
   · cases pair with
     | true =>
       have h4 := in1 a (hp rfl).1
       have h5 := in1 b (hp rfl).2
       have h6 : rg h1 a < (h1.cs.length : Int) + 1 := by omega
       have h7 : rg h1 b < (h1.cs.length : Int) + 1 := by omega
       simp [zdj, zcx, zac, h4.1, h5.1, h6, h7]
     | false => rfl
   · cases pair with
     | true => exact fun _ => ⟨(in1 a (hp rfl).1).2, (in1 b (hp rfl).2).2⟩
     | false => exact fun e => by cases e
   · show (h1.cs ++ [_]).length ≤ m + 1
     rw [ht e]
     have := i.len e
     simp; omega
theorem zma (c : List Cl) (i : Int) : (zdk c i).size ≤ 500 := by
 unfold zdk
 cases h : zdl c i with
 | true => have := of_decide_eq_true h; show (str (Tt c i)).size ≤ _; rw [zb1]; omega
 | false => show longB.size ≤ 500; decide
theorem zhl {fr : Bool} {room nur : Int} {k a b : Int} {w : Ws} {m : Nat} (i : Iq fr m w) (hr : fr = false → room ≤ 200) (hm : m < 200) (ha : In64 a) : Iq fr (m + 1) (opQ fr room nur k a b w) := by
 have ho := i.out
 have same : ∀ h', Og h' → (fr = true → h'.cs.length ≤ m + 1) → Iq fr (m + 1) ⟨h', w.full, w.out⟩ := fun h' g' hl => ⟨g', hl, by show w.out.size ≤ _; omega⟩
 have keep : fr = true → w.h.cs.length ≤ m + 1 := fun e => by have := i.len e; omega
 have tell : ∀ t : ByteArray, t.size ≤ 600 → Iq fr (m + 1) ⟨w.h, w.full, w.out ++ t⟩ := fun t ht => ⟨i.g, keep, by show (w.out ++ t).size ≤ _; rw [ByteArray.size_append]; omega⟩
 by_cases k1 : k = 1
 · subst k1
   rw [zkU]
   cases hd : decide ((w.h.rs.length : Int) < 60) with
   | true => exact ziA i hr hm ha (by have := of_decide_eq_true hd; omega) (fun e => by cases e)
   | false => exact i.up
 by_cases k2 : k = 2
 · subst k2
   rw [zkM]
   cases hd : zac a w.h.rs.length && zac b w.h.rs.length && decide ((w.h.rs.length : Int) < 60) with
   | true =>
     simp only [Bool.and_eq_true, decide_eq_true_eq] at hd
     exact ziA i hr hm ha (by omega) (fun _ => hd.1)
   | false => exact i.up
 by_cases k3 : k = 3
 · subst k3
   rw [zla]
   cases hd : zac a w.h.rs.length && decide ((w.h.rs.length : Int) < 60) && !(cg w.h.cs (rg w.h a)).l with
   | true =>
     simp only [Bool.and_eq_true, decide_eq_true_eq, Bool.not_eq_true'] at hd
     have h1 := zik i.g.g hd.1.1
     exact same _ (zne i.g (i.g.g.wf _ h1.1 h1.2 hd.2).1 (by omega)) keep
   | false => exact i.up
 by_cases k4 : k = 4
 · subst k4
   rw [zlu]
   cases hd : zac a w.h.rs.length && decide ((w.h.rs.length : Int) < 60) && !(cg w.h.cs (rg w.h a)).l with
   | true =>
     simp only [Bool.and_eq_true, decide_eq_true_eq, Bool.not_eq_true'] at hd
     have h1 := zik i.g.g hd.1.1
     exact same _ (zne i.g (i.g.g.wf _ h1.1 h1.2 hd.2).2 (by omega)) keep
   | false => exact i.up
 by_cases k5 : k = 5
 · subst k5
   rw [zlr]
   cases zac a w.h.rs.length with
   | true => exact same _ (zoT i.g a) keep
   | false => exact i.up
 by_cases k6 : k = 6
 · subst k6
   rw [zlq]
   cases zac a w.h.rs.length with
   | true => exact tell _ (by have := zma w.h.cs (rg w.h a); have : nlB.size = 1 := rfl; rw [ByteArray.size_append]; omega)
   | false => exact i.up
 by_cases k7 : k = 7
 · subst k7
   rw [zk3]
   cases zac a w.h.rs.length && zac b w.h.rs.length with
   | true => exact tell _ (by split <;> decide)
   | false => exact i.up
 by_cases k8 : k = 8
 · subst k8
   rw [zlb]
   cases fr with
   | true => exact i.up
   | false => exact same _ (zjG i.g) (fun e => by cases e)
 by_cases k9 : k = 9
 · subst k9
   rw [zlp]
   cases fr with
   | true => exact i.up
   | false => exact same _ (zgl i.g) (fun e => by cases e)
 rw [zk5 ⟨k1, k2, k3, k4, k5, k6, k7, k8, k9⟩]
 exact i.up
theorem iq00 (fr : Bool) : Iq fr 0 w00 :=
 ⟨⟨(iv00 fr).g, rfl, fun i h0 hi _ => by have : i < 0 := hi; omega⟩, fun _ => Nat.le_refl _, Nat.le_refl _⟩
theorem zoo (r n r' n' k a b : Int) (w : Ws) : opQ true r n k a b w = opQ true r' n' k a b w := by
 unfold opQ putQ zaz zcT
 rfl
theorem ziE (r n r' n' : Int) : ∀ (l : List Op3) (w : Ws), runQ true r n l w = runQ true r' n' l w
 | [], w => rfl
 | x :: l, w => by
   unfold runQ
   rw [zoo r n r' n', ziE r n r' n' l]
section
variable {fr : Bool} {room nur : Int}
theorem zdF (hr : fr = false → room ≤ 200) (b : Bool) (L : List Op3) (hL : L.length ≤ 150) (ha : ∀ x ∈ L, In64 x.a) {kk : Nat} (hkk : 1050000 ≤ kk) {K : X → St → Prop} : ∀ (l : List Op3) (i : Nat) (w : Ws), L.drop i = l → i + l.length = L.length → Iq fr i w → w.full = false →
 K (match (runQ fr room nur l w).full with | true => .ret | false => .exit 0) (Nm [] [] [] [L7D (runQ fr room nur l w) room nur fr] []) →
 ∀ m, l.length < m → ∀ s : St, s.norm ((zae cfg kk 51 Go.Proofs.Tryd.f51).live (zaa (lp Go.Proofs.Tryd.f51 1))) = hd51 b (OD L) w.h.o (CD w.h.cs) (ID w.h.rs) room nur fr w.full w.out i → zad (zae cfg kk 51 Go.Proofs.Tryd.f51) kk (lp Go.Proofs.Tryd.f51 1) m s K
 | [], i, w, hd, hi, hI, hf, hK, m, hm, s, hs => by
   obtain ⟨m, rfl⟩ : ∃ k, m = k + 1 := ⟨m - 1, by omega⟩
   have hlen : ((OD L).length : Int) = (L.length : Int) := by simp
   have hK : K (match w.full with | true => .ret | false => .exit 0) (Nm [] [] [] [L7D w room nur fr] []) := hK
   rw [hf] at hK
   simp only [List.length_nil, Nat.add_zero] at hi
   exact zmM kk m b _ _ _ _ room nur fr w.full w.out i 0 [] [] true ByteArray.empty 0 0 0 hs (fun d => absurd (of_decide_eq_true d) (by omega)) (fun d => absurd (of_decide_eq_true d) (by omega)) (fun _ => hK)
 | x :: l, i, w, hd, hi, hI, hf, hK, m, hm, s, hs => by
   obtain ⟨m, rfl⟩ : ∃ k, m = k + 1 := ⟨m - 1, by omega⟩
   obtain ⟨hx, hd', hlt⟩ := zlC hd
   have hxm := List.mem_of_getElem? hx
   have hlen : ((OD L).length : Int) = (L.length : Int) := by simp
   have h76 := zqs fr room nur x.k x.a x.b w hI.g hf (by have := hI.out; omega) kk (by omega)
   have hI' := zhl (room := room) (nur := nur) (k := x.k) (b := x.b) hI hr (by omega) (ha x hxm)
   have hxd := ih (gm (f := Op3.d) hx)
   have hrun : runQ fr room nur (x :: l) w = (match (opQ fr room nur x.k x.a x.b w).full with | true => opQ fr room nur x.k x.a x.b w | false => runQ fr room nur l (opQ fr room nur x.k x.a x.b w)) := rfl
   rw [hrun] at hK
   have ihl := zdF hr b L hL ha hkk (K := K) l (i + 1) (opQ fr room nur x.k x.a x.b w) hd' (by simp at hi; omega) hI'
   generalize opQ fr room nur x.k x.a x.b w = p at h76 hI' hK ihl
   refine zmM kk m b _ _ _ _ room nur fr w.full w.out i p.h.o _ _ p.full p.out x.k x.a x.b hs (fun _ d => ⟨hxd, h76, ?_⟩) (fun _ d => ⟨hxd, h76, fun s' hs' => ?_⟩) (fun d => absurd (of_decide_eq_false d) (by omega))
   · have hK2 : K .ret (Nm [] [] [] [L7D p room nur fr] []) := by
      rw [d] at hK
      simp only [d] at hK
      exact hK
     rw [d]
     have e : L7D p room nur fr = L7 p.h.o (CD p.h.cs) (ID p.h.rs) room nur fr true p.out := by rw [← d]
     rw [e] at hK2
     exact hK2
   · rw [d] at hK
     refine ihl d hK m (by simp at hm; omega) s' ?_
     rw [hs', wi i (by omega)]
     rfl
theorem znj (hr : fr = false → room ≤ 200) (b : Bool) (L : List Op3) (hL : L.length ≤ 150) (ha : ∀ x ∈ L, In64 x.a) : EvN 1050100 51 [.ptr (.up 0) 0, .dat (.lst b (OD L))] [L7D w00 room nur fr] [] ([], [L7D (runQ fr room nur L w00) room nur fr], []) := by
 refine zaO Go.Proofs.Tryd.f51 1050099 (by kernel_rfl) (by kernel_rfl) fun kk hkk => ?_
 have hloop : zaS cfg kk 51 Go.Proofs.Tryd.f51 1 (hd51 b (OD L) w00.h.o (CD w00.h.cs) (ID w00.h.rs) room nur fr w00.full w00.out 0) (match (runQ fr room nur L w00).full with | true => .ret | false => .exit 0) (Nm [] [] [] [L7D (runQ fr room nur L w00) room nur fr] []) :=
  zcg fun s hs => zdF hr b L hL ha (by omega) L 0 w00 rfl (by simp) (iq00 fr) rfl ⟨rfl, rfl⟩ kk (by omega) s hs
 generalize runQ fr room nur L w00 = p at hloop ⊢
 cases hp : p.full with
 | true =>
   rw [hp] at hloop
   exact zpc kk b _ 0 [] [] room nur fr false ByteArray.empty p.h.o _ _ p.full p.out ⟨hloop, rfl⟩
 | false =>
   rw [hp] at hloop
   exact zo2 kk b _ 0 [] [] room nur fr false ByteArray.empty p.h.o _ _ p.full p.out ⟨hloop, rfl⟩
theorem zd4 (hfr : fr = decide (room < 0)) (hr : fr = false → room ≤ 200) (b : Bool) (L : List Op3) (hL : L.length ≤ 150) (ha : ∀ x ∈ L, In64 x.a) {kk : Nat} (hkk : 1050400 ≤ kk) {K : X → St → Prop} : ∀ (l : List Op3) (i : Nat) (w : Ws), L.drop i = l → i + l.length = L.length → Iq fr i w → w.full = false →
 K (.exit 0) (Nm [7, 13] [.ptr (.loc 13) 0, .ptr (.loc 13) 0] [none, some (P7D (runQ fr room nur l w) room nur)] [] []) →
 ∀ m, l.length < m → ∀ s : St, s.norm ((zae cfg kk 52 Go.Proofs.Tryd.f52).live (zaa (lp Go.Proofs.Tryd.f52 3))) = hd52 b (OD L) w.h.o (CD w.h.cs) (ID w.h.rs) (zah w.out) room nur w.full i → zad (zae cfg kk 52 Go.Proofs.Tryd.f52) kk (lp Go.Proofs.Tryd.f52 3) m s K
 | [], i, w, hd, hi, hI, hf, hK, m, hm, s, hs => by
   obtain ⟨m, rfl⟩ : ∃ k, m = k + 1 := ⟨m - 1, by omega⟩
   have hlen : ((OD L).length : Int) = (L.length : Int) := by simp
   simp only [List.length_nil, Nat.add_zero] at hi
   exact zkr kk m b _ _ _ _ _ room nur w.full i 0 [] [] [] true 0 0 0 hs (fun d => absurd (of_decide_eq_true d) (by omega)) (fun d => absurd (of_decide_eq_true d) (by omega)) (fun _ => hK)
 | x :: l, i, w, hd, hi, hI, hf, hK, m, hm, s, hs => by
   obtain ⟨m, rfl⟩ : ∃ k, m = k + 1 := ⟨m - 1, by omega⟩
   obtain ⟨hx, hd', hlt⟩ := zlC hd
   have hxm := List.mem_of_getElem? hx
   have hlen : ((OD L).length : Int) = (L.length : Int) := by simp
   have h77 := zqH fr room nur hfr x.k x.a x.b w hI.g hf (by have := hI.out; omega) kk (by omega)
   have hI' := zhl (room := room) (nur := nur) (k := x.k) (b := x.b) hI hr (by omega) (ha x hxm)
   have hxd := ih (gm (f := Op3.d) hx)
   have hrun : runQ fr room nur (x :: l) w = (match (opQ fr room nur x.k x.a x.b w).full with | true => opQ fr room nur x.k x.a x.b w | false => runQ fr room nur l (opQ fr room nur x.k x.a x.b w)) := rfl
   rw [hrun] at hK
   have ihl := zd4 hfr hr b L hL ha hkk (K := K) l (i + 1) (opQ fr room nur x.k x.a x.b w) hd' (by simp at hi; omega) hI'
   generalize opQ fr room nur x.k x.a x.b w = p at h77 hI' hK ihl
   refine zkr kk m b _ _ _ _ _ room nur w.full i p.h.o _ _ _ p.full x.k x.a x.b hs (fun _ d => ⟨hxd, h77, ?_⟩) (fun _ d => ⟨hxd, h77, fun s' hs' => ?_⟩) (fun d => absurd (of_decide_eq_false d) (by omega))
   · rw [d] at hK
     exact hK
   · rw [d] at hK
     refine ihl d hK m (by simp at hm; omega) s' ?_
     rw [hs', wi i (by omega)]
     rfl
theorem ziI (hfr : fr = decide (room < 0)) (hr : fr = false → room ≤ 200) (b : Bool) (L : List Op3) (hL : L.length ≤ 150) (ha : ∀ x ∈ L, In64 x.a) : EvN 1050500 52 [.dat (.lst b (OD L)), .dat (I room), .dat (I nur)] [] [] ([.ptr (.loc 0) 0], [P7D (runQ fr room nur L w00) room nur], []) := by
 refine zaO Go.Proofs.Tryd.f52 1050499 (by kernel_rfl) (by kernel_rfl) fun kk hkk => ?_
 refine zql kk b _ room nur _ _ _ _ _ ⟨?_, rfl⟩
 exact zcg fun s hs => zd4 hfr hr b L hL ha (by omega) L 0 w00 rfl (by simp) (iq00 fr) rfl ⟨rfl, rfl⟩ kk (by omega) s hs
end
noncomputable def zez (L : List Op3) : ByteArray × Bool := match decide (150 < (L.length : Int)) with | true => (ByteArray.mk #[], false) | false => ((runQ true 0 0 L w00).out, true)
theorem zld (b : Bool) (L : List Op3) (ha : ∀ x ∈ L, In64 x.a) : EvN 1050600 24 [.dat (.lst b (OD L))] [] [] ([.dat (S (zez L).1), .dat (B (zez L).2)], [], []) := by
 refine zaO Go.Proofs.Tryd.f24 1050599 (by kernel_rfl) (by kernel_rfl) fun kk hkk => ?_
 have hlen : ((OD L).length : Int) = (L.length : Int) := by simp
 unfold zez
 rw [ziE 0 0 (-1) 1]
 refine zpP kk b _ _ _ _ _ _ ByteArray.empty (fun d => by rw [← hlen, d]) (fun d => ⟨ziI (fr := true) (room := -1) (nur := 1) rfl (fun e => by cases e) b L (by have := of_decide_eq_false d; omega) ha kk (by omega), by
  show zcl (zah _) ≠ none
  rw [zd5]; simp, by
  rw [← hlen, d]
  show _ = (([.dat (.val ((zcl (zah (runQ true (-1) 1 L w00).out)).getD (.string ByteArray.empty))), .dat (B true)], [], []) : Res)
  rw [zd5]; rfl⟩)
noncomputable def zcy (L : List Op3) (room nur : Int) : ByteArray × Bool × Bool := match decide (150 < (L.length : Int)) || !inB room 0 200 || !inB nur 1 200 with | true => (ByteArray.mk #[], false, false) | false => ((runQ false room nur L w00).out, (runQ false room nur L w00).full, true)
theorem zmm (b : Bool) (L : List Op3) (room nur : Int) (ha : ∀ x ∈ L, In64 x.a) : EvN 1050600 25 [.dat (.lst b (OD L)), .dat (I room), .dat (I nur)] [] [] ([.dat (S (zcy L room nur).1), .dat (B (zcy L room nur).2.1), .dat (B (zcy L room nur).2.2)], [], []) := by
 refine zaO Go.Proofs.Tryd.f25 1050599 (by kernel_rfl) (by kernel_rfl) fun kk hkk => ?_
 have hlen : ((OD L).length : Int) = (L.length : Int) := by simp
 have h1 := zjH room 0 200 kk (by omega)
 have h2 := zjH nur 1 200 kk (by omega)
 unfold zcy
 refine zqq kk b _ room nur _ _ _ _ _ (inB room 0 200) (inB nur 1 200) (fun d => by rw [← hlen, d]; rfl) (fun d d2 => ⟨h1, by rw [← hlen, d, d2]; rfl⟩) (fun d d2 d3 => ⟨h1, h2, by rw [← hlen, d, d2, d3]; rfl⟩) (fun d d2 d3 => ⟨h1, h2, znj (fr := false) (room := room) (nur := nur) (fun _ => ?_) b L (by have := of_decide_eq_false d; omega) ha kk (by omega), by rw [← hlen, d, d2, d3]; rfl⟩)
 simp [inB] at d2
 omega
theorem zmw (b : Bool) (L : List Op3) (room nur : Int) (ha : ∀ x ∈ L, In64 x.a) : EvN 1050600 26 [.dat (.lst b (OD L)), .dat (I room), .dat (I nur)] [] [] ([.dat (S (zcy L room nur).1), .dat (B (zcy L room nur).2.1), .dat (B (zcy L room nur).2.2)], [], []) := by
 refine zaO Go.Proofs.Tryd.f26 1050599 (by kernel_rfl) (by kernel_rfl) fun kk hkk => ?_
 have hlen : ((OD L).length : Int) = (L.length : Int) := by simp
 have e1 : (!inB room 0 200) = (decide (room < 0) || decide (200 < room)) := by rw [Bool.eq_iff_iff]; simp [inB]
 have e2 : (!inB nur 1 200) = (decide (nur < 1) || decide (200 < nur)) := by rw [Bool.eq_iff_iff]; simp [inB]
 unfold zcy
 rw [e1, e2]
 refine zqj kk b _ room nur _ _ _ _ _ (fun d => by rw [← hlen, d]; rfl) (fun d d2 => by rw [← hlen, d, d2]; rfl) (fun d d2 d3 => by rw [← hlen, d, d2, d3]; rfl) (fun d d2 d3 d4 => by rw [← hlen, d, d2, d3, d4]; rfl) (fun d d2 d3 d4 d5 => by rw [← hlen, d, d2, d3, d4, d5]; rfl)
  (fun d d2 d3 d4 d5 => ⟨ziI (fr := false) (room := room) (nur := nur) d2.symm (fun _ => by have := of_decide_eq_false d3; omega) b L (by have := of_decide_eq_false d; omega) ha kk (by omega), by
  show zcl (zah _) ≠ none
  rw [zd5]; simp, by
  rw [← hlen, d, d2, d3, d4, d5]
  show _ = (([.dat (.val ((zcl (zah (runQ false room nur L w00).out)).getD (.string ByteArray.empty))), .dat (B (runQ false room nur L w00).full), .dat (B true)], [], []) : Res)
  rw [zd5]; rfl⟩)
end Go.Den
namespace Go.Den
open Go
set_option linter.unusedVariables false
set_option maxRecDepth 100000
theorem Twins.least {p q : Hp} (g : Hg p) (t : Twins p q) : Twins (minH p) q := by
 obtain ⟨R, t⟩ := t
 exact t.mv (zaU _ _) (ze4 g) (zeW g)
theorem Twin.txts {p q : Hp} {R : Int → Int → Prop} (t : Twin p q R) : ∀ (d : Nat) {i j : Int}, R i j → txt p.cs d i = txt q.cs d j := by
 intro d
 induction d with
 | zero => intro i j h; rfl
 | succ d ih =>
   intro i j h
   obtain ⟨c1, c2, c3⟩ := t.cell h
   unfold txt
   cases hl : (cg p.cs i).l with
   | true => rw [← c1, hl, c2]
   | false => rw [← c1, hl]; simp only; rw [ih (c3 hl).1, ih (c3 hl).2]
theorem Twin.tolds {p q : Hp} {R : Int → Int → Prop} (t : Twin p q R) {i j : Int} (h : R i j) : zdk p.cs i = zdk q.cs j := by
 have : Tt p.cs i = Tt q.cs j := t.txts 300 h
 unfold zdk zdl
 rw [this]
theorem zhP {p q : Hp} (g : Og p) (room nur : Int) (t : Twins p q) : Twins (zaz false room nur p) q := by
 unfold zaz
 show Twins (match decide (nur ≤ (p.cs.length : Int) - p.o) with
  | true => (match decide (room ≤ ((minH p).cs.length : Int)) with | true => zbo (minH p) | false => minH p)
  | false => (match decide (room ≤ (p.cs.length : Int)) with | true => zbo p | false => p)) q
 have hy := zgl g
 split
 · split
   · exact Twins.full hy.g (Twins.least g.g t)
   · exact Twins.least g.g t
 · split
   · exact Twins.full g.g t
   · exact t
structure LikeQ (v w : Ws) : Prop where
 out : v.out = w.out
 free : w.full = false
 twin : v.full = false → Twins v.h w.h
theorem zgV {room nur r n : Int} {pair : Bool} {a b : Int} {v w : Ws} (g : Og v.h) (h : LikeQ v w) (hf : v.full = false) (hp : pair = true → zac a v.h.rs.length = true ∧ zac b v.h.rs.length = true) : LikeQ (putQ false room nur pair a b v) (putQ true r n pair a b w) := by
 have t := zhP g room nur (h.twin hf)
 have hrs := zcn (fr := false) (room := room) (nur := nur) (h := v.h)
 have hw : putQ true r n pair a b w = ⟨addH w.h (zdj pair a b w.h), false, w.out⟩ := rfl
 rw [hw]
 unfold putQ
 generalize zaz false room nur v.h = p at *
 obtain ⟨R, t⟩ := t
 cases hfu : zcT false room p with
 | true => exact ⟨h.out, rfl, fun e => by cases e⟩
 | false =>
   refine ⟨h.out, rfl, fun _ => ?_⟩
   show Twins (addH p (zdj pair a b p)) (addH w.h (zdj pair a b w.h))
   cases pair with
   | true =>
     obtain ⟨ha, hb⟩ := hp rfl
     rw [← hrs] at ha hb
     exact t.add rfl rfl fun _ => ⟨t.rg ha, t.rg hb⟩
   | false => exact t.add rfl rfl fun e => by cases e
theorem zmo {room nur r n : Int} {k a b : Int} {v w : Ws} (g : Og v.h) (h : LikeQ v w) (hf : v.full = false) : LikeQ (opQ false room nur k a b v) (opQ true r n k a b w) := by
 obtain ⟨R, t⟩ := h.twin hf
 have hlen := t.len
 have keep : ∀ p q, Twins p q → LikeQ ⟨p, v.full, v.out⟩ ⟨q, w.full, w.out⟩ := fun p q tt => ⟨h.out, h.free, fun _ => tt⟩
 have tell : ∀ x y : ByteArray, x = y → LikeQ ⟨v.h, v.full, v.out ++ x⟩ ⟨w.h, w.full, w.out ++ y⟩ := fun x y e => ⟨by show v.out ++ x = w.out ++ y; rw [e, h.out], h.free, fun _ => ⟨R, t⟩⟩
 by_cases k1 : k = 1
 · subst k1
   rw [zkU, zkU, ← hlen]
   cases hd : decide ((v.h.rs.length : Int) < 60) with
   | true => exact zgV g h hf fun e => by cases e
   | false => exact h
 by_cases k2 : k = 2
 · subst k2
   rw [zkM, zkM, ← hlen]
   cases hd : zac a v.h.rs.length && zac b v.h.rs.length && decide ((v.h.rs.length : Int) < 60) with
   | true =>
     simp only [Bool.and_eq_true] at hd
     exact zgV g h hf fun _ => hd.1
   | false => exact h
 by_cases k3 : k = 3
 · subst k3
   rw [zla, zla, ← hlen]
   cases hb : zac a v.h.rs.length with
   | false => simp only [Bool.false_and]; exact h
   | true =>
     obtain ⟨c1, c2, c3⟩ := t.cell (t.rg hb)
     rw [← c1]
     cases hd : true && decide ((v.h.rs.length : Int) < 60) && !(cg v.h.cs (rg v.h a)).l with
     | true =>
       simp only [Bool.and_eq_true, Bool.not_eq_true'] at hd
       exact keep _ _ (t.rooted (c3 hd.2).1)
     | false => exact h
 by_cases k4 : k = 4
 · subst k4
   rw [zlu, zlu, ← hlen]
   cases hb : zac a v.h.rs.length with
   | false => simp only [Bool.false_and]; exact h
   | true =>
     obtain ⟨c1, c2, c3⟩ := t.cell (t.rg hb)
     rw [← c1]
     cases hd : true && decide ((v.h.rs.length : Int) < 60) && !(cg v.h.cs (rg v.h a)).l with
     | true =>
       simp only [Bool.and_eq_true, Bool.not_eq_true'] at hd
       exact keep _ _ (t.rooted (c3 hd.2).2)
     | false => exact h
 by_cases k5 : k = 5
 · subst k5
   rw [zlr, zlr, ← hlen]
   cases hb : zac a v.h.rs.length with
   | false => exact h
   | true => exact keep _ _ (t.dropped hb)
 by_cases k6 : k = 6
 · subst k6
   rw [zlq, zlq, ← hlen]
   cases hb : zac a v.h.rs.length with
   | false => exact h
   | true => exact tell _ _ (by rw [t.tolds (t.rg hb)])
 by_cases k7 : k = 7
 · subst k7
   rw [zk3, zk3, ← hlen]
   cases hb : zac a v.h.rs.length with
   | false => simp only [Bool.false_and]; exact h
   | true =>
     cases hb2 : zac b v.h.rs.length with
     | false => simp only [Bool.and_false]; exact h
     | true =>
       have e := t.one (t.rg hb) (t.rg hb2)
       refine tell _ _ ?_
       by_cases he : rg v.h a = rg v.h b
       · rw [if_pos he, if_pos (e.1 he)]
       · rw [if_neg he, if_neg fun x => he (e.2 x)]
 by_cases k8 : k = 8
 · subst k8
   rw [zlb, zlb]
   exact keep _ _ (Twins.full g.g ⟨R, t⟩)
 by_cases k9 : k = 9
 · subst k9
   rw [zlp, zlp]
   exact keep _ _ (Twins.least g.g ⟨R, t⟩)
 rw [zk5 ⟨k1, k2, k3, k4, k5, k6, k7, k8, k9⟩, zk5 ⟨k1, k2, k3, k4, k5, k6, k7, k8, k9⟩]
 exact h
theorem zlO {r n k a b : Int} {w : Ws} : ∃ t : ByteArray, (opQ true r n k a b w).out = w.out ++ t := by
 have no : ∃ t : ByteArray, w.out = w.out ++ t := ⟨ByteArray.empty, by simp⟩
 have put : ∀ pair, ∃ t : ByteArray, (putQ true r n pair a b w).out = w.out ++ t := fun _ => no
 by_cases k1 : k = 1
 · subst k1
   rw [zkU]
   split
   · exact put _
   · exact no
 by_cases k2 : k = 2
 · subst k2
   rw [zkM]
   split
   · exact put _
   · exact no
 by_cases k3 : k = 3
 · subst k3
   rw [zla]
   split
   · exact no
   · exact no
 by_cases k4 : k = 4
 · subst k4
   rw [zlu]
   split
   · exact no
   · exact no
 by_cases k5 : k = 5
 · subst k5
   rw [zlr]
   split
   · exact no
   · exact no
 by_cases k6 : k = 6
 · subst k6
   rw [zlq]
   split
   · exact ⟨_, rfl⟩
   · exact no
 by_cases k7 : k = 7
 · subst k7
   rw [zk3]
   split
   · exact ⟨_, rfl⟩
   · exact no
 by_cases k8 : k = 8
 · subst k8
   rw [zlb]
   exact no
 by_cases k9 : k = 9
 · subst k9
   rw [zlp]
   exact no
 rw [zk5 ⟨k1, k2, k3, k4, k5, k6, k7, k8, k9⟩]
 exact no
theorem zoM {r n : Int} : ∀ (l : List Op3) (w : Ws), ∃ t : ByteArray, (runQ true r n l w).out = w.out ++ t
 | [], w => ⟨ByteArray.empty, by simp [runQ]⟩
 | x :: l, w => by
   obtain ⟨t, ht⟩ := zlO (r := r) (n := n) (k := x.k) (a := x.a) (b := x.b) (w := w)
   unfold runQ
   split
   · exact ⟨t, ht⟩
   · obtain ⟨u, hu⟩ := zoM l (opQ true r n x.k x.a x.b w)
     exact ⟨t ++ u, by rw [hu, ht, ByteArray.append_assoc]⟩
theorem zgO {room nur r n : Int} (hr : room ≤ 200) : ∀ (l : List Op3) (m : Nat) (v w : Ws), (∀ x ∈ l, In64 x.a) → m + l.length ≤ 150 → Iq false m v → LikeQ v w → v.full = false →
 ∃ t : ByteArray, (runQ true r n l w).out = (runQ false room nur l v).out ++ t ∧ ((runQ false room nur l v).full = false → t = ByteArray.empty)
 | [], m, v, w, ha, hm, hi, h, hf => ⟨ByteArray.empty, by simp [runQ, h.out], fun _ => rfl⟩
 | x :: l, m, v, w, ha, hm, hi, h, hf => by
   have hm : m + (l.length + 1) ≤ 150 := by simpa using hm
   have h1 := zmo (room := room) (nur := nur) (r := r) (n := n) (k := x.k) (a := x.a) (b := x.b) hi.g h hf
   have hi1 := zhl (room := room) (nur := nur) (k := x.k) (b := x.b) hi (fun _ => hr) (by omega) (ha x (by simp))
   unfold runQ
   rw [h1.free]
   simp only
   cases hv : (opQ false room nur x.k x.a x.b v).full with
   | true =>
     obtain ⟨t, ht⟩ := zoM (r := r) (n := n) l (opQ true r n x.k x.a x.b w)
     refine ⟨t, ?_, fun e => ?_⟩
     · rw [ht, h1.out]
     · exact absurd (hv.symm.trans e) (by decide)
   | false => exact zgO hr l (m + 1) _ _ (fun y hy => ha y (by simp [hy])) (by omega) hi1 h1 hv
theorem zn4 : LikeQ w00 w00 := ⟨rfl, rfl, fun _ => ⟨_, Twin.self (iq00 false).g.g⟩⟩
theorem zpQ (L : List Op3) (ha : ∀ x ∈ L, In64 x.a) (room nur : Int) (h : (zcy L room nur).2.2 = true) :
 (zez L).2 = true ∧ ∃ t : ByteArray, (zez L).1 = (zcy L room nur).1 ++ t ∧ ((zcy L room nur).2.1 = false → t = ByteArray.empty) := by
 unfold zcy at h ⊢
 unfold zez
 cases h1 : decide (150 < (L.length : Int)) with
 | true => rw [h1] at h; exact absurd h (by simp)
 | false =>
   cases h2 : inB room 0 200 with
   | false => rw [h1, h2] at h; exact absurd h (by simp)
   | true =>
     cases h3 : inB nur 1 200 with
     | false => rw [h1, h2, h3] at h; exact absurd h (by simp)
     | true =>
       simp only [Bool.not_true, Bool.or_self]
       refine ⟨trivial, zgO ?_ L 0 w00 w00 ha (by have := of_decide_eq_false h1; omega) (iq00 false) zn4 rfl⟩
       simp [inB] at h2
       omega
theorem zp4 (L : List Op3) (room nur : Int) (h : (zcy L room nur).2.2 = false) : (zcy L room nur).1 = ByteArray.mk #[] := by
 unfold zcy at h ⊢
 cases hd : decide (150 < (L.length : Int)) || !inB room 0 200 || !inB nur 1 200 with
 | true => rfl
 | false => rw [hd] at h; exact absurd h (by simp)
end Go.Den
namespace Go.Den
open Go
set_option linter.unusedVariables false
set_option maxRecDepth 100000
theorem zmy {cs : List Dat} (hb : Bs cs) : ∃ (L : List Op3) (room nur : Int), (∀ x ∈ L, In64 x.a) ∧ EvN 400 35 [.dat (.lst false cs)] [] [] ([.own 72 (OD L), .dat (I room), .dat (I nur)], [], []) := by
 obtain ⟨L, q1, w1, ha, hl, b1, c1, e1⟩ := zna hb 0 0 (by omega) (by omega)
 obtain ⟨z, q2, w2, b2, c2, _, _, e2⟩ := zbR hb 40 q1 w1 (by omega) (by omega) (by omega)
 obtain ⟨g, q3, w3, b3, c3, e3⟩ := zgY hb 12 q2 w2 (by omega) (by omega) (by omega)
 obtain ⟨x, q4, w4, hx, b4, c4, e4⟩ := zdO hb true [-1, 0, 200, 201] q3 w3 (by omega) (by omega) (by decide)
 by_cases hg : g = true
 · obtain ⟨y, q5, w5, b5, c5, _, _, e5⟩ := zbR hb 12 q4 w4 (by omega) (by omega) (by omega)
   obtain ⟨g2, q6, w6, b6, c6, e6⟩ := zgY hb 20 q5 w5 (by omega) (by omega) (by omega)
   obtain ⟨v, q7, w7, hv, b7, c7, e7⟩ := zdO hb true [0, 200, 201] q6 w6 (by omega) (by omega) (by decide)
   refine ⟨L, x, if g2 = true then v else w64 (1 + y), ha, zaO Go.Proofs.Tryd.f35 399 (by kernel_rfl) (by kernel_rfl) fun kk hkk => ?_⟩
   exact zoz kk cs (OD L) z x y v g g2 q1 w1 q2 w2 q3 w3 q4 w4 q5 w5 q6 w6 q7 w7
    (fun _ d => ⟨e1 kk (by omega), e2 kk (by omega), e3 kk (by omega), e4 kk (by omega), zf4 hb _ _, e5 kk (by omega), e6 kk (by omega), e7 kk (by omega), zf4 hb _ _, by rw [if_pos d]⟩)
    (fun _ d => ⟨e1 kk (by omega), e2 kk (by omega), e3 kk (by omega), e4 kk (by omega), zf4 hb _ _, e5 kk (by omega), e6 kk (by omega), by rw [if_neg (by rw [d]; decide)]⟩)
    (fun d => absurd (hg.symm.trans d) (by decide)) (fun d => absurd (hg.symm.trans d) (by decide))
 · obtain ⟨y, q5, w5, b5, c5, _, _, e5⟩ := zbR hb 12 q3 w3 (by omega) (by omega) (by omega)
   obtain ⟨g2, q6, w6, b6, c6, e6⟩ := zgY hb 20 q5 w5 (by omega) (by omega) (by omega)
   obtain ⟨v, q7, w7, hv, b7, c7, e7⟩ := zdO hb true [0, 200, 201] q6 w6 (by omega) (by omega) (by decide)
   refine ⟨L, w64 (3 + z), if g2 = true then v else w64 (1 + y), ha, zaO Go.Proofs.Tryd.f35 399 (by kernel_rfl) (by kernel_rfl) fun kk hkk => ?_⟩
   exact zoz kk cs (OD L) z x y v g g2 q1 w1 q2 w2 q3 w3 q4 w4 q5 w5 q6 w6 q7 w7
    (fun d => absurd d hg) (fun d => absurd d hg)
    (fun _ d => ⟨e1 kk (by omega), e2 kk (by omega), e3 kk (by omega), e5 kk (by omega), e6 kk (by omega), e7 kk (by omega), zf4 hb _ _, by rw [if_pos d]⟩)
    (fun _ d => ⟨e1 kk (by omega), e2 kk (by omega), e3 kk (by omega), e5 kk (by omega), e6 kk (by omega), by rw [if_neg (by rw [d]; decide)]⟩)
theorem fnUnseen_den : ∀ d0 : Dat, WT cfg.ty 45 d0 → ∃ k, den cfg k 10 [.dat d0] [] [] = some ([.dat (.val (.bool true))], [], []) := by
 intro d0 w0
 obtain ⟨cs, rfl, hb⟩ := zon w0
 obtain ⟨L, room, nur, ha, e0⟩ := zmy hb
 refine ⟨1100001, zaO Go.Proofs.Tryd.f10 1100000 (by kernel_rfl) (by kernel_rfl) (fun kk hkk => ?_) (by kernel_rfl) 1100001 (Nat.le_refl _)⟩
 have E0 := e0 kk (by omega)
 have E1 := zmw true L room nur ha kk (by omega)
 have E2 := zmm true L room nur ha kk (by omega)
 have E3 := zld true L ha kk (by omega)
 have ht := zpQ L ha room nur
 have hn := zp4 L room nur
 generalize (zcy L room nur).1 = s at *
 generalize (zcy L room nur).2.1 = f at *
 generalize (zcy L room nur).2.2 = k at *
 generalize (zez L).1 = m at *
 generalize (zez L).2 = g at *
 have hk : ∀ {p : Prop}, (!k) = false → (g = true → (∃ t : ByteArray, m = s ++ t ∧ (f = false → t = ByteArray.empty)) → p) → p := fun d c => by
  obtain ⟨h1, h2⟩ := ht (by simpa using d)
  exact c h1 h2
 have hsz : ∀ t : ByteArray, (s ++ t).size = s.size + t.size := fun t => ByteArray.size_append
 have hex : ∀ t : ByteArray, (s ++ t).extract 0 s.size = s := fun t => ByteArray.extract_append_eq_left rfl
 refine zl6 kk cs (OD L) room nur s s m f k f k g (fun _ => rfl) (fun _ d => absurd d (by simp)) (fun _ _ d => absurd d (by simp)) (fun _ _ _ d => absurd d (by simp))
  (fun _ _ _ _ d => ⟨E0, E1, E2, by rw [hn (by simpa using d)]; rfl⟩) (fun _ _ _ _ d d6 d7 d8 d9 => ⟨E0, E1, E2, E3, ?_, rfl⟩) (fun _ _ _ _ d d6 d7 d8 d9 => ⟨E0, E1, E2, E3, ?_, ?_⟩)
  (fun _ _ _ _ d d6 d7 d8 => hk d fun _ ⟨t, h1, _⟩ => absurd (of_decide_eq_false d8) ?_) (fun _ _ _ _ d d6 d7 => hk d fun _ ⟨t, h1, _⟩ => absurd (of_decide_eq_false d7) ?_) (fun _ _ _ _ d d6 => hk d fun h _ => absurd (h.symm.trans d6) (by decide))
 · have := of_decide_eq_true d7
   show (0 : Int) ≤ 0 ∧ (0 : Int) ≤ (s.size : Int) ∧ (s.size : Int) ≤ (m.size : Int)
   omega
 · have := of_decide_eq_true d7
   show (0 : Int) ≤ 0 ∧ (0 : Int) ≤ (s.size : Int) ∧ (s.size : Int) ≤ (m.size : Int)
   omega
 · refine hk d fun _ ⟨t, h1, h2⟩ => ?_
   have h3 := h2 d9
   subst h3
   rw [h1, show s ++ ByteArray.empty = s by simp, decide_eq_true rfl]
 · rw [h1]
   refine not_not_intro ?_
   show (s ++ t).extract 0 s.size = s
   exact hex t
 · rw [h1, hsz]
   refine not_not_intro ?_
   omega
end Go.Den
namespace Go.Proofs.YtcmcfebihbmmeaaDoor.fnUnseen
open Go.ChangeShapes Go.WideShapes Go.ChangeAt Go.RowKit Go.Den
set_option linter.unusedVariables false
theorem own : ownKnob Tryd.prog.godebug = none := by kernel_rfl
theorem zpk : laidOutB Tryd.prog = true := by kernel_rfl
theorem body : (Tryd.f10.body).isSome = true := by kernel_rfl
theorem fnThere : cfg.fn 10 = some Tryd.f10 := by kernel_rfl
theorem zpn : zds cfg.ty 8 45 = true := by kernel_rfl
noncomputable def low : Nat := (World.holding Tryd.prog default ⟨#[], #[], []⟩).heap.size
def setG (h : Array Obj) (g : Nat) (c : Array Value) : Array Obj := h.modify g fun
 | .cells _ t frozen => .cells c t frozen
 | o => o
def vals (d : DataW Unit) : Array Value := match d with
 | .agg l => (l.map fun | .lit (.int k n) => Value.int k n | _ => .nilIface).toArray
 | _ => #[]
noncomputable def zip (os : Os) : World :=
 let w0 := World.holding Tryd.prog os ⟨#[.cells #[.string ⟨#[118, 97, 108, 117, 101, 32, 111, 117, 116, 32, 111, 102, 32, 114, 97, 110, 103, 101]⟩] 187, .cells #[.string ⟨#[105, 110, 118, 97, 108, 105, 100, 32, 115, 121, 110, 116, 97, 120]⟩] 187], #[], []⟩
 { w0 with heap := setG (setG (setG (setG (setG (w0.heap) 3 (vals Rows.laid_math_bits_deBruijn32tab)) 4 (vals Rows.laid_math_bits_deBruijn64tab)) 0 (vals Rows.laid_internal_strconv_uint64pow10)) 2 #[.iface 185 (.pointer (some ⟨low + 0, 0, none⟩))]) 1 #[.iface 185 (.pointer (some ⟨low + 1, 0, none⟩))] }
theorem znJ (os : Os) (args : Array Value) : laidMetH Tryd.prog Rows.fnUnseenRow.laid ((zip os).forCall (fun _ _ => 0) ⟨#[], args, []⟩).memory :=
 laidMetH_of_parts (laidMet_of_run (ps := (List.range 32).map (MemPlace.cell 3 ·) ++ (List.range 64).map (MemPlace.cell 4 ·) ++ (List.range 20).map (MemPlace.cell 0 ·) ++ [.cell 2 0, .cell (low + 0) 0] ++ [.cell 1 0, .cell (low + 1) 0]) 8 (by kernel_rfl) (by kernel_rfl) (by kernel_rfl)) (by kernel_rfl)
set_option maxRecDepth 100000 in
theorem zoJ (os : Os) (started : os.Started) (H : Type) (enc : TypeId × Value → H) :
 ReturnsInHanded {} Tryd.checked os 10 .any (fun w args => (Rows.fnUnseenSpec.pre enc Tryd.prog Tryd.f10 Rows.fnUnseenRow.domain false w args ∧ laidMetH Tryd.prog Rows.fnUnseenRow.laid w) ∧ sizedMet enc Tryd.prog Tryd.f10 (OpenSpec.ofChange Rows.fnUnseenSpec) false w args) (Rows.fnUnseenSpec.post enc Tryd.prog Tryd.f10 false true false false) := by
 refine returnsInHanded_of_change_and (C := Tryd.checked) (X := fun w _ => laidMetH Tryd.prog Rows.fnUnseenRow.laid w) (fun _ _ _ hh h => h.of_heap hh) own started (by kernel_rfl) Tryd.func10
  (ChangeSpec.witness_at (enc := enc) (C := Tryd.checked) (os := os) (X := fun w _ => laidMetH Tryd.prog Rows.fnUnseenRow.laid w) false (zip os) #[.slice none 0 0] 8 rfl (by kernel_rfl) (by kernel_rfl) (by kernel_rfl) (by kernel_rfl) (by kernel_rfl) (znJ os _)) ?_
 intro W base args ds gs before hval0 hW hcnd _ hL _
 have hTab : Lib.TabIs Tryd.prog W "internal/strconv.uint64pow10" .u64 Lib.pow10Tab := Lib.tabIs_of_head (g := 0) (by kernel_rfl) (t := 162) (by kernel_rfl) (e := 90) (n := 20) (by kernel_rfl) (by kernel_rfl) (by kernel_rfl) (by kernel_rfl) (laidMet.tail (laidMet.tail (show laidMet Tryd.prog Rows.fnUnseenRow.laid W from hL)))
 obtain ⟨pErr, hErr⟩ := zqn (laidMet.tail (laidMet.tail (laidMet.tail (laidMet.tail (show laidMet Tryd.prog Rows.fnUnseenRow.laid W from hL)))))
 have hval : ∀ (j : Nat) t v, Tryd.f10.params[j]? = some t → args[j]? = some v → Value.okWide Tryd.prog W .any base t v := hval0
 have hW' := hW
 obtain ⟨p, q, hA0, hV, rfl, hfz, hnd⟩ := hW
 have hA : DataW.TrodAll enc Tryd.prog W 0 (fun _ => true) true Tryd.f10.params.toList args.toList ds p := hA0
 rw [Tryd.params10] at hA hval
 obtain ⟨v0, vs0, d0, ds0, p0, q0, hargs, rfl, rfl, h0, r0⟩ := trodAll_cons hA
 obtain ⟨rfl, rfl, rfl⟩ := trodAll_nil r0
 obtain rfl : args = #[v0] := by cases args; simp_all
 obtain ⟨rfl, rfl⟩ := trodVars_none hV
 have k0 := h0
 have lt0 : ∀ x ∈ p0, x.block < W.heap.size := by obtain ⟨m, hm⟩ := k0; exact DataW.trod_lt m _ _ _ hm
 obtain ⟨e0, cv0, R0, V0, T0⟩ := zpz zj1 zpn (hval 0 45 v0 rfl rfl) h0
 clear hA0 hval0
 have hden := fnUnseen_den e0 T0
 refine (zmx (P := Tryd.prog) (C := cfg) (f := 10) (fn := Tryd.f10) (vals := #[v0]) (ds := [e0]) (W := W) (b := true) (B := zbF Tryd.prog W "internal/strconv.uint64pow10" "strconv.ErrSyntax") (znv (zoS hTab hErr)).out (zoy fnThere) body rfl (fun j d v hj hv => ?_) (fun g o h => zmW h) hden).mono fun e W' hh => ?_
 · match j, hj, hv with
   | 0, hj, hv => cases hj; cases hv; exact ⟨cv0, R0, V0⟩
   | j + 1, hj, hv => simp at hj
 · obtain ⟨he, bel⟩ := hh
   subst he
   exact ⟨_, rfl, _, _, _, [], _, [], hW', trodAll_mk1 (shut_bool Tryd.underlying4 _), (trodAll_cons_mk (Below.trod zpk (by kernel_rfl) (of_decide_eq_true (by kernel_rfl)) k0 bel lt0) trodAll_mk0), rfl, bel.frame _, fun h => by cases h⟩
theorem over : Rows.fnUnseenRow.holds Tryd.pinned (OpenSpec.ofChange Rows.fnUnseenSpec) :=
 OpenClaim.holds_of_wide 10 Tryd.f10 rfl rfl rfl rfl rfl rfl rfl ⟨rfl, rfl, rfl, rfl, rfl⟩ rfl rfl rfl rfl rfl (by kernel_rfl) Tryd.func10 (by kernel_rfl)
  (of_decide_eq_true (by kernel_rfl)) (by unfold Func.isWrapper; first | (rw [if_pos (by decide +kernel)]; kernel_rfl) | (rw [if_neg (by decide +kernel)]; exact ⟨rfl, rfl⟩))
  (fun os started H enc _ => zoJ os started H enc)
theorem proved : Rows.FnUnseenSaid := over
end Go.Proofs.YtcmcfebihbmmeaaDoor.fnUnseen
namespace Go.Proofs.YtcmcfebihbmmeaaDoor
theorem fnUnseen_holds : Rows.FnUnseenSaid := fnUnseen.proved
end Go.Proofs.YtcmcfebihbmmeaaDoor
namespace Go.Proofs.YtcmcfebihbmmeaaDoor
open Go
theorem fnUnseenCard_holds : Rows.FnUnseenCardSaid :=
 Claim7.holds_tied_plain_at .later [] [.data, .data, .data, .sentinel, .sentinel] true (true, "6ff86e34f5ef3fa93c68ab0da54ea809c76b7496032f1ace8724b71ef3b8924e") true
  fnUnseen_holds (fun _ h => by cases h) (by kernel_rfl) (fun _ h => by cases h) fnUnseen_row_tie rfl ⟨rfl, rfl⟩ (by kernel_rfl) rfl
  (fun f fn hf hfn => by
   obtain rfl : f = 10 := Option.some.inj ((show Tryd.prog.funcNamed Rows.fnUnseenRow.func = some 10 by kernel_rfl).symm.trans hf) |>.symm
   obtain rfl : fn = Tryd.f10 := (Option.some.inj (Tryd.func10.symm.trans hfn)).symm
   exact ⟨by kernel_rfl, fun j t ht => by
    rw [Tryd.params10] at ht
    match j, ht with
    | 0, ht => cases ht; exact (show Tryd.prog.wantsStandIn 45 = false by kernel_rfl)
    | j + 1, ht => simp at ht⟩)
  (by kernel_rfl)
end Go.Proofs.YtcmcfebihbmmeaaDoor
