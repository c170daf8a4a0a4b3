/- Merged out of: EK EM EL YFnExactModelWrites YFnExactPlayWrites LFnExactPlayWrites LFnExactPlayWritesCard (prune.py, a program of this work's). -/
import Derived.Test.YtcmcfebihbmmeaaDoorZc8
import Derived.Test.YtcmcfebihbmmeaaDoorZc6
import Derived.Test.YtcmcfebihbmmeaaDoorZc5
import Derived.Test.YtcmcfebihbmmeaaDoorZc7
import Derived.KernelRfl
import Derived.LaidHandle
import Derived.Handed
import Derived.Stop.LaidErr
import Derived.Lib.LaidTab
import Derived.Test.YtcmcfebihbmmeaaDoorRows
import Derived.WalkKit
import Derived.ProofKit
import Derived.OpenShut
import Derived.ShutString
import Derived.ChangeOld
import Derived.Below
import Derived.Test.YtcmcfebihbmmeaaDoorCards
import Derived.Test.YtcmcfebihbmmeaaDoorTie
import Derived.SevenTiedAt
set_option linter.unusedVariables false
set_option linter.unusedSimpArgs false
set_option linter.unnecessarySimpa false
namespace Go.Den
open Go
set_option linter.unusedVariables false
set_option maxRecDepth 100000
open Go.Proofs.YtcmcfebihbmmeaaDoor (num numV)
theorem zmF (x y : ByteArray) : zai (x ++ y) = zai x ++ zai y := by simp [zai]
theorem zhJ (x : ByteArray) : (zai x).length = x.size := by simp [zai]
theorem zk3 (x : ByteArray) : (zai x).all (fun d => Nat.beq d.cells.length 1) = true := zg1 (fun b : UInt8 => Dat.val (.int .u8 b.toNat)) 1 (fun _ => rfl) x.data.toList
theorem zg3 (w : Ws) (room nur : Int) (t : ByteArray) (h1 : w.out.size ≤ 1000000) (h2 : t.size ≤ 1000000) : EvN 1 126 [.ptr (.up 0) 0, .dat (S t)] [WrD w room nur] [] ([], [WrD ⟨w.h, w.full, w.out ++ (t ++ nlB)⟩ room nur], []) := by
 refine zax Go.Proofs.Tryd.f126 0 (by kernel_rfl) (by kernel_rfl) fun kk hkk => ?_
 have hn1 : (ByteArray.mk #[10]).size = 1 := rfl
 exact tellW kk w.h.o _ _ _ (zai w.out) room nur w.full t ⟨by omega, ⟨zk3 _, by rw [zhJ, zhJ, ByteArray.size_append]; omega⟩, by rw [← zmF]⟩
theorem zjP (w : Ws) (room nur : Int) (g : Hg w.h) (a : Int) : EvN 3 96 [.ptr (.up 0) 0, .dat (I a)] [WrD w room nur] [] ([.dat (I (match zad a w.h.rs.length with | true => rg w.h a | false => 0)), .dat (B (zad a w.h.rs.length))], [WrD w room nur], []) := by
 refine zax Go.Proofs.Tryd.f96 2 (by kernel_rfl) (by kernel_rfl) fun kk hkk => ?_
 have hlr : ((ID w.h.rs).length : Int) = (w.h.rs.length : Int) := by simp
 have h43 := zkv a ((ID w.h.rs).length : Int) kk (by omega)
 rw [hlr] at h43
 rw [← hlr] at h43
 have hA := fun h => zfn g (a := a) h
 refine rootW kk w.h.o _ _ _ _ room nur w.full a (zad a w.h.rs.length) (rg w.h a) (fun d => ⟨by rw [hlr] at h43 ⊢; exact h43, ?_⟩) (fun d => ?_)
 · simp only [Bool.not_eq_true'] at d
   rw [d]
 · simp only [Bool.not_eq_false'] at d
   exact ⟨by rw [hlr] at h43 ⊢; exact h43, (hA d).1, (hA d).2.1, by rw [d]⟩
theorem zjs (w : Ws) (room nur : Int) (g : Hg w.h) (at_ : Int) (second : Bool) (ha : 0 ≤ at_ ∧ at_ < (w.h.cs.length : Int)) : EvN 1 125 [.ptr (.up 0) 0, .dat (I at_), .dat (B second)] [WrD w room nur] [] ([], [WrD (match decide ((w.h.rs.length : Int) < 60) && !(cg w.h.cs at_).l with | true => zlZ w second at_ | false => w) room nur], []) := by
 refine zax Go.Proofs.Tryd.f125 0 (by kernel_rfl) (by kernel_rfl) fun kk hkk => ?_
 have hrl := g.rlen
 have hlr : ((ID w.h.rs).length : Int) = (w.h.rs.length : Int) := by simp
 have lr : (ID w.h.rs).length + 1 ≤ 2147483648 := by simp; omega
 have hc := zf1 (c := w.h.cs) ha.1 ha.2
 have h1 : decide (60 ≤ ((ID w.h.rs).length : Int)) = true → decide ((w.h.rs.length : Int) < 60) = false := fun d => by
  have := of_decide_eq_true d
  rw [hlr] at this
  simp; omega
 have h2 : decide (60 ≤ ((ID w.h.rs).length : Int)) = false → decide ((w.h.rs.length : Int) < 60) = true := fun d => by
  have := of_decide_eq_false d
  rw [hlr] at this
  simp; omega
 exact partW kk w.h.o _ _ _ _ room nur w.full at_ second (cg w.h.cs at_) (fun d => ⟨hc.1, hc.2, by rw [d, Bool.not_true, Bool.and_false]⟩) (fun d d2 => ⟨hc.1, hc.2, by rw [d, h1 d2]; rfl⟩) (fun d d2 d3 => ⟨hc.1, hc.2, lr, by rw [d, h2 d2, d3, zfK]; rfl⟩) (fun d d2 d3 => ⟨hc.1, hc.2, lr, by rw [d, h2 d2, d3, zfK]; rfl⟩)
def One (k : Int) : Prop := k = 3 ∨ k = 4 ∨ k = 5 ∨ k = 6
def Two (k : Int) : Prop := k = 2 ∨ k = 7 ∨ k = 8 ∨ k = 9
theorem znQ (fr : Bool) (room nur : Int) (k a b : Int) (hk : One k) (w : Ws) (g : Hg w.h) (ho : w.out.size ≤ 1000000) (ha : zad a w.h.rs.length = true) : EvN 20 97 [.ptr (.up 0) 0, .dat (N3 k a b), .dat (I (rg w.h a))] [WrD w room nur] [] ([], [WrD (opW fr room nur k a b w) room nur], []) := by
 refine zax Go.Proofs.Tryd.f97 19 (by kernel_rfl) (by kernel_rfl) fun kk hkk => ?_
 have hri := zcN g ha
 have hrl := g.rlen
 rcases hk with rfl | rfl | rfl | rfl
 · have h := zjs w room nur g (rg w.h a) false hri kk (by omega)
   have h : den cfg kk 125 [.ptr (.up 0) 0, .dat (I (rg w.h a)), .dat (B false)] [WrD w room nur] [] = some ([], [WrD (opW fr room nur 3 a b w) room nur], []) := by
    rw [zoB, ha, Bool.true_and]
    exact h
   generalize opW fr room nur 3 a b w = p at h ⊢
   exact zoM kk w.h.o _ _ _ _ room nur w.full a b (rg w.h a) _ _ _ _ _ _ ⟨h, rfl⟩
 · have h := zjs w room nur g (rg w.h a) true hri kk (by omega)
   have h : den cfg kk 125 [.ptr (.up 0) 0, .dat (I (rg w.h a)), .dat (B true)] [WrD w room nur] [] = some ([], [WrD (opW fr room nur 4 a b w) room nur], []) := by
    rw [zo4, ha, Bool.true_and]
    exact h
   generalize opW fr room nur 4 a b w = p at h ⊢
   exact zor kk w.h.o _ _ _ _ room nur w.full a b (rg w.h a) _ _ _ _ _ _ ⟨h, rfl⟩
 · obtain ⟨⟨a0, a1⟩, _⟩ := zmu ha
   have h109 := zpo w.h.rs a a0 a1 (by omega) kk (by omega)
   have hw : w64 (a + 1) = a + 1 := zca (by omega)
   rw [← hw] at h109
   rw [zpa, ha]
   exact zoP kk w.h.o _ _ _ _ room nur w.full a b (rg w.h a) 0 [] [] [] [] true (ID w.h.rs) _ ⟨by show ((Dat.cleans (ID w.h.rs) && true) : Bool) = true; rw [zhg]; rfl, zdR true w.h.rs (by omega) kk (by omega), h109, rfl⟩
 · have hsz := zbw w.h.cs g.cells 4 (rg w.h a)
   have h44 := znn true w.h.o w.h.cs (ID w.h.rs) (ID w.h.ns) g.cells 4 (rg w.h a) (by omega) hri.1 hri.2 kk (by omega)
   have h126 := zg3 w room nur (showB w.h.cs 4 (rg w.h a)) ho (by omega) kk (by omega)
   rw [zoG, ha]
   exact zos kk w.h.o _ _ _ _ room nur w.full a b (rg w.h a) _ _ _ _ _ _ (showB w.h.cs 4 (rg w.h a)) ⟨h44, h126, rfl⟩
theorem zla (h : Hp) (bs : List Dat) (room nur : Int) (full : Bool) (c : Cl) (g : Hg h) : EvN 1 95 [.ptr (.up 0) 0, .dat c.d] [Wr h.o (CD h.cs) (ID h.rs) (ID h.ns) bs room nur full] [] ([], [Wr (addH h c).o (CD (addH h c).cs) (ID (addH h c).rs) (ID (addH h c).ns) bs room nur full], []) := by
 refine zax Go.Proofs.Tryd.f95 0 (by kernel_rfl) (by kernel_rfl) fun kk hkk => ?_
 have hcl := g.clen
 have hrl := g.rlen
 refine putW kk h.o _ _ _ bs room nur full c ⟨by simp; omega, by simp; omega, ?_⟩
 have e1 := zmE h.cs c
 have e3 := zfK h.rs (h.cs.length : Int)
 show (([], [Wr h.o (CD (h.cs ++ [c])) (ID (h.rs ++ [(h.cs.length : Int)])) (ID h.ns) bs room nur full], []) : Res) = _
 rw [← e1, ← e3]
 have : ((CD h.cs).length : Int) = (h.cs.length : Int) := by simp
 rw [this]
theorem zo1 : ByteArray.mk #[115, 97, 109, 101] ++ nlB = sameB := rfl
theorem znv : ByteArray.mk #[111, 116, 104, 101, 114] ++ nlB = otherB := rfl
theorem zno (fr : Bool) (room nur : Int) (hfr : fr = decide (room < 0)) (k a b : Int) (hk : Two k) (w : Ws) (g : Hg w.h) (hf : w.full = false) (ho : w.out.size ≤ 1000000) (ha : zad a w.h.rs.length = true) (hb : zad b w.h.rs.length = true) :
 EvN 1050300 98 [.ptr (.up 0) 0, .dat (N3 k a b), .dat (I (rg w.h a)), .dat (I (rg w.h b))] [WrD w room nur] [] ([], [WrD (opW fr room nur k a b w) room nur], []) := by
 refine zax Go.Proofs.Tryd.f98 1050299 (by kernel_rfl) (by kernel_rfl) fun kk hkk => ?_
 have hri := zcN g ha
 have hc := zf1 (c := w.h.cs) hri.1 hri.2
 rcases hk with rfl | rfl | rfl | rfl
 · rw [znc, ha, hb, Bool.true_and, Bool.true_and]
   by_cases h60 : w.h.rs.length < 60
   · have hd : decide ((w.h.rs.length : Int) < 60) = true := by simp; omega
     rw [hd]
     have h94 := zfU fr room nur hfr w.h g (zai w.out) h60 kk (by omega)
     rw [← hf] at h94
     have gt := zdK (fr := fr) (room := room) (nur := nur) g
     have hrs := zd9 (fr := fr) (room := room) (nur := nur) (h := w.h)
     unfold putO
     generalize zbn fr room nur w.h = t at *
     obtain ⟨a1, a2, _⟩ := zfn gt (a := a) (by rw [hrs]; exact ha)
     obtain ⟨b1, b2, _⟩ := zfn gt (a := b) (by rw [hrs]; exact hb)
     refine zlw kk w.h.o _ _ _ _ room nur w.full a b (rg w.h a) (rg w.h b) (addH t (zex true a b t)).o _ _ _ _ (zcd fr room t) t.o _ _ _ (zcd fr room t) (!zcd fr room t) (rg t a) (rg t b) (fun d => ⟨h94, a1, a2, b1, b2, zla t (zai w.out) room nur (zcd fr room t) (zex true a b t) gt kk (by omega), ?_⟩) (fun d => ⟨h94, ?_⟩)
     · simp only [Bool.not_eq_true'] at d
       rw [d]
     · simp only [Bool.not_eq_false'] at d
       rw [d]
   · have hd : decide ((w.h.rs.length : Int) < 60) = false := by simp; omega
     rw [hd]
     have h94 := zda room nur w.h (zai w.out) w.full (by omega) kk (by omega)
     exact zlw kk w.h.o _ _ _ _ room nur w.full a b (rg w.h a) (rg w.h b) 0 [] [] [] [] true w.h.o _ _ _ w.full false 0 0 (fun d => by cases d) (fun d => ⟨h94, rfl⟩)
 · rw [znC, ha, hb, Bool.true_and, Bool.true_and]
   exact zov kk w.h.o _ _ _ _ room nur w.full a b (rg w.h a) (rg w.h b) _ _ _ _ _ _ (cg w.h.cs (rg w.h a)) (fun d => ⟨hc.1, hc.2, zl8 w.h g (zai w.out) room nur w.full (rg w.h a) false (rg w.h b) hri kk (by omega), by rw [d]⟩) (fun d => ⟨hc.1, hc.2, by rw [d]⟩)
 · rw [zmX, ha, hb, Bool.true_and, Bool.true_and]
   exact zpc kk w.h.o _ _ _ _ room nur w.full a b (rg w.h a) (rg w.h b) _ _ _ _ _ _ (cg w.h.cs (rg w.h a)) (fun d => ⟨hc.1, hc.2, zl8 w.h g (zai w.out) room nur w.full (rg w.h a) true (rg w.h b) hri kk (by omega), by rw [d]⟩) (fun d => ⟨hc.1, hc.2, by rw [d]⟩)
 · rw [zn3, ha, hb, Bool.true_and]
   by_cases he : rg w.h a = rg w.h b
   · have h126 := zg3 w room nur (ByteArray.mk #[115, 97, 109, 101]) ho (by decide) kk (by omega)
     rw [zo1] at h126
     rw [if_pos he]
     have hd : decide (rg w.h a = rg w.h b) = true := by simpa using he
     exact zlf kk w.h.o _ _ _ _ room nur w.full a b (rg w.h a) (rg w.h b) _ _ _ _ _ _ _ ⟨by rw [hd]; rfl, h126, rfl⟩
   · have h126 := zg3 w room nur (ByteArray.mk #[111, 116, 104, 101, 114]) ho (by decide) kk (by omega)
     rw [znv] at h126
     rw [if_neg he]
     have hd : decide (rg w.h a = rg w.h b) = false := by simpa using he
     exact zlf kk w.h.o _ _ _ _ room nur w.full a b (rg w.h a) (rg w.h b) _ _ _ _ _ _ _ ⟨by rw [hd]; rfl, h126, rfl⟩
theorem zpK (fr : Bool) (room nur : Int) (hfr : fr = decide (room < 0)) (k a b : Int) (w : Ws) (g : Hg w.h) (hf : w.full = false) (ho : w.out.size ≤ 1000000) : EvN 1050400 77 [.ptr (.up 0) 0, .dat (N3 k a b)] [WrD w room nur] [] ([], [WrD (opW fr room nur k a b w) room nur], []) := by
 refine zax Go.Proofs.Tryd.f77 1050399 (by kernel_rfl) (by kernel_rfl) fun kk hkk => ?_
 have n : ∀ j : Int, k ≠ j → decide (k = j) = false := fun j h => by simpa using h
 by_cases k1 : k = 1
 · subst k1
   rw [zpy]
   by_cases h60 : w.h.rs.length < 60
   · have hd : decide ((w.h.rs.length : Int) < 60) = true := by simp; omega
     rw [hd]
     have h94 := zfU fr room nur hfr w.h g (zai w.out) h60 kk (by omega)
     rw [← hf] at h94
     have gt := zdK (fr := fr) (room := room) (nur := nur) g
     unfold putO
     generalize zbn fr room nur w.h = t at *
     refine zpT kk w.h.o _ _ _ _ room nur w.full a b (addH t (zex false a b t)).o _ _ _ _ (zcd fr room t) t.o _ _ _ (zcd fr room t) (!zcd fr room t) (fun d => ⟨h94, zla t (zai w.out) room nur (zcd fr room t) (zex false a b t) gt kk (by omega), ?_⟩) (fun d => ⟨h94, ?_⟩)
     · simp only [Bool.not_eq_true'] at d
       rw [d]
     · simp only [Bool.not_eq_false'] at d
       rw [d]
   · have hd : decide ((w.h.rs.length : Int) < 60) = false := by simp; omega
     rw [hd]
     have h94 := zda room nur w.h (zai w.out) w.full (by omega) kk (by omega)
     exact zpT kk w.h.o _ _ _ _ room nur w.full a b 0 [] [] [] [] true w.h.o _ _ _ w.full false (fun d => by cases d) (fun d => ⟨h94, rfl⟩)
 have A1 := zjP w room nur g a kk (by omega)
 have B1 := zjP w room nur g b kk (by omega)
 have o97 := fun (h : ¬ One k) at_ => zk9 (kk - 1) w.h.o (CD w.h.cs) (ID w.h.rs) (ID w.h.ns) (zai w.out) room nur w.full k a b at_ (n 3 fun e => h (.inl e)) (n 4 fun e => h (.inr (.inl e))) (n 5 fun e => h (.inr (.inr (.inl e)))) (n 6 fun e => h (.inr (.inr (.inr e))))
 have e97 : ¬ One k → ∀ at_ : Int, den cfg kk 97 [.ptr (.up 0) 0, .dat (N3 k a b), .dat (I at_)] [WrD w room nur] [] = some ([], [WrD w room nur], []) := fun h at_ => (zax Go.Proofs.Tryd.f97 0 (by kernel_rfl) (by kernel_rfl) fun kk _ => zk9 kk w.h.o (CD w.h.cs) (ID w.h.rs) (ID w.h.ns) (zai w.out) room nur w.full k a b at_ (n 3 fun e => h (.inl e)) (n 4 fun e => h (.inr (.inl e))) (n 5 fun e => h (.inr (.inr (.inl e)))) (n 6 fun e => h (.inr (.inr (.inr e))))) kk (by omega)
 have e98 : ¬ Two k → ∀ (v : Ws) (at_ to : Int), den cfg kk 98 [.ptr (.up 0) 0, .dat (N3 k a b), .dat (I at_), .dat (I to)] [WrD v room nur] [] = some ([], [WrD v room nur], []) := fun h v at_ to => (zax Go.Proofs.Tryd.f98 0 (by kernel_rfl) (by kernel_rfl) fun kk _ => zoN kk v.h.o (CD v.h.cs) (ID v.h.rs) (ID v.h.ns) (zai v.out) room nur v.full k a b at_ to (n 2 fun e => h (.inl e)) (n 7 fun e => h (.inr (.inl e))) (n 8 fun e => h (.inr (.inr (.inl e)))) (n 9 fun e => h (.inr (.inr (.inr e))))) kk (by omega)
 clear o97
 by_cases k10 : k = 10
 · subst k10
   have c97 := e97 (fun h => by rcases h with h | h | h | h <;> cases h)
   have c98 := e98 (fun h => by rcases h with h | h | h | h <;> cases h)
   rw [zoo]
   exact zpm kk w.h.o _ _ _ _ room nur w.full a b _ _ (zad a w.h.rs.length) (zad b w.h.rs.length) w.h.o _ _ _ _ w.full w.h.o _ _ _ _ w.full (zco w.h).o _ _ _
    (fun d => ⟨zay _, zgY true w.h g kk (by omega), by
     have e : fr = false := by rw [hfr]; have := of_decide_eq_true d; simp; omega
     rw [e]⟩)
    (fun d d2 d3 => ⟨A1, B1, c97 _, c98 w _ _, by
     have e : fr = true := by rw [hfr]; have := of_decide_eq_false d; simp; omega
     rw [e]⟩)
    (fun d d2 d3 => ⟨A1, B1, c97 _, by
     have e : fr = true := by rw [hfr]; have := of_decide_eq_false d; simp; omega
     rw [e]⟩)
    (fun d d2 => ⟨A1, B1, by
     have e : fr = true := by rw [hfr]; have := of_decide_eq_false d; simp; omega
     rw [e]⟩)
 by_cases k11 : k = 11
 · subst k11
   have c97 := e97 (fun h => by rcases h with h | h | h | h <;> cases h)
   have c98 := e98 (fun h => by rcases h with h | h | h | h <;> cases h)
   rw [zoi]
   exact zpY kk w.h.o _ _ _ _ room nur w.full a b _ _ (zad a w.h.rs.length) (zad b w.h.rs.length) w.h.o _ _ _ _ w.full w.h.o _ _ _ _ w.full (zaN w.h).o _ _ _
    (fun d => ⟨zay _, zhM true w.h g kk (by omega), by
     have e : fr = false := by rw [hfr]; have := of_decide_eq_true d; simp; omega
     rw [e]⟩)
    (fun d d2 d3 => ⟨A1, B1, c97 _, c98 w _ _, by
     have e : fr = true := by rw [hfr]; have := of_decide_eq_false d; simp; omega
     rw [e]⟩)
    (fun d d2 d3 => ⟨A1, B1, c97 _, by
     have e : fr = true := by rw [hfr]; have := of_decide_eq_false d; simp; omega
     rw [e]⟩)
    (fun d d2 => ⟨A1, B1, by
     have e : fr = true := by rw [hfr]; have := of_decide_eq_false d; simp; omega
     rw [e]⟩)
 -- all others: by roots
 have key : ∀ w1 w2 : Ws, (zad a w.h.rs.length = true → den cfg kk 97 [.ptr (.up 0) 0, .dat (N3 k a b), .dat (I (rg w.h a))] [WrD w room nur] [] = some ([], [WrD w1 room nur], [])) →
  (zad a w.h.rs.length = true → zad b w.h.rs.length = true → den cfg kk 98 [.ptr (.up 0) 0, .dat (N3 k a b), .dat (I (rg w.h a)), .dat (I (rg w.h b))] [WrD w1 room nur] [] = some ([], [WrD w2 room nur], [])) →
  opW fr room nur k a b w = (match zad a w.h.rs.length with | true => (match zad b w.h.rs.length with | true => w2 | false => w1) | false => w) →
  zak cfg kk (den cfg kk) 77 Go.Proofs.Tryd.f77 [.ptr (.up 0) 0, .dat (N3 k a b)] [WrD w room nur] [] = some ([], [WrD (opW fr room nur k a b w) room nur], []) := by
  intro w1 w2 h1 h2 hr
  rw [hr]
  cases ha : zad a w.h.rs.length with
  | false =>
    rw [ha] at A1
    exact doW_n kk w.h.o _ _ _ _ room nur w.full k a b _ _ false (zad b w.h.rs.length) (n 1 k1) (n 10 k10) (n 11 k11) A1 B1 rfl rfl
  | true =>
    rw [ha] at A1
    cases hb : zad b w.h.rs.length with
    | false =>
      rw [hb] at B1
      exact zp7 kk w.h.o _ _ _ _ room nur w.full k a b _ _ true false w1.h.o _ _ _ _ w1.full (n 1 k1) (n 10 k10) (n 11 k11) A1 B1 rfl (h1 ha) rfl rfl
    | true =>
      rw [hb] at B1
      exact zpO kk w.h.o _ _ _ _ room nur w.full k a b _ _ true true w1.h.o _ _ _ _ w1.full w2.h.o _ _ _ _ w2.full (n 1 k1) (n 10 k10) (n 11 k11) A1 B1 rfl (h1 ha) rfl rfl (h2 ha hb)
 by_cases hone : One k
 · have htwo : ¬ Two k := fun h => by rcases hone with rfl | rfl | rfl | rfl <;> rcases h with h | h | h | h <;> cases h
   refine key (opW fr room nur k a b w) (opW fr room nur k a b w) (fun ha => znQ fr room nur k a b hone w g ho ha kk (by omega)) (fun _ _ => e98 htwo _ _ _) ?_
   cases ha : zad a w.h.rs.length with
   | true => cases zad b w.h.rs.length <;> rfl
   | false =>
     rcases hone with rfl | rfl | rfl | rfl
     · rw [zoB, ha]; rfl
     · rw [zo4, ha]; rfl
     · rw [zpa, ha]
     · rw [zoG, ha]
 by_cases htwo : Two k
 · refine key w (opW fr room nur k a b w) (fun _ => e97 hone _) (fun ha hb => zno fr room nur hfr k a b htwo w g hf ho ha hb kk (by omega)) ?_
   cases ha : zad a w.h.rs.length with
   | true =>
     cases hb : zad b w.h.rs.length with
     | true => rfl
     | false =>
       rcases htwo with rfl | rfl | rfl | rfl
       · rw [znc, ha, hb]; rfl
       · rw [znC, ha, hb]; rfl
       · rw [zmX, ha, hb]; rfl
       · rw [zn3, ha, hb]; rfl
   | false =>
     rcases htwo with rfl | rfl | rfl | rfl
     · rw [znc, ha]; rfl
     · rw [znC, ha]; rfl
     · rw [zmX, ha]; rfl
     · rw [zn3, ha]; rfl
 have ho : zpL k := ⟨k1, fun e => htwo (.inl e), fun e => hone (.inl e), fun e => hone (.inr (.inl e)), fun e => hone (.inr (.inr (.inl e))), fun e => hone (.inr (.inr (.inr e))), fun e => htwo (.inr (.inl e)), fun e => htwo (.inr (.inr (.inl e))), fun e => htwo (.inr (.inr (.inr e))), k10, k11⟩
 refine key w w (fun _ => e97 hone _) (fun _ _ => e98 htwo _ _ _) ?_
 rw [zpG ho]
 cases zad a w.h.rs.length <;> cases zad b w.h.rs.length <;> rfl
end Go.Den
namespace Go.Den
open Go
set_option linter.unusedVariables false
set_option maxRecDepth 100000
theorem zhn (kk : Nat) (es : List Dat) (room nur : Int) (x17 : Int) (e22 : List Dat) (s25_0 : ByteArray) (g25_1 : Bool) (g25_2 : Bool) (e30 : List Dat) (s35_0 : ByteArray) (g35_1 : Bool) (g35_2 : Bool) (e54 : List Dat) (g55 : Bool) {r : Res} (q1 : (decide (x17 < 0) = true) → (den cfg kk 16 [D.dat (Dat.lst false es), D.dat (I 1048576)] [] [] = some ([D.dat (I x17)], [], [])) ∧ r = ([D.dat (B true)], [], [])) (q2 : (decide (x17 < 0) = false) → ((!decide (s35_0 = s25_0)) = true) → (den cfg kk 16 [D.dat (Dat.lst false es), D.dat (I 1048576)] [] [] = some ([D.dat (I x17)], [], [])) ∧ (den cfg kk 18 [D.dat (Dat.lst false es)] [] [] = some ([D.own 72 e22], [], [])) ∧ (den cfg kk 21 [D.dat (Dat.lst true e22), D.dat (I room), D.dat (I nur)] [] [] = some ([D.dat (Dat.val (Value.string s25_0)), D.dat (B g25_1), D.dat (B g25_2)], [], [])) ∧ (den cfg kk 18 [D.dat (Dat.lst false es)] [] [] = some ([D.own 72 e30], [], [])) ∧ (den cfg kk 22 [D.dat (Dat.lst true e30), D.dat (I room), D.dat (I nur)] [] [] = some ([D.dat (Dat.val (Value.string s35_0)), D.dat (B g35_1), D.dat (B g35_2)], [], [])) ∧ r = ([D.dat (B false)], [], [])) (q3 : (decide (x17 < 0) = false) → ((!decide (s35_0 = s25_0)) = false) → ((!g35_1 == g25_1) = true) → (den cfg kk 16 [D.dat (Dat.lst false es), D.dat (I 1048576)] [] [] = some ([D.dat (I x17)], [], [])) ∧ (den cfg kk 18 [D.dat (Dat.lst false es)] [] [] = some ([D.own 72 e22], [], [])) ∧ (den cfg kk 21 [D.dat (Dat.lst true e22), D.dat (I room), D.dat (I nur)] [] [] = some ([D.dat (Dat.val (Value.string s25_0)), D.dat (B g25_1), D.dat (B g25_2)], [], [])) ∧ (den cfg kk 18 [D.dat (Dat.lst false es)] [] [] = some ([D.own 72 e30], [], [])) ∧ (den cfg kk 22 [D.dat (Dat.lst true e30), D.dat (I room), D.dat (I nur)] [] [] = some ([D.dat (Dat.val (Value.string s35_0)), D.dat (B g35_1), D.dat (B g35_2)], [], [])) ∧ r = ([D.dat (B false)], [], [])) (q4 : (decide (x17 < 0) = false) → ((!decide (s35_0 = s25_0)) = false) → ((!g35_1 == g25_1) = false) → ((!g35_2 == g25_2) = true) → (den cfg kk 16 [D.dat (Dat.lst false es), D.dat (I 1048576)] [] [] = some ([D.dat (I x17)], [], [])) ∧ (den cfg kk 18 [D.dat (Dat.lst false es)] [] [] = some ([D.own 72 e22], [], [])) ∧ (den cfg kk 21 [D.dat (Dat.lst true e22), D.dat (I room), D.dat (I nur)] [] [] = some ([D.dat (Dat.val (Value.string s25_0)), D.dat (B g25_1), D.dat (B g25_2)], [], [])) ∧ (den cfg kk 18 [D.dat (Dat.lst false es)] [] [] = some ([D.own 72 e30], [], [])) ∧ (den cfg kk 22 [D.dat (Dat.lst true e30), D.dat (I room), D.dat (I nur)] [] [] = some ([D.dat (Dat.val (Value.string s35_0)), D.dat (B g35_1), D.dat (B g35_2)], [], [])) ∧ r = ([D.dat (B false)], [], [])) (q5 : (decide (x17 < 0) = false) → ((!decide (s35_0 = s25_0)) = false) → ((!g35_1 == g25_1) = false) → ((!g35_2 == g25_2) = false) → ((!g55) = true) → (den cfg kk 16 [D.dat (Dat.lst false es), D.dat (I 1048576)] [] [] = some ([D.dat (I x17)], [], [])) ∧ (den cfg kk 18 [D.dat (Dat.lst false es)] [] [] = some ([D.own 72 e22], [], [])) ∧ (den cfg kk 21 [D.dat (Dat.lst true e22), D.dat (I room), D.dat (I nur)] [] [] = some ([D.dat (Dat.val (Value.string s25_0)), D.dat (B g25_1), D.dat (B g25_2)], [], [])) ∧ (den cfg kk 18 [D.dat (Dat.lst false es)] [] [] = some ([D.own 72 e30], [], [])) ∧ (den cfg kk 22 [D.dat (Dat.lst true e30), D.dat (I room), D.dat (I nur)] [] [] = some ([D.dat (Dat.val (Value.string s35_0)), D.dat (B g35_1), D.dat (B g35_2)], [], [])) ∧ (den cfg kk 18 [D.dat (Dat.lst false es)] [] [] = some ([D.own 72 e54], [], [])) ∧ (den cfg kk 20 [D.dat (Dat.lst true e30), D.dat (Dat.lst true e54)] [] [] = some ([D.dat (B g55)], [], [])) ∧ r = ([D.dat (B false)], [], [])) (q6 : (decide (x17 < 0) = false) → ((!decide (s35_0 = s25_0)) = false) → ((!g35_1 == g25_1) = false) → ((!g35_2 == g25_2) = false) → ((!g55) = false) → (den cfg kk 16 [D.dat (Dat.lst false es), D.dat (I 1048576)] [] [] = some ([D.dat (I x17)], [], [])) ∧ (den cfg kk 18 [D.dat (Dat.lst false es)] [] [] = some ([D.own 72 e22], [], [])) ∧ (den cfg kk 21 [D.dat (Dat.lst true e22), D.dat (I room), D.dat (I nur)] [] [] = some ([D.dat (Dat.val (Value.string s25_0)), D.dat (B g25_1), D.dat (B g25_2)], [], [])) ∧ (den cfg kk 18 [D.dat (Dat.lst false es)] [] [] = some ([D.own 72 e30], [], [])) ∧ (den cfg kk 22 [D.dat (Dat.lst true e30), D.dat (I room), D.dat (I nur)] [] [] = some ([D.dat (Dat.val (Value.string s35_0)), D.dat (B g35_1), D.dat (B g35_2)], [], [])) ∧ (den cfg kk 18 [D.dat (Dat.lst false es)] [] [] = some ([D.own 72 e54], [], [])) ∧ (den cfg kk 20 [D.dat (Dat.lst true e30), D.dat (Dat.lst true e54)] [] [] = some ([D.dat (B g55)], [], [])) ∧ r = ([D.dat (B true)], [], [])) : zak cfg kk (den cfg kk) 5 Go.Proofs.Tryd.f5 [.dat (Dat.lst false es), .dat (I room), .dat (I nur)] [] [] = some r := by
 rcases Bool.eq_false_or_eq_true (decide (x17 < 0)) with d2 | d2
 · obtain ⟨hz1, oz⟩ := q1 d2
   subst oz; exact zab [(17, .ret [.dat (I x17)]), (22, .ret [.own 72 e22]), (25, .ret [.dat (S s25_0), .dat (B g25_1), .dat (B g25_2)]), (30, .ret [.own 72 e30]), (35, .ret [.dat (S s35_0), .dat (B g35_1), .dat (B g35_2)]), (54, .ret [.own 72 e54]), (55, .ret [.dat (B g55)]), (200019, .yes)] (ob hz1 (ob d2 ob0)) (by kernel_rfl)
 · rcases Bool.eq_false_or_eq_true ((!decide (s35_0 = s25_0))) with d9 | d9
   · obtain ⟨hz1, hz2, hz3, hz4, hz5, oz⟩ := q2 d2 d9
     subst oz; exact zab [(17, .ret [.dat (I x17)]), (22, .ret [.own 72 e22]), (25, .ret [.dat (S s25_0), .dat (B g25_1), .dat (B g25_2)]), (30, .ret [.own 72 e30]), (35, .ret [.dat (S s35_0), .dat (B g35_1), .dat (B g35_2)]), (54, .ret [.own 72 e54]), (55, .ret [.dat (B g55)]), (200019, .no), (200042, .yes)] (ob hz1 (ob d2 (ob hz2 (ob (rfl : true = true) (ob hz3 (ob hz4 (ob (rfl : true = true) (ob hz5 (ob d9 (ob (rfl : true = true) (ob (rfl : true = true) ob0))))))))))) (by kernel_rfl)
   · rcases Bool.eq_false_or_eq_true ((!g35_1 == g25_1)) with d12 | d12
     · obtain ⟨hz1, hz2, hz3, hz4, hz5, oz⟩ := q3 d2 d9 d12
       subst oz; exact zab [(17, .ret [.dat (I x17)]), (22, .ret [.own 72 e22]), (25, .ret [.dat (S s25_0), .dat (B g25_1), .dat (B g25_2)]), (30, .ret [.own 72 e30]), (35, .ret [.dat (S s35_0), .dat (B g35_1), .dat (B g35_2)]), (54, .ret [.own 72 e54]), (55, .ret [.dat (B g55)]), (200019, .no), (200042, .no), (200047, .yes)] (ob hz1 (ob d2 (ob hz2 (ob (rfl : true = true) (ob hz3 (ob hz4 (ob (rfl : true = true) (ob hz5 (ob d9 (ob (rfl : false = false) (ob (rfl : false = false) (ob d12 (ob (rfl : true = true) (ob (rfl : true = true) ob0)))))))))))))) (by kernel_rfl)
     · rcases Bool.eq_false_or_eq_true ((!g35_2 == g25_2)) with d15 | d15
       · obtain ⟨hz1, hz2, hz3, hz4, hz5, oz⟩ := q4 d2 d9 d12 d15
         subst oz; exact zab [(17, .ret [.dat (I x17)]), (22, .ret [.own 72 e22]), (25, .ret [.dat (S s25_0), .dat (B g25_1), .dat (B g25_2)]), (30, .ret [.own 72 e30]), (35, .ret [.dat (S s35_0), .dat (B g35_1), .dat (B g35_2)]), (54, .ret [.own 72 e54]), (55, .ret [.dat (B g55)]), (200019, .no), (200042, .no), (200047, .no), (200051, .yes)] (ob hz1 (ob d2 (ob hz2 (ob (rfl : true = true) (ob hz3 (ob hz4 (ob (rfl : true = true) (ob hz5 (ob d9 (ob (rfl : false = false) (ob (rfl : false = false) (ob d12 (ob (rfl : false = false) (ob (rfl : false = false) (ob d15 ob0))))))))))))))) (by kernel_rfl)
       · rcases Bool.eq_false_or_eq_true ((!g55)) with d19 | d19
         · obtain ⟨hz1, hz2, hz3, hz4, hz5, hz6, hz7, oz⟩ := q5 d2 d9 d12 d15 d19
           subst oz; exact zab [(17, .ret [.dat (I x17)]), (22, .ret [.own 72 e22]), (25, .ret [.dat (S s25_0), .dat (B g25_1), .dat (B g25_2)]), (30, .ret [.own 72 e30]), (35, .ret [.dat (S s35_0), .dat (B g35_1), .dat (B g35_2)]), (54, .ret [.own 72 e54]), (55, .ret [.dat (B g55)]), (200019, .no), (200042, .no), (200047, .no), (200051, .no), (200056, .yes)] (ob hz1 (ob d2 (ob hz2 (ob (rfl : true = true) (ob hz3 (ob hz4 (ob (rfl : true = true) (ob hz5 (ob d9 (ob (rfl : false = false) (ob (rfl : false = false) (ob d12 (ob (rfl : false = false) (ob (rfl : false = false) (ob d15 (ob hz6 (ob (rfl : true = true) (ob hz7 (ob d19 ob0))))))))))))))))))) (by kernel_rfl)
         · obtain ⟨hz1, hz2, hz3, hz4, hz5, hz6, hz7, oz⟩ := q6 d2 d9 d12 d15 d19
           subst oz; exact zab [(17, .ret [.dat (I x17)]), (22, .ret [.own 72 e22]), (25, .ret [.dat (S s25_0), .dat (B g25_1), .dat (B g25_2)]), (30, .ret [.own 72 e30]), (35, .ret [.dat (S s35_0), .dat (B g35_1), .dat (B g35_2)]), (54, .ret [.own 72 e54]), (55, .ret [.dat (B g55)]), (200019, .no), (200042, .no), (200047, .no), (200051, .no), (200056, .no)] (ob hz1 (ob d2 (ob hz2 (ob (rfl : true = true) (ob hz3 (ob hz4 (ob (rfl : true = true) (ob hz5 (ob d9 (ob (rfl : false = false) (ob (rfl : false = false) (ob d12 (ob (rfl : false = false) (ob (rfl : false = false) (ob d15 (ob hz6 (ob (rfl : true = true) (ob hz7 (ob d19 ob0))))))))))))))))))) (by kernel_rfl)
end Go.Den
namespace Go.Den
open Go
set_option linter.unusedVariables false
set_option maxRecDepth 100000
open Go.Proofs.YtcmcfebihbmmeaaDoor (num numV)
abbrev Op3.d (x : Op3) : Dat := N3 x.k x.a x.b
abbrev OD (l : List Op3) : List Dat := l.map Op3.d
def w00 : Ws := ⟨⟨0, [], [], []⟩, false, ByteArray.empty⟩
theorem iv00 (fr : Bool) : Iv fr 0 w00 :=
 ⟨⟨fun i c h => by simp [w00] at h, by simp [w00], by simp [w00], Int.le_refl _, by simp [w00], fun x h => by simp [w00] at h, .nil, fun x h => by simp [w00] at h, fun i c h => by simp [w00] at h⟩, fun _ => by simp [w00], by show (0 : Nat) ≤ _; omega⟩
theorem zlC {α : Type} {L l : List α} {x : α} {i : Nat} (h : L.drop i = x :: l) : L[i]? = some x ∧ L.drop (i + 1) = l ∧ i < L.length := by
 have h1 : L[i]? = some x := by
  have := List.getElem?_drop (xs := L) (i := i) (j := 0)
  rw [h] at this
  simpa using this.symm
 refine ⟨h1, ?_, (List.getElem?_eq_some_iff.1 h1).1⟩
 have : (L.drop i).drop 1 = L.drop (i + 1) := by rw [List.drop_drop]
 rw [← this, h]; rfl
section
variable {fr : Bool} {room nur : Int}
theorem zeo (hr : fr = false → room ≤ 200) (b : Bool) (L : List Op3) (hL : L.length ≤ 150) (ha : ∀ x ∈ L, In64 x.a) {kk : Nat} (hkk : 1050000 ≤ kk) {K : X → St → Prop} : ∀ (l : List Op3) (i : Nat) (w : Ws), L.drop i = l → i + l.length = L.length → Iv fr i w → w.full = false →
 K (match (runW fr room nur l w).full with | true => .ret | false => .exit 0) (Nm [] [] [] [LsD (runW fr room nur l w) room nur fr] []) →
 ∀ m, l.length < m → ∀ s : St, s.norm ((zac cfg kk 47 Go.Proofs.Tryd.f47).live (zaa (lp Go.Proofs.Tryd.f47 1))) = hd47 b (OD L) w.h.o (CD w.h.cs) (ID w.h.rs) (ID w.h.ns) room nur fr w.full w.out i → zae (zac cfg kk 47 Go.Proofs.Tryd.f47) kk (lp Go.Proofs.Tryd.f47 1) m s K
 | [], i, w, hd, hi, hI, hf, hK, m, hm, s, hs => by
   obtain ⟨m, rfl⟩ : ∃ k, m = k + 1 := ⟨m - 1, by omega⟩
   have hlen : ((OD L).length : Int) = (L.length : Int) := by simp
   have hK : K (match w.full with | true => .ret | false => .exit 0) (Nm [] [] [] [LsD w room nur fr] []) := hK
   rw [hf] at hK
   simp only [List.length_nil, Nat.add_zero] at hi
   exact zlT kk m b _ _ _ _ _ room nur fr w.full w.out i 0 [] [] [] true ByteArray.empty 0 0 0 hs (fun d => absurd (of_decide_eq_true d) (by omega)) (fun d => absurd (of_decide_eq_true d) (by omega)) (fun _ => hK)
 | x :: l, i, w, hd, hi, hI, hf, hK, m, hm, s, hs => by
   obtain ⟨m, rfl⟩ : ∃ k, m = k + 1 := ⟨m - 1, by omega⟩
   obtain ⟨hx, hd', hlt⟩ := zlC hd
   have hxm := List.mem_of_getElem? hx
   have hlen : ((OD L).length : Int) = (L.length : Int) := by simp
   have h76 := zpN fr room nur x.k x.a x.b w hI.g hf (by have := hI.out; omega) kk (by omega)
   have hI' := zmT (room := room) (nur := nur) (k := x.k) (b := x.b) hI hr (by omega) (ha x hxm)
   have hxd := ih (gm (f := Op3.d) hx)
   have hrun : runW fr room nur (x :: l) w = (match (opW fr room nur x.k x.a x.b w).full with | true => opW fr room nur x.k x.a x.b w | false => runW fr room nur l (opW fr room nur x.k x.a x.b w)) := rfl
   rw [hrun] at hK
   have ihl := zeo hr b L hL ha hkk (K := K) l (i + 1) (opW fr room nur x.k x.a x.b w) hd' (by simp at hi; omega) hI'
   generalize opW fr room nur x.k x.a x.b w = p at h76 hI' hK ihl
   refine zlT kk m b _ _ _ _ _ room nur fr w.full w.out i p.h.o _ _ _ p.full p.out x.k x.a x.b hs (fun _ d => ⟨hxd, h76, ?_⟩) (fun _ d => ⟨hxd, h76, fun s' hs' => ?_⟩) (fun d => absurd (of_decide_eq_false d) (by omega))
   · have hK2 : K .ret (Nm [] [] [] [LsD p room nur fr] []) := by
      rw [d] at hK
      simp only [d] at hK
      exact hK
     rw [d]
     have e : LsD p room nur fr = Ls p.h.o (CD p.h.cs) (ID p.h.rs) (ID p.h.ns) room nur fr true p.out := by rw [← d]
     rw [e] at hK2
     exact hK2
   · rw [d] at hK
     refine ihl d hK m (by simp at hm; omega) s' ?_
     rw [hs', wi i (by omega)]
     rfl
theorem zm4 (hr : fr = false → room ≤ 200) (b : Bool) (L : List Op3) (hL : L.length ≤ 150) (ha : ∀ x ∈ L, In64 x.a) : EvN 1050100 47 [.ptr (.up 0) 0, .dat (.lst b (OD L))] [LsD w00 room nur fr] [] ([], [LsD (runW fr room nur L w00) room nur fr], []) := by
 refine zax Go.Proofs.Tryd.f47 1050099 (by kernel_rfl) (by kernel_rfl) fun kk hkk => ?_
 have hloop : zap cfg kk 47 Go.Proofs.Tryd.f47 1 (hd47 b (OD L) w00.h.o (CD w00.h.cs) (ID w00.h.rs) (ID w00.h.ns) room nur fr w00.full w00.out 0) (match (runW fr room nur L w00).full with | true => .ret | false => .exit 0) (Nm [] [] [] [LsD (runW fr room nur L w00) room nur fr] []) :=
  zcH fun s hs => zeo hr b L hL ha (by omega) L 0 w00 rfl (by simp) (iv00 fr) rfl ⟨rfl, rfl⟩ kk (by omega) s hs
 generalize runW fr room nur L w00 = p at hloop ⊢
 cases hp : p.full with
 | true =>
   rw [hp] at hloop
   exact zox kk b _ 0 [] [] [] room nur fr false ByteArray.empty p.h.o _ _ _ p.full p.out ⟨hloop, rfl⟩
 | false =>
   rw [hp] at hloop
   exact zoy kk b _ 0 [] [] [] room nur fr false ByteArray.empty p.h.o _ _ _ p.full p.out ⟨hloop, rfl⟩
theorem zes (hfr : fr = decide (room < 0)) (hr : fr = false → room ≤ 200) (b : Bool) (L : List Op3) (hL : L.length ≤ 150) (ha : ∀ x ∈ L, In64 x.a) {kk : Nat} (hkk : 1050400 ≤ kk) {K : X → St → Prop} : ∀ (l : List Op3) (i : Nat) (w : Ws), L.drop i = l → i + l.length = L.length → Iv fr i w → w.full = false →
 K (.exit 0) (Nm [7, 13] [.ptr (.loc 13) 0, .ptr (.loc 13) 0] [none, some (WrD (runW fr room nur l w) room nur)] [] []) →
 ∀ m, l.length < m → ∀ s : St, s.norm ((zac cfg kk 49 Go.Proofs.Tryd.f49).live (zaa (lp Go.Proofs.Tryd.f49 3))) = hd49 b (OD L) w.h.o (CD w.h.cs) (ID w.h.rs) (ID w.h.ns) (zai w.out) room nur w.full i → zae (zac cfg kk 49 Go.Proofs.Tryd.f49) kk (lp Go.Proofs.Tryd.f49 3) m s K
 | [], i, w, hd, hi, hI, hf, hK, m, hm, s, hs => by
   obtain ⟨m, rfl⟩ : ∃ k, m = k + 1 := ⟨m - 1, by omega⟩
   have hlen : ((OD L).length : Int) = (L.length : Int) := by simp
   simp only [List.length_nil, Nat.add_zero] at hi
   exact zlh kk m b _ _ _ _ _ _ room nur w.full i 0 [] [] [] [] true 0 0 0 hs (fun d => absurd (of_decide_eq_true d) (by omega)) (fun d => absurd (of_decide_eq_true d) (by omega)) (fun _ => hK)
 | x :: l, i, w, hd, hi, hI, hf, hK, m, hm, s, hs => by
   obtain ⟨m, rfl⟩ : ∃ k, m = k + 1 := ⟨m - 1, by omega⟩
   obtain ⟨hx, hd', hlt⟩ := zlC hd
   have hxm := List.mem_of_getElem? hx
   have hlen : ((OD L).length : Int) = (L.length : Int) := by simp
   have h77 := zpK fr room nur hfr x.k x.a x.b w hI.g hf (by have := hI.out; omega) kk (by omega)
   have hI' := zmT (room := room) (nur := nur) (k := x.k) (b := x.b) hI hr (by omega) (ha x hxm)
   have hxd := ih (gm (f := Op3.d) hx)
   have hrun : runW fr room nur (x :: l) w = (match (opW fr room nur x.k x.a x.b w).full with | true => opW fr room nur x.k x.a x.b w | false => runW fr room nur l (opW fr room nur x.k x.a x.b w)) := rfl
   rw [hrun] at hK
   have ihl := zes hfr hr b L hL ha hkk (K := K) l (i + 1) (opW fr room nur x.k x.a x.b w) hd' (by simp at hi; omega) hI'
   generalize opW fr room nur x.k x.a x.b w = p at h77 hI' hK ihl
   refine zlh kk m b _ _ _ _ _ _ room nur w.full i p.h.o _ _ _ _ p.full x.k x.a x.b hs (fun _ d => ⟨hxd, h77, ?_⟩) (fun _ d => ⟨hxd, h77, fun s' hs' => ?_⟩) (fun d => absurd (of_decide_eq_false d) (by omega))
   · rw [d] at hK
     exact hK
   · rw [d] at hK
     refine ihl d hK m (by simp at hm; omega) s' ?_
     rw [hs', wi i (by omega)]
     rfl
theorem znV (hfr : fr = decide (room < 0)) (hr : fr = false → room ≤ 200) (b : Bool) (L : List Op3) (hL : L.length ≤ 150) (ha : ∀ x ∈ L, In64 x.a) : EvN 1050500 49 [.dat (.lst b (OD L)), .dat (I room), .dat (I nur)] [] [] ([.ptr (.loc 0) 0], [WrD (runW fr room nur L w00) room nur], []) := by
 refine zax Go.Proofs.Tryd.f49 1050499 (by kernel_rfl) (by kernel_rfl) fun kk hkk => ?_
 refine playW kk b _ room nur _ _ _ _ _ _ ⟨?_, rfl⟩
 exact zcH fun s hs => zes hfr hr b L hL ha (by omega) L 0 w00 rfl (by simp) (iv00 fr) rfl ⟨rfl, rfl⟩ kk (by omega) s hs
end
theorem zhz (x : ByteArray) : zf3 (zai x) = some (.string x) := by
 have key : ∀ l : List UInt8, zdY (l.map fun b => Dat.val (.int .u8 (b.toNat : Int))) = some l := by
  intro l
  induction l with
  | nil => rfl
  | cons b l ih =>
    show (zdY (l.map _)).map (UInt8.ofNat ((b.toNat : Int)).toNat :: ·) = some (b :: l)
    rw [ih, Int.toNat_natCast]
    simp
 unfold zf3 zai
 rw [key]
 simp
noncomputable def zfl (L : List Op3) (room nur : Int) : ByteArray × Bool × Bool := match decide (150 < (L.length : Int)) || !inB room 0 200 || !inB nur 1 200 with | true => (ByteArray.mk #[], false, false) | false => ((runW false room nur L w00).out, (runW false room nur L w00).full, true)
theorem znD (b : Bool) (L : List Op3) (room nur : Int) (ha : ∀ x ∈ L, In64 x.a) : EvN 1050600 21 [.dat (.lst b (OD L)), .dat (I room), .dat (I nur)] [] [] ([.dat (S (zfl L room nur).1), .dat (B (zfl L room nur).2.1), .dat (B (zfl L room nur).2.2)], [], []) := by
 refine zax Go.Proofs.Tryd.f21 1050599 (by kernel_rfl) (by kernel_rfl) fun kk hkk => ?_
 have hlen : ((OD L).length : Int) = (L.length : Int) := by simp
 have h1 := ziX room 0 200 kk (by omega)
 have h2 := ziX nur 1 200 kk (by omega)
 unfold zfl
 refine sPlay kk b _ room nur _ _ _ _ _ _ (inB room 0 200) (inB nur 1 200) (fun d => by rw [← hlen, d]; rfl) (fun d d2 => ⟨h1, by rw [← hlen, d, d2]; rfl⟩) (fun d d2 d3 => ⟨h1, h2, by rw [← hlen, d, d2, d3]; rfl⟩) (fun d d2 d3 => ⟨h1, h2, zm4 (fr := false) (room := room) (nur := nur) (fun _ => ?_) b L (by have := of_decide_eq_false d; omega) ha kk (by omega), by rw [← hlen, d, d2, d3]; rfl⟩)
 simp [inB] at d2
 omega
theorem znk (b : Bool) (L : List Op3) (room nur : Int) (ha : ∀ x ∈ L, In64 x.a) : EvN 1050600 22 [.dat (.lst b (OD L)), .dat (I room), .dat (I nur)] [] [] ([.dat (S (zfl L room nur).1), .dat (B (zfl L room nur).2.1), .dat (B (zfl L room nur).2.2)], [], []) := by
 refine zax Go.Proofs.Tryd.f22 1050599 (by kernel_rfl) (by kernel_rfl) fun kk hkk => ?_
 have hlen : ((OD L).length : Int) = (L.length : Int) := by simp
 have e1 : (!inB room 0 200) = (decide (room < 0) || decide (200 < room)) := by rw [Bool.eq_iff_iff]; simp [inB]
 have e2 : (!inB nur 1 200) = (decide (nur < 1) || decide (200 < nur)) := by rw [Bool.eq_iff_iff]; simp [inB]
 unfold zfl
 rw [e1, e2]
 refine iPlay kk b _ room nur _ _ _ _ _ _ (fun d => by rw [← hlen, d]; rfl) (fun d d2 => by rw [← hlen, d, d2]; rfl) (fun d d2 d3 => by rw [← hlen, d, d2, d3]; rfl) (fun d d2 d3 d4 => by rw [← hlen, d, d2, d3, d4]; rfl) (fun d d2 d3 d4 d5 => by rw [← hlen, d, d2, d3, d4, d5]; rfl)
  (fun d d2 d3 d4 d5 => ⟨znV (fr := false) (room := room) (nur := nur) d2.symm (fun _ => by have := of_decide_eq_false d3; omega) b L (by have := of_decide_eq_false d; omega) ha kk (by omega), by
  show zf3 (zai _) ≠ none
  rw [zhz]; simp, by
  rw [← hlen, d, d2, d3, d4, d5]
  show _ = (([.dat (.val ((zf3 (zai (runW false room nur L w00).out)).getD (.string ByteArray.empty))), .dat (B (runW false room nur L w00).full), .dat (B true)], [], []) : Res)
  rw [zhz]; rfl⟩)
theorem zpQ (b : Bool) (es : List Dat) (h2 : es.length ≤ 9223372036854775807) : EvN 1 16 [.dat (.lst b es), .dat (I 1048576)] [] [] ([.dat (I (zdE 1048576 es.length))], [], []) := by
 refine zax Go.Proofs.Tryd.f16 0 (by kernel_rfl) (by kernel_rfl) fun kk _ => ?_
 have hw : w64 (1048576 - (es.length : Int)) = 1048576 - es.length := zca (by omega)
 refine szO kk 1048576 b es (fun d => ?_) (fun d => ?_)
 · rw [hw] at d
   rw [zpk (of_decide_eq_true d)]
 · rw [hw] at d ⊢
   rw [zoU (of_decide_eq_false d)]
theorem zpe (x : Op3) : EvN 1 48 [.dat x.d] [] [] ([.dat x.d], [], []) := zax Go.Proofs.Tryd.f48 0 (by kernel_rfl) (by kernel_rfl) fun kk _ => toOp kk x.k x.a x.b rfl
theorem zn5 (b : Bool) (L : List Op3) (h : L.length ≤ 1048576) : EvN 1048580 18 [.dat (.lst b (OD L))] [] [] ([.own 72 (OD L)], [], []) := by
 refine zax Go.Proofs.Tryd.f18 1048579 (by kernel_rfl) (by kernel_rfl) fun kk hkk => ?_
 have hlen : (OD L).length = L.length := by simp
 generalize hes : OD L = es at *
 refine toOpS kk b es es ⟨⟨by omega, by omega, by omega⟩, ?_, rfl⟩
 refine zaH (fun i => hd18 b es (es.take i ++ List.replicate (es.length - i) (N3 0 0 0)) i) es.length (by omega) (fun i hi m s K hs hn => ?_) (fun m s K hs hK => ?_) (by simp)
 · obtain ⟨x, hx⟩ := zbi (L := L) (i := i) (by omega)
   have hxd : es[i]? = some x.d := by rw [← hes]; exact gm hx
   refine zlJ kk m b es _ i x.k x.a x.b x.k x.a x.b 0 0 0 hs (fun _ => ⟨ih hxd, zpe x kk (by omega), ⟨by omega, by simp; omega⟩, by rw [Int.toNat_natCast]; exact zoI es _ i hi, fun s' hs' => hn s' ?_⟩) (fun d => absurd (of_decide_eq_false d) (by omega))
   rw [hs', Int.toNat_natCast, wi i (by omega), show N3 x.k x.a x.b = x.d from rfl, zpl es _ _ i hi hxd]
   rfl
 · refine zlJ kk m b es _ _ 0 0 0 0 0 0 0 0 0 hs (fun d => absurd (of_decide_eq_true d) (by omega)) (fun _ => ?_)
   simpa using hK
theorem zoZ (x : Op3) : EvN 1 50 [.dat x.d, .dat x.d] [] [] ([.dat (B true)], [], []) :=
 zax Go.Proofs.Tryd.f50 0 (by kernel_rfl) (by kernel_rfl) fun kk _ => eqOp kk x.k x.a x.b x.k x.a x.b (fun d => by simp at d) (fun _ d => by simp at d) (fun _ _ d => by simp at d) (fun _ _ _ => rfl)
theorem znm (L : List Op3) (b1 b2 : Bool) (h : L.length ≤ 1048576) : EvN 1048580 20 [.dat (.lst b1 (OD L)), .dat (.lst b2 (OD L))] [] [] ([.dat (B true)], [], []) := by
 refine zax Go.Proofs.Tryd.f20 1048579 (by kernel_rfl) (by kernel_rfl) fun kk hkk => ?_
 have hlen : (OD L).length = L.length := by simp
 generalize hes : OD L = es at *
 refine zph kk b1 b2 es es (fun d => by simp at d) (fun _ => ⟨?_, rfl⟩)
 refine zaH (fun i => hd20 b1 b2 es es i) es.length (by omega) (fun i hi m s K hs hn => ?_) (fun m s K hs hK => ?_) rfl
 · obtain ⟨x, hx⟩ := zbi (L := L) (i := i) (by omega)
   have hxd : es[i]? = some x.d := by rw [← hes]; exact gm hx
   refine zmq kk m b1 b2 es es i x.k x.a x.b x.k x.a x.b true hs (fun _ d => by cases d) (fun _ _ => ⟨ih hxd, ih hxd, zoZ x kk (by omega), fun s' hs' => hn s' ?_⟩) (fun d => absurd (of_decide_eq_false d) (by omega))
   rw [hs', wi i (by omega)]
   rfl
 · exact zmq kk m b1 b2 es es _ 0 0 0 0 0 0 true hs (fun d => absurd (of_decide_eq_true d) (by omega)) (fun d => absurd (of_decide_eq_true d) (by omega)) (fun _ => hK)
end Go.Den
namespace Go.Den
open Go
set_option linter.unusedVariables false
set_option maxRecDepth 100000
theorem op_in {d : Dat} (h : WT cfg.ty 74 d) : ∃ x : Op3, d = x.d ∧ In64 x.a := by
 obtain ⟨cs, rfl, hl, hx⟩ := zps h (i := ⟨.struct, 3, 24, [(0, 3), (1, 3), (2, 3)], [.dat (.val (.int .i64 0)), .dat (.val (.int .i64 0)), .dat (.val (.int .i64 0))]⟩) (by kernel_rfl) rfl
 match cs, hl, hx with
 | [k, a, b], _, hx =>
   obtain ⟨k, rfl, _⟩ := zhv (hx 0 (0, 3) k rfl rfl)
   obtain ⟨a, rfl, ha⟩ := zhv (hx 1 (1, 3) a rfl rfl)
   obtain ⟨b, rfl, _⟩ := zhv (hx 2 (2, 3) b rfl rfl)
   exact ⟨⟨k, a, b⟩, rfl, ha⟩
theorem zpS {d : Dat} (h : WT cfg.ty 35 d) : ∃ L : List Op3, d = .lst false (OD L) ∧ L.length ≤ 9223372036854775807 ∧ ∀ x ∈ L, In64 x.a := by
 obtain ⟨es, rfl, hl, hx⟩ := zpP h (i := ⟨.slice 74, 1, 24, [], [.own 74 []]⟩) (by kernel_rfl) rfl
 have : ∀ es : List Dat, (∀ x ∈ es, WT cfg.ty 74 x) → ∃ zs : List Op3, es = OD zs ∧ ∀ z ∈ zs, In64 z.a := by
  intro es
  induction es with
  | nil => intro _; exact ⟨[], rfl, fun z hz => by cases hz⟩
  | cons d es ih =>
    intro h
    obtain ⟨n, rfl, hn⟩ := op_in (h d (by simp))
    obtain ⟨zs, rfl, hzs⟩ := ih fun y hy => h y (List.mem_cons_of_mem _ hy)
    exact ⟨n :: zs, rfl, fun z hz => by exact (List.mem_cons.1 hz).elim (fun e => e ▸ hn) (hzs z)⟩
 obtain ⟨zs, rfl, hzs⟩ := this es hx
 rw [List.length_map] at hl
 exact ⟨zs, rfl, hl, hzs⟩
theorem znW {z : Int} {n : Nat} (hz : z = zdE 1048576 n) (h : decide (z < 0) = false) : n ≤ 1048576 := by
 have := of_decide_eq_false h
 rw [hz] at this
 rcases zkD 1048576 n with ⟨h1, _⟩ | ⟨_, h2⟩
 · rw [h1] at this; omega
 · omega
end Go.Den
namespace Go.Den
open Go
set_option linter.unusedVariables false
set_option maxRecDepth 100000
theorem fnExactPlayWrites_den : ∀ (d0 d1 d2 : Dat), WT cfg.ty 35 d0 → WT cfg.ty 3 d1 → WT cfg.ty 3 d2 → ∃ k, den cfg k 5 [.dat d0, .dat d1, .dat d2] [] [] = some ([.dat (.val (.bool true))], [], []) := by
 intro d0 d1 d2 w0 w1 w2
 obtain ⟨L, rfl, hl, ha⟩ := zpS w0
 obtain ⟨room, rfl, _⟩ := zhv w1
 obtain ⟨nur, rfl, _⟩ := zhv w2
 refine ⟨1100001, zax Go.Proofs.Tryd.f5 1100000 (by kernel_rfl) (by kernel_rfl) (fun kk hkk => ?_) (by kernel_rfl) 1100001 (Nat.le_refl _)⟩
 have h16 := zpQ false (OD L) (by simpa using hl) kk (by omega)
 rw [List.length_map] at h16
 have hle := fun d => znW (z := zdE 1048576 L.length) (n := L.length) rfl d
 have h18 := fun h => zn5 false L h kk (by omega)
 have h21 := znD true L room nur ha kk (by omega)
 have h22 := znk true L room nur ha kk (by omega)
 have h20 := fun h => znm L true true h kk (by omega)
 generalize (zfl L room nur).1 = s at *
 generalize (zfl L room nur).2.1 = g at *
 generalize (zfl L room nur).2.2 = g2 at *
 generalize zdE 1048576 L.length = z at *
 exact zhn kk _ room nur z (OD L) s g g2 (OD L) s g g2 (OD L) true (fun d => ⟨h16, rfl⟩) (fun d d2 => by simp at d2) (fun d d2 d3 => by simp at d3) (fun d d2 d3 d4 => by simp at d4) (fun d d2 d3 d4 d5 => by cases d5) (fun d d2 d3 d4 d5 => ⟨h16, h18 (hle d), h21, h18 (hle d), h22, h18 (hle d), h20 (hle d), rfl⟩)
end Go.Den
namespace Go.Proofs.YtcmcfebihbmmeaaDoor.fnExactPlayWrites
open Go.ChangeShapes Go.WideShapes Go.ChangeAt Go.RowKit Go.Den
set_option linter.unusedVariables false
theorem own : ownKnob Tryd.prog.godebug = none := by kernel_rfl
theorem zje : laidOutB Tryd.prog = true := by kernel_rfl
theorem body : (Tryd.f5.body).isSome = true := by kernel_rfl
theorem fnThere : cfg.fn 5 = some Tryd.f5 := by kernel_rfl
theorem zog : zcF cfg.ty 8 3 = true := by kernel_rfl
theorem zpd : zcF cfg.ty 8 35 = true := by kernel_rfl
def setG (h : Array Obj) (g : Nat) (c : Array Value) : Array Obj := h.modify g fun
 | .cells _ t frozen => .cells c t frozen
 | o => o
def vals (d : DataW Unit) : Array Value := match d with
 | .agg l => (l.map fun | .lit (.int k n) => Value.int k n | _ => .nilIface).toArray
 | _ => #[]
noncomputable def zhG (os : Os) : World :=
 let w0 := World.holding Tryd.prog os ⟨#[], #[], []⟩
 { w0 with heap := setG (setG (setG (w0.heap) 3 (vals Rows.laid_math_bits_deBruijn32tab)) 4 (vals Rows.laid_math_bits_deBruijn64tab)) 0 (vals Rows.laid_internal_strconv_uint64pow10) }
theorem znd (os : Os) (args : Array Value) : laidMetH Tryd.prog Rows.fnExactPlayWritesRow.laid ((zhG os).forCall (fun _ _ => 0) ⟨#[], args, []⟩).memory :=
 laidMetH_of_parts (laidMet_of_run (ps := (List.range 32).map (MemPlace.cell 3 ·) ++ (List.range 64).map (MemPlace.cell 4 ·) ++ (List.range 20).map (MemPlace.cell 0 ·)) 8 (by kernel_rfl) (by kernel_rfl) (by kernel_rfl)) (by kernel_rfl)
set_option maxRecDepth 100000 in
theorem zoj (os : Os) (started : os.Started) (H : Type) (enc : TypeId × Value → H) :
 ReturnsInHanded {} Tryd.checked os 5 .any (fun w args => (Rows.fnExactPlayWritesSpec.pre enc Tryd.prog Tryd.f5 Rows.fnExactPlayWritesRow.domain false w args ∧ laidMetH Tryd.prog Rows.fnExactPlayWritesRow.laid w) ∧ sizedMet enc Tryd.prog Tryd.f5 (OpenSpec.ofChange Rows.fnExactPlayWritesSpec) false w args) (Rows.fnExactPlayWritesSpec.post enc Tryd.prog Tryd.f5 false true false false) := by
 refine returnsInHanded_of_change_and (C := Tryd.checked) (X := fun w _ => laidMetH Tryd.prog Rows.fnExactPlayWritesRow.laid w) (fun _ _ _ hh h => h.of_heap hh) own started (by kernel_rfl) Tryd.func5
  (ChangeSpec.witness_at (enc := enc) (C := Tryd.checked) (os := os) (X := fun w _ => laidMetH Tryd.prog Rows.fnExactPlayWritesRow.laid w) false (zhG os) #[.slice none 0 0, .int .i64 0, .int .i64 0] 8 rfl (by kernel_rfl) (by kernel_rfl) (by kernel_rfl) (by kernel_rfl) (by kernel_rfl) (znd os _)) ?_
 intro W base args ds gs before hval0 hW hcnd _ hL _
 have hTab : Lib.TabIs Tryd.prog W "internal/strconv.uint64pow10" .u64 Lib.pow10Tab := Lib.tabIs_of_head (g := 0) (by kernel_rfl) (t := 162) (by kernel_rfl) (e := 90) (n := 20) (by kernel_rfl) (by kernel_rfl) (by kernel_rfl) (by kernel_rfl) (laidMet.tail (laidMet.tail (show laidMet Tryd.prog Rows.fnExactPlayWritesRow.laid W from hL)))
 have hval : ∀ (j : Nat) t v, Tryd.f5.params[j]? = some t → args[j]? = some v → Value.okWide Tryd.prog W .any base t v := hval0
 have hW' := hW
 obtain ⟨p, q, hA0, hV, rfl, hfz, hnd⟩ := hW
 have hA : DataW.TrodAll enc Tryd.prog W 0 (fun _ => true) true Tryd.f5.params.toList args.toList ds p := hA0
 rw [Tryd.params5] at hA hval
 obtain ⟨v0, vs0, d0, ds0, p0, q0, hargs, rfl, rfl, h0, r0⟩ := trodAll_cons hA
 obtain ⟨v1, vs1, d1, ds1, p1, q1, rfl, rfl, rfl, h1, r1⟩ := trodAll_cons r0
 obtain ⟨v2, vs2, d2, ds2, p2, q2, rfl, rfl, rfl, h2, r2⟩ := trodAll_cons r1
 obtain ⟨rfl, rfl, rfl⟩ := trodAll_nil r2
 obtain rfl : args = #[v0, v1, v2] := by cases args; simp_all
 obtain ⟨rfl, rfl⟩ := trodVars_none hV
 have k0 := h0
 have lt0 : ∀ x ∈ p0, x.block < W.heap.size := by obtain ⟨m, hm⟩ := k0; exact DataW.trod_lt m _ _ _ hm
 obtain ⟨e0, cv0, R0, V0, T0⟩ := ziV zgo zpd (hval 0 35 v0 rfl rfl) h0
 have k1 := h1
 have lt1 : ∀ x ∈ p1, x.block < W.heap.size := by obtain ⟨m, hm⟩ := k1; exact DataW.trod_lt m _ _ _ hm
 obtain ⟨e1, cv1, R1, V1, T1⟩ := ziV zgo zog (hval 1 3 v1 rfl rfl) h1
 have k2 := h2
 have lt2 : ∀ x ∈ p2, x.block < W.heap.size := by obtain ⟨m, hm⟩ := k2; exact DataW.trod_lt m _ _ _ hm
 obtain ⟨e2, cv2, R2, V2, T2⟩ := ziV zgo zog (hval 2 3 v2 rfl rfl) h2
 clear hA0 hval0
 have hden := fnExactPlayWrites_den e0 e1 e2 T0 T1 T2
 refine (zmm (P := Tryd.prog) (C := cfg) (f := 5) (fn := Tryd.f5) (vals := #[v0, v1, v2]) (ds := [e0, e1, e2]) (W := W) (b := true) (B := zfi Tryd.prog W "internal/strconv.uint64pow10") (znT (zmY hTab)).out (zon fnThere) body rfl (fun j d v hj hv => ?_) (fun g o h => zna h) hden).mono fun e W' hh => ?_
 · match j, hj, hv with
   | 0, hj, hv => cases hj; cases hv; exact ⟨cv0, R0, V0⟩
   | 1, hj, hv => cases hj; cases hv; exact ⟨cv1, R1, V1⟩
   | 2, hj, hv => cases hj; cases hv; exact ⟨cv2, R2, V2⟩
   | j + 3, hj, hv => simp at hj
 · obtain ⟨he, bel⟩ := hh
   subst he
   exact ⟨_, rfl, _, _, _, [], _, [], hW', trodAll_mk1 (shut_bool Tryd.underlying4 _), (trodAll_cons_mk (Below.trod zje (by kernel_rfl) (of_decide_eq_true (by kernel_rfl)) k0 bel lt0) (trodAll_cons_mk (Below.trod zje (by kernel_rfl) (of_decide_eq_true (by kernel_rfl)) k1 bel lt1) (trodAll_cons_mk (Below.trod zje (by kernel_rfl) (of_decide_eq_true (by kernel_rfl)) k2 bel lt2) trodAll_mk0))), rfl, bel.frame _, fun h => by cases h⟩
theorem over : Rows.fnExactPlayWritesRow.holds Tryd.pinned (OpenSpec.ofChange Rows.fnExactPlayWritesSpec) :=
 OpenClaim.holds_of_wide 5 Tryd.f5 rfl rfl rfl rfl rfl rfl rfl ⟨rfl, rfl, rfl, rfl, rfl⟩ rfl rfl rfl rfl rfl (by kernel_rfl) Tryd.func5 (by kernel_rfl)
  (of_decide_eq_true (by kernel_rfl)) (by unfold Func.isWrapper; first | (rw [if_pos (by decide +kernel)]; kernel_rfl) | (rw [if_neg (by decide +kernel)]; exact ⟨rfl, rfl⟩))
  (fun os started H enc _ => zoj os started H enc)
theorem proved : Rows.FnExactPlayWritesSaid := over
end Go.Proofs.YtcmcfebihbmmeaaDoor.fnExactPlayWrites
namespace Go.Proofs.YtcmcfebihbmmeaaDoor
theorem fnExactPlayWrites_holds : Rows.FnExactPlayWritesSaid := fnExactPlayWrites.proved
end Go.Proofs.YtcmcfebihbmmeaaDoor
namespace Go.Proofs.YtcmcfebihbmmeaaDoor
open Go
theorem fnExactPlayWritesCard_holds : Rows.FnExactPlayWritesCardSaid :=
 Claim7.holds_tied_plain_at .later [] [.data, .data, .data] true (true, "6ff86e34f5ef3fa93c68ab0da54ea809c76b7496032f1ace8724b71ef3b8924e") true
  fnExactPlayWrites_holds (fun _ h => by cases h) (by kernel_rfl) (fun _ h => by cases h) fnExactPlayWrites_row_tie rfl ⟨rfl, rfl⟩ (by kernel_rfl) rfl
  (fun f fn hf hfn => by
   obtain rfl : f = 5 := Option.some.inj ((show Tryd.prog.funcNamed Rows.fnExactPlayWritesRow.func = some 5 by kernel_rfl).symm.trans hf) |>.symm
   obtain rfl : fn = Tryd.f5 := (Option.some.inj (Tryd.func5.symm.trans hfn)).symm
   exact ⟨by kernel_rfl, fun j t ht => by
    rw [Tryd.params5] at ht
    match j, ht with
    | 0, ht => cases ht; exact (show Tryd.prog.wantsStandIn 35 = false by kernel_rfl)
    | 1, ht => cases ht; exact (show Tryd.prog.wantsStandIn 3 = false by kernel_rfl)
    | 2, ht => cases ht; exact (show Tryd.prog.wantsStandIn 3 = false by kernel_rfl)
    | j + 3, ht => simp at ht⟩)
  (by kernel_rfl)
end Go.Proofs.YtcmcfebihbmmeaaDoor
