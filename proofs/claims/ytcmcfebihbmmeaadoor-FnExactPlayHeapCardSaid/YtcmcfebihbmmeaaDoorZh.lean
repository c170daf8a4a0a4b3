/- Merged out of: EG HD HE EC EI EJ EK EL HF HG HH HI HJ HK HL HM YFnExactModelWrites YFnExactPlayHeap LFnExactPlayHeap LFnExactPlayHeapCard (prune.py, a program of this work's). -/
import Derived.Test.YtcmcfebihbmmeaaDoorZg7
import Derived.Test.YtcmcfebihbmmeaaDoorZg6
import Derived.Test.YtcmcfebihbmmeaaDoorZg5
import Derived.KernelRfl
import Derived.Test.YtcmcfebihbmmeaaDoorZg4
import Derived.LaidHandle
import Derived.Handed
import Derived.Stop.LaidErr
import Derived.Lib.LaidTab
import Derived.Test.YtcmcfebihbmmeaaDoorRows
import Derived.WalkKit
import Derived.ProofKit
import Derived.OpenShut
import Derived.ShutString
import Derived.ChangeOld
import Derived.Below
import Derived.Test.YtcmcfebihbmmeaaDoorCards
import Derived.Test.YtcmcfebihbmmeaaDoorTie
import Derived.SevenTiedAt
set_option linter.unusedVariables false
set_option linter.unusedSimpArgs false
set_option linter.unnecessarySimpa false
namespace Go.Den
open Go
set_option linter.unusedVariables false
set_option maxRecDepth 100000
theorem zd5 {α : Type} (f : α → Dat) (hf : ∀ x, (f x).clean = true) : ∀ l : List α, Dat.cleans (l.map f) = true
 | [] => rfl
 | x :: l => by
   show ((f x).clean && Dat.cleans (l.map f)) = true
   rw [hf x, zd5 f hf l]; rfl
theorem zjE (cs : List Cl) : Dat.cleans (CD cs) = true := zd5 _ (fun _ => rfl) cs
theorem zhe (zs : List Int) : Dat.cleans (ID zs) = true := zd5 _ (fun _ => rfl) zs
theorem zmE {ks : List Bool} {i : Nat} (h : i < ks.length) : ((0 ≤ (i : Int) ∧ (i : Int) < ((BD ks).length : Int)) ∧ (BD ks)[((i : Int)).toNat]? = some (B (ks.getD i false))) := by
 have := zfl (ks := ks) (i := (i : Int)) (by omega) (by omega)
 rw [show ((i : Int)).toNat = i from Int.toNat_natCast i] at this
 rw [Int.toNat_natCast]
 exact this
theorem zlp {zs : List Int} {i : Nat} (h : i < zs.length) : ((0 ≤ (i : Int) ∧ (i : Int) < ((ID zs).length : Int)) ∧ (ID zs)[((i : Int)).toNat]? = some (I (zs.getD i 0))) := by
 obtain ⟨x, hx⟩ := zev h
 rw [gd hx]
 exact znm hx
theorem znE {m : List Bool} {n : Nat} {t : List Int} (h : Tb m n t) (hm : m.length = n) {j : Int} (h0 : 0 ≤ j) (hk : K m j) : (0 ≤ j ∧ j < ((ID t).length : Int)) ∧ (ID t)[j.toNat]? = some (I (cnt m j)) := by
 obtain ⟨h1, h2⟩ := h.get hm h0 hk
 exact ⟨by simpa using h1, gm (f := (I ·)) h2⟩
def TbP (m : List Bool) (n i : Nat) (t : List Int) : Prop := t.length = n ∧ ∀ j : Nat, j < i → K m (j : Int) → t.getD j 0 = cnt m (j : Int)
theorem TbP.set {m : List Bool} {n i : Nat} {t : List Int} (h : TbP m n i t) (hi : i < n) : TbP m n (i + 1) (t.set i (cnt m (i : Int))) := by
 refine ⟨by rw [List.length_set]; exact h.1, fun j hj hk => ?_⟩
 by_cases e : j = i
 · subst e
   rw [List.getD_eq_getElem?_getD, List.getElem?_set_self (by have := h.1; omega)]
   rfl
 · rw [List.getD_eq_getElem?_getD, List.getElem?_set_ne (by omega), ← List.getD_eq_getElem?_getD]
   exact h.2 j (by omega) hk
theorem TbP.skip {m : List Bool} {n i : Nat} {t : List Int} (h : TbP m n i t) (hk : ¬ K m (i : Int)) : TbP m n (i + 1) t :=
 ⟨h.1, fun j hj hkj => h.2 j (by
  by_cases e : j = i
  · subst e; exact absurd hkj hk
  · omega) hkj⟩
theorem TbP.done {m : List Bool} {n : Nat} {t : List Int} (h : TbP m n n t) (hm : m.length = n) : Tb m n t :=
 ⟨h.1, fun j hk => h.2 j (by have := K_lt (Int.natCast_nonneg j) hk; omega) hk⟩
theorem zjT {m : List Bool} {x : Cl} (h : x.l = false) : Dat.agg [B x.l, I x.n, I (cnt m x.a), I (cnt m x.b)] = (mvC m x).d := by
 unfold mvC
 rw [if_neg (by rw [h]; simp)]
theorem zjU {m : List Bool} {x : Cl} (h : x.l = true) : Dat.agg [B x.l, I x.n, I x.a, I x.b] = (mvC m x).d := by
 unfold mvC
 rw [if_pos h]
theorem zg8 {m : List Bool} {c : List Cl} {i : Nat} {x : Cl} (hm : c.length = m.length) (hx : c[i]? = some x) (hb : m[i]? = some true) : CD (mvCs m (c.take i) (m.take i)) ++ [(mvC m x).d] = CD (mvCs m (c.take (i + 1)) (m.take (i + 1))) := by
 rw [zhF m c m i x true hm hx hb]
 simp [CD]
theorem zlZ {m : List Bool} {c : List Cl} {i : Nat} {x : Cl} (hm : c.length = m.length) (hx : c[i]? = some x) (hb : m[i]? = some false) : CD (mvCs m (c.take i) (m.take i)) = CD (mvCs m (c.take (i + 1)) (m.take (i + 1))) := by
 rw [zhF m c m i x false hm hx hb]
 simp [CD]
theorem zlQ (m : List Bool) {rs : List Int} {i : Nat} {x : Int} (hx : rs[i]? = some x) : ID ((rs.take i).map (cnt m)) ++ [I (cnt m x)] = ID ((rs.take (i + 1)).map (cnt m)) := by
 rw [List.take_add_one, hx]
 simp [ID]
theorem zod {m : List Bool} {c : List Cl} {i : Nat} (hm : m.length ≤ 200) : (CD (mvCs m (c.take i) (m.take i))).length + 1 ≤ 2147483648 := by
 have h1 := zjL m (c.take i) (m.take i)
 rw [List.length_map]
 rw [List.length_take] at h1
 omega
theorem getM {ks : List Bool} {i : Nat} (h : i < ks.length) : ks[i]? = some (ks.getD i false) := by
 rw [List.getD_eq_getElem?_getD, List.getElem?_eq_getElem h]; rfl
theorem K_nat {ks : List Bool} {i : Nat} : K ks (i : Int) ↔ ks.getD i false = true := by unfold K; rw [Int.toNat_natCast]
theorem zl9 (b kb rb : Bool) (h : Hp) (g : Hg h) (m : List Bool) (hm : m.length = h.cs.length) (hsh : Shut m h.cs) (hr : ∀ x ∈ h.rs, K m x) : EvN 1000 118 [.dat (.lst b (CD h.cs)), .dat (.lst rb (ID h.rs)), .dat (.lst kb (BD m))] [] [] ([.own 97 (CD (mvCs m h.cs m)), .own 3 (ID (h.rs.map (cnt m)))], [], []) := by
 refine zaY Go.Proofs.Tryd.f118 999 (by kernel_rfl) (by kernel_rfl) fun kk hkk => ?_
 have hcl := g.clen
 have hrl := g.rlen
 have hlm : (List.map Cl.d h.cs).length = h.cs.length := by simp
 have hlc : (CD h.cs).length = h.cs.length := by simp
 have hlb : (BD m).length = m.length := by simp
 have hlr : (ID h.rs).length = h.rs.length := by simp
 obtain ⟨t, ht, la⟩ := zc1 (kk := kk) (f := 118) (fn := Go.Proofs.Tryd.f118) (r := 4) (x := .exit 0) (fun i (t : List Int) => zf6 b kb rb (CD h.cs) (ID h.rs) (BD m) (ID t) (cnt m (i : Int)) (i : Int))
  (fun t => Nm [0, 1, 2, 8, 9, 10] [.dat (.lst b (CD h.cs)), .dat (.lst rb (ID h.rs)), .dat (.lst kb (BD m)), .own 3 (ID t), .own 97 [], .own 3 []] [none, none, none, none, none, none] [] [])
  (TbP m m.length) m.length (by omega) (List.replicate m.length 0) ⟨by simp, fun j hj => by omega⟩
  (fun i t hi hP => by
   have hb := zmE hi
   have ht := hP.1
   have hti := zlp (zs := t) (i := i) (by omega)
   have hle := zlU m i
   cases hk : m.getD i false with
   | true =>
     rw [hk] at hb
     refine ⟨_, hP.set (by omega), fun q s K hs hn => zmu kk q b kb rb _ _ _ _ _ i true (t.getD i 0) hs (fun _ _ => ⟨hb, hti.1, hti.2, fun s' hs' => hn s' ?_⟩) (fun _ d => by cases d) (fun d => absurd (of_decide_eq_false d) (by omega))⟩
     rw [hs', wi i (by omega), Int.toNat_natCast, zjS, zca (by omega), ← zmI m i hi (K_nat.2 hk)]
     rfl
   | false =>
     rw [hk] at hb
     have hnk : ¬ K m (i : Int) := fun h => by rw [K_nat, hk] at h; cases h
     refine ⟨_, hP.set (by omega), fun q s K hs hn => zmu kk q b kb rb _ _ _ _ _ i false (t.getD i 0) hs (fun _ d => by cases d) (fun _ _ => ⟨hb, hti.1, hti.2, fun s' hs' => hn s' ?_⟩) (fun d => absurd (of_decide_eq_false d) (by omega))⟩
     rw [hs', wi i (by omega), Int.toNat_natCast, zjS, ← zoO m i hi hnk]
     rfl)
  (fun t _ q s K hs hK => zmu kk q b kb rb _ _ _ _ _ _ true 0 hs (fun d => absurd (of_decide_eq_true d) (by omega)) (fun d => absurd (of_decide_eq_true d) (by omega)) (fun _ => hK))
  (s0 := zf6 b kb rb (CD h.cs) (ID h.rs) (BD m) (List.replicate (CD h.cs).length (I 0)) 0 0) (by rw [show (CD h.cs).length = m.length by omega, znZ]; simp [zni])
 have htb : Tb m m.length t := ht.done rfl
 have lb := zbi (kk := kk) (f := 118) (fn := Go.Proofs.Tryd.f118) (r := 11) (x := .exit 2) (s' := Nm [1, 8, 9, 10] [.dat (.lst rb (ID h.rs)), .own 3 (ID t), .own 97 (CD (mvCs m h.cs m)), .own 3 []] [none, none, none, none] [] [])
  (fun i => zgs b kb rb (CD h.cs) (ID h.rs) (BD m) (ID t) (CD (mvCs m (h.cs.take i) (m.take i))) i) h.cs.length (by omega)
  (fun i hi q s K hs hn => by
   obtain ⟨x, hx⟩ := zev hi
   have hxd := ih (gm (f := Cl.d) hx)
   have hb := zmE (ks := m) (i := i) (by omega)
   have hmi := getM (ks := m) (i := i) (by omega)
   have hlim := zod (m := m) (c := h.cs) (i := i) (by omega)
   have hcx : cg h.cs (i : Int) = x := zjC (by rw [Int.toNat_natCast]; exact hx)
   cases hk : m.getD i false with
   | false =>
     rw [hk] at hb hmi
     refine zj2 kk q b kb rb _ _ _ _ _ i x false 0 0 hs (fun _ _ => ⟨hxd, hb, fun s' hs' => hn s' ?_⟩) (fun _ d => by cases d) (fun _ d => by cases d) (fun d => absurd (of_decide_eq_false d) (by omega))
     rw [hs', wi i (by omega), ← zlZ hm.symm hx hmi]
     rfl
   | true =>
     rw [hk] at hb hmi
     cases hl : x.l with
     | true =>
       refine zj2 kk q b kb rb _ _ _ _ _ i x true 0 0 hs (fun _ d => by cases d) (fun _ _ d => by rw [hl] at d; cases d) (fun _ _ _ => ⟨hxd, hb, hlim, fun s' hs' => hn s' ?_⟩) (fun d => absurd (of_decide_eq_false d) (by omega))
       rw [hs', wi i (by omega), zjU hl, zg8 hm.symm hx hmi]
       rfl
     | false =>
       obtain ⟨⟨a0, a1⟩, b0, b1⟩ := hsh i (K_nat.2 hk) (by rw [hcx]; exact hl)
       rw [hcx] at a0 a1 b0 b1
       have ta := znE htb rfl a0 a1
       have tb := znE htb rfl b0 b1
       refine zj2 kk q b kb rb _ _ _ _ _ i x true (cnt m x.a) (cnt m x.b) hs (fun _ d => by cases d) (fun _ _ _ => ⟨hxd, hb, ta.1, ta.2, tb.1, tb.2, hlim, fun s' hs' => hn s' ?_⟩) (fun _ _ d => by rw [hl] at d; cases d) (fun d => absurd (of_decide_eq_false d) (by omega))
       rw [hs', wi i (by omega), zjT hl, zg8 hm.symm hx hmi]
       rfl)
  (fun q s K hs hK => zj2 kk q b kb rb _ _ _ _ _ _ c0 true 0 0 hs (fun d => absurd (of_decide_eq_true d) (by omega)) (fun d => absurd (of_decide_eq_true d) (by omega)) (fun d => absurd (of_decide_eq_true d) (by omega)) (fun _ => by
   rw [List.take_length, show h.cs.length = m.length from hm.symm, List.take_length]; exact hK))
  (s0 := zgs b kb rb (CD h.cs) (ID h.rs) (BD m) (ID t) [] 0) (by simp [mvCs])
 have lc := zbi (kk := kk) (f := 118) (fn := Go.Proofs.Tryd.f118) (r := 19) (x := .exit 4) (s' := Nm [9, 10] [.own 97 (CD (mvCs m h.cs m)), .own 3 (ID (h.rs.map (cnt m)))] [none, none] [] [])
  (fun i => zgH rb (ID h.rs) (ID t) (CD (mvCs m h.cs m)) (ID ((h.rs.take i).map (cnt m))) i) h.rs.length (by omega)
  (fun i hi q s K hs hn => by
   obtain ⟨x, hx⟩ := zev hi
   have hxm := List.mem_of_getElem? hx
   have tx := znE htb rfl (g.rin x hxm).1 (hr x hxm)
   refine znW kk q rb _ _ _ _ i x (cnt m x) hs (fun _ => ⟨znm hx, tx.1, tx.2, by simp; omega, fun s' hs' => hn s' ?_⟩) (fun d => absurd (of_decide_eq_false d) (by omega))
   rw [hs', wi i (by omega), zlQ m hx]
   rfl)
  (fun q s K hs hK => znW kk q rb _ _ _ _ _ 0 0 hs (fun d => absurd (of_decide_eq_true d) (by omega)) (fun _ => by rw [List.take_length]; exact hK))
  (s0 := zgH rb (ID h.rs) (ID t) (CD (mvCs m h.cs m)) [] 0) (by simp)
 exact kept kk b kb rb _ _ _ (ID t) (CD (mvCs m h.cs m)) (ID (h.rs.map (cnt m))) (cnt m m.length) ⟨⟨by omega, by omega, by omega⟩, la, lb, lc, rfl⟩
end Go.Den
namespace Go.Den
open Go
set_option linter.unusedVariables false
set_option maxRecDepth 100000
structure Og (h : Hp) : Prop where
 g : Hg h
 ns : h.ns = []
 low : ∀ i : Int, 0 ≤ i → i < (h.cs.length : Int) → (cg h.cs i).l = false → (cg h.cs i).a < i ∧ (cg h.cs i).b < i
abbrev HD (b : Bool) (h : Hp) : Dat := Hd b h.o (CD h.cs) (ID h.rs)
abbrev H3 (h : Hp) : D := .seq false [.dat (I h.o), .own 97 (CD h.cs), .own 3 (ID h.rs)]
theorem zax (h : Hp) : D.cleans [H3 h] = true := by
 simp only [D.cleans, D.clean, zjE, zhe, Bool.and_self, Dat.clean]
def KSrc (ks : List Bool) (h : Hp) (i : Int) : Prop := (0 ≤ i ∧ K ks i) ∨ i ∈ h.rs
noncomputable def zjs (ks : List Bool) (h : Hp) : List Bool := zfY h.cs.length (Rch h.cs (fun _ => True) (KSrc ks h))
theorem zoH {i : Nat} (h : i ≤ 1000000) : w64 ((i : Int) - 1) = (i : Int) - 1 := zca (by omega)
theorem zkn (b : Bool) (h : Hp) (o : Og h) (ks : List Bool) (hk : ks.length = h.cs.length) : EvN 300 128 [.dat (HD b h), .own 4 (BD ks)] [] [] ([.own 4 (BD (zjs ks h))], [], []) := by
 refine zaY Go.Proofs.Tryd.f128 299 (by kernel_rfl) (by kernel_rfl) fun kk hkk => ?_
 have g := o.g
 have hcl := g.clen
 have hrl := g.rlen
 have hlc : (CD h.cs).length = h.cs.length := by simp
 have hlr : (ID h.rs).length = h.rs.length := by simp
 obtain ⟨l0, hP0, la⟩ := zc1 (kk := kk) (f := 128) (fn := Go.Proofs.Tryd.f128) (r := 2) (x := .exit 0) (fun i (l : List Bool) => zf7 b h.o (CD h.cs) (ID h.rs) (BD l) (i : Int))
  (fun l => Nm [1, 2] [.own 4 (BD l), .ptr (.loc 2) 0] [none, Hb b h.o (CD h.cs) (ID h.rs)] [] [])
  (fun i l => l.length = h.cs.length ∧ ∀ j : Int, 0 ≤ j → (K l j ↔ K ks j ∨ j ∈ h.rs.take i)) h.rs.length (by omega) ks ⟨hk, fun j _ => by simp⟩
  (fun i l hi hP => by
   obtain ⟨x, hx⟩ := zev hi
   have hxm := g.rin x (List.mem_of_getElem? hx)
   have hxl : 0 ≤ x ∧ x < (l.length : Int) := ⟨hxm.1, by have := hP.1; omega⟩
   refine ⟨l.set x.toNat true, ⟨by simp [hP.1], fun j hj => ?_⟩, fun q s K hs hn => zlR kk q b h.o _ _ _ i x (l.getD x.toNat false) hs (fun _ => ⟨znm hx, by rw [ze1]; exact hxl, (zfl hxl.1 hxl.2).2, fun s' hs' => hn s' ?_⟩) (fun d => absurd (of_decide_eq_false d) (by omega))⟩
   · rw [zlD hxl.1 hxl.2 j hj, hP.2 j hj, List.take_add_one, hx]
     simp only [Option.toList_some, List.mem_append, List.mem_singleton]
     constructor
     · rintro (e | e | e)
       · exact .inr (.inr e)
       · exact .inl e
       · exact .inr (.inl e)
     · rintro (e | e | e)
       · exact .inr (.inl e)
       · exact .inr (.inr e)
       · exact .inl e
   · rw [hs', wi i (by omega), ze6]
     rfl)
  (fun l _ q s K hs hK => zlR kk q b h.o _ _ _ _ 0 true hs (fun d => absurd (of_decide_eq_true d) (by omega)) (fun _ => hK))
  (s0 := zf7 b h.o (CD h.cs) (ID h.rs) (BD ks) 0) rfl
 have h0 : ∀ j : Int, 0 ≤ j → (K l0 j ↔ KSrc ks h j) := fun j hj => by
  rw [hP0.2 j hj, List.take_length]
  exact ⟨fun e => e.elim (fun e => .inl ⟨hj, e⟩) .inr, fun e => e.elim (fun e => .inl e.2) .inr⟩
 obtain ⟨⟨l1, i1⟩, hP1, hf1, lb⟩ := zdx (kk := kk) (f := 128) (fn := Go.Proofs.Tryd.f128) (r := 7) (x := .exit 2) (fun (p : List Bool × Int) => zgD b h.o (CD h.cs) (ID h.rs) (BD p.1) p.2) (fun p => Nm [1] [.own 4 (BD p.1)] [none] [] [])
  (fun p => p.1.length = h.cs.length ∧ (-1 ≤ p.2 ∧ p.2 < (h.cs.length : Int)) ∧ (∀ j : Int, 0 ≤ j → K l0 j → K p.1 j) ∧ (∀ j : Int, 0 ≤ j → K p.1 j → Rch h.cs (fun _ => True) (KSrc ks h) j) ∧ (∀ j : Int, 0 ≤ j → p.2 < j → K p.1 j → (cg h.cs j).l = false → K p.1 (cg h.cs j).a ∧ K p.1 (cg h.cs j).b))
  (fun p => p.2 < 0) (fun p => (p.2 + 1).toNat) (l0, (h.cs.length : Int) - 1) (by show ((h.cs.length : Int) - 1 + 1).toNat < kk; omega)
  ⟨hP0.1, by show (-1 : Int) ≤ (h.cs.length : Int) - 1 ∧ _; omega, fun _ _ e => e, fun j hj e => .src ((h0 j hj).1 e), fun j hj hlt e => absurd (show j < (l0.length : Int) from K_lt hj e) (by have := hP0.1; have : (h.cs.length : Int) - 1 < j := hlt; omega)⟩
  (fun p hP => by
   obtain ⟨l, i⟩ := p
   obtain ⟨hl, hi, hs0, hr0, hc0⟩ := hP
   have hl : l.length = h.cs.length := hl
   have hi : -1 ≤ i ∧ i < (h.cs.length : Int) := hi
   by_cases hlt : i < 0
   · exact .inl hlt
   have hin : 0 ≤ i ∧ i < (h.cs.length : Int) := ⟨by omega, hi.2⟩
   have hil : i < (l.length : Int) := by omega
   have hgi := zfl hin.1 hil
   have hcd := zmq hin.1 hin.2
   have wd : w64 (i - 1) = i - 1 := zca (by have : i < (h.cs.length : Int) := hi.2; omega)
   cases hki : l.getD i.toNat false with
   | false =>
     rw [hki] at hgi
     refine .inr ⟨(l, i - 1), ⟨hl, by show (-1 : Int) ≤ i - 1 ∧ i - 1 < _; omega, hs0, hr0, fun j hj hlt e hle => ?_⟩, by show (i - 1 + 1).toNat < (i + 1).toNat; omega, fun q s K hs hn => zg5 kk q b h.o _ _ _ i (cg h.cs i) false false false hs (fun _ d => by cases d) (fun _ d => by cases d) (fun _ _ => ⟨hcd, ⟨hin.1, by rw [ze1]; exact hil⟩, hgi.2, fun s' hs' => hn s' (by rw [hs', wd]; rfl)⟩) (fun d => absurd (of_decide_eq_false d) (by omega))⟩
     have hlt : i - 1 < j := hlt
     by_cases hji : j = i
     · subst hji
       unfold Go.Den.K at e
       rw [hki] at e
       cases e
     · exact hc0 j hj (by show i < j; omega) e hle
   | true =>
     rw [hki] at hgi
     have hKi : Go.Den.K l i := hki
     cases hle : (cg h.cs i).l with
     | true =>
       refine .inr ⟨(l, i - 1), ⟨hl, by show (-1 : Int) ≤ i - 1 ∧ i - 1 < _; omega, hs0, hr0, fun j hj hlt e hle2 => ?_⟩, by show (i - 1 + 1).toNat < (i + 1).toNat; omega, fun q s K hs hn => zg5 kk q b h.o _ _ _ i (cg h.cs i) true false false hs (fun _ _ d => by rw [hle] at d; cases d) (fun _ _ _ => ⟨hcd, ⟨hin.1, by rw [ze1]; exact hil⟩, hgi.2, fun s' hs' => hn s' (by rw [hs', wd]; rfl)⟩) (fun _ d => by cases d) (fun d => absurd (of_decide_eq_false d) (by omega))⟩
       have hlt : i - 1 < j := hlt
       by_cases hji : j = i
       · subst hji
         rw [hle] at hle2
         cases hle2
       · exact hc0 j hj (by show i < j; omega) e hle2
     | false =>
       obtain ⟨⟨a0, a1⟩, b0, b1⟩ := g.wf i hin.1 hin.2 hle
       obtain ⟨la0, lb0⟩ := o.low i hin.1 hin.2 hle
       have ga := zfl (ks := l) a0 (by omega)
       have hl2 : (l.set (cg h.cs i).a.toNat true).length = l.length := by simp
       have gb := zfl (ks := l.set (cg h.cs i).a.toNat true) b0 (by omega)
       have hset : ∀ j : Int, 0 ≤ j → (Go.Den.K ((l.set (cg h.cs i).a.toNat true).set (cg h.cs i).b.toNat true) j ↔ j = (cg h.cs i).b ∨ j = (cg h.cs i).a ∨ Go.Den.K l j) := fun j hj => by
        rw [zlD b0 (by omega) j hj, zlD a0 (by omega) j hj]
       refine .inr ⟨((l.set (cg h.cs i).a.toNat true).set (cg h.cs i).b.toNat true, i - 1), ⟨by simp [hl], by show (-1 : Int) ≤ i - 1 ∧ i - 1 < _; omega, fun j hj e => (hset j hj).2 (.inr (.inr (hs0 j hj e))), fun j hj e => ?_, fun j hj hlt e hle2 => ?_⟩, by show (i - 1 + 1).toNat < (i + 1).toNat; omega,
        fun q s K hs hn => zg5 kk q b h.o _ _ _ i (cg h.cs i) true (l.getD (cg h.cs i).a.toNat false) ((l.set (cg h.cs i).a.toNat true).getD (cg h.cs i).b.toNat false) hs (fun _ _ _ => ⟨hcd, ⟨hin.1, by rw [ze1]; exact hil⟩, hgi.2, by rw [ze1]; omega, ga.2, by rw [ze6, ze1, hl2]; omega, by rw [ze6]; exact gb.2, fun s' hs' => hn s' (by rw [hs', wd, ze6, ze6]; rfl)⟩) (fun _ _ d => by rw [hle] at d; cases d) (fun _ d => by cases d) (fun d => absurd (of_decide_eq_false d) (by omega))⟩
       · rcases (hset j hj).1 e with rfl | rfl | e
         · exact .b (hr0 i hin.1 hKi) trivial hle
         · exact .a (hr0 i hin.1 hKi) trivial hle
         · exact hr0 j hj e
       · have hlt : i - 1 < j := hlt
         have hjl := K_lt hj e
         have hjl : j < (h.cs.length : Int) := by simp at hjl; omega
         obtain ⟨⟨ja0, _⟩, jb0, _⟩ := g.wf j hj hjl hle2
         by_cases hji : j = i
         · subst hji
           exact ⟨(hset _ ja0).2 (.inr (.inl rfl)), (hset _ jb0).2 (.inl rfl)⟩
         · rcases (hset j hj).1 e with rfl | rfl | e
           · omega
           · omega
           · obtain ⟨p, q⟩ := hc0 j hj (by show i < j; omega) e hle2
             exact ⟨(hset _ ja0).2 (.inr (.inr p)), (hset _ jb0).2 (.inr (.inr q))⟩)
  (fun p hP hf q s K hs hK => by
   have hf : p.2 < 0 := hf
   exact zg5 kk q b h.o _ _ _ _ c0 true true true hs (fun d => absurd (of_decide_eq_true d) (by omega)) (fun d => absurd (of_decide_eq_true d) (by omega)) (fun d => absurd (of_decide_eq_true d) (by omega)) (fun _ => hK))
  (s0 := zgD b h.o (CD h.cs) (ID h.rs) (BD l0) (w64 (((CD h.cs).length : Int) - 1))) (by rw [hlc, zoH (by omega)])
 obtain ⟨hl, hi, hs0, hr0, hc0⟩ := hP1
 have hl : l1.length = h.cs.length := hl
 have hi1 : i1 < 0 := hf1
 have hfin : l1 = zjs ks h := by
  refine zqc (by rw [hl]; exact (zbe _ _).symm) fun j hj => ?_
  unfold zjs
  rw [zb2 hj]
  constructor
  · intro e
    exact ⟨by have := K_lt hj e; omega, hr0 j hj e⟩
  · rintro ⟨_, hr⟩
    refine (Rch.in_ g.wf (k := l1) (fun x hx => ?_) (fun x hx e _ hle => hc0 x hx (by show i1 < x; omega) e hle) hr).2.2
    have hx0 : 0 ≤ x ∧ x < (h.cs.length : Int) := hx.elim (fun e => ⟨e.1, by have := K_lt e.1 e.2; omega⟩) (fun e => g.rin x e)
    exact ⟨hx0.1, hx0.2, hs0 x hx0.1 ((h0 x hx0.1).2 hx)⟩
 rw [← hfin]
 exact keepS kk b h.o _ _ (BD ks) (BD l0) (BD l1) ⟨la, lb, rfl⟩
end Go.Den
namespace Go.Den
open Go
set_option linter.unusedVariables false
set_option maxRecDepth 100000
theorem zn7 {m : List Bool} {n i : Nat} {t : List Int} (h : TbP m n i t) {j : Int} (h0 : 0 ≤ j) (hi : j < (i : Int)) (hin : i ≤ n) (hk : K m j) : (0 ≤ j ∧ j < ((ID t).length : Int)) ∧ (ID t)[j.toNat]? = some (I (cnt m j)) := by
 obtain ⟨j, rfl⟩ := Int.eq_ofNat_of_zero_le h0
 have hj : j < i := by omega
 have := zlp (zs := t) (i := j) (by have := h.1; omega)
 rw [h.2 j hj hk] at this
 exact this
theorem zi4 {m : List Bool} {c : List Cl} (hm : m.length = c.length) (i : Nat) : ((CD (mvCs m (c.take i) (m.take i))).length : Int) = cnt m (i : Int) := by
 rw [show (CD (mvCs m (c.take i) (m.take i))).length = (mvCs m (c.take i) (m.take i)).length by simp, zgN m _ _ (by simp [List.length_take, hm])]
 rfl
theorem zka (b kb : Bool) (h : Hp) (o : Og h) (m : List Bool) (hm : m.length = h.cs.length) (hsh : Shut m h.cs) (hr : ∀ x ∈ h.rs, K m x) : EvN 300 127 [.dat (HD b h), .dat (.lst kb (BD m))] [] [] ([H3 (mvH m h)], [], []) := by
 refine zaY Go.Proofs.Tryd.f127 299 (by kernel_rfl) (by kernel_rfl) fun kk hkk => ?_
 have g := o.g
 have hcl := g.clen
 have hrl := g.rlen
 have hlc : (CD h.cs).length = h.cs.length := by simp
 have hlb : (BD m).length = m.length := by simp
 have hlr : (ID h.rs).length = h.rs.length := by simp
 obtain ⟨t, ht, la⟩ := zc1 (kk := kk) (f := 127) (fn := Go.Proofs.Tryd.f127) (r := 4) (x := .exit 0) (fun i (t : List Int) => zgF b h.o (CD h.cs) (ID h.rs) kb (BD m) (ID t) (CD (mvCs m (h.cs.take i) (m.take i))) (i : Int))
  (fun t => Nm [2, 4, 5, 6] [.ptr (.loc 2) 0, .ptr (.loc 4) 0, .own 3 (ID t), .ptr (.loc 6) 0] [Hb b h.o (CD h.cs) (ID h.rs), some (Ho 0 [] []), none, some (Ho 0 (CD (mvCs m h.cs m)) [])] [] [])
  (TbP m m.length) m.length (by omega) (List.replicate m.length 0) ⟨by simp, fun j hj => by omega⟩
  (fun i t hi hP => by
   have hb := zmE hi
   have hmi := getM hi
   have ht := hP.1
   have hti := zlp (zs := t) (i := i) (by omega)
   obtain ⟨x, hx⟩ := zev (show i < h.cs.length by omega)
   have hxd := ih (gm (f := Cl.d) hx)
   have hlim := zod (m := m) (c := h.cs) (i := i) (by omega)
   have hcx : cg h.cs (i : Int) = x := zjC (by rw [Int.toNat_natCast]; exact hx)
   have hal := zi4 (c := h.cs) hm i
   cases hk : m.getD i false with
   | false =>
     rw [hk] at hb hmi
     have hnk : ¬ K m (i : Int) := fun h => by rw [K_nat, hk] at h; cases h
     refine ⟨_, hP.skip hnk, fun q s K hs hn => zg4 kk q b h.o _ _ kb _ _ _ i x false 0 0 0 hs (fun _ _ => ⟨hxd, hb, fun s' hs' => hn s' ?_⟩) (fun _ d => by cases d) (fun _ d => by cases d) (fun d => absurd (of_decide_eq_false d) (by omega))⟩
     rw [hs', wi i (by omega), ← zlZ hm.symm hx hmi]
     rfl
   | true =>
     rw [hk] at hb hmi
     cases hl : x.l with
     | true =>
       refine ⟨_, hP.set hi, fun q s K hs hn => zg4 kk q b h.o _ _ kb _ _ _ i x true 0 (t.getD i 0) 0 hs (fun _ d => by cases d) (fun _ _ d => by rw [hl] at d; cases d) (fun _ _ _ => ⟨hxd, hb, hti.1, hti.2, hlim, fun s' hs' => hn s' ?_⟩) (fun d => absurd (of_decide_eq_false d) (by omega))⟩
       rw [hs', wi i (by omega), Int.toNat_natCast, hal, zjS, zjU hl, zg8 hm.symm hx hmi]
       rfl
     | false =>
       obtain ⟨⟨a0, a1⟩, b0, b1⟩ := hsh i (K_nat.2 hk) (by rw [hcx]; exact hl)
       obtain ⟨lo1, lo2⟩ := o.low i (by omega) (by omega) (by rw [hcx]; exact hl)
       rw [hcx] at a0 a1 b0 b1 lo1 lo2
       have ta := zn7 hP a0 lo1 (by omega) a1
       have tb := zn7 hP b0 lo2 (by omega) b1
       refine ⟨_, hP.set hi, fun q s K hs hn => zg4 kk q b h.o _ _ kb _ _ _ i x true (cnt m x.a) (t.getD i 0) (cnt m x.b) hs (fun _ d => by cases d) (fun _ _ _ => ⟨hxd, hb, ta.1, ta.2, tb.1, tb.2, hti.1, hti.2, hlim, fun s' hs' => hn s' ?_⟩) (fun _ _ d => by rw [hl] at d; cases d) (fun d => absurd (of_decide_eq_false d) (by omega))⟩
       rw [hs', wi i (by omega), Int.toNat_natCast, hal, zjS, zjT hl, zg8 hm.symm hx hmi]
       rfl)
  (fun t _ q s K hs hK => zg4 kk q b h.o _ _ kb _ _ _ _ c0 true 0 0 0 hs (fun d => absurd (of_decide_eq_true d) (by omega)) (fun d => absurd (of_decide_eq_true d) (by omega)) (fun d => absurd (of_decide_eq_true d) (by omega)) (fun _ => by
   rw [List.take_length, show m.length = h.cs.length from hm, List.take_length]; exact hK))
  (s0 := zgF b h.o (CD h.cs) (ID h.rs) kb (BD m) (List.replicate (CD h.cs).length (I 0)) [] 0) (by rw [show (CD h.cs).length = m.length by omega, znZ]; simp [mvCs])
 have htb : Tb m m.length t := ht.done rfl
 have lc := zbi (kk := kk) (f := 127) (fn := Go.Proofs.Tryd.f127) (r := 14) (x := .exit 2) (s' := Nm [4, 6] [.ptr (.loc 4) 0, .ptr (.loc 6) 0] [some (Ho 0 [] []), some (Ho 0 (CD (mvCs m h.cs m)) (ID (h.rs.map (cnt m))))] [] [])
  (fun i => zgG b h.o (CD h.cs) (ID h.rs) (ID t) (CD (mvCs m h.cs m)) (ID ((h.rs.take i).map (cnt m))) i) h.rs.length (by omega)
  (fun i hi q s K hs hn => by
   obtain ⟨x, hx⟩ := zev hi
   have hxm := List.mem_of_getElem? hx
   have tx := znE htb rfl (g.rin x hxm).1 (hr x hxm)
   refine zlT kk q b h.o _ _ _ _ _ i x (cnt m x) hs (fun _ => ⟨znm hx, tx.1, tx.2, by simp; omega, fun s' hs' => hn s' ?_⟩) (fun d => absurd (of_decide_eq_false d) (by omega))
   rw [hs', wi i (by omega), zlQ m hx]
   rfl)
  (fun q s K hs hK => zlT kk q b h.o _ _ _ _ _ _ 0 0 hs (fun d => absurd (of_decide_eq_true d) (by omega)) (fun _ => by rw [List.take_length]; exact hK))
  (s0 := zgG b h.o (CD h.cs) (ID h.rs) (ID t) (CD (mvCs m h.cs m)) [] 0) (by simp)
 refine move7 kk b h.o _ _ kb _ (ID t) (CD (mvCs m h.cs m)) (ID (h.rs.map (cnt m))) ⟨⟨by omega, by omega, by omega⟩, la, lc, ?_⟩
 have := zi4 (c := h.cs) hm m.length
 rw [List.take_length, hm, List.take_length, ← hm] at this
 rw [this]
 rfl
noncomputable def minL (h : Hp) : List Bool := zfY h.cs.length (Rch h.cs (fun _ => True) fun i => (0 ≤ i ∧ i < h.o) ∨ i ∈ h.rs)
noncomputable def minH (h : Hp) : Hp := mvH (minL h) h
theorem zmp (h : Hp) : zjs (List.replicate h.cs.length false) h = zeJ h := by
 unfold zjs zeJ
 congr 2
 funext i
 exact propext ⟨fun e => e.elim (fun e => absurd e.2 (zmS _ _)) id, .inr⟩
theorem zmX {ks : List Bool} {h : Hp} (hk : ∀ j : Int, 0 ≤ j → (K ks j ↔ j < h.o)) : zjs ks h = minL h := by
 unfold zjs minL
 congr 2
 funext i
 exact propext ⟨fun e => e.elim (fun e => .inl ⟨e.1, (hk i e.1).1 e.2⟩) .inr, fun e => e.elim (fun e => .inl ⟨e.1, (hk i e.1).2 e.2⟩) .inr⟩
theorem zgT {h : Hp} (g : Hg h) : Shut (minL h) h.cs := fun i hk hl => by
 obtain ⟨hi, hr⟩ := (zb2 (Int.natCast_nonneg i)).1 hk
 obtain ⟨⟨a0, a1⟩, b0, b1⟩ := g.wf i (Int.natCast_nonneg i) hi hl
 exact ⟨⟨a0, (zb2 a0).2 ⟨a1, .a hr trivial hl⟩⟩, b0, (zb2 b0).2 ⟨b1, .b hr trivial hl⟩⟩
theorem zhh {h : Hp} (g : Hg h) : ∀ x ∈ h.rs, K (minL h) x := fun x hx => (zb2 (g.rin x hx).1).2 ⟨(g.rin x hx).2, .src (.inr hx)⟩
theorem zgU {m : List Bool} {y : Cl} : ∀ {c : List Cl} {l : List Bool} {p : Nat}, (mvCs m c l)[p]? = some y → ∃ (i : Nat) (x : Cl), c[i]? = some x ∧ l[i]? = some true ∧ y = mvC m x ∧ p = (l.take i).count true
 | [], l, p, h => by simp [mvCs] at h
 | x :: c, [], p, h => by simp [mvCs] at h
 | x :: c, b :: l, p, h => by
   unfold mvCs at h
   cases b with
   | false =>
     obtain ⟨i, x', h1, h2, h3, h4⟩ := zgU (c := c) (l := l) (p := p) h
     exact ⟨i + 1, x', h1, h2, h3, by simpa using h4⟩
   | true =>
     cases p with
     | zero => cases h; exact ⟨0, x, rfl, rfl, rfl, rfl⟩
     | succ p =>
       obtain ⟨i, x', h1, h2, h3, h4⟩ := zgU (c := c) (l := l) (p := p) h
       exact ⟨i + 1, x', h1, h2, h3, by simp [h4]⟩
theorem zjW {m : List Bool} {x : Int} {i : Nat} (h0 : 0 ≤ x) (hx : x < (i : Int)) (hi : i ≤ m.length) (hk : K m x) : cnt m x < cnt m (i : Int) := by
 obtain ⟨x, rfl⟩ := Int.eq_ofNat_of_zero_le h0
 have h1 := zmI m x (by omega) hk
 have h2 := zkj m (show x + 1 ≤ i by omega)
 omega
theorem znV {h : Hp} (o : Og h) {m : List Bool} (hm : m.length = h.cs.length) (hs : Shut m h.cs) (hr : ∀ x ∈ h.rs, K m x) : Og (mvH m h) := by
 refine ⟨zo6 o.g hm hs hr, rfl, fun p h0 hp hl => ?_⟩
 obtain ⟨i, x, h1, h2, h3, h4⟩ := zgU (zo4 h0 hp)
 have hi := (List.getElem?_eq_some_iff.1 h2).1
 have h3 : cg (mvH m h).cs p = mvC m x := h3
 rw [h3] at hl ⊢
 have hxl : x.l = false := by
  unfold mvC at hl
  split at hl
  · exact hl
  · exact hl
 have hcx : cg h.cs (i : Int) = x := zjC (by rw [Int.toNat_natCast]; exact h1)
 have hk : K m (i : Int) := by rw [K_nat, List.getD_eq_getElem?_getD, h2]; rfl
 obtain ⟨⟨a0, a1⟩, b0, b1⟩ := hs i hk (by rw [hcx]; exact hxl)
 obtain ⟨lo1, lo2⟩ := o.low i (by omega) (by omega) (by rw [hcx]; exact hxl)
 rw [hcx] at a0 a1 b0 b1 lo1 lo2
 have hpc : p = cnt m (i : Int) := by
  unfold cnt
  rw [Int.toNat_natCast]
  omega
 unfold mvC
 rw [if_neg (by rw [hxl]; decide), hpc]
 exact ⟨zjW a0 lo1 (by omega) a1, zjW b0 lo2 (by omega) b1⟩
theorem ziW {h : Hp} (o : Og h) : Og (zbw h) := znV o (zbe _ _) (zfV o.g) (ze2 o.g)
theorem zio {h : Hp} (o : Og h) : Og (minH h) := znV o (zbe _ _) (zgT o.g) (zhh o.g)
theorem zgX (b : Bool) (h : Hp) (o : Og h) : EvN 400 101 [.dat (HD b h)] [] [] ([H3 (zbw h)], [], []) := by
 refine zaY Go.Proofs.Tryd.f101 399 (by kernel_rfl) (by kernel_rfl) fun kk hkk => ?_
 have hcl := o.g.clen
 have hlc : (CD h.cs).length = h.cs.length := by simp
 refine coll7 kk b h.o _ _ (BD (zeJ h)) _ _ _ ⟨⟨by omega, by omega, by omega⟩, ?_, zax (zbw h), zka b true h o (zeJ h) (zbe _ _) (zfV o.g) (ze2 o.g) kk (by omega), rfl⟩
 have := zkn b h o (List.replicate h.cs.length false) (by simp) kk (by omega)
 rw [zmp, ← zlS] at this
 rw [show ((CD h.cs).length : Int).toNat = h.cs.length by omega]
 exact this
theorem zhK (b : Bool) (h : Hp) (o : Og h) : EvN 400 102 [.dat (HD b h)] [] [] ([H3 (minH h)], [], []) := by
 refine zaY Go.Proofs.Tryd.f102 399 (by kernel_rfl) (by kernel_rfl) fun kk hkk => ?_
 have g := o.g
 have hcl := g.clen
 have hlc : (CD h.cs).length = h.cs.length := by simp
 have ho := Int.toNat_of_nonneg g.o0
 have ho1 := g.o1
 obtain ⟨l0, hP0, la⟩ := zc1 (kk := kk) (f := 102) (fn := Go.Proofs.Tryd.f102) (r := 3) (x := .exit 0) (fun i (l : List Bool) => zkY b h.o (CD h.cs) (ID h.rs) (BD l) (i : Int))
  (fun l => Nm [1, 2, 3] [.ptr (.loc 1) 0, .ptr (.loc 2) 0, .own 4 (BD l)] [Hb b h.o (CD h.cs) (ID h.rs), some (Ho 0 [] []), none] [] [])
  (fun i l => l.length = h.cs.length ∧ ∀ j : Int, 0 ≤ j → (K l j ↔ j < (i : Int))) h.o.toNat (by omega) (List.replicate h.cs.length false) ⟨by simp, fun j hj => ⟨fun e => absurd e (zmS _ _), fun e => by omega⟩⟩
  (fun i l hi hP => by
   have hil : i < l.length := by have := hP.1; omega
   have hb := zfl (ks := l) (i := (i : Int)) (by omega) (by omega)
   refine ⟨l.set i true, ⟨by simp [hP.1], fun j hj => ?_⟩, fun q s K hs hn => zkf kk q b h.o _ _ _ i (l.getD i false) hs (fun _ => ⟨⟨by omega, by rw [ze1]; omega⟩, by simpa using hb.2, fun s' hs' => hn s' ?_⟩) (fun d => absurd (of_decide_eq_false d) (by omega))⟩
   · have := zlD (l := l) (i := (i : Int)) (by omega) (by omega) j hj
     rw [Int.toNat_natCast] at this
     rw [this, hP.2 j hj]
     omega
   · rw [hs', wi i (by omega), Int.toNat_natCast, ze6]
     rfl)
  (fun l _ q s K hs hK => zkf kk q b h.o _ _ _ _ true hs (fun d => absurd (of_decide_eq_true d) (by omega)) (fun _ => hK))
  (s0 := zkY b h.o (CD h.cs) (ID h.rs) (List.replicate (CD h.cs).length (B false)) 0) (by rw [hlc, zlS]; rfl)
 have hk := zmX (ks := l0) (h := h) fun j hj => by rw [hP0.2 j hj, ho]
 have hev := zkn b h o l0 hP0.1 kk (by omega)
 rw [hk] at hev
 exact zpv kk b h.o _ _ (BD l0) (BD (minL h)) _ _ _ ⟨⟨by omega, by omega, by omega⟩, la, hev, zax (minH h), zka b true h o (minL h) (zbe _ _) (zgT g) (zhh g) kk (by omega), rfl⟩
theorem zh8 (h : Hp) : D.cleans [D.own 97 (CD h.cs), D.own 3 (ID h.rs)] = true := by
 simp only [D.cleans, D.clean, zjE, zhe, Bool.and_self]
theorem mv_o {h : Hp} {m : List Bool} (hm : m.length = h.cs.length) : ((CD (mvCs m h.cs m)).length : Int) = (mvH m h).o := by
 have := zi4 (c := h.cs) hm m.length
 rw [List.take_length, hm, List.take_length, ← hm] at this
 exact this
theorem zfJ (b : Bool) (h : Hp) (o : Og h) : EvN 3100 112 [.dat (HD b h)] [] [] ([H3 (zbw h)], [], []) := by
 refine zaY Go.Proofs.Tryd.f112 3099 (by kernel_rfl) (by kernel_rfl) fun kk hkk => ?_
 have g := o.g
 refine zpV kk b h.o _ _ (BD (zeJ h)) (CD (zbw h).cs) (ID (zbw h).rs) ⟨zhE b b h.cs h.rs g.wf g.clen g.rin (by have := g.rlen; omega) kk (by omega), zh8 (zbw h), zl9 b true b h g (zeJ h) (zbe _ _) (zfV g) (ze2 g) kk (by omega), ?_⟩
 have := mv_o (h := h) (m := zeJ h) (zbe _ _)
 show _ = ([D.seq false [.dat (I ((CD (mvCs (zeJ h) h.cs (zeJ h))).length : Int)), _, _]], _, _)
 rw [this]
 rfl
def oldN (o : Int) : List Int := (List.range o.toNat).map (fun (i : Nat) => (i : Int))
theorem zjZ {o i : Int} (h : 0 ≤ o) : i ∈ oldN o ↔ 0 ≤ i ∧ i < o := by
 unfold oldN
 simp only [List.mem_map, List.mem_range]
 exact ⟨fun ⟨a, h1, h2⟩ => by omega, fun ⟨h1, h2⟩ => ⟨i.toNat, by omega, by omega⟩⟩
theorem zgh (b : Bool) (h : Hp) (o : Og h) : EvN 3100 113 [.dat (HD b h)] [] [] ([H3 (minH h)], [], []) := by
 refine zaY Go.Proofs.Tryd.f113 3099 (by kernel_rfl) (by kernel_rfl) fun kk hkk => ?_
 have g := o.g
 have hcl := g.clen
 have hrl := g.rlen
 have ho := Int.toNat_of_nonneg g.o0
 have ho1 := g.o1
 have la := zbi (kk := kk) (f := 113) (fn := Go.Proofs.Tryd.f113) (r := 3) (x := .exit 0) (s' := Nm [1, 2, 3] [.ptr (.loc 1) 0, .ptr (.loc 2) 0, .own 3 (ID (h.rs ++ oldN h.o))] [Hb b h.o (CD h.cs) (ID h.rs), some (Ho 0 [] []), none] [] [])
  (fun i => zkS b h.o (CD h.cs) (ID h.rs) (ID (h.rs ++ (List.range i).map (fun (k : Nat) => (k : Int)))) i) h.o.toNat (by omega)
  (fun i hi q s K hs hn => by
   refine zhV kk q b h.o _ _ _ i hs (fun _ => ⟨by simp; omega, fun s' hs' => hn s' ?_⟩) (fun d => absurd (of_decide_eq_false d) (by omega))
   rw [hs', wi i (by omega), show ID (h.rs ++ (List.range i).map (fun (k : Nat) => (k : Int))) ++ [I (i : Int)] = ID (h.rs ++ (List.range (i + 1)).map (fun (k : Nat) => (k : Int))) by simp [ID, List.range_succ]]
   rfl)
  (fun q s K hs hK => zhV kk q b h.o _ _ _ _ hs (fun d => absurd (of_decide_eq_true d) (by omega)) (fun _ => hK))
  (s0 := zkS b h.o (CD h.cs) (ID h.rs) (ID h.rs) 0) (by simp)
 have hre := zhE b false h.cs (h.rs ++ oldN h.o) g.wf g.clen (fun x hx => by
  rcases List.mem_append.1 hx with hx | hx
  · exact g.rin x hx
  · have := (zjZ g.o0).1 hx; omega) (by simp [oldN]; omega) kk (by omega)
 have hmk : zfY h.cs.length (Rch h.cs (fun _ => True) (· ∈ h.rs ++ oldN h.o)) = minL h := by
  unfold minL
  congr 2
  funext i
  refine propext ?_
  rw [List.mem_append, zjZ g.o0]
  exact Or.comm
 rw [hmk] at hre
 refine zoC kk b h.o _ _ (ID h.rs) (ID (h.rs ++ oldN h.o)) (BD (minL h)) (CD (minH h).cs) (ID (minH h).rs) ⟨ze3 b h.rs (by omega) kk (by omega), la, hre, zh8 (minH h), zl9 b true b h g (minL h) (zbe _ _) (zgT g) (zhh g) kk (by omega), ?_⟩
 have := mv_o (h := h) (m := minL h) (zbe _ _)
 show _ = ([D.seq false [.dat (I ((CD (mvCs (minL h) h.cs (minL h))).length : Int)), _, _]], _, _)
 rw [this]
 rfl
end Go.Den
namespace Go.Den
open Go
set_option linter.unusedVariables false
set_option maxRecDepth 100000
open Go.Proofs.YtcmcfebihbmmeaaDoor (num numV)
structure Ws where
 h : Hp
 full : Bool
 out : ByteArray
abbrev nlB : ByteArray := ByteArray.mk #[10]
abbrev zpJ : ByteArray := ByteArray.mk #[115, 97, 109, 101, 10]
abbrev znS : ByteArray := ByteArray.mk #[111, 116, 104, 101, 114, 10]
noncomputable def tidyH (fr : Bool) (room nur : Int) (h : Hp) : Hp :=
 match fr with
 | true => h
 | false => match decide (nur ≤ (h.cs.length : Int) - h.o) with
   | true => (match decide (room ≤ ((zmA h).cs.length : Int)) with | true => zbw (zmA h) | false => zmA h)
   | false => (match decide (room ≤ (h.cs.length : Int)) with | true => zbw h | false => h)
def zdm (fr : Bool) (room : Int) (h : Hp) : Bool := !fr && decide (room ≤ (h.cs.length : Int))
def rg (h : Hp) (a : Int) : Int := h.rs.getD a.toNat 0
def zea (pair : Bool) (a b : Int) (h : Hp) : Cl := match pair with | true => ⟨false, 0, rg h a, rg h b⟩ | false => ⟨true, a, 0, 0⟩
def zmo (w : Ws) (second : Bool) (at_ : Int) : Ws := ⟨zos w.h (match second with | true => (cg w.h.cs at_).b | false => (cg w.h.cs at_).a), w.full, w.out⟩
structure Op3 where
 k : Int
 a : Int
 b : Int
structure Iv (fr : Bool) (m : Nat) (w : Ws) : Prop where
 g : Hg w.h
 len : fr = true → w.h.cs.length ≤ m
 out : w.out.size ≤ 700 * m
theorem zn1 {h : Hp} {a : Int} (ha : zac a h.rs.length = true) : (0 ≤ a ∧ a < (h.rs.length : Int)) ∧ h.rs[a.toNat]? = some (rg h a) := by
 have h1 := zic ha
 refine ⟨h1, ?_⟩
 have : a.toNat < h.rs.length := by omega
 unfold rg
 rw [List.getD_eq_getElem?_getD, List.getElem?_eq_getElem this]
 rfl
theorem zip {h : Hp} (g : Hg h) {a : Int} (ha : zac a h.rs.length = true) : 0 ≤ rg h a ∧ rg h a < (h.cs.length : Int) := g.rin _ (List.mem_of_getElem? (zn1 ha).2)
end Go.Den
namespace Go.Den
open Go
set_option linter.unusedVariables false
set_option maxRecDepth 100000
open Go.Proofs.YtcmcfebihbmmeaaDoor (num numV)
theorem zjl {α : Type} (f : α → Dat) (n : Nat) (hf : ∀ x, (f x).cells.length = n) : ∀ l : List α, (l.map f).all (fun d => Nat.beq d.cells.length n) = true
 | [] => rfl
 | x :: l => by rw [List.map_cons, List.all_cons, hf x, zjl f n hf l, Bool.and_true]; exact beq_eq.2 rfl
theorem zn3 (zs : List Int) : (ID zs).all (fun d => Nat.beq d.cells.length 1) = true := zjl _ 1 (fun _ => rfl) zs
theorem zlu : ∀ zs : List Int, zeq (ID zs) = some zs
 | [] => rfl
 | z :: zs => by
   show (zeq (ID zs)).map (z :: ·) = some (z :: zs)
   rw [zlu zs]; rfl
theorem zpp (zs : List Int) (i : Int) (h0 : 0 ≤ i) (h1 : i < (zs.length : Int)) (hl : zs.length ≤ 1000000) : EvN 1 109 [.own 3 (ID zs), .dat (I i), .dat (I (i + 1))] [] [] ([.own 3 (ID (zs.take i.toNat ++ zs.drop (i.toNat + 1)))], [], []) := by
 refine zff (g := zis 3) (by kernel_rfl) ?_
 have h2 : (decide (0 ≤ i) && decide (i ≤ i + 1) && decide (i + 1 ≤ ((ID zs).length : Int))) = true := by simp; omega
 have h3 : Nat.ble (ID zs).length 1000000 = true := by simpa using hl
 have h4 : Nat.beq 3 3 = true := rfl
 have h5 : (i + 1).toNat = i.toNat + 1 := by omega
 unfold zis
 simp only [h2, h3, h4, Bool.and_self, zlu, Option.map_some, h5]
 rfl
end Go.Den
namespace Go.Den
open Go
set_option linter.unusedVariables false
set_option maxRecDepth 100000
open Go.Proofs.YtcmcfebihbmmeaaDoor (num numV)
theorem zes {h : Hp} (g : Hg h) {a : Int} (ha : zac a h.rs.length = true) : (0 ≤ a ∧ a < ((ID h.rs).length : Int)) ∧ (ID h.rs)[a.toNat]? = some (I (rg h a)) ∧ (0 ≤ rg h a ∧ rg h a < ((CD h.cs).length : Int)) ∧ (CD h.cs)[(rg h a).toNat]? = some (cg h.cs (rg h a)).d := by
 obtain ⟨h1, h2⟩ := zn1 ha
 have h3 := zip g ha
 obtain ⟨h4, h5⟩ := zmq (c := h.cs) h3.1 h3.2
 exact ⟨by simpa using h1, gm (f := (I ·)) h2, h4, h5⟩
theorem in39 {h : Hp} (g : Hg h) (a : Int) : EvN 1 39 [.dat (I a), .dat (I 0), .dat (I (w64 (((ID h.rs).length : Int) - 1)))] [] [] ([.dat (B (zac a h.rs.length))], [], []) := by
 have hrl := g.rlen
 have := zjw a 0 ((h.rs.length : Int) - 1)
 rw [zns] at this
 rw [show w64 (((ID h.rs).length : Int) - 1) = (h.rs.length : Int) - 1 by rw [List.length_map, zca (by omega)]]
 exact this
theorem zn8 (cs : List Cl) (c : Cl) : CD cs ++ [c.d] = CD (cs ++ [c]) := by simp [CD]
theorem zgg (zs : List Int) (z : Int) : ID zs ++ [I z] = ID (zs ++ [z]) := by simp [ID]
theorem zoG {cs : List Cl} {c : Cl} (h : cs.length ≤ 1000) : w64 (((CD cs ++ [c.d]).length : Int) - 1) = (cs.length : Int) := by
 rw [List.length_append, List.length_map, zca (by simp; omega)]; simp
section
variable {fr : Bool} {room nur : Int} {a b : Int} {w : Ws}
def Other (k : Int) : Prop := k ≠ 1 ∧ k ≠ 2 ∧ k ≠ 3 ∧ k ≠ 4 ∧ k ≠ 5 ∧ k ≠ 6 ∧ k ≠ 7 ∧ k ≠ 8 ∧ k ≠ 9 ∧ k ≠ 10 ∧ k ≠ 11
end
theorem zl4 (zs : List Int) (n : Nat) : List.take n (ID zs) = ID (zs.take n) := by simp [ID]
theorem zmn (zs : List Int) (n : Nat) : List.drop n (ID zs) = ID (zs.drop n) := by simp [ID]
end Go.Den
namespace Go.Den
open Go
set_option linter.unusedVariables false
set_option maxRecDepth 100000
open Go.Proofs.YtcmcfebihbmmeaaDoor (num numV)
theorem zme (x y : ByteArray) : zah (x ++ y) = zah x ++ zah y := by simp [zah]
theorem zig (x : ByteArray) : (zah x).length = x.size := by simp [zah]
theorem zhy (x : ByteArray) : (zah x).all (fun d => Nat.beq d.cells.length 1) = true := zjl (fun b : UInt8 => Dat.val (.int .u8 b.toNat)) 1 (fun _ => rfl) x.data.toList
def One (k : Int) : Prop := k = 3 ∨ k = 4 ∨ k = 5 ∨ k = 6
end Go.Den
namespace Go.Den
open Go
set_option linter.unusedVariables false
set_option maxRecDepth 100000
open Go.Proofs.YtcmcfebihbmmeaaDoor (num numV)
abbrev Op3.d (x : Op3) : Dat := N3 x.k x.a x.b
abbrev OD (l : List Op3) : List Dat := l.map Op3.d
def w00 : Ws := ⟨⟨0, [], [], []⟩, false, ByteArray.empty⟩
theorem iv00 (fr : Bool) : Iv fr 0 w00 :=
 ⟨⟨fun i c h => by simp [w00] at h, by simp [w00], by simp [w00], Int.le_refl _, by simp [w00], fun x h => by simp [w00] at h, .nil, fun x h => by simp [w00] at h, fun i c h => by simp [w00] at h⟩, fun _ => by simp [w00], by show (0 : Nat) ≤ _; omega⟩
theorem zmj {α : Type} {L l : List α} {x : α} {i : Nat} (h : L.drop i = x :: l) : L[i]? = some x ∧ L.drop (i + 1) = l ∧ i < L.length := by
 have h1 : L[i]? = some x := by
  have := List.getElem?_drop (xs := L) (i := i) (j := 0)
  rw [h] at this
  simpa using this.symm
 refine ⟨h1, ?_, (List.getElem?_eq_some_iff.1 h1).1⟩
 have : (L.drop i).drop 1 = L.drop (i + 1) := by rw [List.drop_drop]
 rw [← this, h]; rfl
section
variable {fr : Bool} {room nur : Int}
end
theorem zh4 (x : ByteArray) : zde (zah x) = some (.string x) := by
 have key : ∀ l : List UInt8, zb0 (l.map fun b => Dat.val (.int .u8 (b.toNat : Int))) = some l := by
  intro l
  induction l with
  | nil => rfl
  | cons b l ih =>
    show (zb0 (l.map _)).map (UInt8.ofNat ((b.toNat : Int)).toNat :: ·) = some (b :: l)
    rw [ih, Int.toNat_natCast]
    simp
 unfold zde zah
 rw [key]
 simp
theorem zp7 (b : Bool) (es : List Dat) (h2 : es.length ≤ 9223372036854775807) : EvN 1 16 [.dat (.lst b es), .dat (I 1048576)] [] [] ([.dat (I (zdA 1048576 es.length))], [], []) := by
 refine zaY Go.Proofs.Tryd.f16 0 (by kernel_rfl) (by kernel_rfl) fun kk _ => ?_
 have hw : w64 (1048576 - (es.length : Int)) = 1048576 - es.length := zca (by omega)
 refine szO kk 1048576 b es (fun d => ?_) (fun d => ?_)
 · rw [hw] at d
   rw [zor (of_decide_eq_true d)]
 · rw [hw] at d ⊢
   rw [zox (of_decide_eq_false d)]
theorem zo3 (x : Op3) : EvN 1 48 [.dat x.d] [] [] ([.dat x.d], [], []) := zaY Go.Proofs.Tryd.f48 0 (by kernel_rfl) (by kernel_rfl) fun kk _ => toOp kk x.k x.a x.b rfl
theorem zm9 (b : Bool) (L : List Op3) (h : L.length ≤ 1048576) : EvN 1048580 18 [.dat (.lst b (OD L))] [] [] ([.own 72 (OD L)], [], []) := by
 refine zaY Go.Proofs.Tryd.f18 1048579 (by kernel_rfl) (by kernel_rfl) fun kk hkk => ?_
 have hlen : (OD L).length = L.length := by simp
 generalize hes : OD L = es at *
 refine toOpS kk b es es ⟨⟨by omega, by omega, by omega⟩, ?_, rfl⟩
 refine zbi (fun i => hd18 b es (es.take i ++ List.replicate (es.length - i) (N3 0 0 0)) i) es.length (by omega) (fun i hi m s K hs hn => ?_) (fun m s K hs hK => ?_) (by simp)
 · obtain ⟨x, hx⟩ := zev (L := L) (i := i) (by omega)
   have hxd : es[i]? = some x.d := by rw [← hes]; exact gm hx
   refine zmO kk m b es _ i x.k x.a x.b x.k x.a x.b 0 0 0 hs (fun _ => ⟨ih hxd, zo3 x kk (by omega), ⟨by omega, by simp; omega⟩, by rw [Int.toNat_natCast]; exact zoR es _ i hi, fun s' hs' => hn s' ?_⟩) (fun d => absurd (of_decide_eq_false d) (by omega))
   rw [hs', Int.toNat_natCast, wi i (by omega), show N3 x.k x.a x.b = x.d from rfl, zoh es _ _ i hi hxd]
   rfl
 · refine zmO kk m b es _ _ 0 0 0 0 0 0 0 0 0 hs (fun d => absurd (of_decide_eq_true d) (by omega)) (fun _ => ?_)
   simpa using hK
theorem zpd (x : Op3) : EvN 1 50 [.dat x.d, .dat x.d] [] [] ([.dat (B true)], [], []) :=
 zaY Go.Proofs.Tryd.f50 0 (by kernel_rfl) (by kernel_rfl) fun kk _ => eqOp kk x.k x.a x.b x.k x.a x.b (fun d => by simp at d) (fun _ d => by simp at d) (fun _ _ d => by simp at d) (fun _ _ _ => rfl)
theorem znr (L : List Op3) (b1 b2 : Bool) (h : L.length ≤ 1048576) : EvN 1048580 20 [.dat (.lst b1 (OD L)), .dat (.lst b2 (OD L))] [] [] ([.dat (B true)], [], []) := by
 refine zaY Go.Proofs.Tryd.f20 1048579 (by kernel_rfl) (by kernel_rfl) fun kk hkk => ?_
 have hlen : (OD L).length = L.length := by simp
 generalize hes : OD L = es at *
 refine zoZ kk b1 b2 es es (fun d => by simp at d) (fun _ => ⟨?_, rfl⟩)
 refine zbi (fun i => hd20 b1 b2 es es i) es.length (by omega) (fun i hi m s K hs hn => ?_) (fun m s K hs hK => ?_) rfl
 · obtain ⟨x, hx⟩ := zev (L := L) (i := i) (by omega)
   have hxd : es[i]? = some x.d := by rw [← hes]; exact gm hx
   refine zk7 kk m b1 b2 es es i x.k x.a x.b x.k x.a x.b true hs (fun _ d => by cases d) (fun _ _ => ⟨ih hxd, ih hxd, zpd x kk (by omega), fun s' hs' => hn s' ?_⟩) (fun d => absurd (of_decide_eq_false d) (by omega))
   rw [hs', wi i (by omega)]
   rfl
 · exact zk7 kk m b1 b2 es es _ 0 0 0 0 0 0 true hs (fun d => absurd (of_decide_eq_true d) (by omega)) (fun d => absurd (of_decide_eq_true d) (by omega)) (fun _ => hK)
end Go.Den
namespace Go.Den
open Go
open Go.Proofs.YtcmcfebihbmmeaaDoor (num numV atoiV)
set_option linter.unusedVariables false
set_option maxRecDepth 100000
def str (l : List UInt8) : ByteArray := ⟨l.toArray⟩
theorem zbW (l : List UInt8) : (str l).size = l.length := by simp [str, ByteArray.size]
def txt (c : List Cl) : Nat → Int → List UInt8
 | 0, _ => []
 | d + 1, i => match (cg c i).l with
   | true => Lib.itoa (cg c i).n
   | false => 40 :: (txt c d (cg c i).a ++ 32 :: (txt c d (cg c i).b ++ [41]))
def cut (c : List Cl) : Nat → Int → List UInt8
 | 0, _ => []
 | d + 1, i => match (cg c i).l with
   | true => Lib.itoa (cg c i).n
   | false => match decide (500 < 1 + (cut c d (cg c i).a).length) with
     | true => 40 :: cut c d (cg c i).a
     | false => 40 :: (cut c d (cg c i).a ++ 32 :: (cut c d (cg c i).b ++ [41]))
theorem zja (c : List Cl) : ∀ (d : Nat) (i : Int), (500 < (cut c d i).length ↔ 500 < (txt c d i).length) ∧ ((txt c d i).length ≤ 500 → cut c d i = txt c d i)
 | 0, i => ⟨Iff.rfl, fun _ => rfl⟩
 | d + 1, i => by
   obtain ⟨a1, a2⟩ := zja c d (cg c i).a
   obtain ⟨b1, b2⟩ := zja c d (cg c i).b
   unfold cut txt
   cases (cg c i).l with
   | true => exact ⟨Iff.rfl, fun _ => rfl⟩
   | false =>
     simp only
     by_cases h : 500 < 1 + (cut c d (cg c i).a).length
     · rw [decide_eq_true h]
       simp only [List.length_cons, List.length_append, List.length_nil]
       by_cases h2 : 500 < (txt c d (cg c i).a).length
       · exact ⟨⟨fun _ => by omega, fun _ => by have := a1.2 h2; omega⟩, fun h3 => by omega⟩
       · have := a2 (by omega)
         rw [this] at h ⊢
         exact ⟨⟨fun _ => by omega, fun _ => by omega⟩, fun h3 => by omega⟩
     · rw [decide_eq_false h]
       have h2 : ¬ 500 < (txt c d (cg c i).a).length := fun h3 => by have := a1.2 h3; omega
       rw [a2 (by omega)]
       simp only [List.length_cons, List.length_append, List.length_nil]
       by_cases h4 : 500 < (txt c d (cg c i).b).length
       · have := b1.2 h4
         exact ⟨⟨fun _ => by omega, fun _ => by omega⟩, fun h3 => by omega⟩
       · rw [b2 (by omega)]
         exact ⟨Iff.rfl, fun _ => rfl⟩
theorem zkm {n : Int} (h : In64 n) : (Lib.itoa n).length ≤ 40 ∧ 1 ≤ (Lib.itoa n).length := by
 have := znN h
 have e : (num n).size = (Lib.itoa n).length := zbW _
 refine ⟨by omega, ?_⟩
 unfold Lib.itoa
 split
 · simp
 · rw [Lib.decDigits_length]; exact Lib.nDigits_pos _
def Nums (c : List Cl) : Prop := ∀ i : Int, In64 (cg c i).n
theorem zfK {c : List Cl} (hn : Nums c) : ∀ (d : Nat) (i : Int), (cut c d i).length ≤ 600 * (d + 1)
 | 0, i => by simp [cut]
 | d + 1, i => by
   have ha := zfK hn d (cg c i).a
   have hb := zfK hn d (cg c i).b
   have := (zkm (hn i)).1
   unfold cut
   cases (cg c i).l with
   | true => simp only; omega
   | false =>
     simp only
     by_cases h : 500 < 1 + (cut c d (cg c i).a).length
     · rw [decide_eq_true h]; simp only [List.length_cons]; omega
     · rw [decide_eq_false h]; simp only [List.length_cons, List.length_append, List.length_nil]; omega
def Low (c : List Cl) : Prop := ∀ i : Int, 0 ≤ i → i < (c.length : Int) → (cg c i).l = false → (0 ≤ (cg c i).a ∧ (cg c i).a < i) ∧ (0 ≤ (cg c i).b ∧ (cg c i).b < i)
theorem zeO {c : List Cl} (hl : Low c) : ∀ (d d' : Nat) (i : Int), 0 ≤ i → i < (c.length : Int) → i < (d : Int) → i < (d' : Int) → txt c d i = txt c d' i
 | 0, d', i, h0, _, h1, _ => by omega
 | d + 1, 0, i, h0, _, _, h2 => by omega
 | d + 1, d' + 1, i, h0, hc, h1, h2 => by
   unfold txt
   cases h : (cg c i).l with
   | true => rfl
   | false =>
     obtain ⟨⟨a0, a1⟩, b0, b1⟩ := hl i h0 hc h
     simp only
     rw [zeO hl d d' _ a0 (by omega) (by omega) (by omega), zeO hl d d' _ b0 (by omega) (by omega) (by omega)]
theorem znz (l r : List UInt8) : ByteArray.mk #[40] ++ str l ++ ByteArray.mk #[32] ++ str r ++ ByteArray.mk #[41] = str (40 :: (l ++ 32 :: (r ++ [41]))) := by
 apply ByteArray.ext
 simp [str]
theorem zjz (l : List UInt8) : ByteArray.mk #[40] ++ str l = str (40 :: l) := by
 apply ByteArray.ext
 simp [str]
theorem zhf (b : Bool) {c : List Cl} (hl : Low c) (hn : Nums c) : ∀ (d : Nat) (i : Int), d ≤ 1000 → 0 ≤ i → i < (c.length : Int) → i < (d : Int) → EvN (d + 1) 100 [.dat (.lst b (CD c)), .dat (I i)] [] [] ([.dat (S (str (cut c d i)))], [], [])
 | 0, i, _, h0, _, h1 => by omega
 | d + 1, i, hd, h0, hc, h1 => by
   refine zaY Go.Proofs.Tryd.f100 (d + 1) (by kernel_rfl) (by kernel_rfl) fun kk hkk => ?_
   have hx := zmq h0 hc
   have hca := zfK hn d (cg c i).a
   have hcb := zfK hn d (cg c i).b
   have hsa := zbW (cut c d (cg c i).a)
   have hsb := zbW (cut c d (cg c i).b)
   have ho : (ByteArray.mk #[40] ++ str (cut c d (cg c i).a)).size = 1 + (cut c d (cg c i).a).length := by rw [zjz, zbW]; simp; omega
   unfold cut
   cases hle : (cg c i).l with
   | true => exact zpi kk b _ i (cg c i) (num (cg c i).n) default default (fun _ => ⟨hx, znf (hn i) kk (by omega), rfl⟩) (fun d => by rw [hle] at d; cases d) (fun d => by rw [hle] at d; cases d)
   | false =>
     obtain ⟨⟨a0, a1⟩, b0, b1⟩ := hl i h0 hc hle
     have ea := zhf b hl hn d _ (by omega) a0 (by omega) (by omega) kk (by omega)
     have eb := zhf b hl hn d _ (by omega) b0 (by omega) (by omega) kk (by omega)
     simp only
     by_cases h : 500 < 1 + (cut c d (cg c i).a).length
     · rw [decide_eq_true h]
       exact zpi kk b _ i (cg c i) default (str (cut c d (cg c i).a)) default (fun d => by rw [hle] at d; cases d) (fun _ _ => ⟨hx, ea, by omega, by rw [zjz]⟩) (fun _ d => absurd (of_decide_eq_false d) (by rw [ho]; omega))
     · rw [decide_eq_false h]
       refine zpi kk b _ i (cg c i) default (str (cut c d (cg c i).a)) (str (cut c d (cg c i).b)) (fun d => by rw [hle] at d; cases d) (fun _ d => absurd (of_decide_eq_true d) (by rw [ho]; omega)) (fun _ _ => ⟨hx, ea, by omega, by omega, eb, ?_, ?_, by rw [znz]⟩)
       · rw [ByteArray.size_append, ho, hsb]; show 1 + _ + 1 + _ ≤ _; omega
       · rw [ByteArray.size_append, ByteArray.size_append, ho, hsb]; show 1 + _ + 1 + _ + 1 ≤ _; omega
end Go.Den
namespace Go.Den
open Go
open Go.Proofs.YtcmcfebihbmmeaaDoor (num numV atoiV decF zhC)
set_option linter.unusedVariables false
set_option maxRecDepth 100000
theorem zfq : ∀ l : List UInt8, zb0 (zav l) = some l
 | [] => rfl
 | b :: l => by
   show (zb0 (zav l)).map (UInt8.ofNat ((b.toNat : Int)).toNat :: ·) = some (b :: l)
   rw [zfq l, Int.toNat_natCast]
   simp
theorem zb7 (l : List UInt8) : (zav l).length = l.length := by simp [zav]
theorem zd4 (a b : List UInt8) : zav a ++ zav b = zav (a ++ b) := by simp [zav]
theorem zpP (es : List Dat) (bs : List UInt8) (n : Int) (hb : zb0 es = some bs) (h1 : decide (0 ≤ n) = true) (h2 : decide (n < 18446744073709551616) = true) (h3 : Nat.ble es.length 1000000 = true) :
 zku 5 [.own 5 es, .dat (.val (.int .u64 n)), .dat (.val (.int .i64 10))] [] [] = some ([.own 5 (es ++ zav (Lib.decDigits n.toNat))], [], []) := by
 have h0 : Nat.beq 5 5 = true := rfl
 unfold zku
 simp only [h0, h1, h2, h3, decide_true, Bool.and_self, hb, Option.map_some]
theorem zqd (l : List UInt8) (u : Nat) (n : Int) (hn : n = (u : Int)) (hu : n < 18446744073709551616) (hl : l.length ≤ 1000000) : EvN 1 151 [.own 5 (zav l), .dat (.val (.int .u64 n)), .dat (I 10)] [] [] ([.own 5 (zav (l ++ Lib.decDigits u))], [], []) := by
 have h3 : Nat.ble (zav l).length 1000000 = true := by rw [zb7]; exact Nat.ble_eq_true_of_le hl
 have h := zpP (zav l) l n (zfq l) (decide_eq_true (by omega)) (decide_eq_true hu) h3
 rw [zd4, show n.toNat = u by omega] at h
 exact zff (g := zku 5) (by kernel_rfl) h
theorem ev_ai (l : List UInt8) (n : Int) (hn : In64 n) (hl : l.length ≤ 100000) : EvN 3 130 [.own 5 (zav l), .dat (I n), .dat (I 10)] [] [] ([.own 5 (zav (l ++ Lib.itoa n))], [], []) := by
 refine zaY Go.Proofs.Tryd.f130 2 (by kernel_rfl) (by kernel_rfl) fun kk hkk => zp6 kk _ n 10 (zav (l ++ Lib.itoa n)) ⟨?_, rfl⟩
 have h : EvN 2 139 [.own 5 (zav l), .dat (I n), .dat (I 10)] [] [] ([.own 5 (zav (l ++ Lib.itoa n))], [], []) := by
  refine zaY Go.Proofs.Tryd.f139 1 (by kernel_rfl) (by kernel_rfl) fun kk hkk => zpt kk _ n 10 (zav (l ++ Lib.itoa n)) (fun d => ?_) (fun d => ?_)
  · have d := of_decide_eq_true d
    obtain ⟨u, rfl⟩ : ∃ u : Nat, n = -(u : Int) := ⟨n.natAbs, by omega⟩
    have hu1 : 1 ≤ u := by omega
    have hu2 : u < 18446744073709551616 := by have := hn.1; omega
    refine ⟨by rw [zb7]; omega, ?_, rfl⟩
    have hw : IntKind.u64.wrap (0 - IntKind.u64.wrap (-(u : Int))) = (u : Int) := by rw [IntKind.wrap_u64, IntKind.wrap_u64]; omega
    rw [hw, Lib.itoa_neg u hu1, show zav l ++ [Dat.val (.int .u8 45)] = zav (l ++ [45]) by rw [← zd4]; rfl, show l ++ 45 :: Lib.decDigits u = (l ++ [45]) ++ Lib.decDigits u by simp]
    exact zqd _ u _ rfl (by omega) (by simp; omega) kk (by omega)
  · have d := of_decide_eq_false d
    obtain ⟨u, rfl⟩ : ∃ u : Nat, n = (u : Int) := ⟨n.toNat, by omega⟩
    have hu2 : u < 18446744073709551616 := by have := hn.2; omega
    refine ⟨?_, rfl⟩
    have hw : IntKind.u64.wrap (u : Int) = (u : Int) := by rw [IntKind.wrap_u64]; omega
    rw [hw, Lib.itoa_nonneg]
    exact zqd _ u _ rfl (by omega) (by omega) kk (by omega)
 exact h kk (by omega)
inductive Tok where
 | cell (i : Int)
 | lit (b : UInt8)
def Tok.s : Tok → ByteArray
 | .cell i => num i
 | .lit b => ByteArray.mk #[b]
abbrev TD (l : List Tok) : List Dat := l.map fun t => S t.s
def Lit (b : UInt8) : Prop := b = 40 ∨ b = 32 ∨ b = 41
def Tok.ok (c : List Cl) : Tok → Prop
 | .cell i => 0 ≤ i ∧ i < (c.length : Int)
 | .lit b => Lit b
theorem zkD : ∀ i : Nat, i < 200 → Lib.atoi (decF 3 i) = some (i : Int) := by decide +kernel
theorem zmW (n : Int) : (num n).data.toList = Lib.itoa n := by simp [num]
theorem zoY {i : Int} (h0 : 0 ≤ i) (h1 : i < 200) : EvN 1 129 [.dat (S (num i))] [] [] ([.dat (I i), .dat (.val .nilIface)], [], []) := by
 refine zff (g := zhp atoiV) (by kernel_rfl) ?_
 obtain ⟨i, rfl⟩ := Int.eq_ofNat_of_zero_le h0
 have hs : (num (i : Int)).size ≤ 18 := by
  rw [show (num (i : Int)).size = (Lib.itoa (i : Int)).length from zbW _, Lib.itoa_nonneg, zhC 2 i (by omega)]
  have : ∀ i : Nat, i < 200 → (decF 3 i).length ≤ 18 := by decide +kernel
  exact this i (by omega)
 have ha : Lib.atoi (num (i : Int)).data.toList = some (i : Int) := by
  rw [zmW, Lib.itoa_nonneg, zhC 2 i (by omega)]
  exact zkD i (by omega)
 have hv : atoiV (.string (num (i : Int))) = some (.int .i64 (i : Int), true) := by
  unfold atoiV
  dsimp only
  rw [if_pos hs, ha]
 show (atoiV (.string (num (i : Int)))).map _ = _
 rw [hv]
 rfl
theorem zjp {b : UInt8} (h : Lit b) : EvN 1 129 [.dat (S (ByteArray.mk #[b]))] [] [] ([.dat (I 0), .etc .err], [], []) := by
 refine zff (g := zhp atoiV) (by kernel_rfl) ?_
 have hv : atoiV (.string (ByteArray.mk #[b])) = some (.int .i64 0, false) := by
  rcases h with rfl | rfl | rfl <;> kernel_rfl
 show (atoiV (.string (ByteArray.mk #[b]))).map _ = _
 rw [hv]
 rfl
def Tt (c : List Cl) (i : Int) : List UInt8 := txt c 300 i
def flat (c : List Cl) : Tok → List UInt8
 | .cell i => Tt c i
 | .lit b => [b]
def zdc (c : List Cl) : List Tok → List UInt8
 | [] => []
 | t :: l => zdc c l ++ flat c t
theorem zfb (c : List Cl) : ∀ a b : List Tok, zdc c (a ++ b) = zdc c b ++ zdc c a
 | [], b => by simp [zdc]
 | t :: a, b => by simp [zdc, zfb c a b]
theorem zph {c : List Cl} {i : Int} (h : (cg c i).l = true) : Tt c i = Lib.itoa (cg c i).n := by
 unfold Tt txt
 rw [h]
theorem zo9 {c : List Cl} (hl : Low c) (hc : c.length ≤ 200) {i : Int} (h0 : 0 ≤ i) (hi : i < (c.length : Int)) (h : (cg c i).l = false) : Tt c i = 40 :: (Tt c (cg c i).a ++ 32 :: (Tt c (cg c i).b ++ [41])) := by
 obtain ⟨⟨a0, a1⟩, b0, b1⟩ := hl i h0 hi h
 unfold Tt
 rw [zeO hl 300 299 (cg c i).a a0 (by omega) (by omega) (by omega), zeO hl 300 299 (cg c i).b b0 (by omega) (by omega) (by omega)]
 rw [show (300 : Nat) = 299 + 1 from rfl, txt, h]
def zaV (c : List Cl) : List Tok → Nat
 | [] => 0
 | l => match l.getLast? with
   | some (.cell i) => if (cg c i).l = true then 0 else 1
   | _ => 0
theorem zec (c : List Cl) (l : List Tok) : zaV c l ≤ 1 := by
 unfold zaV
 split
 · omega
 · split
   · split <;> omega
   · omega
theorem zcs (c : List Cl) (l : List Tok) (i : Int) : zaV c (l ++ [.cell i]) = if (cg c i).l = true then 0 else 1 := by
 unfold zaV
 split
 · rename_i h; simp at h
 · simp
theorem zcg (c : List Cl) (l : List Tok) (b : UInt8) : zaV c (l ++ [.lit b]) = 0 := by
 unfold zaV
 split
 · rfl
 · simp
theorem znk {l : List Tok} (h : 0 < l.length) : ∃ l' x, l = l' ++ [x] := ⟨l.dropLast, l.getLast (by intro e; rw [e] at h; simp at h), (List.dropLast_concat_getLast _).symm⟩
theorem zoB {l : List Tok} {x : Tok} (hb : l.length ≤ 1000000) : w64 (((TD (l ++ [x])).length : Int) - 1) = (l.length : Int) ∧ (TD (l ++ [x]))[((l.length : Int)).toNat]? = some (S x.s) ∧ List.take ((l.length : Int)).toNat (TD (l ++ [x])) = TD l := by
 have e : (TD (l ++ [x])).length = l.length + 1 := by simp
 refine ⟨by rw [e, zca (by omega)]; omega, by simp [TD], by simp [TD]⟩
structure SI (c : List Cl) (at_ : Int) (p : List UInt8 × List Tok) : Prop where
 all : p.1 ++ zdc c p.2 = Tt c at_
 ok : ∀ t ∈ p.2, t.ok c
 out : p.1.length ≤ 541
 st : p.2.length + 5 * (2 * (501 - p.1.length) + zaV c p.2) ≤ 5100
def mu (c : List Cl) (p : List UInt8 × List Tok) : Nat := 2 * (501 - p.1.length) + zaV c p.2
end Go.Den
namespace Go.Den
open Go
open Go.Proofs.YtcmcfebihbmmeaaDoor (num numV atoiV)
set_option linter.unusedVariables false
set_option maxRecDepth 100000
def zdW (c : List Cl) (i : Int) : Bool := decide ((Tt c i).length ≤ 500)
def zeu (c : List Cl) (i : Int) : ByteArray := match zdW c i with | true => str (Tt c i) | false => ByteArray.mk #[]
theorem zfe (l : List UInt8) : zde (zav l) = some (.string (str l)) := by
 unfold zde
 rw [zfq]
 rfl
theorem five (c : List Cl) (a b : Int) : zdc c [.lit 41, .cell b, .lit 32, .cell a, .lit 40] = 40 :: (Tt c a ++ 32 :: (Tt c b ++ [41])) := by simp [zdc, flat]
theorem zmG (b : Bool) {c : List Cl} (hl : Low c) (hn : Nums c) (hc : c.length ≤ 200) (at_ : Int) (h0 : 0 ≤ at_) (h1 : at_ < (c.length : Int)) {kk : Nat} (hkk : 2000 ≤ kk) :
 ∃ p : List UInt8 × List Tok, SI c at_ p ∧ (p.2 = [] ∨ 500 < p.1.length) ∧ za7 cfg kk 110 Go.Proofs.Tryd.f110 2 (zf5 b (CD c) [] [S (num at_)]) (.exit 0) (Nm [6] [.own 5 (zav p.1)] [none] [] []) := by
 have hcl : (CD c).length = c.length := by simp
 refine zdx (kk := kk) (f := 110) (fn := Go.Proofs.Tryd.f110) (r := 2) (x := .exit 0) (fun (p : List UInt8 × List Tok) => zf5 b (CD c) (zav p.1) (TD p.2)) (fun p => Nm [6] [.own 5 (zav p.1)] [none] [] [])
  (SI c at_) (fun p => p.2 = [] ∨ 500 < p.1.length) (mu c) ([], [.cell at_]) ?_ ⟨by simp [zdc, flat], fun t ht => ?_, by simp, ?_⟩ (fun p hP => ?_) (fun p hP hf q s K hs hK => ?_) rfl
 · have := zec c [.cell at_]
   unfold mu
   simp only [List.length_nil]
   omega
 · simp only [List.mem_singleton] at ht
   rw [ht]
   exact ⟨h0, h1⟩
 · have := zec c [.cell at_]
   simp only [List.length_nil, List.length_singleton]
   omega
 · obtain ⟨out, op⟩ := p
   obtain ⟨hall, hok, hout, hst⟩ := hP
   have hall : out ++ zdc c op = Tt c at_ := hall
   have hok : ∀ t ∈ op, t.ok c := hok
   have hout : out.length ≤ 541 := hout
   have hst : op.length + 5 * (2 * (501 - out.length) + zaV c op) ≤ 5100 := hst
   by_cases he : op = []
   · exact .inl (.inl he)
   by_cases hlt : 500 < out.length
   · exact .inl (.inr hlt)
   refine .inr ?_
   obtain ⟨l, x, rfl⟩ := znk (l := op) (List.length_pos_iff.2 he)
   have hll : (l ++ [x]).length = l.length + 1 := by simp
   rw [hll] at hst
   obtain ⟨w1, w2, w3⟩ := zoB (l := l) (x := x) (by omega)
   have hlen : (TD (l ++ [x])).length = l.length + 1 := by simp
   have o1 : 0 ≤ w64 (((TD (l ++ [x])).length : Int) - 1) ∧ w64 (((TD (l ++ [x])).length : Int) - 1) < ((TD (l ++ [x])).length : Int) := by rw [w1, hlen]; omega
   have o2 : (TD (l ++ [x]))[(w64 (((TD (l ++ [x])).length : Int) - 1)).toNat]? = some (S x.s) := by rw [w1]; exact w2
   have o3 : 0 ≤ w64 (((TD (l ++ [x])).length : Int) - 1) ∧ w64 (((TD (l ++ [x])).length : Int) - 1) ≤ ((TD (l ++ [x])).length : Int) := by rw [w1, hlen]; omega
   have o4 : List.take (w64 (((TD (l ++ [x])).length : Int) - 1)).toNat (TD (l ++ [x])) = TD l := by rw [w1]; exact w3
   have hbl := zb7 out
   have hokl : ∀ t ∈ l, t.ok c := fun t ht => hok t (List.mem_append_left _ ht)
   have hxo : x.ok c := hok x (List.mem_append_right _ (by simp))
   have htl := zec c l
   rw [zfb] at hall
   cases x with
   | lit v =>
     rw [zcg] at hst
     refine ⟨(out ++ [v], l), ⟨?_, hokl, by simp; omega, ?_⟩, ?_, fun q s K hs hn2 => zlM kk q b _ _ _ 0 (ByteArray.mk #[v]) hs (fun _ _ => ⟨o1, o2, o3, zjp hxo kk (by omega), ⟨zhy _, by rw [hbl]; show out.length + 1 ≤ _; omega⟩, fun s' hs' => hn2 s' ?_⟩) (fun _ d => absurd (of_decide_eq_false d) (by rw [hbl]; omega)) (fun d => absurd (of_decide_eq_false d) (by rw [hlen]; omega))⟩
     · rw [← hall]; simp [zdc, flat]
     · show l.length + 5 * (2 * (501 - (out ++ [v]).length) + zaV c l) ≤ 5100
       rw [List.length_append, List.length_singleton]; omega
     · show 2 * (501 - (out ++ [v]).length) + zaV c l < 2 * (501 - out.length) + zaV c (l ++ [.lit v])
       rw [List.length_append, List.length_singleton, zcg]; omega
     · rw [hs', o4, show zah (ByteArray.mk #[v]) = zav [v] from rfl, zd4]
       rfl
   | cell i =>
     have hxo : 0 ≤ i ∧ i < (c.length : Int) := hxo
     have hcd := zmq hxo.1 hxo.2
     have hat := zoY (i := i) hxo.1 (by omega) kk (by omega)
     rw [zcs] at hst
     cases hle : (cg c i).l with
     | true =>
       rw [if_pos hle] at hst
       have hT := zph hle
       obtain ⟨n1, n2⟩ := zkm (hn i)
       refine ⟨(out ++ Lib.itoa (cg c i).n, l), ⟨?_, hokl, by simp; omega, ?_⟩, ?_, fun q s K hs hn2 => zlh kk q b _ _ _ i (zav (out ++ Lib.itoa (cg c i).n)) (num i) (cg c i) (cg c i) (cg c i) (cg c i) default default hs (fun _ _ _ => ⟨o1, o2, o3, hat, hcd, hcd, ev_ai out _ (hn i) (by omega) kk (by omega), fun s' hs' => hn2 s' ?_⟩) (fun _ _ d => by rw [hle] at d; cases d) (fun _ d => absurd (of_decide_eq_false d) (by rw [hbl]; omega)) (fun d => absurd (of_decide_eq_false d) (by rw [hlen]; omega))⟩
       · rw [← hall]; simp [zdc, flat, hT]
       · show l.length + 5 * (2 * (501 - (out ++ Lib.itoa (cg c i).n).length) + zaV c l) ≤ 5100
         rw [List.length_append]; omega
       · show 2 * (501 - (out ++ Lib.itoa (cg c i).n).length) + zaV c l < 2 * (501 - out.length) + zaV c (l ++ [.cell i])
         rw [List.length_append, zcs, if_pos hle]; omega
       · rw [hs', o4]
         rfl
     | false =>
       rw [if_neg (by rw [hle]; decide)] at hst
       have hT := zo9 hl hc hxo.1 hxo.2 hle
       obtain ⟨⟨a0, a1⟩, b0, b1⟩ := hl i hxo.1 hxo.2 hle
       have hia : In64 (cg c i).a := ⟨by omega, by omega⟩
       have hib : In64 (cg c i).b := ⟨by omega, by omega⟩
       have e5 : l ++ [Tok.lit 41, .cell (cg c i).b, .lit 32, .cell (cg c i).a, .lit 40] = (l ++ [Tok.lit 41, .cell (cg c i).b, .lit 32, .cell (cg c i).a]) ++ [.lit 40] := by simp
       refine ⟨(out, l ++ [.lit 41, .cell (cg c i).b, .lit 32, .cell (cg c i).a, .lit 40]), ⟨?_, fun t ht => ?_, hout, ?_⟩, ?_, fun q s K hs hn2 => zlh kk q b _ _ _ i [] (num i) (cg c i) (cg c i) (cg c i) (cg c i) (num (cg c i).b) (num (cg c i).a) hs (fun _ _ d => by rw [hle] at d; cases d) (fun _ _ _ => ⟨o1, o2, o3, hat, hcd, hcd, hcd, zjx hib kk (by omega), zjx hia kk (by omega), by rw [o4]; simp; omega, fun s' hs' => hn2 s' ?_⟩) (fun _ d => absurd (of_decide_eq_false d) (by rw [hbl]; omega)) (fun d => absurd (of_decide_eq_false d) (by rw [hlen]; omega))⟩
       · show out ++ zdc c (l ++ _) = _
         rw [← hall, zfb, five, ← hT]
         simp [zdc, flat]
       · rcases List.mem_append.1 ht with ht | ht
         · exact hokl t ht
         · simp only [List.mem_cons, List.not_mem_nil, or_false] at ht
           rcases ht with rfl | rfl | rfl | rfl | rfl
           · exact .inr (.inr rfl)
           · exact ⟨b0, by omega⟩
           · exact .inr (.inl rfl)
           · exact ⟨a0, by omega⟩
           · exact .inl rfl
       · show (l ++ _).length + 5 * (2 * (501 - out.length) + zaV c (l ++ _)) ≤ 5100
         rw [e5, zcg]
         simp only [List.length_append, List.length_cons, List.length_nil]
         omega
       · show 2 * (501 - out.length) + zaV c (l ++ _) < 2 * (501 - out.length) + zaV c (l ++ [.cell i])
         rw [e5, zcg, zcs, if_neg (by rw [hle]; decide)]
         omega
       · rw [hs', o4, show TD l ++ [S (ByteArray.mk #[41]), S (num (cg c i).b), S (ByteArray.mk #[32]), S (num (cg c i).a), S (ByteArray.mk #[40])] = TD (l ++ [.lit 41, .cell (cg c i).b, .lit 32, .cell (cg c i).a, .lit 40]) by simp [TD, Tok.s]]
         rfl
 · have hbl := zb7 p.1
   refine zlM kk q b _ _ _ 0 default hs (fun d1 d2 => ?_) (fun _ _ => hK) (fun _ => hK)
   have d1 := of_decide_eq_true d1
   have d2 := of_decide_eq_true d2
   rcases hf with hf | hf
   · have hf : p.2 = [] := hf
     rw [hf] at d1
     simp [TD] at d1
   · rw [hbl] at d2
     have hf : 500 < p.1.length := hf
     omega
theorem zm0 (b : Bool) {c : List Cl} (hl : Low c) (hn : Nums c) (hc : c.length ≤ 200) (at_ : Int) (h0 : 0 ≤ at_) (h1 : at_ < (c.length : Int)) : EvN 2001 110 [.dat (.lst b (CD c)), .dat (I at_)] [] [] ([.dat (S (zeu c at_)), .dat (B (zdW c at_))], [], []) := by
 refine zaY Go.Proofs.Tryd.f110 2000 (by kernel_rfl) (by kernel_rfl) fun kk hkk => ?_
 obtain ⟨p, hP, hf, la⟩ := zmG b hl hn hc at_ h0 h1 (kk := kk) (by omega)
 have hbl := zb7 p.1
 have hit := zjx (n := at_) ⟨by omega, by omega⟩ kk (by omega)
 have hall := hP.all
 refine showI kk b _ (zav p.1) at_ (num at_) (fun d => ⟨hit, la, ?_⟩) (fun d => ⟨hit, la, ?_, ?_⟩)
 · have d := of_decide_eq_true d
   rw [hbl] at d
   have : ¬ (Tt c at_).length ≤ 500 := by rw [← hall, List.length_append]; omega
   have hs : zdW c at_ = false := decide_eq_false this
   unfold zeu
   rw [hs]
 · show zde (zav p.1) ≠ none
   rw [zfe]
   exact fun e => by cases e
 · have d := of_decide_eq_false d
   rw [hbl] at d
   have he : p.2 = [] := hf.elim id fun h => by omega
   rw [he] at hall
   have hT : p.1 = Tt c at_ := by simpa [zdc] using hall
   have hs : zdW c at_ = true := decide_eq_true (by rw [← hT]; omega)
   show _ = ([Dat.val ((zde (zav p.1)).getD (Value.string ByteArray.empty)) |> D.dat, _], _, _)
   unfold zeu
   rw [zfe, hs, hT]
   rfl
end Go.Den
namespace Go.Den
open Go
set_option linter.unusedVariables false
set_option maxRecDepth 100000
abbrev longB : ByteArray := ByteArray.mk #[108, 111, 110, 103]
noncomputable def zaA (fr : Bool) (room nur : Int) (h : Hp) : Hp :=
 match fr with
 | true => h
 | false => match decide (nur ≤ (h.cs.length : Int) - h.o) with
   | true => (match decide (room ≤ ((minH h).cs.length : Int)) with | true => zbw (minH h) | false => minH h)
   | false => (match decide (room ≤ (h.cs.length : Int)) with | true => zbw h | false => h)
noncomputable def putQ (fr : Bool) (room nur : Int) (pair : Bool) (a b : Int) (w : Ws) : Ws :=
 match zdm fr room (zaA fr room nur w.h) with
 | true => ⟨zaA fr room nur w.h, true, w.out⟩
 | false => ⟨addH (zaA fr room nur w.h) (zea pair a b (zaA fr room nur w.h)), false, w.out⟩
def zed (c : List Cl) (i : Int) : ByteArray := match zdW c i with | true => str (Tt c i) | false => longB
noncomputable def opQ (fr : Bool) (room nur : Int) (k a b : Int) (w : Ws) : Ws :=
 if k = 1 then (match decide ((w.h.rs.length : Int) < 60) with | true => putQ fr room nur false a b w | false => w)
 else if k = 2 then (match zac a w.h.rs.length && zac b w.h.rs.length && decide ((w.h.rs.length : Int) < 60) with | true => putQ fr room nur true a b w | false => w)
 else if k = 3 then (match zac a w.h.rs.length && decide ((w.h.rs.length : Int) < 60) && !(cg w.h.cs (rg w.h a)).l with | true => zmo w false (rg w.h a) | false => w)
 else if k = 4 then (match zac a w.h.rs.length && decide ((w.h.rs.length : Int) < 60) && !(cg w.h.cs (rg w.h a)).l with | true => zmo w true (rg w.h a) | false => w)
 else if k = 5 then (match zac a w.h.rs.length with | true => ⟨zlP w.h a, w.full, w.out⟩ | false => w)
 else if k = 6 then (match zac a w.h.rs.length with | true => ⟨w.h, w.full, w.out ++ (zed w.h.cs (rg w.h a) ++ nlB)⟩ | false => w)
 else if k = 7 then (match zac a w.h.rs.length && zac b w.h.rs.length with | true => ⟨w.h, w.full, w.out ++ (if rg w.h a = rg w.h b then zpJ else znS)⟩ | false => w)
 else if k = 8 then (match fr with | true => w | false => ⟨zbw w.h, w.full, w.out⟩)
 else if k = 9 then (match fr with | true => w | false => ⟨minH w.h, w.full, w.out⟩)
 else w
theorem zgY {fr : Bool} {room nur : Int} {h : Hp} (g : Og h) : Og (zaA fr room nur h) := by
 unfold zaA
 split
 · exact g
 · split
   · split
     · exact ziW (zio g)
     · exact zio g
   · split
     · exact ziW g
     · exact g
theorem zdl {fr : Bool} {room nur : Int} {h : Hp} : (zaA fr room nur h).rs.length = h.rs.length := by
 unfold zaA zbw minH mvH
 split
 · rfl
 · split <;> split <;> simp
theorem zhJ {room nur : Int} {h : Hp} : (decide (nur ≤ (h.cs.length : Int) - h.o) = true → decide (room ≤ ((minH h).cs.length : Int)) = true → zaA false room nur h = zbw (minH h)) ∧ (decide (nur ≤ (h.cs.length : Int) - h.o) = true → decide (room ≤ ((minH h).cs.length : Int)) = false → zaA false room nur h = minH h) ∧
 (decide (nur ≤ (h.cs.length : Int) - h.o) = false → decide (room ≤ (h.cs.length : Int)) = true → zaA false room nur h = zbw h) ∧ (decide (nur ≤ (h.cs.length : Int) - h.o) = false → decide (room ≤ (h.cs.length : Int)) = false → zaA false room nur h = h) := by
 refine ⟨fun d1 d2 => ?_, fun d1 d2 => ?_, fun d1 d2 => ?_, fun d1 d2 => ?_⟩ <;> (unfold zaA; simp only [d1, d2])
abbrev P7D (w : Ws) (room nur : Int) : List D := P7 w.h.o (CD w.h.cs) (ID w.h.rs) (zah w.out) room nur w.full
abbrev L7D (w : Ws) (room nur : Int) (fr : Bool) : List D := L7 w.h.o (CD w.h.cs) (ID w.h.rs) room nur fr w.full w.out
theorem zkg (fr : Bool) (room nur : Int) (hfr : fr = decide (room < 0)) (h : Hp) (g : Og h) (bs : List Dat) : EvN 3200 105 [.ptr (.up 0) 0] [P7 h.o (CD h.cs) (ID h.rs) bs room nur false] []
 ([.dat (B (!zdm fr room (zaA fr room nur h)))], [P7 (zaA fr room nur h).o (CD (zaA fr room nur h).cs) (ID (zaA fr room nur h).rs) bs room nur (zdm fr room (zaA fr room nur h))], []) := by
 refine zaY Go.Proofs.Tryd.f105 3199 (by kernel_rfl) (by kernel_rfl) fun kk hkk => ?_
 have hcl := g.g.clen
 have ho0 := g.g.o0
 have ho1 := g.g.o1
 cases fr with
 | true => exact zo5 kk h.o _ _ bs room nur false 0 [] [] 0 [] [] (fun _ => rfl) (fun d => by rw [← hfr] at d; cases d) (fun d => by rw [← hfr] at d; cases d) (fun d => by rw [← hfr] at d; cases d) (fun d => by rw [← hfr] at d; cases d)
 | false =>
   have hlc : ((CD h.cs).length : Int) = (h.cs.length : Int) := by simp
   have hw : w64 (((CD h.cs).length : Int) - h.o) = (h.cs.length : Int) - h.o := by rw [hlc, zca (by omega)]
   have hly : ((CD (minH h).cs).length : Int) = ((minH h).cs.length : Int) := by simp
   obtain ⟨t1, t2, t3, t4⟩ := zhJ (room := room) (nur := nur) (h := h)
   have h59 := zgh true h g kk (by omega)
   have hfw : ∀ x : Hp, zdm false room x = decide (room ≤ ((CD x.cs).length : Int)) := fun x => by simp [zdm]
   by_cases hy : decide (nur ≤ (h.cs.length : Int) - h.o) = true
   · have h60 := zfJ true (minH h) (zio g) kk (by omega)
     exact zo5 kk h.o _ _ bs room nur false (minH h).o _ _ (zbw (minH h)).o _ _ (fun d => by rw [← hfr] at d; cases d) (fun _ _ d => ⟨zax _, h59, zax _, h60, by rw [t1 hy (by rw [← hly]; exact d), hfw]⟩) (fun _ _ d => ⟨zax _, h59, by rw [t2 hy (by rw [← hly]; exact d), hfw]⟩) (fun _ d => by rw [hw, hy] at d; cases d) (fun _ d => by rw [hw, hy] at d; cases d)
   · have hy : decide (nur ≤ (h.cs.length : Int) - h.o) = false := by simpa using hy
     have h60 := zfJ true h g kk (by omega)
     exact zo5 kk h.o _ _ bs room nur false 0 [] [] (zbw h).o _ _ (fun d => by rw [← hfr] at d; cases d) (fun _ d => by rw [hw, hy] at d; cases d) (fun _ d => by rw [hw, hy] at d; cases d) (fun _ _ d => ⟨zax _, h60, by rw [t3 hy (by rw [← hlc]; exact d), hfw]⟩) (fun _ _ d => by rw [t4 hy (by rw [← hlc]; exact d), hfw])
theorem zje (w : Ws) (room nur : Int) : EvN 1 104 [.ptr (.up 0) 0] [P7D w room nur] [] ([.dat (B (decide ((w.h.rs.length : Int) < 60)))], [P7D w room nur], []) :=
 zaY Go.Proofs.Tryd.f104 0 (by kernel_rfl) (by kernel_rfl) fun kk _ => may7 kk _ _ _ _ room nur w.full (by rw [List.length_map])
theorem zdQ (w : Ws) (room nur : Int) (g : Hg w.h) (a : Int) : EvN 3 103 [.ptr (.up 0) 0, .dat (I a)] [P7D w room nur] [] ([.dat (I (match zac a w.h.rs.length with | true => rg w.h a | false => 0)), .dat (B (zac a w.h.rs.length))], [P7D w room nur], []) := by
 refine zaY Go.Proofs.Tryd.f103 2 (by kernel_rfl) (by kernel_rfl) fun kk hkk => ?_
 have hlr : ((ID w.h.rs).length : Int) = (w.h.rs.length : Int) := by simp
 have h43 := zky a ((ID w.h.rs).length : Int) kk (by omega)
 rw [hlr] at h43
 rw [← hlr] at h43
 have hA := fun h => zes g (a := a) h
 refine root7 kk w.h.o _ _ _ room nur w.full a (zac a w.h.rs.length) (rg w.h a) (fun d => ⟨by rw [hlr] at h43 ⊢; exact h43, ?_⟩) (fun d => ?_)
 · simp only [Bool.not_eq_true'] at d
   rw [d]
 · simp only [Bool.not_eq_false'] at d
   exact ⟨by rw [hlr] at h43 ⊢; exact h43, (hA d).1, (hA d).2.1, by rw [d]⟩
theorem zov (t : Hp) (pair : Bool) (z b : Int) (room nur : Int) (fr : Bool) (out : ByteArray) (hc : t.cs.length ≤ 1000) : (([], [L7 (addH t (zea pair z b t)).o (CD (addH t (zea pair z b t)).cs) (ID (addH t (zea pair z b t)).rs) room nur fr false out], []) : Res) =
 ([], [L7 t.o (CD t.cs ++ [(zea pair z b t).d]) (ID t.rs ++ [I (w64 (((CD t.cs ++ [(zea pair z b t).d]).length : Int) - 1))]) room nur fr false out], []) := by
 rw [zoG hc, zn8, zgg]
 rfl
theorem znD (fr : Bool) (room nur : Int) (pair : Bool) (n a b z : Int) (hz : z = match pair with | true => a | false => n) (w : Ws) (g : Og w.h) (hf : w.full = false) (hlt : w.h.rs.length < 60) (hp : pair = true → zac a w.h.rs.length = true ∧ zac b w.h.rs.length = true) :
 EvN 420 99 [.ptr (.up 0) 0, .dat (B pair), .dat (I n), .dat (I a), .dat (I b)] [L7D w room nur fr] [] ([], [L7D (putQ fr room nur pair z b w) room nur fr], []) := by
 refine zaY Go.Proofs.Tryd.f99 419 (by kernel_rfl) (by kernel_rfl) fun kk hkk => ?_
 have gt := zgY (fr := fr) (room := room) (nur := nur) g
 have hrs := zdl (fr := fr) (room := room) (nur := nur) (h := w.h)
 have hcl := gt.g.clen
 have hrl := gt.g.rlen
 have hcl0 := g.g.clen
 have ho0 := g.g.o0
 have ho1 := g.g.o1
 have hlr : ((ID w.h.rs).length : Int) = (w.h.rs.length : Int) := by simp
 have n60 : ∀ {p : Prop}, decide (((ID w.h.rs).length : Int) = 60) = true → p := fun d => by
  have := of_decide_eq_true d
  rw [hlr] at this
  omega
 have pf : zdm fr room (zaA fr room nur w.h) = true → (([], [L7D (putQ fr room nur pair z b w) room nur fr], []) : Res) = ([], [L7 (zaA fr room nur w.h).o (CD (zaA fr room nur w.h).cs) (ID (zaA fr room nur w.h).rs) room nur fr true w.out], []) := fun e => by
  unfold putQ
  rw [e]
 have pn : zdm fr room (zaA fr room nur w.h) = false → (([], [L7D (putQ fr room nur pair z b w) room nur fr], []) : Res) = ([], [L7 (zaA fr room nur w.h).o (CD (zaA fr room nur w.h).cs ++ [(zea pair z b (zaA fr room nur w.h)).d]) (ID (zaA fr room nur w.h).rs ++ [I (w64 (((CD (zaA fr room nur w.h).cs ++ [(zea pair z b (zaA fr room nur w.h)).d]).length : Int) - 1))]) room nur fr w.full w.out], []) := fun e => by
  unfold putQ
  rw [e, hf, ← zov _ _ _ _ _ _ _ _ (by omega)]
 have pr : pair = true → ((0 ≤ a ∧ a < ((ID (zaA fr room nur w.h).rs).length : Int)) ∧ (ID (zaA fr room nur w.h).rs)[a.toNat]? = some (I (rg (zaA fr room nur w.h) a))) ∧ ((0 ≤ b ∧ b < ((ID (zaA fr room nur w.h).rs).length : Int)) ∧ (ID (zaA fr room nur w.h).rs)[b.toNat]? = some (I (rg (zaA fr room nur w.h) b))) := fun e => by
  obtain ⟨ha, hb⟩ := hp e
  obtain ⟨a1, a2, _⟩ := zes gt.g (a := a) (by rw [hrs]; exact ha)
  obtain ⟨b1, b2, _⟩ := zes gt.g (a := b) (by rw [hrs]; exact hb)
  exact ⟨⟨a1, a2⟩, b1, b2⟩
 have lc : (CD (zaA fr room nur w.h).cs).length + 1 ≤ 2147483648 := by simp; omega
 have lr : (ID (zaA fr room nur w.h).rs).length + 1 ≤ 2147483648 := by simp; omega
 have cp : pair = true → (zea pair z b (zaA fr room nur w.h)).d = Dat.agg [B false, I 0, I (rg (zaA fr room nur w.h) a), I (rg (zaA fr room nur w.h) b)] := fun e => by subst e; rw [hz]; rfl
 have cl : pair = false → (zea pair z b (zaA fr room nur w.h)).d = Dat.agg [B true, I n, I 0, I 0] := fun e => by subst e; rw [hz]; rfl
 cases fr with
 | true =>
   have hfw : zdm true room (zaA true room nur w.h) = false := rfl
   have pn := pn hfw
   exact zkA kk w.h.o _ _ room nur true w.full w.out pair n a b 0 [] [] 0 [] [] (rg (zaA true room nur w.h) a) (rg (zaA true room nur w.h) b) n60 (fun _ d => by cases d) (fun _ d => by cases d) (fun _ d => by cases d) (fun _ d => by cases d) (fun _ d => by cases d) (fun _ d => by cases d) (fun _ d => by cases d) (fun _ d => by cases d) (fun _ d => by cases d) (fun _ d => by cases d)
    (fun _ _ d => ⟨(pr d).1.1, (pr d).1.2, (pr d).2.1, (pr d).2.2, lc, lr, by rw [pn, cp d]; try rfl⟩) (fun _ _ d => ⟨lc, lr, by rw [pn, cl d]; try rfl⟩)
 | false =>
   have hlc : ((CD w.h.cs).length : Int) = (w.h.cs.length : Int) := by simp
   have hw : w64 (((CD w.h.cs).length : Int) - w.h.o) = (w.h.cs.length : Int) - w.h.o := by rw [hlc, zca (by omega)]
   have hly : ((CD (minH w.h).cs).length : Int) = ((minH w.h).cs.length : Int) := by simp
   obtain ⟨t1, t2, t3, t4⟩ := zhJ (room := room) (nur := nur) (h := w.h)
   have h102 := zhK true w.h g kk (by omega)
   have hfw : ∀ x : Hp, zdm false room x = decide (room ≤ ((CD x.cs).length : Int)) := fun x => by simp [zdm]
   by_cases hy : decide (nur ≤ (w.h.cs.length : Int) - w.h.o) = true
   · have h101 := zgX true (minH w.h) (zio g) kk (by omega)
     have ny : ∀ {p : Prop}, decide (nur ≤ w64 (((CD w.h.cs).length : Int) - w.h.o)) = false → p := fun d => by rw [hw, hy] at d; cases d
     by_cases hr : decide (room ≤ ((CD (minH w.h).cs).length : Int)) = true
     · have nr : ∀ {p : Prop}, decide (room ≤ ((CD (minH w.h).cs).length : Int)) = false → p := fun d => by rw [hr] at d; cases d
       have e := t1 hy (by rw [← hly]; exact hr)
       rw [e, hfw] at pf pn
       rw [e] at pr lc lr cp cl
       exact zkA kk w.h.o _ _ room nur false w.full w.out pair n a b (minH w.h).o _ _ (zbw (minH w.h)).o _ _ (rg (zbw (minH w.h)) a) (rg (zbw (minH w.h)) b) n60
        (fun _ _ _ _ d => ⟨zax _, h102, zax _, h101, pf d⟩) (fun _ _ _ _ d d2 => ⟨zax _, h102, zax _, h101, (pr d2).1.1, (pr d2).1.2, (pr d2).2.1, (pr d2).2.2, lc, lr, by rw [pn d, cp d2]; try rfl⟩) (fun _ _ _ _ d d2 => ⟨zax _, h102, zax _, h101, lc, lr, by rw [pn d, cl d2]; try rfl⟩)
        (fun _ _ _ d => nr d) (fun _ _ _ d => nr d) (fun _ _ d => ny d) (fun _ _ d => ny d) (fun _ _ d => ny d) (fun _ _ d => ny d) (fun _ _ d => ny d) (fun _ d => by cases d) (fun _ d => by cases d)
     · have hr : decide (room ≤ ((CD (minH w.h).cs).length : Int)) = false := by simpa using hr
       have nr : ∀ {p : Prop}, decide (room ≤ ((CD (minH w.h).cs).length : Int)) = true → p := fun d => by rw [hr] at d; cases d
       have e := t2 hy (by rw [← hly]; exact hr)
       rw [e, hfw] at pf pn
       rw [e] at pr lc lr cp cl
       exact zkA kk w.h.o _ _ room nur false w.full w.out pair n a b (minH w.h).o (CD (minH w.h).cs) (ID (minH w.h).rs) 0 [] [] (rg (minH w.h) a) (rg (minH w.h) b) n60
        (fun _ _ _ d => nr d) (fun _ _ _ d => nr d) (fun _ _ _ d => nr d) (fun _ _ _ d d2 => ⟨zax _, h102, (pr d2).1.1, (pr d2).1.2, (pr d2).2.1, (pr d2).2.2, lc, lr, by rw [pn d, cp d2]; try rfl⟩) (fun _ _ _ d d2 => ⟨zax _, h102, lc, lr, by rw [pn d, cl d2]; try rfl⟩)
        (fun _ _ d => ny d) (fun _ _ d => ny d) (fun _ _ d => ny d) (fun _ _ d => ny d) (fun _ _ d => ny d) (fun _ d => by cases d) (fun _ d => by cases d)
   · have hy : decide (nur ≤ (w.h.cs.length : Int) - w.h.o) = false := by simpa using hy
     have h101 := zgX true w.h g kk (by omega)
     have ny : ∀ {p : Prop}, decide (nur ≤ w64 (((CD w.h.cs).length : Int) - w.h.o)) = true → p := fun d => by rw [hw, hy] at d; cases d
     by_cases hr : decide (room ≤ ((CD w.h.cs).length : Int)) = true
     · have nr : ∀ {p : Prop}, decide (room ≤ ((CD w.h.cs).length : Int)) = false → p := fun d => by rw [hr] at d; cases d
       have e := t3 hy (by rw [← hlc]; exact hr)
       rw [e, hfw] at pf pn
       rw [e] at pr lc lr cp cl
       exact zkA kk w.h.o _ _ room nur false w.full w.out pair n a b 0 [] [] (zbw w.h).o _ _ (rg (zbw w.h) a) (rg (zbw w.h) b) n60 (fun _ _ d => ny d) (fun _ _ d => ny d) (fun _ _ d => ny d) (fun _ _ d => ny d) (fun _ _ d => ny d)
        (fun _ _ _ _ d => ⟨zax _, h101, pf d⟩) (fun _ _ _ _ d d2 => ⟨zax _, h101, (pr d2).1.1, (pr d2).1.2, (pr d2).2.1, (pr d2).2.2, lc, lr, by rw [pn d, cp d2]; try rfl⟩) (fun _ _ _ _ d d2 => ⟨zax _, h101, lc, lr, by rw [pn d, cl d2]; try rfl⟩)
        (fun _ _ _ d => nr d) (fun _ _ _ d => nr d) (fun _ d => by cases d) (fun _ d => by cases d)
     · have hr : decide (room ≤ ((CD w.h.cs).length : Int)) = false := by simpa using hr
       have nr : ∀ {p : Prop}, decide (room ≤ ((CD w.h.cs).length : Int)) = true → p := fun d => by rw [hr] at d; cases d
       have e := t4 hy (by rw [← hlc]; exact hr)
       rw [e, hfw] at pf pn
       rw [e] at pr lc lr cp cl
       exact zkA kk w.h.o _ _ room nur false w.full w.out pair n a b 0 [] [] 0 [] [] (rg w.h a) (rg w.h b) n60 (fun _ _ d => ny d) (fun _ _ d => ny d) (fun _ _ d => ny d) (fun _ _ d => ny d) (fun _ _ d => ny d)
        (fun _ _ _ d => nr d) (fun _ _ _ d => nr d) (fun _ _ _ d => nr d) (fun _ _ _ d d2 => ⟨(pr d2).1.1, (pr d2).1.2, (pr d2).2.1, (pr d2).2.2, lc, lr, by rw [pn d, cp d2]; try rfl⟩) (fun _ _ _ d d2 => ⟨lc, lr, by rw [pn d, cl d2]; try rfl⟩) (fun _ d => by cases d) (fun _ d => by cases d)
theorem ziP (fr : Bool) (room nur : Int) (pair : Bool) (n a b : Int) (w : Ws) (h : w.h.rs.length = 60) : EvN 1 99 [.ptr (.up 0) 0, .dat (B pair), .dat (I n), .dat (I a), .dat (I b)] [L7D w room nur fr] [] ([], [L7D w room nur fr], []) := by
 refine zaY Go.Proofs.Tryd.f99 0 (by kernel_rfl) (by kernel_rfl) fun kk hkk => ?_
 have n60 : ∀ {p : Prop}, decide (((ID w.h.rs).length : Int) = 60) = false → p := fun d => by
  have := of_decide_eq_false d
  rw [List.length_map, h] at this
  exact absurd rfl this
 exact zkA kk w.h.o _ _ room nur fr w.full w.out pair n a b 0 [] [] 0 [] [] 0 0 (fun _ => rfl) (fun d => n60 d) (fun d => n60 d) (fun d => n60 d) (fun d => n60 d) (fun d => n60 d) (fun d => n60 d) (fun d => n60 d) (fun d => n60 d) (fun d => n60 d) (fun d => n60 d) (fun d => n60 d) (fun d => n60 d)
end Go.Den
namespace Go.Den
open Go
set_option linter.unusedVariables false
set_option maxRecDepth 100000
theorem zn4 {h : Hp} (o : Og h) : Low h.cs := fun i h0 hi hl => by
 obtain ⟨⟨a0, _⟩, b0, _⟩ := o.g.wf i h0 hi hl
 obtain ⟨a1, b1⟩ := o.low i h0 hi hl
 exact ⟨⟨a0, a1⟩, b0, b1⟩
theorem ziY {h : Hp} (o : Og h) : Nums h.cs := fun i => by
 unfold cg
 rw [List.getD_eq_getElem?_getD]
 cases hc : h.cs[i.toNat]? with
 | none => exact ⟨by decide, by decide⟩
 | some c => exact (o.g.cells _ c hc).1.1
section
variable {fr : Bool} {room nur : Int} {a b : Int} {w : Ws}
theorem zot : opQ fr room nur 1 a b w = (match decide ((w.h.rs.length : Int) < 60) with | true => putQ fr room nur false a b w | false => w) := by
 unfold opQ; rw [if_pos rfl]; try rfl
theorem zom : opQ fr room nur 2 a b w = (match zac a w.h.rs.length && zac b w.h.rs.length && decide ((w.h.rs.length : Int) < 60) with | true => putQ fr room nur true a b w | false => w) := by
 unfold opQ; rw [if_neg (by decide), if_pos rfl]; try rfl
theorem zpn : opQ fr room nur 3 a b w = (match zac a w.h.rs.length && decide ((w.h.rs.length : Int) < 60) && !(cg w.h.cs (rg w.h a)).l with | true => zmo w false (rg w.h a) | false => w) := by
 unfold opQ; rw [if_neg (by decide), if_neg (by decide), if_pos rfl]; try rfl
theorem zoU : opQ fr room nur 4 a b w = (match zac a w.h.rs.length && decide ((w.h.rs.length : Int) < 60) && !(cg w.h.cs (rg w.h a)).l with | true => zmo w true (rg w.h a) | false => w) := by
 unfold opQ; rw [if_neg (by decide), if_neg (by decide), if_neg (by decide), if_pos rfl]; try rfl
theorem zou : opQ fr room nur 5 a b w = (match zac a w.h.rs.length with | true => ⟨zlP w.h a, w.full, w.out⟩ | false => w) := by
 unfold opQ; rw [if_neg (by decide), if_neg (by decide), if_neg (by decide), if_neg (by decide), if_pos rfl]; try rfl
theorem zoz : opQ fr room nur 6 a b w = (match zac a w.h.rs.length with | true => ⟨w.h, w.full, w.out ++ (zed w.h.cs (rg w.h a) ++ nlB)⟩ | false => w) := by
 unfold opQ; rw [if_neg (by decide), if_neg (by decide), if_neg (by decide), if_neg (by decide), if_neg (by decide), if_pos rfl]; try rfl
theorem zoe : opQ fr room nur 7 a b w = (match zac a w.h.rs.length && zac b w.h.rs.length with | true => ⟨w.h, w.full, w.out ++ (if rg w.h a = rg w.h b then zpJ else znS)⟩ | false => w) := by
 unfold opQ; rw [if_neg (by decide), if_neg (by decide), if_neg (by decide), if_neg (by decide), if_neg (by decide), if_neg (by decide), if_pos rfl]; try rfl
theorem zoI : opQ fr room nur 8 a b w = (match fr with | true => w | false => ⟨zbw w.h, w.full, w.out⟩) := by
 unfold opQ; rw [if_neg (by decide), if_neg (by decide), if_neg (by decide), if_neg (by decide), if_neg (by decide), if_neg (by decide), if_neg (by decide), if_pos rfl]; try rfl
theorem zoM : opQ fr room nur 9 a b w = (match fr with | true => w | false => ⟨minH w.h, w.full, w.out⟩) := by
 unfold opQ; rw [if_neg (by decide), if_neg (by decide), if_neg (by decide), if_neg (by decide), if_neg (by decide), if_neg (by decide), if_neg (by decide), if_neg (by decide), if_pos rfl]; try rfl
def Oth (k : Int) : Prop := k ≠ 1 ∧ k ≠ 2 ∧ k ≠ 3 ∧ k ≠ 4 ∧ k ≠ 5 ∧ k ≠ 6 ∧ k ≠ 7 ∧ k ≠ 8 ∧ k ≠ 9
theorem zoS {k : Int} (h : Oth k) : opQ fr room nur k a b w = w := by
 obtain ⟨h1, h2, h3, h4, h5, h6, h7, h8, h9⟩ := h
 unfold opQ
 rw [if_neg h1, if_neg h2, if_neg h3, if_neg h4, if_neg h5, if_neg h6, if_neg h7, if_neg h8, if_neg h9]
end
theorem znv {c : List Cl} (i : Int) : (500 < (cut c 300 i).length → zed c i = longB) ∧ (¬ 500 < (cut c 300 i).length → zed c i = str (cut c 300 i)) := by
 obtain ⟨h1, h2⟩ := zja c 300 i
 refine ⟨fun h => ?_, fun h => ?_⟩
 · have : zdW c i = false := decide_eq_false (by have := h1.1 h; unfold Tt; omega)
   unfold zed
   rw [this]
 · have h3 : ¬ 500 < (txt c 300 i).length := fun h4 => h (h1.2 h4)
   have : zdW c i = true := decide_eq_true (by unfold Tt; omega)
   unfold zed
   rw [this, h2 (by omega)]
   rfl
theorem zpx (fr : Bool) (room nur : Int) (k a b : Int) (w : Ws) (g : Og w.h) (hf : w.full = false) (ho : w.out.size ≤ 1000000) : EvN 500 78 [.ptr (.up 0) 0, .dat (N3 k a b)] [L7D w room nur fr] [] ([], [L7D (opQ fr room nur k a b w) room nur fr], []) := by
 refine zaY Go.Proofs.Tryd.f78 499 (by kernel_rfl) (by kernel_rfl) fun kk hkk => ?_
 have hcl := g.g.clen
 have hrl := g.g.rlen
 have hlr : ((ID w.h.rs).length : Int) = (w.h.rs.length : Int) := by simp
 have ha := in39 g.g a kk (by omega)
 have hb := in39 g.g b kk (by omega)
 have lr : (ID w.h.rs).length + 1 ≤ 2147483648 := by simp; omega
 have A1 := ha
 have B1 := hb
 have hA := fun h => zes g.g (a := a) h
 have hB := fun h => zes g.g (a := b) h
 have hn1 : (ByteArray.mk #[10]).size = 1 := rfl
 have h60 : decide (((ID w.h.rs).length : Int) = 60) = true → decide ((w.h.rs.length : Int) < 60) = false := fun d => by
  have := of_decide_eq_true d
  rw [hlr] at this
  exact decide_eq_false (by omega)
 have h59 : decide (((ID w.h.rs).length : Int) = 60) = false → decide ((w.h.rs.length : Int) < 60) = true := fun d => by
  have := of_decide_eq_false d
  rw [hlr] at this
  exact decide_eq_true (by omega)
 have cellR : ∀ (pair : Bool) (n x y z : Int), (z = match pair with | true => x | false => n) → (pair = true → zac x w.h.rs.length = true ∧ zac y w.h.rs.length = true) → ∃ p : Ws, p = (match decide ((w.h.rs.length : Int) < 60) with | true => putQ fr room nur pair z y w | false => w) ∧ p.out = w.out ∧
  den cfg kk 99 [.ptr (.up 0) 0, .dat (B pair), .dat (I n), .dat (I x), .dat (I y)] [L7D w room nur fr] [] = some ([], [L7 p.h.o (CD p.h.cs) (ID p.h.rs) room nur fr p.full w.out], []) := by
  intro pair n x y z hz hp
  refine ⟨_, rfl, ?_⟩
  by_cases hlt : w.h.rs.length < 60
  · rw [decide_eq_true (show (w.h.rs.length : Int) < 60 by omega)]
    have hput := znD fr room nur pair n x y z hz w g hf hlt hp kk (by omega)
    have ho : (putQ fr room nur pair z y w).out = w.out := by unfold putQ; cases zdm fr room (zaA fr room nur w.h) <;> rfl
    exact ⟨ho, by have h2 := hput; unfold L7D at h2; rw [ho] at h2; exact h2⟩
  · rw [decide_eq_false (show ¬ (w.h.rs.length : Int) < 60 by omega)]
    exact ⟨rfl, ziP fr room nur pair n x y w (by omega) kk (by omega)⟩
 by_cases k1 : k = 1
 · subst k1
   obtain ⟨p, hp, hpo, hden⟩ := cellR false a 0 0 a rfl (fun e => by cases e)
   have e : opQ fr room nur 1 a b w = p := by rw [zot, hp]; rfl
   rw [e]
   exact op7_1 kk w.h.o _ _ room nur fr w.full w.out a b _ _ _ p.full _ _ ⟨A1, B1, hden, by rw [← hpo]⟩
 by_cases k2 : k = 2
 · subst k2
   rw [zom]
   cases hab : zac a w.h.rs.length && zac b w.h.rs.length with
   | true =>
     simp only [Bool.and_eq_true] at hab
     obtain ⟨p, hp, hpo, hden⟩ := cellR true 0 a b a rfl (fun _ => hab)
     rw [Bool.true_and, ← hp]
     exact zpM kk w.h.o _ _ room nur fr w.full w.out a b _ _ _ p.full _ _ (fun _ _ => ⟨A1, B1, hden, by rw [← hpo]⟩) (fun _ d => by rw [hab.2] at d; cases d) (fun d => by rw [hab.1] at d; cases d)
   | false =>
     rw [Bool.false_and]
     exact zpM kk w.h.o _ _ room nur fr w.full w.out a b 0 [] [] false _ _ (fun d d2 => by rw [d, d2] at hab; cases hab) (fun _ _ => ⟨A1, B1, rfl⟩) (fun _ => ⟨A1, B1, rfl⟩)
 by_cases k3 : k = 3
 · subst k3
   rw [zpn]
   refine op7_3 kk w.h.o _ _ room nur fr w.full w.out a b (zac a w.h.rs.length) (zac b w.h.rs.length) (rg w.h a) (cg w.h.cs (rg w.h a)) (fun d => ⟨A1, B1, ?_⟩) (fun d d2 => ⟨A1, B1, ?_⟩) (fun d d2 d3 => ?_) (fun d d2 d3 => ?_)
   · simp only [Bool.not_eq_true'] at d; rw [d]; rfl
   · rw [h60 d2, Bool.and_false]; rfl
   · simp only [Bool.not_eq_false'] at d
     exact ⟨A1, B1, (hA d).1, (hA d).2.1, (hA d).2.2.1, (hA d).2.2.2, lr, by rw [d, h59 d2, d3, zgg]; rfl⟩
   · simp only [Bool.not_eq_false'] at d
     exact ⟨A1, B1, (hA d).1, (hA d).2.1, (hA d).2.2.1, (hA d).2.2.2, by rw [d, h59 d2, d3]; rfl⟩
 by_cases k4 : k = 4
 · subst k4
   rw [zoU]
   refine op7_4 kk w.h.o _ _ room nur fr w.full w.out a b (zac a w.h.rs.length) (zac b w.h.rs.length) (rg w.h a) (cg w.h.cs (rg w.h a)) (fun d => ⟨A1, B1, ?_⟩) (fun d d2 => ⟨A1, B1, ?_⟩) (fun d d2 d3 => ?_) (fun d d2 d3 => ?_)
   · simp only [Bool.not_eq_true'] at d; rw [d]; rfl
   · rw [h60 d2, Bool.and_false]; rfl
   · simp only [Bool.not_eq_false'] at d
     exact ⟨A1, B1, (hA d).1, (hA d).2.1, (hA d).2.2.1, (hA d).2.2.2, lr, by rw [d, h59 d2, d3, zgg]; rfl⟩
   · simp only [Bool.not_eq_false'] at d
     exact ⟨A1, B1, (hA d).1, (hA d).2.1, (hA d).2.2.1, (hA d).2.2.2, by rw [d, h59 d2, d3]; rfl⟩
 by_cases k5 : k = 5
 · subst k5
   rw [zou]
   exact op7_5 kk w.h.o _ _ room nur fr w.full w.out a b (zac a w.h.rs.length) (zac b w.h.rs.length)
    (fun d => by
     have h1 := (hA d).1
     have hw : w64 (a + 1) = a + 1 := zca (by omega)
     refine ⟨A1, B1, ⟨h1.1, by omega⟩, ⟨by omega, by omega⟩, ⟨by rw [zl4]; exact zn3 _, by simp; omega⟩, ⟨by rw [zmn]; exact zn3 _, by simp; omega⟩, ?_⟩
     rw [d, zl4, zmn, hw, show (a + 1).toNat = a.toNat + 1 by omega]
     simp [zlP, ID])
    (fun d => ⟨A1, B1, by rw [d]⟩)
 by_cases k6 : k = 6
 · subst k6
   rw [zoz]
   have hs := zbW (cut w.h.cs 300 (rg w.h a))
   have hb1 := zfK (ziY g) 300 (rg w.h a)
   obtain ⟨c1, c2⟩ := znv (c := w.h.cs) (rg w.h a)
   have hsh := fun d => zhf true (zn4 g) (ziY g) 300 (rg w.h a) (by omega) (zip g.g d).1 (zip g.g d).2 (by have := (zip g.g d).2; omega) kk (by omega)
   exact op7_6 kk w.h.o _ _ room nur fr w.full w.out a b (zac a w.h.rs.length) (zac b w.h.rs.length) (rg w.h a) (str (cut w.h.cs 300 (rg w.h a)))
    (fun d d2 => ⟨A1, B1, (hA d).1, (hA d).2.1, hsh d, by omega, by omega, by rw [d, c1 (by have := of_decide_eq_true d2; omega)]⟩)
    (fun d d2 => ⟨A1, B1, (hA d).1, (hA d).2.1, hsh d, by omega, by rw [ByteArray.size_append]; omega, by rw [d, c2 (by have := of_decide_eq_false d2; omega)]⟩)
    (fun d => ⟨A1, B1, by rw [d]⟩)
 by_cases k7 : k = 7
 · subst k7
   rw [zoe]
   exact op7_7 kk w.h.o _ _ room nur fr w.full w.out a b (zac a w.h.rs.length) (zac b w.h.rs.length) (rg w.h a) (rg w.h b)
    (fun d d2 d3 => ⟨A1, B1, (hA d).1, (hA d).2.1, (hB d2).1, (hB d2).2.1, by omega, by rw [d, d2, if_pos (of_decide_eq_true d3)]; rfl⟩)
    (fun d d2 d3 => ⟨A1, B1, (hA d).1, (hA d).2.1, (hB d2).1, (hB d2).2.1, by omega, by rw [d, d2, if_neg (of_decide_eq_false d3)]; rfl⟩)
    (fun d d2 => ⟨A1, B1, by rw [d, d2]; rfl⟩)
    (fun d => ⟨A1, B1, by rw [d]; rfl⟩)
 by_cases k8 : k = 8
 · subst k8
   rw [zoI]
   exact op7_8 kk w.h.o _ _ room nur fr w.full w.out a b (zbw w.h).o _ _ (zac a w.h.rs.length) (zac b w.h.rs.length)
    (fun d => ⟨A1, B1, zax _, zgX true w.h g kk (by omega), by cases fr <;> first | rfl | cases d⟩)
    (fun d => ⟨A1, B1, by cases fr <;> first | rfl | cases d⟩)
 by_cases k9 : k = 9
 · subst k9
   rw [zoM]
   exact op7_9 kk w.h.o _ _ room nur fr w.full w.out a b (minH w.h).o _ _ (zac a w.h.rs.length) (zac b w.h.rs.length)
    (fun d => ⟨A1, B1, zax _, zhK true w.h g kk (by omega), by cases fr <;> first | rfl | cases d⟩)
    (fun d => ⟨A1, B1, by cases fr <;> first | rfl | cases d⟩)
 rw [zoS ⟨k1, k2, k3, k4, k5, k6, k7, k8, k9⟩]
 have n : ∀ j : Int, k ≠ j → decide (k = j) = false := fun j h => by simpa using h
 exact op7_o kk w.h.o _ _ room nur fr w.full w.out k a b (zac a w.h.rs.length) (zac b w.h.rs.length) A1 B1 (n 1 k1) (n 2 k2) (n 3 k3) (n 4 k4) (n 5 k5) (n 6 k6) (n 7 k7) (n 8 k8) (n 9 k9)
end Go.Den
namespace Go.Den
open Go
set_option linter.unusedVariables false
set_option maxRecDepth 100000
theorem zeP (w : Ws) (room nur : Int) (t : ByteArray) (h1 : w.out.size ≤ 1000000) (h2 : t.size ≤ 1000000) : EvN 1 111 [.ptr (.up 0) 0, .dat (S t)] [P7D w room nur] [] ([], [P7D ⟨w.h, w.full, w.out ++ (t ++ nlB)⟩ room nur], []) := by
 refine zaY Go.Proofs.Tryd.f111 0 (by kernel_rfl) (by kernel_rfl) fun kk hkk => ?_
 have hn1 : (ByteArray.mk #[10]).size = 1 := rfl
 exact tell7 kk w.h.o _ _ (zah w.out) room nur w.full t ⟨by omega, ⟨zhy _, by rw [zig, zig, ByteArray.size_append]; omega⟩, by rw [← zme]⟩
theorem zl8 (h : Hp) (bs : List Dat) (room nur : Int) (full : Bool) (c : Cl) (g : Hg h) : EvN 1 106 [.ptr (.up 0) 0, .dat c.d] [P7 h.o (CD h.cs) (ID h.rs) bs room nur full] [] ([], [P7 (addH h c).o (CD (addH h c).cs) (ID (addH h c).rs) bs room nur full], []) := by
 refine zaY Go.Proofs.Tryd.f106 0 (by kernel_rfl) (by kernel_rfl) fun kk hkk => ?_
 have hcl := g.clen
 have hrl := g.rlen
 refine put7 kk h.o _ _ bs room nur full c ⟨by simp; omega, by simp; omega, ?_⟩
 have e1 := zn8 h.cs c
 have e3 := zgg h.rs (h.cs.length : Int)
 show (([], [P7 h.o (CD (h.cs ++ [c])) (ID (h.rs ++ [(h.cs.length : Int)])) bs room nur full], []) : Res) = _
 rw [← e1, ← e3]
 have : ((CD h.cs).length : Int) = (h.cs.length : Int) := by simp
 rw [this]
theorem zjO (w : Ws) (room nur : Int) (g : Hg w.h) (a : Int) (second : Bool) : EvN 10 108 [.ptr (.up 0) 0, .dat (I a), .dat (B second)] [P7D w room nur] [] ([], [P7D (match zac a w.h.rs.length && decide ((w.h.rs.length : Int) < 60) && !(cg w.h.cs (rg w.h a)).l with | true => zmo w second (rg w.h a) | false => w) room nur], []) := by
 refine zaY Go.Proofs.Tryd.f108 9 (by kernel_rfl) (by kernel_rfl) fun kk hkk => ?_
 have hrl := g.rlen
 have lr : (ID w.h.rs).length + 1 ≤ 2147483648 := by simp; omega
 have hr := zdQ w room nur g a kk (by omega)
 have hm := zje w room nur kk (by omega)
 have hA := fun h => zes g (a := a) h
 cases hb : zac a w.h.rs.length with
 | false =>
   rw [hb] at hr
   exact zp9 kk w.h.o _ _ _ room nur w.full a 0 second false false c0 c0 c0 (fun _ => ⟨hr, rfl⟩) (fun d => by cases d) (fun d => by cases d) (fun d => by cases d) (fun d => by cases d)
 | true =>
   rw [hb] at hr
   obtain ⟨_, _, x1, x2⟩ := hA hb
   refine zp9 kk w.h.o _ _ _ room nur w.full a (rg w.h a) second true (decide ((w.h.rs.length : Int) < 60)) (cg w.h.cs (rg w.h a)) (cg w.h.cs (rg w.h a)) (cg w.h.cs (rg w.h a)) (fun d => by cases d) (fun _ d => ⟨hr, x1, x2, by rw [d, Bool.not_true, Bool.and_false]⟩) (fun _ d d2 => ⟨hr, x1, x2, hm, ?_⟩) (fun _ d d2 d3 => ⟨hr, x1, x2, hm, x1, x2, x1, x2, lr, ?_⟩) (fun _ d d2 d3 => ⟨hr, x1, x2, hm, x1, x2, lr, ?_⟩)
   · simp only [Bool.not_eq_true'] at d2; rw [d2]; rfl
   · simp only [Bool.not_eq_false'] at d2; rw [d, d2, d3, zgg]; rfl
   · simp only [Bool.not_eq_false'] at d2; rw [d, d2, d3, zgg]; rfl
theorem znH (fr : Bool) (room nur : Int) (hfr : fr = decide (room < 0)) (a b : Int) (w : Ws) (g : Og w.h) (hf : w.full = false) : EvN 3250 107 [.ptr (.up 0) 0, .dat (I a), .dat (I b)] [P7D w room nur] [] ([], [P7D (opQ fr room nur 2 a b w) room nur], []) := by
 refine zaY Go.Proofs.Tryd.f107 3249 (by kernel_rfl) (by kernel_rfl) fun kk hkk => ?_
 have ra := zdQ w room nur g.g a kk (by omega)
 have rb := zdQ w room nur g.g b kk (by omega)
 have hm := zje w room nur kk (by omega)
 have hroom := zkg fr room nur hfr w.h g (zah w.out) kk (by omega)
 rw [← hf] at hroom
 have gt := zgY (fr := fr) (room := room) (nur := nur) g
 have hrs := zdl (fr := fr) (room := room) (nur := nur) (h := w.h)
 rw [zom]
 cases ha : zac a w.h.rs.length with
 | false =>
   rw [ha] at ra
   exact zlN kk w.h.o _ _ _ room nur w.full a b 0 _ false _ false 0 [] [] false false 0 [] [] [] false 0 0 (fun d => by cases d) (fun d => by cases d) (fun d => by cases d) (fun d => by cases d) (fun _ => ⟨ra, rb, rfl⟩)
 | true =>
   rw [ha] at ra
   cases hb : zac b w.h.rs.length with
   | false =>
     rw [hb] at rb
     exact zlN kk w.h.o _ _ _ room nur w.full a b _ 0 true false false 0 [] [] false false 0 [] [] [] false 0 0 (fun _ d => by cases d) (fun _ d => by cases d) (fun _ d => by cases d) (fun _ _ => ⟨ra, rb, rfl⟩) (fun d => by cases d)
   | true =>
     rw [hb] at rb
     cases hd : decide ((w.h.rs.length : Int) < 60) with
     | false =>
       rw [hd] at hm
       exact zlN kk w.h.o _ _ _ room nur w.full a b _ _ true true false 0 [] [] false false 0 [] [] [] false 0 0 (fun _ _ d => by cases d) (fun _ _ d => by cases d) (fun _ _ _ => ⟨ra, rb, hm, rfl⟩) (fun _ d => by cases d) (fun d => by cases d)
     | true =>
       rw [hd] at hm
       obtain ⟨a1, a2, _⟩ := zes gt.g (a := a) (by rw [hrs]; exact ha)
       obtain ⟨b1, b2, _⟩ := zes gt.g (a := b) (by rw [hrs]; exact hb)
       show zan _ _ _ _ _ _ _ _ = some ([], [P7D (putQ fr room nur true a b w) room nur], [])
       unfold putQ
       generalize zaA fr room nur w.h = t at *
       cases hful : zdm fr room t with
       | true =>
         rw [hful] at hroom
         exact zlN kk w.h.o _ _ _ room nur w.full a b _ _ true true true t.o _ _ true false 0 [] [] [] false 0 0 (fun _ _ _ d => by cases d) (fun _ _ _ _ => ⟨ra, rb, hm, hroom, rfl⟩) (fun _ _ d => by cases d) (fun _ d => by cases d) (fun d => by cases d)
       | false =>
         rw [hful] at hroom
         exact zlN kk w.h.o _ _ _ room nur w.full a b _ _ true true true t.o _ _ false true _ _ _ _ false (rg t a) (rg t b) (fun _ _ _ _ => ⟨ra, rb, hm, hroom, a1, a2, b1, b2, zl8 t (zah w.out) room nur false (zea true a b t) gt.g kk (by omega), rfl⟩) (fun _ _ _ d => by cases d) (fun _ _ d => by cases d) (fun _ d => by cases d) (fun d => by cases d)
end Go.Den
namespace Go.Den
open Go
set_option linter.unusedVariables false
set_option maxRecDepth 100000
theorem zpO (fr : Bool) (room nur : Int) (hfr : fr = decide (room < 0)) (k a b : Int) (w : Ws) (g : Og w.h) (hf : w.full = false) (ho : w.out.size ≤ 1000000) : EvN 3300 79 [.ptr (.up 0) 0, .dat (N3 k a b)] [P7D w room nur] [] ([], [P7D (opQ fr room nur k a b w) room nur], []) := by
 refine zaY Go.Proofs.Tryd.f79 3299 (by kernel_rfl) (by kernel_rfl) fun kk hkk => ?_
 have n : ∀ j : Int, k ≠ j → decide (k = j) = false := fun j h => by simpa using h
 have hcl := g.g.clen
 have hrl := g.g.rlen
 have A1 := zdQ w room nur g.g a kk (by omega)
 have B1 := zdQ w room nur g.g b kk (by omega)
 have hm := zje w room nur kk (by omega)
 have efr : ∀ {d : Bool}, decide (0 ≤ room) = d → fr = !d := fun {d} h => by
  rw [hfr]
  cases d with
  | true => have := of_decide_eq_true h; exact decide_eq_false (by omega)
  | false => have := of_decide_eq_false h; exact decide_eq_true (by omega)
 by_cases k1 : k = 1
 · subst k1
   rw [zot]
   have hroom := zkg fr room nur hfr w.h g (zah w.out) kk (by omega)
   rw [← hf] at hroom
   have gt := zgY (fr := fr) (room := room) (nur := nur) g
   cases hd : decide ((w.h.rs.length : Int) < 60) with
   | false =>
     rw [hd] at hm
     exact zo1 kk w.h.o _ _ _ room nur w.full a b _ _ false 0 [] [] false false 0 [] [] [] false (fun d => by cases d) (fun d => by cases d) (fun _ => ⟨A1, hm, rfl⟩)
   | true =>
     rw [hd] at hm
     show zan _ _ _ _ _ _ _ _ = some ([], [P7D (putQ fr room nur false a b w) room nur], [])
     unfold putQ
     generalize zaA fr room nur w.h = t at *
     cases hful : zdm fr room t with
     | true =>
       rw [hful] at hroom
       exact zo1 kk w.h.o _ _ _ room nur w.full a b _ _ true t.o _ _ true false 0 [] [] [] false (fun _ d => by cases d) (fun _ _ => ⟨A1, hm, hroom, rfl⟩) (fun d => by cases d)
     | false =>
       rw [hful] at hroom
       exact zo1 kk w.h.o _ _ _ room nur w.full a b _ _ true t.o _ _ false true _ _ _ _ false (fun _ _ => ⟨A1, hm, hroom, zl8 t (zah w.out) room nur false (zea false a b t) gt.g kk (by omega), rfl⟩) (fun _ d => by cases d) (fun d => by cases d)
 by_cases k2 : k = 2
 · subst k2
   exact do7_2 kk w.h.o _ _ _ room nur w.full a b _ _ _ _ _ _ _ ⟨A1, znH fr room nur hfr a b w g hf kk (by omega), rfl⟩
 by_cases k3 : k = 3
 · subst k3
   rw [zpn]
   exact do7_3 kk w.h.o _ _ _ room nur w.full a b _ _ _ _ _ _ _ ⟨A1, zjO w room nur g.g a false kk (by omega), rfl⟩
 by_cases k4 : k = 4
 · subst k4
   rw [zoU]
   exact do7_4 kk w.h.o _ _ _ room nur w.full a b _ _ _ _ _ _ _ ⟨A1, zjO w room nur g.g a true kk (by omega), rfl⟩
 by_cases k5 : k = 5
 · subst k5
   rw [zou]
   refine do7_5 kk w.h.o _ _ _ room nur w.full a b (match zac a w.h.rs.length with | true => rg w.h a | false => 0) (zac a w.h.rs.length) (ID w.h.rs) (ID (w.h.rs.take a.toNat ++ w.h.rs.drop (a.toNat + 1))) (fun d => ?_) (fun d => ⟨A1, by rw [d]⟩)
   have h1 := zic d
   have hw : w64 (a + 1) = a + 1 := zca (by omega)
   refine ⟨A1, by simp only [D.cleans, D.clean, zhe, Bool.and_self], ze3 true w.h.rs (by omega) kk (by omega), ?_, by rw [d]; rfl⟩
   rw [hw]
   exact zpp w.h.rs a h1.1 h1.2 (by omega) kk (by omega)
 by_cases k6 : k = 6
 · subst k6
   rw [zoz]
   cases hb : zac a w.h.rs.length with
   | false =>
     rw [hb] at A1
     exact zpC kk w.h.o _ _ _ room nur w.full a b _ false default false 0 [] [] [] false (fun d => by cases d) (fun d => by cases d) (fun _ => ⟨A1, rfl⟩)
   | true =>
     rw [hb] at A1
     have hx := zip g.g hb
     have hsh := zm0 true (zn4 g) (ziY g) hcl (rg w.h a) hx.1 hx.2 kk (by omega)
     have hn4 : longB.size = 4 := rfl
     refine zpC kk w.h.o _ _ _ room nur w.full a b (rg w.h a) true (zeu w.h.cs (rg w.h a)) (zdW w.h.cs (rg w.h a)) w.h.o (CD w.h.cs) (ID w.h.rs) (zah (w.out ++ (zed w.h.cs (rg w.h a) ++ nlB))) w.full (fun _ d => ?_) (fun _ d => ?_) (fun d => by cases d)
     · simp only [Bool.not_eq_true'] at d
       have e : zed w.h.cs (rg w.h a) = longB := by unfold zed; rw [d]
       rw [e]
       exact ⟨A1, hsh, zeP w room nur longB ho (by omega) kk (by omega), rfl⟩
     · simp only [Bool.not_eq_false'] at d
       have e : zed w.h.cs (rg w.h a) = zeu w.h.cs (rg w.h a) := by unfold zed zeu; rw [d]
       have hl : (zeu w.h.cs (rg w.h a)).size ≤ 1000000 := by
        unfold zeu
        rw [d]
        have := of_decide_eq_true d
        show (str (Tt w.h.cs (rg w.h a))).size ≤ _
        rw [zbW]
        omega
       rw [e]
       exact ⟨A1, hsh, zeP w room nur _ ho hl kk (by omega), rfl⟩
 by_cases k7 : k = 7
 · subst k7
   rw [zoe]
   cases ha : zac a w.h.rs.length with
   | false =>
     rw [ha] at A1
     exact znj kk w.h.o _ _ _ room nur w.full a b _ false _ (zac b w.h.rs.length) 0 [] [] [] false default (fun d => by cases d) (fun d => by cases d) (fun _ => ⟨A1, B1, rfl⟩)
   | true =>
     rw [ha] at A1
     cases hb : zac b w.h.rs.length with
     | false =>
       rw [hb] at B1
       exact znj kk w.h.o _ _ _ room nur w.full a b _ true _ false 0 [] [] [] false default (fun _ d => by cases d) (fun _ _ => ⟨A1, B1, rfl⟩) (fun d => by cases d)
     | true =>
       rw [hb] at B1
       have hn4 : (ByteArray.mk #[115, 97, 109, 101]).size = 4 := rfl
       have hn5 : (ByteArray.mk #[111, 116, 104, 101, 114]).size = 5 := rfl
       by_cases he : rg w.h a = rg w.h b
       · rw [Bool.true_and, if_pos he]
         exact znj kk w.h.o _ _ _ room nur w.full a b _ true _ true w.h.o _ _ _ w.full (ByteArray.mk #[115, 97, 109, 101]) (fun _ _ => ⟨A1, B1, by rw [decide_eq_true he]; rfl, zeP w room nur _ ho (by omega) kk (by omega), rfl⟩) (fun _ d => by cases d) (fun d => by cases d)
       · rw [Bool.true_and, if_neg he]
         exact znj kk w.h.o _ _ _ room nur w.full a b _ true _ true w.h.o _ _ _ w.full (ByteArray.mk #[111, 116, 104, 101, 114]) (fun _ _ => ⟨A1, B1, by rw [decide_eq_false he]; rfl, zeP w room nur _ ho (by omega) kk (by omega), rfl⟩) (fun _ d => by cases d) (fun d => by cases d)
 by_cases k8 : k = 8
 · subst k8
   rw [zoI]
   exact do7_8 kk w.h.o _ _ _ room nur w.full a b _ _ (zbw w.h).o _ _ (fun d => ⟨A1, zax _, zfJ true w.h g kk (by omega), by rw [efr d]; rfl⟩) (fun d => ⟨A1, by rw [efr d]; rfl⟩)
 by_cases k9 : k = 9
 · subst k9
   rw [zoM]
   exact do7_9 kk w.h.o _ _ _ room nur w.full a b _ _ (minH w.h).o _ _ (fun d => ⟨A1, zax _, zgh true w.h g kk (by omega), by rw [efr d]; rfl⟩) (fun d => ⟨A1, by rw [efr d]; rfl⟩)
 rw [zoS ⟨k1, k2, k3, k4, k5, k6, k7, k8, k9⟩]
 exact do7_o kk w.h.o _ _ _ room nur w.full k a b _ _ A1 (n 1 k1) (n 2 k2) (n 3 k3) (n 4 k4) (n 5 k5) (n 6 k6) (n 7 k7) (n 8 k8) (n 9 k9)
end Go.Den
namespace Go.Den
open Go
set_option linter.unusedVariables false
set_option maxRecDepth 100000
open Go.Proofs.YtcmcfebihbmmeaaDoor (num numV)
noncomputable def runQ (fr : Bool) (room nur : Int) : List Op3 → Ws → Ws
 | [], w => w
 | x :: l, w => match (opQ fr room nur x.k x.a x.b w).full with
   | true => opQ fr room nur x.k x.a x.b w
   | false => runQ fr room nur l (opQ fr room nur x.k x.a x.b w)
structure Iq (fr : Bool) (m : Nat) (w : Ws) : Prop where
 g : Og w.h
 len : fr = true → w.h.cs.length ≤ m
 out : w.out.size ≤ 700 * m
theorem Iq.up {fr : Bool} {m : Nat} {w : Ws} (h : Iq fr m w) : Iq fr (m + 1) w := ⟨h.g, fun e => by have := h.len e; omega, by have := h.out; omega⟩
theorem zmk {h : Hp} (o : Og h) {r : Int} (hr : 0 ≤ r ∧ r < (h.cs.length : Int)) (h2 : h.rs.length < 60) : Og (zos h r) := ⟨zli o.g hr h2, o.ns, o.low⟩
theorem zpb {h : Hp} (o : Og h) (a : Int) : Og (zlP h a) := ⟨zmN o.g a, o.ns, o.low⟩
theorem zpL {h : Hp} (o : Og h) {c : Cl} (hc : c.fine) (hok : zcq (h.cs.length + 1) c = true) (h1 : h.cs.length < 200) (h2 : h.rs.length < 60) (hl : c.l = false → c.a < (h.cs.length : Int) ∧ c.b < (h.cs.length : Int)) : Og (addH h c) := by
 refine ⟨znx o.g hc hok h1 h2, o.ns, fun i h0 hi hle => ?_⟩
 have hlen : ((addH h c).cs.length : Int) = (h.cs.length : Int) + 1 := by show ((h.cs ++ [c]).length : Int) = _; simp
 by_cases hlt : i < (h.cs.length : Int)
 · have e : cg (addH h c).cs i = cg h.cs i := by
    show (h.cs ++ [c]).getD i.toNat c0 = h.cs.getD i.toNat c0
    rw [List.getD_eq_getElem?_getD, List.getD_eq_getElem?_getD, List.getElem?_append_left (by omega)]
   rw [e] at hle ⊢
   exact o.low i h0 hlt hle
 · have hi2 : i.toNat = h.cs.length := by omega
   have e : cg (addH h c).cs i = c := by
    show (h.cs ++ [c]).getD i.toNat c0 = c
    rw [List.getD_eq_getElem?_getD, hi2]
    simp
   rw [e] at hle ⊢
   have := hl hle
   omega
theorem ziw {fr : Bool} {room nur : Int} {pair : Bool} {a b : Int} {w : Ws} {m : Nat} (i : Iq fr m w) (hr : fr = false → room ≤ 200) (hm : m < 200) (ha : In64 a) (hlt : w.h.rs.length < 60)
 (hp : pair = true → zac a w.h.rs.length = true ∧ zac b w.h.rs.length = true) : Iq fr (m + 1) (putQ fr room nur pair a b w) := by
 have g := zgY (fr := fr) (room := room) (nur := nur) i.g
 have hrs := zdl (fr := fr) (room := room) (nur := nur) (h := w.h)
 have ht := fun (e : fr = true) => (by subst e; rfl : zaA fr room nur w.h = w.h)
 have ho := i.out
 unfold putQ
 generalize zaA fr room nur w.h = h1 at *
 cases hf : zdm fr room h1 with
 | true => exact ⟨g, fun e => by show h1.cs.length ≤ _; rw [ht e]; have := i.len e; omega, by show w.out.size ≤ _; omega⟩
 | false =>
   have hc : h1.cs.length < 200 := by
    cases fr with
    | true => have := i.len rfl; rw [ht rfl]; omega
    | false =>
      have := hr rfl
      simp [zdm] at hf
      omega
   have in1 := fun x (h : zac x w.h.rs.length = true) => zip g.g (a := x) (by rw [hrs]; exact h)
   refine ⟨zpL g ?_ ?_ hc (by omega) ?_, fun e => ?_, by show w.out.size ≤ _; omega⟩
   · cases pair with
     | true =>
       have h4 := in1 a (hp rfl).1
       have h5 := in1 b (hp rfl).2
       exact ⟨(show In64 0 from ⟨by decide, by decide⟩), ⟨by show _ ≤ rg h1 a; omega, by show rg h1 a ≤ _; omega⟩, ⟨by show _ ≤ rg h1 b; omega, by show rg h1 b ≤ _; omega⟩⟩
     | false => exact ⟨ha, (show In64 0 from ⟨by decide, by decide⟩), (show In64 0 from ⟨by decide, by decide⟩)⟩
   · cases pair with
     | true =>
       have h4 := in1 a (hp rfl).1
       have h5 := in1 b (hp rfl).2
       have h6 : rg h1 a < (h1.cs.length : Int) + 1 := by omega
       have h7 : rg h1 b < (h1.cs.length : Int) + 1 := by omega
       simp [zea, zcq, zac, h4.1, h5.1, h6, h7]
     | false => rfl
   · cases pair with
     | true => exact fun _ => ⟨(in1 a (hp rfl).1).2, (in1 b (hp rfl).2).2⟩
     | false => exact fun e => by cases e
   · show (h1.cs ++ [_]).length ≤ m + 1
     rw [ht e]
     have := i.len e
     simp; omega
theorem zll (c : List Cl) (i : Int) : (zed c i).size ≤ 500 := by
 unfold zed
 cases h : zdW c i with
 | true => have := of_decide_eq_true h; show (str (Tt c i)).size ≤ _; rw [zbW]; omega
 | false => show longB.size ≤ 500; decide
theorem zkp {fr : Bool} {room nur : Int} {k a b : Int} {w : Ws} {m : Nat} (i : Iq fr m w) (hr : fr = false → room ≤ 200) (hm : m < 200) (ha : In64 a) : Iq fr (m + 1) (opQ fr room nur k a b w) := by
 have ho := i.out
 have same : ∀ h', Og h' → (fr = true → h'.cs.length ≤ m + 1) → Iq fr (m + 1) ⟨h', w.full, w.out⟩ := fun h' g' hl => ⟨g', hl, by show w.out.size ≤ _; omega⟩
 have keep : fr = true → w.h.cs.length ≤ m + 1 := fun e => by have := i.len e; omega
 have tell : ∀ t : ByteArray, t.size ≤ 600 → Iq fr (m + 1) ⟨w.h, w.full, w.out ++ t⟩ := fun t ht => ⟨i.g, keep, by show (w.out ++ t).size ≤ _; rw [ByteArray.size_append]; omega⟩
 by_cases k1 : k = 1
 · subst k1
   rw [zot]
   cases hd : decide ((w.h.rs.length : Int) < 60) with
   | true => exact ziw i hr hm ha (by have := of_decide_eq_true hd; omega) (fun e => by cases e)
   | false => exact i.up
 by_cases k2 : k = 2
 · subst k2
   rw [zom]
   cases hd : zac a w.h.rs.length && zac b w.h.rs.length && decide ((w.h.rs.length : Int) < 60) with
   | true =>
     simp only [Bool.and_eq_true, decide_eq_true_eq] at hd
     exact ziw i hr hm ha (by omega) (fun _ => hd.1)
   | false => exact i.up
 by_cases k3 : k = 3
 · subst k3
   rw [zpn]
   cases hd : zac a w.h.rs.length && decide ((w.h.rs.length : Int) < 60) && !(cg w.h.cs (rg w.h a)).l with
   | true =>
     simp only [Bool.and_eq_true, decide_eq_true_eq, Bool.not_eq_true'] at hd
     have h1 := zip i.g.g hd.1.1
     exact same _ (zmk i.g (i.g.g.wf _ h1.1 h1.2 hd.2).1 (by omega)) keep
   | false => exact i.up
 by_cases k4 : k = 4
 · subst k4
   rw [zoU]
   cases hd : zac a w.h.rs.length && decide ((w.h.rs.length : Int) < 60) && !(cg w.h.cs (rg w.h a)).l with
   | true =>
     simp only [Bool.and_eq_true, decide_eq_true_eq, Bool.not_eq_true'] at hd
     have h1 := zip i.g.g hd.1.1
     exact same _ (zmk i.g (i.g.g.wf _ h1.1 h1.2 hd.2).2 (by omega)) keep
   | false => exact i.up
 by_cases k5 : k = 5
 · subst k5
   rw [zou]
   cases zac a w.h.rs.length with
   | true => exact same _ (zpb i.g a) keep
   | false => exact i.up
 by_cases k6 : k = 6
 · subst k6
   rw [zoz]
   cases zac a w.h.rs.length with
   | true => exact tell _ (by have := zll w.h.cs (rg w.h a); have : nlB.size = 1 := rfl; rw [ByteArray.size_append]; omega)
   | false => exact i.up
 by_cases k7 : k = 7
 · subst k7
   rw [zoe]
   cases zac a w.h.rs.length && zac b w.h.rs.length with
   | true => exact tell _ (by split <;> decide)
   | false => exact i.up
 by_cases k8 : k = 8
 · subst k8
   rw [zoI]
   cases fr with
   | true => exact i.up
   | false => exact same _ (ziW i.g) (fun e => by cases e)
 by_cases k9 : k = 9
 · subst k9
   rw [zoM]
   cases fr with
   | true => exact i.up
   | false => exact same _ (zio i.g) (fun e => by cases e)
 rw [zoS ⟨k1, k2, k3, k4, k5, k6, k7, k8, k9⟩]
 exact i.up
theorem iq00 (fr : Bool) : Iq fr 0 w00 :=
 ⟨⟨(iv00 fr).g, rfl, fun i h0 hi _ => by have : i < 0 := hi; omega⟩, fun _ => Nat.le_refl _, Nat.le_refl _⟩
section
variable {fr : Bool} {room nur : Int}
theorem zdP (hr : fr = false → room ≤ 200) (b : Bool) (L : List Op3) (hL : L.length ≤ 150) (ha : ∀ x ∈ L, In64 x.a) {kk : Nat} (hkk : 1050000 ≤ kk) {K : X → St → Prop} : ∀ (l : List Op3) (i : Nat) (w : Ws), L.drop i = l → i + l.length = L.length → Iq fr i w → w.full = false →
 K (match (runQ fr room nur l w).full with | true => .ret | false => .exit 0) (Nm [] [] [] [L7D (runQ fr room nur l w) room nur fr] []) →
 ∀ m, l.length < m → ∀ s : St, s.norm ((zaf cfg kk 51 Go.Proofs.Tryd.f51).live (zaa (lp Go.Proofs.Tryd.f51 1))) = hd51 b (OD L) w.h.o (CD w.h.cs) (ID w.h.rs) room nur fr w.full w.out i → zag (zaf cfg kk 51 Go.Proofs.Tryd.f51) kk (lp Go.Proofs.Tryd.f51 1) m s K
 | [], i, w, hd, hi, hI, hf, hK, m, hm, s, hs => by
   obtain ⟨m, rfl⟩ : ∃ k, m = k + 1 := ⟨m - 1, by omega⟩
   have hlen : ((OD L).length : Int) = (L.length : Int) := by simp
   have hK : K (match w.full with | true => .ret | false => .exit 0) (Nm [] [] [] [L7D w room nur fr] []) := hK
   rw [hf] at hK
   simp only [List.length_nil, Nat.add_zero] at hi
   exact zmy kk m b _ _ _ _ room nur fr w.full w.out i 0 [] [] true ByteArray.empty 0 0 0 hs (fun d => absurd (of_decide_eq_true d) (by omega)) (fun d => absurd (of_decide_eq_true d) (by omega)) (fun _ => hK)
 | x :: l, i, w, hd, hi, hI, hf, hK, m, hm, s, hs => by
   obtain ⟨m, rfl⟩ : ∃ k, m = k + 1 := ⟨m - 1, by omega⟩
   obtain ⟨hx, hd', hlt⟩ := zmj hd
   have hxm := List.mem_of_getElem? hx
   have hlen : ((OD L).length : Int) = (L.length : Int) := by simp
   have h76 := zpx fr room nur x.k x.a x.b w hI.g hf (by have := hI.out; omega) kk (by omega)
   have hI' := zkp (room := room) (nur := nur) (k := x.k) (b := x.b) hI hr (by omega) (ha x hxm)
   have hxd := ih (gm (f := Op3.d) hx)
   have hrun : runQ fr room nur (x :: l) w = (match (opQ fr room nur x.k x.a x.b w).full with | true => opQ fr room nur x.k x.a x.b w | false => runQ fr room nur l (opQ fr room nur x.k x.a x.b w)) := rfl
   rw [hrun] at hK
   have ihl := zdP hr b L hL ha hkk (K := K) l (i + 1) (opQ fr room nur x.k x.a x.b w) hd' (by simp at hi; omega) hI'
   generalize opQ fr room nur x.k x.a x.b w = p at h76 hI' hK ihl
   refine zmy kk m b _ _ _ _ room nur fr w.full w.out i p.h.o _ _ p.full p.out x.k x.a x.b hs (fun _ d => ⟨hxd, h76, ?_⟩) (fun _ d => ⟨hxd, h76, fun s' hs' => ?_⟩) (fun d => absurd (of_decide_eq_false d) (by omega))
   · have hK2 : K .ret (Nm [] [] [] [L7D p room nur fr] []) := by
      rw [d] at hK
      simp only [d] at hK
      exact hK
     rw [d]
     have e : L7D p room nur fr = L7 p.h.o (CD p.h.cs) (ID p.h.rs) room nur fr true p.out := by rw [← d]
     rw [e] at hK2
     exact hK2
   · rw [d] at hK
     refine ihl d hK m (by simp at hm; omega) s' ?_
     rw [hs', wi i (by omega)]
     rfl
theorem zmM (hr : fr = false → room ≤ 200) (b : Bool) (L : List Op3) (hL : L.length ≤ 150) (ha : ∀ x ∈ L, In64 x.a) : EvN 1050100 51 [.ptr (.up 0) 0, .dat (.lst b (OD L))] [L7D w00 room nur fr] [] ([], [L7D (runQ fr room nur L w00) room nur fr], []) := by
 refine zaY Go.Proofs.Tryd.f51 1050099 (by kernel_rfl) (by kernel_rfl) fun kk hkk => ?_
 have hloop : za7 cfg kk 51 Go.Proofs.Tryd.f51 1 (hd51 b (OD L) w00.h.o (CD w00.h.cs) (ID w00.h.rs) room nur fr w00.full w00.out 0) (match (runQ fr room nur L w00).full with | true => .ret | false => .exit 0) (Nm [] [] [] [L7D (runQ fr room nur L w00) room nur fr] []) :=
  zcu fun s hs => zdP hr b L hL ha (by omega) L 0 w00 rfl (by simp) (iq00 fr) rfl ⟨rfl, rfl⟩ kk (by omega) s hs
 generalize runQ fr room nur L w00 = p at hloop ⊢
 cases hp : p.full with
 | true =>
   rw [hp] at hloop
   exact zoV kk b _ 0 [] [] room nur fr false ByteArray.empty p.h.o _ _ p.full p.out ⟨hloop, rfl⟩
 | false =>
   rw [hp] at hloop
   exact zoW kk b _ 0 [] [] room nur fr false ByteArray.empty p.h.o _ _ p.full p.out ⟨hloop, rfl⟩
theorem zdK (hfr : fr = decide (room < 0)) (hr : fr = false → room ≤ 200) (b : Bool) (L : List Op3) (hL : L.length ≤ 150) (ha : ∀ x ∈ L, In64 x.a) {kk : Nat} (hkk : 1050400 ≤ kk) {K : X → St → Prop} : ∀ (l : List Op3) (i : Nat) (w : Ws), L.drop i = l → i + l.length = L.length → Iq fr i w → w.full = false →
 K (.exit 0) (Nm [7, 13] [.ptr (.loc 13) 0, .ptr (.loc 13) 0] [none, some (P7D (runQ fr room nur l w) room nur)] [] []) →
 ∀ m, l.length < m → ∀ s : St, s.norm ((zaf cfg kk 52 Go.Proofs.Tryd.f52).live (zaa (lp Go.Proofs.Tryd.f52 3))) = hd52 b (OD L) w.h.o (CD w.h.cs) (ID w.h.rs) (zah w.out) room nur w.full i → zag (zaf cfg kk 52 Go.Proofs.Tryd.f52) kk (lp Go.Proofs.Tryd.f52 3) m s K
 | [], i, w, hd, hi, hI, hf, hK, m, hm, s, hs => by
   obtain ⟨m, rfl⟩ : ∃ k, m = k + 1 := ⟨m - 1, by omega⟩
   have hlen : ((OD L).length : Int) = (L.length : Int) := by simp
   simp only [List.length_nil, Nat.add_zero] at hi
   exact zj7 kk m b _ _ _ _ _ room nur w.full i 0 [] [] [] true 0 0 0 hs (fun d => absurd (of_decide_eq_true d) (by omega)) (fun d => absurd (of_decide_eq_true d) (by omega)) (fun _ => hK)
 | x :: l, i, w, hd, hi, hI, hf, hK, m, hm, s, hs => by
   obtain ⟨m, rfl⟩ : ∃ k, m = k + 1 := ⟨m - 1, by omega⟩
   obtain ⟨hx, hd', hlt⟩ := zmj hd
   have hxm := List.mem_of_getElem? hx
   have hlen : ((OD L).length : Int) = (L.length : Int) := by simp
   have h77 := zpO fr room nur hfr x.k x.a x.b w hI.g hf (by have := hI.out; omega) kk (by omega)
   have hI' := zkp (room := room) (nur := nur) (k := x.k) (b := x.b) hI hr (by omega) (ha x hxm)
   have hxd := ih (gm (f := Op3.d) hx)
   have hrun : runQ fr room nur (x :: l) w = (match (opQ fr room nur x.k x.a x.b w).full with | true => opQ fr room nur x.k x.a x.b w | false => runQ fr room nur l (opQ fr room nur x.k x.a x.b w)) := rfl
   rw [hrun] at hK
   have ihl := zdK hfr hr b L hL ha hkk (K := K) l (i + 1) (opQ fr room nur x.k x.a x.b w) hd' (by simp at hi; omega) hI'
   generalize opQ fr room nur x.k x.a x.b w = p at h77 hI' hK ihl
   refine zj7 kk m b _ _ _ _ _ room nur w.full i p.h.o _ _ _ p.full x.k x.a x.b hs (fun _ d => ⟨hxd, h77, ?_⟩) (fun _ d => ⟨hxd, h77, fun s' hs' => ?_⟩) (fun d => absurd (of_decide_eq_false d) (by omega))
   · rw [d] at hK
     exact hK
   · rw [d] at hK
     refine ihl d hK m (by simp at hm; omega) s' ?_
     rw [hs', wi i (by omega)]
     rfl
theorem zlB (hfr : fr = decide (room < 0)) (hr : fr = false → room ≤ 200) (b : Bool) (L : List Op3) (hL : L.length ≤ 150) (ha : ∀ x ∈ L, In64 x.a) : EvN 1050500 52 [.dat (.lst b (OD L)), .dat (I room), .dat (I nur)] [] [] ([.ptr (.loc 0) 0], [P7D (runQ fr room nur L w00) room nur], []) := by
 refine zaY Go.Proofs.Tryd.f52 1050499 (by kernel_rfl) (by kernel_rfl) fun kk hkk => ?_
 refine zpN kk b _ room nur _ _ _ _ _ ⟨?_, rfl⟩
 exact zcu fun s hs => zdK hfr hr b L hL ha (by omega) L 0 w00 rfl (by simp) (iq00 fr) rfl ⟨rfl, rfl⟩ kk (by omega) s hs
end
noncomputable def zfa (L : List Op3) (room nur : Int) : ByteArray × Bool × Bool := match decide (150 < (L.length : Int)) || !inB room 0 200 || !inB nur 1 200 with | true => (ByteArray.mk #[], false, false) | false => ((runQ false room nur L w00).out, (runQ false room nur L w00).full, true)
theorem zlF (b : Bool) (L : List Op3) (room nur : Int) (ha : ∀ x ∈ L, In64 x.a) : EvN 1050600 25 [.dat (.lst b (OD L)), .dat (I room), .dat (I nur)] [] [] ([.dat (S (zfa L room nur).1), .dat (B (zfa L room nur).2.1), .dat (B (zfa L room nur).2.2)], [], []) := by
 refine zaY Go.Proofs.Tryd.f25 1050599 (by kernel_rfl) (by kernel_rfl) fun kk hkk => ?_
 have hlen : ((OD L).length : Int) = (L.length : Int) := by simp
 have h1 := zjw room 0 200 kk (by omega)
 have h2 := zjw nur 1 200 kk (by omega)
 unfold zfa
 refine zpS kk b _ room nur _ _ _ _ _ (inB room 0 200) (inB nur 1 200) (fun d => by rw [← hlen, d]; rfl) (fun d d2 => ⟨h1, by rw [← hlen, d, d2]; rfl⟩) (fun d d2 d3 => ⟨h1, h2, by rw [← hlen, d, d2, d3]; rfl⟩) (fun d d2 d3 => ⟨h1, h2, zmM (fr := false) (room := room) (nur := nur) (fun _ => ?_) b L (by have := of_decide_eq_false d; omega) ha kk (by omega), by rw [← hlen, d, d2, d3]; rfl⟩)
 simp [inB] at d2
 omega
theorem zlH (b : Bool) (L : List Op3) (room nur : Int) (ha : ∀ x ∈ L, In64 x.a) : EvN 1050600 26 [.dat (.lst b (OD L)), .dat (I room), .dat (I nur)] [] [] ([.dat (S (zfa L room nur).1), .dat (B (zfa L room nur).2.1), .dat (B (zfa L room nur).2.2)], [], []) := by
 refine zaY Go.Proofs.Tryd.f26 1050599 (by kernel_rfl) (by kernel_rfl) fun kk hkk => ?_
 have hlen : ((OD L).length : Int) = (L.length : Int) := by simp
 have e1 : (!inB room 0 200) = (decide (room < 0) || decide (200 < room)) := by rw [Bool.eq_iff_iff]; simp [inB]
 have e2 : (!inB nur 1 200) = (decide (nur < 1) || decide (200 < nur)) := by rw [Bool.eq_iff_iff]; simp [inB]
 unfold zfa
 rw [e1, e2]
 refine zpT kk b _ room nur _ _ _ _ _ (fun d => by rw [← hlen, d]; rfl) (fun d d2 => by rw [← hlen, d, d2]; rfl) (fun d d2 d3 => by rw [← hlen, d, d2, d3]; rfl) (fun d d2 d3 d4 => by rw [← hlen, d, d2, d3, d4]; rfl) (fun d d2 d3 d4 d5 => by rw [← hlen, d, d2, d3, d4, d5]; rfl)
  (fun d d2 d3 d4 d5 => ⟨zlB (fr := false) (room := room) (nur := nur) d2.symm (fun _ => by have := of_decide_eq_false d3; omega) b L (by have := of_decide_eq_false d; omega) ha kk (by omega), by
  show zde (zah _) ≠ none
  rw [zh4]; simp, by
  rw [← hlen, d, d2, d3, d4, d5]
  show _ = (([.dat (.val ((zde (zah (runQ false room nur L w00).out)).getD (.string ByteArray.empty))), .dat (B (runQ false room nur L w00).full), .dat (B true)], [], []) : Res)
  rw [zh4]; rfl⟩)
end Go.Den
namespace Go.Den
open Go
set_option linter.unusedVariables false
set_option maxRecDepth 100000
theorem op_in {d : Dat} (h : WT cfg.ty 74 d) : ∃ x : Op3, d = x.d ∧ In64 x.a := by
 obtain ⟨cs, rfl, hl, hx⟩ := zpw h (i := ⟨.struct, 3, 24, [(0, 3), (1, 3), (2, 3)], [.dat (.val (.int .i64 0)), .dat (.val (.int .i64 0)), .dat (.val (.int .i64 0))]⟩) (by kernel_rfl) rfl
 match cs, hl, hx with
 | [k, a, b], _, hx =>
   obtain ⟨k, rfl, _⟩ := zia (hx 0 (0, 3) k rfl rfl)
   obtain ⟨a, rfl, ha⟩ := zia (hx 1 (1, 3) a rfl rfl)
   obtain ⟨b, rfl, _⟩ := zia (hx 2 (2, 3) b rfl rfl)
   exact ⟨⟨k, a, b⟩, rfl, ha⟩
theorem zpr {d : Dat} (h : WT cfg.ty 35 d) : ∃ L : List Op3, d = .lst false (OD L) ∧ L.length ≤ 9223372036854775807 ∧ ∀ x ∈ L, In64 x.a := by
 obtain ⟨es, rfl, hl, hx⟩ := zp5 h (i := ⟨.slice 74, 1, 24, [], [.own 74 []]⟩) (by kernel_rfl) rfl
 have : ∀ es : List Dat, (∀ x ∈ es, WT cfg.ty 74 x) → ∃ zs : List Op3, es = OD zs ∧ ∀ z ∈ zs, In64 z.a := by
  intro es
  induction es with
  | nil => intro _; exact ⟨[], rfl, fun z hz => by cases hz⟩
  | cons d es ih =>
    intro h
    obtain ⟨n, rfl, hn⟩ := op_in (h d (by simp))
    obtain ⟨zs, rfl, hzs⟩ := ih fun y hy => h y (List.mem_cons_of_mem _ hy)
    exact ⟨n :: zs, rfl, fun z hz => by exact (List.mem_cons.1 hz).elim (fun e => e ▸ hn) (hzs z)⟩
 obtain ⟨zs, rfl, hzs⟩ := this es hx
 rw [List.length_map] at hl
 exact ⟨zs, rfl, hl, hzs⟩
theorem znp {z : Int} {n : Nat} (hz : z = zdA 1048576 n) (h : decide (z < 0) = false) : n ≤ 1048576 := by
 have := of_decide_eq_false h
 rw [hz] at this
 rcases zkE 1048576 n with ⟨h1, _⟩ | ⟨_, h2⟩
 · rw [h1] at this; omega
 · omega
end Go.Den
namespace Go.Den
open Go
set_option linter.unusedVariables false
set_option maxRecDepth 100000
theorem fnExactPlayHeap_den : ∀ (d0 d1 d2 : Dat), WT cfg.ty 35 d0 → WT cfg.ty 3 d1 → WT cfg.ty 3 d2 → ∃ k, den cfg k 7 [.dat d0, .dat d1, .dat d2] [] [] = some ([.dat (.val (.bool true))], [], []) := by
 intro d0 d1 d2 w0 w1 w2
 obtain ⟨L, rfl, hl, ha⟩ := zpr w0
 obtain ⟨room, rfl, _⟩ := zia w1
 obtain ⟨nur, rfl, _⟩ := zia w2
 refine ⟨1100001, zaY Go.Proofs.Tryd.f7 1100000 (by kernel_rfl) (by kernel_rfl) (fun kk hkk => ?_) (by kernel_rfl) 1100001 (Nat.le_refl _)⟩
 have h16 := zp7 false (OD L) (by simpa using hl) kk (by omega)
 rw [List.length_map] at h16
 have hle := fun d => znp (z := zdA 1048576 L.length) (n := L.length) rfl d
 have h18 := fun h => zm9 false L h kk (by omega)
 have h21 := zlF true L room nur ha kk (by omega)
 have h22 := zlH true L room nur ha kk (by omega)
 have h20 := fun h => znr L true true h kk (by omega)
 generalize (zfa L room nur).1 = s at *
 generalize (zfa L room nur).2.1 = g at *
 generalize (zfa L room nur).2.2 = g2 at *
 generalize zdA 1048576 L.length = z at *
 exact ziH kk _ room nur z (OD L) s g g2 (OD L) s g g2 (OD L) true (fun d => ⟨h16, rfl⟩) (fun d d2 => by simp at d2) (fun d d2 d3 => by simp at d3) (fun d d2 d3 d4 => by simp at d4) (fun d d2 d3 d4 d5 => by cases d5) (fun d d2 d3 d4 d5 => ⟨h16, h18 (hle d), h21, h18 (hle d), h22, h18 (hle d), h20 (hle d), rfl⟩)
end Go.Den
namespace Go.Proofs.YtcmcfebihbmmeaaDoor.fnExactPlayHeap
open Go.ChangeShapes Go.WideShapes Go.ChangeAt Go.RowKit Go.Den
set_option linter.unusedVariables false
theorem own : ownKnob Tryd.prog.godebug = none := by kernel_rfl
theorem zjy : laidOutB Tryd.prog = true := by kernel_rfl
theorem body : (Tryd.f7.body).isSome = true := by kernel_rfl
theorem fnThere : cfg.fn 7 = some Tryd.f7 := by kernel_rfl
theorem znT : zcC cfg.ty 8 3 = true := by kernel_rfl
theorem zoo : zcC cfg.ty 8 35 = true := by kernel_rfl
noncomputable def low : Nat := (World.holding Tryd.prog default ⟨#[], #[], []⟩).heap.size
def setG (h : Array Obj) (g : Nat) (c : Array Value) : Array Obj := h.modify g fun
 | .cells _ t frozen => .cells c t frozen
 | o => o
def vals (d : DataW Unit) : Array Value := match d with
 | .agg l => (l.map fun | .lit (.int k n) => Value.int k n | _ => .nilIface).toArray
 | _ => #[]
noncomputable def zit (os : Os) : World :=
 let w0 := World.holding Tryd.prog os ⟨#[.cells #[.string ⟨#[118, 97, 108, 117, 101, 32, 111, 117, 116, 32, 111, 102, 32, 114, 97, 110, 103, 101]⟩] 187, .cells #[.string ⟨#[105, 110, 118, 97, 108, 105, 100, 32, 115, 121, 110, 116, 97, 120]⟩] 187], #[], []⟩
 { w0 with heap := setG (setG (setG (setG (setG (w0.heap) 3 (vals Rows.laid_math_bits_deBruijn32tab)) 4 (vals Rows.laid_math_bits_deBruijn64tab)) 0 (vals Rows.laid_internal_strconv_uint64pow10)) 2 #[.iface 185 (.pointer (some ⟨low + 0, 0, none⟩))]) 1 #[.iface 185 (.pointer (some ⟨low + 1, 0, none⟩))] }
theorem znh (os : Os) (args : Array Value) : laidMetH Tryd.prog Rows.fnExactPlayHeapRow.laid ((zit os).forCall (fun _ _ => 0) ⟨#[], args, []⟩).memory :=
 laidMetH_of_parts (laidMet_of_run (ps := (List.range 32).map (MemPlace.cell 3 ·) ++ (List.range 64).map (MemPlace.cell 4 ·) ++ (List.range 20).map (MemPlace.cell 0 ·) ++ [.cell 2 0, .cell (low + 0) 0] ++ [.cell 1 0, .cell (low + 1) 0]) 8 (by kernel_rfl) (by kernel_rfl) (by kernel_rfl)) (by kernel_rfl)
set_option maxRecDepth 100000 in
theorem zn0 (os : Os) (started : os.Started) (H : Type) (enc : TypeId × Value → H) :
 ReturnsInHanded {} Tryd.checked os 7 .any (fun w args => (Rows.fnExactPlayHeapSpec.pre enc Tryd.prog Tryd.f7 Rows.fnExactPlayHeapRow.domain false w args ∧ laidMetH Tryd.prog Rows.fnExactPlayHeapRow.laid w) ∧ sizedMet enc Tryd.prog Tryd.f7 (OpenSpec.ofChange Rows.fnExactPlayHeapSpec) false w args) (Rows.fnExactPlayHeapSpec.post enc Tryd.prog Tryd.f7 false true false false) := by
 refine returnsInHanded_of_change_and (C := Tryd.checked) (X := fun w _ => laidMetH Tryd.prog Rows.fnExactPlayHeapRow.laid w) (fun _ _ _ hh h => h.of_heap hh) own started (by kernel_rfl) Tryd.func7
  (ChangeSpec.witness_at (enc := enc) (C := Tryd.checked) (os := os) (X := fun w _ => laidMetH Tryd.prog Rows.fnExactPlayHeapRow.laid w) false (zit os) #[.slice none 0 0, .int .i64 0, .int .i64 0] 8 rfl (by kernel_rfl) (by kernel_rfl) (by kernel_rfl) (by kernel_rfl) (by kernel_rfl) (znh os _)) ?_
 intro W base args ds gs before hval0 hW hcnd _ hL _
 have hTab : Lib.TabIs Tryd.prog W "internal/strconv.uint64pow10" .u64 Lib.pow10Tab := Lib.tabIs_of_head (g := 0) (by kernel_rfl) (t := 162) (by kernel_rfl) (e := 90) (n := 20) (by kernel_rfl) (by kernel_rfl) (by kernel_rfl) (by kernel_rfl) (laidMet.tail (laidMet.tail (show laidMet Tryd.prog Rows.fnExactPlayHeapRow.laid W from hL)))
 obtain ⟨pErr, hErr⟩ := zpu (laidMet.tail (laidMet.tail (laidMet.tail (laidMet.tail (show laidMet Tryd.prog Rows.fnExactPlayHeapRow.laid W from hL)))))
 have hval : ∀ (j : Nat) t v, Tryd.f7.params[j]? = some t → args[j]? = some v → Value.okWide Tryd.prog W .any base t v := hval0
 have hW' := hW
 obtain ⟨p, q, hA0, hV, rfl, hfz, hnd⟩ := hW
 have hA : DataW.TrodAll enc Tryd.prog W 0 (fun _ => true) true Tryd.f7.params.toList args.toList ds p := hA0
 rw [Tryd.params7] at hA hval
 obtain ⟨v0, vs0, d0, ds0, p0, q0, hargs, rfl, rfl, h0, r0⟩ := trodAll_cons hA
 obtain ⟨v1, vs1, d1, ds1, p1, q1, rfl, rfl, rfl, h1, r1⟩ := trodAll_cons r0
 obtain ⟨v2, vs2, d2, ds2, p2, q2, rfl, rfl, rfl, h2, r2⟩ := trodAll_cons r1
 obtain ⟨rfl, rfl, rfl⟩ := trodAll_nil r2
 obtain rfl : args = #[v0, v1, v2] := by cases args; simp_all
 obtain ⟨rfl, rfl⟩ := trodVars_none hV
 have k0 := h0
 have lt0 : ∀ x ∈ p0, x.block < W.heap.size := by obtain ⟨m, hm⟩ := k0; exact DataW.trod_lt m _ _ _ hm
 obtain ⟨e0, cv0, R0, V0, T0⟩ := ziR zgL zoo (hval 0 35 v0 rfl rfl) h0
 have k1 := h1
 have lt1 : ∀ x ∈ p1, x.block < W.heap.size := by obtain ⟨m, hm⟩ := k1; exact DataW.trod_lt m _ _ _ hm
 obtain ⟨e1, cv1, R1, V1, T1⟩ := ziR zgL znT (hval 1 3 v1 rfl rfl) h1
 have k2 := h2
 have lt2 : ∀ x ∈ p2, x.block < W.heap.size := by obtain ⟨m, hm⟩ := k2; exact DataW.trod_lt m _ _ _ hm
 obtain ⟨e2, cv2, R2, V2, T2⟩ := ziR zgL znT (hval 2 3 v2 rfl rfl) h2
 clear hA0 hval0
 have hden := fnExactPlayHeap_den e0 e1 e2 T0 T1 T2
 refine (zmb (P := Tryd.prog) (C := cfg) (f := 7) (fn := Tryd.f7) (vals := #[v0, v1, v2]) (ds := [e0, e1, e2]) (W := W) (b := true) (B := zbD Tryd.prog W "internal/strconv.uint64pow10" "strconv.ErrSyntax") (znl (zpl hTab hErr)).out (zob fnThere) body rfl (fun j d v hj hv => ?_) (fun g o h => zmt h) hden).mono fun e W' hh => ?_
 · match j, hj, hv with
   | 0, hj, hv => cases hj; cases hv; exact ⟨cv0, R0, V0⟩
   | 1, hj, hv => cases hj; cases hv; exact ⟨cv1, R1, V1⟩
   | 2, hj, hv => cases hj; cases hv; exact ⟨cv2, R2, V2⟩
   | j + 3, hj, hv => simp at hj
 · obtain ⟨he, bel⟩ := hh
   subst he
   exact ⟨_, rfl, _, _, _, [], _, [], hW', trodAll_mk1 (shut_bool Tryd.underlying4 _), (trodAll_cons_mk (Below.trod zjy (by kernel_rfl) (of_decide_eq_true (by kernel_rfl)) k0 bel lt0) (trodAll_cons_mk (Below.trod zjy (by kernel_rfl) (of_decide_eq_true (by kernel_rfl)) k1 bel lt1) (trodAll_cons_mk (Below.trod zjy (by kernel_rfl) (of_decide_eq_true (by kernel_rfl)) k2 bel lt2) trodAll_mk0))), rfl, bel.frame _, fun h => by cases h⟩
theorem over : Rows.fnExactPlayHeapRow.holds Tryd.pinned (OpenSpec.ofChange Rows.fnExactPlayHeapSpec) :=
 OpenClaim.holds_of_wide 7 Tryd.f7 rfl rfl rfl rfl rfl rfl rfl ⟨rfl, rfl, rfl, rfl, rfl⟩ rfl rfl rfl rfl rfl (by kernel_rfl) Tryd.func7 (by kernel_rfl)
  (of_decide_eq_true (by kernel_rfl)) (by unfold Func.isWrapper; first | (rw [if_pos (by decide +kernel)]; kernel_rfl) | (rw [if_neg (by decide +kernel)]; exact ⟨rfl, rfl⟩))
  (fun os started H enc _ => zn0 os started H enc)
theorem proved : Rows.FnExactPlayHeapSaid := over
end Go.Proofs.YtcmcfebihbmmeaaDoor.fnExactPlayHeap
namespace Go.Proofs.YtcmcfebihbmmeaaDoor
theorem fnExactPlayHeap_holds : Rows.FnExactPlayHeapSaid := fnExactPlayHeap.proved
end Go.Proofs.YtcmcfebihbmmeaaDoor
namespace Go.Proofs.YtcmcfebihbmmeaaDoor
open Go
theorem fnExactPlayHeapCard_holds : Rows.FnExactPlayHeapCardSaid :=
 Claim7.holds_tied_plain_at .later [] [.data, .data, .data, .sentinel, .sentinel] true (true, "6ff86e34f5ef3fa93c68ab0da54ea809c76b7496032f1ace8724b71ef3b8924e") true
  fnExactPlayHeap_holds (fun _ h => by cases h) (by kernel_rfl) (fun _ h => by cases h) fnExactPlayHeap_row_tie rfl ⟨rfl, rfl⟩ (by kernel_rfl) rfl
  (fun f fn hf hfn => by
   obtain rfl : f = 7 := Option.some.inj ((show Tryd.prog.funcNamed Rows.fnExactPlayHeapRow.func = some 7 by kernel_rfl).symm.trans hf) |>.symm
   obtain rfl : fn = Tryd.f7 := (Option.some.inj (Tryd.func7.symm.trans hfn)).symm
   exact ⟨by kernel_rfl, fun j t ht => by
    rw [Tryd.params7] at ht
    match j, ht with
    | 0, ht => cases ht; exact (show Tryd.prog.wantsStandIn 35 = false by kernel_rfl)
    | 1, ht => cases ht; exact (show Tryd.prog.wantsStandIn 3 = false by kernel_rfl)
    | 2, ht => cases ht; exact (show Tryd.prog.wantsStandIn 3 = false by kernel_rfl)
    | j + 3, ht => simp at ht⟩)
  (by kernel_rfl)
end Go.Proofs.YtcmcfebihbmmeaaDoor
