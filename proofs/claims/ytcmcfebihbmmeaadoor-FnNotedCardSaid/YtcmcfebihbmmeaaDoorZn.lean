/- Merged out of: EG EH EI EJ EK EL UC UE UF SA YFnExactShowDeep UG LFnNoted LFnNotedCard (prune.py, a program of this work's). -/
import Derived.Test.YtcmcfebihbmmeaaDoorZm8
import Derived.Test.YtcmcfebihbmmeaaDoorZm7
import Derived.Test.YtcmcfebihbmmeaaDoorZm6
import Derived.KernelRfl
import Derived.LaidHandle
import Derived.Handed
import Derived.Stop.LaidErr
import Derived.Lib.LaidTab
import Derived.Test.YtcmcfebihbmmeaaDoorRows
import Derived.WalkKit
import Derived.ProofKit
import Derived.OpenShut
import Derived.ShutString
import Derived.ChangeOld
import Derived.Below
import Derived.Test.YtcmcfebihbmmeaaDoorCards
import Derived.Test.YtcmcfebihbmmeaaDoorTie
import Derived.SevenTiedAt
set_option linter.unusedVariables false
set_option linter.unusedSimpArgs false
set_option linter.unnecessarySimpa false
namespace Go.Den
open Go.Proofs
open Go
set_option linter.unusedVariables false
set_option maxRecDepth 100000
abbrev HO (h : Hp) : D := .seq false [.dat (I h.o), .own 97 (CD h.cs), .own 3 (ID h.rs), .own 3 (ID h.ns)]
theorem zes {α : Type} (f : α → Dat) (hf : ∀ x, (f x).clean = true) : ∀ l : List α, Dat.cleans (l.map f) = true
 | [] => rfl
 | x :: l => by
   show ((f x).clean && Dat.cleans (l.map f)) = true
   rw [hf x, zes f hf l]; rfl
theorem zkU (cs : List Cl) : Dat.cleans (CD cs) = true := zes _ (fun _ => rfl) cs
theorem zdV (zs : List Int) : Dat.cleans (ID zs) = true := zes _ (fun _ => rfl) zs
theorem za5 (h : Hp) : D.cleans [HO h] = true := by
 show (((true && (Dat.cleans (CD h.cs) && (Dat.cleans (ID h.rs) && (Dat.cleans (ID h.ns) && true)))) : Bool) && true) = true
 rw [zkU, zdV, zdV]; rfl
theorem zfK {ks : List Bool} {i : Nat} (h : i < ks.length) : ((0 ≤ (i : Int) ∧ (i : Int) < ((BD ks).length : Int)) ∧ (BD ks)[((i : Int)).toNat]? = some (B (ks.getD i false))) := by
 have := ziK (ks := ks) (i := (i : Int)) (by omega) (by omega)
 rw [show ((i : Int)).toNat = i from Int.toNat_natCast i] at this
 rw [Int.toNat_natCast]
 exact this
theorem zoZ {zs : List Int} {i : Nat} (h : i < zs.length) : ((0 ≤ (i : Int) ∧ (i : Int) < ((ID zs).length : Int)) ∧ (ID zs)[((i : Int)).toNat]? = some (I (zs.getD i 0))) := by
 obtain ⟨x, hx⟩ := zaU h
 rw [gd hx]
 exact zdI hx
theorem zk4 {m : List Bool} {n : Nat} {t : List Int} (h : Tb m n t) (hm : m.length = n) {j : Int} (h0 : 0 ≤ j) (hk : K m j) : (0 ≤ j ∧ j < ((ID t).length : Int)) ∧ (ID t)[j.toNat]? = some (I (cnt m j)) := by
 obtain ⟨h1, h2⟩ := h.get hm h0 hk
 exact ⟨by simpa using h1, gm (f := (I ·)) h2⟩
def TbP (m : List Bool) (n i : Nat) (t : List Int) : Prop := t.length = n ∧ ∀ j : Nat, j < i → K m (j : Int) → t.getD j 0 = cnt m (j : Int)
theorem TbP.set {m : List Bool} {n i : Nat} {t : List Int} (h : TbP m n i t) (hi : i < n) : TbP m n (i + 1) (t.set i (cnt m (i : Int))) := by
 refine ⟨by rw [List.length_set]; exact h.1, fun j hj hk => ?_⟩
 by_cases e : j = i
 · subst e
   rw [List.getD_eq_getElem?_getD, List.getElem?_set_self (by have := h.1; omega)]
   rfl
 · rw [List.getD_eq_getElem?_getD, List.getElem?_set_ne (by omega), ← List.getD_eq_getElem?_getD]
   exact h.2 j (by omega) hk
theorem TbP.skip {m : List Bool} {n i : Nat} {t : List Int} (h : TbP m n i t) (hk : ¬ K m (i : Int)) : TbP m n (i + 1) t :=
 ⟨h.1, fun j hj hkj => h.2 j (by
  by_cases e : j = i
  · subst e; exact absurd hkj hk
  · omega) hkj⟩
theorem TbP.done {m : List Bool} {n : Nat} {t : List Int} (h : TbP m n n t) (hm : m.length = n) : Tb m n t :=
 ⟨h.1, fun j hk => h.2 j (by have := K_lt (Int.natCast_nonneg j) hk; omega) hk⟩
theorem zkH {m : List Bool} {x : Cl} (h : x.l = false) : Dat.agg [B x.l, I x.n, I (cnt m x.a), I (cnt m x.b)] = (mvC m x).d := by
 unfold mvC
 rw [if_neg (by rw [h]; simp)]
theorem zkc {m : List Bool} {x : Cl} (h : x.l = true) : Dat.agg [B x.l, I x.n, I x.a, I x.b] = (mvC m x).d := by
 unfold mvC
 rw [if_pos h]
theorem zhp {m : List Bool} {c : List Cl} {i : Nat} {x : Cl} (hm : c.length = m.length) (hx : c[i]? = some x) (hb : m[i]? = some true) : CD (mvCs m (c.take i) (m.take i)) ++ [(mvC m x).d] = CD (mvCs m (c.take (i + 1)) (m.take (i + 1))) := by
 rw [ziO m c m i x true hm hx hb]
 simp [CD]
theorem zl7 {m : List Bool} {c : List Cl} {i : Nat} {x : Cl} (hm : c.length = m.length) (hx : c[i]? = some x) (hb : m[i]? = some false) : CD (mvCs m (c.take i) (m.take i)) = CD (mvCs m (c.take (i + 1)) (m.take (i + 1))) := by
 rw [ziO m c m i x false hm hx hb]
 simp [CD]
theorem zl9 (m : List Bool) {rs : List Int} {i : Nat} {x : Int} (hx : rs[i]? = some x) : ID ((rs.take i).map (cnt m)) ++ [I (cnt m x)] = ID ((rs.take (i + 1)).map (cnt m)) := by
 rw [List.take_add_one, hx]
 simp [ID]
theorem zoP {m : List Bool} {c : List Cl} {i : Nat} (hm : m.length ≤ 200) : (CD (mvCs m (c.take i) (m.take i))).length + 1 ≤ 2147483648 := by
 have h1 := zj8 m (c.take i) (m.take i)
 rw [List.length_map]
 rw [List.length_take] at h1
 omega
theorem getM {ks : List Bool} {i : Nat} (h : i < ks.length) : ks[i]? = some (ks.getD i false) := by
 rw [List.getD_eq_getElem?_getD, List.getElem?_eq_getElem h]; rfl
theorem K_nat {ks : List Bool} {i : Nat} : K ks (i : Int) ↔ ks.getD i false = true := by unfold K; rw [Int.toNat_natCast]
theorem zku (b kb : Bool) (h : Hp) (g : Hg h) (m : List Bool) (hm : m.length = h.cs.length) (hsh : Shut m h.cs) (hr : ∀ x ∈ h.rs, K m x) : EvN 1000 122 [.dat (YD b h.o h.cs h.rs h.ns), .dat (.lst kb (BD m))] [] [] ([HO (mvH m h)], [], []) := by
 refine zaq Tryd.f122 999 (by kernel_rfl) (by kernel_rfl) fun kk hkk => ?_
 have hcl := g.clen
 have hrl := g.rlen
 have hlm : (List.map Cl.d h.cs).length = h.cs.length := by simp
 have hlc : (CD h.cs).length = h.cs.length := by simp
 have hlb : (BD m).length = m.length := by simp
 have hlr : (ID h.rs).length = h.rs.length := by simp
 obtain ⟨t, ht, la⟩ := zbn (kk := kk) (f := 122) (fn := Tryd.f122) (r := 4) (x := .exit 0) (fun i (t : List Int) => zg3 b h.o (CD h.cs) (ID h.rs) (ID h.ns) kb (BD m) (ID t) (cnt m (i : Int)) (i : Int))
  (fun t => Nm [1, 2, 4, 5, 6] [.dat (.lst kb (BD m)), .ptr (.loc 2) 0, .ptr (.loc 4) 0, .own 3 (ID t), .dat (I (cnt m (m.length : Int)))] [none, Yb b h.o (CD h.cs) (ID h.rs) (ID h.ns), some (Yo 0 [] [] []), none, none] [] [])
  (TbP m m.length) m.length (by omega) (List.replicate m.length 0) ⟨by simp, fun j hj => by omega⟩
  (fun i t hi hP => by
   have hb := zfK hi
   have ht := hP.1
   have hti := zoZ (zs := t) (i := i) (by omega)
   have hle := zj7 m i
   cases hk : m.getD i false with
   | true =>
     rw [hk] at hb
     refine ⟨_, hP.set (by omega), fun q s K hs hn => zi8 kk q b h.o _ _ _ kb _ _ _ i true (t.getD i 0) hs (fun _ _ => ⟨hb, hti.1, hti.2, fun s' hs' => hn s' ?_⟩) (fun _ d => by cases d) (fun d => absurd (of_decide_eq_false d) (by omega))⟩
     rw [hs', wi i (by omega), Int.toNat_natCast, zl3, za6 (by omega), ← zko m i hi (K_nat.2 hk)]
     rfl
   | false =>
     rw [hk] at hb
     have hnk : ¬ K m (i : Int) := fun h => by rw [K_nat, hk] at h; cases h
     refine ⟨_, hP.skip hnk, fun q s K hs hn => zi8 kk q b h.o _ _ _ kb _ _ _ i false 0 hs (fun _ d => by cases d) (fun _ _ => ⟨hb, fun s' hs' => hn s' ?_⟩) (fun d => absurd (of_decide_eq_false d) (by omega))⟩
     rw [hs', wi i (by omega), ← zmY m i hi hnk]
     rfl)
  (fun t _ q s K hs hK => zi8 kk q b h.o _ _ _ kb _ _ _ _ true 0 hs (fun d => absurd (of_decide_eq_true d) (by omega)) (fun d => absurd (of_decide_eq_true d) (by omega)) (fun _ => hK))
  (s0 := zg3 b h.o (CD h.cs) (ID h.rs) (ID h.ns) kb (BD m) (List.replicate (CD h.cs).length (I 0)) 0 0) (by rw [show (CD h.cs).length = m.length by omega, zoS]; simp [zkM])
 have htb : Tb m m.length t := ht.done rfl
 have lb := zaN (kk := kk) (f := 122) (fn := Tryd.f122) (r := 12) (x := .exit 2) (s' := Nm [2, 4, 5, 9] [.ptr (.loc 2) 0, .ptr (.loc 4) 0, .own 3 (ID t), .ptr (.loc 9) 0] [Yb b h.o (CD h.cs) (ID h.rs) (ID h.ns), some (Yo 0 [] [] []), none, some (Yo (cnt m m.length) (CD (mvCs m h.cs m)) [] [])] [] [])
  (fun i => zg2 b h.o (CD h.cs) (ID h.rs) (ID h.ns) kb (BD m) (ID t) (cnt m m.length) (CD (mvCs m (h.cs.take i) (m.take i))) i) h.cs.length (by omega)
  (fun i hi q s K hs hn => by
   obtain ⟨x, hx⟩ := zaU hi
   have hxd := ih (gm (f := Cl.d) hx)
   have hb := zfK (ks := m) (i := i) (by omega)
   have hmi := getM (ks := m) (i := i) (by omega)
   have hlim := zoP (m := m) (c := h.cs) (i := i) (by omega)
   have hcx : cg h.cs (i : Int) = x := zkl (by rw [Int.toNat_natCast]; exact hx)
   cases hk : m.getD i false with
   | false =>
     rw [hk] at hb hmi
     refine zhC kk q b h.o _ _ _ kb _ _ _ _ i x false 0 0 hs (fun _ _ => ⟨hxd, hb, fun s' hs' => hn s' ?_⟩) (fun _ d => by cases d) (fun _ d => by cases d) (fun d => absurd (of_decide_eq_false d) (by omega))
     rw [hs', wi i (by omega), ← zl7 hm.symm hx hmi]
     rfl
   | true =>
     rw [hk] at hb hmi
     cases hl : x.l with
     | true =>
       refine zhC kk q b h.o _ _ _ kb _ _ _ _ i x true 0 0 hs (fun _ d => by cases d) (fun _ _ d => by rw [hl] at d; cases d) (fun _ _ _ => ⟨hxd, hb, hlim, fun s' hs' => hn s' ?_⟩) (fun d => absurd (of_decide_eq_false d) (by omega))
       rw [hs', wi i (by omega), zkc hl, zhp hm.symm hx hmi]
       rfl
     | false =>
       obtain ⟨⟨a0, a1⟩, b0, b1⟩ := hsh i (K_nat.2 hk) (by rw [hcx]; exact hl)
       rw [hcx] at a0 a1 b0 b1
       have ta := zk4 htb rfl a0 a1
       have tb := zk4 htb rfl b0 b1
       refine zhC kk q b h.o _ _ _ kb _ _ _ _ i x true (cnt m x.a) (cnt m x.b) hs (fun _ d => by cases d) (fun _ _ _ => ⟨hxd, hb, ta.1, ta.2, tb.1, tb.2, hlim, fun s' hs' => hn s' ?_⟩) (fun _ _ d => by rw [hl] at d; cases d) (fun d => absurd (of_decide_eq_false d) (by omega))
       rw [hs', wi i (by omega), zkH hl, zhp hm.symm hx hmi]
       rfl)
  (fun q s K hs hK => zhC kk q b h.o _ _ _ kb _ _ _ _ _ c0 true 0 0 hs (fun d => absurd (of_decide_eq_true d) (by omega)) (fun d => absurd (of_decide_eq_true d) (by omega)) (fun d => absurd (of_decide_eq_true d) (by omega)) (fun _ => by
   rw [List.take_length, show h.cs.length = m.length from hm.symm, List.take_length]; exact hK))
  (s0 := zg2 b h.o (CD h.cs) (ID h.rs) (ID h.ns) kb (BD m) (ID t) (cnt m m.length) [] 0) (by simp [mvCs])
 have lc := zaN (kk := kk) (f := 122) (fn := Tryd.f122) (r := 21) (x := .exit 4) (s' := Nm [4, 9] [.ptr (.loc 4) 0, .ptr (.loc 9) 0] [some (Yo 0 [] [] []), some (Yo (cnt m m.length) (CD (mvCs m h.cs m)) (ID (h.rs.map (cnt m))) [])] [] [])
  (fun i => zgw b h.o (CD h.cs) (ID h.rs) (ID h.ns) (ID t) (cnt m m.length) (CD (mvCs m h.cs m)) (ID ((h.rs.take i).map (cnt m))) i) h.rs.length (by omega)
  (fun i hi q s K hs hn => by
   obtain ⟨x, hx⟩ := zaU hi
   have hxm := List.mem_of_getElem? hx
   have tx := zk4 htb rfl (g.rin x hxm).1 (hr x hxm)
   refine zmG kk q b h.o _ _ _ _ _ _ _ i x (cnt m x) hs (fun _ => ⟨zdI hx, tx.1, tx.2, by simp; omega, fun s' hs' => hn s' ?_⟩) (fun d => absurd (of_decide_eq_false d) (by omega))
   rw [hs', wi i (by omega), zl9 m hx]
   rfl)
  (fun q s K hs hK => zmG kk q b h.o _ _ _ _ _ _ _ _ 0 0 hs (fun d => absurd (of_decide_eq_true d) (by omega)) (fun _ => by rw [List.take_length]; exact hK))
  (s0 := zgw b h.o (CD h.cs) (ID h.rs) (ID h.ns) (ID t) (cnt m m.length) (CD (mvCs m h.cs m)) [] 0) (by simp)
 exact moveS kk b h.o _ _ _ kb _ (ID t) (cnt m m.length) (CD (mvCs m h.cs m)) (ID (h.rs.map (cnt m))) ⟨⟨by omega, by omega, by omega⟩, la, lb, lc, rfl⟩
theorem zpi (b kb rb : Bool) (h : Hp) (g : Hg h) (m : List Bool) (hm : m.length = h.cs.length) (hsh : Shut m h.cs) (hr : ∀ x ∈ h.rs, K m x) : EvN 1000 118 [.dat (.lst b (CD h.cs)), .dat (.lst rb (ID h.rs)), .dat (.lst kb (BD m))] [] [] ([.own 97 (CD (mvCs m h.cs m)), .own 3 (ID (h.rs.map (cnt m)))], [], []) := by
 refine zaq Tryd.f118 999 (by kernel_rfl) (by kernel_rfl) fun kk hkk => ?_
 have hcl := g.clen
 have hrl := g.rlen
 have hlm : (List.map Cl.d h.cs).length = h.cs.length := by simp
 have hlc : (CD h.cs).length = h.cs.length := by simp
 have hlb : (BD m).length = m.length := by simp
 have hlr : (ID h.rs).length = h.rs.length := by simp
 obtain ⟨t, ht, la⟩ := zbn (kk := kk) (f := 118) (fn := Tryd.f118) (r := 4) (x := .exit 0) (fun i (t : List Int) => zgq b kb rb (CD h.cs) (ID h.rs) (BD m) (ID t) (cnt m (i : Int)) (i : Int))
  (fun t => Nm [0, 1, 2, 8, 9, 10] [.dat (.lst b (CD h.cs)), .dat (.lst rb (ID h.rs)), .dat (.lst kb (BD m)), .own 3 (ID t), .own 97 [], .own 3 []] [none, none, none, none, none, none] [] [])
  (TbP m m.length) m.length (by omega) (List.replicate m.length 0) ⟨by simp, fun j hj => by omega⟩
  (fun i t hi hP => by
   have hb := zfK hi
   have ht := hP.1
   have hti := zoZ (zs := t) (i := i) (by omega)
   have hle := zj7 m i
   cases hk : m.getD i false with
   | true =>
     rw [hk] at hb
     refine ⟨_, hP.set (by omega), fun q s K hs hn => znp kk q b kb rb _ _ _ _ _ i true (t.getD i 0) hs (fun _ _ => ⟨hb, hti.1, hti.2, fun s' hs' => hn s' ?_⟩) (fun _ d => by cases d) (fun d => absurd (of_decide_eq_false d) (by omega))⟩
     rw [hs', wi i (by omega), Int.toNat_natCast, zl3, za6 (by omega), ← zko m i hi (K_nat.2 hk)]
     rfl
   | false =>
     rw [hk] at hb
     have hnk : ¬ K m (i : Int) := fun h => by rw [K_nat, hk] at h; cases h
     refine ⟨_, hP.set (by omega), fun q s K hs hn => znp kk q b kb rb _ _ _ _ _ i false (t.getD i 0) hs (fun _ d => by cases d) (fun _ _ => ⟨hb, hti.1, hti.2, fun s' hs' => hn s' ?_⟩) (fun d => absurd (of_decide_eq_false d) (by omega))⟩
     rw [hs', wi i (by omega), Int.toNat_natCast, zl3, ← zmY m i hi hnk]
     rfl)
  (fun t _ q s K hs hK => znp kk q b kb rb _ _ _ _ _ _ true 0 hs (fun d => absurd (of_decide_eq_true d) (by omega)) (fun d => absurd (of_decide_eq_true d) (by omega)) (fun _ => hK))
  (s0 := zgq b kb rb (CD h.cs) (ID h.rs) (BD m) (List.replicate (CD h.cs).length (I 0)) 0 0) (by rw [show (CD h.cs).length = m.length by omega, zoS]; simp [zkM])
 have htb : Tb m m.length t := ht.done rfl
 have lb := zaN (kk := kk) (f := 118) (fn := Tryd.f118) (r := 11) (x := .exit 2) (s' := Nm [1, 8, 9, 10] [.dat (.lst rb (ID h.rs)), .own 3 (ID t), .own 97 (CD (mvCs m h.cs m)), .own 3 []] [none, none, none, none] [] [])
  (fun i => zgx b kb rb (CD h.cs) (ID h.rs) (BD m) (ID t) (CD (mvCs m (h.cs.take i) (m.take i))) i) h.cs.length (by omega)
  (fun i hi q s K hs hn => by
   obtain ⟨x, hx⟩ := zaU hi
   have hxd := ih (gm (f := Cl.d) hx)
   have hb := zfK (ks := m) (i := i) (by omega)
   have hmi := getM (ks := m) (i := i) (by omega)
   have hlim := zoP (m := m) (c := h.cs) (i := i) (by omega)
   have hcx : cg h.cs (i : Int) = x := zkl (by rw [Int.toNat_natCast]; exact hx)
   cases hk : m.getD i false with
   | false =>
     rw [hk] at hb hmi
     refine zj2 kk q b kb rb _ _ _ _ _ i x false 0 0 hs (fun _ _ => ⟨hxd, hb, fun s' hs' => hn s' ?_⟩) (fun _ d => by cases d) (fun _ d => by cases d) (fun d => absurd (of_decide_eq_false d) (by omega))
     rw [hs', wi i (by omega), ← zl7 hm.symm hx hmi]
     rfl
   | true =>
     rw [hk] at hb hmi
     cases hl : x.l with
     | true =>
       refine zj2 kk q b kb rb _ _ _ _ _ i x true 0 0 hs (fun _ d => by cases d) (fun _ _ d => by rw [hl] at d; cases d) (fun _ _ _ => ⟨hxd, hb, hlim, fun s' hs' => hn s' ?_⟩) (fun d => absurd (of_decide_eq_false d) (by omega))
       rw [hs', wi i (by omega), zkc hl, zhp hm.symm hx hmi]
       rfl
     | false =>
       obtain ⟨⟨a0, a1⟩, b0, b1⟩ := hsh i (K_nat.2 hk) (by rw [hcx]; exact hl)
       rw [hcx] at a0 a1 b0 b1
       have ta := zk4 htb rfl a0 a1
       have tb := zk4 htb rfl b0 b1
       refine zj2 kk q b kb rb _ _ _ _ _ i x true (cnt m x.a) (cnt m x.b) hs (fun _ d => by cases d) (fun _ _ _ => ⟨hxd, hb, ta.1, ta.2, tb.1, tb.2, hlim, fun s' hs' => hn s' ?_⟩) (fun _ _ d => by rw [hl] at d; cases d) (fun d => absurd (of_decide_eq_false d) (by omega))
       rw [hs', wi i (by omega), zkH hl, zhp hm.symm hx hmi]
       rfl)
  (fun q s K hs hK => zj2 kk q b kb rb _ _ _ _ _ _ c0 true 0 0 hs (fun d => absurd (of_decide_eq_true d) (by omega)) (fun d => absurd (of_decide_eq_true d) (by omega)) (fun d => absurd (of_decide_eq_true d) (by omega)) (fun _ => by
   rw [List.take_length, show h.cs.length = m.length from hm.symm, List.take_length]; exact hK))
  (s0 := zgx b kb rb (CD h.cs) (ID h.rs) (BD m) (ID t) [] 0) (by simp [mvCs])
 have lc := zaN (kk := kk) (f := 118) (fn := Tryd.f118) (r := 19) (x := .exit 4) (s' := Nm [9, 10] [.own 97 (CD (mvCs m h.cs m)), .own 3 (ID (h.rs.map (cnt m)))] [none, none] [] [])
  (fun i => zgC rb (ID h.rs) (ID t) (CD (mvCs m h.cs m)) (ID ((h.rs.take i).map (cnt m))) i) h.rs.length (by omega)
  (fun i hi q s K hs hn => by
   obtain ⟨x, hx⟩ := zaU hi
   have hxm := List.mem_of_getElem? hx
   have tx := zk4 htb rfl (g.rin x hxm).1 (hr x hxm)
   refine zoV kk q rb _ _ _ _ i x (cnt m x) hs (fun _ => ⟨zdI hx, tx.1, tx.2, by simp; omega, fun s' hs' => hn s' ?_⟩) (fun d => absurd (of_decide_eq_false d) (by omega))
   rw [hs', wi i (by omega), zl9 m hx]
   rfl)
  (fun q s K hs hK => zoV kk q rb _ _ _ _ _ 0 0 hs (fun d => absurd (of_decide_eq_true d) (by omega)) (fun _ => by rw [List.take_length]; exact hK))
  (s0 := zgC rb (ID h.rs) (ID t) (CD (mvCs m h.cs m)) [] 0) (by simp)
 exact kept kk b kb rb _ _ _ (ID t) (CD (mvCs m h.cs m)) (ID (h.rs.map (cnt m))) (cnt m m.length) ⟨⟨by omega, by omega, by omega⟩, la, lb, lc, rfl⟩
theorem zkp (b kb : Bool) (h : Hp) (g : Hg h) (m : List Bool) (hm : m.length = h.cs.length) (hsh : Shut m h.cs) (hr : ∀ x ∈ h.rs, K m x) : EvN 1001 86 [.dat (YD b h.o h.cs h.rs h.ns), .dat (.lst kb (BD m))] [] [] ([HO (mvH m h)], [], []) := by
 refine zaq Tryd.f86 1000 (by kernel_rfl) (by kernel_rfl) fun kk hkk => ?_
 refine stayI kk b h.o _ _ _ kb _ _ _ ⟨zpi b kb b h g m hm hsh hr kk (by omega), ?_⟩
 rw [show ((List.map Cl.d (mvCs m h.cs m)).length : Int) = cnt m m.length by rw [List.length_map]; exact zhn hm]
 rfl
theorem zfk (b : Bool) (h : Hp) (g : Hg h) : EvN 1100 92 [.dat (YD b h.o h.cs h.rs h.ns)] [] [] ([HO (zaX h)], [], []) :=
 zaq Tryd.f92 1099 (by kernel_rfl) (by kernel_rfl) fun kk hkk => fullS kk b h.o _ _ _ (BD (zb0 h)) _ _ _ _ ⟨zod b h g kk (by omega), za5 (zaX h), zku b true h g (zb0 h) (zaA _ _) (zd5 g) (zdZ g) kk (by omega), rfl⟩
theorem zoz (b : Bool) (h : Hp) (g : Hg h) : EvN 3100 60 [.dat (YD b h.o h.cs h.rs h.ns)] [] [] ([HO (zaX h)], [], []) :=
 zaq Tryd.f60 3099 (by kernel_rfl) (by kernel_rfl) fun kk hkk => fullI kk b h.o _ _ _ (BD (zb0 h)) _ _ _ _ ⟨zh4 b b h.cs h.rs g.wf g.clen g.rin (by have := g.rlen; omega) kk (by omega), za5 (zaX h), zkp b true h g (zb0 h) (zaA _ _) (zd5 g) (zdZ g) kk (by omega), rfl⟩
end Go.Den
namespace Go.Den
open Go.Proofs
open Go
set_option linter.unusedVariables false
set_option maxRecDepth 100000
theorem zdz {h : Hp} (g : Hg h) {x : Int} (hx : x ∈ h.ns) : 0 ≤ x ∧ x < (h.cs.length : Int) := by
 have h1 := g.nin x hx
 have h2 := g.o1
 omega
def FillP (n : Nat) (ks : List Bool) (i : Nat) (ks' : List Bool) : Prop := ks'.length = n ∧ ∀ j : Int, 0 ≤ j → (K ks' j ↔ (K ks j ∨ j < (i : Int)))
theorem FillP.set {n : Nat} {ks ks' : List Bool} {i : Nat} (h : FillP n ks i ks') (hi : i < n) : FillP n ks (i + 1) (ks'.set i true) := by
 refine ⟨by simpa using h.1, fun j hj => ?_⟩
 have := zpz (l := ks') (i := (i : Int)) (by omega) (by have := h.1; omega) j hj
 rw [Int.toNat_natCast] at this
 rw [this, h.2 j hj]
 constructor
 · rintro (h | h | h)
   · exact .inr (by omega)
   · exact .inl h
   · exact .inr (by omega)
 · rintro (h | h)
   · exact .inr (.inl h)
   · by_cases e : j = (i : Int)
     · exact .inl e
     · exact .inr (.inr (by omega))
theorem zlF {h : Hp} (g : Hg h) {ks kc : List Bool} (hk : ∀ i, 0 ≤ i → (K ks i ∨ i < h.o ↔ i < (h.cs.length : Int) ∧ (i < h.o ∨ Rch h.cs (fun i => ¬ i < h.o) (Src h) i))) (hf : FillP h.cs.length ks h.o.toNat kc) : kc = zdr h := by
 refine zo1 (by rw [hf.1, zdr, zaA]) fun i hi => ?_
 have e : ((h.o.toNat : Nat) : Int) = h.o := by have := g.o0; omega
 rw [hf.2 i hi, e, hk i hi]
 unfold zdr
 rw [zbu hi]
theorem zfU (b : Bool) (h : Hp) (g : Hg h) : EvN 1100 93 [.dat (YD b h.o h.cs h.rs h.ns)] [] [] ([HO (zap h)], [], []) := by
 refine zaq Tryd.f93 1099 (by kernel_rfl) (by kernel_rfl) fun kk hkk => ?_
 have hcl := g.clen
 have hrl := g.rlen
 have hnl := zdp g
 have ho0 := g.o0
 have ho1 := g.o1
 have hlm : (List.map Cl.d h.cs).length = h.cs.length := by simp
 have hlc : (CD h.cs).length = h.cs.length := by simp
 have hlr : (ID h.rs).length = h.rs.length := by simp
 have hln : (ID h.ns).length = h.ns.length := by simp
 have hsrc : ∀ i, Src h i → 0 ≤ i ∧ i < (h.cs.length : Int) := by
  rintro i (hi | ⟨x, hx, hf, hi⟩)
  · exact g.rin i hi
  · obtain ⟨a, b⟩ := g.wf x (zdz g hx).1 (zdz g hx).2 hf
    rcases hi with rfl | rfl
    · exact a
    · exact b
 obtain ⟨ka, ⟨ma, ta⟩, la⟩ := zbn (kk := kk) (f := 93) (fn := Tryd.f93) (r := 3) (x := .exit 0) (fun i (ks : List Bool) => zmu b h.o (CD h.cs) (ID h.rs) (ID h.ns) (BD ks) i)
  (fun ks => Nm [1, 2, 3] [.ptr (.loc 1) 0, .ptr (.loc 2) 0, .own 4 (BD ks)] [Yb b h.o (CD h.cs) (ID h.rs) (ID h.ns), some (Yo 0 [] [] []), none] [] [])
  (fun i ks => Mk h.cs (On h.o true) (Src h) (List.replicate h.cs.length false) ks ∧ ∀ x ∈ h.rs.take i, K ks x) h.rs.length (by omega) (List.replicate h.cs.length false) ⟨Mk.refl (by simp), fun x hx => by simp at hx⟩
  (fun i ks hi ⟨hm, ht⟩ => by
   obtain ⟨x, hx⟩ := zaU hi
   have hxm := List.mem_of_getElem? hx
   obtain ⟨k', e, m', t'⟩ := zfb b h g true (Src h) hm.len (g.rin x hxm) (.inl hxm)
   refine ⟨k', ⟨hm.trans g.wf m', fun y hy => ?_⟩, fun m s K hs hn => ?_⟩
   · rw [List.take_add_one, hx] at hy
     rcases List.mem_append.1 hy with hy | hy
     · exact m'.mono y (g.rin y (List.mem_of_mem_take hy)).1 (ht y hy)
     · have : y = x := by simpa using hy
       rw [this]; exact t'
   · refine zkb kk m b h.o _ _ _ _ i (BD k') x hs (fun _ => ⟨zdI hx, e kk (by omega), fun s' hs' => hn s' ?_⟩) (fun d => absurd (of_decide_eq_false d) (by omega))
     rw [hs', wi i (by omega)]
     rfl)
  (fun ks _ m s K hs hK => zkb kk m b h.o _ _ _ _ _ [] 0 hs (fun d => absurd (of_decide_eq_true d) (by omega)) (fun _ => hK)) rfl
 obtain ⟨kb, ⟨mb, tb⟩, lb⟩ := zbn (kk := kk) (f := 93) (fn := Tryd.f93) (r := 8) (x := .exit 2) (fun i (ks : List Bool) => zmf b h.o (CD h.cs) (ID h.rs) (ID h.ns) (BD ks) i)
  (fun ks => Nm [1, 2, 3] [.ptr (.loc 1) 0, .ptr (.loc 2) 0, .own 4 (BD ks)] [Yb b h.o (CD h.cs) (ID h.rs) (ID h.ns), some (Yo 0 [] [] []), none] [] [])
  (fun i ks => Mk h.cs (On h.o true) (Src h) ka ks ∧ ∀ x ∈ h.ns.take i, (cg h.cs x).l = false → K ks (cg h.cs x).a ∧ K ks (cg h.cs x).b) h.ns.length (by omega) ka ⟨Mk.refl ma.len, fun x hx => by simp at hx⟩
  (fun i ks hi ⟨hm, ht⟩ => by
   obtain ⟨x, hx⟩ := zaU hi
   have hxm := List.mem_of_getElem? hx
   obtain ⟨x0, x1⟩ := zdz g hxm
   have hc := zgh (c := h.cs) x0 x1
   cases hl : (cg h.cs x).l with
   | true =>
     refine ⟨ks, ⟨hm, fun y hy hyl => ?_⟩, fun m s K hs hn => ?_⟩
     · rw [List.take_add_one, hx] at hy
       rcases List.mem_append.1 hy with hy | hy
       · exact ht y hy hyl
       · have : y = x := by simpa using hy
         rw [this, hl] at hyl
         cases hyl
     · refine zhB kk m b h.o _ _ _ _ i [] [] x (cg h.cs x) hs (fun _ d => by rw [hl] at d; cases d) (fun _ _ => ⟨zdI hx, hc, fun s' hs' => hn s' ?_⟩) (fun d => absurd (of_decide_eq_false d) (by omega))
       rw [hs', wi i (by omega)]
       rfl
   | false =>
     obtain ⟨pa, pb⟩ := g.wf x x0 x1 hl
     obtain ⟨k1, e1, m1, t1⟩ := zfb b h g true (Src h) hm.len pa (.inr ⟨x, hxm, hl, .inl rfl⟩)
     obtain ⟨k2, e2, m2, t2⟩ := zfb b h g true (Src h) m1.len pb (.inr ⟨x, hxm, hl, .inr rfl⟩)
     refine ⟨k2, ⟨(hm.trans g.wf m1).trans g.wf m2, fun y hy hyl => ?_⟩, fun m s K hs hn => ?_⟩
     · rw [List.take_add_one, hx] at hy
       rcases List.mem_append.1 hy with hy | hy
       · have hyn := zdz g (List.mem_of_mem_take hy)
         obtain ⟨qa, qb⟩ := g.wf y hyn.1 hyn.2 hyl
         have := ht y hy hyl
         exact ⟨m2.mono _ qa.1 (m1.mono _ qa.1 this.1), m2.mono _ qb.1 (m1.mono _ qb.1 this.2)⟩
       · have : y = x := by simpa using hy
         rw [this]
         exact ⟨m2.mono _ pa.1 t1, t2⟩
     · refine zhB kk m b h.o _ _ _ _ i (BD k1) (BD k2) x (cg h.cs x) hs (fun _ _ => ⟨zdI hx, hc, e1 kk (by omega), e2 kk (by omega), fun s' hs' => hn s' ?_⟩) (fun _ d => by rw [hl] at d; cases d) (fun d => absurd (of_decide_eq_false d) (by omega))
       rw [hs', wi i (by omega)]
       rfl)
  (fun ks _ m s K hs hK => zhB kk m b h.o _ _ _ _ _ [] [] 0 c0 hs (fun d => absurd (of_decide_eq_true d) (by omega)) (fun d => absurd (of_decide_eq_true d) (by omega)) (fun _ => hK)) rfl
 obtain ⟨kc, hfill, lc⟩ := zbn (kk := kk) (f := 93) (fn := Tryd.f93) (r := 16) (x := .exit 4) (fun i (ks : List Bool) => zmO b h.o (CD h.cs) (ID h.rs) (ID h.ns) (BD ks) i)
  (fun ks => Nm [1, 2, 3] [.ptr (.loc 1) 0, .ptr (.loc 2) 0, .own 4 (BD ks)] [Yb b h.o (CD h.cs) (ID h.rs) (ID h.ns), some (Yo 0 [] [] []), none] [] [])
  (FillP h.cs.length kb) h.o.toNat (by omega) kb ⟨mb.len, fun j hj => ⟨.inl, fun h => h.elim id fun h => by simp at h; omega⟩⟩
  (fun i ks hi hP => by
   have hlen := hP.1
   have hb := zfK (ks := ks) (i := i) (by omega)
   refine ⟨_, hP.set (by omega), fun m s K hs hn => zkZ kk m b h.o _ _ _ _ i (ks.getD i false) hs (fun _ => ⟨hb.1, hb.2, fun s' hs' => hn s' ?_⟩) (fun d => absurd (of_decide_eq_false d) (by omega))⟩
   rw [hs', wi i (by omega), Int.toNat_natCast, zin]
   rfl)
  (fun ks _ m s K hs hK => zkZ kk m b h.o _ _ _ _ _ true hs (fun d => absurd (of_decide_eq_true d) (by omega)) (fun _ => hK)) rfl
 have M := ma.trans g.wf mb
 have hS : ∀ i, Src h i → 0 ≤ i ∧ i < (h.cs.length : Int) ∧ K kb i := fun i hi => by
  refine ⟨(hsrc i hi).1, (hsrc i hi).2, ?_⟩
  rcases hi with hi | ⟨x, hx, hf, hi⟩
  · exact mb.mono i (g.rin i hi).1 (ta i (by rw [List.take_length]; exact hi))
  · have := tb x (by rw [List.take_length]; exact hx) hf
    rcases hi with rfl | rfl
    · exact this.1
    · exact this.2
 have hon : ∀ i, On h.o true i ↔ ¬ i < h.o := fun i => ⟨fun f => f rfl, fun f _ => f⟩
 have hkc : kc = zdr h := zlF g (fun i hi => by
  constructor
  · rintro (hk | hlt)
    · have hr := (M.new i hi hk (zla _ _)).2
      exact ⟨by have := K_lt hi hk; have := mb.len; omega, .inr (Rch.on (fun j hj => (hon j).1 hj) hr)⟩
    · exact ⟨by omega, .inl hlt⟩
  · rintro ⟨_, hlt | hr⟩
    · exact .inr hlt
    · exact .inl (Rch.in_ g.wf hS (fun j h0 hj ho hle => (M.new j h0 hj (zla _ _)).1 ho hle) (Rch.on (fun j hj => (hon j).2 hj) hr)).2.2) hfill
 subst hkc
 exact zpS kk b h.o _ _ _ (BD ka) (BD kb) (BD (zdr h)) _ _ _ _ ⟨⟨by omega, by omega, by omega⟩, by rw [hlc, zkI]; exact la, lb, lc, za5 (zap h), zku b true h g (zdr h) (zaA _ _) (zcS g) (zcQ g) kk (by omega), rfl⟩
def kid (c : List Cl) (x : Int) : List Int := match (cg c x).l with | true => [] | false => [(cg c x).a, (cg c x).b]
theorem zho (c : List Cl) : ∀ n : List Int, (n.flatMap (kid c)).length ≤ 2 * n.length
 | [] => by simp
 | x :: n => by
   have := zho c n
   have h2 : (kid c x).length ≤ 2 := by unfold kid; split <;> simp
   simp only [List.flatMap_cons, List.length_append, List.length_cons]
   omega
theorem zl8 (b : Bool) (h : Hp) (g : Hg h) : EvN 1050100 59 [.dat (YD b h.o h.cs h.rs h.ns)] [] [] ([HO (zap h)], [], []) := by
 refine zaq Tryd.f59 1050099 (by kernel_rfl) (by kernel_rfl) fun kk hkk => ?_
 have hcl := g.clen
 have hrl := g.rlen
 have hnl := zdp g
 have ho0 := g.o0
 have ho1 := g.o1
 have hlc : (CD h.cs).length = h.cs.length := by simp
 have hlr : (ID h.rs).length = h.rs.length := by simp
 have hln : (ID h.ns).length = h.ns.length := by simp
 have la := zaN (kk := kk) (f := 59) (fn := Tryd.f59) (r := 3) (x := .exit 0) (s' := Nm [1, 2, 3] [.ptr (.loc 1) 0, .ptr (.loc 2) 0, .own 3 (ID (h.rs ++ h.ns.flatMap (kid h.cs)))] [Yb b h.o (CD h.cs) (ID h.rs) (ID h.ns), some (Yo 0 [] [] []), none] [] [])
  (fun i => zjD b h.o (CD h.cs) (ID h.rs) (ID h.ns) (ID (h.rs ++ (h.ns.take i).flatMap (kid h.cs))) i) h.ns.length (by omega)
  (fun i hi m s K hs hn => by
   obtain ⟨x, hx⟩ := zaU hi
   have hxm := List.mem_of_getElem? hx
   obtain ⟨x0, x1⟩ := zdz g hxm
   have hc := zgh (c := h.cs) x0 x1
   have hkl := zho h.cs (h.ns.take i)
   rw [List.length_take] at hkl
   cases hl : (cg h.cs x).l with
   | true =>
     refine zg9 kk m b h.o _ _ _ _ i x (cg h.cs x) hs (fun _ d => by rw [hl] at d; cases d) (fun _ _ => ⟨zdI hx, hc, fun s' hs' => hn s' ?_⟩) (fun d => absurd (of_decide_eq_false d) (by omega))
     have hk : kid h.cs x = [] := by unfold kid; rw [hl]
     rw [hs', wi i (by omega), List.take_add_one, hx]
     simp only [Option.toList_some, List.flatMap_append, List.flatMap_cons, List.flatMap_nil, hk, List.append_nil]
     rfl
   | false =>
     refine zg9 kk m b h.o _ _ _ _ i x (cg h.cs x) hs (fun _ _ => ⟨zdI hx, hc, by simp only [List.length_map, List.length_append]; omega, fun s' hs' => hn s' ?_⟩) (fun _ d => by rw [hl] at d; cases d) (fun d => absurd (of_decide_eq_false d) (by omega))
     have hk : kid h.cs x = [(cg h.cs x).a, (cg h.cs x).b] := by unfold kid; rw [hl]
     rw [hs', wi i (by omega), List.take_add_one, hx]
     simp only [Option.toList_some, List.flatMap_append, List.flatMap_cons, List.flatMap_nil, hk, List.append_nil]
     simp [zjD, ID])
  (fun m s K hs hK => zg9 kk m b h.o _ _ _ _ _ 0 c0 hs (fun d => absurd (of_decide_eq_true d) (by omega)) (fun d => absurd (of_decide_eq_true d) (by omega)) (fun _ => by rw [List.take_length]; exact hK))
  (s0 := zjD b h.o (CD h.cs) (ID h.rs) (ID h.ns) (ID h.rs) 0) (by simp)
 have hfr : ∀ x ∈ h.rs ++ h.ns.flatMap (kid h.cs), 0 ≤ x ∧ x < (h.cs.length : Int) := fun x hx => by
  rcases List.mem_append.1 hx with hx | hx
  · exact g.rin x hx
  · obtain ⟨y, hy, hx⟩ := List.mem_flatMap.1 hx
    unfold kid at hx
    split at hx
    · simp at hx
    · rename_i hf
      obtain ⟨a, b⟩ := g.wf y (zdz g hy).1 (zdz g hy).2 hf
      simp only [List.mem_cons, List.not_mem_nil, or_false] at hx
      rcases hx with rfl | rfl
      · exact a
      · exact b
 have hfl := zho h.cs h.ns
 have hreach := zmc b false h.cs (h.rs ++ h.ns.flatMap (kid h.cs)) b h.o (CD h.cs) h.rs (ID h.ns) (by omega) g.wf hcl hfr (by simp only [List.length_append]; omega)
 have hka : ∀ i, 0 ≤ i → (K (ze5 h.cs.length (Rch h.cs (fun i => h.o ≤ i ∨ i ∈ h.rs) (· ∈ h.rs ++ h.ns.flatMap (kid h.cs)))) i ↔ i < (h.cs.length : Int) ∧ Rch h.cs (fun i => h.o ≤ i ∨ i ∈ h.rs) (· ∈ h.rs ++ h.ns.flatMap (kid h.cs)) i) := fun i hi => zbu hi
 have hla := zaA h.cs.length (Rch h.cs (fun i => h.o ≤ i ∨ i ∈ h.rs) (· ∈ h.rs ++ h.ns.flatMap (kid h.cs)))
 generalize ze5 h.cs.length (Rch h.cs (fun i => h.o ≤ i ∨ i ∈ h.rs) (· ∈ h.rs ++ h.ns.flatMap (kid h.cs))) = ka at hreach hka hla
 obtain ⟨kc, hfill, lc⟩ := zbn (kk := kk) (f := 59) (fn := Tryd.f59) (r := 11) (x := .exit 2) (fun i (ks : List Bool) => zmd b h.o (CD h.cs) (ID h.rs) (ID h.ns) (BD ks) i)
  (fun ks => Nm [1, 2, 7] [.ptr (.loc 1) 0, .ptr (.loc 2) 0, .own 4 (BD ks)] [Yb b h.o (CD h.cs) (ID h.rs) (ID h.ns), some (Yo 0 [] [] []), none] [] [])
  (FillP h.cs.length ka) h.o.toNat (by omega) ka ⟨hla, fun j hj => ⟨.inl, fun h => h.elim id fun h => by simp at h; omega⟩⟩
  (fun i ks hi hP => by
   have hlen := hP.1
   have hb := zfK (ks := ks) (i := i) (by omega)
   refine ⟨_, hP.set (by omega), fun m s K hs hn => zj5 kk m b h.o _ _ _ _ i (ks.getD i false) hs (fun _ => ⟨hb.1, hb.2, fun s' hs' => hn s' ?_⟩) (fun d => absurd (of_decide_eq_false d) (by omega))⟩
   rw [hs', wi i (by omega), Int.toNat_natCast, zin]
   rfl)
  (fun ks _ m s K hs hK => zj5 kk m b h.o _ _ _ _ _ true hs (fun d => absurd (of_decide_eq_true d) (by omega)) (fun _ => hK)) rfl
 have hsrc : ∀ i, i ∈ h.rs ++ h.ns.flatMap (kid h.cs) ↔ Src h i := fun i => by
  unfold Src
  rw [List.mem_append, List.mem_flatMap]
  refine or_congr Iff.rfl ⟨?_, ?_⟩
  · rintro ⟨x, hx, h⟩
    unfold kid at h
    split at h
    · simp at h
    · rename_i hf
      exact ⟨x, hx, hf, by simpa using h⟩
  · rintro ⟨x, hx, hf, h⟩
    refine ⟨x, hx, ?_⟩
    unfold kid
    rw [hf]
    simpa using h
 have hto : ∀ i, Rch h.cs (fun i => ¬ i < h.o) (Src h) i → Rch h.cs (fun i => h.o ≤ i ∨ i ∈ h.rs) (· ∈ h.rs ++ h.ns.flatMap (kid h.cs)) i := fun i hr =>
  Rch.mono (fun j hj => .src ((hsrc j).2 hj)) (Rch.on (fun j hj => .inl (by omega)) hr)
 have hof : ∀ i, Rch h.cs (fun i => h.o ≤ i ∨ i ∈ h.rs) (· ∈ h.rs ++ h.ns.flatMap (kid h.cs)) i → (0 ≤ i ∧ i < (h.cs.length : Int)) ∧ (i < h.o ∨ Rch h.cs (fun i => ¬ i < h.o) (Src h) i) := fun i hr => by
  induction hr with
  | src hs => exact ⟨hfr _ hs, .inr (.src ((hsrc _).1 hs))⟩
  | @a j _ hp hf ih =>
    refine ⟨(g.wf j ih.1.1 ih.1.2 hf).1, ?_⟩
    have hat := zjM ih.1.1 ih.1.2
    by_cases hj : j < h.o
    · by_cases hk : (cg h.cs j).a < h.o
      · exact .inl hk
      · have := g.old j.toNat _ hat (by omega) hf (.inl (by omega))
        exact .inr (.src (.inr ⟨j, by rwa [show ((j.toNat : Nat) : Int) = j by omega] at this, hf, .inl rfl⟩))
    · rcases ih.2 with h | h
      · exact absurd h hj
      · exact .inr (.a h hj hf)
  | @b j _ hp hf ih =>
    refine ⟨(g.wf j ih.1.1 ih.1.2 hf).2, ?_⟩
    have hat := zjM ih.1.1 ih.1.2
    by_cases hj : j < h.o
    · by_cases hk : (cg h.cs j).b < h.o
      · exact .inl hk
      · have := g.old j.toNat _ hat (by omega) hf (.inr (by omega))
        exact .inr (.src (.inr ⟨j, by rwa [show ((j.toNat : Nat) : Int) = j by omega] at this, hf, .inr rfl⟩))
    · rcases ih.2 with h | h
      · exact absurd h hj
      · exact .inr (.b h hj hf)
 have hkc : kc = zdr h := zlF g (fun i hi => by
  rw [hka i hi]
  constructor
  · rintro (⟨h1, hr⟩ | hlt)
    · exact ⟨h1, (hof i hr).2⟩
    · exact ⟨by omega, .inl hlt⟩
  · rintro ⟨h1, hlt | hr⟩
    · exact .inr hlt
    · exact .inl ⟨h1, hto i hr⟩) hfill
 subst hkc
 exact zqk kk b h.o _ _ _ (ID h.rs) (ID (h.rs ++ h.ns.flatMap (kid h.cs))) (BD ka) (BD (zdr h)) _ _ _ _ ⟨zdb b h.rs (by omega) kk (by omega), la, hreach kk (by omega), lc, za5 (zap h), zkp b true h g (zdr h) (zaA _ _) (zcS g) (zcQ g) kk (by omega), rfl⟩
end Go.Den
namespace Go.Den
open Go
set_option linter.unusedVariables false
set_option maxRecDepth 100000
open Go.Proofs.YtcmcfebihbmmeaaDoor (num numV)
theorem zjG {α : Type} (f : α → Dat) (n : Nat) (hf : ∀ x, (f x).cells.length = n) : ∀ l : List α, (l.map f).all (fun d => Nat.beq d.cells.length n) = true
 | [] => rfl
 | x :: l => by rw [List.map_cons, List.all_cons, hf x, zjG f n hf l, Bool.and_true]; exact beq_eq.2 rfl
theorem zqg (cs : List Cl) : (CD cs).all (fun d => Nat.beq d.cells.length 4) = true := zjG _ 4 (fun _ => rfl) cs
theorem zme (zs : List Int) : (ID zs).all (fun d => Nat.beq d.cells.length 1) = true := zjG _ 1 (fun _ => rfl) zs
theorem set_cd {h : Hp} {at_ to : Int} : (CD h.cs).set at_.toNat (Dat.agg [B (cg h.cs at_).l, I (cg h.cs at_).n, I (cg h.cs at_).a, I to]) = CD (setH h at_ true to).cs ∧ (CD h.cs).set at_.toNat (Dat.agg [B (cg h.cs at_).l, I (cg h.cs at_).n, I to, I (cg h.cs at_).b]) = CD (setH h at_ false to).cs := by
 refine ⟨?_, ?_⟩ <;> simp [setH, setC, CD, List.map_set]
def zcK (put : Bool) (at_ : Int) (l : List Int) : List Int := match put with | true => insL at_ l | false => l
theorem zht (b : Bool) (h : Hp) (g : Hg h) (at_ : Int) (second : Bool) (to : Int) (ha : 0 ≤ at_ ∧ at_ < (h.cs.length : Int)) : EvN 1048700 58 [.dat (YD b h.o h.cs h.rs h.ns), .dat (I at_), .dat (B second), .dat (I to)] [] [] ([HO (setH h at_ second to)], [], []) := by
 refine zaq Go.Proofs.Tryd.f58 1048699 (by kernel_rfl) (by kernel_rfl) fun kk hkk => ?_
 have hcl := g.clen
 have hrl := g.rlen
 have hnl := zdp g
 have hlc : (CD h.cs).length = h.cs.length := by simp
 have hlr : (ID h.rs).length = h.rs.length := by simp
 have hln : (ID h.ns).length = h.ns.length := by simp
 have hc := zgh (c := h.cs) ha.1 ha.2
 have h71 := zkK b h.ns at_ (by omega) kk (by omega)
 obtain ⟨⟨out, put⟩, ⟨hP, hlen⟩, hloop⟩ := zbn (kk := kk) (f := 58) (fn := Go.Proofs.Tryd.f58) (r := 8) (x := .exit 0) (fun i (q : List Int × Bool) => hd58 b h.o (CD (setH h at_ second to).cs) (ID h.rs) (ID h.ns) at_ (ID q.1) q.2 i)
  (fun q => Nm [1, 4, 8, 9, 10] [.dat (I at_), .ptr (.loc 4) 0, .ptr (.loc 8) 0, .own 3 (ID q.1), .dat (B q.2)] [none, some [.dat (I h.o), .own 97 (CD (setH h at_ second to).cs), .dat (.lst b (ID h.rs)), .dat (.lst b (ID h.ns))], some (Yo 0 [] [] []), none, none] [] [])
  (fun i q => q.1 ++ zcK q.2 at_ (h.ns.drop i) = zcK (putN h at_ to) at_ h.ns ∧ q.1.length + q.2.toNat ≤ i + 1) h.ns.length (by omega) ([], putN h at_ to) ⟨by simp, by simp; cases putN h at_ to <;> decide⟩
  (fun i ⟨out, put⟩ hi ⟨hP, hlen⟩ => by
   simp only at hP hlen ⊢
   obtain ⟨x, hx⟩ := zaU hi
   have hdrop : h.ns.drop i = x :: h.ns.drop (i + 1) := by
    rw [List.drop_eq_getElem_cons hi]
    congr 1
    rw [List.getElem?_eq_getElem hi] at hx
    exact Option.some.inj hx
   rw [hdrop] at hP
   cases put with
   | true =>
     simp only [Bool.toNat_true] at hlen
     by_cases hlt : at_ < x
     · refine ⟨(out ++ [at_] ++ [x], false), ⟨?_, by simp; omega⟩, fun m s K hs hn => zhK kk m b h.o _ _ _ at_ _ true i x hs (fun _ _ _ => ⟨zdI hx, by simp; omega, by simp; omega, fun s' hs' => hn s' ?_⟩) (fun _ _ d => absurd hlt (of_decide_eq_false d)) (fun _ d => by cases d) (fun d => absurd (of_decide_eq_false d) (by omega))⟩
       · rw [← hP]
         simp [zcK, insL, hlt]
       · rw [hs', wi i (by omega)]
         simp [hd58, ID]
     · refine ⟨(out ++ [x], true), ⟨?_, by simp; omega⟩, fun m s K hs hn => zhK kk m b h.o _ _ _ at_ _ true i x hs (fun _ _ d => absurd (of_decide_eq_true d) hlt) (fun _ _ _ => ⟨zdI hx, by simp; omega, fun s' hs' => hn s' ?_⟩) (fun _ d => by cases d) (fun d => absurd (of_decide_eq_false d) (by omega))⟩
       · rw [← hP]
         simp [zcK, insL, hlt]
       · rw [hs', wi i (by omega)]
         simp [hd58, ID]
   | false =>
     simp only [Bool.toNat_false] at hlen
     refine ⟨(out ++ [x], false), ⟨?_, by simp; omega⟩, fun m s K hs hn => zhK kk m b h.o _ _ _ at_ _ false i x hs (fun _ d => by cases d) (fun _ d => by cases d) (fun _ _ => ⟨zdI hx, by simp; omega, fun s' hs' => hn s' ?_⟩) (fun d => absurd (of_decide_eq_false d) (by omega))⟩
     · rw [← hP]
       simp [zcK]
     · rw [hs', wi i (by omega)]
       simp [hd58, ID])
  (fun ⟨out, put⟩ _ m s K hs hK => zhK kk m b h.o _ _ _ at_ _ put _ 0 hs (fun d => absurd (of_decide_eq_true d) (by omega)) (fun d => absurd (of_decide_eq_true d) (by omega)) (fun d => absurd (of_decide_eq_true d) (by omega)) (fun _ => hK)) rfl
 simp only at hP hlen hloop
 rw [List.drop_length] at hP
 have hns : (setH h at_ second to).ns = zcK (putN h at_ to) at_ h.ns := rfl
 have hft : put = true → ID out ++ [I at_] = ID (setH h at_ second to).ns := fun e => by
  rw [hns, ← hP, e]
  simp [zcK, insL, ID]
 have hff : put = false → ID out = ID (setH h at_ second to).ns := fun e => by
  rw [hns, ← hP, e]
  simp [zcK]
 have hst : second = true → ([] ++ CD h.cs).set at_.toNat (Dat.agg [B (cg h.cs at_).l, I (cg h.cs at_).n, I (cg h.cs at_).a, I to]) = CD (setH h at_ second to).cs := fun e => by rw [e]; exact set_cd.1
 have hsf : second = false → ([] ++ CD h.cs).set at_.toNat (Dat.agg [B (cg h.cs at_).l, I (cg h.cs at_).n, I to, I (cg h.cs at_).b]) = CD (setH h at_ second to).cs := fun e => by rw [e]; exact set_cd.2
 have hp1 : decide (at_ < h.o) = true → decide (h.o ≤ to) = true → putN h at_ to = !hasB h.ns at_ := fun d1 d2 => by unfold putN; rw [d1, d2]; rfl
 have hp2 : decide (at_ < h.o) = true → decide (h.o ≤ to) = false → putN h at_ to = false := fun d1 d2 => by unfold putN; rw [d1, d2]; rfl
 have hp3 : decide (at_ < h.o) = false → putN h at_ to = false := fun d1 => by unfold putN; rw [d1]; rfl
 have oA : ((CD h.cs).all fun d => Nat.beq d.cells.length 4) = true ∧ 0 + (CD h.cs).length ≤ 2147483648 := ⟨zqg _, by omega⟩
 have oR : ((ID h.rs).all fun d => Nat.beq d.cells.length 1) = true ∧ 0 + (ID h.rs).length ≤ 2147483648 := ⟨zme _, by omega⟩
 have oL : (ID out).length + 1 ≤ 2147483648 := by simp; omega
 exact lhSet kk b h.o _ _ _ at_ second to (CD (setH h at_ second to).cs) (putN h at_ to) (ID out) put (cg h.cs at_) (cg h.cs at_) (hasB h.ns at_)
  (fun d1 d2 d3 d4 => ⟨oA, hc.1, hc.2, h71, by rw [hst d1, hp1 d2 d3]; rfl, hloop, oL, oR, by rw [hft d4]; rfl⟩)
  (fun d1 d2 d3 d4 => ⟨oA, hc.1, hc.2, h71, by rw [hst d1, hp1 d2 d3]; rfl, hloop, oR, by rw [hff d4]; rfl⟩)
  (fun d1 d2 d3 d4 => ⟨oA, hc.1, hc.2, by rw [hst d1, hp2 d2 d3]; rfl, hloop, oL, oR, by rw [hft d4]; rfl⟩)
  (fun d1 d2 d3 d4 => ⟨oA, hc.1, hc.2, by rw [hst d1, hp2 d2 d3]; rfl, hloop, oR, by rw [hff d4]; rfl⟩)
  (fun d1 d2 d4 => ⟨oA, hc.1, hc.2, by rw [hst d1, hp3 d2]; rfl, hloop, oL, oR, by rw [hft d4]; rfl⟩)
  (fun d1 d2 d4 => ⟨oA, hc.1, hc.2, by rw [hst d1, hp3 d2]; rfl, hloop, oR, by rw [hff d4]; rfl⟩)
  (fun d1 d2 d3 d4 => ⟨oA, hc.1, hc.2, h71, by rw [hsf d1, hp1 d2 d3]; rfl, hloop, oL, oR, by rw [hft d4]; rfl⟩)
  (fun d1 d2 d3 d4 => ⟨oA, hc.1, hc.2, h71, by rw [hsf d1, hp1 d2 d3]; rfl, hloop, oR, by rw [hff d4]; rfl⟩)
  (fun d1 d2 d3 d4 => ⟨oA, hc.1, hc.2, by rw [hsf d1, hp2 d2 d3]; rfl, hloop, oL, oR, by rw [hft d4]; rfl⟩)
  (fun d1 d2 d3 d4 => ⟨oA, hc.1, hc.2, by rw [hsf d1, hp2 d2 d3]; rfl, hloop, oR, by rw [hff d4]; rfl⟩)
  (fun d1 d2 d4 => ⟨oA, hc.1, hc.2, by rw [hsf d1, hp3 d2]; rfl, hloop, oL, oR, by rw [hft d4]; rfl⟩)
  (fun d1 d2 d4 => ⟨oA, hc.1, hc.2, by rw [hsf d1, hp3 d2]; rfl, hloop, oR, by rw [hff d4]; rfl⟩)
theorem zjn : ∀ zs : List Int, zeN (ID zs) = some zs
 | [] => rfl
 | z :: zs => by
   show (zeN (ID zs)).map (z :: ·) = some (z :: zs)
   rw [zjn zs]; rfl
theorem up_b : ∀ {l : List Int}, l.Pairwise (· < ·) → upB l = true
 | [], _ => rfl
 | [_], _ => rfl
 | a :: b :: l, h => by
   have h1 := List.pairwise_cons.1 h
   have h2 := h1.1 b (by simp)
   unfold upB
   rw [up_b h1.2, Bool.and_true]
   simp; omega
theorem ev_bs (b : Bool) (ns : List Int) (x : Int) (hu : ns.Pairwise (· < ·)) (hl : ns.length ≤ 1000000) : EvN 1 83 [.dat (.lst b (ID ns)), .dat (I x)] [] [] ([.dat (I ((ns.countP (· < x) : Nat) : Int)), .dat (B (ns.contains x))], [], []) := by
 refine zgU (g := zlD) (by kernel_rfl) ?_
 have hl' : Nat.ble ns.length 1000000 = true := by simpa using hl
 unfold zlD
 simp only [zjn, Option.bind_some, up_b hu, hl', Bool.and_self]
 rfl
theorem zqu (ns : List Int) (k : Nat) (x : Int) (hk : k ≤ ns.length) (hl : ns.length ≤ 1000000) : EvN 1 84 [.own 3 (ID ns), .dat (I (k : Int)), .own 3 [I x]] [] [] ([.own 3 (ID (insZ ns k x))], [], []) := by
 refine zgU (g := zie 3) (by kernel_rfl) ?_
 have h1 : (Nat.beq 3 3 && Nat.beq 3 3) = true := rfl
 have h2 : (decide (0 ≤ (k : Int)) && decide ((k : Int) ≤ ((ID ns).length : Int))) = true := by simp; omega
 have h3 : Nat.ble (ID ns).length 1000000 = true := by simpa using hl
 unfold zie
 simp only [h1, h2, h3, Bool.and_self, zjn, Option.map_some, Int.toNat_natCast]
 rfl
abbrev LsD (w : Ws) (room nur : Int) (fr : Bool) : List D := Ls w.h.o (CD w.h.cs) (ID w.h.rs) (ID w.h.ns) room nur fr w.full w.out
theorem zop {room nur : Int} {h : Hp} : (decide (nur ≤ (h.cs.length : Int) - h.o) = true → decide (room ≤ ((zap h).cs.length : Int)) = true → zck false room nur h = zaX (zap h)) ∧ (decide (nur ≤ (h.cs.length : Int) - h.o) = true → decide (room ≤ ((zap h).cs.length : Int)) = false → zck false room nur h = zap h) ∧
 (decide (nur ≤ (h.cs.length : Int) - h.o) = false → decide (room ≤ (h.cs.length : Int)) = true → zck false room nur h = zaX h) ∧ (decide (nur ≤ (h.cs.length : Int) - h.o) = false → decide (room ≤ (h.cs.length : Int)) = false → zck false room nur h = h) := by
 refine ⟨fun d1 d2 => ?_, fun d1 d2 => ?_, fun d1 d2 => ?_, fun d1 d2 => ?_⟩ <;> (unfold zck; simp only [d1, d2])
theorem zpA (fr : Bool) (room nur : Int) (h : Hp) (g : Hg h) (out : ByteArray) : EvN 1200 121 [.ptr (.up 0) 0] [Ls h.o (CD h.cs) (ID h.rs) (ID h.ns) room nur fr false out] []
 ([], [Ls (zck fr room nur h).o (CD (zck fr room nur h).cs) (ID (zck fr room nur h).rs) (ID (zck fr room nur h).ns) room nur fr (zjf fr room (zck fr room nur h)) out], []) := by
 refine zaq Go.Proofs.Tryd.f121 1199 (by kernel_rfl) (by kernel_rfl) fun kk hkk => ?_
 have hcl := g.clen
 have ho0 := g.o0
 have ho1 := g.o1
 cases fr with
 | true => exact tidy kk h.o _ _ _ room nur true false out 0 [] [] [] 0 [] [] [] (fun d => by cases d) (fun d => by cases d) (fun d => by cases d) (fun d => by cases d) (fun _ => rfl)
 | false =>
   have hlc : ((CD h.cs).length : Int) = (h.cs.length : Int) := by simp
   have hw : w64 (((CD h.cs).length : Int) - h.o) = (h.cs.length : Int) - h.o := by rw [hlc, za6 (by omega)]
   have hly : ((CD (zap h).cs).length : Int) = ((zap h).cs.length : Int) := by simp
   obtain ⟨t1, t2, t3, t4⟩ := zop (room := room) (nur := nur) (h := h)
   have h93 := zfU true h g kk (by omega)
   have hfw : ∀ x : Hp, zjf false room x = decide (room ≤ ((CD x.cs).length : Int)) := fun x => by simp [zjf]
   by_cases hy : decide (nur ≤ (h.cs.length : Int) - h.o) = true
   · have h92 := zfk true (zap h) (zcn g) kk (by omega)
     exact tidy kk h.o _ _ _ room nur false false out (zap h).o _ _ _ (zaX (zap h)).o _ _ _ (fun _ _ d => ⟨za5 _, h93, za5 _, h92, by rw [t1 hy (by rw [← hly]; exact d), hfw]⟩) (fun _ _ d => ⟨za5 _, h93, by rw [t2 hy (by rw [← hly]; exact d), hfw]⟩) (fun _ d => by rw [hw] at d; exact absurd (hy.symm.trans d) (by decide)) (fun _ d => by rw [hw] at d; exact absurd (hy.symm.trans d) (by decide)) (fun d => by cases d)
   · have hy : decide (nur ≤ (h.cs.length : Int) - h.o) = false := by simpa using hy
     have h92 := zfk true h g kk (by omega)
     exact tidy kk h.o _ _ _ room nur false false out 0 [] [] [] (zaX h).o _ _ _ (fun _ d => by rw [hw] at d; exact absurd (hy.symm.trans d) (by decide)) (fun _ d => by rw [hw] at d; exact absurd (hy.symm.trans d) (by decide)) (fun _ _ d => ⟨za5 _, h92, by rw [t3 hy (by rw [← hlc]; exact d), hfw]⟩) (fun _ _ d => by rw [t4 hy (by rw [← hlc]; exact d), hfw]) (fun d => by cases d)
end Go.Den
namespace Go.Den
open Go
set_option linter.unusedVariables false
set_option maxRecDepth 100000
open Go.Proofs.YtcmcfebihbmmeaaDoor (num numV)
theorem zk2 {h : Hp} (g : Hg h) {a : Int} (ha : zac a h.rs.length = true) : (0 ≤ a ∧ a < ((ID h.rs).length : Int)) ∧ (ID h.rs)[a.toNat]? = some (I (rg h a)) ∧ (0 ≤ rg h a ∧ rg h a < ((CD h.cs).length : Int)) ∧ (CD h.cs)[(rg h a).toNat]? = some (cg h.cs (rg h a)).d := by
 obtain ⟨h1, h2⟩ := zoQ ha
 have h3 := zdA g ha
 obtain ⟨h4, h5⟩ := zgh (c := h.cs) h3.1 h3.2
 exact ⟨by simpa using h1, gm (f := (I ·)) h2, h4, h5⟩
theorem in39 {h : Hp} (g : Hg h) (a : Int) : EvN 1 39 [.dat (I a), .dat (I 0), .dat (I (w64 (((ID h.rs).length : Int) - 1)))] [] [] ([.dat (B (zac a h.rs.length))], [], []) := by
 have hrl := g.rlen
 have := zhJ a 0 ((h.rs.length : Int) - 1)
 rw [zhz] at this
 rw [show w64 (((ID h.rs).length : Int) - 1) = (h.rs.length : Int) - 1 by rw [List.length_map, za6 (by omega)]]
 exact this
theorem zoK (cs : List Cl) (c : Cl) : CD cs ++ [c.d] = CD (cs ++ [c]) := by simp [CD]
theorem zkr (zs : List Int) (z : Int) : ID zs ++ [I z] = ID (zs ++ [z]) := by simp [ID]
theorem zlZ {cs : List Cl} {c : Cl} (h : cs.length ≤ 1000) : w64 (((CD cs ++ [c.d]).length : Int) - 1) = (cs.length : Int) := by
 rw [List.length_append, List.length_map, za6 (by simp; omega)]; simp
theorem zmm (fr : Bool) (room nur : Int) (k a b : Int) (w : Ws) (g : Hg w.h) (hf : w.full = false) (hk2 : k = 2 → zac a w.h.rs.length = true ∧ zac b w.h.rs.length = true) :
 EvN 1210 91 [.ptr (.up 0) 0, .dat (N3 k a b)] [LsD w room nur fr] [] ([], [LsD (putO fr room nur (decide (k = 2)) a b w) room nur fr], []) := by
 refine zaq Go.Proofs.Tryd.f91 1209 (by kernel_rfl) (by kernel_rfl) fun kk hkk => ?_
 have h121 := zpA fr room nur w.h g w.out kk (by omega)
 have gt := zib (fr := fr) (room := room) (nur := nur) g
 have hrs := zgM (fr := fr) (room := room) (nur := nur) (h := w.h)
 rw [← hf] at h121
 unfold putO
 generalize zck fr room nur w.h = t at *
 have hcl := gt.clen
 have hrl := gt.rlen
 have lc : (CD t.cs).length + 1 ≤ 2147483648 := by simp; omega
 have lr : (ID t.rs).length + 1 ≤ 2147483648 := by simp; omega
 refine putL kk w.h.o _ _ _ room nur fr w.full w.out k a b t.o _ _ _ (zjf fr room t) (rg t a) (rg t b) (fun d => ⟨h121, by rw [d]⟩) (fun d d2 => ?_) (fun d d2 => ?_)
 · obtain ⟨ha, hb⟩ := hk2 (of_decide_eq_true d2)
   obtain ⟨a1, a2, _⟩ := zk2 gt (a := a) (by rw [hrs]; exact ha)
   obtain ⟨b1, b2, _⟩ := zk2 gt (a := b) (by rw [hrs]; exact hb)
   refine ⟨h121, a1, a2, b1, b2, lc, lr, ?_⟩
   have e1 := zoK t.cs (ziw true a b t)
   have e2 := zlZ (cs := t.cs) (c := ziw true a b t) (by omega)
   have e3 := zkr t.rs (t.cs.length : Int)
   rw [d, d2]
   show (([], [Ls t.o (CD (t.cs ++ [ziw true a b t])) (ID (t.rs ++ [(t.cs.length : Int)])) (ID t.ns) room nur fr false w.out], []) : Res) = _
   rw [← e1, ← e3, ← e2]
   rfl
 · refine ⟨h121, lc, lr, ?_⟩
   have e1 := zoK t.cs (ziw false a b t)
   have e2 := zlZ (cs := t.cs) (c := ziw false a b t) (by omega)
   have e3 := zkr t.rs (t.cs.length : Int)
   rw [d, d2]
   show (([], [Ls t.o (CD (t.cs ++ [ziw false a b t])) (ID (t.rs ++ [(t.cs.length : Int)])) (ID t.ns) room nur fr false w.out], []) : Res) = _
   rw [← e1, ← e3, ← e2]
   rfl
section
variable {fr : Bool} {room nur : Int} {a b : Int} {w : Ws}
theorem opW_1 : opW fr room nur 1 a b w = (match decide ((w.h.rs.length : Int) < 60) with | true => putO fr room nur false a b w | false => w) := by
 unfold opW
 rw [if_pos rfl]
 try rfl
theorem opW_2 : opW fr room nur 2 a b w = (match zac a w.h.rs.length && zac b w.h.rs.length && decide ((w.h.rs.length : Int) < 60) with | true => putO fr room nur true a b w | false => w) := by
 unfold opW
 rw [if_neg (by decide : ¬ (2 : Int) = 1), if_pos rfl]
 try rfl
theorem opW_3 : opW fr room nur 3 a b w = (match zac a w.h.rs.length && decide ((w.h.rs.length : Int) < 60) && !(cg w.h.cs (rg w.h a)).l with | true => znS w false (rg w.h a) | false => w) := by
 unfold opW
 rw [if_neg (by decide : ¬ (3 : Int) = 1), if_neg (by decide : ¬ (3 : Int) = 2), if_pos rfl]
 try rfl
theorem opW_4 : opW fr room nur 4 a b w = (match zac a w.h.rs.length && decide ((w.h.rs.length : Int) < 60) && !(cg w.h.cs (rg w.h a)).l with | true => znS w true (rg w.h a) | false => w) := by
 unfold opW
 rw [if_neg (by decide : ¬ (4 : Int) = 1), if_neg (by decide : ¬ (4 : Int) = 2), if_neg (by decide : ¬ (4 : Int) = 3), if_pos rfl]
 try rfl
theorem opW_5 : opW fr room nur 5 a b w = (match zac a w.h.rs.length with | true => ⟨zoF w.h a, w.full, w.out⟩ | false => w) := by
 unfold opW
 rw [if_neg (by decide : ¬ (5 : Int) = 1), if_neg (by decide : ¬ (5 : Int) = 2), if_neg (by decide : ¬ (5 : Int) = 3), if_neg (by decide : ¬ (5 : Int) = 4), if_pos rfl]
 try rfl
theorem opW_6 : opW fr room nur 6 a b w = (match zac a w.h.rs.length with | true => ⟨w.h, w.full, w.out ++ (showB w.h.cs 4 (rg w.h a) ++ nlB)⟩ | false => w) := by
 unfold opW
 rw [if_neg (by decide : ¬ (6 : Int) = 1), if_neg (by decide : ¬ (6 : Int) = 2), if_neg (by decide : ¬ (6 : Int) = 3), if_neg (by decide : ¬ (6 : Int) = 4), if_neg (by decide : ¬ (6 : Int) = 5), if_pos rfl]
 try rfl
theorem opW_7 : opW fr room nur 7 a b w = (match zac a w.h.rs.length && zac b w.h.rs.length && !(cg w.h.cs (rg w.h a)).l with | true => ⟨setH w.h (rg w.h a) false (rg w.h b), w.full, w.out⟩ | false => w) := by
 unfold opW
 rw [if_neg (by decide : ¬ (7 : Int) = 1), if_neg (by decide : ¬ (7 : Int) = 2), if_neg (by decide : ¬ (7 : Int) = 3), if_neg (by decide : ¬ (7 : Int) = 4), if_neg (by decide : ¬ (7 : Int) = 5), if_neg (by decide : ¬ (7 : Int) = 6), if_pos rfl]
 try rfl
theorem opW_8 : opW fr room nur 8 a b w = (match zac a w.h.rs.length && zac b w.h.rs.length && !(cg w.h.cs (rg w.h a)).l with | true => ⟨setH w.h (rg w.h a) true (rg w.h b), w.full, w.out⟩ | false => w) := by
 unfold opW
 rw [if_neg (by decide : ¬ (8 : Int) = 1), if_neg (by decide : ¬ (8 : Int) = 2), if_neg (by decide : ¬ (8 : Int) = 3), if_neg (by decide : ¬ (8 : Int) = 4), if_neg (by decide : ¬ (8 : Int) = 5), if_neg (by decide : ¬ (8 : Int) = 6), if_neg (by decide : ¬ (8 : Int) = 7), if_pos rfl]
 try rfl
theorem opW_9 : opW fr room nur 9 a b w = (match zac a w.h.rs.length && zac b w.h.rs.length with | true => ⟨w.h, w.full, w.out ++ (if rg w.h a = rg w.h b then sameB else otherB)⟩ | false => w) := by
 unfold opW
 rw [if_neg (by decide : ¬ (9 : Int) = 1), if_neg (by decide : ¬ (9 : Int) = 2), if_neg (by decide : ¬ (9 : Int) = 3), if_neg (by decide : ¬ (9 : Int) = 4), if_neg (by decide : ¬ (9 : Int) = 5), if_neg (by decide : ¬ (9 : Int) = 6), if_neg (by decide : ¬ (9 : Int) = 7), if_neg (by decide : ¬ (9 : Int) = 8), if_pos rfl]
 try rfl
theorem zqa : opW fr room nur 10 a b w = (match fr with | true => w | false => ⟨zaX w.h, w.full, w.out⟩) := by
 unfold opW
 rw [if_neg (by decide : ¬ (10 : Int) = 1), if_neg (by decide : ¬ (10 : Int) = 2), if_neg (by decide : ¬ (10 : Int) = 3), if_neg (by decide : ¬ (10 : Int) = 4), if_neg (by decide : ¬ (10 : Int) = 5), if_neg (by decide : ¬ (10 : Int) = 6), if_neg (by decide : ¬ (10 : Int) = 7), if_neg (by decide : ¬ (10 : Int) = 8), if_neg (by decide : ¬ (10 : Int) = 9), if_pos rfl]
 try rfl
theorem zqz : opW fr room nur 11 a b w = (match fr with | true => w | false => ⟨zap w.h, w.full, w.out⟩) := by
 unfold opW
 rw [if_neg (by decide : ¬ (11 : Int) = 1), if_neg (by decide : ¬ (11 : Int) = 2), if_neg (by decide : ¬ (11 : Int) = 3), if_neg (by decide : ¬ (11 : Int) = 4), if_neg (by decide : ¬ (11 : Int) = 5), if_neg (by decide : ¬ (11 : Int) = 6), if_neg (by decide : ¬ (11 : Int) = 7), if_neg (by decide : ¬ (11 : Int) = 8), if_neg (by decide : ¬ (11 : Int) = 9), if_neg (by decide : ¬ (11 : Int) = 10), if_pos rfl]
 try rfl
def Other (k : Int) : Prop := k ≠ 1 ∧ k ≠ 2 ∧ k ≠ 3 ∧ k ≠ 4 ∧ k ≠ 5 ∧ k ≠ 6 ∧ k ≠ 7 ∧ k ≠ 8 ∧ k ≠ 9 ∧ k ≠ 10 ∧ k ≠ 11
theorem opW_o {k : Int} (h : Other k) : opW fr room nur k a b w = w := by
 obtain ⟨h1, h2, h3, h4, h5, h6, h7, h8, h9, h10, h11⟩ := h
 unfold opW
 rw [if_neg h1, if_neg h2, if_neg h3, if_neg h4, if_neg h5, if_neg h6, if_neg h7, if_neg h8, if_neg h9, if_neg h10, if_neg h11]
end
theorem zj9 {fr : Bool} {room nur : Int} {pair : Bool} {a b : Int} {w : Ws} : (putO fr room nur pair a b w).out = w.out := by
 unfold putO
 split <;> rfl
theorem znt (zs : List Int) (n : Nat) : List.take n (ID zs) = ID (zs.take n) := by simp [ID]
theorem zno (zs : List Int) (n : Nat) : List.drop n (ID zs) = ID (zs.drop n) := by simp [ID]
theorem zpT (fr : Bool) (room nur : Int) (k a b : Int) (w : Ws) (g : Hg w.h) (hf : w.full = false) (ho : w.out.size ≤ 1000000) : EvN 1050000 76 [.ptr (.up 0) 0, .dat (N3 k a b)] [LsD w room nur fr] [] ([], [LsD (opW fr room nur k a b w) room nur fr], []) := by
 refine zaq Go.Proofs.Tryd.f76 1049999 (by kernel_rfl) (by kernel_rfl) fun kk hkk => ?_
 have hcl := g.clen
 have hrl := g.rlen
 have hlr : ((ID w.h.rs).length : Int) = (w.h.rs.length : Int) := by simp
 have A1 := in39 g a kk (by omega)
 have B1 := in39 g b kk (by omega)
 have hA := fun h => zk2 g (a := a) h
 have hB := fun h => zk2 g (a := b) h
 have lr : (ID w.h.rs).length + 1 ≤ 2147483648 := by simp; omega
 have hn1 : (ByteArray.mk #[10]).size = 1 := rfl
 by_cases k1 : k = 1
 · subst k1
   have hput := zmm fr room nur 1 a b w g hf (fun e => by cases e) kk (by omega)
   have e : (decide ((1 : Int) = 2)) = false := rfl
   rw [e] at hput
   rw [opW_1, ← hlr]
   have hp := zj9 (fr := fr) (room := room) (nur := nur) (pair := false) (a := a) (b := b) (w := w)
   generalize putO fr room nur false a b w = p at hput hp ⊢
   have hput : den cfg kk 91 [.ptr (.up 0) 0, .dat (N3 1 a b)] [LsD w room nur fr] [] = some ([], [Ls p.h.o (CD p.h.cs) (ID p.h.rs) (ID p.h.ns) room nur fr p.full w.out], []) := by rw [← hp]; exact hput
   exact opL_1 kk w.h.o _ _ _ room nur fr w.full w.out a b _ _ _ _ p.full (zac a w.h.rs.length) (zac b w.h.rs.length) (rg w.h a) (cg w.h.cs (rg w.h a))
    (fun d d2 => ⟨A1, B1, (hA d).1, (hA d).2.1, (hA d).2.2.1, (hA d).2.2.2, hput, by rw [d2, ← hp]⟩)
    (fun d d2 => ⟨A1, B1, (hA d).1, (hA d).2.1, (hA d).2.2.1, (hA d).2.2.2, by rw [d2]⟩)
    (fun d d2 => ⟨A1, B1, hput, by rw [d2, ← hp]⟩) (fun d d2 => ⟨A1, B1, by rw [d2]⟩)
 by_cases k2 : k = 2
 · subst k2
   have e : (decide ((2 : Int) = 2)) = true := rfl
   have hput := fun h1 h2 => zmm fr room nur 2 a b w g hf (fun _ => ⟨h1, h2⟩) kk (by omega)
   rw [e] at hput
   rw [opW_2, ← hlr]
   have hp := zj9 (fr := fr) (room := room) (nur := nur) (pair := true) (a := a) (b := b) (w := w)
   generalize putO fr room nur true a b w = p at hput hp ⊢
   have hput : zac a w.h.rs.length = true → zac b w.h.rs.length = true → den cfg kk 91 [.ptr (.up 0) 0, .dat (N3 2 a b)] [LsD w room nur fr] [] = some ([], [Ls p.h.o (CD p.h.cs) (ID p.h.rs) (ID p.h.ns) room nur fr p.full w.out], []) := by rw [← hp]; exact hput
   rw [hlr]
   exact opL_2 kk w.h.o _ _ _ room nur fr w.full w.out a b _ _ _ _ p.full (zac a w.h.rs.length) (zac b w.h.rs.length) (rg w.h a) (cg w.h.cs (rg w.h a))
    (fun d d2 d3 => ⟨A1, B1, (hA d).1, (hA d).2.1, (hA d).2.2.1, (hA d).2.2.2, hput d d3, by rw [hlr] at d2; rw [d, d2, d3, ← hp]; rfl⟩)
    (fun d d2 d3 => ⟨A1, B1, (hA d).1, (hA d).2.1, (hA d).2.2.1, (hA d).2.2.2, by rw [d, d3]; rfl⟩)
    (fun d d2 => ⟨A1, B1, (hA d).1, (hA d).2.1, (hA d).2.2.1, (hA d).2.2.2, by rw [hlr] at d2; rw [d2, Bool.and_false]⟩)
    (fun d d2 => ⟨A1, B1, by rw [d]; rfl⟩) (fun d d2 => ⟨A1, B1, by rw [d]; rfl⟩)
 have h60 : decide (((ID w.h.rs).length : Int) = 60) = true → decide ((w.h.rs.length : Int) < 60) = false := fun d => by
  have := of_decide_eq_true d
  rw [hlr] at this
  simp; omega
 have h59 : decide (((ID w.h.rs).length : Int) = 60) = false → decide ((w.h.rs.length : Int) < 60) = true := fun d => by
  have := of_decide_eq_false d
  rw [hlr] at this
  simp; omega
 by_cases k3 : k = 3
 · subst k3
   rw [opW_3]
   exact opL_3 kk w.h.o _ _ _ room nur fr w.full w.out a b (zac a w.h.rs.length) (zac b w.h.rs.length) (rg w.h a) (cg w.h.cs (rg w.h a))
    (fun d d2 => ⟨A1, B1, (hA d).1, (hA d).2.1, (hA d).2.2.1, (hA d).2.2.2, by rw [d, h60 d2]; rfl⟩)
    (fun d d2 d3 => ⟨A1, B1, (hA d).1, (hA d).2.1, (hA d).2.2.1, (hA d).2.2.2, by rw [d, h59 d2, d3]; rfl⟩)
    (fun d d2 d3 => ⟨A1, B1, (hA d).1, (hA d).2.1, (hA d).2.2.1, (hA d).2.2.2, lr, by rw [d, h59 d2, d3, zkr]; rfl⟩)
    (fun d => ⟨A1, B1, by rw [d]; rfl⟩)
 by_cases k4 : k = 4
 · subst k4
   rw [opW_4]
   exact opL_4 kk w.h.o _ _ _ room nur fr w.full w.out a b (zac a w.h.rs.length) (zac b w.h.rs.length) (rg w.h a) (cg w.h.cs (rg w.h a))
    (fun d d2 => ⟨A1, B1, (hA d).1, (hA d).2.1, (hA d).2.2.1, (hA d).2.2.2, by rw [d, h60 d2]; rfl⟩)
    (fun d d2 d3 => ⟨A1, B1, (hA d).1, (hA d).2.1, (hA d).2.2.1, (hA d).2.2.2, by rw [d, h59 d2, d3]; rfl⟩)
    (fun d d2 d3 => ⟨A1, B1, (hA d).1, (hA d).2.1, (hA d).2.2.1, (hA d).2.2.2, lr, by rw [d, h59 d2, d3, zkr]; rfl⟩)
    (fun d => ⟨A1, B1, by rw [d]; rfl⟩)
 by_cases k5 : k = 5
 · subst k5
   rw [opW_5]
   exact opL_5 kk w.h.o _ _ _ room nur fr w.full w.out a b (zac a w.h.rs.length) (zac b w.h.rs.length) (rg w.h a) (cg w.h.cs (rg w.h a))
    (fun d => by
     have h1 := (hA d).1
     have hw : w64 (a + 1) = a + 1 := za6 (by omega)
     refine ⟨A1, B1, h1, (hA d).2.1, (hA d).2.2.1, (hA d).2.2.2, ⟨h1.1, by omega⟩, ⟨by omega, by omega⟩, ⟨by rw [znt]; exact zme _, by simp; omega⟩, ⟨by rw [zno]; exact zme _, by simp; omega⟩, ?_⟩
     rw [d, znt, zno, hw, show (a + 1).toNat = a.toNat + 1 by omega]
     simp [LsD, zoF, ID])
    (fun d => ⟨A1, B1, by rw [d]⟩)
 by_cases k6 : k = 6
 · subst k6
   rw [opW_6]
   exact opL_6 kk w.h.o _ _ _ room nur fr w.full w.out a b (zac a w.h.rs.length) (zac b w.h.rs.length) (rg w.h a) (cg w.h.cs (rg w.h a)) (rg w.h a) (showB w.h.cs 4 (rg w.h a))
    (fun d => ⟨A1, B1, (hA d).1, (hA d).2.1, (hA d).2.2.1, (hA d).2.2.2, (hA d).1, (hA d).2.1, znN true w.h.cs g.cells 4 (rg w.h a) (by omega) (zdA g d).1 (zdA g d).2 kk (by omega), by have := zbW w.h.cs g.cells 4 (rg w.h a); omega, by have := zbW w.h.cs g.cells 4 (rg w.h a); rw [ByteArray.size_append]; omega, by rw [d]⟩)
    (fun d => ⟨A1, B1, by rw [d]⟩)
 by_cases k7 : k = 7
 · subst k7
   rw [opW_7]
   exact opL_7 kk w.h.o _ _ _ room nur fr w.full w.out a b (zac a w.h.rs.length) (zac b w.h.rs.length) (rg w.h a) (cg w.h.cs (rg w.h a)) (rg w.h a) (rg w.h b) _ _ _ _
    (fun d d2 d3 => ⟨A1, B1, (hA d).1, (hA d).2.1, (hA d).2.2.1, (hA d).2.2.2, (hA d).1, (hA d).2.1, (hB d2).1, (hB d2).2.1, za5 (setH w.h (rg w.h a) false (rg w.h b)), zht true w.h g (rg w.h a) false (rg w.h b) (zdA g d) kk (by omega), by rw [d, d2, d3]; rfl⟩)
    (fun d d2 d3 => ⟨A1, B1, (hA d).1, (hA d).2.1, (hA d).2.2.1, (hA d).2.2.2, by rw [d, d2, d3]; rfl⟩)
    (fun d d2 => ⟨A1, B1, (hA d).1, (hA d).2.1, (hA d).2.2.1, (hA d).2.2.2, by rw [d, d2]; rfl⟩)
    (fun d => ⟨A1, B1, by rw [d]; rfl⟩)
 by_cases k8 : k = 8
 · subst k8
   rw [opW_8]
   exact opL_8 kk w.h.o _ _ _ room nur fr w.full w.out a b (zac a w.h.rs.length) (zac b w.h.rs.length) (rg w.h a) (cg w.h.cs (rg w.h a)) (rg w.h a) (rg w.h b) _ _ _ _
    (fun d d2 d3 => ⟨A1, B1, (hA d).1, (hA d).2.1, (hA d).2.2.1, (hA d).2.2.2, (hA d).1, (hA d).2.1, (hB d2).1, (hB d2).2.1, za5 (setH w.h (rg w.h a) true (rg w.h b)), zht true w.h g (rg w.h a) true (rg w.h b) (zdA g d) kk (by omega), by rw [d, d2, d3]; rfl⟩)
    (fun d d2 d3 => ⟨A1, B1, (hA d).1, (hA d).2.1, (hA d).2.2.1, (hA d).2.2.2, by rw [d, d2, d3]; rfl⟩)
    (fun d d2 => ⟨A1, B1, (hA d).1, (hA d).2.1, (hA d).2.2.1, (hA d).2.2.2, by rw [d, d2]; rfl⟩)
    (fun d => ⟨A1, B1, by rw [d]; rfl⟩)
 by_cases k9 : k = 9
 · subst k9
   rw [opW_9]
   exact opL_9 kk w.h.o _ _ _ room nur fr w.full w.out a b (zac a w.h.rs.length) (zac b w.h.rs.length) (rg w.h a) (cg w.h.cs (rg w.h a)) (rg w.h a) (rg w.h b)
    (fun d d2 d3 => ⟨A1, B1, (hA d).1, (hA d).2.1, (hA d).2.2.1, (hA d).2.2.2, (hA d).1, (hA d).2.1, (hB d2).1, (hB d2).2.1, by omega, by rw [d, d2, if_pos (of_decide_eq_true d3)]; rfl⟩)
    (fun d d2 d3 => ⟨A1, B1, (hA d).1, (hA d).2.1, (hA d).2.2.1, (hA d).2.2.2, (hA d).1, (hA d).2.1, (hB d2).1, (hB d2).2.1, by omega, by rw [d, d2, if_neg (of_decide_eq_false d3)]; rfl⟩)
    (fun d d2 => ⟨A1, B1, (hA d).1, (hA d).2.1, (hA d).2.2.1, (hA d).2.2.2, by rw [d, d2]; rfl⟩)
    (fun d => ⟨A1, B1, by rw [d]; rfl⟩)
 by_cases k10 : k = 10
 · subst k10
   rw [zqa]
   exact zqm kk w.h.o _ _ _ room nur fr w.full w.out a b (zac a w.h.rs.length) (zac b w.h.rs.length) (zaX w.h).o _ _ _ (rg w.h a) (cg w.h.cs (rg w.h a))
    (fun d d2 => ⟨A1, B1, (hA d).1, (hA d).2.1, (hA d).2.2.1, (hA d).2.2.2, za5 _, zfk true w.h g kk (by omega), by cases fr <;> first | rfl | cases d2⟩)
    (fun d d2 => ⟨A1, B1, (hA d).1, (hA d).2.1, (hA d).2.2.1, (hA d).2.2.2, by cases fr <;> first | rfl | cases d2⟩)
    (fun d d2 => ⟨A1, B1, za5 _, zfk true w.h g kk (by omega), by cases fr <;> first | rfl | cases d2⟩)
    (fun d d2 => ⟨A1, B1, by cases fr <;> first | rfl | cases d2⟩)
 by_cases k11 : k = 11
 · subst k11
   rw [zqz]
   exact zqc kk w.h.o _ _ _ room nur fr w.full w.out a b (zac a w.h.rs.length) (zac b w.h.rs.length) (zap w.h).o _ _ _ (rg w.h a) (cg w.h.cs (rg w.h a))
    (fun d d2 => ⟨A1, B1, (hA d).1, (hA d).2.1, (hA d).2.2.1, (hA d).2.2.2, za5 _, zfU true w.h g kk (by omega), by cases fr <;> first | rfl | cases d2⟩)
    (fun d d2 => ⟨A1, B1, (hA d).1, (hA d).2.1, (hA d).2.2.1, (hA d).2.2.2, by cases fr <;> first | rfl | cases d2⟩)
    (fun d d2 => ⟨A1, B1, za5 _, zfU true w.h g kk (by omega), by cases fr <;> first | rfl | cases d2⟩)
    (fun d d2 => ⟨A1, B1, by cases fr <;> first | rfl | cases d2⟩)
 rw [opW_o ⟨k1, k2, k3, k4, k5, k6, k7, k8, k9, k10, k11⟩]
 have n : ∀ j : Int, k ≠ j → decide (k = j) = false := fun j h => by simpa using h
 cases d : zac a w.h.rs.length with
 | true =>
   rw [d] at A1
   exact zqh kk w.h.o _ _ _ room nur fr w.full w.out k a b (rg w.h a) (cg w.h.cs (rg w.h a)) true (zac b w.h.rs.length) A1 B1 rfl (hA d).1 (hA d).2.1 (hA d).2.2.1 (hA d).2.2.2 (n 1 k1) (n 2 k2) (n 3 k3) (n 4 k4) (n 5 k5) (n 6 k6) (n 7 k7) (n 8 k8) (n 9 k9) (n 10 k10) (n 11 k11)
 | false =>
   rw [d] at A1
   exact zqp kk w.h.o _ _ _ room nur fr w.full w.out k a b false (zac b w.h.rs.length) A1 B1 rfl (n 1 k1) (n 2 k2) (n 3 k3) (n 4 k4) (n 5 k5) (n 6 k6) (n 7 k7) (n 8 k8) (n 9 k9) (n 10 k10) (n 11 k11)
end Go.Den
namespace Go.Den
open Go
set_option linter.unusedVariables false
set_option maxRecDepth 100000
open Go.Proofs.YtcmcfebihbmmeaaDoor (num numV)
def One (k : Int) : Prop := k = 3 ∨ k = 4 ∨ k = 5 ∨ k = 6
end Go.Den
namespace Go.Den
open Go.Proofs
open Go
set_option linter.unusedVariables false
set_option maxRecDepth 100000
open Go.Proofs.YtcmcfebihbmmeaaDoor (num numV)
abbrev Op3.d (x : Op3) : Dat := N3 x.k x.a x.b
abbrev OD (l : List Op3) : List Dat := l.map Op3.d
def w00 : Ws := ⟨⟨0, [], [], []⟩, false, ByteArray.empty⟩
theorem iv00 (fr : Bool) : Iv fr 0 w00 :=
 ⟨⟨fun i c h => by simp [w00] at h, by simp [w00], by simp [w00], Int.le_refl _, by simp [w00], fun x h => by simp [w00] at h, .nil, fun x h => by simp [w00] at h, fun i c h => by simp [w00] at h⟩, fun _ => by simp [w00], by show (0 : Nat) ≤ _; omega⟩
theorem zpq {α : Type} {L l : List α} {x : α} {i : Nat} (h : L.drop i = x :: l) : L[i]? = some x ∧ L.drop (i + 1) = l ∧ i < L.length := by
 have h1 : L[i]? = some x := by
  have := List.getElem?_drop (xs := L) (i := i) (j := 0)
  rw [h] at this
  simpa using this.symm
 refine ⟨h1, ?_, (List.getElem?_eq_some_iff.1 h1).1⟩
 have : (L.drop i).drop 1 = L.drop (i + 1) := by rw [List.drop_drop]
 rw [← this, h]; rfl
section
variable {fr : Bool} {room nur : Int}
theorem zeV (hr : fr = false → room ≤ 200) (b : Bool) (L : List Op3) (hL : L.length ≤ 150) (ha : ∀ x ∈ L, In64 x.a) {kk : Nat} (hkk : 1050000 ≤ kk) {K : X → St → Prop} : ∀ (l : List Op3) (i : Nat) (w : Ws), L.drop i = l → i + l.length = L.length → Iv fr i w → w.full = false →
 K (match (runW fr room nur l w).full with | true => .ret | false => .exit 0) (Nm [] [] [] [LsD (runW fr room nur l w) room nur fr] []) →
 ∀ m, l.length < m → ∀ s : St, s.norm ((zaL cfg kk 47 Tryd.f47).live (zab (lp Tryd.f47 1))) = hd47 b (OD L) w.h.o (CD w.h.cs) (ID w.h.rs) (ID w.h.ns) room nur fr w.full w.out i → zat (zaL cfg kk 47 Tryd.f47) kk (lp Tryd.f47 1) m s K
 | [], i, w, hd, hi, hI, hf, hK, m, hm, s, hs => by
   obtain ⟨m, rfl⟩ : ∃ k, m = k + 1 := ⟨m - 1, by omega⟩
   have hlen : ((OD L).length : Int) = (L.length : Int) := by simp
   have hK : K (match w.full with | true => .ret | false => .exit 0) (Nm [] [] [] [LsD w room nur fr] []) := hK
   rw [hf] at hK
   simp only [List.length_nil, Nat.add_zero] at hi
   exact zmZ kk m b _ _ _ _ _ room nur fr w.full w.out i 0 [] [] [] true ByteArray.empty 0 0 0 hs (fun d => absurd (of_decide_eq_true d) (by omega)) (fun d => absurd (of_decide_eq_true d) (by omega)) (fun _ => hK)
 | x :: l, i, w, hd, hi, hI, hf, hK, m, hm, s, hs => by
   obtain ⟨m, rfl⟩ : ∃ k, m = k + 1 := ⟨m - 1, by omega⟩
   obtain ⟨hx, hd', hlt⟩ := zpq hd
   have hxm := List.mem_of_getElem? hx
   have hlen : ((OD L).length : Int) = (L.length : Int) := by simp
   have h76 := zpT fr room nur x.k x.a x.b w hI.g hf (by have := hI.out; omega) kk (by omega)
   have hI' := zlJ (room := room) (nur := nur) (k := x.k) (b := x.b) hI hr (by omega) (ha x hxm)
   have hxd := ih (gm (f := Op3.d) hx)
   have hrun : runW fr room nur (x :: l) w = (match (opW fr room nur x.k x.a x.b w).full with | true => opW fr room nur x.k x.a x.b w | false => runW fr room nur l (opW fr room nur x.k x.a x.b w)) := rfl
   rw [hrun] at hK
   have ihl := zeV hr b L hL ha hkk (K := K) l (i + 1) (opW fr room nur x.k x.a x.b w) hd' (by simp at hi; omega) hI'
   generalize opW fr room nur x.k x.a x.b w = p at h76 hI' hK ihl
   refine zmZ kk m b _ _ _ _ _ room nur fr w.full w.out i p.h.o _ _ _ p.full p.out x.k x.a x.b hs (fun _ d => ⟨hxd, h76, ?_⟩) (fun _ d => ⟨hxd, h76, fun s' hs' => ?_⟩) (fun d => absurd (of_decide_eq_false d) (by omega))
   · have hK2 : K .ret (Nm [] [] [] [LsD p room nur fr] []) := by
      rw [d] at hK
      simp only [d] at hK
      exact hK
     rw [d]
     have e : LsD p room nur fr = Ls p.h.o (CD p.h.cs) (ID p.h.rs) (ID p.h.ns) room nur fr true p.out := by rw [← d]
     rw [e] at hK2
     exact hK2
   · rw [d] at hK
     refine ihl d hK m (by simp at hm; omega) s' ?_
     rw [hs', wi i (by omega)]
     rfl
theorem znW (hr : fr = false → room ≤ 200) (b : Bool) (L : List Op3) (hL : L.length ≤ 150) (ha : ∀ x ∈ L, In64 x.a) : EvN 1050100 47 [.ptr (.up 0) 0, .dat (.lst b (OD L))] [LsD w00 room nur fr] [] ([], [LsD (runW fr room nur L w00) room nur fr], []) := by
 refine zaq Tryd.f47 1050099 (by kernel_rfl) (by kernel_rfl) fun kk hkk => ?_
 have hloop : zai cfg kk 47 Tryd.f47 1 (hd47 b (OD L) w00.h.o (CD w00.h.cs) (ID w00.h.rs) (ID w00.h.ns) room nur fr w00.full w00.out 0) (match (runW fr room nur L w00).full with | true => .ret | false => .exit 0) (Nm [] [] [] [LsD (runW fr room nur L w00) room nur fr] []) :=
  zcX fun s hs => zeV hr b L hL ha (by omega) L 0 w00 rfl (by simp) (iv00 fr) rfl ⟨rfl, rfl⟩ kk (by omega) s hs
 generalize runW fr room nur L w00 = p at hloop ⊢
 cases hp : p.full with
 | true =>
   rw [hp] at hloop
   exact zpP kk b _ 0 [] [] [] room nur fr false ByteArray.empty p.h.o _ _ _ p.full p.out ⟨hloop, rfl⟩
 | false =>
   rw [hp] at hloop
   exact zpd kk b _ 0 [] [] [] room nur fr false ByteArray.empty p.h.o _ _ _ p.full p.out ⟨hloop, rfl⟩
end
end Go.Den
namespace Go.Den
open Go.Proofs
open Go
set_option linter.unusedVariables false
set_option maxRecDepth 100000
abbrev cp : D := .ptr (.up 0) 0
abbrev Cur (cs : List Dat) (p s : Int) : List D := [.dat (.lst false cs), .dat (I p), .dat (U64 s)]
def Bs (cs : List Dat) : Prop := cs.length ≤ 9223372036854775807 ∧ ∀ d ∈ cs, ∃ x : Int, d = Y8 x ∧ 0 ≤ x ∧ x ≤ 255
theorem zh2 : ∀ {cs : List Dat}, (∀ d ∈ cs, ∃ x : Int, d = Y8 x ∧ 0 ≤ x ∧ x ≤ 255) → Dat.cleans cs = true
 | [], _ => rfl
 | d :: cs, h => by
   obtain ⟨x, rfl, _⟩ := h d (by simp)
   have := zh2 fun e he => h e (List.mem_cons_of_mem _ he)
   simp only [Dat.cleans, this, Bool.and_true]
   rfl
theorem Bs.cleans {cs : List Dat} (h : Bs cs) : Dat.cleans cs = true := zh2 h.2
theorem Bs.box {cs : List Dat} (h : Bs cs) (p s : Int) : zam [Cur cs p s] = true := by
 have hb := h.cleans
 show (((Dat.lst false cs).clean && true) && true) = true
 show ((Dat.cleans cs && true) && true) = true
 rw [hb]
 rfl
theorem zo0 {d : Dat} (h : WT cfg.ty 5 d) : ∃ x : Int, d = Y8 x ∧ 0 ≤ x ∧ x ≤ 255 := by
 obtain ⟨n, h1, h2⟩ := zp9 h (i := ⟨.int .u8, 1, 1, [], [.dat (.val (.int .u8 0))]⟩) (by kernel_rfl) rfl
 refine ⟨n, h1, ?_⟩
 simp only [Lit.wf, Bool.and_eq_true, decide_eq_true_eq] at h2
 exact h2
theorem zob {d : Dat} (h : WT cfg.ty 45 d) : ∃ cs : List Dat, d = .lst false cs ∧ Bs cs := by
 obtain ⟨es, rfl, hl, hx⟩ := zqy h (i := ⟨.slice 5, 1, 24, [], [.own 5 []]⟩) (by kernel_rfl) rfl
 exact ⟨es, rfl, hl, fun x hxe => zo0 (hx x hxe)⟩
theorem zm3 (n : Nat) (h : n ≤ 255) : w64 (IntKind.u64.wrap (n : Int)) = n := by
 have : IntKind.u64.wrap (n : Int) = n := by
  simp [IntKind.wrap, IntKind.bits, IntKind.signed]; omega
 rw [this, za6 (by omega)]
theorem zpv (x : Int) : ((BitVec.ofInt IntKind.u64.bits x &&& BitVec.ofInt IntKind.u64.bits 255).toNat : Nat) ≤ 255 := by
 rw [BitVec.toNat_and]
 exact Nat.and_le_right
theorem zmz {cs : List Dat} (hb : Bs cs) (p s : Int) (h0 : 0 ≤ p) (h1 : p ≤ 1000000) : ∃ z s' : Int, 0 ≤ z ∧ z ≤ 255 ∧ EvN 1 80 [cp] [Cur cs p s] [] ([.dat (I z)], [Cur cs (p + 1) s'], []) := by
 have hp : w64 (p + 1) = p + 1 := za6 (by omega)
 by_cases hlt : p < (cs.length : Int)
 · have hget : cs[p.toNat]? = some (cs[p.toNat]'(by omega)) := List.getElem?_eq_getElem (by omega)
   obtain ⟨x, hx, hx0, hx1⟩ := hb.2 _ (List.getElem_mem (l := cs) (n := p.toNat) (by omega))
   refine ⟨x, IntKind.u64.wrap (IntKind.u64.wrap (IntKind.u64.wrap (s * 6364136223846793005) + IntKind.u64.wrap (w64 x)) + 1442695040888963407), hx0, hx1, zaq Tryd.f80 0 (by kernel_rfl) (by kernel_rfl) fun kk _ => ?_⟩
   have := zpM kk cs p s x (decide_eq_true hlt) ⟨⟨h0, hlt⟩, by rw [hget, hx]⟩ (by rw [hp]; exact decide_eq_true (by omega))
   have hx' : w64 x = x := za6 (by omega)
   rw [hp] at this
   rw [hx'] at this ⊢
   exact this
 · have h := fun kk => zn1 kk cs p s (decide_eq_false hlt) (by rw [hp]; exact decide_eq_false (by omega))
   simp only [hp] at h
   generalize hS : IntKind.u64.wrap (IntKind.u64.wrap (IntKind.u64.wrap (s * 6364136223846793005) + IntKind.u64.wrap 0) + 1442695040888963407) = S' at h
   have hz := zpv (S'.fdiv (2 ^ min (Int.toNat 40) IntKind.u64.bits))
   generalize hZ : (BitVec.ofInt IntKind.u64.bits (S'.fdiv (2 ^ min (Int.toNat 40) IntKind.u64.bits)) &&& BitVec.ofInt IntKind.u64.bits 255).toNat = Z at h hz
   rw [zm3 Z hz] at h
   exact ⟨Z, S', by omega, by omega, zaq Tryd.f80 0 (by kernel_rfl) (by kernel_rfl) fun kk _ => h kk⟩
theorem zbA {cs : List Dat} (hb : Bs cs) (n p s : Int) (h0 : 0 ≤ p) (h1 : p ≤ 900000) (hn : n ≤ 1000000) : ∃ z p' s' : Int, p ≤ p' ∧ p' ≤ p + 2 ∧ 0 ≤ z ∧ (z < n ∨ z = 0) ∧
 EvN 2 54 [cp, .dat (I n)] [Cur cs p s] [] ([.dat (I z)], [Cur cs p' s'], []) := by
 by_cases h : n ≤ 1
 · refine ⟨0, p, s, by omega, by omega, by omega, .inr rfl, zaq Tryd.f54 1 (by kernel_rfl) (by kernel_rfl) fun kk _ => ?_⟩
   exact zqn kk cs p s n (decide_eq_true h)
 · obtain ⟨z, s', hz0, hz1, hz⟩ := zmz hb p s h0 (by omega)
   by_cases hbig : 200 < n
   · obtain ⟨w, s2, hw0, hw1, hw⟩ := zmz hb (p + 1) s' (by omega) (by omega)
     refine ⟨(z * 256 + w).tmod n, p + 1 + 1, s2, by omega, by omega, Int.tmod_nonneg _ (by omega), .inl (Int.tmod_lt_of_pos _ (by omega)), zaq Tryd.f54 1 (by kernel_rfl) (by kernel_rfl) fun kk hk => ?_⟩
     have := zqr kk cs p s (p + 1) s' (p + 1 + 1) s2 n z w (decide_eq_false h) (hz kk hk) (decide_eq_true hbig) (hw kk hk) (by omega)
     rw [za6 (n := z * 256) (by omega), za6 (n := z * 256 + w) (by omega)] at this
     exact this
   · refine ⟨z.tmod n, p + 1, s', by omega, by omega, Int.tmod_nonneg _ (by omega), .inl (Int.tmod_lt_of_pos _ (by omega)), zaq Tryd.f54 1 (by kernel_rfl) (by kernel_rfl) fun kk hk => ?_⟩
     exact zp0 kk cs p s (p + 1) s' n z (decide_eq_false h) (hz kk hk) (decide_eq_false hbig) (by omega)
theorem zka {cs : List Dat} (hb : Bs cs) (n p s : Int) (h0 : 0 ≤ p) (h1 : p ≤ 900000) (hn : n ≤ 1000000) : ∃ (b : Bool) (p' s' : Int), p ≤ p' ∧ p' ≤ p + 2 ∧
 EvN 3 55 [cp, .dat (I n)] [Cur cs p s] [] ([.dat (B b)], [Cur cs p' s'], []) := by
 obtain ⟨z, p', s', hp1, hp2, _, _, hz⟩ := zbA hb n p s h0 h1 hn
 exact ⟨decide (z = 0), p', s', hp1, hp2, zaq Tryd.f55 2 (by kernel_rfl) (by kernel_rfl) fun kk hk => one_ kk cs p s p' s' n z (hz kk hk)⟩
theorem zfm {cs : List Dat} (hb : Bs cs) (b : Bool) (vs : List Int) (p s : Int) (h0 : 0 ≤ p) (h1 : p ≤ 900000) (hv : 0 < vs.length ∧ vs.length ≤ 100000) : ∃ (v p' s' : Int), v ∈ vs ∧ p ≤ p' ∧ p' ≤ p + 2 ∧
 EvN 3 69 [cp, .dat (.lst b (vs.map I))] [Cur cs p s] [] ([.dat (I v)], [Cur cs p' s'], []) := by
 obtain ⟨z, p', s', hp1, hp2, hz0, hz1, hz⟩ := zbA hb (vs.length : Int) p s h0 h1 (by omega)
 have hlt : z.toNat < vs.length := by omega
 refine ⟨vs[z.toNat], p', s', List.getElem_mem _, hp1, hp2, zaq Tryd.f69 2 (by kernel_rfl) (by kernel_rfl) fun kk hk => ?_⟩
 refine among kk cs p s p' s' b (vs.map I) z vs[z.toNat] ?_ ⟨⟨hz0, by rw [List.length_map]; omega⟩, ?_⟩
 · rw [List.length_map]; exact hz kk hk
 · rw [List.getElem?_map, List.getElem?_eq_getElem hlt]; rfl
theorem zjZ {α : Type} {E : Nat → Env} {c : Code} {N : Nat} (st : Nat → α → St) (P : Nat → α → Prop) (n : Nat)
 (hgo : ∀ i a, i < n → P i a → ∃ a', P (i + 1) a' ∧ ∀ kk : Nat, N ≤ kk → ∀ (m : Nat) (s : St) (K : X → St → Prop), s.norm ((E kk).live (zab c)) = st i a → (∀ s : St, s.norm ((E kk).live (zab c)) = st (i + 1) a' → zat (E kk) kk c m s K) → zat (E kk) kk c (m + 1) s K) :
 ∀ (d i : Nat) (a : α), i + d = n → P i a → ∃ a', P n a' ∧ ∀ kk : Nat, N ≤ kk → ∀ K : X → St → Prop, (∀ (m : Nat) (s : St), s.norm ((E kk).live (zab c)) = st n a' → zat (E kk) kk c (m + 1) s K) → ∀ m, d < m → ∀ s : St, s.norm ((E kk).live (zab c)) = st i a → zat (E kk) kk c m s K := by
 intro d
 induction d with
 | zero =>
   intro i a hi hP
   have : i = n := by omega
   subst this
   refine ⟨a, hP, fun kk hkk K hend m hm s hs => ?_⟩
   obtain ⟨m, rfl⟩ : ∃ k, m = k + 1 := ⟨m - 1, by omega⟩
   exact hend m s hs
 | succ d ih =>
   intro i a hi hP
   obtain ⟨a1, hP1, hstep⟩ := hgo i a (by omega) hP
   obtain ⟨a', hP', f⟩ := ih (i + 1) a1 (by omega) hP1
   refine ⟨a', hP', fun kk hkk K hend m hm s hs => ?_⟩
   obtain ⟨m, rfl⟩ : ∃ k, m = k + 1 := ⟨m - 1, by omega⟩
   exact hstep kk hkk m s K hs fun s hs => f kk hkk K hend m (by omega) s hs
theorem zjm {α : Type} {N f : Nat} {fn : Func} {r : Nat} {x : X} (st : Nat → α → St) (fin : α → St) (P : Nat → α → Prop) (n : Nat) (hk : n < N) (a0 : α) (h0 : P 0 a0)
 (hgo : ∀ i a, i < n → P i a → ∃ a', P (i + 1) a' ∧ ∀ kk : Nat, N ≤ kk → ∀ (m : Nat) (s : St) (K : X → St → Prop), s.norm ((zaL cfg kk f fn).live (zab (lp fn r))) = st i a → (∀ s : St, s.norm ((zaL cfg kk f fn).live (zab (lp fn r))) = st (i + 1) a' → zat (zaL cfg kk f fn) kk (lp fn r) m s K) → zat (zaL cfg kk f fn) kk (lp fn r) (m + 1) s K)
 (hend : ∀ a, P n a → ∀ kk : Nat, N ≤ kk → ∀ (m : Nat) (s : St) (K : X → St → Prop), s.norm ((zaL cfg kk f fn).live (zab (lp fn r))) = st n a → K x (fin a) → zat (zaL cfg kk f fn) kk (lp fn r) (m + 1) s K) {s0 : St} (hs0 : s0 = st 0 a0) :
 ∃ a, P n a ∧ ∀ kk : Nat, N ≤ kk → zai cfg kk f fn r s0 x (fin a) := by
 obtain ⟨a', hP', f⟩ := zjZ (E := fun kk => zaL cfg kk f fn) st P n hgo n 0 a0 (by omega) h0
 exact ⟨a', hP', fun kk hkk => zcX fun s hs => f kk hkk _ (fun m s hs => hend a' hP' kk hkk m s _ hs ⟨rfl, rfl⟩) kk (by omega) s (by rw [hs, hs0])⟩
theorem tmod6 {z n : Int} (h0 : 0 ≤ z) (h : z < n ∨ z = 0) (hn : n ≤ 1000) : In64 z := ⟨by omega, by omega⟩
theorem zi1 {cs : List Dat} (hb : Bs cs) (p u : Int) : (true && !(true && (true && zam [Cur cs p u])) || false) = false := by rw [hb.box]; rfl
abbrev K68 : List Int := [1, 1, 2, 2, 3, 4, 5, 5, 6, 6, 7, 7, 8, 8, 9, 10, 11]
theorem zjS {cs : List Dat} (hb : Bs cs) (n p u : Int) (hn0 : 0 ≤ n) (hn : n ≤ 200) (h0 : 0 ≤ p) (h1 : p ≤ 100000) :
 ∃ (L : List Op3) (p' u' : Int), (∀ x ∈ L, In64 x.a) ∧ L.length ≤ 200 ∧ p ≤ p' ∧ p' ≤ p + 4000 ∧ ∀ kk : Nat, 300 ≤ kk → zai cfg kk 68 Tryd.f68 6 (hd68 cs [] n p u 0) (.exit 0) (Nm [0, 3] [.ptr (.up 0) 0, .own 72 (OD L)] [none, none] [Cur cs p' u'] []) := by
 obtain ⟨t, ht, la⟩ := zjm (N := 300) (f := 68) (fn := Tryd.f68) (r := 6) (x := .exit 0) (fun i (t : List Op3 × Int × Int) => hd68 cs (OD t.1) n t.2.1 t.2.2 (i : Int))
  (fun t => Nm [0, 3] [.ptr (.up 0) 0, .own 72 (OD t.1)] [none, none] [Cur cs t.2.1 t.2.2] [])
  (fun i t => (∀ x ∈ t.1, In64 x.a) ∧ t.1.length = i ∧ p ≤ t.2.1 ∧ t.2.1 ≤ p + 20 * (i : Int)) n.toNat (by omega) ([], p, u) ⟨by simp, rfl, Int.le_refl _, by simp⟩
  (fun i t hi hP => by
   obtain ⟨L, q, w⟩ := t
   obtain ⟨ha, hl, hp0, hp1⟩ := hP
   simp only at ha hl hp0 hp1
   have hq1 : p + 20 * (i : Int) ≤ 104000 := by omega
   obtain ⟨k, q1, w1, hk, b1, c1, e1⟩ := zfm hb true K68 q w (by omega) (by omega) (by decide)
   obtain ⟨a, q2, w2, b2, c2, a0, a1, e2⟩ := zbA hb 6 q1 w1 (by omega) (by omega) (by omega)
   obtain ⟨b, q3, w3, b3, c3, _, _, e3⟩ := zbA hb 6 q2 w2 (by omega) (by omega) (by omega)
   obtain ⟨g, q4, w4, b4, c4, e4⟩ := zka hb 40 q3 w3 (by omega) (by omega) (by omega)
   have hw : w64 ((i : Int) + 1) = ((i + 1 : Nat) : Int) := wi i (by omega)
   have hod : (OD L).length + 1 ≤ 2147483648 := by rw [List.length_map]; omega
   cases g with
   | false =>
     refine ⟨(L ++ [⟨k, a, b⟩], q4, w4), ⟨fun x hx => ?_, by simp [hl], by show p ≤ q4; omega, by show q4 ≤ _; omega⟩, fun kk hkk m s K hs hn => zhN kk m cs (OD L) n i k a b 0 0 0 false q w q1 w1 q2 w2 q3 w3 q4 w4 0 0 0 0 0 0 hs (fun _ d => by cases d) (fun _ _ => ⟨e1 kk (by omega), zi1 hb _ _, e2 kk (by omega), e3 kk (by omega), e4 kk (by omega), hod, fun s' hs' => hn s' ?_⟩) (fun d => absurd (of_decide_eq_false d) (by omega))⟩
     · rcases List.mem_append.1 hx with hx | hx
       · exact ha x hx
       · rw [List.mem_singleton.1 hx]; exact tmod6 a0 a1 (by omega)
     · rw [hs', hw, show OD (L ++ [(⟨k, a, b⟩ : Op3)]) = OD L ++ [N3 k a b] by simp]
       rfl
   | true =>
     obtain ⟨k2, q5, w5, b5, c5, _, _, e5⟩ := zbA hb 13 q4 w4 (by omega) (by omega) (by omega)
     obtain ⟨a2, q6, w6, ha2, b6, c6, e6⟩ := zfm hb true [-1, 60, 5] q5 w5 (by omega) (by omega) (by decide)
     obtain ⟨b2', q7, w7, b7, c7, _, _, e7⟩ := zbA hb 3 q6 w6 (by omega) (by omega) (by omega)
     refine ⟨(L ++ [⟨k2, a2, b2'⟩], q7, w7), ⟨fun x hx => ?_, by simp [hl], by show p ≤ q7; omega, by show q7 ≤ _; omega⟩, fun kk hkk m s K hs hn => zhN kk m cs (OD L) n i k a b k2 a2 b2' true q w q1 w1 q2 w2 q3 w3 q4 w4 q5 w5 q6 w6 q7 w7 hs (fun _ _ => ⟨e1 kk (by omega), zi1 hb _ _, e2 kk (by omega), e3 kk (by omega), e4 kk (by omega), e5 kk (by omega), e6 kk (by omega), zi1 hb _ _, e7 kk (by omega), hod, fun s' hs' => hn s' ?_⟩) (fun _ d => by cases d) (fun d => absurd (of_decide_eq_false d) (by omega))⟩
     · rcases List.mem_append.1 hx with hx | hx
       · exact ha x hx
       · rw [List.mem_singleton.1 hx]
         show In64 a2
         simp only [List.mem_cons, List.not_mem_nil, or_false] at ha2
         unfold In64
         omega
     · rw [hs', hw, show OD (L ++ [(⟨k2, a2, b2'⟩ : Op3)]) = OD L ++ [N3 k2 a2 b2'] by simp]
       rfl)
  (fun t hP kk hkk q s K hs hK => zhN kk q cs (OD t.1) n _ 0 0 0 0 0 0 true t.2.1 t.2.2 0 0 0 0 0 0 0 0 0 0 0 0 0 0 hs (fun d => absurd (of_decide_eq_true d) (by omega)) (fun d => absurd (of_decide_eq_true d) (by omega)) (fun _ => hK))
  (s0 := hd68 cs [] n p u 0) rfl
 obtain ⟨L, q, w⟩ := t
 obtain ⟨ha, hl, hp0, hp1⟩ := ht
 exact ⟨L, q, w, ha, by have : L.length = n.toNat := hl; show L.length ≤ 200; omega, hp0, by show q ≤ _; have : q ≤ p + 20 * (n.toNat : Int) := hp1; omega, la⟩
theorem zlS {cs : List Dat} (hb : Bs cs) (p u : Int) (h0 : 0 ≤ p) (h1 : p ≤ 50000) : ∃ (L : List Op3) (p' u' : Int), (∀ x ∈ L, In64 x.a) ∧ L.length ≤ 400 ∧ p ≤ p' ∧ p' ≤ p + 5000 ∧
 EvN 301 68 [cp] [Cur cs p u] [] ([.own 72 (OD L)], [Cur cs p' u'], []) := by
 obtain ⟨z, q1, w1, b1, c1, z0, z1, e1⟩ := zbA hb 40 p u h0 (by omega) (by omega)
 obtain ⟨g, q2, w2, b2, c2, e2⟩ := zka hb 8 q1 w1 (by omega) (by omega) (by omega)
 obtain ⟨y, q3, w3, b3, c3, y0, y1, e3⟩ := zbA hb 61 q2 w2 (by omega) (by omega) (by omega)
 obtain ⟨n, q4, w4, hn0, hn1, b4, c4, hg, hng⟩ : ∃ n q4 w4 : Int, 0 ≤ n ∧ n ≤ 200 ∧ q2 ≤ q4 ∧ q4 ≤ q2 + 2 ∧ (g = true → n = w64 (90 + y) ∧ q4 = q3 ∧ w4 = w3) ∧ (g = false → n = z ∧ q4 = q2 ∧ w4 = w2) := by
  by_cases hg : g = true
  · exact ⟨w64 (90 + y), q3, w3, by rw [za6 (by omega)]; omega, by rw [za6 (by omega)]; omega, b3, c3, fun _ => ⟨rfl, rfl, rfl⟩, fun e => absurd (hg.symm.trans e) (by decide)⟩
  · exact ⟨z, q2, w2, z0, by omega, Int.le_refl _, by omega, fun e => absurd e hg, fun _ => ⟨rfl, rfl, rfl⟩⟩
 obtain ⟨L, q5, w5, ha, hl, b5, c5, la⟩ := zjS hb n q4 w4 hn0 hn1 (by omega) (by omega)
 obtain ⟨g42, q6, w6, b6, c6, e6⟩ := zka hb 60 q5 w5 (by omega) (by omega) (by omega)
 have hlen : (OD L).length + 150 ≤ 2147483648 := by rw [List.length_map]; omega
 have hz : OD (L ++ List.replicate 150 ⟨0, 0, 0⟩) = OD L ++ List.replicate 150 (N3 0 0 0) := by simp
 have hhd : ∀ (p p' u u' m m' : Int), p = p' → u = u' → m = m' → hd68 cs [] m p u 0 = hd68 cs [] m' p' u' 0 := fun _ _ _ _ _ _ a b c => by rw [a, b, c]
 refine ⟨if g42 = true then L ++ List.replicate 150 ⟨0, 0, 0⟩ else L, q6, w6, ?_, ?_, by omega, by omega, zaq Tryd.f68 300 (by kernel_rfl) (by kernel_rfl) fun kk hkk => ?_⟩
 · intro x hx
   split at hx
   · rcases List.mem_append.1 hx with hx | hx
     · exact ha x hx
     · rw [(List.mem_replicate.1 hx).2]; exact ⟨by decide, by decide⟩
   · exact ha x hx
 · split
   · simp only [List.length_append, List.length_replicate]; omega
   · exact Nat.le_trans hl (by decide)
 · have E1 := e1 kk (by omega)
   have E2 := e2 kk (by omega)
   have E3 := e3 kk (by omega)
   have E6 := e6 kk (by omega)
   have LA := la kk (by omega)
   refine zp8 kk cs (OD L) z y n g g42 p u q1 w1 q2 w2 q3 w3 q4 w4 q5 w5 q6 w6 (fun d d2 => ⟨E1, E2, E3, ?_, LA, E6, hlen, ?_⟩) (fun d d2 => ⟨E1, E2, E3, ?_, LA, E6, ?_⟩) (fun d d2 => ⟨E1, E2, ?_, LA, E6, hlen, ?_⟩) (fun d d2 => ⟨E1, E2, ?_, LA, E6, ?_⟩)
   · obtain ⟨a, b, c⟩ := hg d
     rw [a, b, c]; rfl
   · rw [if_pos d2, hz]; rfl
   · obtain ⟨a, b, c⟩ := hg d
     rw [a, b, c]; rfl
   · rw [if_neg (by rw [d2]; decide)]
   · obtain ⟨a, b, c⟩ := hng d
     rw [a, b, c]; rfl
   · rw [if_pos d2, hz]; rfl
   · obtain ⟨a, b, c⟩ := hng d
     rw [a, b, c]; rfl
   · rw [if_neg (by rw [d2]; decide)]
end Go.Den
namespace Go.Den
open Go.Proofs
open Go
set_option linter.unusedVariables false
set_option maxRecDepth 100000
theorem ziT (kk : Nat) (cs : List Dat) (ops : List Dat) (z k x y nur : Int) (full : Bool) (out : ByteArray) (o1 : Int) (cs1 rs1 ns1 : List Dat)(p u : Int) (p1 u1 : Int) (p2 u2 : Int) (p3 u3 : Int) (p4 u4 : Int) {r : Res} (q1 : (tT ((ops.length : Int) ≤ 150)) → (tT (k = 0)) → (fU kk 54 [D.ptr (Ref.up 0) 0, D.dat (I 20)] [(fC cs p u)] [D.dat (I z)] [(fC cs p1 u1)]) ∧ (fU kk 68 [D.ptr (Ref.up 0) 0] [(fC cs p1 u1)] [D.own 72 ops] [(fC cs p2 u2)]) ∧ (fU kk 47 [D.ptr (Ref.up 0) 0, D.dat (Dat.lst true ops)] [(fL 0 [] [] [] 200 (w64 (1 + z)) false false ByteArray.empty)] [] [(fL o1 cs1 rs1 ns1 200 (w64 (1 + z)) false full out)]) ∧ ((true && !(true && (true && zam [(fL o1 cs1 rs1 ns1 200 (w64 (1 + z)) false full out)])) || false) = false) ∧ (fU kk 54 [D.ptr (Ref.up 0) 0, D.dat (I 30)] [(fC cs p2 u2)] [D.dat (I k)] [(fC cs p3 u3)]) ∧ (fU kk 69 [D.ptr (Ref.up 0) 0, D.dat (Dat.lst true [I (-1), I 0, I (cs1.length : Int), I (w64 ((cs1.length : Int) + 1))])] [(fC cs p3 u3)] [D.dat (I x)] [(fC cs p4 u4)]) ∧ ((true && !(true && (true && zam [(fC cs p4 u4)])) || false) = false) ∧ r = ([D.dat (fA false x cs1 rs1 ns1)], [(fC cs p4 u4)], [])) (q2 : (tT ((ops.length : Int) ≤ 150)) → (tF (k = 0)) → (tT (k = 1)) → (fU kk 54 [D.ptr (Ref.up 0) 0, D.dat (I 20)] [(fC cs p u)] [D.dat (I z)] [(fC cs p1 u1)]) ∧ (fU kk 68 [D.ptr (Ref.up 0) 0] [(fC cs p1 u1)] [D.own 72 ops] [(fC cs p2 u2)]) ∧ (fU kk 47 [D.ptr (Ref.up 0) 0, D.dat (Dat.lst true ops)] [(fL 0 [] [] [] 200 (w64 (1 + z)) false false ByteArray.empty)] [] [(fL o1 cs1 rs1 ns1 200 (w64 (1 + z)) false full out)]) ∧ ((true && !(true && (true && zam [(fL o1 cs1 rs1 ns1 200 (w64 (1 + z)) false full out)])) || false) = false) ∧ (fU kk 54 [D.ptr (Ref.up 0) 0, D.dat (I 30)] [(fC cs p2 u2)] [D.dat (I k)] [(fC cs p3 u3)]) ∧ (fU kk 54 [D.ptr (Ref.up 0) 0, D.dat (I 9)] [(fC cs p3 u3)] [D.dat (I y)] [(fC cs p4 u4)]) ∧ (ns1.length + 1 ≤ 2147483648) ∧ r = ([D.dat (fA false o1 cs1 rs1 (ns1 ++ [I (w64 (y - 1))]))], [(fC cs p4 u4)], [])) (q3 : (tT ((ops.length : Int) ≤ 150)) → (tF (k = 0)) → (tF (k = 1)) → (tT (k = 2)) → (fU kk 54 [D.ptr (Ref.up 0) 0, D.dat (I 20)] [(fC cs p u)] [D.dat (I z)] [(fC cs p1 u1)]) ∧ (fU kk 68 [D.ptr (Ref.up 0) 0] [(fC cs p1 u1)] [D.own 72 ops] [(fC cs p2 u2)]) ∧ (fU kk 47 [D.ptr (Ref.up 0) 0, D.dat (Dat.lst true ops)] [(fL 0 [] [] [] 200 (w64 (1 + z)) false false ByteArray.empty)] [] [(fL o1 cs1 rs1 ns1 200 (w64 (1 + z)) false full out)]) ∧ ((true && !(true && (true && zam [(fL o1 cs1 rs1 ns1 200 (w64 (1 + z)) false full out)])) || false) = false) ∧ (fU kk 54 [D.ptr (Ref.up 0) 0, D.dat (I 30)] [(fC cs p2 u2)] [D.dat (I k)] [(fC cs p3 u3)]) ∧ r = ([D.dat (fA false o1 cs1 rs1 [])], [(fC cs p3 u3)], [])) (q4 : (tT ((ops.length : Int) ≤ 150)) → (tF (k = 0)) → (tF (k = 1)) → (tF (k = 2)) → (fU kk 54 [D.ptr (Ref.up 0) 0, D.dat (I 20)] [(fC cs p u)] [D.dat (I z)] [(fC cs p1 u1)]) ∧ (fU kk 68 [D.ptr (Ref.up 0) 0] [(fC cs p1 u1)] [D.own 72 ops] [(fC cs p2 u2)]) ∧ (fU kk 47 [D.ptr (Ref.up 0) 0, D.dat (Dat.lst true ops)] [(fL 0 [] [] [] 200 (w64 (1 + z)) false false ByteArray.empty)] [] [(fL o1 cs1 rs1 ns1 200 (w64 (1 + z)) false full out)]) ∧ ((true && !(true && (true && zam [(fL o1 cs1 rs1 ns1 200 (w64 (1 + z)) false full out)])) || false) = false) ∧ (fU kk 54 [D.ptr (Ref.up 0) 0, D.dat (I 30)] [(fC cs p2 u2)] [D.dat (I k)] [(fC cs p3 u3)]) ∧ r = ([D.dat (fA false o1 cs1 rs1 ns1)], [(fC cs p3 u3)], [])) (q5 : (tF ((ops.length : Int) ≤ 150)) → (tT (k = 0)) → (fU kk 54 [D.ptr (Ref.up 0) 0, D.dat (I 20)] [(fC cs p u)] [D.dat (I z)] [(fC cs p1 u1)]) ∧ (fU kk 68 [D.ptr (Ref.up 0) 0] [(fC cs p1 u1)] [D.own 72 ops] [(fC cs p2 u2)]) ∧ (fU kk 54 [D.ptr (Ref.up 0) 0, D.dat (I 30)] [(fC cs p2 u2)] [D.dat (I k)] [(fC cs p3 u3)]) ∧ (fU kk 69 [D.ptr (Ref.up 0) 0, D.dat (Dat.lst true [I (-1), I 0, I ↑0, I (w64 (↑0 + 1))])] [(fC cs p3 u3)] [D.dat (I x)] [(fC cs p4 u4)]) ∧ ((true && !(true && (true && zam [(fC cs p4 u4)])) || false) = false) ∧ r = ([D.dat (fA false x [] [] [])], [(fC cs p4 u4)], [])) (q6 : (tF ((ops.length : Int) ≤ 150)) → (tF (k = 0)) → (tT (k = 1)) → (fU kk 54 [D.ptr (Ref.up 0) 0, D.dat (I 20)] [(fC cs p u)] [D.dat (I z)] [(fC cs p1 u1)]) ∧ (fU kk 68 [D.ptr (Ref.up 0) 0] [(fC cs p1 u1)] [D.own 72 ops] [(fC cs p2 u2)]) ∧ (fU kk 54 [D.ptr (Ref.up 0) 0, D.dat (I 30)] [(fC cs p2 u2)] [D.dat (I k)] [(fC cs p3 u3)]) ∧ (fU kk 54 [D.ptr (Ref.up 0) 0, D.dat (I 9)] [(fC cs p3 u3)] [D.dat (I y)] [(fC cs p4 u4)]) ∧ (1 ≤ 2147483648) ∧ r = ([D.dat (Dat.agg [I 0, Dat.lst false [], Dat.lst false [], Dat.lst false [I (w64 (y - 1))]])], [(fC cs p4 u4)], [])) (q7 : (tF ((ops.length : Int) ≤ 150)) → (tF (k = 0)) → (tF (k = 1)) → (tT (k = 2)) → (fU kk 54 [D.ptr (Ref.up 0) 0, D.dat (I 20)] [(fC cs p u)] [D.dat (I z)] [(fC cs p1 u1)]) ∧ (fU kk 68 [D.ptr (Ref.up 0) 0] [(fC cs p1 u1)] [D.own 72 ops] [(fC cs p2 u2)]) ∧ (fU kk 54 [D.ptr (Ref.up 0) 0, D.dat (I 30)] [(fC cs p2 u2)] [D.dat (I k)] [(fC cs p3 u3)]) ∧ r = ([D.dat (fA false 0 [] [] [])], [(fC cs p3 u3)], [])) (q8 : (tF ((ops.length : Int) ≤ 150)) → (tF (k = 0)) → (tF (k = 1)) → (tF (k = 2)) → (fU kk 54 [D.ptr (Ref.up 0) 0, D.dat (I 20)] [(fC cs p u)] [D.dat (I z)] [(fC cs p1 u1)]) ∧ (fU kk 68 [D.ptr (Ref.up 0) 0] [(fC cs p1 u1)] [D.own 72 ops] [(fC cs p2 u2)]) ∧ (fU kk 54 [D.ptr (Ref.up 0) 0, D.dat (I 30)] [(fC cs p2 u2)] [D.dat (I k)] [(fC cs p3 u3)]) ∧ r = ([D.dat (fA false 0 [] [] [])], [(fC cs p3 u3)], [])) : zak cfg kk (den cfg kk) 53 Tryd.f53 [.ptr (.up 0) 0] [(fC cs p u)] [] = some r := by
 rcases Bool.eq_false_or_eq_true (decide ((ops.length : Int) ≤ 150)) with d5 | d5
 · rcases Bool.eq_false_or_eq_true (decide (k = 0)) with d10 | d10
   · obtain ⟨hz1, hz2, hz3, hz4, hz5, hz6, hz7, oz⟩ := q1 d5 d10
     subst oz; exact zaa [(7, .back [.dat (I z)] [(fC cs p1 u1)] []), (12, .back [.own 72 ops] [(fC cs p2 u2)] []), (18, .back [] [(fL o1 cs1 rs1 ns1 200 (w64 (1 + z)) false full out)] []), (24, .back [.dat (I k)] [(fC cs p3 u3)] []), (36, .back [.dat (I x)] [(fC cs p4 u4)] []), (43, .back [.dat (I y)] [(fC cs p4 u4)] []), (46, .ok), (200015, .yes), (200025, .yes)] (ob hz1 (ob rF (ob hz2 (ob rF (ob d5 (ob hz3 (ob hz4 (ob hz5 (ob rF (ob d10 (ob hz6 (ob hz7 ob0)))))))))))) (by kernel_rfl)
   · rcases Bool.eq_false_or_eq_true (decide (k = 1)) with d11 | d11
     · obtain ⟨hz1, hz2, hz3, hz4, hz5, hz6, hz7, oz⟩ := q2 d5 d10 d11
       subst oz; exact zaa [(7, .back [.dat (I z)] [(fC cs p1 u1)] []), (12, .back [.own 72 ops] [(fC cs p2 u2)] []), (18, .back [] [(fL o1 cs1 rs1 ns1 200 (w64 (1 + z)) false full out)] []), (24, .back [.dat (I k)] [(fC cs p3 u3)] []), (36, .back [.dat (I x)] [(fC cs p4 u4)] []), (43, .back [.dat (I y)] [(fC cs p4 u4)] []), (46, .ok), (200015, .yes), (200025, .no), (200038, .yes)] (ob hz1 (ob rF (ob hz2 (ob rF (ob d5 (ob hz3 (ob hz4 (ob hz5 (ob rF (ob d10 (ob d11 (ob hz6 (ob rF (ob (obT hz7) ob0)))))))))))))) (by kernel_rfl)
     · rcases Bool.eq_false_or_eq_true (decide (k = 2)) with d12 | d12
       · obtain ⟨hz1, hz2, hz3, hz4, hz5, oz⟩ := q3 d5 d10 d11 d12
         subst oz; exact zaa [(7, .back [.dat (I z)] [(fC cs p1 u1)] []), (12, .back [.own 72 ops] [(fC cs p2 u2)] []), (18, .back [] [(fL o1 cs1 rs1 ns1 200 (w64 (1 + z)) false full out)] []), (24, .back [.dat (I k)] [(fC cs p3 u3)] []), (36, .back [.dat (I x)] [(fC cs p4 u4)] []), (43, .back [.dat (I y)] [(fC cs p4 u4)] []), (46, .ok), (200015, .yes), (200025, .no), (200038, .no), (200048, .yes)] (ob hz1 (ob rF (ob hz2 (ob rF (ob d5 (ob hz3 (ob hz4 (ob hz5 (ob rF (ob d10 (ob d11 (ob d12 ob0)))))))))))) (by kernel_rfl)
       · obtain ⟨hz1, hz2, hz3, hz4, hz5, oz⟩ := q4 d5 d10 d11 d12
         subst oz; exact zaa [(7, .back [.dat (I z)] [(fC cs p1 u1)] []), (12, .back [.own 72 ops] [(fC cs p2 u2)] []), (18, .back [] [(fL o1 cs1 rs1 ns1 200 (w64 (1 + z)) false full out)] []), (24, .back [.dat (I k)] [(fC cs p3 u3)] []), (36, .back [.dat (I x)] [(fC cs p4 u4)] []), (43, .back [.dat (I y)] [(fC cs p4 u4)] []), (46, .ok), (200015, .yes), (200025, .no), (200038, .no), (200048, .no)] (ob hz1 (ob rF (ob hz2 (ob rF (ob d5 (ob hz3 (ob hz4 (ob hz5 (ob rF (ob d10 (ob d11 (ob d12 ob0)))))))))))) (by kernel_rfl)
 · rcases Bool.eq_false_or_eq_true (decide (k = 0)) with d8 | d8
   · obtain ⟨hz1, hz2, hz3, hz4, hz5, oz⟩ := q5 d5 d8
     subst oz; exact zaa [(7, .back [.dat (I z)] [(fC cs p1 u1)] []), (12, .back [.own 72 ops] [(fC cs p2 u2)] []), (18, .back [] [(fL o1 cs1 rs1 ns1 200 (w64 (1 + z)) false full out)] []), (24, .back [.dat (I k)] [(fC cs p3 u3)] []), (36, .back [.dat (I x)] [(fC cs p4 u4)] []), (43, .back [.dat (I y)] [(fC cs p4 u4)] []), (46, .ok), (200015, .no), (200025, .yes)] (ob hz1 (ob rF (ob hz2 (ob rF (ob d5 (ob hz3 (ob rF (ob d8 (ob hz4 (ob hz5 ob0)))))))))) (by kernel_rfl)
   · rcases Bool.eq_false_or_eq_true (decide (k = 1)) with d9 | d9
     · obtain ⟨hz1, hz2, hz3, hz4, hz5, oz⟩ := q6 d5 d8 d9
       subst oz; exact zaa [(7, .back [.dat (I z)] [(fC cs p1 u1)] []), (12, .back [.own 72 ops] [(fC cs p2 u2)] []), (18, .back [] [(fL o1 cs1 rs1 ns1 200 (w64 (1 + z)) false full out)] []), (24, .back [.dat (I k)] [(fC cs p3 u3)] []), (36, .back [.dat (I x)] [(fC cs p4 u4)] []), (43, .back [.dat (I y)] [(fC cs p4 u4)] []), (46, .ok), (200015, .no), (200025, .no), (200038, .yes)] (ob hz1 (ob rF (ob hz2 (ob rF (ob d5 (ob hz3 (ob rF (ob d8 (ob d9 (ob hz4 (ob rF (ob (obT hz5) ob0)))))))))))) (by kernel_rfl)
     · rcases Bool.eq_false_or_eq_true (decide (k = 2)) with d10 | d10
       · obtain ⟨hz1, hz2, hz3, oz⟩ := q7 d5 d8 d9 d10
         subst oz; exact zaa [(7, .back [.dat (I z)] [(fC cs p1 u1)] []), (12, .back [.own 72 ops] [(fC cs p2 u2)] []), (18, .back [] [(fL o1 cs1 rs1 ns1 200 (w64 (1 + z)) false full out)] []), (24, .back [.dat (I k)] [(fC cs p3 u3)] []), (36, .back [.dat (I x)] [(fC cs p4 u4)] []), (43, .back [.dat (I y)] [(fC cs p4 u4)] []), (46, .ok), (200015, .no), (200025, .no), (200038, .no), (200048, .yes)] (ob hz1 (ob rF (ob hz2 (ob rF (ob d5 (ob hz3 (ob rF (ob d8 (ob d9 (ob d10 ob0)))))))))) (by kernel_rfl)
       · obtain ⟨hz1, hz2, hz3, oz⟩ := q8 d5 d8 d9 d10
         subst oz; exact zaa [(7, .back [.dat (I z)] [(fC cs p1 u1)] []), (12, .back [.own 72 ops] [(fC cs p2 u2)] []), (18, .back [] [(fL o1 cs1 rs1 ns1 200 (w64 (1 + z)) false full out)] []), (24, .back [.dat (I k)] [(fC cs p3 u3)] []), (36, .back [.dat (I x)] [(fC cs p4 u4)] []), (43, .back [.dat (I y)] [(fC cs p4 u4)] []), (46, .ok), (200015, .no), (200025, .no), (200038, .no), (200048, .no)] (ob hz1 (ob rF (ob hz2 (ob rF (ob d5 (ob hz3 (ob rF (ob d8 (ob d9 (ob d10 ob0)))))))))) (by kernel_rfl)
theorem zpW (kk : Nat) (cs : List Dat) (b : Bool) (a t : Int) (g : Bool) (o1 : Int) (cs1 rs1 ns1 : List Dat)(p u : Int) (p1 u1 : Int) (p2 u2 : Int) (p3 u3 : Int) (p4 u4 : Int) {r : Res} (q1 : (fU kk 53 [D.ptr (Ref.up 0) 0] [(fC cs 0 0)] [D.dat (fA b o1 cs1 rs1 ns1)] [(fC cs p1 u1)]) ∧ (fU kk 54 [D.ptr (Ref.up 0) 0, D.dat (I (w64 ((cs1.length : Int) + 2)))] [(fC cs p1 u1)] [D.dat (I a)] [(fC cs p2 u2)]) ∧ (fU kk 55 [D.ptr (Ref.up 0) 0, D.dat (I 2)] [(fC cs p2 u2)] [D.dat (B g)] [(fC cs p3 u3)]) ∧ (fU kk 54 [D.ptr (Ref.up 0) 0, D.dat (I (w64 ((cs1.length : Int) + 2)))] [(fC cs p3 u3)] [D.dat (I t)] [(fC cs p4 u4)]) ∧ r = ([D.dat (fA b o1 cs1 rs1 ns1), D.dat (I (w64 (a - 1))), D.dat (B g), D.dat (I (w64 (t - 1)))], [], [])) : zak cfg kk (den cfg kk) 27 Tryd.f27 [.dat (Dat.lst false cs)] [] [] = some r := by
 obtain ⟨hz1, hz2, hz3, hz4, oz⟩ := q1
 subst oz; exact zaa [(12, .back [.dat (Yd b o1 cs1 rs1 ns1)] [(fC cs p1 u1)] []), (19, .back [.dat (I a)] [(fC cs p2 u2)] []), (22, .back [.dat (B g)] [(fC cs p3 u3)] []), (28, .back [.dat (I t)] [(fC cs p4 u4)] [])] (ob hz1 (ob rF (ob hz2 (ob hz3 (ob hz4 ob0))))) (by kernel_rfl)
theorem zoC (kk : Nat) (b : Bool) (o : Int) (cs rs ns : List Dat) (at_ : Int) (second : Bool) (to : Int) (good g21 g35 : Bool) (o1 : Int) (cs1 rs1 ns1 : List Dat) (o2 : Int) (cs2 rs2 ns2 : List Dat) (c28 : Cl) {r : Res} (q1 : ((!good) = true) → (fD kk 33 [D.dat (fA b o cs rs ns)] [D.dat (B good)]) ∧ r = ([D.dat (fA false 0 [] [] []), D.dat (B false)], [], [])) (q2 : ((!good) = false) → ((!g21) = true) → (fD kk 33 [D.dat (fA b o cs rs ns)] [D.dat (B good)]) ∧ (fD kk 43 [D.dat (I at_), D.dat (I (cs.length : Int))] [D.dat (B g21)]) ∧ r = ([D.dat (fA false 0 [] [] []), D.dat (B false)], [], [])) (q3 : ((!good) = false) → ((!g21) = false) → (c28.l = true) → (fD kk 33 [D.dat (fA b o cs rs ns)] [D.dat (B good)]) ∧ (fD kk 43 [D.dat (I at_), D.dat (I (cs.length : Int))] [D.dat (B g21)]) ∧ ((0 ≤ at_ ∧ at_ < (cs.length : Int)) ∧ cs[at_.toNat]? = some (fE c28.l c28.n c28.a c28.b)) ∧ r = ([D.dat (fA false 0 [] [] []), D.dat (B false)], [], [])) (q4 : ((!good) = false) → ((!g21) = false) → (c28.l = false) → ((!g35) = true) → (fD kk 33 [D.dat (fA b o cs rs ns)] [D.dat (B good)]) ∧ (fD kk 43 [D.dat (I at_), D.dat (I (cs.length : Int))] [D.dat (B g21)]) ∧ ((0 ≤ at_ ∧ at_ < (cs.length : Int)) ∧ cs[at_.toNat]? = some (fE c28.l c28.n c28.a c28.b)) ∧ (fD kk 43 [D.dat (I to), D.dat (I (cs.length : Int))] [D.dat (B g35)]) ∧ r = ([D.dat (fA false 0 [] [] []), D.dat (B false)], [], [])) (q5 : ((!good) = false) → ((!g21) = false) → (c28.l = false) → ((!g35) = false) → (fD kk 33 [D.dat (fA b o cs rs ns)] [D.dat (B good)]) ∧ (fD kk 43 [D.dat (I at_), D.dat (I (cs.length : Int))] [D.dat (B g21)]) ∧ ((0 ≤ at_ ∧ at_ < (cs.length : Int)) ∧ cs[at_.toNat]? = some (fE c28.l c28.n c28.a c28.b)) ∧ (fD kk 43 [D.dat (I to), D.dat (I (cs.length : Int))] [D.dat (B g35)]) ∧ (fD kk 56 [D.dat (fA b o cs rs ns)] [D.seq false (fY o1 cs1 rs1 ns1)]) ∧ (fU kk 57 [D.ptr (Ref.up 0) 0, D.dat (I at_), D.dat (B second), D.dat (I to)] [(fY o1 cs1 rs1 ns1)] [] [(fY o2 cs2 rs2 ns2)]) ∧ r = ([D.dat (fA false o2 cs2 rs2 ns2), D.dat (B true)], [], [])) : zak cfg kk (den cfg kk) 28 Tryd.f28 [.dat (Yd b o cs rs ns), .dat (I at_), .dat (B second), .dat (I to)] [] [] = some r := by
 rcases Bool.eq_false_or_eq_true ((!good)) with d2 | d2
 · obtain ⟨hz1, oz⟩ := q1 d2
   subst oz; exact zaa [(16, .ret [.dat (B good)]), (21, .ret [.dat (B g21)]), (35, .ret [.dat (B g35)]), (40, .ret [.seq false (fY o1 cs1 rs1 ns1)]), (44, .back [] [(fY o2 cs2 rs2 ns2)] []), (28, .at (c28.d)), (200018, .yes)] (ob hz1 (ob d2 (ob rT (ob rT (ob rT ob0))))) (by kernel_rfl)
 · rcases Bool.eq_false_or_eq_true ((!g21)) with d7 | d7
   · obtain ⟨hz1, hz2, oz⟩ := q2 d2 d7
     subst oz; exact zaa [(16, .ret [.dat (B good)]), (21, .ret [.dat (B g21)]), (35, .ret [.dat (B g35)]), (40, .ret [.seq false (fY o1 cs1 rs1 ns1)]), (44, .back [] [(fY o2 cs2 rs2 ns2)] []), (28, .at (c28.d)), (200018, .no), (200024, .yes)] (ob hz1 (ob d2 (ob rF (ob rF (ob hz2 (ob rF (ob d7 (ob rT (ob rT (ob rT (ob rT (ob rT ob0)))))))))))) (by kernel_rfl)
   · rcases Bool.eq_false_or_eq_true (c28.l) with d14 | d14
     · obtain ⟨hz1, hz2, hz3, oz⟩ := q3 d2 d7 d14
       subst oz; exact zaa [(16, .ret [.dat (B good)]), (21, .ret [.dat (B g21)]), (35, .ret [.dat (B g35)]), (40, .ret [.seq false (fY o1 cs1 rs1 ns1)]), (44, .back [] [(fY o2 cs2 rs2 ns2)] []), (28, .at (c28.d)), (200018, .no), (200024, .no), (200032, .yes)] (ob hz1 (ob d2 (ob rF (ob rF (ob hz2 (ob rF (ob d7 (ob rF (ob rF (ob rF (ob hz3 (ob rF (ob rF (ob d14 (ob rT (ob rT (ob rT ob0))))))))))))))))) (by kernel_rfl)
     · rcases Bool.eq_false_or_eq_true ((!g35)) with d19 | d19
       · obtain ⟨hz1, hz2, hz3, hz4, oz⟩ := q4 d2 d7 d14 d19
         subst oz; exact zaa [(16, .ret [.dat (B good)]), (21, .ret [.dat (B g21)]), (35, .ret [.dat (B g35)]), (40, .ret [.seq false (fY o1 cs1 rs1 ns1)]), (44, .back [] [(fY o2 cs2 rs2 ns2)] []), (28, .at (c28.d)), (200018, .no), (200024, .no), (200032, .no), (200037, .yes)] (ob hz1 (ob d2 (ob rF (ob rF (ob hz2 (ob rF (ob d7 (ob rF (ob rF (ob rF (ob hz3 (ob rF (ob rF (ob d14 (ob rF (ob rF (ob hz4 (ob rF (ob d19 ob0))))))))))))))))))) (by kernel_rfl)
       · obtain ⟨hz1, hz2, hz3, hz4, hz5, hz6, oz⟩ := q5 d2 d7 d14 d19
         subst oz; exact zaa [(16, .ret [.dat (B good)]), (21, .ret [.dat (B g21)]), (35, .ret [.dat (B g35)]), (40, .ret [.seq false (fY o1 cs1 rs1 ns1)]), (44, .back [] [(fY o2 cs2 rs2 ns2)] []), (28, .at (c28.d)), (200018, .no), (200024, .no), (200032, .no), (200037, .no)] (ob hz1 (ob d2 (ob rF (ob rF (ob hz2 (ob rF (ob d7 (ob rF (ob rF (ob rF (ob hz3 (ob rF (ob rF (ob d14 (ob rF (ob rF (ob hz4 (ob rF (ob d19 (ob hz5 (ob hz6 (ob rF ob0)))))))))))))))))))))) (by kernel_rfl)
theorem zkj (kk : Nat) (b : Bool) (o : Int) (cs rs ns : List Dat) (at_ : Int) (second : Bool) (to : Int) (good g19 g28 : Bool) (o1 : Int) (cs1 rs1 ns1 : List Dat) (c35 : Cl) {r : Res} (q1 : ((!good) = true) → (fD kk 38 [D.dat (fA b o cs rs ns)] [D.dat (B good)]) ∧ r = ([D.dat (fA false 0 [] [] []), D.dat (B false)], [], [])) (q2 : ((!good) = false) → ((!g19) = true) → (fD kk 38 [D.dat (fA b o cs rs ns)] [D.dat (B good)]) ∧ (den cfg kk 39 (fG at_ cs) [] [] = some ([D.dat (B g19)], [], [])) ∧ r = ([D.dat (fA false 0 [] [] []), D.dat (B false)], [], [])) (q3 : ((!good) = false) → ((!g19) = false) → ((!g28) = true) → (fD kk 38 [D.dat (fA b o cs rs ns)] [D.dat (B good)]) ∧ (den cfg kk 39 (fG at_ cs) [] [] = some ([D.dat (B g19)], [], [])) ∧ (den cfg kk 39 (fG to cs) [] [] = some ([D.dat (B g28)], [], [])) ∧ r = ([D.dat (fA false 0 [] [] []), D.dat (B false)], [], [])) (q4 : ((!good) = false) → ((!g19) = false) → ((!g28) = false) → (c35.l = true) → (fD kk 38 [D.dat (fA b o cs rs ns)] [D.dat (B good)]) ∧ (den cfg kk 39 (fG at_ cs) [] [] = some ([D.dat (B g19)], [], [])) ∧ (den cfg kk 39 (fG to cs) [] [] = some ([D.dat (B g28)], [], [])) ∧ ((0 ≤ at_ ∧ at_ < (cs.length : Int)) ∧ cs[at_.toNat]? = some (fE c35.l c35.n c35.a c35.b)) ∧ r = ([D.dat (fA false 0 [] [] []), D.dat (B false)], [], [])) (q5 : ((!good) = false) → ((!g19) = false) → ((!g28) = false) → (c35.l = false) → (fD kk 38 [D.dat (fA b o cs rs ns)] [D.dat (B good)]) ∧ (den cfg kk 39 (fG at_ cs) [] [] = some ([D.dat (B g19)], [], [])) ∧ (den cfg kk 39 (fG to cs) [] [] = some ([D.dat (B g28)], [], [])) ∧ ((0 ≤ at_ ∧ at_ < (cs.length : Int)) ∧ cs[at_.toNat]? = some (fE c35.l c35.n c35.a c35.b)) ∧ (fD kk 58 [D.dat (fA b o cs rs ns), D.dat (I at_), D.dat (B second), D.dat (I to)] [D.seq false (fY o1 cs1 rs1 ns1)]) ∧ r = ([D.dat (fA false o1 cs1 rs1 ns1), D.dat (B true)], [], [])) : zak cfg kk (den cfg kk) 29 Tryd.f29 [.dat (Yd b o cs rs ns), .dat (I at_), .dat (B second), .dat (I to)] [] [] = some r := by
 rcases Bool.eq_false_or_eq_true ((!good)) with d2 | d2
 · obtain ⟨hz1, oz⟩ := q1 d2
   subst oz; exact zaa [(11, .ret [.dat (B good)]), (19, .ret [.dat (B g19)]), (28, .ret [.dat (B g28)]), (44, .ret [.seq false (fY o1 cs1 rs1 ns1)]), (35, .at (c35.d)), (200013, .yes)] (ob hz1 (ob d2 (ob rT (ob rT (ob rT (ob rT (ob rT (ob rT ob0)))))))) (by kernel_rfl)
 · rcases Bool.eq_false_or_eq_true ((!g19)) with d10 | d10
   · obtain ⟨hz1, hz2, oz⟩ := q2 d2 d10
     subst oz; exact zaa [(11, .ret [.dat (B good)]), (19, .ret [.dat (B g19)]), (28, .ret [.dat (B g28)]), (44, .ret [.seq false (fY o1 cs1 rs1 ns1)]), (35, .at (c35.d)), (200013, .no), (200022, .yes)] (ob hz1 (ob d2 (ob rF (ob rF (ob rF (ob rF (ob rF (ob hz2 (ob rF (ob d10 (ob rT (ob rT (ob rT (ob rT (ob rT (ob rT ob0)))))))))))))))) (by kernel_rfl)
   · rcases Bool.eq_false_or_eq_true ((!g28)) with d18 | d18
     · obtain ⟨hz1, hz2, hz3, oz⟩ := q3 d2 d10 d18
       subst oz; exact zaa [(11, .ret [.dat (B good)]), (19, .ret [.dat (B g19)]), (28, .ret [.dat (B g28)]), (44, .ret [.seq false (fY o1 cs1 rs1 ns1)]), (35, .at (c35.d)), (200013, .no), (200022, .no), (200031, .yes)] (ob hz1 (ob d2 (ob rF (ob rF (ob rF (ob rF (ob rF (ob hz2 (ob rF (ob d10 (ob rF (ob rF (ob rF (ob rF (ob rF (ob hz3 (ob rF (ob d18 (ob rT (ob rT (ob rT (ob rT (ob rT ob0))))))))))))))))))))))) (by kernel_rfl)
     · rcases Bool.eq_false_or_eq_true (c35.l) with d25 | d25
       · obtain ⟨hz1, hz2, hz3, hz4, oz⟩ := q4 d2 d10 d18 d25
         subst oz; exact zaa [(11, .ret [.dat (B good)]), (19, .ret [.dat (B g19)]), (28, .ret [.dat (B g28)]), (44, .ret [.seq false (fY o1 cs1 rs1 ns1)]), (35, .at (c35.d)), (200013, .no), (200022, .no), (200031, .no), (200038, .yes)] (ob hz1 (ob d2 (ob rF (ob rF (ob rF (ob rF (ob rF (ob hz2 (ob rF (ob d10 (ob rF (ob rF (ob rF (ob rF (ob rF (ob hz3 (ob rF (ob d18 (ob rF (ob rF (ob rF (ob hz4 (ob rF (ob rF (ob d25 ob0))))))))))))))))))))))))) (by kernel_rfl)
       · obtain ⟨hz1, hz2, hz3, hz4, hz5, oz⟩ := q5 d2 d10 d18 d25
         subst oz; exact zaa [(11, .ret [.dat (B good)]), (19, .ret [.dat (B g19)]), (28, .ret [.dat (B g28)]), (44, .ret [.seq false (fY o1 cs1 rs1 ns1)]), (35, .at (c35.d)), (200013, .no), (200022, .no), (200031, .no), (200038, .no)] (ob hz1 (ob d2 (ob rF (ob rF (ob rF (ob rF (ob rF (ob hz2 (ob rF (ob d10 (ob rF (ob rF (ob rF (ob rF (ob rF (ob hz3 (ob rF (ob d18 (ob rF (ob rF (ob rF (ob hz4 (ob rF (ob rF (ob d25 (ob hz5 ob0)))))))))))))))))))))))))) (by kernel_rfl)
theorem zqG (kk : Nat) (b : Bool) (o : Int) (cs rs ns : List Dat) (good : Bool) (o1 : Int) (cs1 rs1 ns1 : List Dat) {r : Res} (q1 : ((!good) = true) → (fD kk 33 [D.dat (fA b o cs rs ns)] [D.dat (B good)]) ∧ r = ([D.dat (fA false 0 [] [] []), D.dat (B false)], [], [])) (q2 : ((!good) = false) → (fD kk 33 [D.dat (fA b o cs rs ns)] [D.dat (B good)]) ∧ (fD kk 59 [D.dat (fA b o cs rs ns)] [D.seq false (fY o1 cs1 rs1 ns1)]) ∧ r = ([D.dat (fA false o1 cs1 rs1 ns1), D.dat (B true)], [], [])) : zak cfg kk (den cfg kk) 30 Tryd.f30 [.dat (Yd b o cs rs ns)] [] [] = some r := by
 rcases Bool.eq_false_or_eq_true ((!good)) with d2 | d2
 · obtain ⟨hz1, oz⟩ := q1 d2
   subst oz; exact zaa [(5, .ret [.dat (B good)]), (9, .ret [.seq false (fY o1 cs1 rs1 ns1)]), (200006, .yes)] (ob hz1 (ob d2 ob0)) (by kernel_rfl)
 · obtain ⟨hz1, hz2, oz⟩ := q2 d2
   subst oz; exact zaa [(5, .ret [.dat (B good)]), (9, .ret [.seq false (fY o1 cs1 rs1 ns1)]), (200006, .no)] (ob hz1 (ob d2 (ob hz2 ob0))) (by kernel_rfl)
theorem iFull (kk : Nat) (b : Bool) (o : Int) (cs rs ns : List Dat) (good : Bool) (o1 : Int) (cs1 rs1 ns1 : List Dat) {r : Res} (q1 : ((!good) = true) → (fD kk 33 [D.dat (fA b o cs rs ns)] [D.dat (B good)]) ∧ r = ([D.dat (fA false 0 [] [] []), D.dat (B false)], [], [])) (q2 : ((!good) = false) → (fD kk 33 [D.dat (fA b o cs rs ns)] [D.dat (B good)]) ∧ (fD kk 60 [D.dat (fA b o cs rs ns)] [D.seq false (fY o1 cs1 rs1 ns1)]) ∧ r = ([D.dat (fA false o1 cs1 rs1 ns1), D.dat (B true)], [], [])) : zak cfg kk (den cfg kk) 31 Tryd.f31 [.dat (Yd b o cs rs ns)] [] [] = some r := by
 rcases Bool.eq_false_or_eq_true ((!good)) with d2 | d2
 · obtain ⟨hz1, oz⟩ := q1 d2
   subst oz; exact zaa [(5, .ret [.dat (B good)]), (9, .ret [.seq false (fY o1 cs1 rs1 ns1)]), (200006, .yes)] (ob hz1 (ob d2 ob0)) (by kernel_rfl)
 · obtain ⟨hz1, hz2, oz⟩ := q2 d2
   subst oz; exact zaa [(5, .ret [.dat (B good)]), (9, .ret [.seq false (fY o1 cs1 rs1 ns1)]), (200006, .no)] (ob hz1 (ob d2 (ob hz2 ob0))) (by kernel_rfl)
theorem iLive (kk : Nat) (b : Bool) (o : Int) (cs rs ns : List Dat) (good : Bool) (ks l : List Dat) {r : Res} (q1 : ((!good) = true) → (fD kk 33 [D.dat (fA b o cs rs ns)] [D.dat (B good)]) ∧ r = ([D.own 3 [], D.dat (B false)], [], [])) (q2 : ((!good) = false) → (fD kk 33 [D.dat (fA b o cs rs ns)] [D.dat (B good)]) ∧ (fD kk 62 [D.dat (Dat.lst b cs), D.dat (Dat.lst b rs), D.fn 63 []] [D.own 4 ks]) ∧ (D.cleans [D.own 3 l] = true) ∧ (fD kk 61 [D.dat (Dat.lst true ks)] [D.own 3 l]) ∧ r = ([D.own 3 l, D.dat (B true)], [], [])) : zak cfg kk (den cfg kk) 32 Tryd.f32 [.dat (Yd b o cs rs ns)] [] [] = some r := by
 rcases Bool.eq_false_or_eq_true ((!good)) with d2 | d2
 · obtain ⟨hz1, oz⟩ := q1 d2
   subst oz; exact zaa [(5, .ret [.dat (B good)]), (11, .back [.own 4 ks] [] []), (12, .ret [.own 3 l]), (200006, .yes)] (ob hz1 (ob d2 ob0)) (by kernel_rfl)
 · obtain ⟨hz1, hz2, hz3, hz4, oz⟩ := q2 d2
   subst oz; exact zaa [(5, .ret [.dat (B good)]), (11, .back [.own 4 ks] [] []), (12, .ret [.own 3 l]), (200006, .no)] (ob hz1 (ob d2 (ob hz2 (ob rF (ob hz3 (ob hz4 ob0)))))) (by kernel_rfl)
def hd61 (b : Bool) (ks out : List Dat) (i : Int) : St := Nm [3, 7, 8, 9] [.own 3 out, .dat (.lst b ks), .dat (I ks.length), .dat (I i)] [none, none, none, none] [] []
theorem zkD (kk m : Nat) {s : St} {K : X → St → Prop} (b : Bool) (ks out : List Dat) (i : Int) (g12 : Bool) (hs : s.norm (fN kk 61 Tryd.f61 3) = hd61 b ks out i) (q1 : (tT (i < (ks.length : Int))) → (g12 = true) → ((0 ≤ i ∧ i < (ks.length : Int)) ∧ ks[i.toNat]? = some (B g12)) ∧ (out.length + 1 ≤ 2147483648) ∧ (∀ s : St, s.norm (fN kk 61 Tryd.f61 3) = Nm [3, 7, 8, 9] [D.own 3 (out ++ [I i]), D.dat (Dat.lst b ks), D.dat (I (ks.length : Int)), D.dat (I (w64 (i + 1)))] [none, none, none, none] [] [] → fR kk 61 Tryd.f61 3 m s K)) (q2 : (tT (i < (ks.length : Int))) → (g12 = false) → ((0 ≤ i ∧ i < (ks.length : Int)) ∧ ks[i.toNat]? = some (B g12)) ∧ (∀ s : St, s.norm (fN kk 61 Tryd.f61 3) = Nm [3, 7, 8, 9] [D.own 3 out, D.dat (Dat.lst b ks), D.dat (I (ks.length : Int)), D.dat (I (w64 (i + 1)))] [none, none, none, none] [] [] → fR kk 61 Tryd.f61 3 m s K)) (q3 : (tF (i < (ks.length : Int))) → K (X.exit 0) (Nm [3] [D.own 3 out] [none] [] [])) : fR kk 61 Tryd.f61 3 (m + 1) s K := by
 rcases Bool.eq_false_or_eq_true (decide (i < (ks.length : Int))) with d1 | d1
 · rcases Bool.eq_false_or_eq_true (g12) with d3 | d3
   · obtain ⟨hz1, hz2, oz⟩ := q1 d1 d3
     exact zad [(12, .at (B g12)), (18, .ok), (200010, .yes), (200014, .yes)] hs (by kernel_rfl) (ob d1 (ob hz1 (ob d3 (ob (obT hz2) ob0)))) (by kernel_rfl) oz
   · obtain ⟨hz1, oz⟩ := q2 d1 d3
     exact zad [(12, .at (B g12)), (18, .ok), (200010, .yes), (200014, .no)] hs (by kernel_rfl) (ob d1 (ob hz1 (ob d3 ob0))) (by kernel_rfl) oz
 · have oz := q3 d1
   exact zae [(12, .at (B g12)), (18, .ok), (200010, .no)] hs (by kernel_rfl) rfl (ob d1 ob0) (by kernel_rfl) oz
theorem zqv (kk : Nat) (b : Bool) (ks out : List Dat) {r : Res} (q1 : (zai cfg kk 61 Tryd.f61 3 (hd61 b ks [] 0) (X.exit 0) (Nm [3] [D.own 3 out] [none] [] [])) ∧ r = ([D.own 3 out], [], [])) : zak cfg kk (den cfg kk) 61 Tryd.f61 [.dat (Dat.lst b ks)] [] [] = some r := by
 obtain ⟨hz1, oz⟩ := q1
 subst oz; exact zaa [(300003, .loop (hd61 b ks [] 0) (.exit 0) (Nm [3] [.own 3 out] [none] [] []))] (ob (rfl : _ = hd61 b ks [] 0) (ob hz1 ob0)) (by kernel_rfl)
end Go.Den
namespace Go.Den
open Go.Proofs
open Go
set_option linter.unusedVariables false
set_option maxRecDepth 100000
def hd8 (ox oy oz : Int) (cx cy cz rx ry rz nx ny nz : List Dat) (i : Int) : St := Nm [7, 11, 13, 117, 118, 119] [.ptr (.loc 7) 0, .ptr (.loc 11) 0, .ptr (.loc 13) 0, .dat (.lst false rx), .dat (I rx.length), .dat (I i)] [Yb false ox cx rx nx, Yb false oy cy ry ny, Yb false oz cz rz nz, none, none, none] [] []
theorem znR (kk m : Nat) {s : St} {K : X → St → Prop} (ox oy oz : Int) (cx cy cz rx ry rz nx ny nz : List Dat) (i : Int) (s1 : ByteArray) (x122 x135 x145 : Int) (hs : s.norm (fN kk 8 Tryd.f8 16) = hd8 ox oy oz cx cy cz rx ry rz nx ny nz i) (h1 : decide (i < (rx.length : Int)) = true) (h2 : (0 ≤ i ∧ i < (rx.length : Int)) ∧ rx[i.toNat]? = some (I x122)) (h3 : fD kk 14 [D.dat (fA false ox cx rx nx), D.dat (I x122), D.dat (I 6)] [D.dat (Dat.val (Value.string s1)), D.dat (B true)]) (h4 : (0 ≤ i ∧ i < (ry.length : Int)) ∧ ry[i.toNat]? = some (I x135)) (h5 : fD kk 14 [D.dat (fA false oy cy ry ny), D.dat (I x135), D.dat (I 6)] [D.dat (Dat.val (Value.string s1)), D.dat (B true)]) (h6 : (0 ≤ i ∧ i < (rz.length : Int)) ∧ rz[i.toNat]? = some (I x145)) (h7 : fD kk 14 [D.dat (fA false oz cz rz nz), D.dat (I x145), D.dat (I 6)] [D.dat (Dat.val (Value.string s1)), D.dat (B true)]) (h13 : (!decide (s1 = s1)) = false) (h16 : (!decide (s1 = s1)) = false) (hn : ∀ s : St, s.norm (fN kk 8 Tryd.f8 16) = Nm [7, 11, 13, 117, 118, 119] [D.ptr (Ref.loc 7) 0, D.ptr (Ref.loc 11) 0, D.ptr (Ref.loc 13) 0, D.dat (Dat.lst false rx), D.dat (I (rx.length : Int)), D.dat (I (w64 (i + 1)))] [some (fB false ox cx rx nx), some (fB false oy cy ry ny), some (fB false oz cz rz nz), none, none, none] [] [] → fR kk 8 Tryd.f8 16 m s K) : fR kk 8 Tryd.f8 16 (m + 1) s K :=
 zad [(200120, .yes), (122, .at (I x122)), (127, .ret [.dat (S s1), .dat (B true)]), (135, .at (I x135)), (137, .ret [.dat (S s1), .dat (B true)]), (145, .at (I x145)), (147, .ret [.dat (S s1), .dat (B true)]), (200152, .no), (200156, .no), (200161, .no), (200165, .no)] hs (by kernel_rfl) (ob h1 (ob h2 (ob h3 (ob h4 (ob h5 (ob h6 (ob h7 (ob rF (ob rF (ob rF (ob rF (ob rF (ob h13 (ob rF (ob rF (ob h16 ob0)))))))))))))))) (by kernel_rfl) hn
theorem zlI (kk m : Nat) {s : St} {K : X → St → Prop} (ox oy oz : Int) (cx cy cz rx ry rz nx ny nz : List Dat) (i : Int) (hs : s.norm (fN kk 8 Tryd.f8 16) = hd8 ox oy oz cx cy cz rx ry rz nx ny nz i) (h1 : decide (i < (rx.length : Int)) = false) (hK : K (X.exit 0) (Nm [2] [D.junk] [none] [] [])) : fR kk 8 Tryd.f8 16 (m + 1) s K :=
 zae [(200120, .no)] hs (by kernel_rfl) rfl (ob h1 ob0) (by kernel_rfl) hK
theorem zmN (kk : Nat) (cs : List Dat) (o a t ow : Int) (ch rh nh cw rw_ nw l : List Dat) (sd : Bool)  (h1 : decide (1048576 < (cs.length : Int)) = true) : zak cfg kk (den cfg kk) 8 Tryd.f8 [.dat (Dat.lst false cs)] [] [] = some ([D.dat (B true)], [], []) :=
 zaa [(200027, .yes)] (ob h1 ob0) (by kernel_rfl)
theorem zok (kk : Nat) (cs : List Dat) (o a t ow : Int) (ch rh nh cw rw_ nw l : List Dat) (sd : Bool)  (h1 : decide (1048576 < (cs.length : Int)) = false) (h2 : fD kk 27 [D.dat (Dat.lst false cs)] [D.dat (fA false o ch rh nh), D.dat (I a), D.dat (B sd), D.dat (I t)]) (h3 : fD kk 28 [D.dat (fA false o ch rh nh), D.dat (I a), D.dat (B sd), D.dat (I t)] [D.dat (fA false 0 [] [] []), D.dat (B false)]) (h4 : fD kk 29 [D.dat (fA false o ch rh nh), D.dat (I a), D.dat (B sd), D.dat (I t)] [D.dat (fA false ow cw rw_ nw), D.dat (B false)]) : zak cfg kk (den cfg kk) 8 Tryd.f8 [.dat (Dat.lst false cs)] [] [] = some ([D.dat (B true)], [], []) :=
 zaa [(200027, .no), (30, .ret [.dat (Yd false o ch rh nh), .dat (I a), .dat (B sd), .dat (I t)]), (40, .ret [.dat (Yd false 0 [] [] []), .dat (B false)]), (48, .ret [.dat (Yd false ow cw rw_ nw), .dat (B false)]), (200053, .no), (200055, .yes)] (ob h1 (ob h2 (ob h3 (ob h4 (ob rF (ob rT ob0)))))) (by kernel_rfl)
theorem zmH (kk : Nat) (cs : List Dat) (o a t ow : Int) (ch rh nh cw rw_ nw l : List Dat) (sd : Bool) (ox oy oz : Int) (cx cy cz rx ry rz nx ny nz : List Dat) (h1 : decide (1048576 < (cs.length : Int)) = false) (h2 : fD kk 27 [D.dat (Dat.lst false cs)] [D.dat (fA false o ch rh nh), D.dat (I a), D.dat (B sd), D.dat (I t)]) (h3 : fD kk 28 [D.dat (fA false o ch rh nh), D.dat (I a), D.dat (B sd), D.dat (I t)] [D.dat (fA false ox cx rx nx), D.dat (B true)]) (h4 : fD kk 29 [D.dat (fA false o ch rh nh), D.dat (I a), D.dat (B sd), D.dat (I t)] [D.dat (fA false ow cw rw_ nw), D.dat (B true)]) (h7 : fD kk 30 [D.dat (fA false ox cx rx nx)] [D.dat (fA false oy cy ry ny), D.dat (B true)]) (h8 : fD kk 31 [D.dat (fA false ox cx rx nx)] [D.dat (fA false oz cz rz nz), D.dat (B true)]) (h9 : fD kk 32 [D.dat (fA false ox cx rx nx)] [D.own 3 l, D.dat (B true)]) (h16 : fD kk 33 [D.dat (fA false ox cx rx nx)] [D.dat (B true)]) (h20 : fD kk 33 [D.dat (fA false oy cy ry ny)] [D.dat (B true)]) (h24 : fD kk 33 [D.dat (fA false oz cz rz nz)] [D.dat (B true)]) (h32 : (!decide ((cz.length : Int) = (l.length : Int))) = false) (h38 : decide ((cy.length : Int) < (l.length : Int)) = false) (h40 : zai cfg kk 8 Tryd.f8 16 (hd8 ox oy oz cx cy cz rx ry rz nx ny nz 0) (X.exit 0) (Nm [2] [D.junk] [none] [] [])) : zak cfg kk (den cfg kk) 8 Tryd.f8 [.dat (Dat.lst false cs)] [] [] = some ([D.dat (B true)], [], []) :=
 zaa [(200027, .no), (30, .ret [.dat (Yd false o ch rh nh), .dat (I a), .dat (B sd), .dat (I t)]), (40, .ret [.dat (Yd false ox cx rx nx), .dat (B true)]), (48, .ret [.dat (Yd false ow cw rw_ nw), .dat (B true)]), (62, .ret [.dat (Yd false oy cy ry ny), .dat (B true)]), (67, .ret [.dat (Yd false oz cz rz nz), .dat (B true)]), (72, .ret [.own 3 l, .dat (B true)]), (87, .ret [.dat (B true)]), (92, .ret [.dat (B true)]), (97, .ret [.dat (B true)]), (200053, .no), (200055, .no), (200077, .no), (200081, .no), (200085, .no), (200090, .no), (200095, .no), (200100, .no), (200108, .no), (200115, .no), (300016, .loop (hd8 ox oy oz cx cy cz rx ry rz nx ny nz 0) (.exit 0) (Nm [2] [.junk] [none] [] []))] (ob h1 (ob h2 (ob h3 (ob h4 (ob rF (ob rF (ob h7 (ob h8 (ob h9 (ob rF (ob rF (ob rF (ob rF (ob rF (ob rF (ob h16 (ob rF (ob rF (ob rF (ob h20 (ob rF (ob rF (ob rF (ob h24 (ob rF (ob rF (ob rF (ob rF (ob rF (ob rF (ob rF (ob h32 (ob rF (ob rF (ob rF (ob rF (ob rF (ob h38 (ob (rfl : _ = hd8 ox oy oz cx cy cz rx ry rz nx ny nz 0) (ob h40 ob0)))))))))))))))))))))))))))))))))))))))) (by kernel_rfl)
end Go.Den
namespace Go.Den
open Go
set_option linter.unusedVariables false
set_option maxRecDepth 100000
structure Twin (p q : Hp) (R : Int → Int → Prop) : Prop where
 lim : ∀ {i j}, R i j → (0 ≤ i ∧ i < (p.cs.length : Int)) ∧ 0 ≤ j ∧ j < (q.cs.length : Int)
 cell : ∀ {i j}, R i j → (cg p.cs i).l = (cg q.cs j).l ∧ (cg p.cs i).n = (cg q.cs j).n ∧ ((cg p.cs i).l = false → R (cg p.cs i).a (cg q.cs j).a ∧ R (cg p.cs i).b (cg q.cs j).b)
 one : ∀ {i j i' j'}, R i j → R i' j' → (i = i' ↔ j = j')
 len : p.rs.length = q.rs.length
 root : ∀ k : Nat, k < p.rs.length → R (p.rs.getD k 0) (q.rs.getD k 0)
def Twins (p q : Hp) : Prop := ∃ R, Twin p q R
theorem zma {m : List Bool} : ∀ {c : List Cl} {l : List Bool} {i : Nat} {x : Cl}, c[i]? = some x → l[i]? = some true → (mvCs m c l)[(l.take i).count true]? = some (mvC m x)
 | [], _, _, _, h, _ => by simp at h
 | _ :: _, [], _, _, _, h => by simp at h
 | y :: c, b :: l, 0, x, h1, h2 => by
   simp only [List.getElem?_cons_zero, Option.some.injEq] at h1 h2
   subst h1
   subst h2
   simp [mvCs]
 | y :: c, b :: l, i + 1, x, h1, h2 => by
   have := zma (m := m) (c := c) (l := l) (i := i) (x := x) (by simpa using h1) (by simpa using h2)
   cases b <;> simp [mvCs, this]
theorem zpa {m : List Bool} {x y : Int} (hx : 0 ≤ x) (hy : 0 ≤ y) (kx : K m x) (ky : K m y) (e : cnt m x = cnt m y) : x = y := by
 have key : ∀ x y : Int, 0 ≤ x → x < y → K m x → K m y → cnt m x < cnt m y := fun x y hx hlt kx ky => by
  have h1 := K_lt hx kx
  have h2 := K_lt (by omega) ky
  obtain ⟨x, rfl⟩ := Int.eq_ofNat_of_zero_le hx
  obtain ⟨y, rfl⟩ := Int.eq_ofNat_of_zero_le (show 0 ≤ y by omega)
  have h3 := zko m x (by omega) kx
  have h4 := zj1 m (show x + 1 ≤ y by omega)
  omega
 rcases Int.lt_trichotomy x y with h | h | h
 · have := key x y hx h kx ky; omega
 · exact h
 · have := key y x hy h ky kx; omega
theorem zqt {m : List Bool} {i : Int} (h0 : 0 ≤ i) (hk : K m i) : m[i.toNat]? = some true := by
 have := K_lt h0 hk
 unfold K at hk
 rw [List.getD_eq_getElem?_getD, List.getElem?_eq_getElem (by omega)] at hk
 rw [List.getElem?_eq_getElem (by omega)]
 simpa using hk
theorem zn2 {l : List Int} {f : Int → Int} {k : Nat} (h : k < l.length) : (l.map f).getD k 0 = f (l.getD k 0) := by
 simp [List.getD_eq_getElem?_getD, h]
theorem zhm {l : List Int} {k : Nat} (h : k < l.length) : l.getD k 0 ∈ l := by
 rw [List.getD_eq_getElem?_getD, List.getElem?_eq_getElem h]
 exact List.getElem_mem h
theorem Twin.mv {p q : Hp} {R : Int → Int → Prop} (t : Twin p q R) {m : List Bool} (hm : m.length = p.cs.length) (hs : Shut m p.cs) (hr : ∀ x ∈ p.rs, K m x) : Twins (mvH m p) q := by
 refine ⟨fun i j => ∃ x, 0 ≤ x ∧ K m x ∧ i = cnt m x ∧ R x j, ?_, ?_, ?_, ?_, ?_⟩
 · rintro i j ⟨x, h0, hk, rfl, hR⟩
   have := zkw h0 hk
   have h2 := zhn hm
   exact ⟨⟨this.1, by show _ < ((mvCs m p.cs m).length : Int); omega⟩, (t.lim hR).2⟩
 · rintro i j ⟨x, h0, hk, rfl, hR⟩
   have hl := (t.lim hR).1
   have hc := zjM hl.1 hl.2
   have := zma (m := m) hc (zqt h0 hk)
   have e : cg (mvH m p).cs (cnt m x) = mvC m (cg p.cs x) := zkl (by show (mvCs m p.cs m)[_]? = _; unfold cnt; rw [Int.toNat_natCast]; exact this)
   obtain ⟨c1, c2, c3⟩ := t.cell hR
   rw [e]
   unfold mvC
   split
   · rename_i h
     exact ⟨c1, c2, fun h' => by rw [h] at h'; cases h'⟩
   · rename_i h
     have h : (cg p.cs x).l = false := by simpa using h
     obtain ⟨x', rfl⟩ := Int.eq_ofNat_of_zero_le h0
     obtain ⟨⟨a0, ka⟩, b0, kb⟩ := hs x' hk h
     exact ⟨c1, c2, fun _ => ⟨⟨_, a0, ka, rfl, (c3 h).1⟩, ⟨_, b0, kb, rfl, (c3 h).2⟩⟩⟩
 · rintro i j i' j' ⟨x, h0, hk, rfl, hR⟩ ⟨x', h0', hk', rfl, hR'⟩
   rw [← t.one hR hR']
   exact ⟨fun e => zpa h0 h0' hk hk' e, fun e => by rw [e]⟩
 · show (p.rs.map (cnt m)).length = _
   rw [List.length_map, t.len]
 · intro k hk
   have hk : k < p.rs.length := by
    have : k < (p.rs.map (cnt m)).length := hk
    simpa using this
   have hR := t.root k hk
   exact ⟨p.rs.getD k 0, (t.lim hR).1.1, hr _ (zhm hk), zn2 hk, hR⟩
theorem Twins.full {p q : Hp} (g : Hg p) (t : Twins p q) : Twins (zaX p) q := by
 obtain ⟨R, t⟩ := t
 exact t.mv (zaA _ _) (zd5 g) (zdZ g)
theorem Twins.young {p q : Hp} (g : Hg p) (t : Twins p q) : Twins (zap p) q := by
 obtain ⟨R, t⟩ := t
 exact t.mv (zaA _ _) (zcS g) (zcQ g)
theorem Twin.shows {p q : Hp} {R : Int → Int → Prop} (t : Twin p q R) : ∀ (d : Nat) {i j : Int}, R i j → showB p.cs d i = showB q.cs d j := by
 intro d
 induction d with
 | zero =>
   intro i j h
   obtain ⟨c1, c2, c3⟩ := t.cell h
   unfold showB
   show (match (cg p.cs i).l with | true => Go.Proofs.YtcmcfebihbmmeaaDoor.num (cg p.cs i).n | false => star) = (match (cg q.cs j).l with | true => Go.Proofs.YtcmcfebihbmmeaaDoor.num (cg q.cs j).n | false => star)
   rw [c1, c2]
 | succ d ih =>
   intro i j h
   obtain ⟨c1, c2, c3⟩ := t.cell h
   unfold showB
   show (match (cg p.cs i).l with | true => Go.Proofs.YtcmcfebihbmmeaaDoor.num (cg p.cs i).n | false => zjI (showB p.cs d (cg p.cs i).a) (showB p.cs d (cg p.cs i).b)) = (match (cg q.cs j).l with | true => Go.Proofs.YtcmcfebihbmmeaaDoor.num (cg q.cs j).n | false => zjI (showB q.cs d (cg q.cs j).a) (showB q.cs d (cg q.cs j).b))
   cases hl : (cg p.cs i).l with
   | true => rw [← c1, hl, c2]
   | false => rw [← c1, hl]; simp only; rw [ih (c3 hl).1, ih (c3 hl).2]
theorem Twin.self {p : Hp} (g : Hg p) : Twin p p (fun i j => i = j ∧ 0 ≤ i ∧ i < (p.cs.length : Int)) :=
 ⟨fun {i j} h => by obtain ⟨rfl, h⟩ := h; exact ⟨h, h⟩, fun {i j} h => by
  obtain ⟨rfl, h⟩ := h
  exact ⟨rfl, rfl, fun hl => by obtain ⟨ha, hb⟩ := g.wf i h.1 h.2 hl; exact ⟨⟨rfl, ha⟩, rfl, hb⟩⟩, fun {i j i' j'} h h' => by obtain ⟨rfl, _⟩ := h; obtain ⟨rfl, _⟩ := h'; exact Iff.rfl, rfl, fun k hk => ⟨rfl, g.rin _ (zhm hk)⟩⟩
end Go.Den
namespace Go.Den
open Go
set_option linter.unusedVariables false
set_option maxRecDepth 100000
def zd8 (o : Int) (cs : List Cl) (rs ns : List Int) (at_ deep : Int) : ByteArray × Bool :=
 match zcY o cs rs ns && zac at_ cs.length && inB deep 0 10 with
 | true => (showB cs deep.toNat at_, true)
 | false => (ByteArray.mk #[], false)
theorem zh9 (o : Int) (cs : List Cl) (rs ns : List Int) (at_ deep : Int) (hf : ∀ c ∈ cs, c.fine) (h : cs.length + rs.length + ns.length ≤ 1048576) : EvN 1048620 14 [.dat (YD false o cs rs ns), .dat (I at_), .dat (I deep)] [] [] ([.dat (S (zd8 o cs rs ns at_ deep).1), .dat (B (zd8 o cs rs ns at_ deep).2)], [], []) := by
 refine zaq Go.Proofs.Tryd.f14 1048619 (by kernel_rfl) (by kernel_rfl) fun kk hkk => ?_
 have hlc : (cs.map Cl.d).length = cs.length := by simp
 have h1 := zhE false o cs rs ns h kk (by omega)
 have h2 := zbv at_ ((cs.map Cl.d).length : Int) kk (by omega)
 rw [hlc] at h2
 unfold zd8
 refine znz kk false o _ _ _ at_ deep (zcY o cs rs ns) (zac at_ cs.length) (showB cs deep.toNat at_) (fun d => ⟨h1, ?_⟩) (fun d d2 => ⟨h1, by rw [hlc]; exact h2, ?_⟩) (fun d d2 d3 => ⟨h1, by rw [hlc]; exact h2, ?_⟩) (fun d d2 d3 d4 => ⟨h1, by rw [hlc]; exact h2, ?_⟩) (fun d d2 d3 d4 => ⟨h1, by rw [hlc]; exact h2, ?_, ?_⟩)
 · simp only [Bool.not_eq_true'] at d; rw [d]; rfl
 · simp only [Bool.not_eq_true', Bool.not_eq_false'] at d d2; rw [d, d2]; rfl
 · have e : inB deep 0 10 = false := by simp [inB] at d3 ⊢; omega
   simp only [Bool.not_eq_true', Bool.not_eq_false'] at d d2; rw [d, d2, e]; rfl
 · have e : inB deep 0 10 = false := by simp [inB] at d3 d4 ⊢; omega
   simp only [Bool.not_eq_true', Bool.not_eq_false'] at d d2; rw [d, d2, e]; rfl
 · simp only [Bool.not_eq_true', Bool.not_eq_false'] at d d2
   simp only [decide_eq_false_iff_not] at d3 d4
   have := znO false o cs (rs.map (I ·)) (ns.map (I ·)) (zgY hf d) deep.toNat at_ (by omega) (zc1 d2).1 (zc1 d2).2 kk (by omega)
   rwa [show ((deep.toNat : Nat) : Int) = deep by omega] at this
 · have e : inB deep 0 10 = true := by simp [inB] at d3 d4 ⊢; omega
   simp only [Bool.not_eq_true', Bool.not_eq_false'] at d d2; rw [d, d2, e]; rfl
end Go.Den
namespace Go.Den
open Go.Proofs
open Go
set_option linter.unusedVariables false
set_option maxRecDepth 100000
theorem ziz {room nur : Int} (hr : room ≤ 200) : ∀ (l : List Op3) (m : Nat) (w : Ws), (∀ x ∈ l, In64 x.a) → m + l.length ≤ 150 → Iv false m w → Hg (runW false room nur l w).h
 | [], m, w, ha, hm, hi => hi.g
 | x :: l, m, w, ha, hm, hi => by
   have hm : m + (l.length + 1) ≤ 150 := by simpa using hm
   have hi1 := zlJ (room := room) (nur := nur) (k := x.k) (b := x.b) hi (fun _ => hr) (by omega) (ha x (by simp))
   unfold runW
   split
   · exact hi1.g
   · exact ziz hr l (m + 1) _ (fun y hy => ha y (by simp [hy])) (by omega) hi1
structure Hd3 (o : Int) (C : List Cl) (R N : List Int) : Prop where
 o64 : In64 o
 fine : ∀ c ∈ C, c.fine
 cl : C.length ≤ 200
 rl : R.length ≤ 60
 nl : N.length ≤ 300
theorem Hd3.of {h : Hp} (g : Hg h) {o : Int} (ho : In64 o) {N : List Int} (hN : N.length ≤ 300) : Hd3 o h.cs h.rs N :=
 ⟨ho, fun c hc => by obtain ⟨i, hi⟩ := List.mem_iff_getElem?.1 hc; exact (g.cells i c hi).1, g.clen, g.rlen, hN⟩
theorem Hd3.sum {o : Int} {C : List Cl} {R N : List Int} (h : Hd3 o C R N) : C.length + R.length + N.length ≤ 1048576 := by
 have := h.cl
 have := h.rl
 have := h.nl
 omega
theorem zp4 (w : Ws) (room nur : Int) (fr : Bool) : (true && !(true && (true && zam [LsD w room nur fr])) || false) = false := by
 have : zam [LsD w room nur fr] = true := by
  show ((true && (Dat.cleans (CD w.h.cs) && (Dat.cleans (ID w.h.rs) && (Dat.cleans (ID w.h.ns) && (true && (true && (true && (true && (true && true)))))))) : Bool) && true) = true
  rw [zkU, zdV, zdV]; rfl
 rw [this]; rfl
theorem zk1 {o : Int} (ho : In64 o) {N : List Int} (hN : N.length ≤ 300) : Hd3 o [] [] N := Hd3.of (iv00 false).g ho hN
theorem zoo {cs : List Dat} (hb : Bs cs) (p u : Int) (h0 : 0 ≤ p) (h1 : p ≤ 1000) : ∃ (o : Int) (C : List Cl) (R N : List Int) (p' u' : Int), Hd3 o C R N ∧ p ≤ p' ∧ p' ≤ p + 6000 ∧
 EvN 1050300 53 [cp] [Cur cs p u] [] ([.dat (YD false o C R N)], [Cur cs p' u'], []) := by
 obtain ⟨z, q1, w1, b1, c1, z0, z1, e1⟩ := zbA hb 20 p u h0 (by omega) (by omega)
 obtain ⟨L, q2, w2, ha, hl, b2, c2, e2⟩ := zlS hb q1 w1 (by omega) (by omega)
 obtain ⟨k, q3, w3, b3, c3, k0, k1, e3⟩ := zbA hb 30 q2 w2 (by omega) (by omega) (by omega)
 obtain ⟨y, q5, w5, b5, c5, y0, y1, e5⟩ := zbA hb 9 q3 w3 (by omega) (by omega) (by omega)
 have hlen : ((OD L).length : Int) = (L.length : Int) := by simp
 by_cases hL : L.length ≤ 150
 · have g := ziz (room := 200) (nur := w64 (1 + z)) (by decide) L 0 w00 ha (by omega) (iv00 false)
   have e4 := znW (fr := false) (room := 200) (nur := w64 (1 + z)) (fun _ => by decide) true L hL ha
   have hbx := zp4 (runW false 200 (w64 (1 + z)) L w00) 200 (w64 (1 + z)) false
   generalize runW false 200 (w64 (1 + z)) L w00 = w at *
   have hgo := g.o0
   have hgo1 := g.o1
   have hcl := g.clen
   have hnl := zdp g
   obtain ⟨x, q4, w4, hx, b4, c4, e6⟩ := zfm hb true [-1, 0, (w.h.cs.length : Int), w64 ((w.h.cs.length : Int) + 1)] q3 w3 (by omega) (by omega) ⟨by simp, by simp⟩
   have hno : ∀ {P : Prop}, decide (((OD L).length : Int) ≤ 150) = false → P := fun d => absurd (of_decide_eq_false d) (by omega)
   have ho64 : In64 w.h.o := ⟨by omega, by omega⟩
   have hx64 : In64 x := by
    have hw : w64 ((w.h.cs.length : Int) + 1) = (w.h.cs.length : Int) + 1 := za6 (by omega)
    rw [hw] at hx
    simp only [List.mem_cons, List.not_mem_nil, or_false] at hx
    unfold In64
    omega
   have hlc : ((CD w.h.cs).length : Int) = (w.h.cs.length : Int) := by simp
   by_cases hk0 : k = 0
   · refine ⟨x, w.h.cs, w.h.rs, w.h.ns, q4, w4, Hd3.of g hx64 (by omega), by omega, by omega, zaq Tryd.f53 1050299 (by kernel_rfl) (by kernel_rfl) fun kk hkk => ?_⟩
     have E1 := e1 kk (by omega)
     have E2 := e2 kk (by omega)
     have E3 := e3 kk (by omega)
     have E4 := e4 kk (by omega)
     have E5 := e5 kk (by omega)
     have E6 := e6 kk (by omega)
     rw [← hlc] at E6
     exact ziT kk cs (OD L) z k x y 0 w.full w.out w.h.o (CD w.h.cs) (ID w.h.rs) (ID w.h.ns) p u q1 w1 q2 w2 q3 w3 q4 w4 (fun dl d0 => ⟨E1, E2, E4, hbx, E3, E6, zi1 hb _ _, rfl⟩) (fun dl d0 d1 => absurd hk0 (of_decide_eq_false d0)) (fun dl d0 d1 d2 => absurd hk0 (of_decide_eq_false d0)) (fun dl d0 d1 d2 => absurd hk0 (of_decide_eq_false d0)) (fun dl d0 => hno dl) (fun dl d0 d1 => hno dl) (fun dl d0 d1 d2 => hno dl) (fun dl d0 d1 d2 => hno dl)
   by_cases hk1 : k = 1
   · refine ⟨w.h.o, w.h.cs, w.h.rs, (w.h.ns ++ [w64 (y - 1)]), q5, w5, Hd3.of g ho64 (by simp; omega), by omega, by omega, zaq Tryd.f53 1050299 (by kernel_rfl) (by kernel_rfl) fun kk hkk => ?_⟩
     have E1 := e1 kk (by omega)
     have E2 := e2 kk (by omega)
     have E3 := e3 kk (by omega)
     have E4 := e4 kk (by omega)
     have E5 := e5 kk (by omega)
     have E6 := e6 kk (by omega)
     have hn1 : (ID w.h.ns).length + 1 ≤ 2147483648 := by rw [List.length_map]; omega
     exact ziT kk cs (OD L) z k x y 0 w.full w.out w.h.o (CD w.h.cs) (ID w.h.rs) (ID w.h.ns) p u q1 w1 q2 w2 q3 w3 q5 w5 (fun dl d0 => absurd (of_decide_eq_true d0) hk0) (fun dl d0 d1 => ⟨E1, E2, E4, hbx, E3, E5, hn1, by simp⟩) (fun dl d0 d1 d2 => absurd hk1 (of_decide_eq_false d1)) (fun dl d0 d1 d2 => absurd hk1 (of_decide_eq_false d1)) (fun dl d0 => hno dl) (fun dl d0 d1 => hno dl) (fun dl d0 d1 d2 => hno dl) (fun dl d0 d1 d2 => hno dl)
   by_cases hk2 : k = 2
   · refine ⟨w.h.o, w.h.cs, w.h.rs, [], q3, w3, Hd3.of g ho64 (by simp), by omega, by omega, zaq Tryd.f53 1050299 (by kernel_rfl) (by kernel_rfl) fun kk hkk => ?_⟩
     have E1 := e1 kk (by omega)
     have E2 := e2 kk (by omega)
     have E3 := e3 kk (by omega)
     have E4 := e4 kk (by omega)
     have E5 := e5 kk (by omega)
     have E6 := e6 kk (by omega)
     exact ziT kk cs (OD L) z k x y 0 w.full w.out w.h.o (CD w.h.cs) (ID w.h.rs) (ID w.h.ns) p u q1 w1 q2 w2 q3 w3 q5 w5 (fun dl d0 => absurd (of_decide_eq_true d0) hk0) (fun dl d0 d1 => absurd (of_decide_eq_true d1) hk1) (fun dl d0 d1 d2 => ⟨E1, E2, E4, hbx, E3, rfl⟩) (fun dl d0 d1 d2 => absurd hk2 (of_decide_eq_false d2)) (fun dl d0 => hno dl) (fun dl d0 d1 => hno dl) (fun dl d0 d1 d2 => hno dl) (fun dl d0 d1 d2 => hno dl)
   refine ⟨w.h.o, w.h.cs, w.h.rs, w.h.ns, q3, w3, Hd3.of g ho64 (by omega), by omega, by omega, zaq Tryd.f53 1050299 (by kernel_rfl) (by kernel_rfl) fun kk hkk => ?_⟩
   have E1 := e1 kk (by omega)
   have E2 := e2 kk (by omega)
   have E3 := e3 kk (by omega)
   have E4 := e4 kk (by omega)
   have E5 := e5 kk (by omega)
   have E6 := e6 kk (by omega)
   exact ziT kk cs (OD L) z k x y 0 w.full w.out w.h.o (CD w.h.cs) (ID w.h.rs) (ID w.h.ns) p u q1 w1 q2 w2 q3 w3 q5 w5 (fun dl d0 => absurd (of_decide_eq_true d0) hk0) (fun dl d0 d1 => absurd (of_decide_eq_true d1) hk1) (fun dl d0 d1 d2 => absurd (of_decide_eq_true d2) hk2) (fun dl d0 d1 d2 => ⟨E1, E2, E4, hbx, E3, rfl⟩) (fun dl d0 => hno dl) (fun dl d0 d1 => hno dl) (fun dl d0 d1 d2 => hno dl) (fun dl d0 d1 d2 => hno dl)
 · have hno : ∀ {P : Prop}, decide (((OD L).length : Int) ≤ 150) = true → P := fun d => absurd (of_decide_eq_true d) (by omega)
   have hx64 : ∀ x, x ∈ [-1, 0, 0, w64 (0 + 1)] → In64 x := fun x hx => by
    have hw : w64 (0 + 1) = 1 := by decide
    rw [hw] at hx
    simp only [List.mem_cons, List.not_mem_nil, or_false] at hx
    unfold In64
    omega
   obtain ⟨x, q4, w4, hx, b4, c4, e6⟩ := zfm hb true [-1, 0, 0, w64 (0 + 1)] q3 w3 (by omega) (by omega) (by decide)
   by_cases hk0 : k = 0
   · refine ⟨x, [], [], [], q4, w4, zk1 (hx64 x hx) (by simp), by omega, by omega, zaq Tryd.f53 1050299 (by kernel_rfl) (by kernel_rfl) fun kk hkk => ?_⟩
     have E1 := e1 kk (by omega)
     have E2 := e2 kk (by omega)
     have E3 := e3 kk (by omega)
     have E5 := e5 kk (by omega)
     have E6 := e6 kk (by omega)
     exact ziT kk cs (OD L) z k x y 0 false ByteArray.empty 0 [] [] [] p u q1 w1 q2 w2 q3 w3 q4 w4 (fun dl d0 => hno dl) (fun dl d0 d1 => hno dl) (fun dl d0 d1 d2 => hno dl) (fun dl d0 d1 d2 => hno dl) (fun dl d0 => ⟨E1, E2, E3, E6, zi1 hb _ _, rfl⟩) (fun dl d0 d1 => absurd hk0 (of_decide_eq_false d0)) (fun dl d0 d1 d2 => absurd hk0 (of_decide_eq_false d0)) (fun dl d0 d1 d2 => absurd hk0 (of_decide_eq_false d0))
   by_cases hk1 : k = 1
   · refine ⟨0, [], [], [w64 (y - 1)], q5, w5, zk1 ⟨by decide, by decide⟩ (by simp), by omega, by omega, zaq Tryd.f53 1050299 (by kernel_rfl) (by kernel_rfl) fun kk hkk => ?_⟩
     have E1 := e1 kk (by omega)
     have E2 := e2 kk (by omega)
     have E3 := e3 kk (by omega)
     have E5 := e5 kk (by omega)
     have E6 := e6 kk (by omega)
     exact ziT kk cs (OD L) z k x y 0 false ByteArray.empty 0 [] [] [] p u q1 w1 q2 w2 q3 w3 q5 w5 (fun dl d0 => hno dl) (fun dl d0 d1 => hno dl) (fun dl d0 d1 d2 => hno dl) (fun dl d0 d1 d2 => hno dl) (fun dl d0 => absurd (of_decide_eq_true d0) hk0) (fun dl d0 d1 => ⟨E1, E2, E3, E5, (by decide), by simp⟩) (fun dl d0 d1 d2 => absurd hk1 (of_decide_eq_false d1)) (fun dl d0 d1 d2 => absurd hk1 (of_decide_eq_false d1))
   by_cases hk2 : k = 2
   · refine ⟨0, [], [], [], q3, w3, zk1 ⟨by decide, by decide⟩ (by simp), by omega, by omega, zaq Tryd.f53 1050299 (by kernel_rfl) (by kernel_rfl) fun kk hkk => ?_⟩
     have E1 := e1 kk (by omega)
     have E2 := e2 kk (by omega)
     have E3 := e3 kk (by omega)
     have E5 := e5 kk (by omega)
     have E6 := e6 kk (by omega)
     exact ziT kk cs (OD L) z k x y 0 false ByteArray.empty 0 [] [] [] p u q1 w1 q2 w2 q3 w3 q5 w5 (fun dl d0 => hno dl) (fun dl d0 d1 => hno dl) (fun dl d0 d1 d2 => hno dl) (fun dl d0 d1 d2 => hno dl) (fun dl d0 => absurd (of_decide_eq_true d0) hk0) (fun dl d0 d1 => absurd (of_decide_eq_true d1) hk1) (fun dl d0 d1 d2 => ⟨E1, E2, E3, rfl⟩) (fun dl d0 d1 d2 => absurd hk2 (of_decide_eq_false d2))
   refine ⟨0, [], [], [], q3, w3, zk1 ⟨by decide, by decide⟩ (by simp), by omega, by omega, zaq Tryd.f53 1050299 (by kernel_rfl) (by kernel_rfl) fun kk hkk => ?_⟩
   have E1 := e1 kk (by omega)
   have E2 := e2 kk (by omega)
   have E3 := e3 kk (by omega)
   have E5 := e5 kk (by omega)
   have E6 := e6 kk (by omega)
   exact ziT kk cs (OD L) z k x y 0 false ByteArray.empty 0 [] [] [] p u q1 w1 q2 w2 q3 w3 q5 w5 (fun dl d0 => hno dl) (fun dl d0 d1 => hno dl) (fun dl d0 d1 d2 => hno dl) (fun dl d0 d1 d2 => hno dl) (fun dl d0 => absurd (of_decide_eq_true d0) hk0) (fun dl d0 d1 => absurd (of_decide_eq_true d1) hk1) (fun dl d0 d1 d2 => absurd (of_decide_eq_true d2) hk2) (fun dl d0 d1 d2 => ⟨E1, E2, E3, rfl⟩)
theorem zl6 {cs : List Dat} (hb : Bs cs) : ∃ (o : Int) (C : List Cl) (R N : List Int) (a : Int) (sd : Bool) (t : Int), Hd3 o C R N ∧ EvN 1050400 27 [.dat (.lst false cs)] [] [] ([.dat (YD false o C R N), .dat (I a), .dat (B sd), .dat (I t)], [], []) := by
 obtain ⟨o, C, R, N, q1, w1, hd, b1, c1, e1⟩ := zoo hb 0 0 (by omega) (by omega)
 have hcl := hd.cl
 have hlc : w64 (((CD C).length : Int) + 2) = (C.length : Int) + 2 := by rw [List.length_map, za6 (by omega)]
 obtain ⟨a, q2, w2, b2, c2, _, _, e2⟩ := zbA hb ((C.length : Int) + 2) q1 w1 (by omega) (by omega) (by omega)
 obtain ⟨g, q3, w3, b3, c3, e3⟩ := zka hb 2 q2 w2 (by omega) (by omega) (by omega)
 obtain ⟨t, q4, w4, b4, c4, _, _, e4⟩ := zbA hb ((C.length : Int) + 2) q3 w3 (by omega) (by omega) (by omega)
 refine ⟨o, C, R, N, w64 (a - 1), g, w64 (t - 1), hd, zaq Tryd.f27 1050399 (by kernel_rfl) (by kernel_rfl) fun kk hkk => ?_⟩
 have E2 := e2 kk (by omega)
 have E4 := e4 kk (by omega)
 rw [← hlc] at E2 E4
 exact zpW kk cs false a t g o (CD C) (ID R) (ID N) 0 0 q1 w1 q2 w2 q3 w3 q4 w4 ⟨e1 kk (by omega), E2, e3 kk (by omega), E4, rfl⟩
theorem zo8 (h : Hp) (g : Hg h) (at_ : Int) (second : Bool) (to : Int) (ha : 0 ≤ at_ ∧ at_ < (h.cs.length : Int)) :
 EvN 10 57 [.ptr (.up 0) 0, .dat (I at_), .dat (B second), .dat (I to)] [Yo h.o (CD h.cs) (ID h.rs) (ID h.ns)] [] ([], [Yo (setH h at_ second to).o (CD (setH h at_ second to).cs) (ID (setH h at_ second to).rs) (ID (setH h at_ second to).ns)], []) := by
 refine zaq Tryd.f57 9 (by kernel_rfl) (by kernel_rfl) fun kk hkk => ?_
 have hnl := zdp g
 have hc := zgh (c := h.cs) ha.1 ha.2
 have hcont : h.ns.contains at_ = hasB h.ns at_ := by
  rw [Bool.eq_iff_iff, zdD]; simp
 have h83 := ev_bs true h.ns at_ g.nup (by omega) kk (by omega)
 rw [hcont] at h83
 have h84 := zqu h.ns (h.ns.countP (· < at_)) at_ List.countP_le_length (by omega) kk (by omega)
 have hins : hasB h.ns at_ = false → insZ h.ns (h.ns.countP (· < at_)) at_ = insL at_ h.ns := fun e => zkN g.nup fun hm => by rw [(zdD _ _).2 hm] at e; cases e
 have hp1 : decide (at_ < h.o) = true → decide (h.o ≤ to) = true → (!hasB h.ns at_) = true → (setH h at_ second to).ns = insZ h.ns (h.ns.countP (· < at_)) at_ := fun d1 d2 d3 => by
  have : putN h at_ to = true := by unfold putN; rw [d1, d2, d3]; rfl
  rw [hins (by simpa using d3)]
  show (match putN h at_ to with | true => insL at_ h.ns | false => h.ns) = _
  rw [this]
 have hp2 : putN h at_ to = false → (setH h at_ second to).ns = h.ns := fun d => by
  show (match putN h at_ to with | true => insL at_ h.ns | false => h.ns) = _
  rw [d]
 have hq1 : (!hasB h.ns at_) = false → putN h at_ to = false := fun d => by unfold putN; rw [d, Bool.and_false]
 have hq2 : decide (h.o ≤ to) = false → putN h at_ to = false := fun d => by unfold putN; rw [d, Bool.and_false, Bool.false_and]
 have hq3 : decide (at_ < h.o) = false → putN h at_ to = false := fun d => by unfold putN; rw [d, Bool.false_and, Bool.false_and]
 have hst : second = true → (CD h.cs).set at_.toNat (Dat.agg [B (cg h.cs at_).l, I (cg h.cs at_).n, I (cg h.cs at_).a, I to]) = CD (setH h at_ second to).cs := fun e => by rw [e]; exact set_cd.1
 have hsf : second = false → (CD h.cs).set at_.toNat (Dat.agg [B (cg h.cs at_).l, I (cg h.cs at_).n, I to, I (cg h.cs at_).b]) = CD (setH h at_ second to).cs := fun e => by rw [e]; exact set_cd.2
 exact setY kk h.o _ _ _ at_ second to (cg h.cs at_) (cg h.cs at_) _ (hasB h.ns at_) _
  (fun d1 d2 d3 d4 => ⟨hc.1, hc.2, h83, h84, by rw [hst d1, ← hp1 d2 d3 d4]; rfl⟩)
  (fun d1 d2 d3 d4 => ⟨hc.1, hc.2, h83, by rw [hst d1, hp2 (hq1 d4)]; rfl⟩)
  (fun d1 d2 d3 => ⟨hc.1, hc.2, h83, by rw [hst d1, hp2 (hq2 d3)]; rfl⟩)
  (fun d1 d2 => ⟨hc.1, hc.2, h83, by rw [hst d1, hp2 (hq3 d2)]; rfl⟩)
  (fun d1 d2 d3 d4 => ⟨hc.1, hc.2, h83, h84, by rw [hsf d1, ← hp1 d2 d3 d4]; rfl⟩)
  (fun d1 d2 d3 d4 => ⟨hc.1, hc.2, h83, by rw [hsf d1, hp2 (hq1 d4)]; rfl⟩)
  (fun d1 d2 d3 => ⟨hc.1, hc.2, h83, by rw [hsf d1, hp2 (hq2 d3)]; rfl⟩)
  (fun d1 d2 => ⟨hc.1, hc.2, h83, by rw [hsf d1, hp2 (hq3 d2)]; rfl⟩)
theorem znK (b : Bool) {o : Int} {C : List Cl} {R N : List Int} (hd : Hd3 o C R N) : EvN 2 56 [.dat (YD b o C R N)] [] [] ([HO ⟨o, C, R, N⟩], [], []) := by
 refine zaq Tryd.f56 1 (by kernel_rfl) (by kernel_rfl) fun kk hkk => ?_
 have := hd.cl
 have := hd.rl
 have := hd.nl
 exact copyY kk b o _ _ _ _ _ _ ⟨zlm b C (by omega) kk (by omega), zdb b R (by omega) kk (by omega), zdb b N (by omega) kk (by omega), rfl⟩
def zcy (o : Int) (C : List Cl) (R N : List Int) (at_ to : Int) : Bool := zcY o C R N && zac at_ C.length && !(cg C at_).l && zac to C.length
theorem zor {n : Nat} (hn : n ≤ 1000) (x : Int) : inB x 0 (w64 ((n : Int) - 1)) = zac x n := by rw [za6 (by omega)]; exact zhz x n
theorem zqx {o : Int} {C : List Cl} {R N : List Int} (hd : Hd3 o C R N) (at_ : Int) (sd : Bool) (to : Int) :
 EvN 1048700 28 [.dat (YD false o C R N), .dat (I at_), .dat (B sd), .dat (I to)] [] [] ([.dat (match zcy o C R N at_ to with | true => YD false o (setH ⟨o, C, R, N⟩ at_ sd to).cs R (setH ⟨o, C, R, N⟩ at_ sd to).ns | false => Yd false 0 [] [] []), .dat (B (zcy o C R N at_ to))], [], []) := by
 refine zaq Tryd.f28 1048699 (by kernel_rfl) (by kernel_rfl) fun kk hkk => ?_
 have hlc : ((CD C).length : Int) = (C.length : Int) := by simp
 have h33 := zhE false o C R N hd.sum kk (by omega)
 have h43 := zbv at_ ((CD C).length : Int) kk (by omega)
 have h43b := zbv to ((CD C).length : Int) kk (by omega)
 rw [hlc] at h43 h43b
 have hc : zac at_ C.length = true → (0 ≤ at_ ∧ at_ < ((CD C).length : Int)) ∧ (CD C)[at_.toNat]? = some (cg C at_).d := fun e => by
  have := zc1 e
  exact zgh this.1 (by omega)
 have no : ∀ {x : Bool}, (!x) = true → x = false := fun e => by simpa using e
 have yes : ∀ {x : Bool}, (!x) = false → x = true := fun e => by simpa using e
 refine zoC kk false o _ _ _ at_ sd to (zcY o C R N) (zac at_ C.length) (zac to C.length) o (CD C) (ID R) (ID N) (setH ⟨o, C, R, N⟩ at_ sd to).o (CD (setH ⟨o, C, R, N⟩ at_ sd to).cs) (ID (setH ⟨o, C, R, N⟩ at_ sd to).rs) (ID (setH ⟨o, C, R, N⟩ at_ sd to).ns) (cg C at_)
  (fun d => ⟨h33, ?_⟩) (fun d d2 => ⟨h33, by rw [hlc]; exact h43, ?_⟩) (fun d d2 d3 => ⟨h33, by rw [hlc]; exact h43, hc (yes d2), ?_⟩) (fun d d2 d3 d4 => ⟨h33, by rw [hlc]; exact h43, hc (yes d2), by rw [hlc]; exact h43b, ?_⟩) (fun d d2 d3 d4 => ⟨h33, by rw [hlc]; exact h43, hc (yes d2), by rw [hlc]; exact h43b, znK false hd kk (by omega), ?_, ?_⟩)
 · have : zcy o C R N at_ to = false := by unfold zcy; rw [no d]; rfl
   rw [this]
 · have : zcy o C R N at_ to = false := by unfold zcy; rw [no d2, Bool.and_false]; rfl
   rw [this]
 · have : zcy o C R N at_ to = false := by unfold zcy; rw [d3]; simp
   rw [this]
 · have : zcy o C R N at_ to = false := by unfold zcy; rw [no d4, Bool.and_false]
   rw [this]
 · exact zo8 ⟨o, C, R, N⟩ (zjX hd.fine (yes d)) at_ sd to (zc1 (yes d2)) kk (by omega)
 · have : zcy o C R N at_ to = true := by unfold zcy; rw [yes d, yes d2, d3, yes d4]; rfl
   rw [this]
   rfl
theorem zqs {o : Int} {C : List Cl} {R N : List Int} (hd : Hd3 o C R N) (at_ : Int) (sd : Bool) (to : Int) : ∃ (ow : Int) (cw rw nw : List Dat),
 EvN 1048900 29 [.dat (YD false o C R N), .dat (I at_), .dat (B sd), .dat (I to)] [] [] ([.dat (Yd false ow cw rw nw), .dat (B (zcy o C R N at_ to))], [], []) := by
 have hcl := hd.cl
 have hlc : w64 (((CD C).length : Int) - 1) = w64 ((C.length : Int) - 1) := by rw [List.length_map]
 have h38 := fun kk hk => zoE false o C R N hd.sum hd.o64 kk hk
 have h39 := fun (x : Int) kk hk => zhJ x 0 (w64 (((CD C).length : Int) - 1)) kk hk
 have hin : ∀ x, inB x 0 (w64 (((CD C).length : Int) - 1)) = zac x C.length := fun x => by rw [hlc]; exact zor (by omega) x
 simp only [hin] at h39
 have hc : zac at_ C.length = true → (0 ≤ at_ ∧ at_ < ((CD C).length : Int)) ∧ (CD C)[at_.toNat]? = some (cg C at_).d := fun e => by
  have := zc1 e
  exact zgh this.1 (by omega)
 have no : ∀ {x : Bool}, (!x) = true → x = false := fun e => by simpa using e
 have yes : ∀ {x : Bool}, (!x) = false → x = true := fun e => by simpa using e
 cases hm : zcy o C R N at_ to with
 | true =>
   have hm' := hm
   unfold zcy at hm'
   simp only [Bool.and_eq_true, Bool.not_eq_true'] at hm'
   obtain ⟨⟨⟨m1, m2⟩, m3⟩, m4⟩ := hm'
   refine ⟨o, CD (setH ⟨o, C, R, N⟩ at_ sd to).cs, ID R, ID (setH ⟨o, C, R, N⟩ at_ sd to).ns, zaq Tryd.f29 1048899 (by kernel_rfl) (by kernel_rfl) fun kk hkk => ?_⟩
   refine zkj kk false o _ _ _ at_ sd to true true true o (CD (setH ⟨o, C, R, N⟩ at_ sd to).cs) (ID R) (ID (setH ⟨o, C, R, N⟩ at_ sd to).ns) (cg C at_) (fun d => by cases d) (fun _ d => by cases d) (fun _ _ d => by cases d) (fun _ _ _ d => by rw [m3] at d; cases d) (fun _ _ _ d => ?_)
   have E38 := h38 kk (by omega)
   have E1 := h39 at_ kk (by omega)
   have E2 := h39 to kk (by omega)
   rw [m1] at E38
   rw [m2] at E1
   rw [m4] at E2
   exact ⟨E38, E1, E2, hc m2, zht false ⟨o, C, R, N⟩ (zjX hd.fine m1) at_ sd to (zc1 m2) kk (by omega), rfl⟩
 | false =>
   refine ⟨0, [], [], [], zaq Tryd.f29 1048899 (by kernel_rfl) (by kernel_rfl) fun kk hkk => ?_⟩
   have E38 := h38 kk (by omega)
   have E1 := h39 at_ kk (by omega)
   have E2 := h39 to kk (by omega)
   refine zkj kk false o _ _ _ at_ sd to (zcY o C R N) (zac at_ C.length) (zac to C.length) 0 [] [] [] (cg C at_) (fun d => ⟨E38, rfl⟩) (fun d d2 => ⟨E38, E1, rfl⟩) (fun d d2 d3 => ⟨E38, E1, E2, rfl⟩) (fun d d2 d3 d4 => ⟨E38, E1, E2, hc (yes d2), rfl⟩) (fun d d2 d3 d4 => ?_)
   have : zcy o C R N at_ to = true := by unfold zcy; rw [yes d, yes d2, yes d3, d4]; rfl
   rw [hm] at this
   cases this
theorem zoJ {h : Hp} (g : Hg h) : h.cs.length + h.rs.length + h.ns.length ≤ 1048576 := by
 have := g.clen
 have := g.rlen
 have := zdp g
 omega
theorem zco {h : Hp} (g : Hg h) : EvN 1048610 33 [.dat (YD false h.o h.cs h.rs h.ns)] [] [] ([.dat (B true)], [], []) := by
 have := zhE false h.o h.cs h.rs h.ns (zoJ g)
 rwa [zne g] at this
theorem zi6 {h : Hp} (g : Hg h) : EvN 1050200 30 [.dat (YD false h.o h.cs h.rs h.ns)] [] [] ([.dat (YD false (zap h).o (zap h).cs (zap h).rs (zap h).ns), .dat (B true)], [], []) := by
 refine zaq Tryd.f30 1050199 (by kernel_rfl) (by kernel_rfl) fun kk hkk => ?_
 exact zqG kk false h.o _ _ _ true (zap h).o _ _ _ (fun d => by cases d) (fun _ => ⟨zco g kk (by omega), zl8 false h g kk (by omega), rfl⟩)
theorem zlb {h : Hp} (g : Hg h) : EvN 1050200 31 [.dat (YD false h.o h.cs h.rs h.ns)] [] [] ([.dat (YD false (zaX h).o (zaX h).cs (zaX h).rs (zaX h).ns), .dat (B true)], [], []) := by
 refine zaq Tryd.f31 1050199 (by kernel_rfl) (by kernel_rfl) fun kk hkk => ?_
 exact iFull kk false h.o _ _ _ true (zaX h).o _ _ _ (fun d => by cases d) (fun _ => ⟨zco g kk (by omega), zoz false h g kk (by omega), rfl⟩)
def onL (m : List Bool) : List Int := ((List.range m.length).filter fun i => m.getD i false).map fun (i : Nat) => (i : Int)
theorem zmV (m : List Bool) : (onL m).length = m.count true := by
 unfold onL
 rw [List.length_map, ← List.countP_eq_length_filter]
 induction m with
 | nil => rfl
 | cons b m ih =>
   rw [List.length_cons, List.range_succ_eq_map, List.countP_cons, List.countP_map, List.count_cons]
   rw [← ih]
   have e : List.countP ((fun i => (b :: m).getD i false) ∘ Nat.succ) (List.range m.length) = List.countP (fun i => m.getD i false) (List.range m.length) := by
    congr 1
   rw [e]
   cases b <;> simp
theorem zmh (b : Bool) (m : List Bool) (hm : m.length ≤ 1000) : EvN 1100 61 [.dat (.lst b (BD m))] [] [] ([.own 3 (ID (onL m))], [], []) := by
 refine zaq Tryd.f61 1099 (by kernel_rfl) (by kernel_rfl) fun kk hkk => ?_
 refine zqv kk b _ _ ⟨?_, rfl⟩
 have hlb : (BD m).length = m.length := by simp
 refine zaN (kk := kk) (f := 61) (fn := Tryd.f61) (r := 3) (x := .exit 0) (s' := Nm [3] [.own 3 (ID (onL m))] [none] [] [])
  (fun i => hd61 b (BD m) (ID (((List.range i).filter fun j => m.getD j false).map fun (j : Nat) => (j : Int))) i) m.length (by omega)
  (fun i hi q s K hs hn => ?_) (fun q s K hs hK => zkD kk q b _ _ _ true hs (fun d => absurd (of_decide_eq_true d) (by omega)) (fun d => absurd (of_decide_eq_true d) (by omega)) (fun _ => hK)) (s0 := hd61 b (BD m) [] 0) (by simp)
 have hb := zfK hi
 have hle : (ID (((List.range i).filter fun j => m.getD j false).map fun (j : Nat) => (j : Int))).length ≤ i := by
  rw [List.length_map, List.length_map]
  have := List.length_filter_le (fun j => m.getD j false) (List.range i)
  simpa using this
 have e1 : ∀ X Y : List Int, ID (X ++ Y) = ID X ++ ID Y := fun _ _ => List.map_append
 refine zkD kk q b _ _ i (m.getD i false) hs (fun _ d => ⟨hb, by omega, fun s' hs' => hn s' ?_⟩) (fun _ d => ⟨hb, fun s' hs' => hn s' ?_⟩) (fun d => absurd (of_decide_eq_false d) (by omega))
 · rw [hs', wi i (by omega), List.range_succ, List.filter_append, List.map_append, e1, List.filter_cons, if_pos d]
   rfl
 · rw [hs', wi i (by omega), List.range_succ, List.filter_append, List.map_append, e1, List.filter_cons, if_neg (by rw [d]; decide)]
   simp only [List.filter_nil, List.map_nil, List.append_nil]
   rfl
theorem zls {h : Hp} (g : Hg h) : EvN 1050200 32 [.dat (YD false h.o h.cs h.rs h.ns)] [] [] ([.own 3 (ID (onL (zb0 h))), .dat (B true)], [], []) := by
 refine zaq Tryd.f32 1050199 (by kernel_rfl) (by kernel_rfl) fun kk hkk => ?_
 have hl : (zb0 h).length ≤ 1000 := by
  have := g.clen
  unfold zb0
  rw [zaA]; omega
 exact iLive kk false h.o _ _ _ true (BD (zb0 h)) _ (fun d => by cases d) (fun _ => ⟨zco g kk (by omega), zh4 false false h.cs h.rs g.wf g.clen g.rin (by have := g.rlen; omega) kk (by omega), by simp only [D.cleans, D.clean, zdV, Bool.and_self], zmh true (zb0 h) hl kk (by omega), rfl⟩)
theorem zlg (h : Hp) : (zaX h).cs.length = (zb0 h).count true := zew _ _ _ (zaA _ _)
theorem zi3 (h : Hp) : (zap h).cs.length = (zdr h).count true := zew _ _ _ (zaA _ _)
theorem count_le : ∀ {l m : List Bool}, l.length = m.length → (∀ i : Nat, l.getD i false = true → m.getD i false = true) → l.count true ≤ m.count true
 | [], m, _, _ => by simp
 | b :: l, [], h, _ => by simp at h
 | b :: l, c :: m, h, hi => by
   have h1 := count_le (l := l) (m := m) (by simpa using h) fun i hl => hi (i + 1) hl
   have h0 := hi 0
   rw [List.count_cons, List.count_cons]
   cases b <;> cases c <;> simp at h0 ⊢ <;> omega
theorem zlN {h : Hp} (g : Hg h) : (zb0 h).count true ≤ (zdr h).count true := by
 refine count_le (by rw [show (zb0 h).length = h.cs.length from zaA _ _, show (zdr h).length = h.cs.length from zaA _ _]) fun i hi => ?_
 have hk : K (zb0 h) (i : Int) := K_nat.2 hi
 obtain ⟨_, hr⟩ := (zbu (Int.natCast_nonneg i)).1 hk
 have := Rch.in_ g.wf (k := zdr h) (fun x hx => ⟨(g.rin x hx).1, (g.rin x hx).2, zcQ g x hx⟩) (fun x hx0 hkx _ hl => by
  obtain ⟨x, rfl⟩ := Int.eq_ofNat_of_zero_le hx0
  obtain ⟨⟨_, a1⟩, _, b1⟩ := zcS g x hkx hl
  exact ⟨a1, b1⟩) hr
 exact K_nat.1 this.2.2
theorem zhk {h : Hp} (g : Hg h) {r : Int} (hr : 0 ≤ r ∧ r < (h.cs.length : Int)) : EvN 1048620 14 [.dat (YD false h.o h.cs h.rs h.ns), .dat (I r), .dat (I 6)] [] [] ([.dat (S (showB h.cs 6 r)), .dat (B true)], [], []) := by
 have := zh9 h.o h.cs h.rs h.ns r 6 (fun c hc => by obtain ⟨i, hi⟩ := List.mem_iff_getElem?.1 hc; exact (g.cells i c hi).1) (zoJ g)
 have e : zd8 h.o h.cs h.rs h.ns r 6 = (showB h.cs 6 r, true) := by
  unfold zd8
  have hb : zac r h.cs.length = true := by simp [zac, hr]
  rw [zne g, hb]
  rfl
 rwa [e] at this
theorem fnNoted_den : ∀ d0 : Dat, WT cfg.ty 45 d0 → ∃ k, den cfg k 8 [.dat d0] [] [] = some ([.dat (.val (.bool true))], [], []) := by
 intro d0 w0
 obtain ⟨cs, rfl, hb⟩ := zob w0
 obtain ⟨o, C, R, N, a, sd, t, hd, e0⟩ := zl6 hb
 obtain ⟨ow, cw, rw_, nw, e2⟩ := zqs hd a sd t
 have e1 := zqx hd a sd t
 refine ⟨1100001, zaq Tryd.f8 1100000 (by kernel_rfl) (by kernel_rfl) (fun kk hkk => ?_) (by kernel_rfl) 1100001 (Nat.le_refl _)⟩
 rcases Bool.eq_false_or_eq_true (decide (1048576 < (cs.length : Int))) with hcs | hcs
 · exact zmN kk cs 0 0 0 0 [] [] [] [] [] [] [] true hcs
 have E0 := e0 kk (by omega)
 have E1 := e1 kk (by omega)
 have E2 := e2 kk (by omega)
 cases hm : zcy o C R N a t with
 | false =>
   rw [hm] at E1 E2
   exact zok kk cs o a t ow (CD C) (ID R) (ID N) cw rw_ nw [] sd hcs E0 E1 E2
 | true =>
   have hm' := hm
   unfold zcy at hm'
   simp only [Bool.and_eq_true, Bool.not_eq_true'] at hm'
   obtain ⟨⟨⟨m1, m2⟩, m3⟩, m4⟩ := hm'
   have g0 := zjX hd.fine m1
   rw [hm] at E1 E2
   obtain ⟨x, hx⟩ : ∃ x, x = setH ⟨o, C, R, N⟩ a sd t := ⟨_, rfl⟩
   have gx : Hg x := by rw [hx]; exact zhG g0 (zc1 m2) (zc1 m4) m3
   have E1 : den cfg kk 28 [.dat (YD false o C R N), .dat (I a), .dat (B sd), .dat (I t)] [] [] = some ([.dat (YD false x.o x.cs x.rs x.ns), .dat (B true)], [], []) := by
    rw [E1, hx]
    rfl
   clear hx
   have gy := zcn gx
   have gz := zdO gx
   obtain ⟨Ry, ty⟩ := Twins.young gx ⟨_, Twin.self gx⟩
   obtain ⟨Rz, tz⟩ := Twins.full gx ⟨_, Twin.self gx⟩
   have hlz : (CD (zaX x).cs).length = (ID (onL (zb0 x))).length := by rw [List.length_map, List.length_map, zlg, zmV]
   have hly : (ID (onL (zb0 x))).length ≤ (CD (zap x).cs).length := by rw [List.length_map, List.length_map, zi3, zmV]; exact zlN gx
   have hrl := gx.rlen
   have hlr : (ID x.rs).length = x.rs.length := by simp
   have la : zai cfg kk 8 Tryd.f8 16 (hd8 x.o (zap x).o (zaX x).o (CD x.cs) (CD (zap x).cs) (CD (zaX x).cs) (ID x.rs) (ID (zap x).rs) (ID (zaX x).rs) (ID x.ns) (ID (zap x).ns) (ID (zaX x).ns) 0) (.exit 0) (Nm [2] [.junk] [none] [] []) := by
    refine zaN (kk := kk) (f := 8) (fn := Tryd.f8) (r := 16) (x := .exit 0) (s' := Nm [2] [.junk] [none] [] [])
     (fun i => hd8 x.o (zap x).o (zaX x).o (CD x.cs) (CD (zap x).cs) (CD (zaX x).cs) (ID x.rs) (ID (zap x).rs) (ID (zaX x).rs) (ID x.ns) (ID (zap x).ns) (ID (zaX x).ns) i) x.rs.length (by omega)
     (fun i hi q s K hs hn => ?_) (fun q s K hs hK => zlI kk q _ _ _ _ _ _ _ _ _ _ _ _ _ hs (decide_eq_false (by omega)) hK) (s0 := hd8 x.o (zap x).o (zaX x).o (CD x.cs) (CD (zap x).cs) (CD (zaX x).cs) (ID x.rs) (ID (zap x).rs) (ID (zaX x).rs) (ID x.ns) (ID (zap x).ns) (ID (zaX x).ns) 0) rfl
    have hyl := ty.len
    have hzl := tz.len
    have hiy : i < (zap x).rs.length := by omega
    have hiz : i < (zaX x).rs.length := by omega
    have at_ : ∀ (l : List Int), i < l.length → l[i]? = some (l.getD i 0) := fun l hl => by rw [List.getD_eq_getElem?_getD, List.getElem?_eq_getElem hl]; rfl
    have ry := ty.root i hiy
    have rz := tz.root i hiz
    have s2 := ty.shows 6 ry
    have s3 := tz.shows 6 rz
    have E14 := zhk gx (gx.rin _ (zhm hi)) kk (by omega)
    have E14y := zhk gy (ty.lim ry).1 kk (by omega)
    have E14z := zhk gz (tz.lim rz).1 kk (by omega)
    rw [s2] at E14y
    rw [s3] at E14z
    refine znR kk q _ _ _ _ _ _ _ _ _ _ _ _ i _ _ _ _ hs (decide_eq_true (by omega)) (zdI (at_ _ hi)) E14 (zdI (at_ _ hiy)) E14y (zdI (at_ _ hiz)) E14z (by simp) (by simp) fun s' hs' => hn s' ?_
    rw [hs', wi i (by omega)]
    rfl
   exact zmH kk cs o a t ow (CD C) (ID R) (ID N) cw rw_ nw (ID (onL (zb0 x))) sd x.o (zap x).o (zaX x).o (CD x.cs) (CD (zap x).cs) (CD (zaX x).cs) (ID x.rs) (ID (zap x).rs) (ID (zaX x).rs) (ID x.ns) (ID (zap x).ns) (ID (zaX x).ns)
    hcs E0 E1 E2 (zi6 gx kk (by omega)) (zlb gx kk (by omega)) (zls gx kk (by omega)) (zco gx kk (by omega)) (zco gy kk (by omega)) (zco gz kk (by omega)) (by rw [hlz]; simp) (decide_eq_false (by omega)) la
end Go.Den
namespace Go.Proofs.YtcmcfebihbmmeaaDoor.fnNoted
open Go.ChangeShapes Go.WideShapes Go.ChangeAt Go.RowKit Go.Den
set_option linter.unusedVariables false
theorem own : ownKnob Tryd.prog.godebug = none := by kernel_rfl
theorem zpt : laidOutB Tryd.prog = true := by kernel_rfl
theorem body : (Tryd.f8.body).isSome = true := by kernel_rfl
theorem fnThere : cfg.fn 8 = some Tryd.f8 := by kernel_rfl
theorem zpl : zdB cfg.ty 8 45 = true := by kernel_rfl
def setG (h : Array Obj) (g : Nat) (c : Array Value) : Array Obj := h.modify g fun
 | .cells _ t frozen => .cells c t frozen
 | o => o
def vals (d : DataW Unit) : Array Value := match d with
 | .agg l => (l.map fun | .lit (.int k n) => Value.int k n | _ => .nilIface).toArray
 | _ => #[]
noncomputable def zio (os : Os) : World :=
 let w0 := World.holding Tryd.prog os ⟨#[], #[], []⟩
 { w0 with heap := setG (setG (setG (w0.heap) 3 (vals Rows.laid_math_bits_deBruijn32tab)) 4 (vals Rows.laid_math_bits_deBruijn64tab)) 0 (vals Rows.laid_internal_strconv_uint64pow10) }
theorem znY (os : Os) (args : Array Value) : laidMetH Tryd.prog Rows.fnNotedRow.laid ((zio os).forCall (fun _ _ => 0) ⟨#[], args, []⟩).memory :=
 laidMetH_of_parts (laidMet_of_run (ps := (List.range 32).map (MemPlace.cell 3 ·) ++ (List.range 64).map (MemPlace.cell 4 ·) ++ (List.range 20).map (MemPlace.cell 0 ·)) 8 (by kernel_rfl) (by kernel_rfl) (by kernel_rfl)) (by kernel_rfl)
set_option maxRecDepth 100000 in
theorem zoT (os : Os) (started : os.Started) (H : Type) (enc : TypeId × Value → H) :
 ReturnsInHanded {} Tryd.checked os 8 .any (fun w args => (Rows.fnNotedSpec.pre enc Tryd.prog Tryd.f8 Rows.fnNotedRow.domain false w args ∧ laidMetH Tryd.prog Rows.fnNotedRow.laid w) ∧ sizedMet enc Tryd.prog Tryd.f8 (OpenSpec.ofChange Rows.fnNotedSpec) false w args) (Rows.fnNotedSpec.post enc Tryd.prog Tryd.f8 false true false false) := by
 refine returnsInHanded_of_change_and (C := Tryd.checked) (X := fun w _ => laidMetH Tryd.prog Rows.fnNotedRow.laid w) (fun _ _ _ hh h => h.of_heap hh) own started (by kernel_rfl) Tryd.func8
  (ChangeSpec.witness_at (enc := enc) (C := Tryd.checked) (os := os) (X := fun w _ => laidMetH Tryd.prog Rows.fnNotedRow.laid w) false (zio os) #[.slice none 0 0] 8 rfl (by kernel_rfl) (by kernel_rfl) (by kernel_rfl) (by kernel_rfl) (by kernel_rfl) (znY os _)) ?_
 intro W base args ds gs before hval0 hW hcnd _ hL _
 have hTab : Lib.TabIs Tryd.prog W "internal/strconv.uint64pow10" .u64 Lib.pow10Tab := Lib.tabIs_of_head (g := 0) (by kernel_rfl) (t := 162) (by kernel_rfl) (e := 90) (n := 20) (by kernel_rfl) (by kernel_rfl) (by kernel_rfl) (by kernel_rfl) (laidMet.tail (laidMet.tail (show laidMet Tryd.prog Rows.fnNotedRow.laid W from hL)))
 have hval : ∀ (j : Nat) t v, Tryd.f8.params[j]? = some t → args[j]? = some v → Value.okWide Tryd.prog W .any base t v := hval0
 have hW' := hW
 obtain ⟨p, q, hA0, hV, rfl, hfz, hnd⟩ := hW
 have hA : DataW.TrodAll enc Tryd.prog W 0 (fun _ => true) true Tryd.f8.params.toList args.toList ds p := hA0
 rw [Tryd.params8] at hA hval
 obtain ⟨v0, vs0, d0, ds0, p0, q0, hargs, rfl, rfl, h0, r0⟩ := trodAll_cons hA
 obtain ⟨rfl, rfl, rfl⟩ := trodAll_nil r0
 obtain rfl : args = #[v0] := by cases args; simp_all
 obtain ⟨rfl, rfl⟩ := trodVars_none hV
 have k0 := h0
 have lt0 : ∀ x ∈ p0, x.block < W.heap.size := by obtain ⟨m, hm⟩ := k0; exact DataW.trod_lt m _ _ _ hm
 obtain ⟨e0, cv0, R0, V0, T0⟩ := zps zky zpl (hval 0 45 v0 rfl rfl) h0
 clear hA0 hval0
 have hden := fnNoted_den e0 T0
 refine (zmT (P := Tryd.prog) (C := cfg) (f := 8) (fn := Tryd.f8) (vals := #[v0]) (ds := [e0]) (W := W) (b := true) (B := zfz Tryd.prog W "internal/strconv.uint64pow10") (znT (znD hTab)).out (zoY fnThere) body rfl (fun j d v hj hv => ?_) (fun g o h => zos h) hden).mono fun e W' hh => ?_
 · match j, hj, hv with
   | 0, hj, hv => cases hj; cases hv; exact ⟨cv0, R0, V0⟩
   | j + 1, hj, hv => simp at hj
 · obtain ⟨he, bel⟩ := hh
   subst he
   exact ⟨_, rfl, _, _, _, [], _, [], hW', trodAll_mk1 (shut_bool Tryd.underlying4 _), (trodAll_cons_mk (Below.trod zpt (by kernel_rfl) (of_decide_eq_true (by kernel_rfl)) k0 bel lt0) trodAll_mk0), rfl, bel.frame _, fun h => by cases h⟩
theorem over : Rows.fnNotedRow.holds Tryd.pinned (OpenSpec.ofChange Rows.fnNotedSpec) :=
 OpenClaim.holds_of_wide 8 Tryd.f8 rfl rfl rfl rfl rfl rfl rfl ⟨rfl, rfl, rfl, rfl, rfl⟩ rfl rfl rfl rfl rfl (by kernel_rfl) Tryd.func8 (by kernel_rfl)
  (of_decide_eq_true (by kernel_rfl)) (by unfold Func.isWrapper; first | (rw [if_pos (by decide +kernel)]; kernel_rfl) | (rw [if_neg (by decide +kernel)]; exact ⟨rfl, rfl⟩))
  (fun os started H enc _ => zoT os started H enc)
theorem proved : Rows.FnNotedSaid := over
end Go.Proofs.YtcmcfebihbmmeaaDoor.fnNoted
namespace Go.Proofs.YtcmcfebihbmmeaaDoor
theorem fnNoted_holds : Rows.FnNotedSaid := fnNoted.proved
end Go.Proofs.YtcmcfebihbmmeaaDoor
namespace Go.Proofs.YtcmcfebihbmmeaaDoor
open Go
theorem fnNotedCard_holds : Rows.FnNotedCardSaid :=
 Claim7.holds_tied_plain_at .later [] [.data, .data, .data] true (true, "6ff86e34f5ef3fa93c68ab0da54ea809c76b7496032f1ace8724b71ef3b8924e") true
  fnNoted_holds (fun _ h => by cases h) (by kernel_rfl) (fun _ h => by cases h) fnNoted_row_tie rfl ⟨rfl, rfl⟩ (by kernel_rfl) rfl
  (fun f fn hf hfn => by
   obtain rfl : f = 8 := Option.some.inj ((show Tryd.prog.funcNamed Rows.fnNotedRow.func = some 8 by kernel_rfl).symm.trans hf) |>.symm
   obtain rfl : fn = Tryd.f8 := (Option.some.inj (Tryd.func8.symm.trans hfn)).symm
   exact ⟨by kernel_rfl, fun j t ht => by
    rw [Tryd.params8] at ht
    match j, ht with
    | 0, ht => cases ht; exact (show Tryd.prog.wantsStandIn 45 = false by kernel_rfl)
    | j + 1, ht => simp at ht⟩)
  (by kernel_rfl)
end Go.Proofs.YtcmcfebihbmmeaaDoor
