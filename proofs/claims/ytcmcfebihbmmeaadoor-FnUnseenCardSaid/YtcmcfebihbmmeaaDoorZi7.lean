/- Merged out of: EG EI EJ EK EL UC SA HA HB (prune.py, a program of this work's). -/
import Derived.Test.YtcmcfebihbmmeaaDoorZi6
import Derived.Test.YtcmcfebihbmmeaaDoorZi5
import Derived.KernelRfl
set_option linter.unusedVariables false
set_option linter.unusedSimpArgs false
set_option linter.unnecessarySimpa false
namespace Go.Den
open Go
set_option linter.unusedVariables false
set_option maxRecDepth 100000
theorem zes {α : Type} (f : α → Dat) (hf : ∀ x, (f x).clean = true) : ∀ l : List α, Dat.cleans (l.map f) = true
 | [] => rfl
 | x :: l => by
   show ((f x).clean && Dat.cleans (l.map f)) = true
   rw [hf x, zes f hf l]; rfl
theorem zkI (cs : List Cl) : Dat.cleans (CD cs) = true := zes _ (fun _ => rfl) cs
theorem zhy (zs : List Int) : Dat.cleans (ID zs) = true := zes _ (fun _ => rfl) zs
theorem zlQ {ks : List Bool} {i : Nat} (h : i < ks.length) : ((0 ≤ (i : Int) ∧ (i : Int) < ((BD ks).length : Int)) ∧ (BD ks)[((i : Int)).toNat]? = some (B (ks.getD i false))) := by
 have := zfb (ks := ks) (i := (i : Int)) (by omega) (by omega)
 rw [show ((i : Int)).toNat = i from Int.toNat_natCast i] at this
 rw [Int.toNat_natCast]
 exact this
theorem zml {zs : List Int} {i : Nat} (h : i < zs.length) : ((0 ≤ (i : Int) ∧ (i : Int) < ((ID zs).length : Int)) ∧ (ID zs)[((i : Int)).toNat]? = some (I (zs.getD i 0))) := by
 obtain ⟨x, hx⟩ := zgM h
 rw [gd hx]
 exact znD hx
theorem zn9 {m : List Bool} {n : Nat} {t : List Int} (h : Tb m n t) (hm : m.length = n) {j : Int} (h0 : 0 ≤ j) (hk : K m j) : (0 ≤ j ∧ j < ((ID t).length : Int)) ∧ (ID t)[j.toNat]? = some (I (cnt m j)) := by
 obtain ⟨h1, h2⟩ := h.get hm h0 hk
 exact ⟨by simpa using h1, gm (f := (I ·)) h2⟩
def TbP (m : List Bool) (n i : Nat) (t : List Int) : Prop := t.length = n ∧ ∀ j : Nat, j < i → K m (j : Int) → t.getD j 0 = cnt m (j : Int)
theorem TbP.set {m : List Bool} {n i : Nat} {t : List Int} (h : TbP m n i t) (hi : i < n) : TbP m n (i + 1) (t.set i (cnt m (i : Int))) := by
 refine ⟨by rw [List.length_set]; exact h.1, fun j hj hk => ?_⟩
 by_cases e : j = i
 · subst e
   rw [List.getD_eq_getElem?_getD, List.getElem?_set_self (by have := h.1; omega)]
   rfl
 · rw [List.getD_eq_getElem?_getD, List.getElem?_set_ne (by omega), ← List.getD_eq_getElem?_getD]
   exact h.2 j (by omega) hk
theorem TbP.skip {m : List Bool} {n i : Nat} {t : List Int} (h : TbP m n i t) (hk : ¬ K m (i : Int)) : TbP m n (i + 1) t :=
 ⟨h.1, fun j hj hkj => h.2 j (by
  by_cases e : j = i
  · subst e; exact absurd hkj hk
  · omega) hkj⟩
theorem TbP.done {m : List Bool} {n : Nat} {t : List Int} (h : TbP m n n t) (hm : m.length = n) : Tb m n t :=
 ⟨h.1, fun j hk => h.2 j (by have := K_lt (Int.natCast_nonneg j) hk; omega) hk⟩
theorem zj3 {m : List Bool} {x : Cl} (h : x.l = false) : Dat.agg [B x.l, I x.n, I (cnt m x.a), I (cnt m x.b)] = (mvC m x).d := by
 unfold mvC
 rw [if_neg (by rw [h]; simp)]
theorem zj0 {m : List Bool} {x : Cl} (h : x.l = true) : Dat.agg [B x.l, I x.n, I x.a, I x.b] = (mvC m x).d := by
 unfold mvC
 rw [if_pos h]
theorem zhi {m : List Bool} {c : List Cl} {i : Nat} {x : Cl} (hm : c.length = m.length) (hx : c[i]? = some x) (hb : m[i]? = some true) : CD (mvCs m (c.take i) (m.take i)) ++ [(mvC m x).d] = CD (mvCs m (c.take (i + 1)) (m.take (i + 1))) := by
 rw [zh9 m c m i x true hm hx hb]
 simp [CD]
theorem zm2 {m : List Bool} {c : List Cl} {i : Nat} {x : Cl} (hm : c.length = m.length) (hx : c[i]? = some x) (hb : m[i]? = some false) : CD (mvCs m (c.take i) (m.take i)) = CD (mvCs m (c.take (i + 1)) (m.take (i + 1))) := by
 rw [zh9 m c m i x false hm hx hb]
 simp [CD]
theorem zng (m : List Bool) {rs : List Int} {i : Nat} {x : Int} (hx : rs[i]? = some x) : ID ((rs.take i).map (cnt m)) ++ [I (cnt m x)] = ID ((rs.take (i + 1)).map (cnt m)) := by
 rw [List.take_add_one, hx]
 simp [ID]
theorem zoD {m : List Bool} {c : List Cl} {i : Nat} (hm : m.length ≤ 200) : (CD (mvCs m (c.take i) (m.take i))).length + 1 ≤ 2147483648 := by
 have h1 := zj7 m (c.take i) (m.take i)
 rw [List.length_map]
 rw [List.length_take] at h1
 omega
theorem getM {ks : List Bool} {i : Nat} (h : i < ks.length) : ks[i]? = some (ks.getD i false) := by
 rw [List.getD_eq_getElem?_getD, List.getElem?_eq_getElem h]; rfl
theorem K_nat {ks : List Bool} {i : Nat} : K ks (i : Int) ↔ ks.getD i false = true := by unfold K; rw [Int.toNat_natCast]
theorem zmj (b kb rb : Bool) (h : Hp) (g : Hg h) (m : List Bool) (hm : m.length = h.cs.length) (hsh : Shut m h.cs) (hr : ∀ x ∈ h.rs, K m x) : EvN 1000 118 [.dat (.lst b (CD h.cs)), .dat (.lst rb (ID h.rs)), .dat (.lst kb (BD m))] [] [] ([.own 97 (CD (mvCs m h.cs m)), .own 3 (ID (h.rs.map (cnt m)))], [], []) := by
 refine zaO Go.Proofs.Tryd.f118 999 (by kernel_rfl) (by kernel_rfl) fun kk hkk => ?_
 have hcl := g.clen
 have hrl := g.rlen
 have hlm : (List.map Cl.d h.cs).length = h.cs.length := by simp
 have hlc : (CD h.cs).length = h.cs.length := by simp
 have hlb : (BD m).length = m.length := by simp
 have hlr : (ID h.rs).length = h.rs.length := by simp
 obtain ⟨t, ht, la⟩ := zc9 (kk := kk) (f := 118) (fn := Go.Proofs.Tryd.f118) (r := 4) (x := .exit 0) (fun i (t : List Int) => zgz b kb rb (CD h.cs) (ID h.rs) (BD m) (ID t) (cnt m (i : Int)) (i : Int))
  (fun t => Nm [0, 1, 2, 8, 9, 10] [.dat (.lst b (CD h.cs)), .dat (.lst rb (ID h.rs)), .dat (.lst kb (BD m)), .own 3 (ID t), .own 97 [], .own 3 []] [none, none, none, none, none, none] [] [])
  (TbP m m.length) m.length (by omega) (List.replicate m.length 0) ⟨by simp, fun j hj => by omega⟩
  (fun i t hi hP => by
   have hb := zlQ hi
   have ht := hP.1
   have hti := zml (zs := t) (i := i) (by omega)
   have hle := zmb m i
   cases hk : m.getD i false with
   | true =>
     rw [hk] at hb
     refine ⟨_, hP.set (by omega), fun q s K hs hn => zl0 kk q b kb rb _ _ _ _ _ i true (t.getD i 0) hs (fun _ _ => ⟨hb, hti.1, hti.2, fun s' hs' => hn s' ?_⟩) (fun _ d => by cases d) (fun d => absurd (of_decide_eq_false d) (by omega))⟩
     rw [hs', wi i (by omega), Int.toNat_natCast, zki, zbn (by omega), ← zj5 m i hi (K_nat.2 hk)]
     rfl
   | false =>
     rw [hk] at hb
     have hnk : ¬ K m (i : Int) := fun h => by rw [K_nat, hk] at h; cases h
     refine ⟨_, hP.set (by omega), fun q s K hs hn => zl0 kk q b kb rb _ _ _ _ _ i false (t.getD i 0) hs (fun _ d => by cases d) (fun _ _ => ⟨hb, hti.1, hti.2, fun s' hs' => hn s' ?_⟩) (fun d => absurd (of_decide_eq_false d) (by omega))⟩
     rw [hs', wi i (by omega), Int.toNat_natCast, zki, ← zoU m i hi hnk]
     rfl)
  (fun t _ q s K hs hK => zl0 kk q b kb rb _ _ _ _ _ _ true 0 hs (fun d => absurd (of_decide_eq_true d) (by omega)) (fun d => absurd (of_decide_eq_true d) (by omega)) (fun _ => hK))
  (s0 := zgz b kb rb (CD h.cs) (ID h.rs) (BD m) (List.replicate (CD h.cs).length (I 0)) 0 0) (by rw [show (CD h.cs).length = m.length by omega, zoG]; simp [znt])
 have htb : Tb m m.length t := ht.done rfl
 have lb := zb2 (kk := kk) (f := 118) (fn := Go.Proofs.Tryd.f118) (r := 11) (x := .exit 2) (s' := Nm [1, 8, 9, 10] [.dat (.lst rb (ID h.rs)), .own 3 (ID t), .own 97 (CD (mvCs m h.cs m)), .own 3 []] [none, none, none, none] [] [])
  (fun i => zgX b kb rb (CD h.cs) (ID h.rs) (BD m) (ID t) (CD (mvCs m (h.cs.take i) (m.take i))) i) h.cs.length (by omega)
  (fun i hi q s K hs hn => by
   obtain ⟨x, hx⟩ := zgM hi
   have hxd := ih (gm (f := Cl.d) hx)
   have hb := zlQ (ks := m) (i := i) (by omega)
   have hmi := getM (ks := m) (i := i) (by omega)
   have hlim := zoD (m := m) (c := h.cs) (i := i) (by omega)
   have hcx : cg h.cs (i : Int) = x := zh5 (by rw [Int.toNat_natCast]; exact hx)
   cases hk : m.getD i false with
   | false =>
     rw [hk] at hb hmi
     refine zkm kk q b kb rb _ _ _ _ _ i x false 0 0 hs (fun _ _ => ⟨hxd, hb, fun s' hs' => hn s' ?_⟩) (fun _ d => by cases d) (fun _ d => by cases d) (fun d => absurd (of_decide_eq_false d) (by omega))
     rw [hs', wi i (by omega), ← zm2 hm.symm hx hmi]
     rfl
   | true =>
     rw [hk] at hb hmi
     cases hl : x.l with
     | true =>
       refine zkm kk q b kb rb _ _ _ _ _ i x true 0 0 hs (fun _ d => by cases d) (fun _ _ d => by rw [hl] at d; cases d) (fun _ _ _ => ⟨hxd, hb, hlim, fun s' hs' => hn s' ?_⟩) (fun d => absurd (of_decide_eq_false d) (by omega))
       rw [hs', wi i (by omega), zj0 hl, zhi hm.symm hx hmi]
       rfl
     | false =>
       obtain ⟨⟨a0, a1⟩, b0, b1⟩ := hsh i (K_nat.2 hk) (by rw [hcx]; exact hl)
       rw [hcx] at a0 a1 b0 b1
       have ta := zn9 htb rfl a0 a1
       have tb := zn9 htb rfl b0 b1
       refine zkm kk q b kb rb _ _ _ _ _ i x true (cnt m x.a) (cnt m x.b) hs (fun _ d => by cases d) (fun _ _ _ => ⟨hxd, hb, ta.1, ta.2, tb.1, tb.2, hlim, fun s' hs' => hn s' ?_⟩) (fun _ _ d => by rw [hl] at d; cases d) (fun d => absurd (of_decide_eq_false d) (by omega))
       rw [hs', wi i (by omega), zj3 hl, zhi hm.symm hx hmi]
       rfl)
  (fun q s K hs hK => zkm kk q b kb rb _ _ _ _ _ _ c0 true 0 0 hs (fun d => absurd (of_decide_eq_true d) (by omega)) (fun d => absurd (of_decide_eq_true d) (by omega)) (fun d => absurd (of_decide_eq_true d) (by omega)) (fun _ => by
   rw [List.take_length, show h.cs.length = m.length from hm.symm, List.take_length]; exact hK))
  (s0 := zgX b kb rb (CD h.cs) (ID h.rs) (BD m) (ID t) [] 0) (by simp [mvCs])
 have lc := zb2 (kk := kk) (f := 118) (fn := Go.Proofs.Tryd.f118) (r := 19) (x := .exit 4) (s' := Nm [9, 10] [.own 97 (CD (mvCs m h.cs m)), .own 3 (ID (h.rs.map (cnt m)))] [none, none] [] [])
  (fun i => zgr rb (ID h.rs) (ID t) (CD (mvCs m h.cs m)) (ID ((h.rs.take i).map (cnt m))) i) h.rs.length (by omega)
  (fun i hi q s K hs hn => by
   obtain ⟨x, hx⟩ := zgM hi
   have hxm := List.mem_of_getElem? hx
   have tx := zn9 htb rfl (g.rin x hxm).1 (hr x hxm)
   refine zoO kk q rb _ _ _ _ i x (cnt m x) hs (fun _ => ⟨znD hx, tx.1, tx.2, by simp; omega, fun s' hs' => hn s' ?_⟩) (fun d => absurd (of_decide_eq_false d) (by omega))
   rw [hs', wi i (by omega), zng m hx]
   rfl)
  (fun q s K hs hK => zoO kk q rb _ _ _ _ _ 0 0 hs (fun d => absurd (of_decide_eq_true d) (by omega)) (fun _ => by rw [List.take_length]; exact hK))
  (s0 := zgr rb (ID h.rs) (ID t) (CD (mvCs m h.cs m)) [] 0) (by simp)
 exact kept kk b kb rb _ _ _ (ID t) (CD (mvCs m h.cs m)) (ID (h.rs.map (cnt m))) (cnt m m.length) ⟨⟨by omega, by omega, by omega⟩, la, lb, lc, rfl⟩
end Go.Den
namespace Go.Den
open Go
set_option linter.unusedVariables false
set_option maxRecDepth 100000
open Go.Proofs.YtcmcfebihbmmeaaDoor (num numV)
theorem zi1 {α : Type} (f : α → Dat) (n : Nat) (hf : ∀ x, (f x).cells.length = n) : ∀ l : List α, (l.map f).all (fun d => Nat.beq d.cells.length n) = true
 | [] => rfl
 | x :: l => by rw [List.map_cons, List.all_cons, hf x, zi1 f n hf l, Bool.and_true]; exact beq_eq.2 rfl
theorem zoL (zs : List Int) : (ID zs).all (fun d => Nat.beq d.cells.length 1) = true := zi1 _ 1 (fun _ => rfl) zs
theorem zlM : ∀ zs : List Int, zeP (ID zs) = some zs
 | [] => rfl
 | z :: zs => by
   show (zeP (ID zs)).map (z :: ·) = some (z :: zs)
   rw [zlM zs]; rfl
theorem zqp (zs : List Int) (i : Int) (h0 : 0 ≤ i) (h1 : i < (zs.length : Int)) (hl : zs.length ≤ 1000000) : EvN 1 109 [.own 3 (ID zs), .dat (I i), .dat (I (i + 1))] [] [] ([.own 3 (ID (zs.take i.toNat ++ zs.drop (i.toNat + 1)))], [], []) := by
 refine zfK (g := ziy 3) (by kernel_rfl) ?_
 have h2 : (decide (0 ≤ i) && decide (i ≤ i + 1) && decide (i + 1 ≤ ((ID zs).length : Int))) = true := by simp; omega
 have h3 : Nat.ble (ID zs).length 1000000 = true := by simpa using hl
 have h4 : Nat.beq 3 3 = true := rfl
 have h5 : (i + 1).toNat = i.toNat + 1 := by omega
 unfold ziy
 simp only [h2, h3, h4, Bool.and_self, zlM, Option.map_some, h5]
 rfl
end Go.Den
namespace Go.Den
open Go
set_option linter.unusedVariables false
set_option maxRecDepth 100000
open Go.Proofs.YtcmcfebihbmmeaaDoor (num numV)
theorem zeF {h : Hp} (g : Hg h) {a : Int} (ha : zac a h.rs.length = true) : (0 ≤ a ∧ a < ((ID h.rs).length : Int)) ∧ (ID h.rs)[a.toNat]? = some (I (rg h a)) ∧ (0 ≤ rg h a ∧ rg h a < ((CD h.cs).length : Int)) ∧ (CD h.cs)[(rg h a).toNat]? = some (cg h.cs (rg h a)).d := by
 obtain ⟨h1, h2⟩ := zot ha
 have h3 := zik g ha
 obtain ⟨h4, h5⟩ := znd (c := h.cs) h3.1 h3.2
 exact ⟨by simpa using h1, gm (f := (I ·)) h2, h4, h5⟩
theorem in39 {h : Hp} (g : Hg h) (a : Int) : EvN 1 39 [.dat (I a), .dat (I 0), .dat (I (w64 (((ID h.rs).length : Int) - 1)))] [] [] ([.dat (B (zac a h.rs.length))], [], []) := by
 have hrl := g.rlen
 have := zjH a 0 ((h.rs.length : Int) - 1)
 rw [zny] at this
 rw [show w64 (((ID h.rs).length : Int) - 1) = (h.rs.length : Int) - 1 by rw [List.length_map, zbn (by omega)]]
 exact this
theorem zoR (cs : List Cl) (c : Cl) : CD cs ++ [c.d] = CD (cs ++ [c]) := by simp [CD]
theorem zgq (zs : List Int) (z : Int) : ID zs ++ [I z] = ID (zs ++ [z]) := by simp [ID]
theorem zpg {cs : List Cl} {c : Cl} (h : cs.length ≤ 1000) : w64 (((CD cs ++ [c.d]).length : Int) - 1) = (cs.length : Int) := by
 rw [List.length_append, List.length_map, zbn (by simp; omega)]; simp
section
variable {fr : Bool} {room nur : Int} {a b : Int} {w : Ws}
def Other (k : Int) : Prop := k ≠ 1 ∧ k ≠ 2 ∧ k ≠ 3 ∧ k ≠ 4 ∧ k ≠ 5 ∧ k ≠ 6 ∧ k ≠ 7 ∧ k ≠ 8 ∧ k ≠ 9 ∧ k ≠ 10 ∧ k ≠ 11
end
theorem zlA (zs : List Int) (n : Nat) : List.take n (ID zs) = ID (zs.take n) := by simp [ID]
theorem zmA (zs : List Int) (n : Nat) : List.drop n (ID zs) = ID (zs.drop n) := by simp [ID]
end Go.Den
namespace Go.Den
open Go
set_option linter.unusedVariables false
set_option maxRecDepth 100000
open Go.Proofs.YtcmcfebihbmmeaaDoor (num numV)
theorem zl4 (x y : ByteArray) : zah (x ++ y) = zah x ++ zah y := by simp [zah]
theorem ziF (x : ByteArray) : (zah x).length = x.size := by simp [zah]
theorem zhM (x : ByteArray) : (zah x).all (fun d => Nat.beq d.cells.length 1) = true := zi1 (fun b : UInt8 => Dat.val (.int .u8 b.toNat)) 1 (fun _ => rfl) x.data.toList
def One (k : Int) : Prop := k = 3 ∨ k = 4 ∨ k = 5 ∨ k = 6
end Go.Den
namespace Go.Den
open Go
set_option linter.unusedVariables false
set_option maxRecDepth 100000
open Go.Proofs.YtcmcfebihbmmeaaDoor (num numV)
abbrev Op3.d (x : Op3) : Dat := N3 x.k x.a x.b
abbrev OD (l : List Op3) : List Dat := l.map Op3.d
def w00 : Ws := ⟨⟨0, [], [], []⟩, false, ByteArray.empty⟩
theorem iv00 (fr : Bool) : Iv fr 0 w00 :=
 ⟨⟨fun i c h => by simp [w00] at h, by simp [w00], by simp [w00], Int.le_refl _, by simp [w00], fun x h => by simp [w00] at h, .nil, fun x h => by simp [w00] at h, fun i c h => by simp [w00] at h⟩, fun _ => by simp [w00], by show (0 : Nat) ≤ _; omega⟩
theorem zlC {α : Type} {L l : List α} {x : α} {i : Nat} (h : L.drop i = x :: l) : L[i]? = some x ∧ L.drop (i + 1) = l ∧ i < L.length := by
 have h1 : L[i]? = some x := by
  have := List.getElem?_drop (xs := L) (i := i) (j := 0)
  rw [h] at this
  simpa using this.symm
 refine ⟨h1, ?_, (List.getElem?_eq_some_iff.1 h1).1⟩
 have : (L.drop i).drop 1 = L.drop (i + 1) := by rw [List.drop_drop]
 rw [← this, h]; rfl
section
variable {fr : Bool} {room nur : Int}
end
theorem zd5 (x : ByteArray) : zcl (zah x) = some (.string x) := by
 have key : ∀ l : List UInt8, zb9 (l.map fun b => Dat.val (.int .u8 (b.toNat : Int))) = some l := by
  intro l
  induction l with
  | nil => rfl
  | cons b l ih =>
    show (zb9 (l.map _)).map (UInt8.ofNat ((b.toNat : Int)).toNat :: ·) = some (b :: l)
    rw [ih, Int.toNat_natCast]
    simp
 unfold zcl zah
 rw [key]
 simp
end Go.Den
namespace Go.Den
open Go
set_option linter.unusedVariables false
set_option maxRecDepth 100000
abbrev cp : D := .ptr (.up 0) 0
abbrev Cur (cs : List Dat) (p s : Int) : List D := [.dat (.lst false cs), .dat (I p), .dat (U64 s)]
def Bs (cs : List Dat) : Prop := cs.length ≤ 9223372036854775807 ∧ ∀ d ∈ cs, ∃ x : Int, d = Y8 x ∧ 0 ≤ x ∧ x ≤ 255
theorem ziR : ∀ {cs : List Dat}, (∀ d ∈ cs, ∃ x : Int, d = Y8 x ∧ 0 ≤ x ∧ x ≤ 255) → Dat.cleans cs = true
 | [], _ => rfl
 | d :: cs, h => by
   obtain ⟨x, rfl, _⟩ := h d (by simp)
   have := ziR fun e he => h e (List.mem_cons_of_mem _ he)
   simp only [Dat.cleans, this, Bool.and_true]
   rfl
theorem Bs.cleans {cs : List Dat} (h : Bs cs) : Dat.cleans cs = true := ziR h.2
theorem Bs.box {cs : List Dat} (h : Bs cs) (p s : Int) : zav [Cur cs p s] = true := by
 have hb := h.cleans
 show (((Dat.lst false cs).clean && true) && true) = true
 show ((Dat.cleans cs && true) && true) = true
 rw [hb]
 rfl
theorem zpI {d : Dat} (h : WT cfg.ty 5 d) : ∃ x : Int, d = Y8 x ∧ 0 ≤ x ∧ x ≤ 255 := by
 obtain ⟨n, h1, h2⟩ := zp1 h (i := ⟨.int .u8, 1, 1, [], [.dat (.val (.int .u8 0))]⟩) (by kernel_rfl) rfl
 refine ⟨n, h1, ?_⟩
 simp only [Lit.wf, Bool.and_eq_true, decide_eq_true_eq] at h2
 exact h2
theorem zon {d : Dat} (h : WT cfg.ty 45 d) : ∃ cs : List Dat, d = .lst false cs ∧ Bs cs := by
 obtain ⟨es, rfl, hl, hx⟩ := zqK h (i := ⟨.slice 5, 1, 24, [], [.own 5 []]⟩) (by kernel_rfl) rfl
 exact ⟨es, rfl, hl, fun x hxe => zpI (hx x hxe)⟩
theorem zlT (n : Nat) (h : n ≤ 255) : w64 (IntKind.u64.wrap (n : Int)) = n := by
 have : IntKind.u64.wrap (n : Int) = n := by
  simp [IntKind.wrap, IntKind.bits, IntKind.signed]; omega
 rw [this, zbn (by omega)]
theorem zpj (x : Int) : ((BitVec.ofInt IntKind.u64.bits x &&& BitVec.ofInt IntKind.u64.bits 255).toNat : Nat) ≤ 255 := by
 rw [BitVec.toNat_and]
 exact Nat.and_le_right
theorem zmJ {cs : List Dat} (hb : Bs cs) (p s : Int) (h0 : 0 ≤ p) (h1 : p ≤ 1000000) : ∃ z s' : Int, 0 ≤ z ∧ z ≤ 255 ∧ EvN 1 80 [cp] [Cur cs p s] [] ([.dat (I z)], [Cur cs (p + 1) s'], []) := by
 have hp : w64 (p + 1) = p + 1 := zbn (by omega)
 by_cases hlt : p < (cs.length : Int)
 · have hget : cs[p.toNat]? = some (cs[p.toNat]'(by omega)) := List.getElem?_eq_getElem (by omega)
   obtain ⟨x, hx, hx0, hx1⟩ := hb.2 _ (List.getElem_mem (l := cs) (n := p.toNat) (by omega))
   refine ⟨x, IntKind.u64.wrap (IntKind.u64.wrap (IntKind.u64.wrap (s * 6364136223846793005) + IntKind.u64.wrap (w64 x)) + 1442695040888963407), hx0, hx1, zaO Go.Proofs.Tryd.f80 0 (by kernel_rfl) (by kernel_rfl) fun kk _ => ?_⟩
   have := zpG kk cs p s x (decide_eq_true hlt) ⟨⟨h0, hlt⟩, by rw [hget, hx]⟩ (by rw [hp]; exact decide_eq_true (by omega))
   have hx' : w64 x = x := zbn (by omega)
   rw [hp] at this
   rw [hx'] at this ⊢
   exact this
 · have h := fun kk => znr kk cs p s (decide_eq_false hlt) (by rw [hp]; exact decide_eq_false (by omega))
   simp only [hp] at h
   generalize hS : IntKind.u64.wrap (IntKind.u64.wrap (IntKind.u64.wrap (s * 6364136223846793005) + IntKind.u64.wrap 0) + 1442695040888963407) = S' at h
   have hz := zpj (S'.fdiv (2 ^ min (Int.toNat 40) IntKind.u64.bits))
   generalize hZ : (BitVec.ofInt IntKind.u64.bits (S'.fdiv (2 ^ min (Int.toNat 40) IntKind.u64.bits)) &&& BitVec.ofInt IntKind.u64.bits 255).toNat = Z at h hz
   rw [zlT Z hz] at h
   exact ⟨Z, S', by omega, by omega, zaO Go.Proofs.Tryd.f80 0 (by kernel_rfl) (by kernel_rfl) fun kk _ => h kk⟩
theorem zbR {cs : List Dat} (hb : Bs cs) (n p s : Int) (h0 : 0 ≤ p) (h1 : p ≤ 900000) (hn : n ≤ 1000000) : ∃ z p' s' : Int, p ≤ p' ∧ p' ≤ p + 2 ∧ 0 ≤ z ∧ (z < n ∨ z = 0) ∧
 EvN 2 54 [cp, .dat (I n)] [Cur cs p s] [] ([.dat (I z)], [Cur cs p' s'], []) := by
 by_cases h : n ≤ 1
 · refine ⟨0, p, s, by omega, by omega, by omega, .inr rfl, zaO Go.Proofs.Tryd.f54 1 (by kernel_rfl) (by kernel_rfl) fun kk _ => ?_⟩
   exact zqo kk cs p s n (decide_eq_true h)
 · obtain ⟨z, s', hz0, hz1, hz⟩ := zmJ hb p s h0 (by omega)
   by_cases hbig : 200 < n
   · obtain ⟨w, s2, hw0, hw1, hw⟩ := zmJ hb (p + 1) s' (by omega) (by omega)
     refine ⟨(z * 256 + w).tmod n, p + 1 + 1, s2, by omega, by omega, Int.tmod_nonneg _ (by omega), .inl (Int.tmod_lt_of_pos _ (by omega)), zaO Go.Proofs.Tryd.f54 1 (by kernel_rfl) (by kernel_rfl) fun kk hk => ?_⟩
     have := zqz kk cs p s (p + 1) s' (p + 1 + 1) s2 n z w (decide_eq_false h) (hz kk hk) (decide_eq_true hbig) (hw kk hk) (by omega)
     rw [zbn (n := z * 256) (by omega), zbn (n := z * 256 + w) (by omega)] at this
     exact this
   · refine ⟨z.tmod n, p + 1, s', by omega, by omega, Int.tmod_nonneg _ (by omega), .inl (Int.tmod_lt_of_pos _ (by omega)), zaO Go.Proofs.Tryd.f54 1 (by kernel_rfl) (by kernel_rfl) fun kk hk => ?_⟩
     exact zqy kk cs p s (p + 1) s' n z (decide_eq_false h) (hz kk hk) (decide_eq_false hbig) (by omega)
theorem zgY {cs : List Dat} (hb : Bs cs) (n p s : Int) (h0 : 0 ≤ p) (h1 : p ≤ 900000) (hn : n ≤ 1000000) : ∃ (b : Bool) (p' s' : Int), p ≤ p' ∧ p' ≤ p + 2 ∧
 EvN 3 55 [cp, .dat (I n)] [Cur cs p s] [] ([.dat (B b)], [Cur cs p' s'], []) := by
 obtain ⟨z, p', s', hp1, hp2, _, _, hz⟩ := zbR hb n p s h0 h1 hn
 exact ⟨decide (z = 0), p', s', hp1, hp2, zaO Go.Proofs.Tryd.f55 2 (by kernel_rfl) (by kernel_rfl) fun kk hk => one_ kk cs p s p' s' n z (hz kk hk)⟩
theorem zdO {cs : List Dat} (hb : Bs cs) (b : Bool) (vs : List Int) (p s : Int) (h0 : 0 ≤ p) (h1 : p ≤ 900000) (hv : 0 < vs.length ∧ vs.length ≤ 100000) : ∃ (v p' s' : Int), v ∈ vs ∧ p ≤ p' ∧ p' ≤ p + 2 ∧
 EvN 3 69 [cp, .dat (.lst b (vs.map I))] [Cur cs p s] [] ([.dat (I v)], [Cur cs p' s'], []) := by
 obtain ⟨z, p', s', hp1, hp2, hz0, hz1, hz⟩ := zbR hb (vs.length : Int) p s h0 h1 (by omega)
 have hlt : z.toNat < vs.length := by omega
 refine ⟨vs[z.toNat], p', s', List.getElem_mem _, hp1, hp2, zaO Go.Proofs.Tryd.f69 2 (by kernel_rfl) (by kernel_rfl) fun kk hk => ?_⟩
 refine among kk cs p s p' s' b (vs.map I) z vs[z.toNat] ?_ ⟨⟨hz0, by rw [List.length_map]; omega⟩, ?_⟩
 · rw [List.length_map]; exact hz kk hk
 · rw [List.getElem?_map, List.getElem?_eq_getElem hlt]; rfl
theorem zjq {α : Type} {E : Nat → Env} {c : Code} {N : Nat} (st : Nat → α → St) (P : Nat → α → Prop) (n : Nat)
 (hgo : ∀ i a, i < n → P i a → ∃ a', P (i + 1) a' ∧ ∀ kk : Nat, N ≤ kk → ∀ (m : Nat) (s : St) (K : X → St → Prop), s.norm ((E kk).live (zaa c)) = st i a → (∀ s : St, s.norm ((E kk).live (zaa c)) = st (i + 1) a' → zad (E kk) kk c m s K) → zad (E kk) kk c (m + 1) s K) :
 ∀ (d i : Nat) (a : α), i + d = n → P i a → ∃ a', P n a' ∧ ∀ kk : Nat, N ≤ kk → ∀ K : X → St → Prop, (∀ (m : Nat) (s : St), s.norm ((E kk).live (zaa c)) = st n a' → zad (E kk) kk c (m + 1) s K) → ∀ m, d < m → ∀ s : St, s.norm ((E kk).live (zaa c)) = st i a → zad (E kk) kk c m s K := by
 intro d
 induction d with
 | zero =>
   intro i a hi hP
   have : i = n := by omega
   subst this
   refine ⟨a, hP, fun kk hkk K hend m hm s hs => ?_⟩
   obtain ⟨m, rfl⟩ : ∃ k, m = k + 1 := ⟨m - 1, by omega⟩
   exact hend m s hs
 | succ d ih =>
   intro i a hi hP
   obtain ⟨a1, hP1, hstep⟩ := hgo i a (by omega) hP
   obtain ⟨a', hP', f⟩ := ih (i + 1) a1 (by omega) hP1
   refine ⟨a', hP', fun kk hkk K hend m hm s hs => ?_⟩
   obtain ⟨m, rfl⟩ : ∃ k, m = k + 1 := ⟨m - 1, by omega⟩
   exact hstep kk hkk m s K hs fun s hs => f kk hkk K hend m (by omega) s hs
theorem ziZ {α : Type} {N f : Nat} {fn : Func} {r : Nat} {x : X} (st : Nat → α → St) (fin : α → St) (P : Nat → α → Prop) (n : Nat) (hk : n < N) (a0 : α) (h0 : P 0 a0)
 (hgo : ∀ i a, i < n → P i a → ∃ a', P (i + 1) a' ∧ ∀ kk : Nat, N ≤ kk → ∀ (m : Nat) (s : St) (K : X → St → Prop), s.norm ((zae cfg kk f fn).live (zaa (lp fn r))) = st i a → (∀ s : St, s.norm ((zae cfg kk f fn).live (zaa (lp fn r))) = st (i + 1) a' → zad (zae cfg kk f fn) kk (lp fn r) m s K) → zad (zae cfg kk f fn) kk (lp fn r) (m + 1) s K)
 (hend : ∀ a, P n a → ∀ kk : Nat, N ≤ kk → ∀ (m : Nat) (s : St) (K : X → St → Prop), s.norm ((zae cfg kk f fn).live (zaa (lp fn r))) = st n a → K x (fin a) → zad (zae cfg kk f fn) kk (lp fn r) (m + 1) s K) {s0 : St} (hs0 : s0 = st 0 a0) :
 ∃ a, P n a ∧ ∀ kk : Nat, N ≤ kk → zaS cfg kk f fn r s0 x (fin a) := by
 obtain ⟨a', hP', f⟩ := zjq (E := fun kk => zae cfg kk f fn) st P n hgo n 0 a0 (by omega) h0
 exact ⟨a', hP', fun kk hkk => zcg fun s hs => f kk hkk _ (fun m s hs => hend a' hP' kk hkk m s _ hs ⟨rfl, rfl⟩) kk (by omega) s (by rw [hs, hs0])⟩
theorem tmod6 {z n : Int} (h0 : 0 ≤ z) (h : z < n ∨ z = 0) (hn : n ≤ 1000) : In64 z := ⟨by omega, by omega⟩
theorem zf4 {cs : List Dat} (hb : Bs cs) (p u : Int) : (true && !(true && (true && zav [Cur cs p u])) || false) = false := by rw [hb.box]; rfl
abbrev K70 : List Int := [1, 1, 2, 2, 2, 3, 4, 5, 5, 6, 6, 7, 8, 9]
theorem zjl {cs : List Dat} (hb : Bs cs) (n p u : Int) (hn0 : 0 ≤ n) (hn : n ≤ 200) (h0 : 0 ≤ p) (h1 : p ≤ 100000) :
 ∃ (L : List Op3) (p' u' : Int), (∀ x ∈ L, In64 x.a) ∧ L.length ≤ 200 ∧ p ≤ p' ∧ p' ≤ p + 4000 ∧ ∀ kk : Nat, 300 ≤ kk → zaS cfg kk 70 Go.Proofs.Tryd.f70 6 (hd70 cs [] n p u 0) (.exit 0) (Nm [0, 3] [.ptr (.up 0) 0, .own 72 (OD L)] [none, none] [Cur cs p' u'] []) := by
 obtain ⟨t, ht, la⟩ := ziZ (N := 300) (f := 70) (fn := Go.Proofs.Tryd.f70) (r := 6) (x := .exit 0) (fun i (t : List Op3 × Int × Int) => hd70 cs (OD t.1) n t.2.1 t.2.2 (i : Int))
  (fun t => Nm [0, 3] [.ptr (.up 0) 0, .own 72 (OD t.1)] [none, none] [Cur cs t.2.1 t.2.2] [])
  (fun i t => (∀ x ∈ t.1, In64 x.a) ∧ t.1.length = i ∧ p ≤ t.2.1 ∧ t.2.1 ≤ p + 20 * (i : Int)) n.toNat (by omega) ([], p, u) ⟨by simp, rfl, Int.le_refl _, by simp⟩
  (fun i t hi hP => by
   obtain ⟨L, q, w⟩ := t
   obtain ⟨ha, hl, hp0, hp1⟩ := hP
   simp only at ha hl hp0 hp1
   have hq1 : p + 20 * (i : Int) ≤ 104000 := by omega
   obtain ⟨k, q1, w1, hk, b1, c1, e1⟩ := zdO hb true K70 q w (by omega) (by omega) (by decide)
   obtain ⟨a, q2, w2, b2, c2, a0, a1, e2⟩ := zbR hb 6 q1 w1 (by omega) (by omega) (by omega)
   obtain ⟨b, q3, w3, b3, c3, _, _, e3⟩ := zbR hb 6 q2 w2 (by omega) (by omega) (by omega)
   obtain ⟨g, q4, w4, b4, c4, e4⟩ := zgY hb 40 q3 w3 (by omega) (by omega) (by omega)
   have hw : w64 ((i : Int) + 1) = ((i + 1 : Nat) : Int) := wi i (by omega)
   have hod : (OD L).length + 1 ≤ 2147483648 := by rw [List.length_map]; omega
   cases g with
   | false =>
     refine ⟨(L ++ [⟨k, a, b⟩], q4, w4), ⟨fun x hx => ?_, by simp [hl], by show p ≤ q4; omega, by show q4 ≤ _; omega⟩, fun kk hkk m s K hs hn => zhn kk m cs (OD L) n i k a b 0 0 0 false q w q1 w1 q2 w2 q3 w3 q4 w4 0 0 0 0 0 0 hs (fun _ d => by cases d) (fun _ _ => ⟨e1 kk (by omega), zf4 hb _ _, e2 kk (by omega), e3 kk (by omega), e4 kk (by omega), hod, fun s' hs' => hn s' ?_⟩) (fun d => absurd (of_decide_eq_false d) (by omega))⟩
     · rcases List.mem_append.1 hx with hx | hx
       · exact ha x hx
       · rw [List.mem_singleton.1 hx]; exact tmod6 a0 a1 (by omega)
     · rw [hs', hw, show OD (L ++ [(⟨k, a, b⟩ : Op3)]) = OD L ++ [N3 k a b] by simp]
       rfl
   | true =>
     obtain ⟨k2, q5, w5, b5, c5, _, _, e5⟩ := zbR hb 12 q4 w4 (by omega) (by omega) (by omega)
     obtain ⟨a2, q6, w6, ha2, b6, c6, e6⟩ := zdO hb true [-1, 60, 5] q5 w5 (by omega) (by omega) (by decide)
     obtain ⟨b2', q7, w7, b7, c7, _, _, e7⟩ := zbR hb 3 q6 w6 (by omega) (by omega) (by omega)
     refine ⟨(L ++ [⟨k2, a2, b2'⟩], q7, w7), ⟨fun x hx => ?_, by simp [hl], by show p ≤ q7; omega, by show q7 ≤ _; omega⟩, fun kk hkk m s K hs hn => zhn kk m cs (OD L) n i k a b k2 a2 b2' true q w q1 w1 q2 w2 q3 w3 q4 w4 q5 w5 q6 w6 q7 w7 hs (fun _ _ => ⟨e1 kk (by omega), zf4 hb _ _, e2 kk (by omega), e3 kk (by omega), e4 kk (by omega), e5 kk (by omega), e6 kk (by omega), zf4 hb _ _, e7 kk (by omega), hod, fun s' hs' => hn s' ?_⟩) (fun _ d => by cases d) (fun d => absurd (of_decide_eq_false d) (by omega))⟩
     · rcases List.mem_append.1 hx with hx | hx
       · exact ha x hx
       · rw [List.mem_singleton.1 hx]
         show In64 a2
         simp only [List.mem_cons, List.not_mem_nil, or_false] at ha2
         unfold In64
         omega
     · rw [hs', hw, show OD (L ++ [(⟨k2, a2, b2'⟩ : Op3)]) = OD L ++ [N3 k2 a2 b2'] by simp]
       rfl)
  (fun t hP kk hkk q s K hs hK => zhn kk q cs (OD t.1) n _ 0 0 0 0 0 0 true t.2.1 t.2.2 0 0 0 0 0 0 0 0 0 0 0 0 0 0 hs (fun d => absurd (of_decide_eq_true d) (by omega)) (fun d => absurd (of_decide_eq_true d) (by omega)) (fun _ => hK))
  (s0 := hd70 cs [] n p u 0) rfl
 obtain ⟨L, q, w⟩ := t
 obtain ⟨ha, hl, hp0, hp1⟩ := ht
 exact ⟨L, q, w, ha, by have : L.length = n.toNat := hl; show L.length ≤ 200; omega, hp0, by show q ≤ _; have : q ≤ p + 20 * (n.toNat : Int) := hp1; omega, la⟩
theorem zna {cs : List Dat} (hb : Bs cs) (p u : Int) (h0 : 0 ≤ p) (h1 : p ≤ 50000) : ∃ (L : List Op3) (p' u' : Int), (∀ x ∈ L, In64 x.a) ∧ L.length ≤ 400 ∧ p ≤ p' ∧ p' ≤ p + 5000 ∧
 EvN 301 70 [cp] [Cur cs p u] [] ([.own 72 (OD L)], [Cur cs p' u'], []) := by
 obtain ⟨z, q1, w1, b1, c1, z0, z1, e1⟩ := zbR hb 40 p u h0 (by omega) (by omega)
 obtain ⟨g, q2, w2, b2, c2, e2⟩ := zgY hb 8 q1 w1 (by omega) (by omega) (by omega)
 obtain ⟨y, q3, w3, b3, c3, y0, y1, e3⟩ := zbR hb 61 q2 w2 (by omega) (by omega) (by omega)
 obtain ⟨n, q4, w4, hn0, hn1, b4, c4, hg, hng⟩ : ∃ n q4 w4 : Int, 0 ≤ n ∧ n ≤ 200 ∧ q2 ≤ q4 ∧ q4 ≤ q2 + 2 ∧ (g = true → n = w64 (90 + y) ∧ q4 = q3 ∧ w4 = w3) ∧ (g = false → n = z ∧ q4 = q2 ∧ w4 = w2) := by
  by_cases hg : g = true
  · exact ⟨w64 (90 + y), q3, w3, by rw [zbn (by omega)]; omega, by rw [zbn (by omega)]; omega, b3, c3, fun _ => ⟨rfl, rfl, rfl⟩, fun e => absurd (hg.symm.trans e) (by decide)⟩
  · exact ⟨z, q2, w2, z0, by omega, Int.le_refl _, by omega, fun e => absurd e hg, fun _ => ⟨rfl, rfl, rfl⟩⟩
 obtain ⟨L, q5, w5, ha, hl, b5, c5, la⟩ := zjl hb n q4 w4 hn0 hn1 (by omega) (by omega)
 obtain ⟨g42, q6, w6, b6, c6, e6⟩ := zgY hb 60 q5 w5 (by omega) (by omega) (by omega)
 have hlen : (OD L).length + 150 ≤ 2147483648 := by rw [List.length_map]; omega
 have hz : OD (L ++ List.replicate 150 ⟨0, 0, 0⟩) = OD L ++ List.replicate 150 (N3 0 0 0) := by simp
 have hhd : ∀ (p p' u u' m m' : Int), p = p' → u = u' → m = m' → hd70 cs [] m p u 0 = hd70 cs [] m' p' u' 0 := fun _ _ _ _ _ _ a b c => by rw [a, b, c]
 refine ⟨if g42 = true then L ++ List.replicate 150 ⟨0, 0, 0⟩ else L, q6, w6, ?_, ?_, by omega, by omega, zaO Go.Proofs.Tryd.f70 300 (by kernel_rfl) (by kernel_rfl) fun kk hkk => ?_⟩
 · intro x hx
   split at hx
   · rcases List.mem_append.1 hx with hx | hx
     · exact ha x hx
     · rw [(List.mem_replicate.1 hx).2]; exact ⟨by decide, by decide⟩
   · exact ha x hx
 · split
   · simp only [List.length_append, List.length_replicate]; omega
   · exact Nat.le_trans hl (by decide)
 · have E1 := e1 kk (by omega)
   have E2 := e2 kk (by omega)
   have E3 := e3 kk (by omega)
   have E6 := e6 kk (by omega)
   have LA := la kk (by omega)
   refine zqC kk cs (OD L) z y n g g42 p u q1 w1 q2 w2 q3 w3 q4 w4 q5 w5 q6 w6 (fun d d2 => ⟨E1, E2, E3, ?_, LA, E6, hlen, ?_⟩) (fun d d2 => ⟨E1, E2, E3, ?_, LA, E6, ?_⟩) (fun d d2 => ⟨E1, E2, ?_, LA, E6, hlen, ?_⟩) (fun d d2 => ⟨E1, E2, ?_, LA, E6, ?_⟩)
   · obtain ⟨a, b, c⟩ := hg d
     rw [a, b, c]; rfl
   · rw [if_pos d2, hz]; rfl
   · obtain ⟨a, b, c⟩ := hg d
     rw [a, b, c]; rfl
   · rw [if_neg (by rw [d2]; decide)]
   · obtain ⟨a, b, c⟩ := hng d
     rw [a, b, c]; rfl
   · rw [if_pos d2, hz]; rfl
   · obtain ⟨a, b, c⟩ := hng d
     rw [a, b, c]; rfl
   · rw [if_neg (by rw [d2]; decide)]
end Go.Den
namespace Go.Den
open Go
set_option linter.unusedVariables false
set_option maxRecDepth 100000
structure Twin (p q : Hp) (R : Int → Int → Prop) : Prop where
 lim : ∀ {i j}, R i j → (0 ≤ i ∧ i < (p.cs.length : Int)) ∧ 0 ≤ j ∧ j < (q.cs.length : Int)
 cell : ∀ {i j}, R i j → (cg p.cs i).l = (cg q.cs j).l ∧ (cg p.cs i).n = (cg q.cs j).n ∧ ((cg p.cs i).l = false → R (cg p.cs i).a (cg q.cs j).a ∧ R (cg p.cs i).b (cg q.cs j).b)
 one : ∀ {i j i' j'}, R i j → R i' j' → (i = i' ↔ j = j')
 len : p.rs.length = q.rs.length
 root : ∀ k : Nat, k < p.rs.length → R (p.rs.getD k 0) (q.rs.getD k 0)
def Twins (p q : Hp) : Prop := ∃ R, Twin p q R
theorem Twin.rg {p q : Hp} {R : Int → Int → Prop} (t : Twin p q R) {a : Int} (h : zac a p.rs.length = true) : R (rg p a) (rg q a) := t.root _ (by have := zgg h; omega)
theorem zmO {m : List Bool} : ∀ {c : List Cl} {l : List Bool} {i : Nat} {x : Cl}, c[i]? = some x → l[i]? = some true → (mvCs m c l)[(l.take i).count true]? = some (mvC m x)
 | [], _, _, _, h, _ => by simp at h
 | _ :: _, [], _, _, _, h => by simp at h
 | y :: c, b :: l, 0, x, h1, h2 => by
   simp only [List.getElem?_cons_zero, Option.some.injEq] at h1 h2
   subst h1
   subst h2
   simp [mvCs]
 | y :: c, b :: l, i + 1, x, h1, h2 => by
   have := zmO (m := m) (c := c) (l := l) (i := i) (x := x) (by simpa using h1) (by simpa using h2)
   cases b <;> simp [mvCs, this]
theorem zpF {m : List Bool} {x y : Int} (hx : 0 ≤ x) (hy : 0 ≤ y) (kx : K m x) (ky : K m y) (e : cnt m x = cnt m y) : x = y := by
 have key : ∀ x y : Int, 0 ≤ x → x < y → K m x → K m y → cnt m x < cnt m y := fun x y hx hlt kx ky => by
  have h1 := K_lt hx kx
  have h2 := K_lt (by omega) ky
  obtain ⟨x, rfl⟩ := Int.eq_ofNat_of_zero_le hx
  obtain ⟨y, rfl⟩ := Int.eq_ofNat_of_zero_le (show 0 ≤ y by omega)
  have h3 := zj5 m x (by omega) kx
  have h4 := zhg m (show x + 1 ≤ y by omega)
  omega
 rcases Int.lt_trichotomy x y with h | h | h
 · have := key x y hx h kx ky; omega
 · exact h
 · have := key y x hy h ky kx; omega
theorem zqv {m : List Bool} {i : Int} (h0 : 0 ≤ i) (hk : K m i) : m[i.toNat]? = some true := by
 have := K_lt h0 hk
 unfold K at hk
 rw [List.getD_eq_getElem?_getD, List.getElem?_eq_getElem (by omega)] at hk
 rw [List.getElem?_eq_getElem (by omega)]
 simpa using hk
theorem zoi {l : List Int} {f : Int → Int} {k : Nat} (h : k < l.length) : (l.map f).getD k 0 = f (l.getD k 0) := by
 simp [List.getD_eq_getElem?_getD, h]
theorem zkJ {l : List Int} {k : Nat} (h : k < l.length) : l.getD k 0 ∈ l := by
 rw [List.getD_eq_getElem?_getD, List.getElem?_eq_getElem h]
 exact List.getElem_mem h
theorem Twin.mv {p q : Hp} {R : Int → Int → Prop} (t : Twin p q R) {m : List Bool} (hm : m.length = p.cs.length) (hs : Shut m p.cs) (hr : ∀ x ∈ p.rs, K m x) : Twins (mvH m p) q := by
 refine ⟨fun i j => ∃ x, 0 ≤ x ∧ K m x ∧ i = cnt m x ∧ R x j, ?_, ?_, ?_, ?_, ?_⟩
 · rintro i j ⟨x, h0, hk, rfl, hR⟩
   have := zkg h0 hk
   have h2 := zjV hm
   exact ⟨⟨this.1, by show _ < ((mvCs m p.cs m).length : Int); omega⟩, (t.lim hR).2⟩
 · rintro i j ⟨x, h0, hk, rfl, hR⟩
   have hl := (t.lim hR).1
   have hc := zn2 hl.1 hl.2
   have := zmO (m := m) hc (zqv h0 hk)
   have e : cg (mvH m p).cs (cnt m x) = mvC m (cg p.cs x) := zh5 (by show (mvCs m p.cs m)[_]? = _; unfold cnt; rw [Int.toNat_natCast]; exact this)
   obtain ⟨c1, c2, c3⟩ := t.cell hR
   rw [e]
   unfold mvC
   split
   · rename_i h
     exact ⟨c1, c2, fun h' => by rw [h] at h'; cases h'⟩
   · rename_i h
     have h : (cg p.cs x).l = false := by simpa using h
     obtain ⟨x', rfl⟩ := Int.eq_ofNat_of_zero_le h0
     obtain ⟨⟨a0, ka⟩, b0, kb⟩ := hs x' hk h
     exact ⟨c1, c2, fun _ => ⟨⟨_, a0, ka, rfl, (c3 h).1⟩, ⟨_, b0, kb, rfl, (c3 h).2⟩⟩⟩
 · rintro i j i' j' ⟨x, h0, hk, rfl, hR⟩ ⟨x', h0', hk', rfl, hR'⟩
   rw [← t.one hR hR']
   exact ⟨fun e => zpF h0 h0' hk hk' e, fun e => by rw [e]⟩
 · show (p.rs.map (cnt m)).length = _
   rw [List.length_map, t.len]
 · intro k hk
   have hk : k < p.rs.length := by
    have : k < (p.rs.map (cnt m)).length := hk
    simpa using this
   have hR := t.root k hk
   exact ⟨p.rs.getD k 0, (t.lim hR).1.1, hr _ (zkJ hk), zoi hk, hR⟩
theorem Twins.full {p q : Hp} (g : Hg p) (t : Twins p q) : Twins (zbo p) q := by
 obtain ⟨R, t⟩ := t
 exact t.mv (zaU _ _) (zdS g) (zdJ g)
theorem zoQ {c : List Cl} {x : Cl} {i : Int} (h0 : 0 ≤ i) (h : i < (c.length : Int)) : cg (c ++ [x]) i = cg c i := by
 unfold cg
 rw [List.getD_eq_getElem?_getD, List.getD_eq_getElem?_getD, List.getElem?_append_left (by omega)]
theorem zoI {c : List Cl} {x : Cl} : cg (c ++ [x]) (c.length : Int) = x := by
 unfold cg
 rw [Int.toNat_natCast]
 simp
theorem zcf {l : List Int} {x : Int} {k : Nat} (h : k < (l ++ [x]).length) : (k < l.length ∧ (l ++ [x]).getD k 0 = l.getD k 0) ∨ (k = l.length ∧ (l ++ [x]).getD k 0 = x) := by
 by_cases hk : k < l.length
 · exact .inl ⟨hk, by rw [List.getD_eq_getElem?_getD, List.getD_eq_getElem?_getD, List.getElem?_append_left hk]⟩
 · have : k = l.length := by simp at h; omega
   subst this
   exact .inr ⟨rfl, by simp⟩
theorem Twin.add {p q : Hp} {R : Int → Int → Prop} (t : Twin p q R) {c d : Cl} (h1 : c.l = d.l) (h2 : c.n = d.n) (h3 : c.l = false → R c.a d.a ∧ R c.b d.b) : Twins (addH p c) (addH q d) := by
 refine ⟨fun i j => R i j ∨ (i = (p.cs.length : Int) ∧ j = (q.cs.length : Int)), ?_, ?_, ?_, ?_, ?_⟩
 · rintro i j hR
   show (0 ≤ i ∧ i < ((p.cs ++ [c]).length : Int)) ∧ 0 ≤ j ∧ j < ((q.cs ++ [d]).length : Int)
   rw [List.length_append, List.length_append]
   simp only [List.length_singleton]
   rcases hR with hR | ⟨rfl, rfl⟩
   · have := t.lim hR; omega
   · omega
 · rintro i j (hR | ⟨rfl, rfl⟩)
   · obtain ⟨l1, l2⟩ := t.lim hR
     have e1 : cg (addH p c).cs i = cg p.cs i := zoQ l1.1 l1.2
     have e2 : cg (addH q d).cs j = cg q.cs j := zoQ l2.1 l2.2
     rw [e1, e2]
     obtain ⟨c1, c2, c3⟩ := t.cell hR
     exact ⟨c1, c2, fun h => ⟨.inl (c3 h).1, .inl (c3 h).2⟩⟩
   · have e1 : cg (addH p c).cs (p.cs.length : Int) = c := zoI
     have e2 : cg (addH q d).cs (q.cs.length : Int) = d := zoI
     rw [e1, e2]
     exact ⟨h1, h2, fun h => ⟨.inl (h3 h).1, .inl (h3 h).2⟩⟩
 · rintro i j i' j' (hR | ⟨rfl, rfl⟩) (hR' | ⟨rfl, rfl⟩)
   · exact t.one hR hR'
   · have := t.lim hR; omega
   · have := t.lim hR'; omega
   · simp
 · show (p.rs ++ [_]).length = (q.rs ++ [_]).length
   simp [t.len]
 · intro k hk
   show R ((p.rs ++ [(p.cs.length : Int)]).getD k 0) ((q.rs ++ [(q.cs.length : Int)]).getD k 0) ∨ _
   have hl := t.len
   rcases zcf (l := p.rs) (x := (p.cs.length : Int)) hk with ⟨h, e⟩ | ⟨h, e⟩
   · rcases zcf (l := q.rs) (x := (q.cs.length : Int)) (k := k) (by simp; omega) with ⟨_, e'⟩ | ⟨h', _⟩
     · exact .inl (by rw [e, e']; exact t.root k h)
     · omega
   · rcases zcf (l := q.rs) (x := (q.cs.length : Int)) (k := k) (by simp; omega) with ⟨h', _⟩ | ⟨_, e'⟩
     · omega
     · exact .inr ⟨e, e'⟩
theorem Twin.rooted {p q : Hp} {R : Int → Int → Prop} (t : Twin p q R) {r s : Int} (h : R r s) : Twins (zmI p r) (zmI q s) := by
 refine ⟨R, t.lim, t.cell, t.one, ?_, ?_⟩
 · show (p.rs ++ [_]).length = (q.rs ++ [_]).length
   simp [t.len]
 · intro k hk
   show R ((p.rs ++ [r]).getD k 0) ((q.rs ++ [s]).getD k 0)
   have hl := t.len
   rcases zcf (l := p.rs) (x := r) hk with ⟨h, e⟩ | ⟨h, e⟩
   · rcases zcf (l := q.rs) (x := s) (k := k) (by simp; omega) with ⟨_, e'⟩ | ⟨h', _⟩
     · rw [e, e']; exact t.root k h
     · omega
   · rcases zcf (l := q.rs) (x := s) (k := k) (by simp; omega) with ⟨h', _⟩ | ⟨_, e'⟩
     · omega
     · rw [e, e']; assumption
theorem zhX (l : List Int) (a k : Nat) : (l.take a ++ l.drop (a + 1)).getD k 0 = l.getD (if k < a then k else k + 1) 0 ∨ l.length ≤ a := by
 by_cases ha : a < l.length
 · left
   rw [List.getD_eq_getElem?_getD, List.getD_eq_getElem?_getD]
   split
   · rename_i h
     rw [List.getElem?_append_left (by simp; omega), List.getElem?_take_of_lt h]
   · rename_i h
     rw [List.getElem?_append_right (by simp; omega), List.getElem?_drop]
     congr 2
     simp; omega
 · exact .inr (by omega)
theorem Twin.dropped {p q : Hp} {R : Int → Int → Prop} (t : Twin p q R) {a : Int} (ha : zac a p.rs.length = true) : Twins (zg8 p a) (zg8 q a) := by
 have hl := t.len
 have hb := zgg ha
 have e1 : (zg8 p a).rs.length = p.rs.length - 1 := by show (p.rs.take a.toNat ++ p.rs.drop (a.toNat + 1)).length = _; simp; omega
 have e2 : (zg8 q a).rs.length = q.rs.length - 1 := by show (q.rs.take a.toNat ++ q.rs.drop (a.toNat + 1)).length = _; simp; omega
 refine ⟨R, t.lim, t.cell, t.one, by omega, fun k hk => ?_⟩
 show R ((p.rs.take a.toNat ++ p.rs.drop (a.toNat + 1)).getD k 0) ((q.rs.take a.toNat ++ q.rs.drop (a.toNat + 1)).getD k 0)
 rcases zhX p.rs a.toNat k with h | h
 · rcases zhX q.rs a.toNat k with h' | h'
   · rw [h, h']
     refine t.root _ ?_
     split <;> omega
   · omega
 · omega
theorem Twin.self {p : Hp} (g : Hg p) : Twin p p (fun i j => i = j ∧ 0 ≤ i ∧ i < (p.cs.length : Int)) :=
 ⟨fun {i j} h => by obtain ⟨rfl, h⟩ := h; exact ⟨h, h⟩, fun {i j} h => by
  obtain ⟨rfl, h⟩ := h
  exact ⟨rfl, rfl, fun hl => by obtain ⟨ha, hb⟩ := g.wf i h.1 h.2 hl; exact ⟨⟨rfl, ha⟩, rfl, hb⟩⟩, fun {i j i' j'} h h' => by obtain ⟨rfl, _⟩ := h; obtain ⟨rfl, _⟩ := h'; exact Iff.rfl, rfl, fun k hk => ⟨rfl, g.rin _ (zkJ hk)⟩⟩
end Go.Den
namespace Go.Den
open Go
set_option linter.unusedVariables false
set_option maxRecDepth 100000
abbrev Hd (b : Bool) (o : Int) (cs rs : List Dat) : Dat := .agg [I o, .lst b cs, .lst b rs]
abbrev Hb (b : Bool) (o : Int) (cs rs : List Dat) : Option (List D) := some [.dat (I o), .dat (.lst b cs), .dat (.lst b rs)]
abbrev Ho (o : Int) (cs rs : List Dat) : List D := [.dat (I o), .own 97 cs, .own 3 rs]
def zgG (b : Bool) (o : Int) (cs rs : List Dat) (ks : List Dat) (i : Int) : St := Nm [1, 2, 10, 11, 12] [.own 4 ks, .ptr (.loc 2) 0, .dat (.lst b rs), .dat (I rs.length), .dat (I i)] [none, Hb b o cs rs, none, none, none] [] []
theorem zmQ (kk m : Nat) {s : St} {K : X → St → Prop} (b : Bool) (o : Int) (cs rs : List Dat) (ks : List Dat) (i : Int) (x14 : Int) (g100018 : Bool) (hs : s.norm ((zae cfg kk 128 Go.Proofs.Tryd.f128).live (zaa (lp Go.Proofs.Tryd.f128 2))) = zgG b o cs rs ks i) (q1 : (decide (i < (rs.length : Int)) = true) → ((0 ≤ i ∧ i < (rs.length : Int)) ∧ rs[i.toNat]? = some (I x14)) ∧ (0 ≤ x14 ∧ x14 < (ks.length : Int)) ∧ (ks[x14.toNat]? = some (B g100018)) ∧ (∀ s : St, s.norm ((zae cfg kk 128 Go.Proofs.Tryd.f128).live (zaa (lp Go.Proofs.Tryd.f128 2))) = Nm [1, 2, 10, 11, 12] [D.own 4 (ks.set x14.toNat (B true)), D.ptr (Ref.loc 2) 0, D.dat (Dat.lst b rs), D.dat (I (rs.length : Int)), D.dat (I (w64 (i + 1)))] [none, some [D.dat (I o), D.dat (Dat.lst b cs), D.dat (Dat.lst b rs)], none, none, none] [] [] → zad (zae cfg kk 128 Go.Proofs.Tryd.f128) kk (lp Go.Proofs.Tryd.f128 2) m s K)) (q2 : (decide (i < (rs.length : Int)) = false) → K (X.exit 0) (Nm [1, 2] [D.own 4 ks, D.ptr (Ref.loc 2) 0] [none, some [D.dat (I o), D.dat (Dat.lst b cs), D.dat (Dat.lst b rs)]] [] [])) : zad (zae cfg kk 128 Go.Proofs.Tryd.f128) kk (lp Go.Proofs.Tryd.f128 2) (m + 1) s K := by
 rcases Bool.eq_false_or_eq_true (decide (i < (rs.length : Int))) with d1 | d1
 · obtain ⟨hz1, hz2, hz3, oz⟩ := q1 d1
   exact zal [(14, .at (I x14)), (18, .ok), (100018, .at (B g100018)), (200013, .yes)] hs (by kernel_rfl) (ob d1 (ob hz1 (ob hz2 (ob hz3 ob0)))) (by kernel_rfl) oz
 · have oz := q2 d1
   exact zao [(14, .at (I x14)), (18, .ok), (100018, .at (B g100018)), (200013, .no)] hs (by kernel_rfl) rfl (ob d1 ob0) (by kernel_rfl) oz
def zgp (b : Bool) (o : Int) (cs rs : List Dat) (ks : List Dat) (i : Int) : St := Nm [1, 2, 7] [.own 4 ks, .ptr (.loc 2) 0, .dat (I i)] [none, Hb b o cs rs, none] [] []
theorem zhu (kk m : Nat) {s : St} {K : X → St → Prop} (b : Bool) (o : Int) (cs rs : List Dat) (ks : List Dat) (i : Int) (c31 : Cl) (g36 : Bool) (g100045 : Bool) (g100049 : Bool) (hs : s.norm ((zae cfg kk 128 Go.Proofs.Tryd.f128).live (zaa (lp Go.Proofs.Tryd.f128 7))) = zgp b o cs rs ks i) (q1 : (decide (0 ≤ i) = true) → (g36 = true) → ((!c31.l) = true) → ((0 ≤ i ∧ i < (cs.length : Int)) ∧ cs[i.toNat]? = some (Dat.agg [B c31.l, I c31.n, I c31.a, I c31.b])) ∧ (0 ≤ i ∧ i < (ks.length : Int)) ∧ (ks[i.toNat]? = some (B g36)) ∧ (0 ≤ c31.a ∧ c31.a < (ks.length : Int)) ∧ (ks[c31.a.toNat]? = some (B g100045)) ∧ (0 ≤ c31.b ∧ c31.b < ((ks.set c31.a.toNat (B true)).length : Int)) ∧ ((ks.set c31.a.toNat (B true))[c31.b.toNat]? = some (B g100049)) ∧ (∀ s : St, s.norm ((zae cfg kk 128 Go.Proofs.Tryd.f128).live (zaa (lp Go.Proofs.Tryd.f128 7))) = Nm [1, 2, 7] [D.own 4 ((ks.set c31.a.toNat (B true)).set c31.b.toNat (B true)), D.ptr (Ref.loc 2) 0, D.dat (I (w64 (i - 1)))] [none, some [D.dat (I o), D.dat (Dat.lst b cs), D.dat (Dat.lst b rs)], none] [] [] → zad (zae cfg kk 128 Go.Proofs.Tryd.f128) kk (lp Go.Proofs.Tryd.f128 7) m s K)) (q2 : (decide (0 ≤ i) = true) → (g36 = true) → ((!c31.l) = false) → ((0 ≤ i ∧ i < (cs.length : Int)) ∧ cs[i.toNat]? = some (Dat.agg [B c31.l, I c31.n, I c31.a, I c31.b])) ∧ (0 ≤ i ∧ i < (ks.length : Int)) ∧ (ks[i.toNat]? = some (B g36)) ∧ (∀ s : St, s.norm ((zae cfg kk 128 Go.Proofs.Tryd.f128).live (zaa (lp Go.Proofs.Tryd.f128 7))) = Nm [1, 2, 7] [D.own 4 ks, D.ptr (Ref.loc 2) 0, D.dat (I (w64 (i - 1)))] [none, some [D.dat (I o), D.dat (Dat.lst b cs), D.dat (Dat.lst b rs)], none] [] [] → zad (zae cfg kk 128 Go.Proofs.Tryd.f128) kk (lp Go.Proofs.Tryd.f128 7) m s K)) (q3 : (decide (0 ≤ i) = true) → (g36 = false) → ((0 ≤ i ∧ i < (cs.length : Int)) ∧ cs[i.toNat]? = some (Dat.agg [B c31.l, I c31.n, I c31.a, I c31.b])) ∧ (0 ≤ i ∧ i < (ks.length : Int)) ∧ (ks[i.toNat]? = some (B g36)) ∧ (∀ s : St, s.norm ((zae cfg kk 128 Go.Proofs.Tryd.f128).live (zaa (lp Go.Proofs.Tryd.f128 7))) = Nm [1, 2, 7] [D.own 4 ks, D.ptr (Ref.loc 2) 0, D.dat (I (w64 (i - 1)))] [none, some [D.dat (I o), D.dat (Dat.lst b cs), D.dat (Dat.lst b rs)], none] [] [] → zad (zae cfg kk 128 Go.Proofs.Tryd.f128) kk (lp Go.Proofs.Tryd.f128 7) m s K)) (q4 : (decide (0 ≤ i) = false) → K (X.exit 2) (Nm [1] [D.own 4 ks] [none] [] [])) : zad (zae cfg kk 128 Go.Proofs.Tryd.f128) kk (lp Go.Proofs.Tryd.f128 7) (m + 1) s K := by
 rcases Bool.eq_false_or_eq_true (decide (0 ≤ i)) with d1 | d1
 · rcases Bool.eq_false_or_eq_true (g36) with d5 | d5
   · rcases Bool.eq_false_or_eq_true ((!c31.l)) with d8 | d8
     · obtain ⟨hz1, hz2, hz3, hz4, hz5, hz6, hz7, oz⟩ := q1 d1 d5 d8
       exact zal [(31, .at (c31.d)), (35, .ok), (36, .at (B g36)), (45, .ok), (100045, .at (B g100045)), (49, .ok), (100049, .at (B g100049)), (200025, .yes), (200037, .yes), (200041, .yes)] hs (by kernel_rfl) (ob d1 (ob hz1 (ob hz2 (ob hz3 (ob d5 (ob (rfl : true = true) (ob (rfl : true = true) (ob d8 (ob hz4 (ob hz5 (ob hz6 (ob hz7 ob0)))))))))))) (by kernel_rfl) oz
     · obtain ⟨hz1, hz2, hz3, oz⟩ := q2 d1 d5 d8
       exact zal [(31, .at (c31.d)), (35, .ok), (36, .at (B g36)), (45, .ok), (100045, .at (B g100045)), (49, .ok), (100049, .at (B g100049)), (200025, .yes), (200037, .yes), (200041, .no)] hs (by kernel_rfl) (ob d1 (ob hz1 (ob hz2 (ob hz3 (ob d5 (ob (rfl : true = true) (ob (rfl : true = true) (ob d8 ob0)))))))) (by kernel_rfl) oz
   · obtain ⟨hz1, hz2, hz3, oz⟩ := q3 d1 d5
     exact zal [(31, .at (c31.d)), (35, .ok), (36, .at (B g36)), (45, .ok), (100045, .at (B g100045)), (49, .ok), (100049, .at (B g100049)), (200025, .yes), (200037, .no)] hs (by kernel_rfl) (ob d1 (ob hz1 (ob hz2 (ob hz3 (ob d5 (ob (rfl : false = false) (ob (rfl : false = false) ob0))))))) (by kernel_rfl) oz
 · have oz := q4 d1
   exact zao [(31, .at (c31.d)), (35, .ok), (36, .at (B g36)), (45, .ok), (100045, .at (B g100045)), (49, .ok), (100049, .at (B g100049)), (200025, .no)] hs (by kernel_rfl) rfl (ob d1 ob0) (by kernel_rfl) oz
theorem keepS (kk : Nat) (b : Bool) (o : Int) (cs rs : List Dat) (ks ks1 ks2 : List Dat) {r : Res} (q1 : (zaS cfg kk 128 Go.Proofs.Tryd.f128 2 (zgG b o cs rs ks 0) (X.exit 0) (Nm [1, 2] [D.own 4 ks1, D.ptr (Ref.loc 2) 0] [none, some [D.dat (I o), D.dat (Dat.lst b cs), D.dat (Dat.lst b rs)]] [] [])) ∧ (zaS cfg kk 128 Go.Proofs.Tryd.f128 7 (zgp b o cs rs ks1 (w64 ((cs.length : Int) - 1))) (X.exit 2) (Nm [1] [D.own 4 ks2] [none] [] [])) ∧ r = ([D.own 4 ks2], [], [])) : zam cfg kk (den cfg kk) 128 Go.Proofs.Tryd.f128 [.dat (Hd b o cs rs), .own 4 ks] [] [] = some r := by
 obtain ⟨hz1, hz2, oz⟩ := q1
 subst oz; exact zab [(300002, .loop (zgG b o cs rs ks 0) (.exit 0) (Nm [1, 2] [.own 4 ks1, .ptr (.loc 2) 0] [none, Hb b o cs rs] [] [])), (300007, .loop (zgp b o cs rs ks1 (IntKind.i64.wrap ((cs.length : Int) - 1))) (.exit 2) (Nm [1] [.own 4 ks2] [none] [] []))] (ob (rfl : _ = zgG b o cs rs ks 0) (ob hz1 (ob (rfl : _ = zgp b o cs rs ks1 (w64 ((cs.length : Int) - 1))) (ob hz2 ob0)))) (by kernel_rfl)
def zgi (b : Bool) (o : Int) (cs rs : List Dat) (kb : Bool) (ks : List Dat) (to acc : List Dat) (i : Int) : St := Nm [1, 2, 4, 5, 6, 17, 18, 19] [.dat (.lst kb ks), .ptr (.loc 2) 0, .ptr (.loc 4) 0, .own 3 to, .ptr (.loc 6) 0, .dat (.lst b cs), .dat (I cs.length), .dat (I i)] [none, Hb b o cs rs, some (Ho 0 [] []), none, some (Ho 0 acc []), none, none, none] [] []
theorem zhp (kk m : Nat) {s : St} {K : X → St → Prop} (b : Bool) (o : Int) (cs rs : List Dat) (kb : Bool) (ks : List Dat) (to acc : List Dat) (i : Int) (c22 : Cl) (g26 : Bool) (x36 : Int) (x100049 : Int) (x42 : Int) (hs : s.norm ((zae cfg kk 127 Go.Proofs.Tryd.f127).live (zaa (lp Go.Proofs.Tryd.f127 4))) = zgi b o cs rs kb ks to acc i) (q1 : (decide (i < (cs.length : Int)) = true) → ((!g26) = true) → ((0 ≤ i ∧ i < (cs.length : Int)) ∧ cs[i.toNat]? = some (Dat.agg [B c22.l, I c22.n, I c22.a, I c22.b])) ∧ ((0 ≤ i ∧ i < (ks.length : Int)) ∧ ks[i.toNat]? = some (B g26)) ∧ (∀ s : St, s.norm ((zae cfg kk 127 Go.Proofs.Tryd.f127).live (zaa (lp Go.Proofs.Tryd.f127 4))) = Nm [1, 2, 4, 5, 6, 17, 18, 19] [D.dat (Dat.lst kb ks), D.ptr (Ref.loc 2) 0, D.ptr (Ref.loc 4) 0, D.own 3 to, D.ptr (Ref.loc 6) 0, D.dat (Dat.lst b cs), D.dat (I (cs.length : Int)), D.dat (I (w64 (i + 1)))] [none, some [D.dat (I o), D.dat (Dat.lst b cs), D.dat (Dat.lst b rs)], some [D.dat (I 0), D.own 97 [], D.own 3 []], none, some [D.dat (I 0), D.own 97 acc, D.own 3 []], none, none, none] [] [] → zad (zae cfg kk 127 Go.Proofs.Tryd.f127) kk (lp Go.Proofs.Tryd.f127 4) m s K)) (q2 : (decide (i < (cs.length : Int)) = true) → ((!g26) = false) → ((!c22.l) = true) → ((0 ≤ i ∧ i < (cs.length : Int)) ∧ cs[i.toNat]? = some (Dat.agg [B c22.l, I c22.n, I c22.a, I c22.b])) ∧ ((0 ≤ i ∧ i < (ks.length : Int)) ∧ ks[i.toNat]? = some (B g26)) ∧ (0 ≤ c22.a ∧ c22.a < (to.length : Int)) ∧ (to[c22.a.toNat]? = some (I x36)) ∧ (0 ≤ c22.b ∧ c22.b < (to.length : Int)) ∧ (to[c22.b.toNat]? = some (I x42)) ∧ (0 ≤ i ∧ i < (to.length : Int)) ∧ (to[i.toNat]? = some (I x100049)) ∧ (acc.length + 1 ≤ 2147483648) ∧ (∀ s : St, s.norm ((zae cfg kk 127 Go.Proofs.Tryd.f127).live (zaa (lp Go.Proofs.Tryd.f127 4))) = Nm [1, 2, 4, 5, 6, 17, 18, 19] [D.dat (Dat.lst kb ks), D.ptr (Ref.loc 2) 0, D.ptr (Ref.loc 4) 0, D.own 3 (to.set i.toNat (I (acc.length : Int))), D.ptr (Ref.loc 6) 0, D.dat (Dat.lst b cs), D.dat (I (cs.length : Int)), D.dat (I (w64 (i + 1)))] [none, some [D.dat (I o), D.dat (Dat.lst b cs), D.dat (Dat.lst b rs)], some [D.dat (I 0), D.own 97 [], D.own 3 []], none, some [D.dat (I 0), D.own 97 (acc ++ [Dat.agg [B c22.l, I c22.n, I x36, I x42]]), D.own 3 []], none, none, none] [] [] → zad (zae cfg kk 127 Go.Proofs.Tryd.f127) kk (lp Go.Proofs.Tryd.f127 4) m s K)) (q3 : (decide (i < (cs.length : Int)) = true) → ((!g26) = false) → ((!c22.l) = false) → ((0 ≤ i ∧ i < (cs.length : Int)) ∧ cs[i.toNat]? = some (Dat.agg [B c22.l, I c22.n, I c22.a, I c22.b])) ∧ ((0 ≤ i ∧ i < (ks.length : Int)) ∧ ks[i.toNat]? = some (B g26)) ∧ (0 ≤ i ∧ i < (to.length : Int)) ∧ (to[i.toNat]? = some (I x100049)) ∧ (acc.length + 1 ≤ 2147483648) ∧ (∀ s : St, s.norm ((zae cfg kk 127 Go.Proofs.Tryd.f127).live (zaa (lp Go.Proofs.Tryd.f127 4))) = Nm [1, 2, 4, 5, 6, 17, 18, 19] [D.dat (Dat.lst kb ks), D.ptr (Ref.loc 2) 0, D.ptr (Ref.loc 4) 0, D.own 3 (to.set i.toNat (I (acc.length : Int))), D.ptr (Ref.loc 6) 0, D.dat (Dat.lst b cs), D.dat (I (cs.length : Int)), D.dat (I (w64 (i + 1)))] [none, some [D.dat (I o), D.dat (Dat.lst b cs), D.dat (Dat.lst b rs)], some [D.dat (I 0), D.own 97 [], D.own 3 []], none, some [D.dat (I 0), D.own 97 (acc ++ [Dat.agg [B c22.l, I c22.n, I c22.a, I c22.b]]), D.own 3 []], none, none, none] [] [] → zad (zae cfg kk 127 Go.Proofs.Tryd.f127) kk (lp Go.Proofs.Tryd.f127 4) m s K)) (q4 : (decide (i < (cs.length : Int)) = false) → K (X.exit 0) (Nm [2, 4, 5, 6] [D.ptr (Ref.loc 2) 0, D.ptr (Ref.loc 4) 0, D.own 3 to, D.ptr (Ref.loc 6) 0] [some [D.dat (I o), D.dat (Dat.lst b cs), D.dat (Dat.lst b rs)], some [D.dat (I 0), D.own 97 [], D.own 3 []], none, some [D.dat (I 0), D.own 97 acc, D.own 3 []]] [] [])) : zad (zae cfg kk 127 Go.Proofs.Tryd.f127) kk (lp Go.Proofs.Tryd.f127 4) (m + 1) s K := by
 rcases Bool.eq_false_or_eq_true (decide (i < (cs.length : Int))) with d1 | d1
 · rcases Bool.eq_false_or_eq_true ((!g26)) with d4 | d4
   · obtain ⟨hz1, hz2, oz⟩ := q1 d1 d4
     exact zal [(22, .at (c22.d)), (26, .at (B g26)), (35, .ok), (49, .ok), (36, .at (I x36)), (100049, .at (I x100049)), (41, .ok), (54, .ok), (42, .at (I x42)), (200020, .yes), (200028, .yes)] hs (by kernel_rfl) (ob d1 (ob hz1 (ob hz2 (ob d4 ob0)))) (by kernel_rfl) oz
   · rcases Bool.eq_false_or_eq_true ((!c22.l)) with d5 | d5
     · obtain ⟨hz1, hz2, hz3, hz4, hz5, hz6, hz7, hz8, hz9, oz⟩ := q2 d1 d4 d5
       exact zal [(22, .at (c22.d)), (26, .at (B g26)), (35, .ok), (49, .ok), (36, .at (I x36)), (100049, .at (I x100049)), (41, .ok), (54, .ok), (42, .at (I x42)), (200020, .yes), (200028, .no), (200031, .yes)] hs (by kernel_rfl) (ob d1 (ob hz1 (ob hz2 (ob d4 (ob d5 (ob hz3 (ob hz4 (ob hz5 (ob hz6 (ob hz7 (ob hz8 (ob (obT hz9) ob0)))))))))))) (by kernel_rfl) oz
     · obtain ⟨hz1, hz2, hz3, hz4, hz5, oz⟩ := q3 d1 d4 d5
       exact zal [(22, .at (c22.d)), (26, .at (B g26)), (35, .ok), (49, .ok), (36, .at (I x36)), (100049, .at (I x100049)), (41, .ok), (54, .ok), (42, .at (I x42)), (200020, .yes), (200028, .no), (200031, .no)] hs (by kernel_rfl) (ob d1 (ob hz1 (ob hz2 (ob d4 (ob d5 (ob hz3 (ob hz4 (ob (obT hz5) ob0)))))))) (by kernel_rfl) oz
 · have oz := q4 d1
   exact zao [(22, .at (c22.d)), (26, .at (B g26)), (35, .ok), (49, .ok), (36, .at (I x36)), (100049, .at (I x100049)), (41, .ok), (54, .ok), (42, .at (I x42)), (200020, .no)] hs (by kernel_rfl) rfl (ob d1 ob0) (by kernel_rfl) oz
def zgj (b : Bool) (o : Int) (cs rs : List Dat) (to acc qs : List Dat) (i : Int) : St := Nm [4, 5, 6, 58, 59, 60] [.ptr (.loc 4) 0, .own 3 to, .ptr (.loc 6) 0, .dat (.lst b rs), .dat (I rs.length), .dat (I i)] [some (Ho 0 [] []), none, some (Ho 0 acc qs), none, none, none] [] []
theorem znk (kk m : Nat) {s : St} {K : X → St → Prop} (b : Bool) (o : Int) (cs rs : List Dat) (to acc qs : List Dat) (i : Int) (x62 : Int) (x69 : Int) (hs : s.norm ((zae cfg kk 127 Go.Proofs.Tryd.f127).live (zaa (lp Go.Proofs.Tryd.f127 14))) = zgj b o cs rs to acc qs i) (q1 : (decide (i < (rs.length : Int)) = true) → ((0 ≤ i ∧ i < (rs.length : Int)) ∧ rs[i.toNat]? = some (I x62)) ∧ (0 ≤ x62 ∧ x62 < (to.length : Int)) ∧ (to[x62.toNat]? = some (I x69)) ∧ (qs.length + 1 ≤ 2147483648) ∧ (∀ s : St, s.norm ((zae cfg kk 127 Go.Proofs.Tryd.f127).live (zaa (lp Go.Proofs.Tryd.f127 14))) = Nm [4, 5, 6, 58, 59, 60] [D.ptr (Ref.loc 4) 0, D.own 3 to, D.ptr (Ref.loc 6) 0, D.dat (Dat.lst b rs), D.dat (I (rs.length : Int)), D.dat (I (w64 (i + 1)))] [some [D.dat (I 0), D.own 97 [], D.own 3 []], none, some [D.dat (I 0), D.own 97 acc, D.own 3 (qs ++ [I x69])], none, none, none] [] [] → zad (zae cfg kk 127 Go.Proofs.Tryd.f127) kk (lp Go.Proofs.Tryd.f127 14) m s K)) (q2 : (decide (i < (rs.length : Int)) = false) → K (X.exit 2) (Nm [4, 6] [D.ptr (Ref.loc 4) 0, D.ptr (Ref.loc 6) 0] [some [D.dat (I 0), D.own 97 [], D.own 3 []], some [D.dat (I 0), D.own 97 acc, D.own 3 qs]] [] [])) : zad (zae cfg kk 127 Go.Proofs.Tryd.f127) kk (lp Go.Proofs.Tryd.f127 14) (m + 1) s K := by
 rcases Bool.eq_false_or_eq_true (decide (i < (rs.length : Int))) with d1 | d1
 · obtain ⟨hz1, hz2, hz3, hz4, oz⟩ := q1 d1
   exact zal [(62, .at (I x62)), (68, .ok), (69, .at (I x69)), (71, .ok), (200061, .yes)] hs (by kernel_rfl) (ob d1 (ob hz1 (ob hz2 (ob hz3 (ob (obT hz4) ob0))))) (by kernel_rfl) oz
 · have oz := q2 d1
   exact zao [(62, .at (I x62)), (68, .ok), (69, .at (I x69)), (71, .ok), (200061, .no)] hs (by kernel_rfl) rfl (ob d1 ob0) (by kernel_rfl) oz
theorem move7 (kk : Nat) (b : Bool) (o : Int) (cs rs : List Dat) (kb : Bool) (ks : List Dat) (to acc qs : List Dat) {r : Res} (q1 : (0 ≤ (cs.length : Int) ∧ (cs.length : Int) ≤ (cs.length : Int) ∧ (cs.length : Int) ≤ 2147483648) ∧ (zaS cfg kk 127 Go.Proofs.Tryd.f127 4 (zgi b o cs rs kb ks (List.replicate cs.length (I 0)) [] 0) (X.exit 0) (Nm [2, 4, 5, 6] [D.ptr (Ref.loc 2) 0, D.ptr (Ref.loc 4) 0, D.own 3 to, D.ptr (Ref.loc 6) 0] [some [D.dat (I o), D.dat (Dat.lst b cs), D.dat (Dat.lst b rs)], some [D.dat (I 0), D.own 97 [], D.own 3 []], none, some [D.dat (I 0), D.own 97 acc, D.own 3 []]] [] [])) ∧ (zaS cfg kk 127 Go.Proofs.Tryd.f127 14 (zgj b o cs rs to acc [] 0) (X.exit 2) (Nm [4, 6] [D.ptr (Ref.loc 4) 0, D.ptr (Ref.loc 6) 0] [some [D.dat (I 0), D.own 97 [], D.own 3 []], some [D.dat (I 0), D.own 97 acc, D.own 3 qs]] [] [])) ∧ r = ([D.seq false [D.dat (I (acc.length : Int)), D.own 97 acc, D.own 3 qs]], [], [])) : zam cfg kk (den cfg kk) 127 Go.Proofs.Tryd.f127 [.dat (Hd b o cs rs), .dat (Dat.lst kb ks)] [] [] = some r := by
 obtain ⟨hz1, hz2, hz3, oz⟩ := q1
 subst oz; exact zab [(300004, .loop (zgi b o cs rs kb ks (List.replicate cs.length (I 0)) [] 0) (.exit 0) (Nm [2, 4, 5, 6] [.ptr (.loc 2) 0, .ptr (.loc 4) 0, .own 3 to, .ptr (.loc 6) 0] [Hb b o cs rs, some (Ho 0 [] []), none, some (Ho 0 acc [])] [] [])), (300014, .loop (zgj b o cs rs to acc [] 0) (.exit 2) (Nm [4, 6] [.ptr (.loc 4) 0, .ptr (.loc 6) 0] [some (Ho 0 [] []), some (Ho 0 acc qs)] [] [])), (14, .ok)] (ob hz1 (ob (rfl : _ = zgi b o cs rs kb ks (List.replicate cs.length (I 0)) [] 0) (ob hz2 (ob (rfl : _ = zgj b o cs rs to acc [] 0) (ob hz3 ob0))))) (by kernel_rfl)
theorem coll7 (kk : Nat) (b : Bool) (o : Int) (cs rs : List Dat) (ks : List Dat) (o1 : Int) (cs1 rs1 : List Dat) {r : Res} (q1 : (0 ≤ (cs.length : Int) ∧ (cs.length : Int) ≤ (cs.length : Int) ∧ (cs.length : Int) ≤ 2147483648) ∧ (den cfg kk 128 [D.dat (Dat.agg [I o, Dat.lst b cs, Dat.lst b rs]), D.own 4 (List.replicate ((cs.length : Int)).toNat (B false))] [] [] = some ([D.own 4 ks], [], [])) ∧ (D.cleans [D.seq false [D.dat (I o1), D.own 97 cs1, D.own 3 rs1]] = true) ∧ (den cfg kk 127 [D.dat (Dat.agg [I o, Dat.lst b cs, Dat.lst b rs]), D.dat (Dat.lst true ks)] [] [] = some ([D.seq false [D.dat (I o1), D.own 97 cs1, D.own 3 rs1]], [], [])) ∧ r = ([D.seq false [D.dat (I o1), D.own 97 cs1, D.own 3 rs1]], [], [])) : zam cfg kk (den cfg kk) 101 Go.Proofs.Tryd.f101 [.dat (Hd b o cs rs)] [] [] = some r := by
 obtain ⟨hz1, hz2, hz3, hz4, oz⟩ := q1
 subst oz; exact zab [(9, .back [.own 4 ks] [] []), (10, .ret [.seq false [.dat (I o1), .own 97 cs1, .own 3 rs1]]), (8, .ok)] (ob hz1 (ob hz2 (ob hz3 (ob hz4 ob0)))) (by kernel_rfl)
def zk6 (b : Bool) (o : Int) (cs rs : List Dat) (ks : List Dat) (i : Int) : St := Nm [1, 2, 3, 4] [.ptr (.loc 1) 0, .ptr (.loc 2) 0, .own 4 ks, .dat (I i)] [Hb b o cs rs, some (Ho 0 [] []), none, none] [] []
theorem zkC (kk m : Nat) {s : St} {K : X → St → Prop} (b : Bool) (o : Int) (cs rs : List Dat) (ks : List Dat) (i : Int) (g100017 : Bool) (hs : s.norm ((zae cfg kk 102 Go.Proofs.Tryd.f102).live (zaa (lp Go.Proofs.Tryd.f102 3))) = zk6 b o cs rs ks i) (q1 : (decide (i < o) = true) → (0 ≤ i ∧ i < (ks.length : Int)) ∧ (ks[i.toNat]? = some (B g100017)) ∧ (∀ s : St, s.norm ((zae cfg kk 102 Go.Proofs.Tryd.f102).live (zaa (lp Go.Proofs.Tryd.f102 3))) = Nm [1, 2, 3, 4] [D.ptr (Ref.loc 1) 0, D.ptr (Ref.loc 2) 0, D.own 4 (ks.set i.toNat (B true)), D.dat (I (w64 (i + 1)))] [some [D.dat (I o), D.dat (Dat.lst b cs), D.dat (Dat.lst b rs)], some [D.dat (I 0), D.own 97 [], D.own 3 []], none, none] [] [] → zad (zae cfg kk 102 Go.Proofs.Tryd.f102) kk (lp Go.Proofs.Tryd.f102 3) m s K)) (q2 : (decide (i < o) = false) → K (X.exit 0) (Nm [1, 2, 3] [D.ptr (Ref.loc 1) 0, D.ptr (Ref.loc 2) 0, D.own 4 ks] [some [D.dat (I o), D.dat (Dat.lst b cs), D.dat (Dat.lst b rs)], some [D.dat (I 0), D.own 97 [], D.own 3 []], none] [] [])) : zad (zae cfg kk 102 Go.Proofs.Tryd.f102) kk (lp Go.Proofs.Tryd.f102 3) (m + 1) s K := by
 rcases Bool.eq_false_or_eq_true (decide (i < o)) with d1 | d1
 · obtain ⟨hz1, hz2, oz⟩ := q1 d1
   exact zal [(17, .ok), (100017, .at (B g100017)), (200012, .yes)] hs (by kernel_rfl) (ob d1 (ob hz1 (ob hz2 ob0))) (by kernel_rfl) oz
 · have oz := q2 d1
   exact zao [(17, .ok), (100017, .at (B g100017)), (200012, .no)] hs (by kernel_rfl) rfl (ob d1 ob0) (by kernel_rfl) oz
theorem zp0 (kk : Nat) (b : Bool) (o : Int) (cs rs : List Dat) (ka ks : List Dat) (o1 : Int) (cs1 rs1 : List Dat) {r : Res} (q1 : (0 ≤ (cs.length : Int) ∧ (cs.length : Int) ≤ (cs.length : Int) ∧ (cs.length : Int) ≤ 2147483648) ∧ (zaS cfg kk 102 Go.Proofs.Tryd.f102 3 (zk6 b o cs rs (List.replicate cs.length (B false)) 0) (X.exit 0) (Nm [1, 2, 3] [D.ptr (Ref.loc 1) 0, D.ptr (Ref.loc 2) 0, D.own 4 ka] [some [D.dat (I o), D.dat (Dat.lst b cs), D.dat (Dat.lst b rs)], some [D.dat (I 0), D.own 97 [], D.own 3 []], none] [] [])) ∧ (den cfg kk 128 [D.dat (Dat.agg [I o, Dat.lst b cs, Dat.lst b rs]), D.own 4 ka] [] [] = some ([D.own 4 ks], [], [])) ∧ (D.cleans [D.seq false [D.dat (I o1), D.own 97 cs1, D.own 3 rs1]] = true) ∧ (den cfg kk 127 [D.dat (Dat.agg [I o, Dat.lst b cs, Dat.lst b rs]), D.dat (Dat.lst true ks)] [] [] = some ([D.seq false [D.dat (I o1), D.own 97 cs1, D.own 3 rs1]], [], [])) ∧ r = ([D.seq false [D.dat (I o1), D.own 97 cs1, D.own 3 rs1]], [], [])) : zam cfg kk (den cfg kk) 102 Go.Proofs.Tryd.f102 [.dat (Hd b o cs rs)] [] [] = some r := by
 obtain ⟨hz1, hz2, hz3, hz4, hz5, oz⟩ := q1
 subst oz; exact zab [(300003, .loop (zk6 b o cs rs (List.replicate cs.length (B false)) 0) (.exit 0) (Nm [1, 2, 3] [.ptr (.loc 1) 0, .ptr (.loc 2) 0, .own 4 ka] [Hb b o cs rs, some (Ho 0 [] []), none] [] [])), (21, .back [.own 4 ks] [] []), (22, .ret [.seq false [.dat (I o1), .own 97 cs1, .own 3 rs1]]), (8, .ok)] (ob hz1 (ob (rfl : _ = zk6 b o cs rs (List.replicate cs.length (B false)) 0) (ob hz2 (ob hz3 (ob hz4 (ob hz5 ob0)))))) (by kernel_rfl)
theorem zqJ (kk : Nat) (b : Bool) (o : Int) (cs rs : List Dat) (ks cs1 rs1 : List Dat) {r : Res} (q1 : (den cfg kk 62 [D.dat (Dat.lst b cs), D.dat (Dat.lst b rs), D.fn 63 []] [] [] = some ([D.own 4 ks], [], [])) ∧ (D.cleans [D.own 97 cs1, D.own 3 rs1] = true) ∧ (den cfg kk 118 [D.dat (Dat.lst b cs), D.dat (Dat.lst b rs), D.dat (Dat.lst true ks)] [] [] = some ([D.own 97 cs1, D.own 3 rs1], [], [])) ∧ r = ([D.seq false [D.dat (I (cs1.length : Int)), D.own 97 cs1, D.own 3 rs1]], [], [])) : zam cfg kk (den cfg kk) 112 Go.Proofs.Tryd.f112 [.dat (Hd b o cs rs)] [] [] = some r := by
 obtain ⟨hz1, hz2, hz3, oz⟩ := q1
 subst oz; exact zab [(14, .back [.own 4 ks] [] []), (15, .ret [.own 97 cs1, .own 3 rs1])] (ob hz1 (ob hz2 (ob hz3 ob0))) (by kernel_rfl)
def zkX (b : Bool) (o : Int) (cs rs : List Dat) (fr : List Dat) (i : Int) : St := Nm [1, 2, 3, 11, 12] [.ptr (.loc 1) 0, .ptr (.loc 2) 0, .own 3 fr, .dat (I o), .dat (I i)] [Hb b o cs rs, some (Ho 0 [] []), none, none, none] [] []
theorem zhZ (kk m : Nat) {s : St} {K : X → St → Prop} (b : Bool) (o : Int) (cs rs : List Dat) (fr : List Dat) (i : Int) (hs : s.norm ((zae cfg kk 113 Go.Proofs.Tryd.f113).live (zaa (lp Go.Proofs.Tryd.f113 3))) = zkX b o cs rs fr i) (q1 : (decide (i < o) = true) → (fr.length + 1 ≤ 2147483648) ∧ (∀ s : St, s.norm ((zae cfg kk 113 Go.Proofs.Tryd.f113).live (zaa (lp Go.Proofs.Tryd.f113 3))) = Nm [1, 2, 3, 11, 12] [D.ptr (Ref.loc 1) 0, D.ptr (Ref.loc 2) 0, D.own 3 (fr ++ [I i]), D.dat (I o), D.dat (I (w64 (i + 1)))] [some [D.dat (I o), D.dat (Dat.lst b cs), D.dat (Dat.lst b rs)], some [D.dat (I 0), D.own 97 [], D.own 3 []], none, none, none] [] [] → zad (zae cfg kk 113 Go.Proofs.Tryd.f113) kk (lp Go.Proofs.Tryd.f113 3) m s K)) (q2 : (decide (i < o) = false) → K (X.exit 0) (Nm [1, 2, 3] [D.ptr (Ref.loc 1) 0, D.ptr (Ref.loc 2) 0, D.own 3 fr] [some [D.dat (I o), D.dat (Dat.lst b cs), D.dat (Dat.lst b rs)], some [D.dat (I 0), D.own 97 [], D.own 3 []], none] [] [])) : zad (zae cfg kk 113 Go.Proofs.Tryd.f113) kk (lp Go.Proofs.Tryd.f113 3) (m + 1) s K := by
 rcases Bool.eq_false_or_eq_true (decide (i < o)) with d1 | d1
 · obtain ⟨hz1, oz⟩ := q1 d1
   exact zal [(18, .ok), (200013, .yes)] hs (by kernel_rfl) (ob d1 (ob (obT hz1) ob0)) (by kernel_rfl) oz
 · have oz := q2 d1
   exact zao [(18, .ok), (200013, .no)] hs (by kernel_rfl) rfl (ob d1 ob0) (by kernel_rfl) oz
theorem zpr (kk : Nat) (b : Bool) (o : Int) (cs rs : List Dat) (f0 fr ks cs1 rs1 : List Dat) {r : Res} (q1 : (den cfg kk 82 [D.dat (Dat.lst b rs)] [] [] = some ([D.own 3 f0], [], [])) ∧ (zaS cfg kk 113 Go.Proofs.Tryd.f113 3 (zkX b o cs rs f0 0) (X.exit 0) (Nm [1, 2, 3] [D.ptr (Ref.loc 1) 0, D.ptr (Ref.loc 2) 0, D.own 3 fr] [some [D.dat (I o), D.dat (Dat.lst b cs), D.dat (Dat.lst b rs)], some [D.dat (I 0), D.own 97 [], D.own 3 []], none] [] [])) ∧ (den cfg kk 62 [D.dat (Dat.lst b cs), D.dat (Dat.lst false fr), D.fn 63 []] [] [] = some ([D.own 4 ks], [], [])) ∧ (D.cleans [D.own 97 cs1, D.own 3 rs1] = true) ∧ (den cfg kk 118 [D.dat (Dat.lst b cs), D.dat (Dat.lst b rs), D.dat (Dat.lst true ks)] [] [] = some ([D.own 97 cs1, D.own 3 rs1], [], [])) ∧ r = ([D.seq false [D.dat (I (cs1.length : Int)), D.own 97 cs1, D.own 3 rs1]], [], [])) : zam cfg kk (den cfg kk) 113 Go.Proofs.Tryd.f113 [.dat (Hd b o cs rs)] [] [] = some r := by
 obtain ⟨hz1, hz2, hz3, hz4, hz5, oz⟩ := q1
 subst oz; exact zab [(9, .ret [.own 3 f0]), (300003, .loop (zkX b o cs rs f0 0) (.exit 0) (Nm [1, 2, 3] [.ptr (.loc 1) 0, .ptr (.loc 2) 0, .own 3 fr] [Hb b o cs rs, some (Ho 0 [] []), none] [] [])), (28, .back [.own 4 ks] [] []), (29, .ret [.own 97 cs1, .own 3 rs1])] (ob hz1 (ob (rfl : _ = zkX b o cs rs f0 0) (ob hz2 (ob hz3 (ob hz4 (ob hz5 ob0)))))) (by kernel_rfl)
end Go.Den
namespace Go.Den
open Go
set_option linter.unusedVariables false
set_option maxRecDepth 100000
abbrev L7 (o : Int) (cs rs : List Dat) (room nur : Int) (free full : Bool) (out : ByteArray) : List D := [.dat (I o), .own 97 cs, .own 3 rs, .dat (I room), .dat (I nur), .dat (B free), .dat (B full), .dat (S out)]
abbrev P7 (o : Int) (cs rs bs : List Dat) (room nur : Int) (full : Bool) : List D := [.dat (I o), .own 97 cs, .own 3 rs, .own 5 bs, .dat (I room), .dat (I nur), .dat (B full)]
theorem zkT (kk : Nat) (o : Int) (cs rs : List Dat) (room nur : Int) (free full : Bool) (out : ByteArray) (pair : Bool) (n a b : Int) (oa : Int) (ca ra : List Dat) (ob_ : Int) (cb rb : List Dat) (x91 : Int) (x99 : Int) {r : Res} (q1 : (decide ((rs.length : Int) = 60) = true) → r = ([], [[D.dat (I o), D.own 97 cs, D.own 3 rs, D.dat (I room), D.dat (I nur), D.dat (B free), D.dat (B full), D.dat (Dat.val (Value.string out))]], [])) (q2 : (decide ((rs.length : Int) = 60) = false) → ((!free) = true) → (decide (nur ≤ w64 ((cs.length : Int) - o)) = true) → (decide (room ≤ (ca.length : Int)) = true) → (decide (room ≤ (cb.length : Int)) = true) → (D.cleans [D.seq false [D.dat (I oa), D.own 97 ca, D.own 3 ra]] = true) ∧ (den cfg kk 102 [D.dat (Dat.agg [I o, Dat.lst true cs, Dat.lst true rs])] [] [] = some ([D.seq false [D.dat (I oa), D.own 97 ca, D.own 3 ra]], [], [])) ∧ (D.cleans [D.seq false [D.dat (I ob_), D.own 97 cb, D.own 3 rb]] = true) ∧ (den cfg kk 101 [D.dat (Dat.agg [I oa, Dat.lst true ca, Dat.lst true ra])] [] [] = some ([D.seq false [D.dat (I ob_), D.own 97 cb, D.own 3 rb]], [], [])) ∧ r = ([], [[D.dat (I ob_), D.own 97 cb, D.own 3 rb, D.dat (I room), D.dat (I nur), D.dat (B free), D.dat (B true), D.dat (Dat.val (Value.string out))]], [])) (q3 : (decide ((rs.length : Int) = 60) = false) → ((!free) = true) → (decide (nur ≤ w64 ((cs.length : Int) - o)) = true) → (decide (room ≤ (ca.length : Int)) = true) → (decide (room ≤ (cb.length : Int)) = false) → (pair = true) → (D.cleans [D.seq false [D.dat (I oa), D.own 97 ca, D.own 3 ra]] = true) ∧ (den cfg kk 102 [D.dat (Dat.agg [I o, Dat.lst true cs, Dat.lst true rs])] [] [] = some ([D.seq false [D.dat (I oa), D.own 97 ca, D.own 3 ra]], [], [])) ∧ (D.cleans [D.seq false [D.dat (I ob_), D.own 97 cb, D.own 3 rb]] = true) ∧ (den cfg kk 101 [D.dat (Dat.agg [I oa, Dat.lst true ca, Dat.lst true ra])] [] [] = some ([D.seq false [D.dat (I ob_), D.own 97 cb, D.own 3 rb]], [], [])) ∧ (0 ≤ a ∧ a < (rb.length : Int)) ∧ (rb[a.toNat]? = some (I x91)) ∧ (0 ≤ b ∧ b < (rb.length : Int)) ∧ (rb[b.toNat]? = some (I x99)) ∧ (cb.length + 1 ≤ 2147483648) ∧ (rb.length + 1 ≤ 2147483648) ∧ r = ([], [[D.dat (I ob_), D.own 97 (cb ++ [Dat.agg [B false, I 0, I x91, I x99]]), D.own 3 (rb ++ [Dat.val (Value.int IntKind.i64 (w64 (((cb ++ [Dat.agg [B false, I 0, I x91, I x99]]).length : Int) - 1)))]), D.dat (I room), D.dat (I nur), D.dat (B free), D.dat (B full), D.dat (Dat.val (Value.string out))]], [])) (q4 : (decide ((rs.length : Int) = 60) = false) → ((!free) = true) → (decide (nur ≤ w64 ((cs.length : Int) - o)) = true) → (decide (room ≤ (ca.length : Int)) = true) → (decide (room ≤ (cb.length : Int)) = false) → (pair = false) → (D.cleans [D.seq false [D.dat (I oa), D.own 97 ca, D.own 3 ra]] = true) ∧ (den cfg kk 102 [D.dat (Dat.agg [I o, Dat.lst true cs, Dat.lst true rs])] [] [] = some ([D.seq false [D.dat (I oa), D.own 97 ca, D.own 3 ra]], [], [])) ∧ (D.cleans [D.seq false [D.dat (I ob_), D.own 97 cb, D.own 3 rb]] = true) ∧ (den cfg kk 101 [D.dat (Dat.agg [I oa, Dat.lst true ca, Dat.lst true ra])] [] [] = some ([D.seq false [D.dat (I ob_), D.own 97 cb, D.own 3 rb]], [], [])) ∧ (cb.length + 1 ≤ 2147483648) ∧ (rb.length + 1 ≤ 2147483648) ∧ r = ([], [[D.dat (I ob_), D.own 97 (cb ++ [Dat.agg [B true, I n, I 0, I 0]]), D.own 3 (rb ++ [Dat.val (Value.int IntKind.i64 (w64 (((cb ++ [Dat.agg [B true, I n, I 0, I 0]]).length : Int) - 1)))]), D.dat (I room), D.dat (I nur), D.dat (B free), D.dat (B full), D.dat (Dat.val (Value.string out))]], [])) (q5 : (decide ((rs.length : Int) = 60) = false) → ((!free) = true) → (decide (nur ≤ w64 ((cs.length : Int) - o)) = true) → (decide (room ≤ (ca.length : Int)) = false) → (pair = true) → (D.cleans [D.seq false [D.dat (I oa), D.own 97 ca, D.own 3 ra]] = true) ∧ (den cfg kk 102 [D.dat (Dat.agg [I o, Dat.lst true cs, Dat.lst true rs])] [] [] = some ([D.seq false [D.dat (I oa), D.own 97 ca, D.own 3 ra]], [], [])) ∧ (0 ≤ a ∧ a < (ra.length : Int)) ∧ (ra[a.toNat]? = some (I x91)) ∧ (0 ≤ b ∧ b < (ra.length : Int)) ∧ (ra[b.toNat]? = some (I x99)) ∧ (ca.length + 1 ≤ 2147483648) ∧ (ra.length + 1 ≤ 2147483648) ∧ r = ([], [[D.dat (I oa), D.own 97 (ca ++ [Dat.agg [B false, I 0, I x91, I x99]]), D.own 3 (ra ++ [Dat.val (Value.int IntKind.i64 (w64 (((ca ++ [Dat.agg [B false, I 0, I x91, I x99]]).length : Int) - 1)))]), D.dat (I room), D.dat (I nur), D.dat (B free), D.dat (B full), D.dat (Dat.val (Value.string out))]], [])) (q6 : (decide ((rs.length : Int) = 60) = false) → ((!free) = true) → (decide (nur ≤ w64 ((cs.length : Int) - o)) = true) → (decide (room ≤ (ca.length : Int)) = false) → (pair = false) → (D.cleans [D.seq false [D.dat (I oa), D.own 97 ca, D.own 3 ra]] = true) ∧ (den cfg kk 102 [D.dat (Dat.agg [I o, Dat.lst true cs, Dat.lst true rs])] [] [] = some ([D.seq false [D.dat (I oa), D.own 97 ca, D.own 3 ra]], [], [])) ∧ (ca.length + 1 ≤ 2147483648) ∧ (ra.length + 1 ≤ 2147483648) ∧ r = ([], [[D.dat (I oa), D.own 97 (ca ++ [Dat.agg [B true, I n, I 0, I 0]]), D.own 3 (ra ++ [Dat.val (Value.int IntKind.i64 (w64 (((ca ++ [Dat.agg [B true, I n, I 0, I 0]]).length : Int) - 1)))]), D.dat (I room), D.dat (I nur), D.dat (B free), D.dat (B full), D.dat (Dat.val (Value.string out))]], [])) (q7 : (decide ((rs.length : Int) = 60) = false) → ((!free) = true) → (decide (nur ≤ w64 ((cs.length : Int) - o)) = false) → (decide (room ≤ (cs.length : Int)) = true) → (decide (room ≤ (cb.length : Int)) = true) → (D.cleans [D.seq false [D.dat (I ob_), D.own 97 cb, D.own 3 rb]] = true) ∧ (den cfg kk 101 [D.dat (Dat.agg [I o, Dat.lst true cs, Dat.lst true rs])] [] [] = some ([D.seq false [D.dat (I ob_), D.own 97 cb, D.own 3 rb]], [], [])) ∧ r = ([], [[D.dat (I ob_), D.own 97 cb, D.own 3 rb, D.dat (I room), D.dat (I nur), D.dat (B free), D.dat (B true), D.dat (Dat.val (Value.string out))]], [])) (q8 : (decide ((rs.length : Int) = 60) = false) → ((!free) = true) → (decide (nur ≤ w64 ((cs.length : Int) - o)) = false) → (decide (room ≤ (cs.length : Int)) = true) → (decide (room ≤ (cb.length : Int)) = false) → (pair = true) → (D.cleans [D.seq false [D.dat (I ob_), D.own 97 cb, D.own 3 rb]] = true) ∧ (den cfg kk 101 [D.dat (Dat.agg [I o, Dat.lst true cs, Dat.lst true rs])] [] [] = some ([D.seq false [D.dat (I ob_), D.own 97 cb, D.own 3 rb]], [], [])) ∧ (0 ≤ a ∧ a < (rb.length : Int)) ∧ (rb[a.toNat]? = some (I x91)) ∧ (0 ≤ b ∧ b < (rb.length : Int)) ∧ (rb[b.toNat]? = some (I x99)) ∧ (cb.length + 1 ≤ 2147483648) ∧ (rb.length + 1 ≤ 2147483648) ∧ r = ([], [[D.dat (I ob_), D.own 97 (cb ++ [Dat.agg [B false, I 0, I x91, I x99]]), D.own 3 (rb ++ [Dat.val (Value.int IntKind.i64 (w64 (((cb ++ [Dat.agg [B false, I 0, I x91, I x99]]).length : Int) - 1)))]), D.dat (I room), D.dat (I nur), D.dat (B free), D.dat (B full), D.dat (Dat.val (Value.string out))]], [])) (q9 : (decide ((rs.length : Int) = 60) = false) → ((!free) = true) → (decide (nur ≤ w64 ((cs.length : Int) - o)) = false) → (decide (room ≤ (cs.length : Int)) = true) → (decide (room ≤ (cb.length : Int)) = false) → (pair = false) → (D.cleans [D.seq false [D.dat (I ob_), D.own 97 cb, D.own 3 rb]] = true) ∧ (den cfg kk 101 [D.dat (Dat.agg [I o, Dat.lst true cs, Dat.lst true rs])] [] [] = some ([D.seq false [D.dat (I ob_), D.own 97 cb, D.own 3 rb]], [], [])) ∧ (cb.length + 1 ≤ 2147483648) ∧ (rb.length + 1 ≤ 2147483648) ∧ r = ([], [[D.dat (I ob_), D.own 97 (cb ++ [Dat.agg [B true, I n, I 0, I 0]]), D.own 3 (rb ++ [Dat.val (Value.int IntKind.i64 (w64 (((cb ++ [Dat.agg [B true, I n, I 0, I 0]]).length : Int) - 1)))]), D.dat (I room), D.dat (I nur), D.dat (B free), D.dat (B full), D.dat (Dat.val (Value.string out))]], [])) (q10 : (decide ((rs.length : Int) = 60) = false) → ((!free) = true) → (decide (nur ≤ w64 ((cs.length : Int) - o)) = false) → (decide (room ≤ (cs.length : Int)) = false) → (pair = true) → (0 ≤ a ∧ a < (rs.length : Int)) ∧ (rs[a.toNat]? = some (I x91)) ∧ (0 ≤ b ∧ b < (rs.length : Int)) ∧ (rs[b.toNat]? = some (I x99)) ∧ (cs.length + 1 ≤ 2147483648) ∧ (rs.length + 1 ≤ 2147483648) ∧ r = ([], [[D.dat (I o), D.own 97 (cs ++ [Dat.agg [B false, I 0, I x91, I x99]]), D.own 3 (rs ++ [Dat.val (Value.int IntKind.i64 (w64 (((cs ++ [Dat.agg [B false, I 0, I x91, I x99]]).length : Int) - 1)))]), D.dat (I room), D.dat (I nur), D.dat (B free), D.dat (B full), D.dat (Dat.val (Value.string out))]], [])) (q11 : (decide ((rs.length : Int) = 60) = false) → ((!free) = true) → (decide (nur ≤ w64 ((cs.length : Int) - o)) = false) → (decide (room ≤ (cs.length : Int)) = false) → (pair = false) → (cs.length + 1 ≤ 2147483648) ∧ (rs.length + 1 ≤ 2147483648) ∧ r = ([], [[D.dat (I o), D.own 97 (cs ++ [Dat.agg [B true, I n, I 0, I 0]]), D.own 3 (rs ++ [Dat.val (Value.int IntKind.i64 (w64 (((cs ++ [Dat.agg [B true, I n, I 0, I 0]]).length : Int) - 1)))]), D.dat (I room), D.dat (I nur), D.dat (B free), D.dat (B full), D.dat (Dat.val (Value.string out))]], [])) (q12 : (decide ((rs.length : Int) = 60) = false) → ((!free) = false) → (pair = true) → (0 ≤ a ∧ a < (rs.length : Int)) ∧ (rs[a.toNat]? = some (I x91)) ∧ (0 ≤ b ∧ b < (rs.length : Int)) ∧ (rs[b.toNat]? = some (I x99)) ∧ (cs.length + 1 ≤ 2147483648) ∧ (rs.length + 1 ≤ 2147483648) ∧ r = ([], [[D.dat (I o), D.own 97 (cs ++ [Dat.agg [B false, I 0, I x91, I x99]]), D.own 3 (rs ++ [Dat.val (Value.int IntKind.i64 (w64 (((cs ++ [Dat.agg [B false, I 0, I x91, I x99]]).length : Int) - 1)))]), D.dat (I room), D.dat (I nur), D.dat (B free), D.dat (B full), D.dat (Dat.val (Value.string out))]], [])) (q13 : (decide ((rs.length : Int) = 60) = false) → ((!free) = false) → (pair = false) → (cs.length + 1 ≤ 2147483648) ∧ (rs.length + 1 ≤ 2147483648) ∧ r = ([], [[D.dat (I o), D.own 97 (cs ++ [Dat.agg [B true, I n, I 0, I 0]]), D.own 3 (rs ++ [Dat.val (Value.int IntKind.i64 (w64 (((cs ++ [Dat.agg [B true, I n, I 0, I 0]]).length : Int) - 1)))]), D.dat (I room), D.dat (I nur), D.dat (B free), D.dat (B full), D.dat (Dat.val (Value.string out))]], [])) : zam cfg kk (den cfg kk) 99 Go.Proofs.Tryd.f99 [.ptr (.up 0) 0, .dat (B pair), .dat (I n), .dat (I a), .dat (I b)] [L7 o cs rs room nur free full out] [] = some r := by
 rcases Bool.eq_false_or_eq_true (decide ((rs.length : Int) = 60)) with d1 | d1
 · have oz := q1 d1
   subst oz; exact zab [(45, .ret [.seq false [.dat (I oa), .own 97 ca, .own 3 ra]]), (64, .ret [.seq false [.dat (I ob_), .own 97 cb, .own 3 rb]]), (109, .ok), (90, .ok), (127, .ok), (91, .at (I x91)), (98, .ok), (99, .at (I x99)), (200017, .yes)] (ob d1 ob0) (by kernel_rfl)
 · rcases Bool.eq_false_or_eq_true ((!free)) with d2 | d2
   · rcases Bool.eq_false_or_eq_true (decide (nur ≤ w64 ((cs.length : Int) - o))) with d3 | d3
     · rcases Bool.eq_false_or_eq_true (decide (room ≤ (ca.length : Int))) with d6 | d6
       · rcases Bool.eq_false_or_eq_true (decide (room ≤ (cb.length : Int))) with d9 | d9
         · obtain ⟨hz1, hz2, hz3, hz4, oz⟩ := q2 d1 d2 d3 d6 d9
           subst oz; exact zab [(45, .ret [.seq false [.dat (I oa), .own 97 ca, .own 3 ra]]), (64, .ret [.seq false [.dat (I ob_), .own 97 cb, .own 3 rb]]), (109, .ok), (90, .ok), (127, .ok), (91, .at (I x91)), (98, .ok), (99, .at (I x99)), (200017, .no), (200022, .yes), (200039, .yes), (200058, .yes), (200077, .yes)] (ob d1 (ob d2 (ob d3 (ob hz1 (ob hz2 (ob d6 (ob hz3 (ob hz4 (ob d9 ob0))))))))) (by kernel_rfl)
         · rcases Bool.eq_false_or_eq_true (pair) with d10 | d10
           · obtain ⟨hz1, hz2, hz3, hz4, hz5, hz6, hz7, hz8, hz9, hz10, oz⟩ := q3 d1 d2 d3 d6 d9 d10
             subst oz; exact zab [(45, .ret [.seq false [.dat (I oa), .own 97 ca, .own 3 ra]]), (64, .ret [.seq false [.dat (I ob_), .own 97 cb, .own 3 rb]]), (109, .ok), (90, .ok), (127, .ok), (91, .at (I x91)), (98, .ok), (99, .at (I x99)), (200017, .no), (200022, .yes), (200039, .yes), (200058, .yes), (200077, .no), (200083, .yes)] (ob d1 (ob d2 (ob d3 (ob hz1 (ob hz2 (ob d6 (ob hz3 (ob hz4 (ob d9 (ob d10 (ob hz5 (ob hz6 (ob hz7 (ob hz8 (ob (obT hz9) (ob (obT hz10) ob0)))))))))))))))) (by kernel_rfl)
           · obtain ⟨hz1, hz2, hz3, hz4, hz5, hz6, oz⟩ := q4 d1 d2 d3 d6 d9 d10
             subst oz; exact zab [(45, .ret [.seq false [.dat (I oa), .own 97 ca, .own 3 ra]]), (64, .ret [.seq false [.dat (I ob_), .own 97 cb, .own 3 rb]]), (109, .ok), (90, .ok), (127, .ok), (91, .at (I x91)), (98, .ok), (99, .at (I x99)), (200017, .no), (200022, .yes), (200039, .yes), (200058, .yes), (200077, .no), (200083, .no)] (ob d1 (ob d2 (ob d3 (ob hz1 (ob hz2 (ob d6 (ob hz3 (ob hz4 (ob d9 (ob d10 (ob (obT hz5) (ob (obT hz6) ob0)))))))))))) (by kernel_rfl)
       · rcases Bool.eq_false_or_eq_true (pair) with d8 | d8
         · obtain ⟨hz1, hz2, hz3, hz4, hz5, hz6, hz7, hz8, oz⟩ := q5 d1 d2 d3 d6 d8
           subst oz; exact zab [(45, .ret [.seq false [.dat (I oa), .own 97 ca, .own 3 ra]]), (64, .ret [.seq false [.dat (I ob_), .own 97 cb, .own 3 rb]]), (109, .ok), (90, .ok), (127, .ok), (91, .at (I x91)), (98, .ok), (99, .at (I x99)), (200017, .no), (200022, .yes), (200039, .yes), (200058, .no), (200077, .no), (200083, .yes)] (ob d1 (ob d2 (ob d3 (ob hz1 (ob hz2 (ob d6 (ob (show decide (room ≤ (ca.length : Int)) = false from (by simp [d1, d2, d3, d6])) (ob d8 (ob hz3 (ob hz4 (ob hz5 (ob hz6 (ob (obT hz7) (ob (obT hz8) ob0)))))))))))))) (by kernel_rfl)
         · obtain ⟨hz1, hz2, hz3, hz4, oz⟩ := q6 d1 d2 d3 d6 d8
           subst oz; exact zab [(45, .ret [.seq false [.dat (I oa), .own 97 ca, .own 3 ra]]), (64, .ret [.seq false [.dat (I ob_), .own 97 cb, .own 3 rb]]), (109, .ok), (90, .ok), (127, .ok), (91, .at (I x91)), (98, .ok), (99, .at (I x99)), (200017, .no), (200022, .yes), (200039, .yes), (200058, .no), (200077, .no), (200083, .no)] (ob d1 (ob d2 (ob d3 (ob hz1 (ob hz2 (ob d6 (ob (show decide (room ≤ (ca.length : Int)) = false from (by simp [d1, d2, d3, d6])) (ob d8 (ob (obT hz3) (ob (obT hz4) ob0)))))))))) (by kernel_rfl)
     · rcases Bool.eq_false_or_eq_true (decide (room ≤ (cs.length : Int))) with d4 | d4
       · rcases Bool.eq_false_or_eq_true (decide (room ≤ (cb.length : Int))) with d7 | d7
         · obtain ⟨hz1, hz2, oz⟩ := q7 d1 d2 d3 d4 d7
           subst oz; exact zab [(45, .ret [.seq false [.dat (I oa), .own 97 ca, .own 3 ra]]), (64, .ret [.seq false [.dat (I ob_), .own 97 cb, .own 3 rb]]), (109, .ok), (90, .ok), (127, .ok), (91, .at (I x91)), (98, .ok), (99, .at (I x99)), (200017, .no), (200022, .yes), (200039, .no), (200058, .yes), (200077, .yes)] (ob d1 (ob d2 (ob d3 (ob d4 (ob hz1 (ob hz2 (ob d7 ob0))))))) (by kernel_rfl)
         · rcases Bool.eq_false_or_eq_true (pair) with d8 | d8
           · obtain ⟨hz1, hz2, hz3, hz4, hz5, hz6, hz7, hz8, oz⟩ := q8 d1 d2 d3 d4 d7 d8
             subst oz; exact zab [(45, .ret [.seq false [.dat (I oa), .own 97 ca, .own 3 ra]]), (64, .ret [.seq false [.dat (I ob_), .own 97 cb, .own 3 rb]]), (109, .ok), (90, .ok), (127, .ok), (91, .at (I x91)), (98, .ok), (99, .at (I x99)), (200017, .no), (200022, .yes), (200039, .no), (200058, .yes), (200077, .no), (200083, .yes)] (ob d1 (ob d2 (ob d3 (ob d4 (ob hz1 (ob hz2 (ob d7 (ob d8 (ob hz3 (ob hz4 (ob hz5 (ob hz6 (ob (obT hz7) (ob (obT hz8) ob0)))))))))))))) (by kernel_rfl)
           · obtain ⟨hz1, hz2, hz3, hz4, oz⟩ := q9 d1 d2 d3 d4 d7 d8
             subst oz; exact zab [(45, .ret [.seq false [.dat (I oa), .own 97 ca, .own 3 ra]]), (64, .ret [.seq false [.dat (I ob_), .own 97 cb, .own 3 rb]]), (109, .ok), (90, .ok), (127, .ok), (91, .at (I x91)), (98, .ok), (99, .at (I x99)), (200017, .no), (200022, .yes), (200039, .no), (200058, .yes), (200077, .no), (200083, .no)] (ob d1 (ob d2 (ob d3 (ob d4 (ob hz1 (ob hz2 (ob d7 (ob d8 (ob (obT hz3) (ob (obT hz4) ob0)))))))))) (by kernel_rfl)
       · rcases Bool.eq_false_or_eq_true (pair) with d6 | d6
         · obtain ⟨hz1, hz2, hz3, hz4, hz5, hz6, oz⟩ := q10 d1 d2 d3 d4 d6
           subst oz; exact zab [(45, .ret [.seq false [.dat (I oa), .own 97 ca, .own 3 ra]]), (64, .ret [.seq false [.dat (I ob_), .own 97 cb, .own 3 rb]]), (109, .ok), (90, .ok), (127, .ok), (91, .at (I x91)), (98, .ok), (99, .at (I x99)), (200017, .no), (200022, .yes), (200039, .no), (200058, .no), (200077, .no), (200083, .yes)] (ob d1 (ob d2 (ob d3 (ob d4 (ob (show decide (room ≤ (cs.length : Int)) = false from (by simp [d1, d2, d3, d4])) (ob d6 (ob hz1 (ob hz2 (ob hz3 (ob hz4 (ob (obT hz5) (ob (obT hz6) ob0)))))))))))) (by kernel_rfl)
         · obtain ⟨hz1, hz2, oz⟩ := q11 d1 d2 d3 d4 d6
           subst oz; exact zab [(45, .ret [.seq false [.dat (I oa), .own 97 ca, .own 3 ra]]), (64, .ret [.seq false [.dat (I ob_), .own 97 cb, .own 3 rb]]), (109, .ok), (90, .ok), (127, .ok), (91, .at (I x91)), (98, .ok), (99, .at (I x99)), (200017, .no), (200022, .yes), (200039, .no), (200058, .no), (200077, .no), (200083, .no)] (ob d1 (ob d2 (ob d3 (ob d4 (ob (show decide (room ≤ (cs.length : Int)) = false from (by simp [d1, d2, d3, d4])) (ob d6 (ob (obT hz1) (ob (obT hz2) ob0)))))))) (by kernel_rfl)
   · rcases Bool.eq_false_or_eq_true (pair) with d3 | d3
     · obtain ⟨hz1, hz2, hz3, hz4, hz5, hz6, oz⟩ := q12 d1 d2 d3
       subst oz; exact zab [(45, .ret [.seq false [.dat (I oa), .own 97 ca, .own 3 ra]]), (64, .ret [.seq false [.dat (I ob_), .own 97 cb, .own 3 rb]]), (109, .ok), (90, .ok), (127, .ok), (91, .at (I x91)), (98, .ok), (99, .at (I x99)), (200017, .no), (200022, .no), (200083, .yes)] (ob d1 (ob d2 (ob d3 (ob hz1 (ob hz2 (ob hz3 (ob hz4 (ob (obT hz5) (ob (obT hz6) ob0))))))))) (by kernel_rfl)
     · obtain ⟨hz1, hz2, oz⟩ := q13 d1 d2 d3
       subst oz; exact zab [(45, .ret [.seq false [.dat (I oa), .own 97 ca, .own 3 ra]]), (64, .ret [.seq false [.dat (I ob_), .own 97 cb, .own 3 rb]]), (109, .ok), (90, .ok), (127, .ok), (91, .at (I x91)), (98, .ok), (99, .at (I x99)), (200017, .no), (200022, .no), (200083, .no)] (ob d1 (ob d2 (ob d3 (ob (obT hz1) (ob (obT hz2) ob0))))) (by kernel_rfl)
theorem op7_1 (kk : Nat) (o : Int) (cs rs : List Dat) (room nur : Int) (free full : Bool) (out : ByteArray) (a b : Int) (o1 : Int) (cs1 rs1 : List Dat) (full1 : Bool) (g19 : Bool) (g24 : Bool) {r : Res} (q1 : (den cfg kk 39 [D.dat (I a), D.dat (I 0), D.dat (I (w64 ((rs.length : Int) - 1)))] [] [] = some ([D.dat (B g19)], [], [])) ∧ (den cfg kk 39 [D.dat (I b), D.dat (I 0), D.dat (I (w64 ((rs.length : Int) - 1)))] [] [] = some ([D.dat (B g24)], [], [])) ∧ (den cfg kk 99 [D.ptr (Ref.up 0) 0, D.dat (B false), D.dat (I a), D.dat (I 0), D.dat (I 0)] [[D.dat (I o), D.own 97 cs, D.own 3 rs, D.dat (I room), D.dat (I nur), D.dat (B free), D.dat (B full), D.dat (Dat.val (Value.string out))]] [] = some ([], [[D.dat (I o1), D.own 97 cs1, D.own 3 rs1, D.dat (I room), D.dat (I nur), D.dat (B free), D.dat (B full1), D.dat (Dat.val (Value.string out))]], [])) ∧ r = ([], [[D.dat (I o1), D.own 97 cs1, D.own 3 rs1, D.dat (I room), D.dat (I nur), D.dat (B free), D.dat (B full1), D.dat (Dat.val (Value.string out))]], [])) : zam cfg kk (den cfg kk) 78 Go.Proofs.Tryd.f78 [.ptr (.up 0) 0, .dat (N3 1 a b)] [L7 o cs rs room nur free full out] [] = some r := by
 obtain ⟨hz1, hz2, hz3, oz⟩ := q1
 subst oz; exact zab [(32, .back [] [L7 o1 cs1 rs1 room nur free full1 out] []), (44, .back [] [L7 o1 cs1 rs1 room nur free full1 out] []), (19, .ret [.dat (B g19)]), (24, .ret [.dat (B g24)])] (ob hz1 (ob hz2 (ob hz3 (ob (rfl : false = false) ob0)))) (by kernel_rfl)
theorem zqt (kk : Nat) (o : Int) (cs rs : List Dat) (room nur : Int) (free full : Bool) (out : ByteArray) (a b : Int) (o1 : Int) (cs1 rs1 : List Dat) (full1 : Bool) (g19 : Bool) (g24 : Bool) {r : Res} (q1 : (g19 = true) → (g24 = true) → (den cfg kk 39 [D.dat (I a), D.dat (I 0), D.dat (I (w64 ((rs.length : Int) - 1)))] [] [] = some ([D.dat (B g19)], [], [])) ∧ (den cfg kk 39 [D.dat (I b), D.dat (I 0), D.dat (I (w64 ((rs.length : Int) - 1)))] [] [] = some ([D.dat (B g24)], [], [])) ∧ (den cfg kk 99 [D.ptr (Ref.up 0) 0, D.dat (B true), D.dat (I 0), D.dat (I a), D.dat (I b)] [[D.dat (I o), D.own 97 cs, D.own 3 rs, D.dat (I room), D.dat (I nur), D.dat (B free), D.dat (B full), D.dat (Dat.val (Value.string out))]] [] = some ([], [[D.dat (I o1), D.own 97 cs1, D.own 3 rs1, D.dat (I room), D.dat (I nur), D.dat (B free), D.dat (B full1), D.dat (Dat.val (Value.string out))]], [])) ∧ r = ([], [[D.dat (I o1), D.own 97 cs1, D.own 3 rs1, D.dat (I room), D.dat (I nur), D.dat (B free), D.dat (B full1), D.dat (Dat.val (Value.string out))]], [])) (q2 : (g19 = true) → (g24 = false) → (den cfg kk 39 [D.dat (I a), D.dat (I 0), D.dat (I (w64 ((rs.length : Int) - 1)))] [] [] = some ([D.dat (B g19)], [], [])) ∧ (den cfg kk 39 [D.dat (I b), D.dat (I 0), D.dat (I (w64 ((rs.length : Int) - 1)))] [] [] = some ([D.dat (B g24)], [], [])) ∧ r = ([], [[D.dat (I o), D.own 97 cs, D.own 3 rs, D.dat (I room), D.dat (I nur), D.dat (B free), D.dat (B full), D.dat (Dat.val (Value.string out))]], [])) (q3 : (g19 = false) → (den cfg kk 39 [D.dat (I a), D.dat (I 0), D.dat (I (w64 ((rs.length : Int) - 1)))] [] [] = some ([D.dat (B g19)], [], [])) ∧ (den cfg kk 39 [D.dat (I b), D.dat (I 0), D.dat (I (w64 ((rs.length : Int) - 1)))] [] [] = some ([D.dat (B g24)], [], [])) ∧ r = ([], [[D.dat (I o), D.own 97 cs, D.own 3 rs, D.dat (I room), D.dat (I nur), D.dat (B free), D.dat (B full), D.dat (Dat.val (Value.string out))]], [])) : zam cfg kk (den cfg kk) 78 Go.Proofs.Tryd.f78 [.ptr (.up 0) 0, .dat (N3 2 a b)] [L7 o cs rs room nur free full out] [] = some r := by
 rcases Bool.eq_false_or_eq_true (g19) with d3 | d3
 · rcases Bool.eq_false_or_eq_true (g24) with d4 | d4
   · obtain ⟨hz1, hz2, hz3, oz⟩ := q1 d3 d4
     subst oz; exact zab [(32, .back [] [L7 o1 cs1 rs1 room nur free full1 out] []), (44, .back [] [L7 o1 cs1 rs1 room nur free full1 out] []), (19, .ret [.dat (B g19)]), (24, .ret [.dat (B g24)]), (200036, .yes), (200038, .yes)] (ob hz1 (ob hz2 (ob d3 (ob d4 (ob hz3 (ob (rfl : false = false) ob0)))))) (by kernel_rfl)
   · obtain ⟨hz1, hz2, oz⟩ := q2 d3 d4
     subst oz; exact zab [(32, .back [] [L7 o1 cs1 rs1 room nur free full1 out] []), (44, .back [] [L7 o1 cs1 rs1 room nur free full1 out] []), (19, .ret [.dat (B g19)]), (24, .ret [.dat (B g24)]), (200036, .yes), (200038, .no)] (ob hz1 (ob hz2 (ob d3 (ob d4 ob0)))) (by kernel_rfl)
 · obtain ⟨hz1, hz2, oz⟩ := q3 d3
   subst oz; exact zab [(32, .back [] [L7 o1 cs1 rs1 room nur free full1 out] []), (44, .back [] [L7 o1 cs1 rs1 room nur free full1 out] []), (19, .ret [.dat (B g19)]), (24, .ret [.dat (B g24)]), (200036, .no)] (ob hz1 (ob hz2 (ob d3 ob0))) (by kernel_rfl)
theorem op7_3 (kk : Nat) (o : Int) (cs rs : List Dat) (room nur : Int) (free full : Bool) (out : ByteArray) (a b : Int) (g19 : Bool) (g24 : Bool) (x67 : Int) (c69 : Cl) {r : Res} (q1 : ((!g19) = true) → (den cfg kk 39 [D.dat (I a), D.dat (I 0), D.dat (I (w64 ((rs.length : Int) - 1)))] [] [] = some ([D.dat (B g19)], [], [])) ∧ (den cfg kk 39 [D.dat (I b), D.dat (I 0), D.dat (I (w64 ((rs.length : Int) - 1)))] [] [] = some ([D.dat (B g24)], [], [])) ∧ r = ([], [[D.dat (I o), D.own 97 cs, D.own 3 rs, D.dat (I room), D.dat (I nur), D.dat (B free), D.dat (B full), D.dat (Dat.val (Value.string out))]], [])) (q2 : ((!g19) = false) → (decide ((rs.length : Int) = 60) = true) → (den cfg kk 39 [D.dat (I a), D.dat (I 0), D.dat (I (w64 ((rs.length : Int) - 1)))] [] [] = some ([D.dat (B g19)], [], [])) ∧ (den cfg kk 39 [D.dat (I b), D.dat (I 0), D.dat (I (w64 ((rs.length : Int) - 1)))] [] [] = some ([D.dat (B g24)], [], [])) ∧ r = ([], [[D.dat (I o), D.own 97 cs, D.own 3 rs, D.dat (I room), D.dat (I nur), D.dat (B free), D.dat (B full), D.dat (Dat.val (Value.string out))]], [])) (q3 : ((!g19) = false) → (decide ((rs.length : Int) = 60) = false) → ((!c69.l) = true) → (den cfg kk 39 [D.dat (I a), D.dat (I 0), D.dat (I (w64 ((rs.length : Int) - 1)))] [] [] = some ([D.dat (B g19)], [], [])) ∧ (den cfg kk 39 [D.dat (I b), D.dat (I 0), D.dat (I (w64 ((rs.length : Int) - 1)))] [] [] = some ([D.dat (B g24)], [], [])) ∧ (0 ≤ a ∧ a < (rs.length : Int)) ∧ (rs[a.toNat]? = some (I x67)) ∧ (0 ≤ x67 ∧ x67 < (cs.length : Int)) ∧ (cs[x67.toNat]? = some (Dat.agg [B c69.l, I c69.n, I c69.a, I c69.b])) ∧ (rs.length + 1 ≤ 2147483648) ∧ r = ([], [[D.dat (I o), D.own 97 cs, D.own 3 (rs ++ [I c69.a]), D.dat (I room), D.dat (I nur), D.dat (B free), D.dat (B full), D.dat (Dat.val (Value.string out))]], [])) (q4 : ((!g19) = false) → (decide ((rs.length : Int) = 60) = false) → ((!c69.l) = false) → (den cfg kk 39 [D.dat (I a), D.dat (I 0), D.dat (I (w64 ((rs.length : Int) - 1)))] [] [] = some ([D.dat (B g19)], [], [])) ∧ (den cfg kk 39 [D.dat (I b), D.dat (I 0), D.dat (I (w64 ((rs.length : Int) - 1)))] [] [] = some ([D.dat (B g24)], [], [])) ∧ (0 ≤ a ∧ a < (rs.length : Int)) ∧ (rs[a.toNat]? = some (I x67)) ∧ (0 ≤ x67 ∧ x67 < (cs.length : Int)) ∧ (cs[x67.toNat]? = some (Dat.agg [B c69.l, I c69.n, I c69.a, I c69.b])) ∧ r = ([], [[D.dat (I o), D.own 97 cs, D.own 3 rs, D.dat (I room), D.dat (I nur), D.dat (B free), D.dat (B full), D.dat (Dat.val (Value.string out))]], [])) : zam cfg kk (den cfg kk) 78 Go.Proofs.Tryd.f78 [.ptr (.up 0) 0, .dat (N3 3 a b)] [L7 o cs rs room nur free full out] [] = some r := by
 rcases Bool.eq_false_or_eq_true ((!g19)) with d3 | d3
 · obtain ⟨hz1, hz2, oz⟩ := q1 d3
   subst oz; exact zab [(19, .ret [.dat (B g19)]), (24, .ret [.dat (B g24)]), (66, .ok), (67, .at (I x67)), (68, .ok), (69, .at (c69.d)), (87, .ok), (200050, .yes)] (ob hz1 (ob hz2 (ob d3 (ob (rfl : true = true) ob0)))) (by kernel_rfl)
 · rcases Bool.eq_false_or_eq_true (decide ((rs.length : Int) = 60)) with d5 | d5
   · obtain ⟨hz1, hz2, oz⟩ := q2 d3 d5
     subst oz; exact zab [(19, .ret [.dat (B g19)]), (24, .ret [.dat (B g24)]), (66, .ok), (67, .at (I x67)), (68, .ok), (69, .at (c69.d)), (87, .ok), (200050, .no), (200053, .yes)] (ob hz1 (ob hz2 (ob d3 (ob (rfl : false = false) (ob d5 ob0))))) (by kernel_rfl)
   · rcases Bool.eq_false_or_eq_true ((!c69.l)) with d10 | d10
     · obtain ⟨hz1, hz2, hz3, hz4, hz5, hz6, hz7, oz⟩ := q3 d3 d5 d10
       subst oz; exact zab [(19, .ret [.dat (B g19)]), (24, .ret [.dat (B g24)]), (66, .ok), (67, .at (I x67)), (68, .ok), (69, .at (c69.d)), (87, .ok), (200050, .no), (200053, .no), (200073, .yes)] (ob hz1 (ob hz2 (ob d3 (ob (rfl : false = false) (ob d5 (ob hz3 (ob hz4 (ob hz5 (ob hz6 (ob d10 (ob (rfl : true = true) (ob (rfl : true = true) (ob (obT hz7) ob0))))))))))))) (by kernel_rfl)
     · obtain ⟨hz1, hz2, hz3, hz4, hz5, hz6, oz⟩ := q4 d3 d5 d10
       subst oz; exact zab [(19, .ret [.dat (B g19)]), (24, .ret [.dat (B g24)]), (66, .ok), (67, .at (I x67)), (68, .ok), (69, .at (c69.d)), (87, .ok), (200050, .no), (200053, .no), (200073, .no), (200093, .no)] (ob hz1 (ob hz2 (ob d3 (ob (rfl : false = false) (ob d5 (ob hz3 (ob hz4 (ob hz5 (ob hz6 (ob d10 (ob (rfl : false = false) (ob (rfl : false = false) (ob (show (!c69.l) = false from (by simp [d3, d5, d10])) ob0))))))))))))) (by kernel_rfl)
theorem op7_4 (kk : Nat) (o : Int) (cs rs : List Dat) (room nur : Int) (free full : Bool) (out : ByteArray) (a b : Int) (g19 : Bool) (g24 : Bool) (x67 : Int) (c69 : Cl) {r : Res} (q1 : ((!g19) = true) → (den cfg kk 39 [D.dat (I a), D.dat (I 0), D.dat (I (w64 ((rs.length : Int) - 1)))] [] [] = some ([D.dat (B g19)], [], [])) ∧ (den cfg kk 39 [D.dat (I b), D.dat (I 0), D.dat (I (w64 ((rs.length : Int) - 1)))] [] [] = some ([D.dat (B g24)], [], [])) ∧ r = ([], [[D.dat (I o), D.own 97 cs, D.own 3 rs, D.dat (I room), D.dat (I nur), D.dat (B free), D.dat (B full), D.dat (Dat.val (Value.string out))]], [])) (q2 : ((!g19) = false) → (decide ((rs.length : Int) = 60) = true) → (den cfg kk 39 [D.dat (I a), D.dat (I 0), D.dat (I (w64 ((rs.length : Int) - 1)))] [] [] = some ([D.dat (B g19)], [], [])) ∧ (den cfg kk 39 [D.dat (I b), D.dat (I 0), D.dat (I (w64 ((rs.length : Int) - 1)))] [] [] = some ([D.dat (B g24)], [], [])) ∧ r = ([], [[D.dat (I o), D.own 97 cs, D.own 3 rs, D.dat (I room), D.dat (I nur), D.dat (B free), D.dat (B full), D.dat (Dat.val (Value.string out))]], [])) (q3 : ((!g19) = false) → (decide ((rs.length : Int) = 60) = false) → ((!c69.l) = true) → (den cfg kk 39 [D.dat (I a), D.dat (I 0), D.dat (I (w64 ((rs.length : Int) - 1)))] [] [] = some ([D.dat (B g19)], [], [])) ∧ (den cfg kk 39 [D.dat (I b), D.dat (I 0), D.dat (I (w64 ((rs.length : Int) - 1)))] [] [] = some ([D.dat (B g24)], [], [])) ∧ (0 ≤ a ∧ a < (rs.length : Int)) ∧ (rs[a.toNat]? = some (I x67)) ∧ (0 ≤ x67 ∧ x67 < (cs.length : Int)) ∧ (cs[x67.toNat]? = some (Dat.agg [B c69.l, I c69.n, I c69.a, I c69.b])) ∧ (rs.length + 1 ≤ 2147483648) ∧ r = ([], [[D.dat (I o), D.own 97 cs, D.own 3 (rs ++ [I c69.b]), D.dat (I room), D.dat (I nur), D.dat (B free), D.dat (B full), D.dat (Dat.val (Value.string out))]], [])) (q4 : ((!g19) = false) → (decide ((rs.length : Int) = 60) = false) → ((!c69.l) = false) → (den cfg kk 39 [D.dat (I a), D.dat (I 0), D.dat (I (w64 ((rs.length : Int) - 1)))] [] [] = some ([D.dat (B g19)], [], [])) ∧ (den cfg kk 39 [D.dat (I b), D.dat (I 0), D.dat (I (w64 ((rs.length : Int) - 1)))] [] [] = some ([D.dat (B g24)], [], [])) ∧ (0 ≤ a ∧ a < (rs.length : Int)) ∧ (rs[a.toNat]? = some (I x67)) ∧ (0 ≤ x67 ∧ x67 < (cs.length : Int)) ∧ (cs[x67.toNat]? = some (Dat.agg [B c69.l, I c69.n, I c69.a, I c69.b])) ∧ r = ([], [[D.dat (I o), D.own 97 cs, D.own 3 rs, D.dat (I room), D.dat (I nur), D.dat (B free), D.dat (B full), D.dat (Dat.val (Value.string out))]], [])) : zam cfg kk (den cfg kk) 78 Go.Proofs.Tryd.f78 [.ptr (.up 0) 0, .dat (N3 4 a b)] [L7 o cs rs room nur free full out] [] = some r := by
 rcases Bool.eq_false_or_eq_true ((!g19)) with d3 | d3
 · obtain ⟨hz1, hz2, oz⟩ := q1 d3
   subst oz; exact zab [(19, .ret [.dat (B g19)]), (24, .ret [.dat (B g24)]), (66, .ok), (67, .at (I x67)), (68, .ok), (69, .at (c69.d)), (103, .ok), (200050, .yes)] (ob hz1 (ob hz2 (ob d3 (ob (rfl : true = true) ob0)))) (by kernel_rfl)
 · rcases Bool.eq_false_or_eq_true (decide ((rs.length : Int) = 60)) with d5 | d5
   · obtain ⟨hz1, hz2, oz⟩ := q2 d3 d5
     subst oz; exact zab [(19, .ret [.dat (B g19)]), (24, .ret [.dat (B g24)]), (66, .ok), (67, .at (I x67)), (68, .ok), (69, .at (c69.d)), (103, .ok), (200050, .no), (200053, .yes)] (ob hz1 (ob hz2 (ob d3 (ob (rfl : false = false) (ob d5 ob0))))) (by kernel_rfl)
   · rcases Bool.eq_false_or_eq_true ((!c69.l)) with d10 | d10
     · obtain ⟨hz1, hz2, hz3, hz4, hz5, hz6, hz7, oz⟩ := q3 d3 d5 d10
       subst oz; exact zab [(19, .ret [.dat (B g19)]), (24, .ret [.dat (B g24)]), (66, .ok), (67, .at (I x67)), (68, .ok), (69, .at (c69.d)), (103, .ok), (200050, .no), (200053, .no), (200073, .yes), (200093, .yes)] (ob hz1 (ob hz2 (ob d3 (ob (rfl : false = false) (ob d5 (ob hz3 (ob hz4 (ob hz5 (ob hz6 (ob d10 (ob (rfl : true = true) (ob (rfl : true = true) (ob (show (!c69.l) = true from (by simp [d3, d5, d10])) (ob (obT hz7) ob0)))))))))))))) (by kernel_rfl)
     · obtain ⟨hz1, hz2, hz3, hz4, hz5, hz6, oz⟩ := q4 d3 d5 d10
       subst oz; exact zab [(19, .ret [.dat (B g19)]), (24, .ret [.dat (B g24)]), (66, .ok), (67, .at (I x67)), (68, .ok), (69, .at (c69.d)), (103, .ok), (200050, .no), (200053, .no), (200073, .no), (200093, .no)] (ob hz1 (ob hz2 (ob d3 (ob (rfl : false = false) (ob d5 (ob hz3 (ob hz4 (ob hz5 (ob hz6 (ob d10 (ob (rfl : false = false) (ob (rfl : false = false) (ob (show (!c69.l) = false from (by simp [d3, d5, d10])) ob0))))))))))))) (by kernel_rfl)
theorem op7_5 (kk : Nat) (o : Int) (cs rs : List Dat) (room nur : Int) (free full : Bool) (out : ByteArray) (a b : Int) (g19 : Bool) (g24 : Bool) {r : Res} (q1 : (g19 = true) → (den cfg kk 39 [D.dat (I a), D.dat (I 0), D.dat (I (w64 ((rs.length : Int) - 1)))] [] [] = some ([D.dat (B g19)], [], [])) ∧ (den cfg kk 39 [D.dat (I b), D.dat (I 0), D.dat (I (w64 ((rs.length : Int) - 1)))] [] [] = some ([D.dat (B g24)], [], [])) ∧ (0 ≤ a ∧ a ≤ (rs.length : Int)) ∧ (0 ≤ w64 (a + 1) ∧ w64 (a + 1) ≤ (rs.length : Int)) ∧ (((List.take a.toNat rs).all fun d => d.cells.length.beq (TI.mk (TK.int IntKind.i64) 1 8 [] [D.dat (I 0)]).sz) = true ∧ 0 + (List.take a.toNat rs).length ≤ 2147483648) ∧ (((List.drop (w64 (a + 1)).toNat rs).all fun d => d.cells.length.beq (TI.mk (TK.int IntKind.i64) 1 8 [] [D.dat (I 0)]).sz) = true ∧ ([] ++ List.take a.toNat rs).length + (List.drop (w64 (a + 1)).toNat rs).length ≤ 2147483648) ∧ r = ([], [[D.dat (I o), D.own 97 cs, D.own 3 ([] ++ List.take a.toNat rs ++ List.drop (w64 (a + 1)).toNat rs), D.dat (I room), D.dat (I nur), D.dat (B free), D.dat (B full), D.dat (Dat.val (Value.string out))]], [])) (q2 : (g19 = false) → (den cfg kk 39 [D.dat (I a), D.dat (I 0), D.dat (I (w64 ((rs.length : Int) - 1)))] [] [] = some ([D.dat (B g19)], [], [])) ∧ (den cfg kk 39 [D.dat (I b), D.dat (I 0), D.dat (I (w64 ((rs.length : Int) - 1)))] [] [] = some ([D.dat (B g24)], [], [])) ∧ r = ([], [[D.dat (I o), D.own 97 cs, D.own 3 rs, D.dat (I room), D.dat (I nur), D.dat (B free), D.dat (B full), D.dat (Dat.val (Value.string out))]], [])) : zam cfg kk (den cfg kk) 78 Go.Proofs.Tryd.f78 [.ptr (.up 0) 0, .dat (N3 5 a b)] [L7 o cs rs room nur free full out] [] = some r := by
 rcases Bool.eq_false_or_eq_true (g19) with d3 | d3
 · obtain ⟨hz1, hz2, hz3, hz4, hz5, hz6, oz⟩ := q1 d3
   subst oz; exact zab [(19, .ret [.dat (B g19)]), (24, .ret [.dat (B g24)]), (119, .ok), (129, .ok), (120, .ok), (130, .ok), (200109, .yes)] (ob hz1 (ob hz2 (ob d3 (ob hz3 (ob hz4 (ob hz5 (ob hz6 ob0))))))) (by kernel_rfl)
 · obtain ⟨hz1, hz2, oz⟩ := q2 d3
   subst oz; exact zab [(19, .ret [.dat (B g19)]), (24, .ret [.dat (B g24)]), (119, .ok), (129, .ok), (120, .ok), (130, .ok), (200109, .no)] (ob hz1 (ob hz2 (ob d3 ob0))) (by kernel_rfl)
theorem op7_6 (kk : Nat) (o : Int) (cs rs : List Dat) (room nur : Int) (free full : Bool) (out : ByteArray) (a b : Int) (g19 : Bool) (g24 : Bool) (x150 : Int) (s151 : ByteArray) {r : Res} (q1 : (g19 = true) → (decide (500 < (s151.size : Int)) = true) → (den cfg kk 39 [D.dat (I a), D.dat (I 0), D.dat (I (w64 ((rs.length : Int) - 1)))] [] [] = some ([D.dat (B g19)], [], [])) ∧ (den cfg kk 39 [D.dat (I b), D.dat (I 0), D.dat (I (w64 ((rs.length : Int) - 1)))] [] [] = some ([D.dat (B g24)], [], [])) ∧ (0 ≤ a ∧ a < (rs.length : Int)) ∧ (rs[a.toNat]? = some (I x150)) ∧ (den cfg kk 100 [D.dat (Dat.lst true cs), D.dat (I x150)] [] [] = some ([D.dat (Dat.val (Value.string s151))], [], [])) ∧ (5 ≤ 9223372036854775807) ∧ (out.size + 5 ≤ 9223372036854775807) ∧ r = ([], [[D.dat (I o), D.own 97 cs, D.own 3 rs, D.dat (I room), D.dat (I nur), D.dat (B free), D.dat (B full), D.dat (Dat.val (Value.string (out ++ (ByteArray.mk #[108, 111, 110, 103] ++ ByteArray.mk #[10]))))]], [])) (q2 : (g19 = true) → (decide (500 < (s151.size : Int)) = false) → (den cfg kk 39 [D.dat (I a), D.dat (I 0), D.dat (I (w64 ((rs.length : Int) - 1)))] [] [] = some ([D.dat (B g19)], [], [])) ∧ (den cfg kk 39 [D.dat (I b), D.dat (I 0), D.dat (I (w64 ((rs.length : Int) - 1)))] [] [] = some ([D.dat (B g24)], [], [])) ∧ (0 ≤ a ∧ a < (rs.length : Int)) ∧ (rs[a.toNat]? = some (I x150)) ∧ (den cfg kk 100 [D.dat (Dat.lst true cs), D.dat (I x150)] [] [] = some ([D.dat (Dat.val (Value.string s151))], [], [])) ∧ (s151.size + 1 ≤ 9223372036854775807) ∧ (out.size + (s151 ++ ByteArray.mk #[10]).size ≤ 9223372036854775807) ∧ r = ([], [[D.dat (I o), D.own 97 cs, D.own 3 rs, D.dat (I room), D.dat (I nur), D.dat (B free), D.dat (B full), D.dat (Dat.val (Value.string (out ++ (s151 ++ ByteArray.mk #[10]))))]], [])) (q3 : (g19 = false) → (den cfg kk 39 [D.dat (I a), D.dat (I 0), D.dat (I (w64 ((rs.length : Int) - 1)))] [] [] = some ([D.dat (B g19)], [], [])) ∧ (den cfg kk 39 [D.dat (I b), D.dat (I 0), D.dat (I (w64 ((rs.length : Int) - 1)))] [] [] = some ([D.dat (B g24)], [], [])) ∧ r = ([], [[D.dat (I o), D.own 97 cs, D.own 3 rs, D.dat (I room), D.dat (I nur), D.dat (B free), D.dat (B full), D.dat (Dat.val (Value.string out))]], [])) : zam cfg kk (den cfg kk) 78 Go.Proofs.Tryd.f78 [.ptr (.up 0) 0, .dat (N3 6 a b)] [L7 o cs rs room nur free full out] [] = some r := by
 rcases Bool.eq_false_or_eq_true (g19) with d3 | d3
 · rcases Bool.eq_false_or_eq_true (decide (500 < (s151.size : Int))) with d8 | d8
   · obtain ⟨hz1, hz2, hz3, hz4, hz5, hz6, hz7, oz⟩ := q1 d3 d8
     subst oz; exact zab [(19, .ret [.dat (B g19)]), (24, .ret [.dat (B g24)]), (149, .ok), (150, .at (I x150)), (151, .ret [.dat (S s151)]), (161, .ok), (160, .ok), (200136, .yes), (200154, .yes)] (ob hz1 (ob hz2 (ob d3 (ob hz3 (ob hz4 (ob (rfl : true = true) (ob hz5 (ob d8 (ob hz6 (ob hz7 ob0)))))))))) (by kernel_rfl)
   · obtain ⟨hz1, hz2, hz3, hz4, hz5, hz6, hz7, oz⟩ := q2 d3 d8
     subst oz; exact zab [(19, .ret [.dat (B g19)]), (24, .ret [.dat (B g24)]), (149, .ok), (150, .at (I x150)), (151, .ret [.dat (S s151)]), (161, .ok), (160, .ok), (200136, .yes), (200154, .no)] (ob hz1 (ob hz2 (ob d3 (ob hz3 (ob hz4 (ob (rfl : true = true) (ob hz5 (ob d8 (ob hz6 (ob hz7 ob0)))))))))) (by kernel_rfl)
 · obtain ⟨hz1, hz2, oz⟩ := q3 d3
   subst oz; exact zab [(19, .ret [.dat (B g19)]), (24, .ret [.dat (B g24)]), (149, .ok), (150, .at (I x150)), (151, .ret [.dat (S s151)]), (161, .ok), (160, .ok), (200136, .no)] (ob hz1 (ob hz2 (ob d3 ob0))) (by kernel_rfl)
theorem op7_7 (kk : Nat) (o : Int) (cs rs : List Dat) (room nur : Int) (free full : Bool) (out : ByteArray) (a b : Int) (g19 : Bool) (g24 : Bool) (x179 : Int) (x188 : Int) {r : Res} (q1 : (g19 = true) → (g24 = true) → (decide (x179 = x188) = true) → (den cfg kk 39 [D.dat (I a), D.dat (I 0), D.dat (I (w64 ((rs.length : Int) - 1)))] [] [] = some ([D.dat (B g19)], [], [])) ∧ (den cfg kk 39 [D.dat (I b), D.dat (I 0), D.dat (I (w64 ((rs.length : Int) - 1)))] [] [] = some ([D.dat (B g24)], [], [])) ∧ (0 ≤ a ∧ a < (rs.length : Int)) ∧ (rs[a.toNat]? = some (I x179)) ∧ (0 ≤ b ∧ b < (rs.length : Int)) ∧ (rs[b.toNat]? = some (I x188)) ∧ (out.size + 5 ≤ 9223372036854775807) ∧ r = ([], [[D.dat (I o), D.own 97 cs, D.own 3 rs, D.dat (I room), D.dat (I nur), D.dat (B free), D.dat (B full), D.dat (Dat.val (Value.string (out ++ ByteArray.mk #[115, 97, 109, 101, 10])))]], [])) (q2 : (g19 = true) → (g24 = true) → (decide (x179 = x188) = false) → (den cfg kk 39 [D.dat (I a), D.dat (I 0), D.dat (I (w64 ((rs.length : Int) - 1)))] [] [] = some ([D.dat (B g19)], [], [])) ∧ (den cfg kk 39 [D.dat (I b), D.dat (I 0), D.dat (I (w64 ((rs.length : Int) - 1)))] [] [] = some ([D.dat (B g24)], [], [])) ∧ (0 ≤ a ∧ a < (rs.length : Int)) ∧ (rs[a.toNat]? = some (I x179)) ∧ (0 ≤ b ∧ b < (rs.length : Int)) ∧ (rs[b.toNat]? = some (I x188)) ∧ (out.size + 6 ≤ 9223372036854775807) ∧ r = ([], [[D.dat (I o), D.own 97 cs, D.own 3 rs, D.dat (I room), D.dat (I nur), D.dat (B free), D.dat (B full), D.dat (Dat.val (Value.string (out ++ ByteArray.mk #[111, 116, 104, 101, 114, 10])))]], [])) (q3 : (g19 = true) → (g24 = false) → (den cfg kk 39 [D.dat (I a), D.dat (I 0), D.dat (I (w64 ((rs.length : Int) - 1)))] [] [] = some ([D.dat (B g19)], [], [])) ∧ (den cfg kk 39 [D.dat (I b), D.dat (I 0), D.dat (I (w64 ((rs.length : Int) - 1)))] [] [] = some ([D.dat (B g24)], [], [])) ∧ r = ([], [[D.dat (I o), D.own 97 cs, D.own 3 rs, D.dat (I room), D.dat (I nur), D.dat (B free), D.dat (B full), D.dat (Dat.val (Value.string out))]], [])) (q4 : (g19 = false) → (den cfg kk 39 [D.dat (I a), D.dat (I 0), D.dat (I (w64 ((rs.length : Int) - 1)))] [] [] = some ([D.dat (B g19)], [], [])) ∧ (den cfg kk 39 [D.dat (I b), D.dat (I 0), D.dat (I (w64 ((rs.length : Int) - 1)))] [] [] = some ([D.dat (B g24)], [], [])) ∧ r = ([], [[D.dat (I o), D.own 97 cs, D.own 3 rs, D.dat (I room), D.dat (I nur), D.dat (B free), D.dat (B full), D.dat (Dat.val (Value.string out))]], [])) : zam cfg kk (den cfg kk) 78 Go.Proofs.Tryd.f78 [.ptr (.up 0) 0, .dat (N3 7 a b)] [L7 o cs rs room nur free full out] [] = some r := by
 rcases Bool.eq_false_or_eq_true (g19) with d3 | d3
 · rcases Bool.eq_false_or_eq_true (g24) with d4 | d4
   · rcases Bool.eq_false_or_eq_true (decide (x179 = x188)) with d27 | d27
     · obtain ⟨hz1, hz2, hz3, hz4, hz5, hz6, hz7, oz⟩ := q1 d3 d4 d27
       subst oz; exact zab [(19, .ret [.dat (B g19)]), (24, .ret [.dat (B g24)]), (178, .ok), (179, .at (I x179)), (187, .ok), (188, .at (I x188)), (195, .ok), (206, .ok), (200167, .yes), (200170, .yes), (200190, .yes)] (ob hz1 (ob hz2 (ob d3 (ob d4 (ob (rfl : true = true) (ob (rfl : true = true) (ob (rfl : true = true) (ob (rfl : true = true) (ob (rfl : true = true) (ob (rfl : true = true) (ob (rfl : true = true) (ob hz3 (ob (rfl : true = true) (ob hz4 (ob (rfl : true = true) (ob (rfl : true = true) (ob (rfl : true = true) (ob (rfl : true = true) (ob (rfl : true = true) (ob (rfl : true = true) (ob (rfl : true = true) (ob (rfl : true = true) (ob hz5 (ob (rfl : true = true) (ob hz6 (ob (rfl : true = true) (ob d27 (ob hz7 ob0)))))))))))))))))))))))))))) (by kernel_rfl)
     · obtain ⟨hz1, hz2, hz3, hz4, hz5, hz6, hz7, oz⟩ := q2 d3 d4 d27
       subst oz; exact zab [(19, .ret [.dat (B g19)]), (24, .ret [.dat (B g24)]), (178, .ok), (179, .at (I x179)), (187, .ok), (188, .at (I x188)), (195, .ok), (206, .ok), (200167, .yes), (200170, .yes), (200190, .no), (200199, .yes), (200201, .yes)] (ob hz1 (ob hz2 (ob d3 (ob d4 (ob (rfl : true = true) (ob (rfl : true = true) (ob (rfl : true = true) (ob (rfl : true = true) (ob (rfl : true = true) (ob (rfl : true = true) (ob (rfl : true = true) (ob hz3 (ob (rfl : true = true) (ob hz4 (ob (rfl : true = true) (ob (rfl : true = true) (ob (rfl : true = true) (ob (rfl : true = true) (ob (rfl : true = true) (ob (rfl : true = true) (ob (rfl : true = true) (ob (rfl : true = true) (ob hz5 (ob (rfl : true = true) (ob hz6 (ob (rfl : true = true) (ob d27 (ob (show g19 = true from (by simp [d3, d4, d27])) (ob (show g24 = true from (by simp [d3, d4, d27])) (ob hz7 ob0)))))))))))))))))))))))))))))) (by kernel_rfl)
   · obtain ⟨hz1, hz2, oz⟩ := q3 d3 d4
     subst oz; exact zab [(19, .ret [.dat (B g19)]), (24, .ret [.dat (B g24)]), (178, .ok), (179, .at (I x179)), (187, .ok), (188, .at (I x188)), (195, .ok), (206, .ok), (200167, .yes), (200170, .no), (200199, .yes), (200201, .no)] (ob hz1 (ob hz2 (ob d3 (ob d4 (ob (rfl : false = false) (ob (rfl : false = false) (ob (rfl : false = false) (ob (rfl : false = false) (ob (rfl : false = false) (ob (rfl : false = false) (ob (rfl : false = false) (ob (rfl : false = false) (ob (rfl : false = false) (ob (rfl : false = false) (ob (rfl : false = false) (ob (rfl : false = false) (ob (rfl : false = false) (ob (rfl : false = false) (ob (rfl : false = false) (ob (rfl : false = false) (ob (rfl : false = false) (ob (rfl : false = false) (ob (show g19 = true from (by simp [d3, d4])) (ob (show g24 = false from (by simp [d3, d4])) ob0)))))))))))))))))))))))) (by kernel_rfl)
 · obtain ⟨hz1, hz2, oz⟩ := q4 d3
   subst oz; exact zab [(19, .ret [.dat (B g19)]), (24, .ret [.dat (B g24)]), (178, .ok), (179, .at (I x179)), (187, .ok), (188, .at (I x188)), (195, .ok), (206, .ok), (200167, .no), (200199, .no)] (ob hz1 (ob hz2 (ob d3 (ob (show g19 = false from (by simp [d3])) ob0)))) (by kernel_rfl)
theorem op7_8 (kk : Nat) (o : Int) (cs rs : List Dat) (room nur : Int) (free full : Bool) (out : ByteArray) (a b : Int) (oa : Int) (ca ra : List Dat) (g19 : Bool) (g24 : Bool) {r : Res} (q1 : ((!free) = true) → (den cfg kk 39 [D.dat (I a), D.dat (I 0), D.dat (I (w64 ((rs.length : Int) - 1)))] [] [] = some ([D.dat (B g19)], [], [])) ∧ (den cfg kk 39 [D.dat (I b), D.dat (I 0), D.dat (I (w64 ((rs.length : Int) - 1)))] [] [] = some ([D.dat (B g24)], [], [])) ∧ (D.cleans [D.seq false [D.dat (I oa), D.own 97 ca, D.own 3 ra]] = true) ∧ (den cfg kk 101 [D.dat (Dat.agg [I o, Dat.lst true cs, Dat.lst true rs])] [] [] = some ([D.seq false [D.dat (I oa), D.own 97 ca, D.own 3 ra]], [], [])) ∧ r = ([], [[D.dat (I oa), D.own 97 ca, D.own 3 ra, D.dat (I room), D.dat (I nur), D.dat (B free), D.dat (B full), D.dat (Dat.val (Value.string out))]], [])) (q2 : ((!free) = false) → (den cfg kk 39 [D.dat (I a), D.dat (I 0), D.dat (I (w64 ((rs.length : Int) - 1)))] [] [] = some ([D.dat (B g19)], [], [])) ∧ (den cfg kk 39 [D.dat (I b), D.dat (I 0), D.dat (I (w64 ((rs.length : Int) - 1)))] [] [] = some ([D.dat (B g24)], [], [])) ∧ r = ([], [[D.dat (I o), D.own 97 cs, D.own 3 rs, D.dat (I room), D.dat (I nur), D.dat (B free), D.dat (B full), D.dat (Dat.val (Value.string out))]], [])) : zam cfg kk (den cfg kk) 78 Go.Proofs.Tryd.f78 [.ptr (.up 0) 0, .dat (N3 8 a b)] [L7 o cs rs room nur free full out] [] = some r := by
 rcases Bool.eq_false_or_eq_true ((!free)) with d3 | d3
 · obtain ⟨hz1, hz2, hz3, hz4, oz⟩ := q1 d3
   subst oz; exact zab [(221, .ret [.seq false [.dat (I oa), .own 97 ca, .own 3 ra]]), (236, .ret [.seq false [.dat (I oa), .own 97 ca, .own 3 ra]]), (19, .ret [.dat (B g19)]), (24, .ret [.dat (B g24)]), (200215, .yes)] (ob hz1 (ob hz2 (ob d3 (ob hz3 (ob hz4 ob0))))) (by kernel_rfl)
 · obtain ⟨hz1, hz2, oz⟩ := q2 d3
   subst oz; exact zab [(221, .ret [.seq false [.dat (I oa), .own 97 ca, .own 3 ra]]), (236, .ret [.seq false [.dat (I oa), .own 97 ca, .own 3 ra]]), (19, .ret [.dat (B g19)]), (24, .ret [.dat (B g24)]), (200215, .no)] (ob hz1 (ob hz2 (ob d3 ob0))) (by kernel_rfl)
theorem op7_9 (kk : Nat) (o : Int) (cs rs : List Dat) (room nur : Int) (free full : Bool) (out : ByteArray) (a b : Int) (oa : Int) (ca ra : List Dat) (g19 : Bool) (g24 : Bool) {r : Res} (q1 : ((!free) = true) → (den cfg kk 39 [D.dat (I a), D.dat (I 0), D.dat (I (w64 ((rs.length : Int) - 1)))] [] [] = some ([D.dat (B g19)], [], [])) ∧ (den cfg kk 39 [D.dat (I b), D.dat (I 0), D.dat (I (w64 ((rs.length : Int) - 1)))] [] [] = some ([D.dat (B g24)], [], [])) ∧ (D.cleans [D.seq false [D.dat (I oa), D.own 97 ca, D.own 3 ra]] = true) ∧ (den cfg kk 102 [D.dat (Dat.agg [I o, Dat.lst true cs, Dat.lst true rs])] [] [] = some ([D.seq false [D.dat (I oa), D.own 97 ca, D.own 3 ra]], [], [])) ∧ r = ([], [[D.dat (I oa), D.own 97 ca, D.own 3 ra, D.dat (I room), D.dat (I nur), D.dat (B free), D.dat (B full), D.dat (Dat.val (Value.string out))]], [])) (q2 : ((!free) = false) → (den cfg kk 39 [D.dat (I a), D.dat (I 0), D.dat (I (w64 ((rs.length : Int) - 1)))] [] [] = some ([D.dat (B g19)], [], [])) ∧ (den cfg kk 39 [D.dat (I b), D.dat (I 0), D.dat (I (w64 ((rs.length : Int) - 1)))] [] [] = some ([D.dat (B g24)], [], [])) ∧ r = ([], [[D.dat (I o), D.own 97 cs, D.own 3 rs, D.dat (I room), D.dat (I nur), D.dat (B free), D.dat (B full), D.dat (Dat.val (Value.string out))]], [])) : zam cfg kk (den cfg kk) 78 Go.Proofs.Tryd.f78 [.ptr (.up 0) 0, .dat (N3 9 a b)] [L7 o cs rs room nur free full out] [] = some r := by
 rcases Bool.eq_false_or_eq_true ((!free)) with d3 | d3
 · obtain ⟨hz1, hz2, hz3, hz4, oz⟩ := q1 d3
   subst oz; exact zab [(221, .ret [.seq false [.dat (I oa), .own 97 ca, .own 3 ra]]), (236, .ret [.seq false [.dat (I oa), .own 97 ca, .own 3 ra]]), (19, .ret [.dat (B g19)]), (24, .ret [.dat (B g24)]), (200230, .yes)] (ob hz1 (ob hz2 (ob d3 (ob hz3 (ob hz4 ob0))))) (by kernel_rfl)
 · obtain ⟨hz1, hz2, oz⟩ := q2 d3
   subst oz; exact zab [(221, .ret [.seq false [.dat (I oa), .own 97 ca, .own 3 ra]]), (236, .ret [.seq false [.dat (I oa), .own 97 ca, .own 3 ra]]), (19, .ret [.dat (B g19)]), (24, .ret [.dat (B g24)]), (200230, .no)] (ob hz1 (ob hz2 (ob d3 ob0))) (by kernel_rfl)
theorem op7_o (kk : Nat) (o : Int) (cs rs : List Dat) (room nur : Int) (free full : Bool) (out : ByteArray) (k a b : Int) (g19 g24 : Bool) (h1 : den cfg kk 39 [D.dat (I a), D.dat (I 0), D.dat (I (w64 ((rs.length : Int) - 1)))] [] [] = some ([D.dat (B g19)], [], [])) (h2 : den cfg kk 39 [D.dat (I b), D.dat (I 0), D.dat (I (w64 ((rs.length : Int) - 1)))] [] [] = some ([D.dat (B g24)], [], [])) (h3 : decide (k = 1) = false) (h4 : decide (k = 2) = false) (h5 : decide (k = 3) = false) (h6 : decide (k = 4) = false) (h7 : decide (k = 5) = false) (h8 : decide (k = 6) = false) (h9 : decide (k = 7) = false) (h10 : decide (k = 8) = false) (h11 : decide (k = 9) = false) : zam cfg kk (den cfg kk) 78 Go.Proofs.Tryd.f78 [.ptr (.up 0) 0, .dat (N3 k a b)] [L7 o cs rs room nur free full out] [] = some ([], [[D.dat (I o), D.own 97 cs, D.own 3 rs, D.dat (I room), D.dat (I nur), D.dat (B free), D.dat (B full), D.dat (Dat.val (Value.string out))]], []) :=
 zab [(19, .ret [.dat (B g19)]), (24, .ret [.dat (B g24)]), (200027, .no), (200033, .no), (200045, .no), (200107, .no), (200134, .no), (200164, .no), (200209, .no), (200224, .no)] (ob h1 (ob h2 (ob h3 (ob h4 (ob h5 (ob h6 (ob h7 (ob h8 (ob h9 (ob h10 (ob h11 ob0))))))))))) (by kernel_rfl)
theorem root7 (kk : Nat) (o : Int) (cs rs bs : List Dat) (room nur : Int) (full : Bool) (at_ : Int) (g13 : Bool) (x22 : Int) {r : Res} (q1 : ((!g13) = true) → (den cfg kk 43 [D.dat (I at_), D.dat (I (rs.length : Int))] [] [] = some ([D.dat (B g13)], [], [])) ∧ r = ([D.dat (I 0), D.dat (B false)], [[D.dat (I o), D.own 97 cs, D.own 3 rs, D.own 5 bs, D.dat (I room), D.dat (I nur), D.dat (B full)]], [])) (q2 : ((!g13) = false) → (den cfg kk 43 [D.dat (I at_), D.dat (I (rs.length : Int))] [] [] = some ([D.dat (B g13)], [], [])) ∧ (0 ≤ at_ ∧ at_ < (rs.length : Int)) ∧ (rs[at_.toNat]? = some (I x22)) ∧ r = ([D.dat (I x22), D.dat (B true)], [[D.dat (I o), D.own 97 cs, D.own 3 rs, D.own 5 bs, D.dat (I room), D.dat (I nur), D.dat (B full)]], [])) : zam cfg kk (den cfg kk) 103 Go.Proofs.Tryd.f103 [.ptr (.up 0) 0, .dat (I at_)] [P7 o cs rs bs room nur full] [] = some r := by
 rcases Bool.eq_false_or_eq_true ((!g13)) with d2 | d2
 · obtain ⟨hz1, oz⟩ := q1 d2
   subst oz; exact zab [(13, .ret [.dat (B g13)]), (21, .ok), (22, .at (I x22)), (200014, .yes)] (ob hz1 (ob d2 ob0)) (by kernel_rfl)
 · obtain ⟨hz1, hz2, hz3, oz⟩ := q2 d2
   subst oz; exact zab [(13, .ret [.dat (B g13)]), (21, .ok), (22, .at (I x22)), (200014, .no)] (ob hz1 (ob d2 (ob hz2 (ob hz3 ob0)))) (by kernel_rfl)
theorem may7 (kk : Nat) (o : Int) (cs rs bs : List Dat) (room nur : Int) (full : Bool) {r : Res} (q1 : r = ([D.dat (B (decide ((rs.length : Int) < 60)))], [[D.dat (I o), D.own 97 cs, D.own 3 rs, D.own 5 bs, D.dat (I room), D.dat (I nur), D.dat (B full)]], [])) : zam cfg kk (den cfg kk) 104 Go.Proofs.Tryd.f104 [.ptr (.up 0) 0] [P7 o cs rs bs room nur full] [] = some r := by
 have oz := q1
 subst oz; exact zab [] ob0 (by kernel_rfl)
theorem zpA (kk : Nat) (o : Int) (cs rs bs : List Dat) (room nur : Int) (full : Bool) (oa : Int) (ca ra : List Dat) (ob_ : Int) (cb rb : List Dat) {r : Res} (q1 : (decide (room < 0) = true) → r = ([D.dat (B true)], [[D.dat (I o), D.own 97 cs, D.own 3 rs, D.own 5 bs, D.dat (I room), D.dat (I nur), D.dat (B full)]], [])) (q2 : (decide (room < 0) = false) → (decide (nur ≤ w64 ((cs.length : Int) - o)) = true) → (decide (room ≤ (ca.length : Int)) = true) → (D.cleans [D.seq false [D.dat (I oa), D.own 97 ca, D.own 3 ra]] = true) ∧ (den cfg kk 113 [D.dat (Dat.agg [I o, Dat.lst true cs, Dat.lst true rs])] [] [] = some ([D.seq false [D.dat (I oa), D.own 97 ca, D.own 3 ra]], [], [])) ∧ (D.cleans [D.seq false [D.dat (I ob_), D.own 97 cb, D.own 3 rb]] = true) ∧ (den cfg kk 112 [D.dat (Dat.agg [I oa, Dat.lst true ca, Dat.lst true ra])] [] [] = some ([D.seq false [D.dat (I ob_), D.own 97 cb, D.own 3 rb]], [], [])) ∧ r = ([D.dat (B !decide (room ≤ (cb.length : Int)))], [[D.dat (I ob_), D.own 97 cb, D.own 3 rb, D.own 5 bs, D.dat (I room), D.dat (I nur), D.dat (B (decide (room ≤ (cb.length : Int))))]], [])) (q3 : (decide (room < 0) = false) → (decide (nur ≤ w64 ((cs.length : Int) - o)) = true) → (decide (room ≤ (ca.length : Int)) = false) → (D.cleans [D.seq false [D.dat (I oa), D.own 97 ca, D.own 3 ra]] = true) ∧ (den cfg kk 113 [D.dat (Dat.agg [I o, Dat.lst true cs, Dat.lst true rs])] [] [] = some ([D.seq false [D.dat (I oa), D.own 97 ca, D.own 3 ra]], [], [])) ∧ r = ([D.dat (B !decide (room ≤ (ca.length : Int)))], [[D.dat (I oa), D.own 97 ca, D.own 3 ra, D.own 5 bs, D.dat (I room), D.dat (I nur), D.dat (B (decide (room ≤ (ca.length : Int))))]], [])) (q4 : (decide (room < 0) = false) → (decide (nur ≤ w64 ((cs.length : Int) - o)) = false) → (decide (room ≤ (cs.length : Int)) = true) → (D.cleans [D.seq false [D.dat (I ob_), D.own 97 cb, D.own 3 rb]] = true) ∧ (den cfg kk 112 [D.dat (Dat.agg [I o, Dat.lst true cs, Dat.lst true rs])] [] [] = some ([D.seq false [D.dat (I ob_), D.own 97 cb, D.own 3 rb]], [], [])) ∧ r = ([D.dat (B !decide (room ≤ (cb.length : Int)))], [[D.dat (I ob_), D.own 97 cb, D.own 3 rb, D.own 5 bs, D.dat (I room), D.dat (I nur), D.dat (B (decide (room ≤ (cb.length : Int))))]], [])) (q5 : (decide (room < 0) = false) → (decide (nur ≤ w64 ((cs.length : Int) - o)) = false) → (decide (room ≤ (cs.length : Int)) = false) → r = ([D.dat (B !decide (room ≤ (cs.length : Int)))], [[D.dat (I o), D.own 97 cs, D.own 3 rs, D.own 5 bs, D.dat (I room), D.dat (I nur), D.dat (B (decide (room ≤ (cs.length : Int))))]], [])) : zam cfg kk (den cfg kk) 105 Go.Proofs.Tryd.f105 [.ptr (.up 0) 0] [P7 o cs rs bs room nur full] [] = some r := by
 rcases Bool.eq_false_or_eq_true (decide (room < 0)) with d1 | d1
 · have oz := q1 d1
   subst oz; exact zab [(30, .ret [.seq false [.dat (I oa), .own 97 ca, .own 3 ra]]), (49, .ret [.seq false [.dat (I ob_), .own 97 cb, .own 3 rb]]), (200007, .yes)] (ob d1 ob0) (by kernel_rfl)
 · rcases Bool.eq_false_or_eq_true (decide (nur ≤ w64 ((cs.length : Int) - o))) with d2 | d2
   · rcases Bool.eq_false_or_eq_true (decide (room ≤ (ca.length : Int))) with d5 | d5
     · obtain ⟨hz1, hz2, hz3, hz4, oz⟩ := q2 d1 d2 d5
       subst oz; exact zab [(30, .ret [.seq false [.dat (I oa), .own 97 ca, .own 3 ra]]), (49, .ret [.seq false [.dat (I ob_), .own 97 cb, .own 3 rb]]), (200007, .no), (200024, .yes), (200043, .yes)] (ob d1 (ob d2 (ob hz1 (ob hz2 (ob d5 (ob hz3 (ob hz4 ob0))))))) (by kernel_rfl)
     · obtain ⟨hz1, hz2, oz⟩ := q3 d1 d2 d5
       subst oz; exact zab [(30, .ret [.seq false [.dat (I oa), .own 97 ca, .own 3 ra]]), (49, .ret [.seq false [.dat (I ob_), .own 97 cb, .own 3 rb]]), (200007, .no), (200024, .yes), (200043, .no)] (ob d1 (ob d2 (ob hz1 (ob hz2 (ob d5 ob0))))) (by kernel_rfl)
   · rcases Bool.eq_false_or_eq_true (decide (room ≤ (cs.length : Int))) with d3 | d3
     · obtain ⟨hz1, hz2, oz⟩ := q4 d1 d2 d3
       subst oz; exact zab [(30, .ret [.seq false [.dat (I oa), .own 97 ca, .own 3 ra]]), (49, .ret [.seq false [.dat (I ob_), .own 97 cb, .own 3 rb]]), (200007, .no), (200024, .no), (200043, .yes)] (ob d1 (ob d2 (ob d3 (ob hz1 (ob hz2 ob0))))) (by kernel_rfl)
     · have oz := q5 d1 d2 d3
       subst oz; exact zab [(30, .ret [.seq false [.dat (I oa), .own 97 ca, .own 3 ra]]), (49, .ret [.seq false [.dat (I ob_), .own 97 cb, .own 3 rb]]), (200007, .no), (200024, .no), (200043, .no)] (ob d1 (ob d2 (ob d3 ob0))) (by kernel_rfl)
theorem put7 (kk : Nat) (o : Int) (cs rs bs : List Dat) (room nur : Int) (full : Bool) (c : Cl) {r : Res} (q1 : (rs.length + 1 ≤ 2147483648) ∧ (cs.length + 1 ≤ 2147483648) ∧ r = ([], [[D.dat (I o), D.own 97 (cs ++ [Dat.agg [B c.l, I c.n, I c.a, I c.b]]), D.own 3 (rs ++ [I (cs.length : Int)]), D.own 5 bs, D.dat (I room), D.dat (I nur), D.dat (B full)]], [])) : zam cfg kk (den cfg kk) 106 Go.Proofs.Tryd.f106 [.ptr (.up 0) 0, .dat (c.d)] [P7 o cs rs bs room nur full] [] = some r := by
 obtain ⟨hz1, hz2, oz⟩ := q1
 subst oz; exact zab [(17, .ok), (29, .ok)] (ob (obT hz1) (ob (obT hz2) ob0)) (by kernel_rfl)
theorem tell7 (kk : Nat) (o : Int) (cs rs bs : List Dat) (room nur : Int) (full : Bool) (t : ByteArray) {r : Res} (q1 : (t.size + 1 ≤ 9223372036854775807) ∧ (((zah (t ++ ByteArray.mk #[10])).all fun d => d.cells.length.beq (TI.mk (TK.int IntKind.u8) 1 1 [] [D.dat (Dat.val (Value.int IntKind.u8 0))]).sz) = true ∧ bs.length + (zah (t ++ ByteArray.mk #[10])).length ≤ 2147483648) ∧ r = ([], [[D.dat (I o), D.own 97 cs, D.own 3 rs, D.own 5 (bs ++ zah (t ++ ByteArray.mk #[10])), D.dat (I room), D.dat (I nur), D.dat (B full)]], [])) : zam cfg kk (den cfg kk) 111 Go.Proofs.Tryd.f111 [.ptr (.up 0) 0, .dat (S t)] [P7 o cs rs bs room nur full] [] = some r := by
 obtain ⟨hz1, hz2, oz⟩ := q1
 subst oz; exact zab [(10, .ok), (11, .ok)] (ob hz1 (ob hz2 ob0)) (by kernel_rfl)
theorem zp3 (kk : Nat) (o : Int) (cs rs bs : List Dat) (room nur : Int) (full : Bool) (at_ x12 : Int) (second g12 g30 : Bool) (c26 : Cl) (c41 : Cl) (c51 : Cl) {r : Res} (q1 : ((!g12) = true) → (den cfg kk 103 [D.ptr (Ref.up 0) 0, D.dat (I at_)] [[D.dat (I o), D.own 97 cs, D.own 3 rs, D.own 5 bs, D.dat (I room), D.dat (I nur), D.dat (B full)]] [] = some ([D.dat (I x12), D.dat (B g12)], [[D.dat (I o), D.own 97 cs, D.own 3 rs, D.own 5 bs, D.dat (I room), D.dat (I nur), D.dat (B full)]], [])) ∧ r = ([], [[D.dat (I o), D.own 97 cs, D.own 3 rs, D.own 5 bs, D.dat (I room), D.dat (I nur), D.dat (B full)]], [])) (q2 : ((!g12) = false) → (c26.l = true) → (den cfg kk 103 [D.ptr (Ref.up 0) 0, D.dat (I at_)] [[D.dat (I o), D.own 97 cs, D.own 3 rs, D.own 5 bs, D.dat (I room), D.dat (I nur), D.dat (B full)]] [] = some ([D.dat (I x12), D.dat (B g12)], [[D.dat (I o), D.own 97 cs, D.own 3 rs, D.own 5 bs, D.dat (I room), D.dat (I nur), D.dat (B full)]], [])) ∧ (0 ≤ x12 ∧ x12 < (cs.length : Int)) ∧ (cs[x12.toNat]? = some (Dat.agg [B c26.l, I c26.n, I c26.a, I c26.b])) ∧ r = ([], [[D.dat (I o), D.own 97 cs, D.own 3 rs, D.own 5 bs, D.dat (I room), D.dat (I nur), D.dat (B full)]], [])) (q3 : ((!g12) = false) → (c26.l = false) → ((!g30) = true) → (den cfg kk 103 [D.ptr (Ref.up 0) 0, D.dat (I at_)] [[D.dat (I o), D.own 97 cs, D.own 3 rs, D.own 5 bs, D.dat (I room), D.dat (I nur), D.dat (B full)]] [] = some ([D.dat (I x12), D.dat (B g12)], [[D.dat (I o), D.own 97 cs, D.own 3 rs, D.own 5 bs, D.dat (I room), D.dat (I nur), D.dat (B full)]], [])) ∧ (0 ≤ x12 ∧ x12 < (cs.length : Int)) ∧ (cs[x12.toNat]? = some (Dat.agg [B c26.l, I c26.n, I c26.a, I c26.b])) ∧ (den cfg kk 104 [D.ptr (Ref.up 0) 0] [[D.dat (I o), D.own 97 cs, D.own 3 rs, D.own 5 bs, D.dat (I room), D.dat (I nur), D.dat (B full)]] [] = some ([D.dat (B g30)], [[D.dat (I o), D.own 97 cs, D.own 3 rs, D.own 5 bs, D.dat (I room), D.dat (I nur), D.dat (B full)]], [])) ∧ r = ([], [[D.dat (I o), D.own 97 cs, D.own 3 rs, D.own 5 bs, D.dat (I room), D.dat (I nur), D.dat (B full)]], [])) (q4 : ((!g12) = false) → (c26.l = false) → ((!g30) = false) → (second = true) → (den cfg kk 103 [D.ptr (Ref.up 0) 0, D.dat (I at_)] [[D.dat (I o), D.own 97 cs, D.own 3 rs, D.own 5 bs, D.dat (I room), D.dat (I nur), D.dat (B full)]] [] = some ([D.dat (I x12), D.dat (B g12)], [[D.dat (I o), D.own 97 cs, D.own 3 rs, D.own 5 bs, D.dat (I room), D.dat (I nur), D.dat (B full)]], [])) ∧ (0 ≤ x12 ∧ x12 < (cs.length : Int)) ∧ (cs[x12.toNat]? = some (Dat.agg [B c26.l, I c26.n, I c26.a, I c26.b])) ∧ (den cfg kk 104 [D.ptr (Ref.up 0) 0] [[D.dat (I o), D.own 97 cs, D.own 3 rs, D.own 5 bs, D.dat (I room), D.dat (I nur), D.dat (B full)]] [] = some ([D.dat (B g30)], [[D.dat (I o), D.own 97 cs, D.own 3 rs, D.own 5 bs, D.dat (I room), D.dat (I nur), D.dat (B full)]], [])) ∧ (0 ≤ x12 ∧ x12 < (cs.length : Int)) ∧ (cs[x12.toNat]? = some (Dat.agg [B c41.l, I c41.n, I c41.a, I c41.b])) ∧ (0 ≤ x12 ∧ x12 < (cs.length : Int)) ∧ (cs[x12.toNat]? = some (Dat.agg [B c51.l, I c51.n, I c51.a, I c51.b])) ∧ (rs.length + 1 ≤ 2147483648) ∧ r = ([], [[D.dat (I o), D.own 97 cs, D.own 3 (rs ++ [I c51.b]), D.own 5 bs, D.dat (I room), D.dat (I nur), D.dat (B full)]], [])) (q5 : ((!g12) = false) → (c26.l = false) → ((!g30) = false) → (second = false) → (den cfg kk 103 [D.ptr (Ref.up 0) 0, D.dat (I at_)] [[D.dat (I o), D.own 97 cs, D.own 3 rs, D.own 5 bs, D.dat (I room), D.dat (I nur), D.dat (B full)]] [] = some ([D.dat (I x12), D.dat (B g12)], [[D.dat (I o), D.own 97 cs, D.own 3 rs, D.own 5 bs, D.dat (I room), D.dat (I nur), D.dat (B full)]], [])) ∧ (0 ≤ x12 ∧ x12 < (cs.length : Int)) ∧ (cs[x12.toNat]? = some (Dat.agg [B c26.l, I c26.n, I c26.a, I c26.b])) ∧ (den cfg kk 104 [D.ptr (Ref.up 0) 0] [[D.dat (I o), D.own 97 cs, D.own 3 rs, D.own 5 bs, D.dat (I room), D.dat (I nur), D.dat (B full)]] [] = some ([D.dat (B g30)], [[D.dat (I o), D.own 97 cs, D.own 3 rs, D.own 5 bs, D.dat (I room), D.dat (I nur), D.dat (B full)]], [])) ∧ (0 ≤ x12 ∧ x12 < (cs.length : Int)) ∧ (cs[x12.toNat]? = some (Dat.agg [B c41.l, I c41.n, I c41.a, I c41.b])) ∧ (rs.length + 1 ≤ 2147483648) ∧ r = ([], [[D.dat (I o), D.own 97 cs, D.own 3 (rs ++ [I c41.a]), D.own 5 bs, D.dat (I room), D.dat (I nur), D.dat (B full)]], [])) : zam cfg kk (den cfg kk) 108 Go.Proofs.Tryd.f108 [.ptr (.up 0) 0, .dat (I at_), .dat (B second)] [P7 o cs rs bs room nur full] [] = some r := by
 rcases Bool.eq_false_or_eq_true ((!g12)) with d3 | d3
 · obtain ⟨hz1, oz⟩ := q1 d3
   subst oz; exact zab [(12, .back [.dat (I x12), .dat (B g12)] [P7 o cs rs bs room nur full] []), (30, .back [.dat (B g30)] [P7 o cs rs bs room nur full] []), (24, .ok), (26, .at (c26.d)), (39, .ok), (41, .at (c41.d)), (60, .ok), (49, .ok), (51, .at (c51.d)), (200017, .yes)] (ob hz1 (ob (rfl : false = false) (ob d3 (ob (rfl : true = true) (ob (rfl : true = true) (ob (rfl : true = true) (ob (rfl : true = true) (ob (rfl : true = true) (ob (rfl : true = true) (ob (rfl : true = true) (ob (rfl : true = true) ob0))))))))))) (by kernel_rfl)
 · rcases Bool.eq_false_or_eq_true (c26.l) with d14 | d14
   · obtain ⟨hz1, hz2, hz3, oz⟩ := q2 d3 d14
     subst oz; exact zab [(12, .back [.dat (I x12), .dat (B g12)] [P7 o cs rs bs room nur full] []), (30, .back [.dat (B g30)] [P7 o cs rs bs room nur full] []), (24, .ok), (26, .at (c26.d)), (39, .ok), (41, .at (c41.d)), (60, .ok), (49, .ok), (51, .at (c51.d)), (200017, .no), (200028, .yes)] (ob hz1 (ob (rfl : false = false) (ob d3 (ob (rfl : false = false) (ob (rfl : false = false) (ob (rfl : false = false) (ob (rfl : false = false) (ob (rfl : false = false) (ob (rfl : false = false) (ob hz2 (ob (rfl : false = false) (ob (rfl : false = false) (ob hz3 (ob d14 (ob (rfl : true = true) (ob (rfl : true = true) ob0)))))))))))))))) (by kernel_rfl)
   · rcases Bool.eq_false_or_eq_true ((!g30)) with d19 | d19
     · obtain ⟨hz1, hz2, hz3, hz4, oz⟩ := q3 d3 d14 d19
       subst oz; exact zab [(12, .back [.dat (I x12), .dat (B g12)] [P7 o cs rs bs room nur full] []), (30, .back [.dat (B g30)] [P7 o cs rs bs room nur full] []), (24, .ok), (26, .at (c26.d)), (39, .ok), (41, .at (c41.d)), (60, .ok), (49, .ok), (51, .at (c51.d)), (200017, .no), (200028, .no), (200032, .yes)] (ob hz1 (ob (rfl : false = false) (ob d3 (ob (rfl : false = false) (ob (rfl : false = false) (ob (rfl : false = false) (ob (rfl : false = false) (ob (rfl : false = false) (ob (rfl : false = false) (ob hz2 (ob (rfl : false = false) (ob (rfl : false = false) (ob hz3 (ob d14 (ob (rfl : false = false) (ob hz4 (ob (rfl : false = false) (ob (rfl : false = false) (ob d19 ob0))))))))))))))))))) (by kernel_rfl)
     · rcases Bool.eq_false_or_eq_true (second) with d22 | d22
       · obtain ⟨hz1, hz2, hz3, hz4, hz5, hz6, hz7, hz8, hz9, oz⟩ := q4 d3 d14 d19 d22
         subst oz; exact zab [(12, .back [.dat (I x12), .dat (B g12)] [P7 o cs rs bs room nur full] []), (30, .back [.dat (B g30)] [P7 o cs rs bs room nur full] []), (24, .ok), (26, .at (c26.d)), (39, .ok), (41, .at (c41.d)), (60, .ok), (49, .ok), (51, .at (c51.d)), (200017, .no), (200028, .no), (200032, .no), (200042, .yes)] (ob hz1 (ob (rfl : false = false) (ob d3 (ob (rfl : false = false) (ob (rfl : false = false) (ob (rfl : false = false) (ob (rfl : false = false) (ob (rfl : false = false) (ob (rfl : false = false) (ob hz2 (ob (rfl : false = false) (ob (rfl : false = false) (ob hz3 (ob d14 (ob (rfl : false = false) (ob hz4 (ob (rfl : false = false) (ob (rfl : false = false) (ob d19 (ob hz5 (ob hz6 (ob d22 (ob hz7 (ob hz8 (ob (obT hz9) ob0))))))))))))))))))))))))) (by kernel_rfl)
       · obtain ⟨hz1, hz2, hz3, hz4, hz5, hz6, hz7, oz⟩ := q5 d3 d14 d19 d22
         subst oz; exact zab [(12, .back [.dat (I x12), .dat (B g12)] [P7 o cs rs bs room nur full] []), (30, .back [.dat (B g30)] [P7 o cs rs bs room nur full] []), (24, .ok), (26, .at (c26.d)), (39, .ok), (41, .at (c41.d)), (60, .ok), (49, .ok), (51, .at (c51.d)), (200017, .no), (200028, .no), (200032, .no), (200042, .no)] (ob hz1 (ob (rfl : false = false) (ob d3 (ob (rfl : false = false) (ob (rfl : false = false) (ob (rfl : false = false) (ob (rfl : false = false) (ob (rfl : false = false) (ob (rfl : false = false) (ob hz2 (ob (rfl : false = false) (ob (rfl : false = false) (ob hz3 (ob d14 (ob (rfl : false = false) (ob hz4 (ob (rfl : false = false) (ob (rfl : false = false) (ob d19 (ob hz5 (ob hz6 (ob d22 (ob (obT hz7) ob0))))))))))))))))))))))) (by kernel_rfl)
theorem zme (kk : Nat) (o : Int) (cs rs bs : List Dat) (room nur : Int) (full : Bool) (a b x13 x19 : Int) (g13 g19 g28 : Bool) (o2 : Int) (cs2 rs2 : List Dat) (full2 g2 : Bool) (o1 : Int) (cs1 rs1 bs1 : List Dat) (full1 : Bool) (x42 : Int) (x50 : Int) {r : Res} (q1 : (g13 = true) → (g19 = true) → (g28 = true) → (g2 = true) → (den cfg kk 103 [D.ptr (Ref.up 0) 0, D.dat (I a)] [[D.dat (I o), D.own 97 cs, D.own 3 rs, D.own 5 bs, D.dat (I room), D.dat (I nur), D.dat (B full)]] [] = some ([D.dat (I x13), D.dat (B g13)], [[D.dat (I o), D.own 97 cs, D.own 3 rs, D.own 5 bs, D.dat (I room), D.dat (I nur), D.dat (B full)]], [])) ∧ (den cfg kk 103 [D.ptr (Ref.up 0) 0, D.dat (I b)] [[D.dat (I o), D.own 97 cs, D.own 3 rs, D.own 5 bs, D.dat (I room), D.dat (I nur), D.dat (B full)]] [] = some ([D.dat (I x19), D.dat (B g19)], [[D.dat (I o), D.own 97 cs, D.own 3 rs, D.own 5 bs, D.dat (I room), D.dat (I nur), D.dat (B full)]], [])) ∧ (den cfg kk 104 [D.ptr (Ref.up 0) 0] [[D.dat (I o), D.own 97 cs, D.own 3 rs, D.own 5 bs, D.dat (I room), D.dat (I nur), D.dat (B full)]] [] = some ([D.dat (B g28)], [[D.dat (I o), D.own 97 cs, D.own 3 rs, D.own 5 bs, D.dat (I room), D.dat (I nur), D.dat (B full)]], [])) ∧ (den cfg kk 105 [D.ptr (Ref.up 0) 0] [[D.dat (I o), D.own 97 cs, D.own 3 rs, D.own 5 bs, D.dat (I room), D.dat (I nur), D.dat (B full)]] [] = some ([D.dat (B g2)], [[D.dat (I o2), D.own 97 cs2, D.own 3 rs2, D.own 5 bs, D.dat (I room), D.dat (I nur), D.dat (B full2)]], [])) ∧ (0 ≤ a ∧ a < (rs2.length : Int)) ∧ (rs2[a.toNat]? = some (I x42)) ∧ (0 ≤ b ∧ b < (rs2.length : Int)) ∧ (rs2[b.toNat]? = some (I x50)) ∧ (den cfg kk 106 [D.ptr (Ref.up 0) 0, D.dat (Dat.agg [B false, I 0, I x42, I x50])] [[D.dat (I o2), D.own 97 cs2, D.own 3 rs2, D.own 5 bs, D.dat (I room), D.dat (I nur), D.dat (B full2)]] [] = some ([], [[D.dat (I o1), D.own 97 cs1, D.own 3 rs1, D.own 5 bs1, D.dat (I room), D.dat (I nur), D.dat (B full1)]], [])) ∧ r = ([], [[D.dat (I o1), D.own 97 cs1, D.own 3 rs1, D.own 5 bs1, D.dat (I room), D.dat (I nur), D.dat (B full1)]], [])) (q2 : (g13 = true) → (g19 = true) → (g28 = true) → (g2 = false) → (den cfg kk 103 [D.ptr (Ref.up 0) 0, D.dat (I a)] [[D.dat (I o), D.own 97 cs, D.own 3 rs, D.own 5 bs, D.dat (I room), D.dat (I nur), D.dat (B full)]] [] = some ([D.dat (I x13), D.dat (B g13)], [[D.dat (I o), D.own 97 cs, D.own 3 rs, D.own 5 bs, D.dat (I room), D.dat (I nur), D.dat (B full)]], [])) ∧ (den cfg kk 103 [D.ptr (Ref.up 0) 0, D.dat (I b)] [[D.dat (I o), D.own 97 cs, D.own 3 rs, D.own 5 bs, D.dat (I room), D.dat (I nur), D.dat (B full)]] [] = some ([D.dat (I x19), D.dat (B g19)], [[D.dat (I o), D.own 97 cs, D.own 3 rs, D.own 5 bs, D.dat (I room), D.dat (I nur), D.dat (B full)]], [])) ∧ (den cfg kk 104 [D.ptr (Ref.up 0) 0] [[D.dat (I o), D.own 97 cs, D.own 3 rs, D.own 5 bs, D.dat (I room), D.dat (I nur), D.dat (B full)]] [] = some ([D.dat (B g28)], [[D.dat (I o), D.own 97 cs, D.own 3 rs, D.own 5 bs, D.dat (I room), D.dat (I nur), D.dat (B full)]], [])) ∧ (den cfg kk 105 [D.ptr (Ref.up 0) 0] [[D.dat (I o), D.own 97 cs, D.own 3 rs, D.own 5 bs, D.dat (I room), D.dat (I nur), D.dat (B full)]] [] = some ([D.dat (B g2)], [[D.dat (I o2), D.own 97 cs2, D.own 3 rs2, D.own 5 bs, D.dat (I room), D.dat (I nur), D.dat (B full2)]], [])) ∧ r = ([], [[D.dat (I o2), D.own 97 cs2, D.own 3 rs2, D.own 5 bs, D.dat (I room), D.dat (I nur), D.dat (B full2)]], [])) (q3 : (g13 = true) → (g19 = true) → (g28 = false) → (den cfg kk 103 [D.ptr (Ref.up 0) 0, D.dat (I a)] [[D.dat (I o), D.own 97 cs, D.own 3 rs, D.own 5 bs, D.dat (I room), D.dat (I nur), D.dat (B full)]] [] = some ([D.dat (I x13), D.dat (B g13)], [[D.dat (I o), D.own 97 cs, D.own 3 rs, D.own 5 bs, D.dat (I room), D.dat (I nur), D.dat (B full)]], [])) ∧ (den cfg kk 103 [D.ptr (Ref.up 0) 0, D.dat (I b)] [[D.dat (I o), D.own 97 cs, D.own 3 rs, D.own 5 bs, D.dat (I room), D.dat (I nur), D.dat (B full)]] [] = some ([D.dat (I x19), D.dat (B g19)], [[D.dat (I o), D.own 97 cs, D.own 3 rs, D.own 5 bs, D.dat (I room), D.dat (I nur), D.dat (B full)]], [])) ∧ (den cfg kk 104 [D.ptr (Ref.up 0) 0] [[D.dat (I o), D.own 97 cs, D.own 3 rs, D.own 5 bs, D.dat (I room), D.dat (I nur), D.dat (B full)]] [] = some ([D.dat (B g28)], [[D.dat (I o), D.own 97 cs, D.own 3 rs, D.own 5 bs, D.dat (I room), D.dat (I nur), D.dat (B full)]], [])) ∧ r = ([], [[D.dat (I o), D.own 97 cs, D.own 3 rs, D.own 5 bs, D.dat (I room), D.dat (I nur), D.dat (B full)]], [])) (q4 : (g13 = true) → (g19 = false) → (den cfg kk 103 [D.ptr (Ref.up 0) 0, D.dat (I a)] [[D.dat (I o), D.own 97 cs, D.own 3 rs, D.own 5 bs, D.dat (I room), D.dat (I nur), D.dat (B full)]] [] = some ([D.dat (I x13), D.dat (B g13)], [[D.dat (I o), D.own 97 cs, D.own 3 rs, D.own 5 bs, D.dat (I room), D.dat (I nur), D.dat (B full)]], [])) ∧ (den cfg kk 103 [D.ptr (Ref.up 0) 0, D.dat (I b)] [[D.dat (I o), D.own 97 cs, D.own 3 rs, D.own 5 bs, D.dat (I room), D.dat (I nur), D.dat (B full)]] [] = some ([D.dat (I x19), D.dat (B g19)], [[D.dat (I o), D.own 97 cs, D.own 3 rs, D.own 5 bs, D.dat (I room), D.dat (I nur), D.dat (B full)]], [])) ∧ r = ([], [[D.dat (I o), D.own 97 cs, D.own 3 rs, D.own 5 bs, D.dat (I room), D.dat (I nur), D.dat (B full)]], [])) (q5 : (g13 = false) → (den cfg kk 103 [D.ptr (Ref.up 0) 0, D.dat (I a)] [[D.dat (I o), D.own 97 cs, D.own 3 rs, D.own 5 bs, D.dat (I room), D.dat (I nur), D.dat (B full)]] [] = some ([D.dat (I x13), D.dat (B g13)], [[D.dat (I o), D.own 97 cs, D.own 3 rs, D.own 5 bs, D.dat (I room), D.dat (I nur), D.dat (B full)]], [])) ∧ (den cfg kk 103 [D.ptr (Ref.up 0) 0, D.dat (I b)] [[D.dat (I o), D.own 97 cs, D.own 3 rs, D.own 5 bs, D.dat (I room), D.dat (I nur), D.dat (B full)]] [] = some ([D.dat (I x19), D.dat (B g19)], [[D.dat (I o), D.own 97 cs, D.own 3 rs, D.own 5 bs, D.dat (I room), D.dat (I nur), D.dat (B full)]], [])) ∧ r = ([], [[D.dat (I o), D.own 97 cs, D.own 3 rs, D.own 5 bs, D.dat (I room), D.dat (I nur), D.dat (B full)]], [])) : zam cfg kk (den cfg kk) 107 Go.Proofs.Tryd.f107 [.ptr (.up 0) 0, .dat (I a), .dat (I b)] [P7 o cs rs bs room nur full] [] = some r := by
 rcases Bool.eq_false_or_eq_true (g13) with d5 | d5
 · rcases Bool.eq_false_or_eq_true (g19) with d6 | d6
   · rcases Bool.eq_false_or_eq_true (g28) with d10 | d10
     · rcases Bool.eq_false_or_eq_true (g2) with d14 | d14
       · obtain ⟨hz1, hz2, hz3, hz4, hz5, hz6, hz7, hz8, hz9, oz⟩ := q1 d5 d6 d10 d14
         subst oz; exact zab [(13, .back [.dat (I x13), .dat (B g13)] [P7 o cs rs bs room nur full] []), (19, .back [.dat (I x19), .dat (B g19)] [P7 o cs rs bs room nur full] []), (28, .back [.dat (B g28)] [P7 o cs rs bs room nur full] []), (32, .back [.dat (B g2)] [P7 o2 cs2 rs2 bs room nur full2] []), (52, .back [] [P7 o1 cs1 rs1 bs1 room nur full1] []), (41, .ok), (42, .at (I x42)), (49, .ok), (50, .at (I x50)), (200023, .yes), (200026, .yes), (200030, .yes), (200033, .yes)] (ob hz1 (ob (rfl : false = false) (ob hz2 (ob (rfl : false = false) (ob d5 (ob d6 (ob (rfl : true = true) (ob hz3 (ob (rfl : false = false) (ob d10 (ob (rfl : true = true) (ob hz4 (ob (rfl : false = false) (ob d14 (ob hz5 (ob hz6 (ob hz7 (ob hz8 (ob hz9 (ob (rfl : false = false) ob0)))))))))))))))))))) (by kernel_rfl)
       · obtain ⟨hz1, hz2, hz3, hz4, oz⟩ := q2 d5 d6 d10 d14
         subst oz; exact zab [(13, .back [.dat (I x13), .dat (B g13)] [P7 o cs rs bs room nur full] []), (19, .back [.dat (I x19), .dat (B g19)] [P7 o cs rs bs room nur full] []), (28, .back [.dat (B g28)] [P7 o cs rs bs room nur full] []), (32, .back [.dat (B g2)] [P7 o2 cs2 rs2 bs room nur full2] []), (52, .back [] [P7 o1 cs1 rs1 bs1 room nur full1] []), (41, .ok), (42, .at (I x42)), (49, .ok), (50, .at (I x50)), (200023, .yes), (200026, .yes), (200030, .yes), (200033, .no)] (ob hz1 (ob (rfl : false = false) (ob hz2 (ob (rfl : false = false) (ob d5 (ob d6 (ob (rfl : true = true) (ob hz3 (ob (rfl : false = false) (ob d10 (ob (rfl : true = true) (ob hz4 (ob (rfl : false = false) (ob d14 ob0)))))))))))))) (by kernel_rfl)
     · obtain ⟨hz1, hz2, hz3, oz⟩ := q3 d5 d6 d10
       subst oz; exact zab [(13, .back [.dat (I x13), .dat (B g13)] [P7 o cs rs bs room nur full] []), (19, .back [.dat (I x19), .dat (B g19)] [P7 o cs rs bs room nur full] []), (28, .back [.dat (B g28)] [P7 o cs rs bs room nur full] []), (32, .back [.dat (B g2)] [P7 o2 cs2 rs2 bs room nur full2] []), (52, .back [] [P7 o1 cs1 rs1 bs1 room nur full1] []), (41, .ok), (42, .at (I x42)), (49, .ok), (50, .at (I x50)), (200023, .yes), (200026, .yes), (200030, .no)] (ob hz1 (ob (rfl : false = false) (ob hz2 (ob (rfl : false = false) (ob d5 (ob d6 (ob (rfl : true = true) (ob hz3 (ob (rfl : false = false) (ob d10 (ob (rfl : false = false) ob0))))))))))) (by kernel_rfl)
   · obtain ⟨hz1, hz2, oz⟩ := q4 d5 d6
     subst oz; exact zab [(13, .back [.dat (I x13), .dat (B g13)] [P7 o cs rs bs room nur full] []), (19, .back [.dat (I x19), .dat (B g19)] [P7 o cs rs bs room nur full] []), (28, .back [.dat (B g28)] [P7 o cs rs bs room nur full] []), (32, .back [.dat (B g2)] [P7 o2 cs2 rs2 bs room nur full2] []), (52, .back [] [P7 o1 cs1 rs1 bs1 room nur full1] []), (41, .ok), (42, .at (I x42)), (49, .ok), (50, .at (I x50)), (200023, .yes), (200026, .no)] (ob hz1 (ob (rfl : false = false) (ob hz2 (ob (rfl : false = false) (ob d5 (ob d6 (ob (rfl : false = false) ob0))))))) (by kernel_rfl)
 · obtain ⟨hz1, hz2, oz⟩ := q5 d5
   subst oz; exact zab [(13, .back [.dat (I x13), .dat (B g13)] [P7 o cs rs bs room nur full] []), (19, .back [.dat (I x19), .dat (B g19)] [P7 o cs rs bs room nur full] []), (28, .back [.dat (B g28)] [P7 o cs rs bs room nur full] []), (32, .back [.dat (B g2)] [P7 o2 cs2 rs2 bs room nur full2] []), (52, .back [] [P7 o1 cs1 rs1 bs1 room nur full1] []), (41, .ok), (42, .at (I x42)), (49, .ok), (50, .at (I x50)), (200023, .no)] (ob hz1 (ob (rfl : false = false) (ob hz2 (ob (rfl : false = false) (ob d5 ob0))))) (by kernel_rfl)
theorem zo5 (kk : Nat) (o : Int) (cs rs bs : List Dat) (room nur : Int) (full : Bool) (a b : Int) (x14 : Int) (g14 : Bool) (g22 : Bool) (o2 : Int) (cs2 rs2 : List Dat) (full2 g2 : Bool) (o1 : Int) (cs1 rs1 bs1 : List Dat) (full1 : Bool) {r : Res} (q1 : (g22 = true) → (g2 = true) → (den cfg kk 103 [D.ptr (Ref.up 0) 0, D.dat (I a)] [[D.dat (I o), D.own 97 cs, D.own 3 rs, D.own 5 bs, D.dat (I room), D.dat (I nur), D.dat (B full)]] [] = some ([D.dat (I x14), D.dat (B g14)], [[D.dat (I o), D.own 97 cs, D.own 3 rs, D.own 5 bs, D.dat (I room), D.dat (I nur), D.dat (B full)]], [])) ∧ (den cfg kk 104 [D.ptr (Ref.up 0) 0] [[D.dat (I o), D.own 97 cs, D.own 3 rs, D.own 5 bs, D.dat (I room), D.dat (I nur), D.dat (B full)]] [] = some ([D.dat (B g22)], [[D.dat (I o), D.own 97 cs, D.own 3 rs, D.own 5 bs, D.dat (I room), D.dat (I nur), D.dat (B full)]], [])) ∧ (den cfg kk 105 [D.ptr (Ref.up 0) 0] [[D.dat (I o), D.own 97 cs, D.own 3 rs, D.own 5 bs, D.dat (I room), D.dat (I nur), D.dat (B full)]] [] = some ([D.dat (B g2)], [[D.dat (I o2), D.own 97 cs2, D.own 3 rs2, D.own 5 bs, D.dat (I room), D.dat (I nur), D.dat (B full2)]], [])) ∧ (den cfg kk 106 [D.ptr (Ref.up 0) 0, D.dat (Dat.agg [B true, I a, I 0, I 0])] [[D.dat (I o2), D.own 97 cs2, D.own 3 rs2, D.own 5 bs, D.dat (I room), D.dat (I nur), D.dat (B full2)]] [] = some ([], [[D.dat (I o1), D.own 97 cs1, D.own 3 rs1, D.own 5 bs1, D.dat (I room), D.dat (I nur), D.dat (B full1)]], [])) ∧ r = ([], [[D.dat (I o1), D.own 97 cs1, D.own 3 rs1, D.own 5 bs1, D.dat (I room), D.dat (I nur), D.dat (B full1)]], [])) (q2 : (g22 = true) → (g2 = false) → (den cfg kk 103 [D.ptr (Ref.up 0) 0, D.dat (I a)] [[D.dat (I o), D.own 97 cs, D.own 3 rs, D.own 5 bs, D.dat (I room), D.dat (I nur), D.dat (B full)]] [] = some ([D.dat (I x14), D.dat (B g14)], [[D.dat (I o), D.own 97 cs, D.own 3 rs, D.own 5 bs, D.dat (I room), D.dat (I nur), D.dat (B full)]], [])) ∧ (den cfg kk 104 [D.ptr (Ref.up 0) 0] [[D.dat (I o), D.own 97 cs, D.own 3 rs, D.own 5 bs, D.dat (I room), D.dat (I nur), D.dat (B full)]] [] = some ([D.dat (B g22)], [[D.dat (I o), D.own 97 cs, D.own 3 rs, D.own 5 bs, D.dat (I room), D.dat (I nur), D.dat (B full)]], [])) ∧ (den cfg kk 105 [D.ptr (Ref.up 0) 0] [[D.dat (I o), D.own 97 cs, D.own 3 rs, D.own 5 bs, D.dat (I room), D.dat (I nur), D.dat (B full)]] [] = some ([D.dat (B g2)], [[D.dat (I o2), D.own 97 cs2, D.own 3 rs2, D.own 5 bs, D.dat (I room), D.dat (I nur), D.dat (B full2)]], [])) ∧ r = ([], [[D.dat (I o2), D.own 97 cs2, D.own 3 rs2, D.own 5 bs, D.dat (I room), D.dat (I nur), D.dat (B full2)]], [])) (q3 : (g22 = false) → (den cfg kk 103 [D.ptr (Ref.up 0) 0, D.dat (I a)] [[D.dat (I o), D.own 97 cs, D.own 3 rs, D.own 5 bs, D.dat (I room), D.dat (I nur), D.dat (B full)]] [] = some ([D.dat (I x14), D.dat (B g14)], [[D.dat (I o), D.own 97 cs, D.own 3 rs, D.own 5 bs, D.dat (I room), D.dat (I nur), D.dat (B full)]], [])) ∧ (den cfg kk 104 [D.ptr (Ref.up 0) 0] [[D.dat (I o), D.own 97 cs, D.own 3 rs, D.own 5 bs, D.dat (I room), D.dat (I nur), D.dat (B full)]] [] = some ([D.dat (B g22)], [[D.dat (I o), D.own 97 cs, D.own 3 rs, D.own 5 bs, D.dat (I room), D.dat (I nur), D.dat (B full)]], [])) ∧ r = ([], [[D.dat (I o), D.own 97 cs, D.own 3 rs, D.own 5 bs, D.dat (I room), D.dat (I nur), D.dat (B full)]], [])) : zam cfg kk (den cfg kk) 79 Go.Proofs.Tryd.f79 [.ptr (.up 0) 0, .dat (N3 1 a b)] [P7 o cs rs bs room nur full] [] = some r := by
 rcases Bool.eq_false_or_eq_true (g22) with d5 | d5
 · rcases Bool.eq_false_or_eq_true (g2) with d9 | d9
   · obtain ⟨hz1, hz2, hz3, hz4, oz⟩ := q1 d5 d9
     subst oz; exact zab [(14, .back [.dat (I x14), .dat (B g14)] [P7 o cs rs bs room nur full] []), (22, .back [.dat (B g22)] [P7 o cs rs bs room nur full] []), (25, .back [.dat (B g2)] [P7 o2 cs2 rs2 bs room nur full2] []), (31, .back [] [P7 o1 cs1 rs1 bs1 room nur full1] []), (200023, .yes), (200026, .yes)] (ob hz1 (ob (rfl : false = false) (ob hz2 (ob (rfl : false = false) (ob d5 (ob (rfl : true = true) (ob hz3 (ob (rfl : false = false) (ob d9 (ob hz4 (ob (rfl : false = false) ob0))))))))))) (by kernel_rfl)
   · obtain ⟨hz1, hz2, hz3, oz⟩ := q2 d5 d9
     subst oz; exact zab [(14, .back [.dat (I x14), .dat (B g14)] [P7 o cs rs bs room nur full] []), (22, .back [.dat (B g22)] [P7 o cs rs bs room nur full] []), (25, .back [.dat (B g2)] [P7 o2 cs2 rs2 bs room nur full2] []), (31, .back [] [P7 o1 cs1 rs1 bs1 room nur full1] []), (200023, .yes), (200026, .no)] (ob hz1 (ob (rfl : false = false) (ob hz2 (ob (rfl : false = false) (ob d5 (ob (rfl : true = true) (ob hz3 (ob (rfl : false = false) (ob d9 ob0))))))))) (by kernel_rfl)
 · obtain ⟨hz1, hz2, oz⟩ := q3 d5
   subst oz; exact zab [(14, .back [.dat (I x14), .dat (B g14)] [P7 o cs rs bs room nur full] []), (22, .back [.dat (B g22)] [P7 o cs rs bs room nur full] []), (25, .back [.dat (B g2)] [P7 o2 cs2 rs2 bs room nur full2] []), (31, .back [] [P7 o1 cs1 rs1 bs1 room nur full1] []), (200023, .no)] (ob hz1 (ob (rfl : false = false) (ob hz2 (ob (rfl : false = false) (ob d5 (ob (rfl : false = false) ob0)))))) (by kernel_rfl)
theorem do7_2 (kk : Nat) (o : Int) (cs rs bs : List Dat) (room nur : Int) (full : Bool) (a b : Int) (x14 : Int) (g14 : Bool) (o1 : Int) (cs1 rs1 bs1 : List Dat) (full1 : Bool) {r : Res} (q1 : (den cfg kk 103 [D.ptr (Ref.up 0) 0, D.dat (I a)] [[D.dat (I o), D.own 97 cs, D.own 3 rs, D.own 5 bs, D.dat (I room), D.dat (I nur), D.dat (B full)]] [] = some ([D.dat (I x14), D.dat (B g14)], [[D.dat (I o), D.own 97 cs, D.own 3 rs, D.own 5 bs, D.dat (I room), D.dat (I nur), D.dat (B full)]], [])) ∧ (den cfg kk 107 [D.ptr (Ref.up 0) 0, D.dat (I a), D.dat (I b)] [[D.dat (I o), D.own 97 cs, D.own 3 rs, D.own 5 bs, D.dat (I room), D.dat (I nur), D.dat (B full)]] [] = some ([], [[D.dat (I o1), D.own 97 cs1, D.own 3 rs1, D.own 5 bs1, D.dat (I room), D.dat (I nur), D.dat (B full1)]], [])) ∧ r = ([], [[D.dat (I o1), D.own 97 cs1, D.own 3 rs1, D.own 5 bs1, D.dat (I room), D.dat (I nur), D.dat (B full1)]], [])) : zam cfg kk (den cfg kk) 79 Go.Proofs.Tryd.f79 [.ptr (.up 0) 0, .dat (N3 2 a b)] [P7 o cs rs bs room nur full] [] = some r := by
 obtain ⟨hz1, hz2, oz⟩ := q1
 subst oz; exact zab [(14, .back [.dat (I x14), .dat (B g14)] [P7 o cs rs bs room nur full] []), (39, .back [] [P7 o1 cs1 rs1 bs1 room nur full1] [])] (ob hz1 (ob (rfl : false = false) (ob hz2 (ob (rfl : false = false) ob0)))) (by kernel_rfl)
theorem do7_3 (kk : Nat) (o : Int) (cs rs bs : List Dat) (room nur : Int) (full : Bool) (a b : Int) (x14 : Int) (g14 : Bool) (o1 : Int) (cs1 rs1 bs1 : List Dat) (full1 : Bool) {r : Res} (q1 : (den cfg kk 103 [D.ptr (Ref.up 0) 0, D.dat (I a)] [[D.dat (I o), D.own 97 cs, D.own 3 rs, D.own 5 bs, D.dat (I room), D.dat (I nur), D.dat (B full)]] [] = some ([D.dat (I x14), D.dat (B g14)], [[D.dat (I o), D.own 97 cs, D.own 3 rs, D.own 5 bs, D.dat (I room), D.dat (I nur), D.dat (B full)]], [])) ∧ (den cfg kk 108 [D.ptr (Ref.up 0) 0, D.dat (I a), D.dat (B false)] [[D.dat (I o), D.own 97 cs, D.own 3 rs, D.own 5 bs, D.dat (I room), D.dat (I nur), D.dat (B full)]] [] = some ([], [[D.dat (I o1), D.own 97 cs1, D.own 3 rs1, D.own 5 bs1, D.dat (I room), D.dat (I nur), D.dat (B full1)]], [])) ∧ r = ([], [[D.dat (I o1), D.own 97 cs1, D.own 3 rs1, D.own 5 bs1, D.dat (I room), D.dat (I nur), D.dat (B full1)]], [])) : zam cfg kk (den cfg kk) 79 Go.Proofs.Tryd.f79 [.ptr (.up 0) 0, .dat (N3 3 a b)] [P7 o cs rs bs room nur full] [] = some r := by
 obtain ⟨hz1, hz2, oz⟩ := q1
 subst oz; exact zab [(14, .back [.dat (I x14), .dat (B g14)] [P7 o cs rs bs room nur full] []), (49, .back [] [P7 o1 cs1 rs1 bs1 room nur full1] [])] (ob hz1 (ob (rfl : false = false) (ob hz2 (ob (rfl : false = false) ob0)))) (by kernel_rfl)
theorem do7_4 (kk : Nat) (o : Int) (cs rs bs : List Dat) (room nur : Int) (full : Bool) (a b : Int) (x14 : Int) (g14 : Bool) (o1 : Int) (cs1 rs1 bs1 : List Dat) (full1 : Bool) {r : Res} (q1 : (den cfg kk 103 [D.ptr (Ref.up 0) 0, D.dat (I a)] [[D.dat (I o), D.own 97 cs, D.own 3 rs, D.own 5 bs, D.dat (I room), D.dat (I nur), D.dat (B full)]] [] = some ([D.dat (I x14), D.dat (B g14)], [[D.dat (I o), D.own 97 cs, D.own 3 rs, D.own 5 bs, D.dat (I room), D.dat (I nur), D.dat (B full)]], [])) ∧ (den cfg kk 108 [D.ptr (Ref.up 0) 0, D.dat (I a), D.dat (B true)] [[D.dat (I o), D.own 97 cs, D.own 3 rs, D.own 5 bs, D.dat (I room), D.dat (I nur), D.dat (B full)]] [] = some ([], [[D.dat (I o1), D.own 97 cs1, D.own 3 rs1, D.own 5 bs1, D.dat (I room), D.dat (I nur), D.dat (B full1)]], [])) ∧ r = ([], [[D.dat (I o1), D.own 97 cs1, D.own 3 rs1, D.own 5 bs1, D.dat (I room), D.dat (I nur), D.dat (B full1)]], [])) : zam cfg kk (den cfg kk) 79 Go.Proofs.Tryd.f79 [.ptr (.up 0) 0, .dat (N3 4 a b)] [P7 o cs rs bs room nur full] [] = some r := by
 obtain ⟨hz1, hz2, oz⟩ := q1
 subst oz; exact zab [(14, .back [.dat (I x14), .dat (B g14)] [P7 o cs rs bs room nur full] []), (49, .back [] [P7 o1 cs1 rs1 bs1 room nur full1] [])] (ob hz1 (ob (rfl : false = false) (ob hz2 (ob (rfl : false = false) ob0)))) (by kernel_rfl)
theorem do7_5 (kk : Nat) (o : Int) (cs rs bs : List Dat) (room nur : Int) (full : Bool) (a b : Int) (x14 : Int) (g14 : Bool) (e59 : List Dat) (e65 : List Dat) {r : Res} (q1 : (g14 = true) → (den cfg kk 103 [D.ptr (Ref.up 0) 0, D.dat (I a)] [[D.dat (I o), D.own 97 cs, D.own 3 rs, D.own 5 bs, D.dat (I room), D.dat (I nur), D.dat (B full)]] [] = some ([D.dat (I x14), D.dat (B g14)], [[D.dat (I o), D.own 97 cs, D.own 3 rs, D.own 5 bs, D.dat (I room), D.dat (I nur), D.dat (B full)]], [])) ∧ (D.cleans [D.own 3 e59] = true) ∧ (den cfg kk 82 [D.dat (Dat.lst true rs)] [] [] = some ([D.own 3 e59], [], [])) ∧ (den cfg kk 109 [D.own 3 e59, D.dat (I a), D.dat (I (w64 (a + 1)))] [] [] = some ([D.own 3 e65], [], [])) ∧ r = ([], [[D.dat (I o), D.own 97 cs, D.own 3 e65, D.own 5 bs, D.dat (I room), D.dat (I nur), D.dat (B full)]], [])) (q2 : (g14 = false) → (den cfg kk 103 [D.ptr (Ref.up 0) 0, D.dat (I a)] [[D.dat (I o), D.own 97 cs, D.own 3 rs, D.own 5 bs, D.dat (I room), D.dat (I nur), D.dat (B full)]] [] = some ([D.dat (I x14), D.dat (B g14)], [[D.dat (I o), D.own 97 cs, D.own 3 rs, D.own 5 bs, D.dat (I room), D.dat (I nur), D.dat (B full)]], [])) ∧ r = ([], [[D.dat (I o), D.own 97 cs, D.own 3 rs, D.own 5 bs, D.dat (I room), D.dat (I nur), D.dat (B full)]], [])) : zam cfg kk (den cfg kk) 79 Go.Proofs.Tryd.f79 [.ptr (.up 0) 0, .dat (N3 5 a b)] [P7 o cs rs bs room nur full] [] = some r := by
 rcases Bool.eq_false_or_eq_true (g14) with d3 | d3
 · obtain ⟨hz1, hz2, hz3, hz4, oz⟩ := q1 d3
   subst oz; exact zab [(14, .back [.dat (I x14), .dat (B g14)] [P7 o cs rs bs room nur full] []), (59, .ret [.own 3 e59]), (65, .back [.own 3 e65] [] []), (200052, .yes)] (ob hz1 (ob (rfl : false = false) (ob d3 (ob hz2 (ob hz3 (ob hz4 (ob (rfl : false = false) ob0))))))) (by kernel_rfl)
 · obtain ⟨hz1, oz⟩ := q2 d3
   subst oz; exact zab [(14, .back [.dat (I x14), .dat (B g14)] [P7 o cs rs bs room nur full] []), (59, .ret [.own 3 e59]), (65, .back [.own 3 e65] [] []), (200052, .no)] (ob hz1 (ob (rfl : false = false) (ob d3 ob0))) (by kernel_rfl)
theorem zp7 (kk : Nat) (o : Int) (cs rs bs : List Dat) (room nur : Int) (full : Bool) (a b : Int) (x14 : Int) (g14 : Bool) (s : ByteArray) (sh : Bool) (o1 : Int) (cs1 rs1 bs1 : List Dat) (full1 : Bool) {r : Res} (q1 : (g14 = true) → ((!sh) = true) → (den cfg kk 103 [D.ptr (Ref.up 0) 0, D.dat (I a)] [[D.dat (I o), D.own 97 cs, D.own 3 rs, D.own 5 bs, D.dat (I room), D.dat (I nur), D.dat (B full)]] [] = some ([D.dat (I x14), D.dat (B g14)], [[D.dat (I o), D.own 97 cs, D.own 3 rs, D.own 5 bs, D.dat (I room), D.dat (I nur), D.dat (B full)]], [])) ∧ (den cfg kk 110 [D.dat (Dat.lst true cs), D.dat (I x14)] [] [] = some ([D.dat (Dat.val (Value.string s)), D.dat (B sh)], [], [])) ∧ (den cfg kk 111 [D.ptr (Ref.up 0) 0, D.dat (Dat.val (Value.string (ByteArray.mk #[108, 111, 110, 103])))] [[D.dat (I o), D.own 97 cs, D.own 3 rs, D.own 5 bs, D.dat (I room), D.dat (I nur), D.dat (B full)]] [] = some ([], [[D.dat (I o1), D.own 97 cs1, D.own 3 rs1, D.own 5 bs1, D.dat (I room), D.dat (I nur), D.dat (B full1)]], [])) ∧ r = ([], [[D.dat (I o1), D.own 97 cs1, D.own 3 rs1, D.own 5 bs1, D.dat (I room), D.dat (I nur), D.dat (B full1)]], [])) (q2 : (g14 = true) → ((!sh) = false) → (den cfg kk 103 [D.ptr (Ref.up 0) 0, D.dat (I a)] [[D.dat (I o), D.own 97 cs, D.own 3 rs, D.own 5 bs, D.dat (I room), D.dat (I nur), D.dat (B full)]] [] = some ([D.dat (I x14), D.dat (B g14)], [[D.dat (I o), D.own 97 cs, D.own 3 rs, D.own 5 bs, D.dat (I room), D.dat (I nur), D.dat (B full)]], [])) ∧ (den cfg kk 110 [D.dat (Dat.lst true cs), D.dat (I x14)] [] [] = some ([D.dat (Dat.val (Value.string s)), D.dat (B sh)], [], [])) ∧ (den cfg kk 111 [D.ptr (Ref.up 0) 0, D.dat (Dat.val (Value.string s))] [[D.dat (I o), D.own 97 cs, D.own 3 rs, D.own 5 bs, D.dat (I room), D.dat (I nur), D.dat (B full)]] [] = some ([], [[D.dat (I o1), D.own 97 cs1, D.own 3 rs1, D.own 5 bs1, D.dat (I room), D.dat (I nur), D.dat (B full1)]], [])) ∧ r = ([], [[D.dat (I o1), D.own 97 cs1, D.own 3 rs1, D.own 5 bs1, D.dat (I room), D.dat (I nur), D.dat (B full1)]], [])) (q3 : (g14 = false) → (den cfg kk 103 [D.ptr (Ref.up 0) 0, D.dat (I a)] [[D.dat (I o), D.own 97 cs, D.own 3 rs, D.own 5 bs, D.dat (I room), D.dat (I nur), D.dat (B full)]] [] = some ([D.dat (I x14), D.dat (B g14)], [[D.dat (I o), D.own 97 cs, D.own 3 rs, D.own 5 bs, D.dat (I room), D.dat (I nur), D.dat (B full)]], [])) ∧ r = ([], [[D.dat (I o), D.own 97 cs, D.own 3 rs, D.own 5 bs, D.dat (I room), D.dat (I nur), D.dat (B full)]], [])) : zam cfg kk (den cfg kk) 79 Go.Proofs.Tryd.f79 [.ptr (.up 0) 0, .dat (N3 6 a b)] [P7 o cs rs bs room nur full] [] = some r := by
 rcases Bool.eq_false_or_eq_true (g14) with d3 | d3
 · rcases Bool.eq_false_or_eq_true ((!sh)) with d6 | d6
   · obtain ⟨hz1, hz2, hz3, oz⟩ := q1 d3 d6
     subst oz; exact zab [(14, .back [.dat (I x14), .dat (B g14)] [P7 o cs rs bs room nur full] []), (79, .ret [.dat (S s), .dat (B sh)]), (86, .back [] [P7 o1 cs1 rs1 bs1 room nur full1] []), (200071, .yes), (200083, .yes)] (ob hz1 (ob (rfl : false = false) (ob d3 (ob (rfl : true = true) (ob hz2 (ob d6 (ob hz3 (ob (rfl : false = false) ob0)))))))) (by kernel_rfl)
   · obtain ⟨hz1, hz2, hz3, oz⟩ := q2 d3 d6
     subst oz; exact zab [(14, .back [.dat (I x14), .dat (B g14)] [P7 o cs rs bs room nur full] []), (79, .ret [.dat (S s), .dat (B sh)]), (86, .back [] [P7 o1 cs1 rs1 bs1 room nur full1] []), (200071, .yes), (200083, .no)] (ob hz1 (ob (rfl : false = false) (ob d3 (ob (rfl : true = true) (ob hz2 (ob d6 (ob hz3 (ob (rfl : false = false) ob0)))))))) (by kernel_rfl)
 · obtain ⟨hz1, oz⟩ := q3 d3
   subst oz; exact zab [(14, .back [.dat (I x14), .dat (B g14)] [P7 o cs rs bs room nur full] []), (79, .ret [.dat (S s), .dat (B sh)]), (86, .back [] [P7 o1 cs1 rs1 bs1 room nur full1] []), (200071, .no)] (ob hz1 (ob (rfl : false = false) (ob d3 ob0))) (by kernel_rfl)
theorem znN (kk : Nat) (o : Int) (cs rs bs : List Dat) (room nur : Int) (full : Bool) (a b : Int) (x14 : Int) (g14 : Bool) (x93 : Int) (g93 : Bool) (o1 : Int) (cs1 rs1 bs1 : List Dat) (full1 : Bool) (s106 : ByteArray) {r : Res} (q1 : (g14 = true) → (g93 = true) → (den cfg kk 103 [D.ptr (Ref.up 0) 0, D.dat (I a)] [[D.dat (I o), D.own 97 cs, D.own 3 rs, D.own 5 bs, D.dat (I room), D.dat (I nur), D.dat (B full)]] [] = some ([D.dat (I x14), D.dat (B g14)], [[D.dat (I o), D.own 97 cs, D.own 3 rs, D.own 5 bs, D.dat (I room), D.dat (I nur), D.dat (B full)]], [])) ∧ (den cfg kk 103 [D.ptr (Ref.up 0) 0, D.dat (I b)] [[D.dat (I o), D.own 97 cs, D.own 3 rs, D.own 5 bs, D.dat (I room), D.dat (I nur), D.dat (B full)]] [] = some ([D.dat (I x93), D.dat (B g93)], [[D.dat (I o), D.own 97 cs, D.own 3 rs, D.own 5 bs, D.dat (I room), D.dat (I nur), D.dat (B full)]], [])) ∧ (zdm (TI.mk TK.bool 1 1 [] [D.dat (B false)]).kind (Value.bool (decide (x14 = x93))) (D.etc Etc.mark :: (fun l' => D.dat (B true) :: D.dat (Dat.val (Value.string (ByteArray.mk #[115, 97, 109, 101]))) :: l') [D.dat (B false), D.dat (Dat.val (Value.string (ByteArray.mk #[111, 116, 104, 101, 114])))]).tail = some (some (Value.string s106))) ∧ (den cfg kk 111 [D.ptr (Ref.up 0) 0, D.dat (Dat.val (Value.string s106))] [[D.dat (I o), D.own 97 cs, D.own 3 rs, D.own 5 bs, D.dat (I room), D.dat (I nur), D.dat (B full)]] [] = some ([], [[D.dat (I o1), D.own 97 cs1, D.own 3 rs1, D.own 5 bs1, D.dat (I room), D.dat (I nur), D.dat (B full1)]], [])) ∧ r = ([], [[D.dat (I o1), D.own 97 cs1, D.own 3 rs1, D.own 5 bs1, D.dat (I room), D.dat (I nur), D.dat (B full1)]], [])) (q2 : (g14 = true) → (g93 = false) → (den cfg kk 103 [D.ptr (Ref.up 0) 0, D.dat (I a)] [[D.dat (I o), D.own 97 cs, D.own 3 rs, D.own 5 bs, D.dat (I room), D.dat (I nur), D.dat (B full)]] [] = some ([D.dat (I x14), D.dat (B g14)], [[D.dat (I o), D.own 97 cs, D.own 3 rs, D.own 5 bs, D.dat (I room), D.dat (I nur), D.dat (B full)]], [])) ∧ (den cfg kk 103 [D.ptr (Ref.up 0) 0, D.dat (I b)] [[D.dat (I o), D.own 97 cs, D.own 3 rs, D.own 5 bs, D.dat (I room), D.dat (I nur), D.dat (B full)]] [] = some ([D.dat (I x93), D.dat (B g93)], [[D.dat (I o), D.own 97 cs, D.own 3 rs, D.own 5 bs, D.dat (I room), D.dat (I nur), D.dat (B full)]], [])) ∧ r = ([], [[D.dat (I o), D.own 97 cs, D.own 3 rs, D.own 5 bs, D.dat (I room), D.dat (I nur), D.dat (B full)]], [])) (q3 : (g14 = false) → (den cfg kk 103 [D.ptr (Ref.up 0) 0, D.dat (I a)] [[D.dat (I o), D.own 97 cs, D.own 3 rs, D.own 5 bs, D.dat (I room), D.dat (I nur), D.dat (B full)]] [] = some ([D.dat (I x14), D.dat (B g14)], [[D.dat (I o), D.own 97 cs, D.own 3 rs, D.own 5 bs, D.dat (I room), D.dat (I nur), D.dat (B full)]], [])) ∧ (den cfg kk 103 [D.ptr (Ref.up 0) 0, D.dat (I b)] [[D.dat (I o), D.own 97 cs, D.own 3 rs, D.own 5 bs, D.dat (I room), D.dat (I nur), D.dat (B full)]] [] = some ([D.dat (I x93), D.dat (B g93)], [[D.dat (I o), D.own 97 cs, D.own 3 rs, D.own 5 bs, D.dat (I room), D.dat (I nur), D.dat (B full)]], [])) ∧ r = ([], [[D.dat (I o), D.own 97 cs, D.own 3 rs, D.own 5 bs, D.dat (I room), D.dat (I nur), D.dat (B full)]], [])) : zam cfg kk (den cfg kk) 79 Go.Proofs.Tryd.f79 [.ptr (.up 0) 0, .dat (N3 7 a b)] [P7 o cs rs bs room nur full] [] = some r := by
 rcases Bool.eq_false_or_eq_true (g14) with d5 | d5
 · rcases Bool.eq_false_or_eq_true (g93) with d6 | d6
   · obtain ⟨hz1, hz2, hz3, hz4, oz⟩ := q1 d5 d6
     subst oz; exact zab [(14, .back [.dat (I x14), .dat (B g14)] [P7 o cs rs bs room nur full] []), (93, .back [.dat (I x93), .dat (B g93)] [P7 o cs rs bs room nur full] []), (107, .back [] [P7 o1 cs1 rs1 bs1 room nur full1] []), (106, .at (S s106)), (200097, .yes), (200099, .yes)] (ob hz1 (ob (rfl : false = false) (ob hz2 (ob (rfl : false = false) (ob d5 (ob d6 (ob hz3 (ob hz4 (ob (rfl : false = false) ob0))))))))) (by kernel_rfl)
   · obtain ⟨hz1, hz2, oz⟩ := q2 d5 d6
     subst oz; exact zab [(14, .back [.dat (I x14), .dat (B g14)] [P7 o cs rs bs room nur full] []), (93, .back [.dat (I x93), .dat (B g93)] [P7 o cs rs bs room nur full] []), (107, .back [] [P7 o1 cs1 rs1 bs1 room nur full1] []), (106, .at (S s106)), (200097, .yes), (200099, .no)] (ob hz1 (ob (rfl : false = false) (ob hz2 (ob (rfl : false = false) (ob d5 (ob d6 ob0)))))) (by kernel_rfl)
 · obtain ⟨hz1, hz2, oz⟩ := q3 d5
   subst oz; exact zab [(14, .back [.dat (I x14), .dat (B g14)] [P7 o cs rs bs room nur full] []), (93, .back [.dat (I x93), .dat (B g93)] [P7 o cs rs bs room nur full] []), (107, .back [] [P7 o1 cs1 rs1 bs1 room nur full1] []), (106, .at (S s106)), (200097, .no)] (ob hz1 (ob (rfl : false = false) (ob hz2 (ob (rfl : false = false) (ob d5 ob0))))) (by kernel_rfl)
theorem do7_8 (kk : Nat) (o : Int) (cs rs bs : List Dat) (room nur : Int) (full : Bool) (a b : Int) (x14 : Int) (g14 : Bool) (oa : Int) (ca ra : List Dat) {r : Res} (q1 : (decide (0 ≤ room) = true) → (den cfg kk 103 [D.ptr (Ref.up 0) 0, D.dat (I a)] [[D.dat (I o), D.own 97 cs, D.own 3 rs, D.own 5 bs, D.dat (I room), D.dat (I nur), D.dat (B full)]] [] = some ([D.dat (I x14), D.dat (B g14)], [[D.dat (I o), D.own 97 cs, D.own 3 rs, D.own 5 bs, D.dat (I room), D.dat (I nur), D.dat (B full)]], [])) ∧ (D.cleans [D.seq false [D.dat (I oa), D.own 97 ca, D.own 3 ra]] = true) ∧ (den cfg kk 112 [D.dat (Dat.agg [I o, Dat.lst true cs, Dat.lst true rs])] [] [] = some ([D.seq false [D.dat (I oa), D.own 97 ca, D.own 3 ra]], [], [])) ∧ r = ([], [[D.dat (I oa), D.own 97 ca, D.own 3 ra, D.own 5 bs, D.dat (I room), D.dat (I nur), D.dat (B full)]], [])) (q2 : (decide (0 ≤ room) = false) → (den cfg kk 103 [D.ptr (Ref.up 0) 0, D.dat (I a)] [[D.dat (I o), D.own 97 cs, D.own 3 rs, D.own 5 bs, D.dat (I room), D.dat (I nur), D.dat (B full)]] [] = some ([D.dat (I x14), D.dat (B g14)], [[D.dat (I o), D.own 97 cs, D.own 3 rs, D.own 5 bs, D.dat (I room), D.dat (I nur), D.dat (B full)]], [])) ∧ r = ([], [[D.dat (I o), D.own 97 cs, D.own 3 rs, D.own 5 bs, D.dat (I room), D.dat (I nur), D.dat (B full)]], [])) : zam cfg kk (den cfg kk) 79 Go.Proofs.Tryd.f79 [.ptr (.up 0) 0, .dat (N3 8 a b)] [P7 o cs rs bs room nur full] [] = some r := by
 rcases Bool.eq_false_or_eq_true (decide (0 ≤ room)) with d3 | d3
 · obtain ⟨hz1, hz2, hz3, oz⟩ := q1 d3
   subst oz; exact zab [(14, .back [.dat (I x14), .dat (B g14)] [P7 o cs rs bs room nur full] []), (120, .ret [.seq false [.dat (I oa), .own 97 ca, .own 3 ra]]), (200114, .yes)] (ob hz1 (ob (rfl : false = false) (ob d3 (ob hz2 (ob hz3 ob0))))) (by kernel_rfl)
 · obtain ⟨hz1, oz⟩ := q2 d3
   subst oz; exact zab [(14, .back [.dat (I x14), .dat (B g14)] [P7 o cs rs bs room nur full] []), (120, .ret [.seq false [.dat (I oa), .own 97 ca, .own 3 ra]]), (200114, .no)] (ob hz1 (ob (rfl : false = false) (ob d3 ob0))) (by kernel_rfl)
theorem do7_9 (kk : Nat) (o : Int) (cs rs bs : List Dat) (room nur : Int) (full : Bool) (a b : Int) (x14 : Int) (g14 : Bool) (oa : Int) (ca ra : List Dat) {r : Res} (q1 : (decide (0 ≤ room) = true) → (den cfg kk 103 [D.ptr (Ref.up 0) 0, D.dat (I a)] [[D.dat (I o), D.own 97 cs, D.own 3 rs, D.own 5 bs, D.dat (I room), D.dat (I nur), D.dat (B full)]] [] = some ([D.dat (I x14), D.dat (B g14)], [[D.dat (I o), D.own 97 cs, D.own 3 rs, D.own 5 bs, D.dat (I room), D.dat (I nur), D.dat (B full)]], [])) ∧ (D.cleans [D.seq false [D.dat (I oa), D.own 97 ca, D.own 3 ra]] = true) ∧ (den cfg kk 113 [D.dat (Dat.agg [I o, Dat.lst true cs, Dat.lst true rs])] [] [] = some ([D.seq false [D.dat (I oa), D.own 97 ca, D.own 3 ra]], [], [])) ∧ r = ([], [[D.dat (I oa), D.own 97 ca, D.own 3 ra, D.own 5 bs, D.dat (I room), D.dat (I nur), D.dat (B full)]], [])) (q2 : (decide (0 ≤ room) = false) → (den cfg kk 103 [D.ptr (Ref.up 0) 0, D.dat (I a)] [[D.dat (I o), D.own 97 cs, D.own 3 rs, D.own 5 bs, D.dat (I room), D.dat (I nur), D.dat (B full)]] [] = some ([D.dat (I x14), D.dat (B g14)], [[D.dat (I o), D.own 97 cs, D.own 3 rs, D.own 5 bs, D.dat (I room), D.dat (I nur), D.dat (B full)]], [])) ∧ r = ([], [[D.dat (I o), D.own 97 cs, D.own 3 rs, D.own 5 bs, D.dat (I room), D.dat (I nur), D.dat (B full)]], [])) : zam cfg kk (den cfg kk) 79 Go.Proofs.Tryd.f79 [.ptr (.up 0) 0, .dat (N3 9 a b)] [P7 o cs rs bs room nur full] [] = some r := by
 rcases Bool.eq_false_or_eq_true (decide (0 ≤ room)) with d3 | d3
 · obtain ⟨hz1, hz2, hz3, oz⟩ := q1 d3
   subst oz; exact zab [(14, .back [.dat (I x14), .dat (B g14)] [P7 o cs rs bs room nur full] []), (135, .ret [.seq false [.dat (I oa), .own 97 ca, .own 3 ra]]), (200129, .yes)] (ob hz1 (ob (rfl : false = false) (ob d3 (ob hz2 (ob hz3 ob0))))) (by kernel_rfl)
 · obtain ⟨hz1, oz⟩ := q2 d3
   subst oz; exact zab [(14, .back [.dat (I x14), .dat (B g14)] [P7 o cs rs bs room nur full] []), (135, .ret [.seq false [.dat (I oa), .own 97 ca, .own 3 ra]]), (200129, .no)] (ob hz1 (ob (rfl : false = false) (ob d3 ob0))) (by kernel_rfl)
theorem do7_o (kk : Nat) (o : Int) (cs rs bs : List Dat) (room nur : Int) (full : Bool) (k a b : Int) (x14 : Int) (g14 : Bool) (h1 : den cfg kk 103 [D.ptr (Ref.up 0) 0, D.dat (I a)] [[D.dat (I o), D.own 97 cs, D.own 3 rs, D.own 5 bs, D.dat (I room), D.dat (I nur), D.dat (B full)]] [] = some ([D.dat (I x14), D.dat (B g14)], [[D.dat (I o), D.own 97 cs, D.own 3 rs, D.own 5 bs, D.dat (I room), D.dat (I nur), D.dat (B full)]], [])) (h3 : decide (k = 1) = false) (h4 : decide (k = 2) = false) (h5 : decide (k = 3) = false) (h6 : decide (k = 4) = false) (h7 : decide (k = 5) = false) (h8 : decide (k = 6) = false) (h9 : decide (k = 7) = false) (h10 : decide (k = 8) = false) (h11 : decide (k = 9) = false) : zam cfg kk (den cfg kk) 79 Go.Proofs.Tryd.f79 [.ptr (.up 0) 0, .dat (N3 k a b)] [P7 o cs rs bs room nur full] [] = some ([], [[D.dat (I o), D.own 97 cs, D.own 3 rs, D.own 5 bs, D.dat (I room), D.dat (I nur), D.dat (B full)]], []) :=
 zab [(14, .back [.dat (I x14), .dat (B g14)] [P7 o cs rs bs room nur full] []), (200019, .no), (200032, .no), (200040, .no), (200050, .no), (200069, .no), (200087, .no), (200108, .no), (200123, .no)] (ob h1 (ob (rfl : false = false) (ob h3 (ob h4 (ob h5 (ob h6 (ob h7 (ob h8 (ob h9 (ob h10 (ob h11 ob0))))))))))) (by kernel_rfl)
end Go.Den
