/- Merged out of: D24 D25 D26 D27 D28 D29 D30 (prune.py, a program of this work's). -/
import Derived.Test.YtmoocdlfclhgcaaDoorZc3
import Derived.LoopN
import Derived.Laws.IdiomStrings
import Derived.OrdersHeld
set_option linter.unusedVariables false
set_option linter.unusedSimpArgs false
set_option linter.unnecessarySimpa false
namespace Go.Den
open Go Go.RowKit
set_option linter.unusedVariables false
variable {B : Nat → Option Obj}
def za6 (nt : Nat) (o : Oper) : Bool :=
 match o.dst with
 | some n => Nat.blt n nt && (match o.op with | .store _ _ _ => false | .mapUpdate _ _ _ _ => false | .insert _ _ _ _ => false | _ => true)
 | none => match o.op with
   | .box _ _ => false
   | .build _ _ => false
   | .buildSlice _ _ _ => false
   | .slice _ _ _ _ _ => false
   | .call c => (match c.callee with | .builtin _ => false | _ => true)
   | _ => true
theorem zaR {nt : Nat} {o : Oper} (h : za6 nt o = true) : ∀ n : Nat, o.dst = some n → n < nt := by
 intro n hn
 unfold za6 at h
 rw [hn] at h
 simp only [Bool.and_eq_true] at h
 have : n + 1 ≤ nt := by simpa [Nat.blt] using h.1
 omega
theorem zg0 {nt : Nat} {o : Oper} {t : TypeId} {a v : Operand} (h : za6 nt o = true) (ho : o.op = .store t a v) : o.dst = none := by
 unfold za6 at h
 cases hd : o.dst with
 | none => rfl
 | some n => rw [hd, ho] at h; simp at h
theorem zfI {nt : Nat} {o : Oper} {t : TypeId} {m k v : Operand} (h : za6 nt o = true) (ho : o.op = .mapUpdate t m k v ∨ o.op = .insert t m k v) : o.dst = none := by
 unfold za6 at h
 cases hd : o.dst with
 | none => rfl
 | some n => rcases ho with ho | ho <;> rw [hd, ho] at h <;> simp at h
structure EnvOK (P : Program) (B : Nat → Option Obj) (E : Env) (c : Cx) (a : Act) : Prop where
 ty : E.ty = c.ty
 tys : TyOk P c.ty
 inv : Firm B c
 call : zck P c.ty B E.call
 nt : a.tmps.size = E.nt
theorem EnvOK.next {P : Program} {E : Env} {c c' : Cx} {a a' : Act} (h : EnvOK P B E c a) (he : Ext c c') (ha : a'.tmps.size = a.tmps.size) : EnvOK P B E c' a' :=
 ⟨by rw [he.ty]; exact h.ty, by rw [he.ty]; exact h.tys, h.inv.ext he, by rw [he.ty]; exact h.call, by rw [ha]; exact h.nt⟩
section
variable {P : Program} {E : Env} {c : Cx} {a : Act} {o : Oper} {X : Nat}
theorem zd8 : ∀ {es : List Dat} {l : List UInt8}, zge es = some l → ∃ ns : List Int, es = ns.map (fun n => Dat.val (.int .u8 n)) ∧ l = ns.map fun n => UInt8.ofNat n.toNat
 | [], l, h => by cases h; exact ⟨[], rfl, rfl⟩
 | d :: es, l, h => by
   unfold zge at h
   split at h
   · rename_i h0; cases h0
   · rename_i n l0 h0
     injection h0 with h1 h2
     subst h1 h2
     obtain ⟨l1, h3, rfl⟩ := Option.map_eq_some_iff.1 h
     obtain ⟨ns, rfl, rfl⟩ := zd8 h3
     exact ⟨n :: ns, rfl, rfl⟩
   · cases h
theorem zcm : ∀ (ns : List Int) (r : ByteArray), ns.foldl (fun r n => r.push (UInt8.ofNat n.toNat)) r = ⟨r.data ++ (ns.map fun n => UInt8.ofNat n.toNat).toArray⟩
 | [], r => by simp
 | n :: ns, r => by
   simp only [List.foldl_cons]
   rw [zcm ns]
   simp [ByteArray.push]
theorem zjK (w : World) (src dst e : TypeId) (a : Addr) (cap : Nat) (ns : List Int) (hs : P.underlying src = some (.slice e)) (he : P.underlying e = some (.int .u8)) (hd : P.underlying dst = some .string)
 (hc : ∀ (j : Nat) (n : Int), ns[j]? = some n → w.cell? (a.add j) = some (.int .u8 n)) :
 (convert src dst (.slice (some a) ns.length cap)).run P w = .ok (.string ⟨(ns.map fun n => UInt8.ofNat n.toNat).toArray⟩) w := by
 rw [run_convert_bytes_string w src dst e (some a) ns.length cap hs he hd]
 have hl := run_loadCells_list (P := P) w a (ns.map (Value.int .u8)) (fun j v hj => by
  rw [List.getElem?_map] at hj
  cases hn : ns[j]? with
  | none => rw [hn] at hj; cases hj
  | some n => rw [hn] at hj; cases hj; exact hc j n hn)
 simp only [List.length_map] at hl
 rw [run_bytesToString w a ns.length cap _ hl, zcm]
 have he0 : ByteArray.empty.data = #[] := rfl
 rw [he0]
 simp
theorem zfD {s' : St} {t u : Nat} {y : Operand} (hE : EnvOK P B E c a) (hf : Fr X c a) (hd : ∀ n : Nat, o.dst = some n → n < a.tmps.size) (ho : o.op = .convert t u y) (h : zcq E c.s o.dst t u y = some s') : ∀ (K : Act → World → Prop) (Q : Exit → Act → World → Prop), (∀ a' c', c'.s = s' → Fr X c' a' → Ext c c' → Below c.W.heap.size c.W c'.W → a'.tmps.size = a.tmps.size → a'.defers = a.defers → K a' c'.W) → o.wp P a c.W K Q := by
 intro K Q hK
 unfold zcq at h
 simp only [Option.bind_eq_some_iff] at h
 obtain ⟨i, hi, h⟩ := h
 rw [hE.ty] at hi
 split at h
 · rename_i e hk
   simp only [Option.bind_eq_some_iff] at h
   obtain ⟨j, hj, k, hkk, h⟩ := h
   rw [hE.ty] at hj hkk
   split at h
   · rename_i hj8 hks
     simp only [Option.bind_eq_some_iff, Option.map_eq_some_iff] at h
     obtain ⟨es, hr, v, hv, n, hn, rfl⟩ := h
     obtain ⟨_, _, _, hfi⟩ := hE.tys.facts hi
     obtain ⟨_, dj, _, hfj⟩ := hE.tys.facts hj
     obtain ⟨_, _, _, hfk⟩ := hE.tys.facts hkk
     have hu1 := (hfi.slice hk).1
     have hu2 := hfk.str hks
     have hkj := hfj.kind
     have hu3 : P.underlying e = some (.int .u8) := by
      rw [hfj.und]
      cases dj <;> simp [zaH, hj8] at hkj ⊢
      exact hkj
     unfold zk0 at hv
     obtain ⟨l, hl, rfl⟩ := Option.map_eq_some_iff.1 hv
     obtain ⟨ns, rfl, rfl⟩ := zd8 hl
     have h1 := (zaf hf.sim y (.lent 0)).1
     have hrun : (execOp a.eval o).run P c.W = .ok (.value (.string ⟨(ns.map fun n => UInt8.ofNat n.toNat).toArray⟩)) c.W := by
      rcases zih (sz := 1) hf.sim (fun _ _ h => h) h1 hr (fun d hd => by obtain ⟨n, _, rfl⟩ := List.mem_map.1 hd; rfl) (by omega) with ⟨he, k, hval⟩ | ⟨ad, k, news, hval, hrep, hc⟩
      · have : ns = [] := by simpa using he
        subst this
        have h5 := run_convert_bytes_string c.W t u e none 0 k hu1 hu3 hu2
        have h6 : (Conv.bytesToString (.slice none 0 k)).run P c.W = .ok (.string ⟨#[]⟩) c.W := rfl
        rw [h6] at h5
        simp only [execOp, ho, hval]
        rw [Sem.run_bind, h5]
        rfl
      · rw [List.length_map] at hval
        have := zjK c.W t u e ad k ns hu1 hu3 hu2 (fun j n hj => by
         have hj2 : (ns.map (fun n => Dat.val (.int .u8 n)))[j]? = some (.val (.int .u8 n)) := by rw [List.getElem?_map, hj]; rfl
         have hlt := (List.getElem?_eq_some_iff.1 hj).1
         have hnl : news.length = ns.length := by have := hrep.len; simpa using this
         have hr2 := hrep.rep j _ hj2
         have hx := List.getElem?_eq_getElem (show j < news.length by omega)
         have e1 : (news.drop (j * 1)).take 1 = [news[j]] := by
          rw [Nat.mul_one, List.drop_eq_getElem_cons (by omega)]
          rfl
         rw [e1] at hr2
         have key : ∀ cv, Rep c.ρ c.W (.val (.int .u8 n)) cv → cv = [.int .u8 n] := fun cv h => by cases h; rfl
         have h7 := key _ hr2
         injection h7 with h7
         rw [h7] at hx
         exact hc j _ hx)
        simp only [execOp, ho, hval]
        rw [Sem.run_bind, this]
        rfl
     exact zau (ef := .pure (.dat (.val (.string ⟨(ns.map fun n => UInt8.ofNat n.toNat).toArray⟩)))) hf hd (fun x => (Yields.same hrun (zaE rfl)).does) (by simp only [St.apply, hn, Option.map_some]) K Q hK
   · cases h
 · cases h
theorem zkb {s' : St} {t u : Nat} {y : Operand} (hE : EnvOK P B E c a) (hf : Fr X c a) (hd : ∀ n : Nat, o.dst = some n → n < a.tmps.size) (ho : o.op = .convert t u y) (h : zcq E c.s o.dst t u y = some s') : OpOK P X c a o s' := fun K Q hK => zfD hE hf hd ho h K Q fun a' c' h1 h2 h3 _ h4 h5 => hK a' c' h1 h2 h3 h4 h5
theorem zgP {gp : Pl → Option Row} {d : D} {es : List Dat} (h : zgZ gp false d = some es) : zfo gp d = some es := by
 unfold zgZ at h
 split at h
 · cases h
 · exact h
theorem zj9 {gp : Pl → Option Row} {d : D} {es : List Dat} (h : zgZ gp true d = some es) : ∃ s, d = .dat (.val (.string s)) ∧ es = zaV s := by
 unfold zgZ at h
 split at h
 · cases h
   exact ⟨_, rfl, rfl⟩
 · cases h
theorem zji {s' : St} (hE : EnvOK P B E c a) (hf : Fr X c a) (hk : za6 E.nt o = true) (h : doOp E c.s o.dst o.type o.op = some s') : OpOK P X c a o s' := by
 have hd : ∀ n : Nat, o.dst = some n → n < a.tmps.size := by rw [hE.nt]; exact zaR hk
 cases ho : o.op with
 | assign y =>
   rw [ho] at h
   simp only [doOp, Option.bind_eq_some_iff] at h
   obtain ⟨⟨d, s1⟩, hq, h⟩ := h
   split at h
   · rename_i ht
     cases h
     exact zk4 hf hd ho hq ht
   · cases h
 | box t y =>
   rw [ho] at h
   simp only [doOp] at h
   split at h
   · cases h
   · rename_i n hn
     simp only [Option.bind_eq_some_iff] at h
     obtain ⟨i, hi, ⟨d, s1⟩, hq, h⟩ := h
     split at h
     · rename_i hc hb
       cases h
       simp only [Bool.and_eq_true] at hc
       exact o_box hf hd hn ho hq hc.1 hb
     · cases h
 | build t ps =>
   have hdst : o.dst.isSome = true := by
    unfold za6 at hk
    cases hdd : o.dst with
    | some n => rfl
    | none => rw [hdd, ho] at hk; cases hk
   rw [ho] at h
   simp only [doOp, Option.bind_eq_some_iff] at h
   obtain ⟨i, hi, h⟩ := h
   rw [hE.ty] at hi
   split at h
   · rename_i ha
     split at h
     · rename_i n _ hn
       exact zh5 hE.ty hE.tys hf hd hn ho hi ha h
     simp only [Option.bind_eq_some_iff, Option.map_eq_some_iff] at h
     obtain ⟨q, hq, cs, hcs, rfl⟩ := h
     exact zl9 hE.ty hE.tys hf hd hdst ho hi ha hq hcs
   · cases h
 | buildSlice t n ps =>
   have hdst : o.dst.isSome = true := by
    unfold za6 at hk
    cases hdd : o.dst with
    | some n => rfl
    | none => rw [hdd, ho] at hk; cases hk
   rw [ho] at h
   simp only [doOp, Option.bind_eq_some_iff] at h
   obtain ⟨i, hi, h⟩ := h
   rw [hE.ty] at hi
   split at h
   · rename_i e hkk
     simp only [Option.bind_eq_some_iff] at h
     obtain ⟨j, hj, z, hz, q, hq, h⟩ := h
     rw [hE.ty] at hj
     split at h
     · rename_i hall
       cases h
       exact zgL hE.tys hf hd hdst ho hi hkk hj hz hq hall
     · cases h
   · cases h
 | store t za zv =>
   rw [ho] at h
   simp only [doOp] at h
   exact zlX hE.ty hE.tys hf ho (zg0 hk ho) h
 | slice t y lo hi mx =>
   have hdst : o.dst.isSome = true := by
    unfold za6 at hk
    cases hdd : o.dst with
    | some n => rfl
    | none => rw [hdd, ho] at hk; cases hk
   rw [ho] at h
   simp only [doOp] at h
   split at h
   · rename_i p n hz
     simp only [Option.bind_eq_some_iff, Option.map_eq_some_iff] at h
     obtain ⟨l, hl, hh, hhi, st, hst, q, hq, d, hev, rfl⟩ := h
     rw [hE.ty] at hst
     exact zmd hE.tys hf hd hdst ho hst hl hhi hz hq hev
   · cases h
 | convert t u y =>
   rw [ho] at h
   simp only [doOp] at h
   exact zkb hE hf hd ho h
 | makeMap t r =>
   rw [ho] at h
   simp only [doOp] at h
   split at h
   · rename_i n hn
     simp only [Option.bind_eq_some_iff] at h
     obtain ⟨i, hi, h⟩ := h
     split at h
     · rename_i hb
       cases h
       exact zjO hf hd hn ho hb
     · cases h
   · cases h
 | mapUpdate t m k v =>
   rw [ho] at h
   simp only [doOp] at h
   exact zip hE.ty hE.tys hf (.inl ho) (zfI hk (.inl ho)) h
 | insert t m k v =>
   rw [ho] at h
   simp only [doOp] at h
   exact zip hE.ty hE.tys hf (.inr ho) (zfI hk (.inr ho)) h
 | call ca =>
   rw [ho] at h
   simp only [doOp] at h
   split at h
   · rename_i hc
     have hdst : o.dst.isSome = true := by
      unfold za6 at hk
      cases hdd : o.dst with
      | some n => rfl
      | none => rw [hdd, ho] at hk; simp [hc] at hk
     split at h
     · rename_i ab sb t u hargs hat
       simp only [Option.bind_eq_some_iff] at h
       obtain ⟨ti, hti, h⟩ := h
       rw [hE.ty] at hti
       split at h
       · rename_i el hkk
         split at h
         · rename_i htu
           have htu := beq_eq.1 htu
           subst htu
           simp only [zb9, Option.bind_eq_some_iff] at h
           obtain ⟨es2, hsrc, r, hb, i, hi, h⟩ := h
           have hsrc := zgP hsrc
           rw [hE.ty] at hi
           split at h
           · cases h
           · rename_i hcond
             simp only [Bool.and_eq_true, List.all_eq_true] at hcond
             split at h
             · rename_i hlen
               cases h
               have h3 : 1 ≤ i.sz := by simpa [Nat.blt] using hcond.1.2
               exact OpOKF.ok (zis hE.tys hf hd hdst ho hc hargs hat hti hkk hi hsrc hb (beq_eq.1 hcond.1.1.1) (by simpa using hcond.1.1.2) (by omega) (fun e he => beq_eq.1 (hcond.2 e he)) hlen)
             · cases h
         · simp only [Option.bind_eq_some_iff] at h
           obtain ⟨j, hj, k, hkj, h⟩ := h
           rw [hE.ty] at hj hkj
           split at h
           · rename_i hib huk
             simp only [zb9, Option.bind_eq_some_iff] at h
             obtain ⟨es2, hsrc, r, hb, i, hi, h⟩ := h
             rw [hE.ty] at hi
             obtain ⟨s, hs, rfl⟩ := zj9 hsrc
             split at h
             · cases h
             · rename_i hcond
               simp only [Bool.and_eq_true, List.all_eq_true] at hcond
               split at h
               · rename_i hlen
                 cases h
                 exact zjR hE.tys hf hd hdst ho hc hargs hat hti hkk hj hib hkj huk hs hb (beq_eq.1 hcond.1.1.1) hlen
               · cases h
           · rename_i _ huk
             simp only [zeW, Option.bind_eq_some_iff] at h
             obtain ⟨n, hsrc, r, hb, i, hi, z, hz, h⟩ := h
             rw [hE.ty] at hi
             split at h
             · cases h
             · rename_i hcond
               simp only [Bool.and_eq_true, decide_eq_true_eq] at hcond
               split at h
               · rename_i hlen
                 cases h
                 have h3 : 1 ≤ i.sz := by simpa [Nat.blt] using hcond.1.2
                 exact zkz hE.tys hf hd hdst ho hc hargs hat hti hkk hi hz hkj huk hsrc hcond.2 hb (beq_eq.1 hcond.1.1.1) (by simpa using hcond.1.1.2) (by omega) hlen
               · cases h
           · cases h
       · cases h
     · cases h
   · rename_i z hc
     split at h
     · rename_i f cap hz
       exact znr hE.ty hE.tys hE.inv hE.call hf hd ho hc hz h
     · cases h
   · cases h
 | _ => rw [ho] at h; simp only [doOp] at h; cases h
theorem zbl {s' : St} (hE : EnvOK P B E c a) (hf : Fr X c a) (hk : za6 E.nt o = true) (h : step E c.s o = some s') : OpOK P X c a o s' := by
 have hd : ∀ n : Nat, o.dst = some n → n < a.tmps.size := by rw [hE.nt]; exact zaR hk
 unfold step at h
 split at h
 · rename_i ef he
   exact zhW hf hd (zaQ hE.ty hE.tys hE.inv hE.call hf.sim (fun _ _ h => h) (fun _ _ h => h) he) h
 · exact zji hE hf hk h
theorem zi4 {s' : St} (hE : EnvOK P B E c a) (hf : Fr X c a) (hk : za6 E.nt o = true) (hg : zjP o.op = true) (h : step E c.s o = some s') : OpOKF P X c a o s' := by
 have hd : ∀ n : Nat, o.dst = some n → n < a.tmps.size := by rw [hE.nt]; exact zaR hk
 unfold zjP at hg
 split at hg
 · rename_i ca ho
   split at hg
   · rename_i hc
     split at hg
     · rename_i ab sb t u hargs hat
       have htu := beq_eq.1 hg
       subst htu
       have hdst : o.dst.isSome = true := by
        unfold za6 at hk
        cases hdd : o.dst with
        | some n => rfl
        | none => rw [hdd, ho] at hk; simp [hc] at hk
       have hev : evOp E c.s.look c.s.get c.s.box o.type o.op = none := by
        rw [ho]
        simp only [evOp, hc]
       unfold step at h
       rw [hev, ho] at h
       simp only [doOp, hc, hargs, hat, Option.bind_eq_some_iff] at h
       obtain ⟨ti, hti, h⟩ := h
       rw [hE.ty] at hti
       split at h
       · rename_i el hkk
         rw [show Nat.beq t t = true from Nat.beq_refl t] at h
         simp only [zb9, Option.bind_eq_some_iff] at h
         obtain ⟨es2, hsrc, r, hb, i, hi, h⟩ := h
         have hsrc := zgP hsrc
         rw [hE.ty] at hi
         split at h
         · cases h
         · rename_i hcond
           simp only [Bool.and_eq_true, List.all_eq_true] at hcond
           split at h
           · rename_i hlen
             cases h
             have h3 : 1 ≤ i.sz := by simpa [Nat.blt] using hcond.1.2
             exact zis hE.tys hf hd hdst ho hc hargs hat hti hkk hi hsrc hb (beq_eq.1 hcond.1.1.1) (by simpa using hcond.1.1.2) (by omega) (fun e he => beq_eq.1 (hcond.2 e he)) hlen
           · cases h
       · cases h
     · cases hg
   · cases hg
 · cases hg
theorem zcO {s : St} {x : Nat} {b : Bool} (h : s.t x = .dat (.val (.bool b))) : s.force x b = s := by
 cases s with
 | mk t b' u l =>
   simp only [St.force, St.mk.injEq, and_true]
   funext y
   cases hb : Nat.beq y x with
   | true => rw [beq_eq.1 hb]; exact h.symm
   | false => rfl
theorem zhG {x : Option Nat} (hf : Fr X c a) (hd : ∀ n : Nat, x = some n → n < a.tmps.size) : ∃ c', c'.s = c.s.putO x .undef ∧ c'.W = c.W ∧ Fr X c' (a.put x undef) ∧ Ext c c' ∧ (a.put x undef).tmps.size = a.tmps.size ∧ (a.put x undef).defers = a.defers := by
 cases x with
 | none => exact ⟨c, rfl, rfl, hf, Ext.refl c, rfl, rfl⟩
 | some n =>
   have hlt := hd n rfl
   have hne : X ≠ n := Nat.ne_of_gt (Nat.lt_of_lt_of_le hlt hf.ghost.out)
   have hsim := (Grown.refl c n).put hf.sim hlt (show VR c (.slot n []) .undef undef from rfl)
   exact ⟨{ c with s := c.s.put n .undef }, rfl, rfl, ⟨hsim, by simpa [Act.put] using hf.ghost.out, zaY hne hf.ghost.own⟩, (Ext.refl c).setS _, by simp [Act.put], rfl⟩
def EndsIn (P : Program) (X : Nat) (c : Cx) (a : Act) (s' : St) (Q : Act → World → Prop) : Prop :=
 ∀ a' c', c'.s = s' → Fr X c' a' → Ext c c' → a'.tmps.size = a.tmps.size → a'.defers = a.defers → Q a' c'.W
theorem zhx {ops : Array Oper} {j : Nat} {n : Nat} (hs : Sim c a.tmps) (hn : n < a.tmps.size) (h : (ops[j]?).bind (·.dst) = some n) : (∀ b, c.s.t n = .dat (.val (.bool b)) → yielded ops a.tmps j = some b) ∧ (c.s.t n = .undef → yielded ops a.tmps j = none) := by
 have hv := hs.slots n
 have e : a.tmps[n]? = some (a.tmps.getD n undef) := by simp [Array.getD, hn]
 refine ⟨fun b hb => ?_, fun hb => ?_⟩
 · rw [hb] at hv
   have := (zaq hv).1
   unfold yielded
   rw [h]
   simp only [Option.bind_some]
   rw [e, this]
 · rw [hb] at hv
   have hv : a.tmps.getD n undef = undef := hv
   unfold yielded
   rw [h]
   simp only [Option.bind_some]
   rw [e, hv]
   rfl
theorem zcC {ops : Array Oper} {Q : Exit → Act → World → Prop} (hops : ∀ o ∈ ops.toList, za6 E.nt o = true) : ∀ (l : List Oper) (c : Cx) (a : Act) (s' : St), (∀ o ∈ l, za6 E.nt o = true) → EnvOK P B E c a → Fr X c a → zdA E ops l c.s = some s' → EndsIn P X c a s' (Q .normal) → wpList P ops Q l a c.W
 | [], c, a, s', hl, hE, hf, h, hQ => by
   cases h
   exact hQ a c rfl hf (Ext.refl c) rfl rfl
 | o :: l, c, a, s', hl, hE, hf, h, hQ => by
   have hk := hl o (by simp)
   have hd : ∀ n : Nat, o.dst = some n → n < a.tmps.size := by rw [hE.nt]; exact zaR hk
   have go : (step E c.s o).bind (zdA E ops l) = some s' → o.wp P a c.W (wpList P ops Q l) Q := by
    intro h
    simp only [Option.bind_eq_some_iff] at h
    obtain ⟨s1, h1, h2⟩ := h
    refine zbl hE hf hk h1 _ _ fun a' c' hs' hf' he' hsz hdf => ?_
    exact zcC hops l c' a' s' (fun o ho => hl o (List.mem_cons_of_mem _ ho)) (hE.next he' hsz) hf' (by rw [hs']; exact h2) fun a'' c'' h3 h4 h5 h6 h7 => hQ a'' c'' h3 h4 (he'.trans h5) (h6.trans hsz) (h7.trans hdf)
   have skip : zdA E ops l (c.s.putO o.dst .undef) = some s' → wpList P ops Q l (a.put o.dst undef) c.W := by
    intro h
    obtain ⟨c', h1, h2, h3, h4, h5, h6⟩ := zhG (x := o.dst) hf hd
    rw [← h2]
    exact zcC hops l c' _ s' (fun o ho => hl o (List.mem_cons_of_mem _ ho)) (hE.next h4 h5) h3 (by rw [h1]; exact h) fun a'' c'' h7 h8 h9 h10 h11 => hQ a'' c'' h7 h8 (h4.trans h9) (h10.trans h5) (h11.trans h6)
   simp only [wpList]
   unfold zdA zby at h
   split at h
   · rename_i hg
     have hw : Region.wanted o (yielded ops a.tmps) = true := by simp [Region.wanted, hg]
     rw [if_pos hw]
     exact .inl (go h)
   · rename_i j want hg
     split at h
     · cases h
     · rename_i n hn
       have hnlt : n < a.tmps.size := by
        cases hj : ops[j]? with
        | none => rw [hj] at hn; cases hn
        | some oj =>
          rw [hj] at hn
          rw [hE.nt]
          exact zaR (hops oj (by have := Array.mem_of_getElem? hj; exact Array.mem_toList_iff.2 this)) n hn
       obtain ⟨h1, h2⟩ := zhx (ops := ops) (j := j) hf.sim hnlt hn
       split at h
       · rename_i b hb
         have hy := h1 _ hb
         cases b with
         | true =>
           simp only at h
           rw [zcO hb] at h
           cases want with
           | true =>
             have hw : Region.wanted o (yielded ops a.tmps) = true := by simp [Region.wanted, hg, hy]
             rw [if_pos hw]
             exact .inl (go h)
           | false =>
             have hw : Region.wanted o (yielded ops a.tmps) = false := by simp [Region.wanted, hg, hy]
             rw [if_neg (by rw [hw]; exact fun e => by cases e)]
             exact skip h
         | false =>
           simp only at h
           rw [zcO hb] at h
           cases want with
           | true =>
             have hw : Region.wanted o (yielded ops a.tmps) = false := by simp [Region.wanted, hg, hy]
             rw [if_neg (by rw [hw]; exact fun e => by cases e)]
             exact skip h
           | false =>
             have hw : Region.wanted o (yielded ops a.tmps) = true := by simp [Region.wanted, hg, hy]
             rw [if_pos hw]
             exact .inl (go h)
       · rename_i hb
         have hy := h2 hb
         have hw : Region.wanted o (yielded ops a.tmps) = false := by simp [Region.wanted, hg, hy]
         rw [if_neg (by rw [hw]; exact fun e => by cases e)]
         exact skip h
       · cases h
end
end Go.Den
namespace Go.Den
open Go Go.RowKit
set_option linter.unusedVariables false
variable {B : Nat → Option Obj}
theorem zeY {k : Kill} {d : D} (h : zap d = true) : zap (d.kill k) = true := by
 cases d with
 | ptr r o => simp only [D.kill]; split <;> rfl
 | fn f cap => simp only [D.kill]; split <;> rfl
 | dat d => rfl
 | own e es => rfl
 | junk => rfl
 | etc e => cases e with
   | map r => simp only [D.kill]; split <;> rfl
   | mark => rfl
   | err => rfl
   | vp _ _ => cases h
 | _ => cases h
theorem zcD {c : Cx} {tm tm' : Array Value} {s' : St} {K : Kill} (hs : Sim c tm) (ht : ∀ y, s'.t y = .junk ∨ (s'.t y = (c.s.t y).kill K ∧ tm'.getD y undef = tm.getD y undef)) (hb : ∀ r cs', s'.box r = some cs' → ∃ cs, c.s.box r = some cs ∧ cs' = D.kills K cs) (hl : s'.l = c.s.l)
 (hpl : ∀ q r, c.s.get q = some r → K.pl q = false → s'.get q = some r) (href : ∀ r, (c.s.box r).isSome = true → K.ref r = false → (s'.box r).isSome = true) : Sim { c with s := s' } tm' := by
 have m : Mono c { c with s := s' } K (fun _ => False) := ⟨rfl, fun b g h _ => ⟨h, rfl⟩, fun q r h hk => ⟨hpl q r h hk, rfl⟩, fun r h hk => ⟨href r h hk, rfl⟩, fun q _ => ⟨rfl, fun g h _ => ⟨h, rfl⟩⟩⟩
 refine ⟨fun y => ?_, fun r cs' hb' => ?_, fun j r hg => ?_⟩
 · show VR _ _ (s'.t y) _
   rcases ht y with e | ⟨e, e2⟩
   · rw [e]; trivial
   · rw [e, e2]
     exact VR.mono m _ _ _ (fun _ _ _ h => h) (hs.slots y)
 · obtain ⟨cs, h1, rfl⟩ := hb r cs' hb'
   obtain ⟨vs, T, h2, h3, h4, h5⟩ := (hs.boxes r cs h1).out
   refine ⟨vs, T, by rw [zgC]; exact h2, h3, by rw [zcw]; exact h4, fun i d v hd hv => ?_⟩
   rw [zb1] at hd
   simp only [Option.map_eq_some_iff] at hd
   obtain ⟨d0, hd0, rfl⟩ := hd
   obtain ⟨h6, h7, h8⟩ := h5 i d0 v hd0 hv
   exact ⟨VR.mono m _ _ _ (fun _ _ _ h => h) h6, h7, zeY h8⟩
 · have hg' : c.s.get (.lent j) = some r := by
    have : s'.get (.lent j) = some r := hg
    simp only [St.get, hl] at this
    exact this
   exact (hs.lent j r hg').mono m (fun h => h)
theorem ziv {L : List Nat} {s : St} {q : Pl} {r : Row} (h : s.get q = some r) (hk : (Kill.but L).pl q = false) : (s.norm L).get q = some r := by
 cases q with
 | slot y l =>
   have hm : memN y L = true := by simpa [Kill.but] using hk
   show (D.at_ l ((s.norm L).t y)).row? = _
   simp only [St.norm, hm]
   rw [zaZ]
   exact h
 | cell r0 o =>
   simp only [St.get, Option.bind_eq_some_iff] at h ⊢
   obtain ⟨cs, h1, d, h2, h3⟩ := h
   refine ⟨D.kills (Kill.but L) cs, ?_, d.kill (Kill.but L), by rw [zb1, h2]; rfl, ?_⟩
   · cases r0 with
     | loc n =>
       have hm : memN n L = true := by simpa [Kill.but] using hk
       have h1 : s.b n = some cs := h1
       simp only [St.norm, St.box, hm, h1, Option.map_some]
     | up n =>
       have h1 : s.u[n]? = some cs := h1
       simp only [St.norm, St.box, List.getElem?_map, h1, Option.map_some]
   · have := zaZ (k := Kill.but L) [] d
     simp only [D.at_] at this
     rw [this]; exact h3
 | lent j => exact h
theorem ziA {L : List Nat} {s : St} {r : Ref} {cs' : List D} (h : (s.norm L).box r = some cs') : ∃ cs, s.box r = some cs ∧ cs' = D.kills (Kill.but L) cs := by
 cases r with
 | loc n =>
   simp only [St.norm, St.box] at h
   split at h
   · simp only [Option.map_eq_some_iff] at h
     obtain ⟨cs, h1, h2⟩ := h
     exact ⟨cs, h1, h2.symm⟩
   · cases h
 | up n =>
   simp only [St.norm, St.box, List.getElem?_map, Option.map_eq_some_iff] at h
   obtain ⟨cs, h1, h2⟩ := h
   exact ⟨cs, h1, h2.symm⟩
theorem zdn {L : List Nat} {s : St} {r : Ref} (h : (s.box r).isSome = true) (hk : (Kill.but L).ref r = false) : ((s.norm L).box r).isSome = true := by
 obtain ⟨cs, hcs⟩ := Option.isSome_iff_exists.1 h
 cases r with
 | loc n =>
   have hm : memN n L = true := by simpa [Kill.but] using hk
   have hcs : s.b n = some cs := hcs
   simp only [St.norm, St.box, hm, hcs, Option.map_some, Option.isSome_some]
 | up n =>
   have hcs : s.u[n]? = some cs := hcs
   simp only [St.norm, St.box, List.getElem?_map, hcs, Option.map_some, Option.isSome_some]
theorem zfP {c : Cx} {a : Act} {X : Nat} (L : List Nat) (hf : Fr X c a) : Fr X { c with s := c.s.norm L } a := by
 refine ⟨zcD (K := Kill.but L) hf.sim (fun y => ?_) (fun r cs' h => ziA h) rfl (fun q r h hk => ziv h hk) (fun r h hk => zdn h hk), hf.ghost.out, ?_⟩
 · cases hm : memN y L with
   | true => right; simp only [St.norm, hm]; exact ⟨trivial, trivial⟩
   | false => left; simp only [St.norm, hm]
 · show ((c.s.norm L).t X).hasOwn = false
   cases hm : memN X L with
   | true => simp only [St.norm, hm]; rw [zaw]; exact hf.ghost.own
   | false => simp only [St.norm, hm]; rfl
def X.exit' : X → Exit
 | .normal => .normal
 | .exit id => .exit id
 | .ret => .ret
def zbj (nt : Nat) : Code → Bool
 | .region _ ops _ => ops.toList.all (za6 nt)
 | .seq a b => zbj nt a && zbj nt b
 | .cond _ a b => zbj nt a && zbj nt b
 | .block _ a => zbj nt a
 | .loop a => zbj nt a
 | _ => true
def zlD (P : Program) (B : Nat → Option Obj) (E : Env) (X : Nat) (id : Nat) (ops : Array Oper) : Prop :=
 ∀ (c : Cx) (a : Act) (s' : St) (Q : Exit → Act → World → Prop), EnvOK P B E c a → Fr X c a → zb6 E id ops true c.s = some s' → EndsIn P X c a s' (Q .normal) → (Code.region id ops true).wp P Q a c.W
def zcb (P : Program) (B : Nat → Option Obj) (E : Env) (X : Nat) : Code → Prop
 | .region id ops draw => draw = true → zlD P B E X id ops
 | .seq a b => zcb P B E X a ∧ zcb P B E X b
 | .cond _ a b => zcb P B E X a ∧ zcb P B E X b
 | .block _ a => zcb P B E X a
 | .loop a => zcb P B E X a
 | _ => True
section
variable {P : Program} {E : Env} {X : Nat}
theorem EndsIn.from {c c1 : Cx} {a a1 : Act} {s' : St} {Q : Act → World → Prop} (h : EndsIn P X c a s' Q) (he : Ext c c1) (h1 : a1.tmps.size = a.tmps.size) (h2 : a1.defers = a.defers) : EndsIn P X c1 a1 s' Q :=
 fun a' c' hs hf he' hsz hdf => h a' c' hs hf (he.trans he') (hsz.trans h1) (hdf.trans h2)
theorem zam (k : Nat) : ∀ (code : Code) (c : Cx) (a : Act) (x : Go.Den.X) (s' : St) (Q : Exit → Act → World → Prop), zbj E.nt code = true → zcb P B E X code → EnvOK P B E c a → Fr X c a → exec E k code c.s = some (x, s') → EndsIn P X c a s' (Q x.exit') → code.wp P Q a c.W
 | .skip, c, a, x, s', Q, hk, hd, hE, hf, h, hQ => by
   simp only [exec, Option.some.injEq, Prod.mk.injEq] at h
   obtain ⟨rfl, rfl⟩ := h
   exact wp_skip (hQ a c rfl hf (Ext.refl c) rfl rfl)
 | .region id ops draw, c, a, x, s', Q, hk, hd, hE, hf, h, hQ => by
   simp only [exec, Option.map_eq_some_iff, Prod.mk.injEq] at h
   obtain ⟨s1, h1, rfl, rfl⟩ := h
   cases draw with
   | false =>
     have hops : ∀ o ∈ ops.toList, za6 E.nt o = true := List.all_eq_true.1 hk
     exact wp_region_list (zcC hops ops.toList c a s1 hops hE hf h1 hQ)
   | true => exact hd rfl c a s1 Q hE hf h1 hQ
 | .seq p q, c, a, x, s', Q, hk, hd, hE, hf, h, hQ => by
   have hk' : (zbj E.nt p && zbj E.nt q) = true := hk
   simp only [Bool.and_eq_true] at hk'
   simp only [exec] at h
   cases h1 : exec E k p c.s with
   | none => rw [h1] at h; cases h
   | some r =>
     obtain ⟨x1, s1⟩ := r
     rw [h1] at h
     refine wp_seq ?_
     cases x1 with
     | normal =>
       simp only at h
       refine zam k p c a .normal s1 _ hk'.1 hd.1 hE hf h1 fun a' c' hs hf' he hsz hdf => ?_
       exact zam k q c' a' x s' Q hk'.2 hd.2 (hE.next he hsz) hf' (by rw [hs]; exact h) (hQ.from he hsz hdf)
     | exit id =>
       simp only [Option.some.injEq, Prod.mk.injEq] at h
       obtain ⟨rfl, rfl⟩ := h
       exact zam k p c a (.exit id) s1 _ hk'.1 hd.1 hE hf h1 hQ
     | ret =>
       simp only [Option.some.injEq, Prod.mk.injEq] at h
       obtain ⟨rfl, rfl⟩ := h
       exact zam k p c a .ret s1 _ hk'.1 hd.1 hE hf h1 hQ
 | .cond z p q, c, a, x, s', Q, hk, hd, hE, hf, h, hQ => by
   have hk' : (zbj E.nt p && zbj E.nt q) = true := hk
   simp only [Bool.and_eq_true] at hk'
   simp only [exec] at h
   unfold zkO at h
   split at h
   · rename_i n
     split at h
     · rename_i b hb
       have hv := hf.sim.slots n
       rw [hb] at hv
       have hz : a.eval (.tmp n) = .bool b := (zaq hv).1
       cases b with
       | true =>
         simp only [zcO hb] at h
         exact wp_cond_true hz (zam k p c a x s' Q hk'.1 hd.1 hE hf h hQ)
       | false =>
         simp only [zcO hb] at h
         exact wp_cond_false hz (zam k q c a x s' Q hk'.2 hd.2 hE hf h hQ)
     · cases h
   · rename_i b
     cases b with
     | true => exact wp_cond_true rfl (zam k p c a x s' Q hk'.1 hd.1 hE hf h hQ)
     | false => exact wp_cond_false rfl (zam k q c a x s' Q hk'.2 hd.2 hE hf h hQ)
   · cases h
 | .block id p, c, a, x, s', Q, hk, hd, hE, hf, h, hQ => by
   simp only [exec] at h
   refine wp_block ?_
   cases h1 : exec E k p c.s with
   | none => rw [h1] at h; cases h
   | some r =>
     obtain ⟨x1, s1⟩ := r
     rw [h1] at h
     cases x1 with
     | exit i =>
       simp only at h
       split at h
       · rename_i hb
         simp only [Option.some.injEq, Prod.mk.injEq] at h
         obtain ⟨rfl, rfl⟩ := h
         have hi := beq_eq.1 hb
         subst hi
         refine zam k p c a (.exit i) s1 _ hk hd hE hf h1 fun a' c' hs hf' he hsz hdf => ?_
         have := hQ a' c' hs hf' he hsz hdf
         simpa [Den.X.exit', Exit.inBlock] using this
       · rename_i hb
         simp only [Option.some.injEq, Prod.mk.injEq] at h
         obtain ⟨rfl, rfl⟩ := h
         have hi := beq_ne.1 hb
         refine zam k p c a (.exit i) s1 _ hk hd hE hf h1 fun a' c' hs hf' he hsz hdf => ?_
         have := hQ a' c' hs hf' he hsz hdf
         simpa [Den.X.exit', Exit.inBlock, hi] using this
     | normal =>
       simp only [Option.some.injEq, Prod.mk.injEq] at h
       obtain ⟨rfl, rfl⟩ := h
       exact zam k p c a .normal s1 _ hk hd hE hf h1 hQ
     | ret =>
       simp only [Option.some.injEq, Prod.mk.injEq] at h
       obtain ⟨rfl, rfl⟩ := h
       exact zam k p c a .ret s1 _ hk hd hE hf h1 hQ
 | .loop p, c, a, x, s', Q, hk, hd, hE, hf, h0, hQ0 => by
   simp only [exec, Option.map_eq_some_iff, Prod.mk.injEq] at h0
   obtain ⟨⟨x0, s''⟩, h, rfl, rfl⟩ := h0
   have hQ : EndsIn P X c a s'' (Q x0.exit') := fun a' c' hs hf' he hsz hdf => by
    have hf1 := zfP (E.out (zaa p)) hf'
    rw [show c'.s = s'' from hs] at hf1
    exact hQ0 a' { c' with s := s''.norm (E.out (zaa p)) } rfl hf1 (he.trans ((Ext.refl c').setS _)) hsz hdf
   clear hQ0
   generalize x0 = x at *
   generalize s'' = s' at *
   have key : ∀ (n : Nat) (c : Cx) (a : Act), EnvOK P B E c a → Fr X c a → iter (exec E k p) (St.norm (E.live (zaa p))) n c.s = some (x, s') → EndsIn P X c a s' (Q x.exit') → Code.rounds P p Q n a c.W := by
    intro n
    induction n with
    | zero => intro c a _ _ h _; cases h
    | succ n ih =>
      intro c a hE hf h hQ
      have hf1 := zfP (E.live (zaa p)) hf
      have he1 : Ext c { c with s := c.s.norm (E.live (zaa p)) } := (Ext.refl c).setS _
      have hE1 : EnvOK P B E { c with s := c.s.norm (E.live (zaa p)) } a := hE.next he1 rfl
      simp only [iter] at h
      show p.wp P (Exit.then (Code.rounds P p Q n) Q) a c.W
      cases h1 : exec E k p (c.s.norm (E.live (zaa p))) with
      | none => rw [h1] at h; cases h
      | some r =>
        obtain ⟨x1, s1⟩ := r
        rw [h1] at h
        cases x1 with
        | normal =>
          simp only at h
          refine zam k p { c with s := c.s.norm (E.live (zaa p)) } a .normal s1 _ hk hd hE1 hf1 h1 fun a' c' hs hf' he hsz hdf => ?_
          exact ih c' a' (hE1.next he hsz) hf' (by rw [hs]; exact h) (hQ.from (he1.trans he) hsz hdf)
        | exit id =>
          simp only [Option.some.injEq, Prod.mk.injEq] at h
          obtain ⟨rfl, rfl⟩ := h
          exact zam k p { c with s := c.s.norm (E.live (zaa p)) } a (.exit id) s1 _ hk hd hE1 hf1 h1 (hQ.from he1 rfl rfl)
        | ret =>
          simp only [Option.some.injEq, Prod.mk.injEq] at h
          obtain ⟨rfl, rfl⟩ := h
          exact zam k p { c with s := c.s.norm (E.live (zaa p)) } a .ret s1 _ hk hd hE1 hf1 h1 (hQ.from he1 rfl rfl)
   exact wp_loop_rounds k (key k c a hE hf h hQ)
 | .exit id, c, a, x, s', Q, hk, hd, hE, hf, h, hQ => by
   simp only [exec, Option.some.injEq, Prod.mk.injEq] at h
   obtain ⟨rfl, rfl⟩ := h
   exact wp_exit (hQ a c rfl hf (Ext.refl c) rfl rfl)
 | .ret, c, a, x, s', Q, hk, hd, hE, hf, h, hQ => by
   simp only [exec, Option.some.injEq, Prod.mk.injEq] at h
   obtain ⟨rfl, rfl⟩ := h
   exact wp_ret (hQ a c rfl hf (Ext.refl c) rfl rfl)
 | .label l, c, a, x, s', Q, hk, hd, hE, hf, h, hQ => by cases h
 | .goto l, c, a, x, s', Q, hk, hd, hE, hf, h, hQ => by cases h
end
end Go.Den
namespace Go.Den
open Go Go.RowKit
set_option linter.unusedVariables false
variable {B : Nat → Option Obj}
section
variable {P : Program} {c : Cx} {tm : Array Value} {X : Nat}
theorem zjk {lv : Bool} {d d' : D} {s1 : St} {v : Value} {i : Nat} (hs : Sim c tm) (hX : Ghost c tm X) (h : expD lv d c.s = some (d', s1)) (hv : VW c d v) :
 ∃ c', c'.s = s1 ∧ Sim c' tm ∧ Ghost c' tm X ∧ VR c' (.slot X [i]) d' v ∧ d'.plain = true ∧ Took c c' false (fun q => ∃ l, q = .slot X (i :: l)) := by
 unfold expD at h
 split at h
 · cases h
   exact ⟨c, rfl, hs, hX, hv, rfl, Took.refl _ _ _⟩
 · rename_i p n
   have key : ∀ q, c.s.take p = some q → (D.own q.1.1 (zaT n q.1.2), q.2) = (d', s1) → ∃ c', c'.s = s1 ∧ Sim c' tm ∧ Ghost c' tm X ∧ VR c' (.slot X [i]) d' v ∧ d'.plain = true ∧ Took c c' false (fun q => ∃ l, q = .slot X (i :: l)) := by
    intro q hq he
    cases he
    obtain ⟨c1, h4, h5, h6, h7, h8⟩ := zb8 (sl := false) (π := [i]) hs hX hq (by simp) hv
    exact ⟨c1, h4, h5, h6, h7, rfl, h8.weak fun q ⟨l, e⟩ => ⟨l, e⟩⟩
   split at h
   · simp only [Option.map_eq_some_iff] at h
     obtain ⟨q, hq, he⟩ := h
     exact key q hq he
   · simp only [Option.map_eq_some_iff] at h
     obtain ⟨q, hq, he⟩ := h
     exact key q hq he
   · cases h
 · split at h
   · simp only [Option.map_eq_some_iff] at h
     obtain ⟨q, hq, he⟩ := h
     cases he
     obtain ⟨c', h1, h2, h3, h4, h5⟩ := zb2 _ c v q.1 q.2 hs hq hv
     exact ⟨c', h1, h2, h5 X hX, h3, rfl, h4.weak fun _ h => h.elim⟩
   · simp only [Option.bind_eq_some_iff] at h
     obtain ⟨q, hq, h⟩ := h
     split at h
     · rename_i hb
       cases h
       simp only [Bool.and_eq_true] at hb
       obtain ⟨c', h1, h2, h3, h4, h5⟩ := zbF _ [i] c v d' s1 hs hX hq hv hb.2
       exact ⟨c', h1, h2, h3, h4, hb.1, h5.weak fun q ⟨l, e⟩ => ⟨l, e⟩⟩
     · cases h
 · cases h
   exact ⟨c, rfl, hs, hX, hv, rfl, Took.refl _ _ _⟩
 · cases h
theorem zhR {ds : List D} (h : ∀ (i : Nat) (d : D), ds[i]? = some d → d.hasOwn = false) : D.hasOwns ds = false := by
 induction ds with
 | nil => rfl
 | cons e ds ih =>
   show (D.hasOwn e || D.hasOwns ds) = false
   rw [h 0 e rfl, ih fun i d hd => h (i + 1) d (by simpa using hd)]
   rfl
theorem zk3 {t : TypeId} {i : TI} {r : Ref} {n : Nat} {cs : List D} {d : D} (hty : TyOk P c.ty) (hs : Sim c tm) (hb : c.s.box r = some cs) (hm : isM cs = false) (ht : c.ty t = some i) (h : Den.loadCells i (Pl.cell r) cs n = some d) :
 ∃ v, (Instr.loadAt t (.pointer (some ⟨c.β r, n, none⟩))).run P c.W = .ok v c.W ∧ VR c (.lent 0) d v ∧ d.hasOwn = false := by
 obtain ⟨_, de, _, hf⟩ := hty.facts ht
 obtain ⟨vs, hl, hc, hcell⟩ := zha hs hb hm
 unfold Den.loadCells at h
 split at h
 · rename_i ha
   split at h
   · rename_i hsz
     cases h
     have h3 : ∀ (j : Nat) (v : Value), ((vs.drop n).take i.sz)[j]? = some v → c.W.cell? ⟨c.β r, n + j, none⟩ = some v := by
      intro j v hj
      rw [List.getElem?_take] at hj
      split at hj
      · rw [List.getElem?_drop] at hj
        exact hc _ v hj
      · cases hj
     refine ⟨.agg ((vs.drop n).take i.sz).toArray, zc9 hf c.W h3 ha (by simp; omega), zeU (by simp [hl]) fun j d v hd hu => ?_, ?_⟩
     · rw [List.getElem?_mapIdx] at hd
       simp only [Option.map_eq_some_iff] at hd
       obtain ⟨d0, hd0, rfl⟩ := hd
       have hlt : j < i.sz := by
        have := (List.getElem?_eq_some_iff.1 hd0).1
        simp at this; omega
       rw [List.getElem?_take_of_lt hlt, List.getElem?_drop] at hd0 hu
       obtain ⟨h4, h5, h6⟩ := hcell _ d0 v hd0 hu
       exact ⟨zcK hb hd0 h6 h4 _, h5⟩
     · unfold aggD
       split
       · rfl
       · refine zhR fun j d hd => ?_
         rw [List.getElem?_mapIdx] at hd
         simp only [Option.map_eq_some_iff] at hd
         obtain ⟨d0, hd0, rfl⟩ := hd
         exact zcg _
   · cases h
 · rename_i ha
   simp only [Option.map_eq_some_iff] at h
   obtain ⟨d0, hd0, rfl⟩ := h
   have hlt := (List.getElem?_eq_some_iff.1 hd0).1
   have hu := List.getElem?_eq_getElem (show n < vs.length by omega)
   obtain ⟨h4, h5, h6⟩ := hcell n d0 _ hd0 hu
   exact ⟨vs[n], zch hf c.W (hc _ _ hu) ha, zcK hb hd0 h6 h4 _, zcg _⟩
def resM (tm : Array Value) : ResultVar → Sem Value
 | .tmp t => pure (tm.getD t undef)
 | .cell a t => do loadVar t (← asAddr (tm.getD a undef))
theorem zi5 {rv : ResultVar} {d : D} (hty : TyOk P c.ty) (hs : Sim c tm) (h : resD c.ty c.s rv = some d) : ∃ v, (resM tm rv).run P c.W = .ok v c.W ∧ VW c d v := by
 cases rv with
 | tmp t =>
   simp only [resD, Option.some.injEq] at h
   subst h
   have hl := zaf (a := ⟨tm, []⟩) hs (.tmp t) (.lent 0)
   exact ⟨tm.getD t undef, rfl, VW.of (.lent 0) _ _ hl.2 hl.1⟩
 | cell y t =>
   simp only [resD, Option.bind_eq_some_iff] at h
   obtain ⟨i, hi, h⟩ := h
   split at h
   · rename_i r n hy
     simp only [Option.bind_eq_some_iff] at h
     obtain ⟨cs, hb, h⟩ := h
     split at h
     · cases h
     rename_i hm
     have hv := hs.slots y
     rw [hy] at hv
     obtain ⟨v, h1, h2, h3⟩ := zk3 hty hs hb hm hi h
     refine ⟨v, ?_, VW.of _ _ _ h3 h2⟩
     simpa [resM, hv.2, asAddr, Instr.loadAt, Instr.sureAddr] using h1
   · cases h
theorem zdB {lv : Bool} : ∀ (rvs : List ResultVar) (i : Nat) (c : Cx) (rs : List D) (s' : St), TyOk P c.ty → Sim c tm → Ghost c tm X → Den.results c.ty lv rvs c.s = some (rs, s') →
 ∃ c' us, c'.s = s' ∧ c'.W = c.W ∧ Sim c' tm ∧ Ghost c' tm X ∧ Took c c' false (ownZ X i) ∧ us.length = rs.length ∧ (rvs.mapM (resM tm)).run P c.W = .ok us c.W ∧ ∀ (j : Nat) (d : D) (u : Value), rs[j]? = some d → us[j]? = some u → VR c' (.slot X [i + j]) d u ∧ d.plain = true
 | [], i, c, rs, s', hty, hs, hX, h => by
   cases h
   exact ⟨c, [], rfl, rfl, hs, hX, Took.refl _ _ _, rfl, rfl, fun j d u hd => by simp at hd⟩
 | rv :: rvs, i, c, rs, s', hty, hs, hX, h => by
   simp only [Den.results, Option.bind_eq_some_iff, Option.map_eq_some_iff] at h
   obtain ⟨d, hd, ⟨d1, s1⟩, he, ⟨rs2, s2⟩, hr, h⟩ := h
   cases h
   obtain ⟨v, h1, h2⟩ := zi5 hty hs hd
   obtain ⟨c1, h3, h4, h5, h6, h7, h8⟩ := zjk (i := i) hs hX he h2
   have hty1 : c1.ty = c.ty := h8.ext.ty
   obtain ⟨c2, us, h9, h10, h11, h12, h13, h14, h15, h16⟩ := zdB rvs (i + 1) c1 rs2 s2 (by rw [hty1]; exact hty) h4 h5 (by rw [hty1, h3]; exact hr)
   refine ⟨c2, v :: us, h9, h10.trans h8.W, h11, h12, (h8.weak fun q ⟨l, e⟩ => ⟨i, l, Nat.le_refl _, e⟩).trans (h13.weak fun q ⟨j, l, hj, e⟩ => ⟨j, l, by omega, e⟩), by simp [h14], ?_, fun j d' u hd' hu => ?_⟩
   · rw [h8.W] at h15
     simp only [List.mapM_cons, Sem.run_bind, h1, Result.andThen_ok, h15, Sem.run_pure]
   · cases j with
     | zero =>
       simp at hd' hu
       subst hd' hu
       refine ⟨?_, h7⟩
       refine h13.vr _ _ _ h6 (zbH _ h7) fun l r hr => ⟨?_, ?_⟩
       · rintro ⟨j, l', hj, e'⟩
         have e'' : Pl.slot X ([i] ++ l) = Pl.slot X (j :: l') := e'
         injection e'' with _ e''
         simp at e''
         omega
       · cases hg : c1.s.get ((Pl.slot X [i]).subs l) with
         | none => rfl
         | some r' => exact (h5.get hg ⟨[i] ++ l, rfl⟩).elim
     | succ j =>
       have := h16 j d' u (by simpa using hd') (by simpa using hu)
       rwa [show i + 1 + j = i + (j + 1) by omega] at this
def zgM : List Value → Value
 | [v] => v
 | vs => .tuple vs.toArray
theorem zfm {fn : Func} {W : World} {us : List Value} (h : (fn.results.toList.mapM (resM tm)).run P W = .ok us W) : (Go.results fn tm).run P W = .ok (zgM us) W := by
 have h2 : (fn.results.mapM (resM tm)).run P W = .ok us.toArray W := by
  rw [Array.mapM_eq_mapM_toList]
  show Sem.run P ((List.mapM (resM tm) fn.results.toList) >>= fun l => pure l.toArray) W = _
  rw [Sem.run_bind, h]
  rfl
 have h3 : Go.results fn tm = (do
  let vs ← fn.results.mapM (resM tm)
  pure (if h : vs.size = 1 then vs[0] else .tuple vs)) := by
  unfold Go.results
  congr 1
 rw [h3]
 simp only [Sem.run_bind, h2, Result.andThen_ok, Sem.run_pure]
 congr 1
 cases us with
 | nil => rfl
 | cons u us =>
   cases us with
   | nil => rfl
   | cons u2 us => simp [zgM]
def outSt (rs : List D) (u : List (List D)) (l : List (Option Row)) : St := ⟨fun x => match Nat.beq x 0 with | true => retD rs | false => .junk, fun _ => none, u, l⟩
theorem zdj {s : St} {q : Pl} {r : Row} (h : (s.norm []).get q = some r) : ¬ ∃ y l, q = .slot y l := by
 rintro ⟨y, l, rfl⟩
 have : (D.at_ l D.junk).row? = some r := h
 rw [zeZ] at this
 cases this
theorem zdL {c' : Cx} {fwd : List Nat → Option Pl} {bwd : Pl → Option (List Nat)} {d : D} {v : Value} {tm' : Array Value} (hs : Sim c' tm) (hfb : ∀ l q, fwd l = some q → bwd q = some l) (hbw : ∀ q l, bwd q = some l → zaI 0 q)
 (hv : ∀ c1, HomeTo { c' with s := ⟨fun _ => .undef, fun _ => none, [], []⟩ } c1 false X fwd → VR c1 (.slot 0 []) d v) (hd : ∀ c1 s, VR c1 (.slot 0 []) d v → VR { c1 with s := s } (.slot 0 []) d v) :
 ∃ c'', c''.W = c'.W ∧ c''.s = ⟨fun x => match Nat.beq x 0 with | true => d | false => .junk, fun _ => none, c'.s.u.map (D.kills (Kill.but [])), c'.s.l⟩ ∧ Sim c'' #[v] ∧ Ext c' c'' := by
 -- all is forgotten
 have h1 : Sim { c' with s := c'.s.norm [] } #[v] := zcD (K := Kill.but []) hs (fun y => .inl rfl) (fun r cs' h => ziA h) rfl (fun q r h hk => ziv h hk) (fun r h hk => zdn h hk)
 -- what is returned is laid at its place
 let c1 : Cx := Cx.home { c' with s := c'.s.norm [] } X fwd bwd
 have hns : ∀ q r, (c'.s.norm []).get q = some r → ¬ (zaI X q ∨ zaI 0 q) := fun q r h => by
  rintro (⟨l, e⟩ | ⟨l, e⟩) <;> exact zdj h ⟨_, _, e⟩
 have hH : ∀ q, ¬ zaI 0 q → c1.H q = c'.H q := fun q hq => by
  have : bwd q = none := by
   cases hb : bwd q with
   | none => rfl
   | some l => exact absurd (hbw q l hb) hq
  simp only [c1, Cx.home, this]
 have hρ : ∀ g, (∀ q, c'.ρ g = .row q → ¬ zaI X q) → c1.ρ g = c'.ρ g := fun g hq => Cx.home_ρ (c := { c' with s := c'.s.norm [] }) (X := X) (fwd := fwd) (bwd := bwd) g (fun l e => hq _ e ⟨l, rfl⟩)
 have m : Mono { c' with s := c'.s.norm [] } c1 Kill.none (fun q => zaI X q ∨ zaI 0 q) := ⟨rfl, fun b g h _ => ⟨Cx.home_rd (c := { c' with s := c'.s.norm [] }) (X := X) (fwd := fwd) (bwd := bwd) b g h, rfl⟩, fun q r h _ => ⟨h, hH q fun e => hns q r h (.inr e)⟩, fun r h _ => ⟨h, rfl⟩, fun q hq => ⟨hH q fun e => hq (.inr e), fun g h _ => ⟨by rw [hρ g fun q' e => by have e2 : c'.ρ g = .row q := h; rw [e2] at e; injection e with e; rw [← e]; exact fun h => hq (.inl h)]; exact h, rfl⟩⟩⟩
 have h2 : Sim c1 #[v] := Sim.same (Z := fun q => zaI X q ∨ zaI 0 q) h1 rfl hns m fun r hr => by
  obtain ⟨cs, hb⟩ := Option.isSome_iff_exists.1 hr
  obtain ⟨vs, T, h3, h4, _⟩ := (h1.boxes r cs hb).out
  refine ⟨?_, rfl⟩
  rw [show c1.ρ _ = _ from hρ _ fun q e => by have h4' : c'.ρ (c'.β r) = .box r := h4; rw [h4'] at e; cases e]
  exact h4
 have hval : VR c1 (.slot 0 []) d v := by
  refine hv c1 ⟨rfl, fun b g h _ => ⟨Cx.home_rd (c := { c' with s := c'.s.norm [] }) (X := X) (fwd := fwd) (bwd := bwd) b g h, rfl⟩, fun l q hl => ⟨?_, fun g hg _ => ⟨?_, rfl⟩⟩, fun r hr => ?_, fun q r hf => by cases hf⟩
  · have := hfb l q hl
    simp only [c1, Cx.home, this]
  · exact Cx.home_row (c := { c' with s := c'.s.norm [] }) (bwd := bwd) hg hl
  · cases r <;> simp [St.box] at hr
 let sF : St := ⟨fun x => match Nat.beq x 0 with | true => d | false => .junk, fun _ => none, c'.s.u.map (D.kills (Kill.but [])), c'.s.l⟩
 have hbx : ∀ r, sF.box r = (c'.s.norm []).box r := fun r => by cases r <;> rfl
 have mF : Mono c1 { c1 with s := sF } Kill.none (fun _ => False) := by
  refine ⟨rfl, fun b g h _ => ⟨h, rfl⟩, fun q r h _ => ⟨?_, rfl⟩, fun r h _ => ⟨by show (sF.box r).isSome = true; rw [hbx]; exact h, rfl⟩, fun q _ => ⟨rfl, fun g h _ => ⟨h, rfl⟩⟩⟩
  have h' : (c'.s.norm []).get q = some r := h
  cases q with
  | slot y l => exact absurd ⟨y, l, rfl⟩ (zdj h')
  | cell r0 o =>
    show (sF.get (.cell r0 o)) = _
    simp only [St.get, hbx]
    exact h'
  | lent j => exact h'
 refine ⟨{ c1 with s := sF }, rfl, rfl, ⟨fun y => ?_, fun r cs hb => ?_, fun j r hg => ?_⟩, ⟨rfl, rfl, rfl, Nat.le_refl _, fun g _ hst => ⟨hρ g fun q e => by rw [e] at hst; exact hst.elim, rfl⟩, rfl, fun _ => rfl, fun j => hH _ fun ⟨l, e⟩ => by cases e⟩⟩
 · show VR _ _ (match Nat.beq y 0 with | true => d | false => .junk) _
   cases hb : Nat.beq y 0 with
   | true =>
     have hy := beq_eq.1 hb
     subst hy
     exact hd c1 sF hval
   | false => trivial
 · have hb' : (c'.s.norm []).box r = some cs := by rw [← hbx]; exact hb
   obtain ⟨vs, T, h3, h4, h5, h6⟩ := (h2.boxes r cs hb').out
   exact ⟨vs, T, h3, h4, h5, fun i d v hd hv => by
    obtain ⟨h7, h8, h9⟩ := h6 i d v hd hv
    exact ⟨VR.same mF (fun _ _ _ h => h) h7, h8, h9⟩⟩
 · exact (h2.lent j r hg).mono mF (fun h => h)
theorem zic {c' : Cx} {rs : List D} {us : List Value} (hs : Sim c' tm) (hl : us.length = rs.length) (hv : ∀ (j : Nat) (d : D) (u : Value), rs[j]? = some d → us[j]? = some u → VR c' (.slot X [0 + j]) d u ∧ d.plain = true) :
 ∃ c'', c''.W = c'.W ∧ c''.s = outSt rs (c'.s.u.map (D.kills (Kill.but []))) c'.s.l ∧ Sim c'' #[zgM us] ∧ Ext c' c'' ∧ (retD rs).plain = true ∧ D.plains rs = true := by
 have hplain : D.plains rs = true := by
  have : ∀ (rs : List D), (∀ (j : Nat) (d : D), rs[j]? = some d → d.plain = true) → D.plains rs = true := by
   intro rs
   induction rs with
   | nil => intro _; rfl
   | cons r rs ih =>
     intro h
     show (r.plain && D.plains rs) = true
     rw [h 0 r rfl, ih fun j d hd => h (j + 1) d (by simpa using hd)]
     rfl
  refine this rs fun j d hd => ?_
  have hlt := (List.getElem?_eq_some_iff.1 hd).1
  exact (hv j d _ hd (List.getElem?_eq_getElem (by omega))).2
 have hp := zdP hplain
 have hd : ∀ (v : Value) (c1 : Cx) (s : St), VR c1 (.slot 0 []) (retD rs) v → VR { c1 with s := s } (.slot 0 []) (retD rs) v := fun v c1 s h => zdt s _ _ _ hp h
 cases rs with
 | nil =>
   have hu : us = [] := List.eq_nil_of_length_eq_zero hl
   subst hu
   obtain ⟨c'', h1, h2, h3, h4⟩ := zdL (X := X) (fwd := zbB 0) (bwd := ofSlot 0) (d := .undef) (v := zgM []) (tm' := tm) hs (fun l q h => by cases h; exact zbk) (fun q l h => by
    cases q with
    | slot y l' =>
      simp only [ofSlot] at h
      split at h
      · rename_i hb; exact ⟨l', by rw [beq_eq.1 hb]⟩
      · cases h
    | _ => cases h) (fun c1 _ => rfl) (fun _ _ h => h)
   exact ⟨c'', h1, h2, h3, h4, rfl, hplain⟩
 | cons r0 rs0 =>
   cases rs0 with
   | nil =>
     obtain ⟨u0, hu⟩ : ∃ u0, us = [u0] := by
      cases us with
      | nil => cases hl
      | cons u us => cases us with
        | nil => exact ⟨u, rfl⟩
        | cons _ _ => simp at hl
     subst hu
     obtain ⟨h5, h6⟩ := hv 0 r0 u0 rfl rfl
     let fwd : List Nat → Option Pl := fun l => match l with | 0 :: l' => some (.slot 0 l') | _ => none
     let bwd : Pl → Option (List Nat) := fun q => (ofSlot 0 q).map (0 :: ·)
     obtain ⟨c'', h1, h2, h3, h4⟩ := zdL (X := X) (fwd := fwd) (bwd := bwd) (d := r0) (v := u0) (tm' := tm) hs (fun l q h => by
      simp only [fwd] at h
      split at h
      · cases h
        simp only [bwd, zbk, Option.map_some]
      · cases h) (fun q l h => by
      simp only [bwd, Option.map_eq_some_iff] at h
      obtain ⟨l0, h, _⟩ := h
      cases q with
      | slot y l' =>
        simp only [ofSlot] at h
        split at h
        · rename_i hb; exact ⟨l', by rw [beq_eq.1 hb]⟩
        · cases h
      | _ => cases h) (fun c1 hh => zbO hh r0 [0] (.slot 0 []) u0 (zbH _ h6) (zdt _ _ _ _ h6 h5) (fun l r hr => by rw [zaj]; rfl)) (hd u0)
     exact ⟨c'', h1, h2, h3, h4, hp, hplain⟩
   | cons r1 rs1 =>
     obtain ⟨u0, u1, us1, hu⟩ : ∃ u0 u1 us1, us = u0 :: u1 :: us1 := by
      cases us with
      | nil => cases hl
      | cons u us => cases us with
        | nil => simp at hl
        | cons u2 us => exact ⟨u, u2, us, rfl⟩
     obtain ⟨c'', h1, h2, h3, h4⟩ := zdL (X := X) (fwd := zbB 0) (bwd := ofSlot 0) (d := .seq true (r0 :: r1 :: rs1)) (v := .tuple us.toArray) (tm' := tm) hs (fun l q h => by cases h; exact zbk) (fun q l h => by
      cases q with
      | slot y l' =>
        simp only [ofSlot] at h
        split at h
        · rename_i hb; exact ⟨l', by rw [beq_eq.1 hb]⟩
        · cases h
      | _ => cases h) (fun c1 hh => ⟨us, rfl, (fun e => by cases e), VRs.mk hl fun i d v hdi hvi => by
        obtain ⟨h5, h6⟩ := hv i d v hdi hvi
        exact zbO hh d [0 + i] (.slot 0 [0 + i]) v (zbH _ h6) (zdt _ _ _ _ h6 h5) (fun l r hr => rfl)⟩) (hd _)
     refine ⟨c'', h1, h2, ?_, h4, hp, hplain⟩
     rw [hu] at h3 ⊢
     exact h3
end
structure FnOK (P : Program) (B : Nat → Option Obj) (C : Cfg) (f : Nat) (fn : Func) : Prop where
 there : P.funcs[f]? = some fn
 name : (fn.name == "runtime.NumGoroutine") = false
 code : ∀ c, fn.body = some c → zbj fn.ntmps c = true
 draws : ∀ c, fn.body = some c → ∀ call, zck P C.ty B call → zcb P B ⟨C.ty, C.mode, fn.ntmps, C.live f, C.out f, C.plan f, call⟩ fn.ntmps c
structure CfgOK (P : Program) (B : Nat → Option Obj) (C : Cfg) : Prop where
 ty : TyOk P C.ty
 fn : ∀ f fn, C.fn f = some fn → FnOK P B C f fn
 ext : ∀ f g, C.ext f = some g → zck P C.ty B fun f' args u l => if f' = f then g args u l else none
theorem zkD {vals : Array Value} {n y : Nat} : (vals ++ Array.replicate n undef).getD y undef = vals.getD y undef := by
 simp only [Array.getD_eq_getD_getElem?]
 by_cases hy : y < vals.size
 · rw [Array.getElem?_append_left hy]
 · have e0 : vals[y]? = none := Array.getElem?_eq_none (by omega)
   rw [Array.getElem?_append_right (by omega), e0]
   by_cases h2 : y - vals.size < n
   · simp [Array.getElem?_replicate, h2]
   · have e1 : (Array.replicate n undef)[y - vals.size]? = none := Array.getElem?_eq_none (by simp; omega)
     rw [e1]
theorem zg1 {c1 : Cx} {tm : Array Value} {n : Nat} {cs : List D} (hs : Sim c1 tm) (hb : c1.s.b n = some cs) (hc : cs.all zcE = true) :
 ∃ c', c'.W = c1.W ∧ c'.s = zkN cs ∧ Sim c' #[] ∧ c'.β (.loc 0) = c1.β (.loc n) ∧ Ext c1 c' := by
 let c' : Cx :=
  { c1 with
    β := fun r => match r.is (.loc 0) with | true => c1.β (.loc n) | false => c1.β r
    ρ := fun g => match c1.ρ g with
     | .box r => (match r.is (.loc n) with | true => .box (.loc 0) | false => .oth)
     | .row (.cell r i) => (match r.is (.loc n) with | true => .row (.cell (.loc 0) i) | false => .oth)
     | .row _ => .oth
     | x => x
    H := fun q => match q with
     | .cell r i => (match r.is (.loc 0) with | true => c1.H (.cell (.loc n) i) | false => c1.H q)
     | q => c1.H q
    s := zkN cs }
 have hself : ∀ k, (Ref.loc k).is (.loc k) = true := fun k => Ref.is_eq.2 rfl
 have hst : ∀ g, stable (c1.ρ g) → c'.ρ g = c1.ρ g := fun g h => by
  simp only [c']
  generalize c1.ρ g = x at h
  cases x <;> first | rfl | exact h.elim
 have hrd : ∀ b g, Rd c1.ρ b g → g < c1.W.heap.size → Rd c'.ρ b g ∧ c'.W.heap[g]? = c1.W.heap[g]? := fun b g h _ => by
  refine ⟨?_, rfl⟩
  have h2 := hst g h.stable
  unfold Rd at h ⊢
  rw [h2]
  exact h
 refine ⟨c', rfl, rfl, ⟨fun x => trivial, fun r cs' hb' => ?_, fun j r hg => ?_⟩, ?_, ⟨rfl, rfl, rfl, Nat.le_refl _, fun g _ h => ⟨hst g h, rfl⟩, rfl, fun k => rfl, fun j => rfl⟩⟩
 · have hr : r = .loc 0 ∧ cs' = cs := by
    cases r with
    | up k => have h : ([] : List (List D))[k]? = some cs' := hb'; simp at h
    | loc m =>
      have h : (match Nat.beq m 0 with | true => some cs | false => none) = some cs' := hb'
      cases hm : Nat.beq m 0 with
      | true => rw [hm] at h; cases h; rw [beq_eq.1 hm]; exact ⟨rfl, rfl⟩
      | false => rw [hm] at h; cases h
   obtain ⟨rfl, rfl⟩ := hr
   obtain ⟨vs, T, h1, h2, h3, h4⟩ := (hs.boxes (.loc n) cs' hb).out
   have hβ : c'.β (.loc 0) = c1.β (.loc n) := by simp only [c', hself]
   refine ⟨vs, T, by rw [hβ]; exact h1, ?_, h3, fun i d u hd hu => ?_⟩
   · rw [hβ]
     simp only [c', h2, hself]
   · obtain ⟨h5, h6, h7⟩ := h4 i d u hd hu
     refine ⟨?_, h6, h7⟩
     have hup : zcE d = true := (List.all_eq_true.1 hc) d (List.mem_of_getElem? hd)
     cases d with
     | dat dd =>
       obtain ⟨cv, h8, h9⟩ := h5
       exact ⟨cv, h8.mono hrd, h9⟩
     | own e es =>
       have hHc : c'.H (.cell (.loc 0) i) = c1.H (.cell (.loc n) i) := by simp only [c', hself]
       refine ⟨by rw [hHc]; exact h5.1, RowAt.ok ?_⟩
       rw [hHc]
       have hrow := h5.2.at_
       refine hrow.re rfl hrd fun g hg => ⟨?_, rfl⟩
       have hr := hrow.choose_spec.choose_spec.2.2.2 g hg
       simp only [c', hr, hself]
     | _ => cases hup
 · have h : (([] : List (Option Row))[j]?).bind id = some r := hg
   simp at h
 · simp only [c', hself]
theorem zdw {P : Program} {C : Cfg} (hC : CfgOK P B C) : ∀ k, zck P C.ty B (den C k)
 | 0 => fun f args u l rs u' l' h => by cases h
 | k + 1 => by
   intro f args u l rs u' l' h c vals hty hI hcs hsz hs
   unfold den at h
   split at h
   · rename_i r0 hg0
     obtain ⟨g, hg, hg0⟩ := Option.bind_eq_some_iff.1 hg0
     rw [← hg0] at h
     exact hC.ext f g hg f args u l rs u' l' (by show (if f = f then g args u l else none) = _; rw [if_pos rfl]; exact h) c vals hty hI hcs hsz hs
   · rename_i hext
     split at h
     · rename_i fn hfn
       split at h
       · rename_i hle
         have hF := hC.fn f fn hfn
         have hle : args.length ≤ fn.ntmps := by simpa using hle
         unfold zaF at h
         split at h
         · cases h
         · rename_i code hb
           -- the call enters
           have hent : (callFunc f vals).run P c.W = .ok (.enter f vals) c.W := by
            have h1 : fn.name ≠ "runtime.NumGoroutine" := by simpa using hF.name
            simp [callFunc, hF.there, h1, hb, mark]
           unfold Reaches
           rw [hent]
           show Calls P f vals c.W _
           refine calls_of_wp hF.there hb ?_
           let a : Act := { tmps := vals ++ Array.replicate (fn.ntmps - vals.size) undef, defers := [] }
           have hasz : a.tmps.size = fn.ntmps := by simp [a]; omega
           have hsim : Sim c a.tmps := ⟨fun y => by rw [show a.tmps.getD y undef = vals.getD y undef from zkD]; exact hs.slots y, hs.boxes, hs.lent⟩
           have hfr : Fr fn.ntmps c a := ⟨hsim, by rw [hasz]; exact Nat.le_refl _, by
            rw [hcs]
            show (args.getD fn.ntmps .undef).hasOwn = false
            rw [List.getD_eq_getElem?_getD, List.getElem?_eq_none (by omega)]
            rfl⟩
           have hE : EnvOK P B ⟨C.ty, C.mode, fn.ntmps, C.live f, C.out f, C.plan f, den C k⟩ c a := ⟨hty.symm, by rw [hty]; exact hC.ty, hI, by rw [hty]; exact zdw hC k, hasz⟩
           have fin : ∀ x s, exec ⟨C.ty, C.mode, fn.ntmps, C.live f, C.out f, C.plan f, den C k⟩ k code (start args u l) = some (x, s) → (x.exit' = .normal ∨ x.exit' = .ret) → zkF C.ty (C.liv f) fn.results.toList u.length s = some (rs, u', l') →
            code.wp P (bodyPost P fn fun | .returned v, W'' => ∃ c', c'.W = W'' ∧ Ans c rs u' l' v c' | _, _ => False) a c.W := by
            intro x s hx hxe hr
            simp only [zkF, Option.bind_eq_some_iff] at hr
            obtain ⟨⟨rs1, s1⟩, hres, hr⟩ := hr
            split at hr
            · rename_i hlen
              simp only [Option.some.injEq, Prod.mk.injEq] at hr
              obtain ⟨rfl, rfl, rfl⟩ := hr
              refine zam k code c a x s _ (hF.code code hb) (hF.draws code hb _ (zdw hC k)) hE hfr (by rw [hcs]; exact hx) fun a' c1 hs1 hf1 he1 hsz1 hdf1 => ?_
              have hty1 : c1.ty = C.ty := he1.ty.trans hty
              obtain ⟨c2, us, h2, h3, h4, h5, h6, h7, h8, h9⟩ := zdB fn.results.toList 0 c1 rs1 s1 (by rw [hty1]; exact hC.ty) hf1.sim hf1.ghost (by rw [hty1, hs1]; exact hres)
              obtain ⟨c3, h10, h11, h12, h13, h14, h15⟩ := zic h4 h7 h9
              have hpost : a'.defers = [] ∧ ∃ v, (Go.results fn a'.tmps).run P c1.W = .ok v c1.W ∧ ∃ c', c'.W = c1.W ∧ Ans c rs1 (s1.u.map (D.kills (Kill.but []))) s1.l v c' := by
               refine ⟨hdf1, zgM us, zfm h8, c3, h10.trans h3, Ans.of h15 ⟨(he1.trans h6.ext).trans h13, by rw [h11, h2]; rfl, h12, zbH _ h14, ?_⟩⟩
               rw [hcs]
               show (s1.u.map _).length = u.length
               rw [List.length_map]
               exact beq_eq.1 hlen
              rcases hxe with e | e <;> rw [e] <;> exact hpost
            · cases hr
           have fin2 : ∀ x s cs, exec ⟨C.ty, C.mode, fn.ntmps, C.live f, C.out f, C.plan f, den C k⟩ k code (start args u l) = some (x, s) → (x.exit' = .normal ∨ x.exit' = .ret) → zky fn.results.toList s = some cs → rs = [.ptr (.loc 0) 0] → u' = [cs] →
            code.wp P (bodyPost P fn fun | .returned v, W'' => ∃ c', c'.W = W'' ∧ Ans c rs u' l' v c' | _, _ => False) a c.W := by
            intro x s cs hx hxe hr hrs hu'
            refine zam k code c a x s _ (hF.code code hb) (hF.draws code hb _ (zdw hC k)) hE hfr (by rw [hcs]; exact hx) fun a' c1 hs1 hf1 he1 hsz1 hdf1 => ?_
            unfold zky at hr
            split at hr
            · rename_i y hrv
              split at hr
              · rename_i n hy
                simp only [Option.bind_eq_some_iff] at hr
                obtain ⟨cs0, hb0, hr⟩ := hr
                split at hr
                · rename_i hup
                  cases hr
                  rw [← hs1] at hb0 hy
                  obtain ⟨c2, h2, h3, h4, h5, h6⟩ := zg1 hf1.sim hb0 hup
                  have hv := hf1.sim.slots y
                  rw [hy] at hv
                  have h8 : (fn.results.toList.mapM (resM a'.tmps)).run P c1.W = .ok [a'.tmps.getD y undef] c1.W := by
                   rw [hrv]
                   simp [resM]
                  have hpost : a'.defers = [] ∧ ∃ v, (Go.results fn a'.tmps).run P c1.W = .ok v c1.W ∧ ∃ c', c'.W = c1.W ∧ Ans c rs u' l' v c' := by
                   refine ⟨hdf1, _, zfm h8, c2, h2, ?_⟩
                   subst hrs hu'
                   exact ⟨he1.trans h6, cs, rfl, hup, h3, h4, by show a'.tmps.getD y undef = _; rw [hv.2, h5]⟩
                  rcases hxe with e | e <;> rw [e] <;> exact hpost
                · cases hr
              · cases hr
            · cases hr
           split at h
           · cases h
           · rename_i x s hne hx
             have hxe : x.exit' = .normal ∨ x.exit' = .ret := by
              cases x with
              | normal => exact .inl rfl
              | ret => exact .inr rfl
              | exit i => exact (hne i rfl).elim
             unfold zlY at h
             split at h
             · split at h
               · rename_i cs hn
                 cases h
                 exact fin2 x s cs hx hxe hn rfl rfl
               · exact fin x s hx hxe h
             · exact fin x s hx hxe h
           · cases h
       · cases h
     · cases h
end Go.Den
namespace Go.Den
open Go Go.RowKit
set_option linter.unusedVariables false
section
variable {P : Program} {ops : Array Oper} {Q : Exit → Act → World → Prop} {md : Region.Mode} {R : World → World → Prop} {str : Nat → Bool}
def zbQ (P : Program) (md : Region.Mode) (ops : Array Oper) (Q : Exit → Act → World → Prop) (R : World → World → Prop) (str : Nat → Bool) : Nat → Array Bool → Act → World → Prop
 | 0, listed, a, w => Region.ready md ops listed = [] ∧ Q .normal a w
 | fuel + 1, listed, a, w =>
   (Region.ready md ops listed = [] → Q .normal a w) ∧
   ∀ i ∈ Region.ready md ops listed, wpOp P ops Q i (fun a' w' => (str i = true → R w w') ∧ zbQ P md ops Q R str fuel (listed.setIfInBounds i true) a' w') a w
theorem zfF : ∀ (fuel : Nat) (listed : Array Bool) (a : Act) (w : World), zbQ P md ops Q R str fuel listed a w → wpAny P md ops Q fuel listed a w
 | 0, _, _, _, h => h
 | fuel + 1, _, _, _, h => ⟨h.1, fun i hi => wpOp_mono (fun a' w' h' => zfF fuel _ a' w' h'.2) (h.2 i hi)⟩
theorem zeG (hR : ∀ a b c, R a b → R b c → R a c) (hR0 : ∀ a, R a a) {w0 : World} {i : Nat} {oi : Oper} {v : Value} {desc : Nat → Bool} (hi : ops[i]? = some oi) (hsel : ∀ (j : Nat) (o : Oper) cs b, ops[j]? = some o → o.op ≠ .select cs b)
 (hQ : ∀ c a w, Q (.panic c) (a.put oi.dst v) w → Q (.panic c) a w) (hdesc : ∀ j oj, ops[j]? = some oj → desc j = true → ∃ e ∈ oj.after, Region.binds md e = true ∧ (e.on = i ∨ desc e.on = true)) :
 ∀ (fuel : Nat) (listed : Array Bool) (a : Act) (w : World),
  (∀ j oj, ops[j]? = some oj → j ≠ i → listed.getD j true = false → desc j = false → oi.apart ops oj = true ∧ str j = true) →
  (∀ k, listed.getD k false = true → desc k = false) → i ∈ Region.ready md ops listed → YieldsIf P ops (R w0) oi v a → R w0 w →
  zbQ P md ops Q R str fuel (listed.setIfInBounds i true) (a.put oi.dst v) w → zbQ P md ops Q R str (fuel + 1) listed a w := by
 intro fuel
 induction fuel with
 | zero =>
   intro listed a w _ hl hr hy hS H
   refine ⟨fun h => (by rw [h] at hr; cases hr), fun j hj => ?_⟩
   by_cases hji : j = i
   · subst hji; exact hy.wpOp hi hS ⟨fun _ => hR0 w, H⟩
   · have := ready_mono hj hji
     rw [H.1] at this
     cases this
 | succ fuel ih =>
   intro listed a w hfree hl hr hy hS H
   refine ⟨fun h => (by rw [h] at hr; cases hr), fun j hj => ?_⟩
   by_cases hji : j = i
   · subst hji; exact hy.wpOp hi hS ⟨fun _ => hR0 w, H⟩
   · have h1 := H.2 j (ready_mono hj hji)
     obtain ⟨hjun, oj, hoj, hall⟩ := mem_ready.1 hj
     have hnot : desc j = false := by
      cases hdj : desc j with
      | false => rfl
      | true =>
        obtain ⟨e, he, hb, hor⟩ := hdesc j oj hoj hdj
        have h1 := hall e he hb
        rcases hor with heq | hd2
        · have h0 := (mem_ready.1 hr).1
          rw [heq] at h1
          rcases Nat.lt_or_ge i listed.size with h' | h'
          · simp [h'] at h0 h1; rw [h0] at h1; cases h1
          · simp [Array.getElem?_eq_none h'] at h1
        · rw [hl _ h1] at hd2; cases hd2
     have hl' : ∀ k, (listed.setIfInBounds j true).getD k false = true → desc k = false := fun k hk => by
      by_cases hjk : j = k
      · subst hjk; exact hnot
      · rw [getD_set_ne false hjk] at hk; exact hl k hk
     obtain ⟨hap, hst⟩ := hfree j oj hoj hji hjun hnot
     have h2 := wpOp_putIf hoj hap (fun cs b => hsel i oi cs b hi) (fun cs b => hsel j oj cs b hoj) hQ hy h1
     have hfree' : ∀ k ok, ops[k]? = some ok → k ≠ i → (listed.setIfInBounds j true).getD k true = false →
      desc k = false → oi.apart ops ok = true ∧ str k = true := fun k ok hk hki hun hno => by
      refine hfree k ok hk hki ?_ hno
      by_cases hjk : j = k
      · subst hjk; exact hjun
      · rw [getD_set_ne true hjk] at hun; exact hun
     refine wpOp_mono (fun a' w' h3 => ⟨h3.2.1, ih (listed.setIfInBounds j true) a' w' hfree' hl' (ready_mono hr (Ne.symm hji)) h3.1 (hR _ _ _ hS (h3.2.1 hst)) ?_⟩) h2
     rw [Array.setIfInBounds_comm _ _ hji]
     exact h3.2.2
theorem ze6 (hR0 : ∀ a, R a a) {i : Nat} {oi : Oper} {v : Value} {desc : Nat → Bool} (hi : ops[i]? = some oi) (hsel : ∀ (j : Nat) (o : Oper) cs b, ops[j]? = some o → o.op ≠ .select cs b)
 (hQ : ∀ c a w, Q (.panic c) (a.put oi.dst v) w → Q (.panic c) a w) (hdesc : ∀ j oj, ops[j]? = some oj → desc j = true → ∃ e ∈ oj.after, Region.binds md e = true ∧ (e.on = i ∨ desc e.on = true)) :
 ∀ (fuel : Nat) (listed : Array Bool) (a : Act) (w : World),
  (∀ j oj, ops[j]? = some oj → j ≠ i → listed.getD j true = false → desc j = false → oi.apart ops oj = true) →
  (∀ k, listed.getD k false = true → desc k = false) → i ∈ Region.ready md ops listed → Go.Yields P ops oi v a →
  zbQ P md ops Q R str fuel (listed.setIfInBounds i true) (a.put oi.dst v) w → zbQ P md ops Q R str (fuel + 1) listed a w := by
 intro fuel
 induction fuel with
 | zero =>
   intro listed a w _ hl hr hy H
   refine ⟨fun h => (by rw [h] at hr; cases hr), fun j hj => ?_⟩
   by_cases hji : j = i
   · subst hji; exact hy.wpOp hi ⟨fun _ => hR0 w, H⟩
   · have := ready_mono hj hji
     rw [H.1] at this
     cases this
 | succ fuel ih =>
   intro listed a w hfree hl hr hy H
   refine ⟨fun h => (by rw [h] at hr; cases hr), fun j hj => ?_⟩
   by_cases hji : j = i
   · subst hji; exact hy.wpOp hi ⟨fun _ => hR0 w, H⟩
   · have h1 := H.2 j (ready_mono hj hji)
     obtain ⟨hjun, oj, hoj, hall⟩ := mem_ready.1 hj
     have hnot : desc j = false := by
      cases hdj : desc j with
      | false => rfl
      | true =>
        obtain ⟨e, he, hb, hor⟩ := hdesc j oj hoj hdj
        have h1 := hall e he hb
        rcases hor with heq | hd2
        · have h0 := (mem_ready.1 hr).1
          rw [heq] at h1
          rcases Nat.lt_or_ge i listed.size with h' | h'
          · simp [h'] at h0 h1; rw [h0] at h1; cases h1
          · simp [Array.getElem?_eq_none h'] at h1
        · rw [hl _ h1] at hd2; cases hd2
     have hl' : ∀ k, (listed.setIfInBounds j true).getD k false = true → desc k = false := fun k hk => by
      by_cases hjk : j = k
      · subst hjk; exact hnot
      · rw [getD_set_ne false hjk] at hk; exact hl k hk
     have h2 := wpOp_put hoj (hfree j oj hoj hji hjun hnot) (fun cs b => hsel i oi cs b hi) (fun cs b => hsel j oj cs b hoj) hQ hy h1
     have hfree' : ∀ k ok, ops[k]? = some ok → k ≠ i → (listed.setIfInBounds j true).getD k true = false →
      desc k = false → oi.apart ops ok = true := fun k ok hk hki hun hno => by
      refine hfree k ok hk hki ?_ hno
      by_cases hjk : j = k
      · subst hjk; exact hjun
      · rw [getD_set_ne true hjk] at hun; exact hun
     refine wpOp_mono (fun a' w' h3 => ⟨h3.2.1, ih (listed.setIfInBounds j true) a' w' hfree' hl' (ready_mono hr (Ne.symm hji)) h3.1 ?_⟩) h2
     rw [Array.setIfInBounds_comm _ _ hji]
     exact h3.2.2
end
end Go.Den
namespace Go.Den
open Go Go.RowKit
set_option linter.unusedVariables false
theorem zj7 {P : Program} {c : Cx} {a : Act} {o : Oper} {E : Env} {d : D} (hE : E.ty = c.ty) (hty : TyOk P c.ty) (hs : Sim c a.tmps) (hcm : zfE o.op = true)
 (h : evOp E c.s.look c.s.get c.s.box o.type o.op = some (.pure d)) : ∀ x T, Calm P c a o x T d := by
 cases ho : o.op with
 | move z =>
   rw [ho] at h
   simp only [evOp] at h
   cases h
   exact fun x T => (ziQ hs (.inl ho))
 | assign z =>
   rw [ho] at h
   simp only [evOp] at h
   split at h
   · rename_i hz
     simp only [Option.bind_eq_some_iff] at h
     obtain ⟨i, hi, h⟩ := h
     split at h
     · rename_i e hk
       cases h
       rw [hE] at hi
       exact fun x T => (zmU hty ho hz hi hk)
     · cases h
   · split at h
     · cases h
       exact fun x T => (ziQ hs (.inr ho))
     · cases h
 | pick z u w =>
   rw [ho] at h
   simp only [evOp, Option.map_eq_some_iff] at h
   obtain ⟨b, hb, h⟩ := h
   cases h
   exact fun x T => by cases b <;> exact (zlu hs ho hb)
 | build t ps =>
   rw [ho] at h
   simp only [evOp, Option.bind_eq_some_iff] at h
   obtain ⟨i, hi, h⟩ := h
   rw [hE] at hi
   split at h
   · rename_i hq
     simp only [Bool.and_eq_true] at hq
     simp only [Option.map_eq_some_iff] at h
     obtain ⟨cs, hf, h⟩ := h
     cases h
     exact fun x T => (zjt hE hty hs ho hi hq.1 hq.2 hf)
   · cases h
 | nilCheck z =>
   rw [ho] at h
   simp only [evOp] at h
   split at h
   · rename_i r n hz
     cases h
     exact fun x T => (zfV hs ho hz)
   · cases h
 | binOp op t z u k =>
   rw [ho] at h
   simp only [evOp] at h
   split at h
   · rename_i b hb
     cases h
     rw [hE] at hb
     exact fun x T => (zik hty hs ho hb)
   · simp only [Option.map_eq_some_iff] at h
     obtain ⟨d, hd, h⟩ := h
     cases h
     rw [hE] at hd
     exact fun x T => (zki hty hs ho hd)
 | unOp op t z =>
   rw [ho] at h
   simp only [evOp, Option.map_eq_some_iff] at h
   obtain ⟨d, hd, h⟩ := h
   cases h
   exact fun x T => (zlN hs ho hd)
 | convert t u z =>
   rw [ho] at h
   simp only [evOp, Option.bind_eq_some_iff, Option.map_eq_some_iff] at h
   obtain ⟨i, hi, d, hd, h⟩ := h
   cases h
   rw [hE] at hd hi
   exact fun x T => (zhc hty hs ho (by rw [hi]; rfl) hd)
 | makeFunc fn first cap =>
   rw [ho] at h
   cases fn with
   | func f =>
     simp only [evOp] at h
     split at h
     · rename_i hf
       simp only [Option.map_eq_some_iff] at h
       obtain ⟨rs, hr, h⟩ := h
       cases h
       exact fun x T => (zfJ hs ho hf hr)
     · cases h
   | _ => simp only [evOp] at h; cases h
 | slice t z lo hi mx =>
   rw [ho] at h
   simp only [evOp] at h
   split at h
   · simp only [Option.bind_eq_some_iff, Option.map_eq_some_iff] at h
     obtain ⟨st, hst, l, hl, hh, hhi, d, hd, h⟩ := h
     cases h
     rw [hE] at hst hd
     exact fun x T => (zjo hty hs (fun _ _ h => h) ho hst hl hhi hd)
   · cases h
 | fieldAddr t z f =>
   rw [ho] at h
   simp only [evOp, Option.bind_eq_some_iff] at h
   obtain ⟨i, hi, q, hq, j, hj, h⟩ := h
   rw [hE] at hi hj
   split at h
   · rename_i hc
     simp only [Option.map_eq_some_iff] at h
     obtain ⟨d, hd, h⟩ := h
     cases h
     exact fun x T => (ze3 hty hs ho hi hq hj hc hd)
   · cases h
 | field t z f =>
   rw [ho] at h
   simp only [evOp, Option.bind_eq_some_iff] at h
   obtain ⟨i, hi, q, hq, j, hj, h⟩ := h
   rw [hE] at hi hj
   split at h
   · cases h
   · rename_i ha
     split at h
     · rename_i cs hz
       simp only [Option.map_eq_some_iff] at h
       obtain ⟨d, hd, h⟩ := h
       cases h
       exact fun x T => ((zdU hty hs ho hi hq hj ha).1 cs d hz hd)
     · rename_i ds hz
       split at h
       · rename_i hja
         simp only [Option.map_eq_some_iff] at h
         obtain ⟨d, hd, h⟩ := h
         cases h
         exact fun x T => ((zdU hty hs ho hi hq hj ha).2.1 ds d hz hja hd)
       · rename_i hja
         split at h
         · rename_i hb
           cases h
           exact fun x T => ((zdU hty hs ho hi hq hj ha).2.2 ds hz hja hb)
         · cases h
     · cases h
 | indexAddr t z u =>
   rw [ho] at h
   simp only [evOp, Option.bind_eq_some_iff] at h
   obtain ⟨k, hk, h⟩ := h
   rw [hE] at hk
   split at h
   · rename_i e hkk
     simp only [Option.bind_eq_some_iff, Option.map_eq_some_iff] at h
     obtain ⟨j, hj, n, hn, d, hd, h⟩ := h
     rw [hE] at hj
     cases h
     exact fun x T => (zeJ hty hs (fun _ _ h => h) ho hk hkk hj hn hd)
   · cases h
 | index t z u =>
   rw [ho] at h
   simp only [evOp, Option.bind_eq_some_iff] at h
   obtain ⟨k, hk, n, hn, h⟩ := h
   rw [hE] at hk
   split at h
   · rename_i s hz hkk
     split at h
     · rename_i hb
       cases h
       exact fun x T => (zkg hty hs ho hk hkk hn hz hb)
     · cases h
   · cases h
 | extract z j =>
   rw [ho] at h
   simp only [evOp] at h
   split at h
   · rename_i ds hz
     simp only [Option.map_eq_some_iff] at h
     obtain ⟨d, hd, h⟩ := h
     cases h
     exact fun x T => (zg3 hs ho hz hd)
   · cases h
 | call ca =>
   rw [ho] at h
   simp only [evOp] at h
   split at h
   · rename_i hc
     split at h
     · rename_i z t ha hat
       simp only [Option.bind_eq_some_iff, Option.map_eq_some_iff] at h
       obtain ⟨i, hi, n, hn, h⟩ := h
       cases h
       rw [hE] at hi
       exact fun x T => (zm4 hty hs (fun _ _ h => h) ho hc ha hat hi hn)
     · cases h
   · rename_i hc
     split at h
     · rename_i z u ha
       simp only [Option.bind_eq_some_iff, Option.map_eq_some_iff] at h
       obtain ⟨m, hm, n, hn, h⟩ := h
       cases h
       exact fun x T => (zet (mx := true) hs ho hc ha hm hn)
     · cases h
   · rename_i hc
     split at h
     · rename_i z u ha
       simp only [Option.bind_eq_some_iff, Option.map_eq_some_iff] at h
       obtain ⟨m, hm, n, hn, h⟩ := h
       cases h
       exact fun x T => (zet (mx := false) hs ho hc ha hm hn)
     · cases h
   · rename_i z hc
     rw [ho] at hcm
     simp [zfE, hc] at hcm
   · cases h
 | _ => rw [ho] at hcm; cases hcm
theorem zbA {P : Program} {o : Oper} {a : Act} {w : World} {K : Act → World → Prop} {Q : Exit → Act → World → Prop} (h : o.wp P a w K Q) : o.wp P a w (fun a' w' => K a' w' ∧ ∃ v, a'.tmps = (a.put o.dst v).tmps) Q := by
 unfold Oper.wp at *
 generalize (execOp a.eval o).run P w = r at *
 cases r with
 | ok n w' =>
   cases n <;> simp only [Oper.upon] at h ⊢
   case value v => exact ⟨h, v, rfl⟩
   case skip => exact ⟨h, _, rfl⟩
   case defer d => exact ⟨h, undef, by cases o.dst <;> rfl⟩
   case enter f args =>
    refine Calls.mono h fun e w'' he => ?_
    cases e with
    | returned v => exact ⟨he, v, rfl⟩
    | panicked c => exact he
    | outgrown => exact he
   case row r args => exact Rows.mono h fun v w'' he => ⟨he, v, rfl⟩
 | halt x w' => cases x <;> simp only [Oper.upon] at h ⊢ <;> exact h
section
variable {P : Program} {c : Cx} {a : Act} {o : Oper} {X : Nat}
theorem zgT {n : Nat} {d : D} {T : World → Prop} (hf : Fr X c a) (hn : n < a.tmps.size) (h : Calm P c a o n T d) :
 ∃ v c', c'.s = c.s.put n d ∧ c'.W = c.W ∧ Fr X c' (a.put (some n) v) ∧ Ext c c' ∧ (∀ g, g < c.W.heap.size → c'.ρ g = c.ρ g) ∧ ∀ w, T w → (execOp a.eval o).run P w = .ok (.value v) w := by
 obtain ⟨v, c1, h0, h1, h2, h3⟩ := h
 have hsim := h2.put hf.sim hn h3
 have hne : X ≠ n := Nat.ne_of_gt (Nat.lt_of_lt_of_le hn hf.ghost.out)
 have e := h2.ext
 exact ⟨v, { c1 with s := c.s.put n d }, rfl, h0, ⟨hsim, by simpa [Act.put] using hf.ghost.out, zaY hne hf.ghost.own⟩, ⟨e.os, e.tape, e.output, e.size, e.keep, e.ty, e.up, e.lentH⟩, h2.ρ, h1⟩
def Cx.isM (c : Cx) (M : List Nat) (g : Nat) : Bool := M.any fun n => Nat.beq (c.β (.loc n)) g
def Cx.hid (c : Cx) (M : List Nat) : Cx := { c with ρ := fun g => match c.isM M g with | true => .oth | false => c.ρ g, s := c.s.hid M }
theorem isM_iff {M : List Nat} {g : Nat} : c.isM M g = true ↔ ∃ n ∈ M, c.β (.loc n) = g := by
 unfold Cx.isM
 rw [List.any_eq_true]
 constructor
 · rintro ⟨n, h1, h2⟩; exact ⟨n, h1, beq_eq.1 h2⟩
 · rintro ⟨n, h1, h2⟩; exact ⟨n, h1, beq_eq.2 h2⟩
theorem zil {s : St} {n : Nat} (h : zkZ s n = true) : s.t n = .ptr (.loc n) 0 := by
 unfold zkZ at h
 split at h
 · rename_i m o e
   simp only [Bool.and_eq_true] at h
   rw [e, beq_eq.1 h.1, beq_eq.1 h.2]
 · cases h
theorem zep {M : List Nat} {s : St} (h : zjI M s = true) {n : Nat} (hn : n ∈ M) : s.t n = .ptr (.loc n) 0 ∧ ∃ cs, s.b n = some cs ∧ ∀ d ∈ cs, ∃ x, d = .dat x := by
 have := (List.all_eq_true.1 h) n hn
 simp only [Bool.and_eq_true] at this
 refine ⟨zil this.1, ?_⟩
 have h2 := this.2
 unfold zlJ at h2
 split at h2
 · rename_i cs hcs
   refine ⟨cs, hcs, fun d hd => ?_⟩
   have := (List.all_eq_true.1 h2) d hd
   split at this
   · exact ⟨_, rfl⟩
   · cases this
 · cases h2
theorem zcn {M : List Nat} {tm : Array Value} (hs : Sim c tm) (h : zjI M c.s = true) {g : Nat} (hg : c.isM M g = true) : ∃ n ∈ M, c.β (.loc n) = g ∧ c.ρ g = .box (.loc n) ∧ g < c.W.heap.size := by
 obtain ⟨n, hn, rfl⟩ := isM_iff.1 hg
 obtain ⟨_, cs, hcs, _⟩ := zep h hn
 have hb := hs.boxes (.loc n) cs hcs
 obtain ⟨vs, T, h1, h2, _⟩ := hb.out
 exact ⟨n, hn, rfl, h2, hb.lt⟩
theorem zmp {M : List Nat} {s : St} {q : Pl} {r : Row} (h : s.get q = some r) (hk : (Kill.hide M).pl q = false) : (s.hid M).get q = some r := by
 cases q with
 | slot y l =>
   show (D.at_ l ((s.hid M).t y)).row? = _
   simp only [St.hid]
   rw [zaZ]
   exact h
 | cell r0 o =>
   simp only [St.get, Option.bind_eq_some_iff] at h ⊢
   obtain ⟨cs, h1, d, h2, h3⟩ := h
   refine ⟨D.kills (Kill.hide M) cs, ?_, d.kill (Kill.hide M), by rw [zb1, h2]; rfl, ?_⟩
   · cases r0 with
     | loc n =>
       have hm : memN n M = false := hk
       have h1 : s.b n = some cs := h1
       simp only [St.hid, St.box, hm, h1, Option.map_some]
     | up n =>
       have h1 : s.u[n]? = some cs := h1
       simp only [St.hid, St.box, List.getElem?_map, h1, Option.map_some]
   · have := zaZ (k := Kill.hide M) [] d
     simp only [D.at_] at this
     rw [this]; exact h3
 | lent j => exact h
theorem zmw {M : List Nat} {s : St} {r : Ref} {cs' : List D} (h : (s.hid M).box r = some cs') : (∀ n ∈ M, r ≠ .loc n) ∧ ∃ cs, s.box r = some cs ∧ cs' = D.kills (Kill.hide M) cs := by
 cases r with
 | loc n =>
   simp only [St.hid, St.box] at h
   split at h
   · cases h
   · rename_i hm
     simp only [Option.map_eq_some_iff] at h
     obtain ⟨cs, h1, rfl⟩ := h
     refine ⟨fun k hk e => ?_, cs, h1, rfl⟩
     cases e
     rw [memN_iff.2 hk] at hm
     cases hm
 | up n =>
   simp only [St.hid, St.box, List.getElem?_map, Option.map_eq_some_iff] at h
   obtain ⟨cs, h1, rfl⟩ := h
   exact ⟨fun k hk e => (by cases e), cs, h1, rfl⟩
theorem zgU {M : List Nat} {s : St} {r : Ref} (h : (s.box r).isSome = true) (hk : (Kill.hide M).ref r = false) : ((s.hid M).box r).isSome = true := by
 obtain ⟨cs, hcs⟩ := Option.isSome_iff_exists.1 h
 cases r with
 | loc n =>
   have hm : memN n M = false := hk
   have hcs : s.b n = some cs := hcs
   simp only [St.hid, St.box, hm, hcs, Option.map_some, Option.isSome_some]
 | up n =>
   have hcs : s.u[n]? = some cs := hcs
   simp only [St.hid, St.box, List.getElem?_map, hcs, Option.map_some, Option.isSome_some]
theorem zgG {M : List Nat} {g : Nat} {r : Role} (h : c.ρ g = r) (hg : c.isM M g = false) : (c.hid M).ρ g = r := by
 show (match c.isM M g with | true => Role.oth | false => c.ρ g) = r
 rw [hg]; exact h
theorem zi7 {M : List Nat} (hf : Fr X c a) (h : zjI M c.s = true) : Fr X (c.hid M) a ∧ Ext c (c.hid M) := by
 have hs := hf.sim
 have hne : ∀ g r, c.ρ g = r → (∀ n : Nat, r ≠ .box (.loc n)) → c.isM M g = false := fun g r hr hn => by
  cases hg : c.isM M g with
  | false => rfl
  | true =>
    obtain ⟨n, _, _, h1, _⟩ := zcn hs h hg
    exact (hn n (hr.symm.trans h1)).elim
 have hrd : ∀ b g, Rd c.ρ b g → Rd (c.hid M).ρ b g := fun b g hr => by
  rcases hr with hr | ⟨h1, hr⟩
  · exact .inl (zgG hr (hne g _ hr fun n e => by cases e))
  · exact .inr ⟨h1, zgG hr (hne g _ hr fun n e => by cases e)⟩
 have m : Mono c (c.hid M) (Kill.hide M) (fun _ => False) := ⟨rfl, fun b g hr _ => ⟨hrd b g hr, rfl⟩, fun q r hq hk => ⟨zmp hq hk, rfl⟩, fun r hr hk => ⟨zgU hr hk, rfl⟩, fun q _ => ⟨rfl, fun g hg _ => ⟨zgG hg (hne g _ hg fun n e => by cases e), rfl⟩⟩⟩
 refine ⟨⟨⟨fun y => ?_, fun r cs' hb' => ?_, fun j r hg => ?_⟩, hf.ghost.out, ?_⟩, rfl, rfl, rfl, Nat.le_refl _, fun g hg hst => ⟨?_, rfl⟩, rfl, fun _ => rfl, fun _ => rfl⟩
 · exact VR.mono m _ _ _ (fun _ _ _ h => h) (hs.slots y)
 · obtain ⟨hr, cs, h1, rfl⟩ := zmw hb'
   obtain ⟨vs, T, h2, h3, h4, h5⟩ := (hs.boxes r cs h1).out
   refine ⟨vs, T, by rw [zgC]; exact h2, zgG h3 ?_, by rw [zcw]; exact h4, fun i d v hd hv => ?_⟩
   · show c.isM M (c.β r) = false
     cases hg : c.isM M (c.β r) with
     | false => rfl
     | true =>
       obtain ⟨n, hn, _, h6, _⟩ := zcn hs h hg
       have e : Role.box r = .box (.loc n) := h3.symm.trans h6
       cases e
       exact (hr n hn rfl).elim
   · rw [zb1] at hd
     simp only [Option.map_eq_some_iff] at hd
     obtain ⟨d0, hd0, rfl⟩ := hd
     obtain ⟨h6, h7, h8⟩ := h5 i d0 v hd0 hv
     exact ⟨VR.mono m _ _ _ (fun _ _ _ h => h) h6, h7, zeY h8⟩
 · have hg' : c.s.get (.lent j) = some r := hg
   exact (hs.lent j r hg').mono m (fun h => h)
 · show ((c.s.t X).kill (Kill.hide M)).hasOwn = false
   rw [zaw]
   exact hf.ghost.own
 · refine zgG rfl (hne g _ rfl fun n e => ?_)
   rw [e] at hst
   exact hst
theorem zgR {d : D} (h : zhd d = true) : d = .junk := by
 unfold zhd at h
 split at h
 · rfl
 · cases h
def Cx.shown (c c' : Cx) (M : List Nat) (dst : Option Nat) : Cx :=
 { c' with
   ρ := fun g => match c.isM M g with | true => c.ρ g | false => c'.ρ g
   β := fun r => match r with | .loc n => (match memN n M with | true => c.β (.loc n) | false => c'.β (.loc n)) | .up n => c'.β (.up n)
   s := c'.s.shown M dst c.s }
theorem zia {M : List Nat} {dst : Option Nat} {s0 s : St} (y : Nat) : (s.shown M dst s0).t y = s.t y ∨ ∃ n o, n ∈ M ∧ s0.t y = .ptr (.loc n) o ∧ s.t y = .junk ∧ dst ≠ some y ∧ (s.shown M dst s0).t y = .ptr (.loc n) o := by
 simp only [St.shown]
 split
 · rename_i n o e
   split
   · rename_i hc
     simp only [Bool.and_eq_true] at hc
     refine .inr ⟨n, o, memN_iff.1 hc.1.1, by rw [e], zgR hc.1.2, fun hd => ?_, rfl⟩
     rw [hd] at hc
     have := hc.2
     simp at this
   · exact .inl rfl
 · exact .inl rfl
theorem zhM {M : List Nat} {c' : Cx} {a' : Act} {v : Value} (hf : Fr X c a) (h : zjI M c.s = true) (he : Ext (c.hid M) c') (hf' : Fr X c' a') (hsz : a'.tmps.size = a.tmps.size) (htm : a'.tmps = (a.put o.dst v).tmps)
 (hno : M.all (fun n => (c'.s.b n).isNone) = true) : Fr X (c.shown c' M o.dst) a' ∧ Ext c (c.shown c' M o.dst) := by
 have hs := hf.sim
 have hs' := hf'.sim
 have hnone : ∀ n ∈ M, c'.s.b n = none := fun n hn => by simpa using (List.all_eq_true.1 hno) n hn
 have hoth : ∀ g, c.isM M g = true → c'.ρ g = .oth ∧ c'.W.heap[g]? = c.W.heap[g]? := fun g hg => by
  obtain ⟨n, _, _, _, hlt⟩ := zcn hs h hg
  have hr : (c.hid M).ρ g = .oth := by
   show (match c.isM M g with | true => Role.oth | false => c.ρ g) = .oth
   rw [hg]
  obtain ⟨h1, h2⟩ := he.keep g hlt (by rw [hr]; trivial)
  exact ⟨h1.trans hr, h2⟩
 have hne : ∀ g r, c'.ρ g = r → r ≠ .oth → c.isM M g = false := fun g r hr hn => by
  cases hg : c.isM M g with
  | false => rfl
  | true => exact (hn (hr.symm.trans (hoth g hg).1)).elim
 have hρ : ∀ g r, c'.ρ g = r → r ≠ .oth → (c.shown c' M o.dst).ρ g = r := fun g r hr hn => by
  show (match c.isM M g with | true => c.ρ g | false => c'.ρ g) = r
  rw [hne g r hr hn]; exact hr
 have hrd : ∀ b g, Rd c'.ρ b g → Rd (c.shown c' M o.dst).ρ b g := fun b g hr => by
  rcases hr with hr | ⟨h1, hr⟩
  · exact .inl (hρ g _ hr (fun e => by cases e))
  · exact .inr ⟨h1, hρ g _ hr (fun e => by cases e)⟩
 have hmem : ∀ n, memN n M = true → c'.s.b n = none := fun n hn => hnone n (memN_iff.1 hn)
 have hbox : ∀ r cs, c'.s.box r = some cs → (c.shown c' M o.dst).s.box r = some cs ∧ (c.shown c' M o.dst).β r = c'.β r := fun r cs hb => by
  cases r with
  | loc n =>
    have hb : c'.s.b n = some cs := hb
    have hm : memN n M = false := by
     cases hm : memN n M with
     | false => rfl
     | true => rw [hmem n hm] at hb; cases hb
    refine ⟨?_, ?_⟩
    · show (match memN n M with | true => c.s.b n | false => c'.s.b n) = some cs
      rw [hm]; exact hb
    · show (match memN n M with | true => c.β (.loc n) | false => c'.β (.loc n)) = _
      rw [hm]
  | up n => exact ⟨hb, rfl⟩
 have hget : ∀ q r, c'.s.get q = some r → (c.shown c' M o.dst).s.get q = some r := fun q r hq => by
  cases q with
  | slot y l =>
    show (D.at_ l ((c'.s.shown M o.dst c.s).t y)).row? = _
    have hq' : (D.at_ l (c'.s.t y)).row? = some r := hq
    rcases zia (M := M) (dst := o.dst) (s0 := c.s) (s := c'.s) y with e | ⟨n, k, _, _, e, _, _⟩
    · rw [e]; exact hq'
    · rw [e] at hq'
      cases l <;> cases hq'
  | cell r0 k =>
    simp only [St.get, Option.bind_eq_some_iff] at hq ⊢
    obtain ⟨cs, h1, d, h2, h3⟩ := hq
    exact ⟨cs, (hbox r0 cs h1).1, d, h2, h3⟩
  | lent j => exact hq
 have m : Mono c' (c.shown c' M o.dst) Kill.none (fun _ => False) := ⟨rfl, fun b g hr _ => ⟨hrd b g hr, rfl⟩, fun q r hq _ => ⟨hget q r hq, rfl⟩, fun r hr _ => (by
  obtain ⟨cs, hcs⟩ := Option.isSome_iff_exists.1 hr
  obtain ⟨h1, h2⟩ := hbox r cs hcs
  exact ⟨by rw [h1]; rfl, h2⟩), fun q _ => ⟨rfl, fun g hg _ => ⟨hρ g _ hg (fun e => by cases e), rfl⟩⟩⟩
 have hMbox : ∀ n ∈ M, (c.shown c' M o.dst).s.box (.loc n) = c.s.b n ∧ (c.shown c' M o.dst).β (.loc n) = c.β (.loc n) := fun n hn => by
  have hm := memN_iff.2 hn
  refine ⟨?_, ?_⟩
  · show (match memN n M with | true => c.s.b n | false => c'.s.b n) = _
    rw [hm]
  · show (match memN n M with | true => c.β (.loc n) | false => c'.β (.loc n)) = _
    rw [hm]
 refine ⟨⟨⟨fun y => ?_, fun r cs hb => ?_, fun j r hg => ?_⟩, hf'.ghost.out, ?_⟩, ?_⟩
 · show VR _ _ ((c'.s.shown M o.dst c.s).t y) _
   rcases zia (M := M) (dst := o.dst) (s0 := c.s) (s := c'.s) y with e | ⟨n, k, hn, e0, _, hd, e⟩
   · rw [e]
     exact VR.same m (fun _ _ _ h => h) (hs'.slots y)
   · rw [e]
     obtain ⟨h1, h2⟩ := hMbox n hn
     obtain ⟨_, cs, hcs, _⟩ := zep h hn
     have hv := hs.slots y
     rw [e0] at hv
     have et : a'.tmps.getD y undef = a.tmps.getD y undef := by
      rw [htm]
      cases hdd : o.dst with
      | none => rfl
      | some x =>
        have hxy : x ≠ y := fun e => hd (by rw [hdd, e])
        simp [Act.put, Array.getD_eq_getD_getElem?, Array.getElem?_setIfInBounds_ne hxy]
     refine ⟨by rw [h1, hcs]; rfl, ?_⟩
     rw [et, h2]
     exact hv.2
 · by_cases hr : ∃ n ∈ M, r = .loc n
   · obtain ⟨n, hn, rfl⟩ := hr
     obtain ⟨h1, h2⟩ := hMbox n hn
     rw [h1] at hb
     obtain ⟨_, cs', hcs, hdat⟩ := zep h hn
     rw [hcs] at hb
     cases hb
     obtain ⟨vs, T, h3, h4, h5, h6⟩ := (hs.boxes (.loc n) _ hcs).out
     have hM : c.isM M (c.β (.loc n)) = true := isM_iff.2 ⟨n, hn, rfl⟩
     refine ⟨vs, T, ?_, ?_, h5, fun i d v hd hv => ?_⟩
     · rw [h2]
       exact (hoth _ hM).2.trans h3
     · rw [h2]
       show (match c.isM M (c.β (.loc n)) with | true => c.ρ (c.β (.loc n)) | false => c'.ρ (c.β (.loc n))) = _
       rw [hM]
       exact h4
     · obtain ⟨h7, h8, h9⟩ := h6 i d v hd hv
       obtain ⟨x, rfl⟩ := hdat d (List.mem_of_getElem? hd)
       refine ⟨?_, h8, h9⟩
       obtain ⟨cv, h10, h11⟩ := h7
       refine ⟨cv, h10.mono fun b g hr hg => ?_, h11⟩
       have hgM : c.isM M g = false := by
        cases hgM : c.isM M g with
        | false => rfl
        | true =>
          obtain ⟨k, _, _, h12, _⟩ := zcn hs h hgM
          rcases hr with hr | ⟨_, hr⟩ <;> (rw [h12] at hr; cases hr)
       have hr1 : Rd (c.hid M).ρ b g := by
        rcases hr with hr | ⟨h1, hr⟩
        · exact .inl (zgG hr hgM)
        · exact .inr ⟨h1, zgG hr hgM⟩
       obtain ⟨h13, h14⟩ := he.rd b g hr1 hg
       exact ⟨hrd b g h13, h14⟩
   · have hbc : c'.s.box r = some cs := by
      cases r with
      | loc n =>
        have hm : memN n M = false := by
         cases hm : memN n M with
         | false => rfl
         | true => exact (hr ⟨n, memN_iff.1 hm, rfl⟩).elim
        have hb' : (match memN n M with | true => c.s.b n | false => c'.s.b n) = some cs := hb
        rw [hm] at hb'
        exact hb'
      | up n => exact hb
     obtain ⟨vs, T, h3, h4, h5, h6⟩ := (hs'.boxes r cs hbc).out
     have hβ := (hbox r cs hbc).2
     refine ⟨vs, T, by rw [hβ]; exact h3, by rw [hβ]; exact hρ _ _ h4 (fun e => by cases e), h5, fun i d v hd hv => ?_⟩
     obtain ⟨h7, h8, h9⟩ := h6 i d v hd hv
     exact ⟨VR.same m (fun _ _ _ h => h) h7, h8, h9⟩
 · have hg' : c'.s.get (.lent j) = some r := hg
   exact (hs'.lent j r hg').mono m (fun h => h)
 · show ((c'.s.shown M o.dst c.s).t X).hasOwn = false
   rcases zia (M := M) (dst := o.dst) (s0 := c.s) (s := c'.s) X with e | ⟨n, k, hn, e0, _, hd, e⟩
   · rw [e]; exact hf'.ghost.own
   · rw [e]; rfl
 · refine ⟨he.os, he.tape, he.output, he.size, fun g hg hst => ?_, he.ty, fun n => he.up n, fun j => he.lentH j⟩
   have hgM : c.isM M g = false := by
    cases hgM : c.isM M g with
    | false => rfl
    | true =>
      obtain ⟨k, _, _, h12, _⟩ := zcn hs h hgM
      rw [h12] at hst
      exact hst.elim
   have h1 : (c.hid M).ρ g = c.ρ g := zgG rfl hgM
   obtain ⟨h2, h3⟩ := he.keep g hg (by rw [h1]; exact hst)
   refine ⟨?_, h3⟩
   show (match c.isM M g with | true => c.ρ g | false => c'.ρ g) = _
   rw [hgM]
   exact h2.trans h1
end
end Go.Den
namespace Go.Den
open Go Go.RowKit
set_option linter.unusedVariables false
theorem zkG {s : St} {n : Nat} (h : s.t n = .junk) : s.put n .junk = s := by
 have ho : (s.t n).hasOwn = false := by rw [h]; rfl
 unfold St.put
 rw [ho]
 cases s with
 | mk t b u l =>
   simp only [St.mk.injEq, and_true]
   funext y
   cases hb : Nat.beq y n with
   | true => rw [beq_eq.1 hb]; exact h.symm
   | false => rfl
section
variable {P : Program} {c : Cx} {a : Act} {o : Oper} {X : Nat}
theorem zhH {n : Nat} {ob : Obj} {v : Value} (hf : Fr X c a) (hn : n < a.tmps.size) (hj : c.s.t n = .junk) :
 ∃ c', c'.s = c.s ∧ c'.W = c.W.alloc ob ∧ Fr X c' (a.put (some n) v) ∧ Ext c c' ∧ (∀ g, g < c.W.heap.size → c'.ρ g = c.ρ g) ∧ c'.ρ c.W.heap.size = .oth := by
 let c1 : Cx := { c with ρ := fun g => if g = c.W.heap.size then .oth else c.ρ g, W := c.W.alloc ob }
 have hρ : ∀ g, g < c.W.heap.size → c1.ρ g = c.ρ g := fun g hg => if_neg (by omega)
 have hg : Grown c c1 n := ⟨rfl, rfl, rfl, ⟨rfl, rfl, rfl, by show c.W.heap.size ≤ (c.W.alloc ob).heap.size; simp, fun k hk => Below.heap_alloc c.W ob k hk⟩, hρ, fun _ _ => rfl⟩
 have hsim := hg.put hf.sim hn (d := .junk) (v := v) trivial
 have hne : X ≠ n := Nat.ne_of_gt (Nat.lt_of_lt_of_le hn hf.ghost.out)
 have e := hg.ext
 refine ⟨{ c1 with s := c.s.put n .junk }, zkG hj, rfl, ⟨hsim, by simpa [Act.put] using hf.ghost.out, zaY hne hf.ghost.own⟩, ⟨e.os, e.tape, e.output, e.size, e.keep, e.ty, e.up, e.lentH⟩, hρ, if_pos rfl⟩
theorem zhJ {tm : Array Value} {n g : Nat} {cs : List D} {vs : List Value} {T : TypeId} (hs : Sim c tm) (hX : Ghost c tm X) (hn : n < tm.size) (hb : c.s.b n = none) (hM : isM cs = false) (hl : vs.length = cs.length)
 (hv : ∀ (i : Nat) (d : D) (v : Value), cs[i]? = some d → vs[i]? = some v → VR c (.slot X [i]) d v ∧ v.oneCell' = true ∧ zap d = true)
 (hg : c.ρ g = .oth) (hgh : c.W.heap[g]? = some (.cells vs.toArray T (0, 0))) (htm : tm.getD n undef = .pointer (some ⟨g, 0, none⟩)) :
 ∃ c1, c1.W = c.W ∧ c1.s = ((c.s.setBox (.loc n) cs).put n (.ptr (.loc n) 0)) ∧ Sim c1 tm ∧ (∀ c0, Ext c0 c → c0.W.heap.size ≤ g → Ext c0 c1) ∧ (∀ k, k ≠ g → stable (c.ρ k) → c1.ρ k = c.ρ k) ∧ (∀ b k, Rd c1.ρ b k → Rd c.ρ b k) := by
 have hbx : c.s.box (.loc n) = none := hb
 let h := c.home X (zc4 (.loc n) 0) (zaU (.loc n) 0 cs.length)
 let c1 : Cx := { h with ρ := fun k => if k = g then .box (.loc n) else h.ρ k, β := fun r => match r.is (.loc n) with | true => g | false => c.β r, W := c.W, s := c.s.setBox (.loc n) cs }
 have hρ : ∀ k, k ≠ g → c1.ρ k = h.ρ k := fun k hk => if_neg hk
 have hng : ∀ k r, c.ρ k = r → r ≠ .oth → k ≠ g := fun k r hk hr e => hr (by rw [← hk, e, hg])
 have hβ : ∀ r, r ≠ .loc n → c1.β r = c.β r := fun r hr => by
  have : r.is (.loc n) = false := by
   cases e : r.is (.loc n) with
   | true => exact absurd (Ref.is_eq.1 e) hr
   | false => rfl
  simp only [c1, this]
 have hsome : ∀ r, (c.s.box r).isSome = true → r ≠ .loc n := fun r hr e => by rw [e, hbx] at hr; cases hr
 have hget : ∀ q r, c.s.get q = some r → ∀ o, q ≠ .cell (.loc n) o := fun q r hq o e => by
  rw [e] at hq
  simp [St.get, hbx] at hq
 have hH : ∀ q, (∀ o, q ≠ .cell (.loc n) o) → c1.H q = c.H q := fun q hq => by
  have : zaU (.loc n) 0 cs.length q = none := by
   cases q with
   | cell r o =>
     have : r.is (.loc n) = false := by
      cases e : r.is (.loc n) with
      | true => exact absurd (by rw [Ref.is_eq.1 e]) (hq o)
      | false => rfl
     simp [zaU, this]
   | _ => rfl
  show h.H q = c.H q
  simp only [h, Cx.home, this]
 have hrd : ∀ b k, Rd c.ρ b k → k < c.W.heap.size → Rd c1.ρ b k ∧ c1.W.heap[k]? = c.W.heap[k]? := fun b k hr hk => ⟨by
  have hkg : k ≠ g := by
   rcases hr with hr | ⟨_, hr⟩
   · exact hng k _ hr (fun e => by cases e)
   · exact hng k _ hr (fun e => by cases e)
  unfold Rd
  rw [hρ k hkg]
  exact Cx.home_rd b k hr, rfl⟩
 have hbs : ∀ r, r ≠ .loc n → c1.s.box r = c.s.box r := fun r hr => za3 hr
 have m : Mono c c1 Kill.none (fun q => (∃ o, q = .cell (.loc n) o) ∨ zaI X q) := by
  refine ⟨rfl, hrd, fun q r hq _ => ⟨?_, hH q (hget q r hq)⟩, fun r hr _ => ⟨by rw [hbs r (hsome r hr)]; exact hr, hβ r (hsome r hr)⟩, fun q hq => ⟨hH q (fun o e => hq (.inl ⟨o, e⟩)), fun k hk hlt => ⟨?_, rfl⟩⟩⟩
  · cases q with
    | slot y l => show ((D.at_ l ((c.s.setBox (.loc n) cs).t y)).row? = _); rw [setBox_tl.1]; exact hq
    | cell r' o =>
      have hne : r' ≠ .loc n := fun e => hget _ r hq o (by rw [e])
      simp only [St.get] at hq ⊢
      rw [hbs r' hne]
      exact hq
    | lent j => simp only [St.get] at hq ⊢; rw [show c1.s.l = c.s.l from setBox_tl.2]; exact hq
  · rw [hρ k (hng k _ hk (fun e => by cases e)), Cx.home_ρ k (fun l e => by rw [hk] at e; injection e with e; exact hq (.inr ⟨l, e⟩))]
    exact hk
 have hb1 : c1.β (.loc n) = g := by
  have : (Ref.loc n).is (.loc n) = true := Ref.is_eq.2 rfl
  simp only [c1, this]
 have hnew : BoxOK c1 (.loc n) cs := by
  refine ⟨vs, ⟨T, fun _ => 0⟩, ?_, ?_, hl, fun i d v hd hvv => ?_⟩
  · rw [hb1, hM]
    exact hgh
  · rw [hb1]
    exact if_pos rfl
  · obtain ⟨h1, h2, h3⟩ := hv i d v hd hvv
    refine ⟨?_, h2, h3⟩
    have hlt : i < cs.length := (List.getElem?_eq_some_iff.1 hd).1
    refine zbO (c := c) (c1 := c1) (sl := false) (X := X) (fwd := fun l => match l with | [j] => if j < cs.length then some (.cell (.loc n) j) else none | _ => none) ⟨rfl, hrd, fun l q hl' => ?_, fun r hr => ⟨by rw [hbs r (hsome r hr)]; exact hr, hβ r (hsome r hr)⟩, fun q r hf => by cases hf⟩ d [i] (.cell (.loc n) i) v (zdX h3) h1 (fun l r hr => ?_)
    · split at hl'
      · rename_i j
        split at hl'
        · rename_i hj
          cases hl'
          refine ⟨?_, fun k hk hlt => ⟨?_, rfl⟩⟩
          · have : zaU (.loc n) 0 cs.length (.cell (.loc n) j) = some [j] := by
             have e1 : (Ref.loc n).is (.loc n) = true := Ref.is_eq.2 rfl
             have e2 : Nat.ble 0 j = true := by simp
             have e3 : Nat.blt j (0 + cs.length) = true := by simp [Nat.blt]; omega
             simp only [zaU, e1, e2, e3, Bool.and_self, Nat.sub_zero]
            show h.H _ = _
            simp only [h, Cx.home, this]
          · rw [hρ k (hng k _ hk (fun e => by cases e))]
            exact Cx.home_row hk (by simp [zc4])
        · cases hl'
      · cases hl'
    · cases l with
      | nil => simp [hlt, Pl.subs]
      | cons j l => cases d <;> simp [D.at_, D.row?, zap] at hr h3
 have hsim : Sim c1 tm := by
  refine Sim.setBox (r := .loc n) (cs := cs) (K := Kill.none) hs m (fun _ => rfl) (by rw [zc3]) (fun q r' hq e => ?_) (fun r' hne hr' => ?_) hnew
  · rcases e with ⟨o, e⟩ | e
    · exact ⟨o, e⟩
    · exact (hX.get hq e).elim
  · obtain ⟨cs', hb'⟩ := Option.isSome_iff_exists.1 hr'
    have hlt := (hs.boxes r' cs' hb').lt
    obtain ⟨vs', T', h1, h2, _⟩ := (hs.boxes r' cs' hb').out
    refine ⟨?_, rfl⟩
    rw [hρ _ (hng _ _ h2 (fun e => by cases e)), Cx.home_ρ _ (fun l e => by rw [h2] at e; cases e)]
    exact h2
 have htm' : tm.setIfInBounds n (.pointer (some ⟨g, 0, none⟩)) = tm := by
  apply Array.ext (by simp)
  intro i h1 h2
  by_cases e : n = i
  · subst e
    simp only [Array.getElem_setIfInBounds_self]
    rw [← htm]
    simp [Array.getD, h2]
  · rw [Array.getElem_setIfInBounds_ne h2 e]
 refine ⟨{ c1 with s := c1.s.put n (.ptr (.loc n) 0) }, rfl, rfl, ?_, fun c0 he hlt => ?_, fun k hk hst => ?_, fun b k hr => ?_⟩
 · have := Sim.put (c1 := c1) (x := n) (d := .ptr (.loc n) 0) (v := .pointer (some ⟨g, 0, none⟩)) hsim hn rfl ⟨rfl, fun b g h _ => ⟨h, rfl⟩, fun q r h _ => ⟨h, rfl⟩, fun r h _ => ⟨h, rfl⟩, fun q _ => ⟨rfl, fun g h _ => ⟨h, rfl⟩⟩⟩ (fun r _ => ⟨rfl, rfl, rfl⟩) ⟨by
    show ((c.s.setBox (.loc n) cs).box (.loc n)).isSome = true
    have hb2 : Nat.beq n n = true := beq_eq.2 rfl
    simp only [St.setBox, St.box, hb2]
    rfl, by rw [hb1]⟩
   rwa [htm'] at this
 · refine ⟨he.os, he.tape, he.output, he.size, fun k hk hst => ?_, he.ty, fun k => (hβ (.up k) (fun e => by cases e)).trans (he.up k), fun j => ?_⟩
   · obtain ⟨h1, h2⟩ := he.keep k hk hst
     refine ⟨?_, h2⟩
     show c1.ρ k = _
     rw [hρ k (by omega), ← h1]
     exact Cx.home_stable (by rw [h1]; exact hst)
   · show h.H (.lent j) = _
     exact (hH (.lent j) (fun o e => by cases e)).trans (he.lentH j)
 · show c1.ρ k = _
   rw [hρ k hk]
   exact Cx.home_stable hst
 · have hr' : Rd c1.ρ b k := hr
   have hkg : k ≠ g := fun e => by
    subst e
    have h1 : c1.ρ k = .box (.loc n) := if_pos rfl
    rcases hr' with hr | ⟨_, hr⟩ <;> (rw [h1] at hr; cases hr)
   unfold Rd at hr' ⊢
   rw [hρ k hkg] at hr'
   have hback : ∀ r, h.ρ k = r → (r = .set ∨ r = .out) → c.ρ k = r := fun r hk hr => by
    simp only [h, Cx.home] at hk
    split at hk
    · split at hk
      · split at hk <;> (rcases hr with hr | hr <;> (rw [← hk] at hr; cases hr))
      · rcases hr with hr | hr <;> (rw [← hk] at hr; cases hr)
    · exact hk
   rcases hr' with hr | ⟨h1, hr⟩
   · exact .inl (hback _ hr (.inl rfl))
   · exact .inr ⟨h1, hback _ hr (.inr rfl)⟩
end
end Go.Den
namespace Go.Den
open Go Go.RowKit
set_option linter.unusedVariables false
def zai : List PRow → List Nat
 | [] => []
 | (i, k, _) :: l => match Nat.beq k 3 with | true => i :: zai l | false => zai l
def zhp (L : Array Bool) : List Nat → Array Bool
 | [] => L
 | i :: l => zhp (L.setIfInBounds i true) l
def zhS (l : List PRow) (j : Nat) : Bool := !(l.any fun r => Nat.beq r.1 j && (Nat.beq r.2.1 2 || (Nat.beq r.2.1 11 || Nat.beq r.2.1 13)))
def zkA (o : Oper) (n : Nat) : Bool := match o.dst with | some m => Nat.beq m n | none => false
def zii (ops : Array Oper) : Bool :=
 (List.range ops.size).all fun i => (List.range ops.size).all fun j => Nat.beq i j || match ops[i]?, ops[j]? with
  | some x, some y => (match x.dst with | some n => !zkA y n | none => true)
  | _, _ => true
def zhP (ty : Nat → Option TI) (ops : Array Oper) (ds : List Nat) (i : Nat) : Bool :=
 match ops[i]? with
 | some o => (match o.op, o.dst, o.guard with | .alloc t, some n, none => memN n ds && (ty t).isSome | _, _, _ => false)
 | none => false
def on? (D : List Nat) (i : Nat) (o : Oper) : Bool := o.after.any fun e => Region.binds .any e && (Nat.beq e.on i || memN e.on D)
def zeh (ops : Array Oper) (i : Nat) : List Nat → List Nat → List Nat
 | [], D => D
 | j :: l, D => zeh ops i l (match ops[j]? with | some o => (match on? D i o with | true => j :: D | false => D) | none => D)
def zit (ops : Array Oper) (L : Array Bool) (i : Nat) (A D : List Nat) : Bool :=
 (D.all fun j => (match ops[j]? with | some o => on? D i o | none => true) && (!L.getD j false && !memN j A))
def zjM (ops : Array Oper) (L : Array Bool) (i : Nat) (D : List Nat) : Bool :=
 match ops[i]? with
 | none => false
 | some oi => (List.range ops.size).all fun j => Nat.beq j i || (L.getD j true || (memN j D || match ops[j]? with | some oj => oi.apart ops oj | none => true))
def zgD (ops : Array Oper) (fl : Nat → Bool) (L : Array Bool) (i : Nat) (D : List Nat) : Bool :=
 (List.range ops.size).all fun j => Nat.beq j i || (L.getD j true || (memN j D || fl j))
def zff (ops : Array Oper) (L : Array Bool) (i : Nat) (A : List Nat) : Bool := zit ops L i A (zeh ops i (List.range ops.size) []) && zjM ops L i (zeh ops i (List.range ops.size) [])
def zbI (ops : Array Oper) (L : Array Bool) (i : Nat) (l : List PRow) : Bool := (Region.ready .any ops (zhp L (zai l))).all (Nat.beq i)
def zb4 (x : Nat) : Operand → Bool
 | .tmp y => Nat.beq x y
 | _ => false
def zj4 (ds : List Nat) (oi oj : Oper) : Bool :=
 match oi.op, oi.dst, oi.guard, oj.op, oj.dst, oj.guard with
 | .call c, some y, none, .makeSlice _ zl zc, some x, none =>
   (match c.callee with | .value (.func _) => true | _ => false) && (!Nat.beq x y && (memN x ds && memN y ds)) && ((!zb4 y zl && !zb4 y zc) && c.args.toList.all (fun z => !zb4 x z))
 | _, _, _, _, _, _ => false
def zjn (ops : Array Oper) (L : Array Bool) (i : Nat) (ds : List Nat) (l : List PRow) : Bool :=
 match l with
 | (j, k, _) :: l' => (Nat.beq k 8 && ((zai l').isEmpty && !Nat.beq i j)) && (match ops[i]?, ops[j]? with | some oi, some oj => zj4 ds oi oj | _, _ => false) &&
  ((Region.ready .any ops L).all (fun m => Nat.beq m i || Nat.beq m j) && (Region.ready .any ops (L.setIfInBounds j true)).all (Nat.beq i))
 | [] => false
def ziN (ds : List Nat) (oi oj : Oper) : Bool :=
 match oi.op, oi.dst, oi.guard, oj.op, oj.dst, oj.guard with
 | .load _ _, some y, none, .store _ a v, none, none => memN y ds && (!zb4 y a && !zb4 y v)
 | _, _, _, _, _, _ => false
def zh2 (ops : Array Oper) (L : Array Bool) (i : Nat) (ds : List Nat) (l : List PRow) : Bool :=
 match l with
 | (j, k, _) :: l' => (Nat.beq k 11 && ((zai l').isEmpty && !Nat.beq i j)) && (match ops[i]?, ops[j]? with | some oi, some oj => ziN ds oi oj | _, _ => false) &&
  ((Region.ready .any ops L).all (fun m => Nat.beq m i || Nat.beq m j) && (Region.ready .any ops (L.setIfInBounds j true)).all (Nat.beq i))
 | [] => false
def zix (ds : List Nat) (oi oj : Oper) : Bool :=
 match oi.op, oi.dst, oi.guard, oj.op, oj.dst, oj.guard with
 | .load _ z, some y, none, .call c, some x, none =>
   (match c.callee with | .value (.func _) => true | _ => false) && ((!Nat.beq x y && (memN x ds && memN y ds)) && (!zb4 x z && c.args.toList.all (fun z => !zb4 y z)))
 | _, _, _, _, _, _ => false
def zh8 (ops : Array Oper) (fl : Nat → Bool) (L : Array Bool) (i : Nat) (ds : List Nat) (l : List PRow) : Bool :=
 match l with
 | (j, k, _) :: l' => (Nat.beq k 13 && ((zai l').isEmpty && !Nat.beq i j)) && (match ops[i]?, ops[j]? with | some oi, some oj => zix ds oi oj | _, _ => false) &&
  ((Region.ready .any ops L).all (fun m => Nat.beq m i || Nat.beq m j) && ((Region.ready .any ops (L.setIfInBounds j true)).contains i && (zff ops (L.setIfInBounds j true) i (zai l') && zgD ops fl (L.setIfInBounds j true) i (zeh ops i (List.range ops.size) []))))
 | [] => false
def zmW (ops : Array Oper) (fl : Nat → Bool) (L : Array Bool) (i k : Nat) (ds : List Nat) (l : List PRow) : Bool :=
 match k with
 | 7 => zjn ops L i ds l
 | 10 => zh2 ops L i ds l
 | 11 => zbI ops L i l && !fl i
 | 12 => zh8 ops fl L i ds l
 | 13 => zbI ops L i l && !fl i
 | 0 => zff ops L i (zai l)
 | 1 => zff ops L i (zai l) && zgD ops fl L i (zeh ops i (List.range ops.size) [])
 | 2 => zbI ops L i l && !fl i
 | _ => zbI ops L i l
def zb3 (ty : Nat → Option TI) (ops : Array Oper) (fl : Nat → Bool) : Array Bool → List PRow → Bool
 | L, [] => (Region.ready .any ops L).isEmpty
 | L, (i, k, ds) :: l => ((Region.ready .any ops L).contains i && (!(l.any fun r => Nat.beq r.1 i) && (zai ((i, k, ds) :: l)).all (zhP ty ops ds))) && (zmW ops fl L i k ds l && zb3 ty ops fl (L.setIfInBounds i true) l)
def ziq (ty : Nat → Option TI) (ops : Array Oper) (p : Plan) : Bool :=
 (Region.noSelect ops && (zii ops && Nat.ble p.2.length ops.size)) && ((match p.1 with | some M => ops.all (fun o => M.all fun n => !zkA o n) | none => true) && zb3 ty ops (zhS p.2) (Array.replicate ops.size false) p.2)
def Sup (L listed : Array Bool) (A : List Nat) : Prop := ∀ j : Nat, listed[j]? = (L[j]?).map (· || memN j A)
theorem zbf {a x : Nat} {l : List Nat} : memN x (a :: l) = (Nat.beq x a || memN x l) := by
 cases h : memN x (a :: l) with
 | true =>
   have := memN_iff.1 h
   rcases List.mem_cons.1 this with e | e
   · simp [beq_eq.2 e]
   · simp [memN_iff.2 e]
 | false =>
   cases h2 : Nat.beq x a with
   | true => rw [memN_iff.2 (by rw [beq_eq.1 h2]; simp)] at h; cases h
   | false =>
     cases h3 : memN x l with
     | true => rw [memN_iff.2 (List.mem_cons_of_mem _ (memN_iff.1 h3))] at h; cases h
     | false => rfl
theorem Sup.refl (L : Array Bool) : Sup L L [] := fun j => by simp [memN]
theorem getElem?_set (L : Array Bool) (i j : Nat) : (L.setIfInBounds i true)[j]? = if i = j then (L[j]?).map (fun _ => true) else L[j]? := by
 by_cases h : i = j
 · subst h
   rw [if_pos rfl]
   by_cases hl : i < L.size
   · simp [hl]
   · rw [Array.getElem?_eq_none (by simp; omega), Array.getElem?_eq_none (by omega)]; rfl
 · rw [if_neg h, Array.getElem?_setIfInBounds_ne h]
theorem Sup.set {L listed : Array Bool} {A : List Nat} (h : Sup L listed A) (i : Nat) : Sup (L.setIfInBounds i true) (listed.setIfInBounds i true) A := fun j => by
 rw [getElem?_set, getElem?_set, h j]
 by_cases e : i = j
 · simp [e]
   cases L[j]? <;> rfl
 · simp [e]
theorem Sup.early {L listed : Array Bool} {A : List Nat} (h : Sup L listed A) (i : Nat) : Sup L (listed.setIfInBounds i true) (i :: A) := fun j => by
 rw [getElem?_set, h j]
 by_cases e : i = j
 · have hb : Nat.beq j i = true := beq_eq.2 e.symm
   simp only [e, if_true, zbf]
   rw [show Nat.beq j j = true from beq_eq.2 rfl]
   cases L[j]? <;> simp
 · have hb : Nat.beq j i = false := beq_ne.2 (fun h => e h.symm)
   simp [e, zbf, hb]
theorem Sup.adopt {L listed : Array Bool} {A : List Nat} (h : Sup L listed A) {i : Nat} (hi : memN i A = true) : Sup (L.setIfInBounds i true) listed (A.filter fun j => !Nat.beq j i) := fun j => by
 rw [getElem?_set, h j]
 by_cases e : i = j
 · subst e
   simp only [if_true, hi]
   cases L[i]? <;> simp
 · have hb : Nat.beq j i = false := beq_ne.2 (fun h => e h.symm)
   rw [if_neg e]
   have : memN j (A.filter fun j => !Nat.beq j i) = memN j A := by
    cases h1 : memN j A with
    | true => exact memN_iff.2 (List.mem_filter.2 ⟨memN_iff.1 h1, by simp [hb]⟩)
    | false =>
      cases h2 : memN j (A.filter fun j => !Nat.beq j i) with
      | false => rfl
      | true => rw [memN_iff.2 (List.mem_filter.1 (memN_iff.1 h2)).1] at h1; cases h1
   rw [this]
theorem zfz : ∀ (B : List Nat) (L : Array Bool), Sup L (zhp L B) B
 | [], L => Sup.refl L
 | i :: B, L => fun j => by
   have := zfz B (L.setIfInBounds i true) j
   simp only [zhp]
   rw [this, getElem?_set]
   by_cases e : i = j
   · subst e
     simp only [if_true, zbf, show Nat.beq i i = true from beq_eq.2 rfl]
     cases L[i]? <;> simp
   · have hb : Nat.beq j i = false := beq_ne.2 (fun h => e h.symm)
     simp [e, zbf, hb]
theorem Sup.un {L listed : Array Bool} {A : List Nat} (h : Sup L listed A) {j : Nat} (hu : listed.getD j true = false) : L.getD j true = false ∧ memN j A = false := by
 rw [Array.getD_eq_getD_getElem?, h j] at hu
 rw [Array.getD_eq_getD_getElem?]
 cases hL : L[j]? with
 | none => rw [hL] at hu; cases hu
 | some b =>
   rw [hL] at hu
   simp at hu ⊢
   exact hu
theorem Sup.un' {L listed : Array Bool} {A : List Nat} (h : Sup L listed A) {j : Nat} (hu : L.getD j true = false) (hA : memN j A = false) : listed.getD j true = false := by
 rw [Array.getD_eq_getD_getElem?] at hu
 rw [Array.getD_eq_getD_getElem?, h j]
 cases hL : L[j]? with
 | none => rw [hL] at hu; cases hu
 | some b =>
   rw [hL] at hu
   simp at hu ⊢
   exact ⟨hu, hA⟩
theorem Sup.on {L listed : Array Bool} {A : List Nat} (h : Sup L listed A) {j : Nat} (hu : L.getD j false = true) : listed.getD j false = true := by
 rw [Array.getD_eq_getD_getElem?] at hu
 rw [Array.getD_eq_getD_getElem?, h j]
 cases hL : L[j]? with
 | none => rw [hL] at hu; cases hu
 | some b =>
   rw [hL] at hu
   simp at hu ⊢
   exact .inl hu
theorem zkB {md : Region.Mode} {ops : Array Oper} {L listed : Array Bool} {A : List Nat} (h : Sup L listed A) {j : Nat} (hj : j ∈ Region.ready md ops L) (hA : memN j A = false) : j ∈ Region.ready md ops listed := by
 obtain ⟨h1, o, ho, h2⟩ := mem_ready.1 hj
 exact mem_ready.2 ⟨h.un' h1 hA, o, ho, fun e he hb => h.on (h2 e he hb)⟩
theorem zcf {md : Region.Mode} {ops : Array Oper} {L listed : Array Bool} {A B : List Nat} (h : Sup L listed A) (hAB : ∀ k, memN k A = true → memN k B = true) {j : Nat} (hj : j ∈ Region.ready md ops listed) : memN j B = true ∨ j ∈ Region.ready md ops (zhp L B) := by
 cases hB : memN j B with
 | true => exact .inl rfl
 | false =>
   right
   obtain ⟨h1, o, ho, h2⟩ := mem_ready.1 hj
   have hs := zfz B L
   refine mem_ready.2 ⟨hs.un' (h.un h1).1 hB, o, ho, fun e he hb => ?_⟩
   have h3 := h2 e he hb
   rw [Array.getD_eq_getD_getElem?, h e.on] at h3
   rw [Array.getD_eq_getD_getElem?, hs e.on]
   cases hL : L[e.on]? with
   | none => rw [hL] at h3; cases h3
   | some b =>
     rw [hL] at h3
     simp at h3 ⊢
     rcases h3 with h3 | h3
     · exact .inl h3
     · exact .inr (hAB _ h3)
def zco (A : List Nat) (l : List PRow) : Nat := l.countP fun r => !memN r.1 A
theorem zaK {A : List Nat} {i k : Nat} {ds : List Nat} {l : List PRow} : zco A ((i, k, ds) :: l) = zco A l + (match memN i A with | true => 0 | false => 1) := by
 unfold zco
 rw [List.countP_cons]
 cases memN i A <;> rfl
theorem zjj {A B : List Nat} (h : ∀ k, memN k A = true → memN k B = true) (l : List PRow) : zco B l ≤ zco A l := by
 unfold zco
 refine List.countP_mono_left fun r _ hr => ?_
 cases hA : memN r.1 A with
 | false => rfl
 | true => rw [h _ hA] at hr; cases hr
theorem zfp {A : List Nat} {j : Nat} (hj : memN j A = false) : ∀ {l : List PRow}, (∃ r ∈ l, r.1 = j) → zco (j :: A) l + 1 ≤ zco A l
 | [], h => by obtain ⟨r, h, _⟩ := h; cases h
 | (i, k, ds) :: l, h => by
   rw [zaK, zaK]
   have hm := zjj (A := A) (B := j :: A) (fun k hk => by rw [zbf, hk]; simp) l
   by_cases e : i = j
   · subst e
     have h1 : memN i (i :: A) = true := memN_iff.2 (by simp)
     rw [h1, hj]
     simp only
     omega
   · have h2 : ∃ r ∈ l, r.1 = j := by
      obtain ⟨r, hr, hrj⟩ := h
      rcases List.mem_cons.1 hr with rfl | hr
      · exact (e hrj).elim
      · exact ⟨r, hr, hrj⟩
     have ih := zfp hj h2
     have hb : Nat.beq i j = false := beq_ne.2 e
     have : memN i (j :: A) = memN i A := by rw [zbf, hb]; rfl
     rw [this]
     omega
theorem zid {A : List Nat} {i : Nat} {l : List PRow} (h : l.any (fun r => Nat.beq r.1 i) = false) : zco (A.filter fun j => !Nat.beq j i) l ≤ zco A l := by
 unfold zco
 refine Nat.le_of_eq (List.countP_congr fun r hr => ?_)
 have hne : Nat.beq r.1 i = false := by
  have := (List.any_eq_false.1 h) r hr
  cases hb : Nat.beq r.1 i with
  | false => rfl
  | true => exact (this hb).elim
 have : memN r.1 (A.filter fun j => !Nat.beq j i) = memN r.1 A := by
  cases h1 : memN r.1 A with
  | true => exact memN_iff.2 (List.mem_filter.2 ⟨memN_iff.1 h1, by simp [hne]⟩)
  | false =>
    cases h2 : memN r.1 (A.filter fun j => !Nat.beq j i) with
    | false => rfl
    | true => rw [memN_iff.2 (List.mem_filter.1 (memN_iff.1 h2)).1] at h1; cases h1
 rw [this]
theorem zbS : ∀ {l : List PRow} {j : Nat}, j ∈ zai l → ∃ r ∈ l, r.1 = j
 | (i, k, ds) :: l, j, h => by
   unfold zai at h
   split at h
   · rcases List.mem_cons.1 h with rfl | h
     · exact ⟨_, List.mem_cons_self, rfl⟩
     · obtain ⟨r, hr, e⟩ := zbS h
       exact ⟨r, List.mem_cons_of_mem _ hr, e⟩
   · obtain ⟨r, hr, e⟩ := zbS h
     exact ⟨r, List.mem_cons_of_mem _ hr, e⟩
theorem zfL {ty : Nat → Option TI} {ops : Array Oper} {ds : List Nat} {j : Nat} (h : zhP ty ops ds j = true) : ∃ o t n i, ops[j]? = some o ∧ o.op = .alloc t ∧ o.dst = some n ∧ o.guard = none ∧ n ∈ ds ∧ ty t = some i := by
 unfold zhP at h
 split at h
 · rename_i o ho
   split at h
   · rename_i t n h1 h2 h3
     simp only [Bool.and_eq_true] at h
     obtain ⟨i, hi⟩ := Option.isSome_iff_exists.1 h.2
     exact ⟨o, t, n, i, ho, h1, h2, h3, memN_iff.1 h.1, hi⟩
   · cases h
 · cases h
theorem zbo {s : St} : ∀ {ds : List Nat}, zdO s ds = true → ∀ n ∈ ds, s.t n = .junk
 | [], h, n, hn => by cases hn
 | m :: ds, h, n, hn => by
   have h' : (zhd (s.t m) && zdO s ds) = true := h
   simp only [Bool.and_eq_true] at h'
   rcases List.mem_cons.1 hn with rfl | hn
   · exact zgR h'.1
   · exact zbo h'.2 n hn
theorem zgH {ops : Array Oper} (h : zii ops = true) {i j : Nat} {x y : Oper} {n : Nat} (hi : ops[i]? = some x) (hj : ops[j]? = some y) (hne : i ≠ j) (hx : x.dst = some n) : y.dst ≠ some n := by
 intro hy
 have hil := (Array.getElem?_eq_some_iff.1 hi).1
 have hjl := (Array.getElem?_eq_some_iff.1 hj).1
 have h1 := (List.all_eq_true.1 h) i (List.mem_range.2 hil)
 have h2 := (List.all_eq_true.1 h1) j (List.mem_range.2 hjl)
 rw [hi, hj, beq_ne.2 hne] at h2
 simp only [hx, zkA, hy, Bool.false_or] at h2
 rw [show Nat.beq n n = true from beq_eq.2 rfl] at h2
 cases h2
theorem zjE {ops : Array Oper} {fl : Nat → Bool} {L : Array Bool} {i : Nat} {D : List Nat} (h : zgD ops fl L i D = true) {j : Nat} {oj : Oper} (hj : ops[j]? = some oj) (hne : j ≠ i) (hun : L.getD j true = false) (hno : memN j D = false) : fl j = true := by
 have h1 := (List.all_eq_true.1 h) j (List.mem_range.2 (Array.getElem?_eq_some_iff.1 hj).1)
 rw [beq_ne.2 hne, hun, hno] at h1
 simpa using h1
theorem zj8 {ops : Array Oper} {L : Array Bool} {i : Nat} {oi : Oper} {D : List Nat} (hi : ops[i]? = some oi) (h : zjM ops L i D = true) {j : Nat} {oj : Oper} (hj : ops[j]? = some oj) (hne : j ≠ i) (hun : L.getD j true = false) (hno : memN j D = false) : oi.apart ops oj = true := by
 unfold zjM at h
 rw [hi] at h
 have h1 := (List.all_eq_true.1 h) j (List.mem_range.2 (Array.getElem?_eq_some_iff.1 hj).1)
 rw [beq_ne.2 hne, hun, hno, hj] at h1
 simpa using h1
theorem zeB {ops : Array Oper} {L : Array Bool} {i : Nat} {A D : List Nat} (h : zit ops L i A D = true) {j : Nat} (hD : memN j D = true) : (∀ oj, ops[j]? = some oj → ∃ e ∈ oj.after, Region.binds .any e = true ∧ (e.on = i ∨ memN e.on D = true)) ∧ L.getD j false = false ∧ memN j A = false := by
 have h1 := (List.all_eq_true.1 h) j (memN_iff.1 hD)
 simp only [Bool.and_eq_true, Bool.not_eq_true'] at h1
 refine ⟨fun oj hoj => ?_, h1.2.1, h1.2.2⟩
 rw [hoj] at h1
 obtain ⟨e, he, hb⟩ := Array.any_eq_true'.1 h1.1
 simp only [Bool.and_eq_true, Bool.or_eq_true] at hb
 refine ⟨e, he, hb.1, ?_⟩
 rcases hb.2 with h | h
 · exact .inl (beq_eq.1 h)
 · exact .inr h
theorem Sup.onL {L listed : Array Bool} {A : List Nat} (h : Sup L listed A) {j : Nat} (hu : listed.getD j false = true) : L.getD j false = true ∨ memN j A = true := by
 rw [Array.getD_eq_getD_getElem?, h j] at hu
 rw [Array.getD_eq_getD_getElem?]
 cases hL : L[j]? with
 | none => rw [hL] at hu; cases hu
 | some b =>
   rw [hL] at hu
   simpa using hu
end Go.Den
