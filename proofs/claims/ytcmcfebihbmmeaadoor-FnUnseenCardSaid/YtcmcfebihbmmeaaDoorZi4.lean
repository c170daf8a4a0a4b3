/- Merged out of: D24 D25 D26 D37 D38 D39 Shelf CN CI CJ D27 D28 D29 (prune.py, a program of this work's). -/
import Derived.Test.YtcmcfebihbmmeaaDoorZi3
import Derived.LoopN
import Derived.Laws.IdiomStrings
import Derived.Sort.Grow
import Derived.Sort.Row
import Derived.Lib.SlicesCompact
import Derived.Shelf.Spec.SlicesInsert
import Derived.Shelf.Spec.SlicesInsertGrow
import Derived.Shelf.Strconv.Atoi
import Derived.Shelf.Strconv.Itoa0
import Derived.Shelf.Strconv.Itoa1
import Derived.Shelf.LaysM
import Derived.Shelf.Strconv.Itoa2
import Derived.Shelf.Strconv.Itoa3
import Derived.Shelf.Strconv.AtoiErrFast
import Derived.Shelf.Strconv.ParseIntEmpty
import Derived.Shelf.Strconv.AtoiFail
import Derived.Shelf.Strconv.Clone
import Derived.Shelf.Strconv.SyntaxError
import Derived.Shelf.LaysC
import Derived.Shelf.Strconv.ToError
import Derived.Shelf.Strconv.AtoiErr
import Derived.Shelf.Strconv.ErrVar
import Derived.Shelf.Strconv.AppendUint10
import Derived.Shelf.Strconv.AppendInt10
import Derived.Shelf.Strconv.AppendIntPublic10
import Derived.Shelf.Slices.Turned
import Derived.Shelf.Slices.Reverse
import Derived.Ground.Names2Prog
import Derived.Shelf.Slices.SearchI
import Derived.Shelf.Slices.Delete
import Derived.Shelf.Slices.Cells
import Derived.Shelf.Slices.Empties
import Derived.Ground.SlgnProg
import Derived.Shelf.SlicesE.Clone
import Derived.Test.YtcmcfebihbmmeaaDoorProg
import Derived.Test.YtcmcfebihbmmeaaDoorChecked
import Derived.WalkKit
import Derived.Deep.RegionWith
import Derived.KernelRfl
import Derived.Maps.AppendAt
import Derived.Lib.AtoiErrMem
import Derived.Lib.AppendIntMem
import Derived.Lib.ItoaWalk
import Derived.OwnWalk
import Derived.BigCall
import Derived.BigGuard
import Derived.Stop.LaidErr
import Derived.Handed
import Derived.OrdersHeld
set_option linter.unusedVariables false
set_option linter.unusedSimpArgs false
set_option linter.unnecessarySimpa false
namespace Go.Den
open Go Go.RowKit
set_option linter.unusedVariables false
variable {B : Nat → Option Obj}
def zba (nt : Nat) (o : Oper) : Bool :=
 match o.dst with
 | some n => Nat.blt n nt && (match o.op with | .store _ _ _ => false | .mapUpdate _ _ _ _ => false | .insert _ _ _ _ => false | _ => true)
 | none => match o.op with
   | .box _ _ => false
   | .build _ _ => false
   | .buildSlice _ _ _ => false
   | .slice _ _ _ _ _ => false
   | .call c => (match c.callee with | .builtin _ => false | _ => true)
   | _ => true
theorem zaX {nt : Nat} {o : Oper} (h : zba nt o = true) : ∀ n : Nat, o.dst = some n → n < nt := by
 intro n hn
 unfold zba at h
 rw [hn] at h
 simp only [Bool.and_eq_true] at h
 have : n + 1 ≤ nt := by simpa [Nat.blt] using h.1
 omega
theorem zhU {nt : Nat} {o : Oper} {t : TypeId} {a v : Operand} (h : zba nt o = true) (ho : o.op = .store t a v) : o.dst = none := by
 unfold zba at h
 cases hd : o.dst with
 | none => rfl
 | some n => rw [hd, ho] at h; simp at h
theorem zgK {nt : Nat} {o : Oper} {t : TypeId} {m k v : Operand} (h : zba nt o = true) (ho : o.op = .mapUpdate t m k v ∨ o.op = .insert t m k v) : o.dst = none := by
 unfold zba at h
 cases hd : o.dst with
 | none => rfl
 | some n => rcases ho with ho | ho <;> rw [hd, ho] at h <;> simp at h
structure EnvOK (P : Program) (B : Nat → Option Obj) (E : Env) (c : Cx) (a : Act) : Prop where
 ty : E.ty = c.ty
 tys : TyOk P c.ty
 inv : Firm B c
 call : zcE P c.ty B E.call
 nt : a.tmps.size = E.nt
theorem EnvOK.next {P : Program} {E : Env} {c c' : Cx} {a a' : Act} (h : EnvOK P B E c a) (he : Ext c c') (ha : a'.tmps.size = a.tmps.size) : EnvOK P B E c' a' :=
 ⟨by rw [he.ty]; exact h.ty, by rw [he.ty]; exact h.tys, h.inv.ext he, by rw [he.ty]; exact h.call, by rw [ha]; exact h.nt⟩
section
variable {P : Program} {E : Env} {c : Cx} {a : Act} {o : Oper} {X : Nat}
theorem zcY : ∀ {es : List Dat} {l : List UInt8}, zb9 es = some l → ∃ ns : List Int, es = ns.map (fun n => Dat.val (.int .u8 n)) ∧ l = ns.map fun n => UInt8.ofNat n.toNat
 | [], l, h => by cases h; exact ⟨[], rfl, rfl⟩
 | d :: es, l, h => by
   unfold zb9 at h
   split at h
   · rename_i h0; cases h0
   · rename_i n l0 h0
     injection h0 with h1 h2
     subst h1 h2
     obtain ⟨l1, h3, rfl⟩ := Option.map_eq_some_iff.1 h
     obtain ⟨ns, rfl, rfl⟩ := zcY h3
     exact ⟨n :: ns, rfl, rfl⟩
   · cases h
theorem zcC : ∀ (ns : List Int) (r : ByteArray), ns.foldl (fun r n => r.push (UInt8.ofNat n.toNat)) r = ⟨r.data ++ (ns.map fun n => UInt8.ofNat n.toNat).toArray⟩
 | [], r => by simp
 | n :: ns, r => by
   simp only [List.foldl_cons]
   rw [zcC ns]
   simp [ByteArray.push]
theorem zlV (w : World) (src dst e : TypeId) (a : Addr) (cap : Nat) (ns : List Int) (hs : P.underlying src = some (.slice e)) (he : P.underlying e = some (.int .u8)) (hd : P.underlying dst = some .string)
 (hc : ∀ (j : Nat) (n : Int), ns[j]? = some n → w.cell? (a.add j) = some (.int .u8 n)) :
 (convert src dst (.slice (some a) ns.length cap)).run P w = .ok (.string ⟨(ns.map fun n => UInt8.ofNat n.toNat).toArray⟩) w := by
 rw [run_convert_bytes_string w src dst e (some a) ns.length cap hs he hd]
 have hl := run_loadCells_list (P := P) w a (ns.map (Value.int .u8)) (fun j v hj => by
  rw [List.getElem?_map] at hj
  cases hn : ns[j]? with
  | none => rw [hn] at hj; cases hj
  | some n => rw [hn] at hj; cases hj; exact hc j n hn)
 simp only [List.length_map] at hl
 rw [run_bytesToString w a ns.length cap _ hl, zcC]
 have he0 : ByteArray.empty.data = #[] := rfl
 rw [he0]
 simp
theorem zg1 {s' : St} {t u : Nat} {y : Operand} (hE : EnvOK P B E c a) (hf : Fr X c a) (hd : ∀ n : Nat, o.dst = some n → n < a.tmps.size) (ho : o.op = .convert t u y) (h : zcA E c.s o.dst t u y = some s') : ∀ (K : Act → World → Prop) (Q : Exit → Act → World → Prop), (∀ a' c', c'.s = s' → Fr X c' a' → Ext c c' → Below c.W.heap.size c.W c'.W → a'.tmps.size = a.tmps.size → a'.defers = a.defers → K a' c'.W) → o.wp P a c.W K Q := by
 intro K Q hK
 unfold zcA at h
 simp only [Option.bind_eq_some_iff] at h
 obtain ⟨i, hi, h⟩ := h
 rw [hE.ty] at hi
 split at h
 · rename_i e hk
   simp only [Option.bind_eq_some_iff] at h
   obtain ⟨j, hj, k, hkk, h⟩ := h
   rw [hE.ty] at hj hkk
   split at h
   · rename_i hj8 hks
     simp only [Option.bind_eq_some_iff, Option.map_eq_some_iff] at h
     obtain ⟨es, hr, v, hv, n, hn, rfl⟩ := h
     obtain ⟨_, _, _, hfi⟩ := hE.tys.facts hi
     obtain ⟨_, dj, _, hfj⟩ := hE.tys.facts hj
     obtain ⟨_, _, _, hfk⟩ := hE.tys.facts hkk
     have hu1 := (hfi.slice hk).1
     have hu2 := hfk.str hks
     have hkj := hfj.kind
     have hu3 : P.underlying e = some (.int .u8) := by
      rw [hfj.und]
      cases dj <;> simp [zaH, hj8] at hkj ⊢
      exact hkj
     unfold zcl at hv
     obtain ⟨l, hl, rfl⟩ := Option.map_eq_some_iff.1 hv
     obtain ⟨ns, rfl, rfl⟩ := zcY hl
     have h1 := (zaj hf.sim y (.lent 0)).1
     have hrun : (execOp a.eval o).run P c.W = .ok (.value (.string ⟨(ns.map fun n => UInt8.ofNat n.toNat).toArray⟩)) c.W := by
      rcases ze9 (sz := 1) hf.sim (fun _ _ h => h) h1 hr (fun d hd => by obtain ⟨n, _, rfl⟩ := List.mem_map.1 hd; rfl) (by omega) with ⟨he, k, hval⟩ | ⟨ad, k, news, hval, hrep, hc⟩
      · have : ns = [] := by simpa using he
        subst this
        have h5 := run_convert_bytes_string c.W t u e none 0 k hu1 hu3 hu2
        have h6 : (Conv.bytesToString (.slice none 0 k)).run P c.W = .ok (.string ⟨#[]⟩) c.W := rfl
        rw [h6] at h5
        simp only [execOp, ho, hval]
        rw [Sem.run_bind, h5]
        rfl
      · rw [List.length_map] at hval
        have := zlV c.W t u e ad k ns hu1 hu3 hu2 (fun j n hj => by
         have hj2 : (ns.map (fun n => Dat.val (.int .u8 n)))[j]? = some (.val (.int .u8 n)) := by rw [List.getElem?_map, hj]; rfl
         have hlt := (List.getElem?_eq_some_iff.1 hj).1
         have hnl : news.length = ns.length := by have := hrep.len; simpa using this
         have hr2 := hrep.rep j _ hj2
         have hx := List.getElem?_eq_getElem (show j < news.length by omega)
         have e1 : (news.drop (j * 1)).take 1 = [news[j]] := by
          rw [Nat.mul_one, List.drop_eq_getElem_cons (by omega)]
          rfl
         rw [e1] at hr2
         have key : ∀ cv, Rep c.ρ c.W (.val (.int .u8 n)) cv → cv = [.int .u8 n] := fun cv h => by cases h; rfl
         have h7 := key _ hr2
         injection h7 with h7
         rw [h7] at hx
         exact hc j _ hx)
        simp only [execOp, ho, hval]
        rw [Sem.run_bind, this]
        rfl
     exact zaC (ef := .pure (.dat (.val (.string ⟨(ns.map fun n => UInt8.ofNat n.toNat).toArray⟩)))) hf hd (fun x => (Yields.same hrun (zaD rfl)).does) (by simp only [St.apply, hn, Option.map_some]) K Q hK
   · cases h
 · cases h
theorem zlB {s' : St} {t u : Nat} {y : Operand} (hE : EnvOK P B E c a) (hf : Fr X c a) (hd : ∀ n : Nat, o.dst = some n → n < a.tmps.size) (ho : o.op = .convert t u y) (h : zcA E c.s o.dst t u y = some s') : OpOK P X c a o s' := fun K Q hK => zg1 hE hf hd ho h K Q fun a' c' h1 h2 h3 _ h4 h5 => hK a' c' h1 h2 h3 h4 h5
theorem ziK {gp : Pl → Option Row} {d : D} {es : List Dat} (h : zit gp false d = some es) : zfq gp d = some es := by
 unfold zit at h
 split at h
 · cases h
 · exact h
theorem zmX {gp : Pl → Option Row} {d : D} {es : List Dat} (h : zit gp true d = some es) : ∃ s, d = .dat (.val (.string s)) ∧ es = zah s := by
 unfold zit at h
 split at h
 · cases h
   exact ⟨_, rfl, rfl⟩
 · cases h
theorem zkW {s' : St} (hE : EnvOK P B E c a) (hf : Fr X c a) (hk : zba E.nt o = true) (h : doOp E c.s o.dst o.type o.op = some s') : OpOK P X c a o s' := by
 have hd : ∀ n : Nat, o.dst = some n → n < a.tmps.size := by rw [hE.nt]; exact zaX hk
 cases ho : o.op with
 | assign y =>
   rw [ho] at h
   simp only [doOp, Option.bind_eq_some_iff] at h
   obtain ⟨⟨d, s1⟩, hq, h⟩ := h
   split at h
   · rename_i ht
     cases h
     exact znp hf hd ho hq ht
   · cases h
 | box t y =>
   rw [ho] at h
   simp only [doOp] at h
   split at h
   · cases h
   · rename_i n hn
     simp only [Option.bind_eq_some_iff] at h
     obtain ⟨i, hi, ⟨d, s1⟩, hq, h⟩ := h
     split at h
     · rename_i hc hb
       cases h
       simp only [Bool.and_eq_true] at hc
       exact o_box hf hd hn ho hq hc.1 hb
     · cases h
 | build t ps =>
   have hdst : o.dst.isSome = true := by
    unfold zba at hk
    cases hdd : o.dst with
    | some n => rfl
    | none => rw [hdd, ho] at hk; cases hk
   rw [ho] at h
   simp only [doOp, Option.bind_eq_some_iff] at h
   obtain ⟨i, hi, h⟩ := h
   rw [hE.ty] at hi
   split at h
   · rename_i ha
     split at h
     · rename_i n _ hn
       exact zjk hE.ty hE.tys hf hd hn ho hi ha h
     simp only [Option.bind_eq_some_iff, Option.map_eq_some_iff] at h
     obtain ⟨q, hq, cs, hcs, rfl⟩ := h
     exact zpo hE.ty hE.tys hf hd hdst ho hi ha hq hcs
   · cases h
 | buildSlice t n ps =>
   have hdst : o.dst.isSome = true := by
    unfold zba at hk
    cases hdd : o.dst with
    | some n => rfl
    | none => rw [hdd, ho] at hk; cases hk
   rw [ho] at h
   simp only [doOp, Option.bind_eq_some_iff] at h
   obtain ⟨i, hi, h⟩ := h
   rw [hE.ty] at hi
   split at h
   · rename_i e hkk
     simp only [Option.bind_eq_some_iff] at h
     obtain ⟨j, hj, z, hz, q, hq, h⟩ := h
     rw [hE.ty] at hj
     split at h
     · rename_i hall
       cases h
       exact zif hE.tys hf hd hdst ho hi hkk hj hz hq hall
     · cases h
   · cases h
 | store t za zv =>
   rw [ho] at h
   simp only [doOp] at h
   exact zpM hE.ty hE.tys hf ho (zhU hk ho) h
 | slice t y lo hi mx =>
   have hdst : o.dst.isSome = true := by
    unfold zba at hk
    cases hdd : o.dst with
    | some n => rfl
    | none => rw [hdd, ho] at hk; cases hk
   rw [ho] at h
   simp only [doOp] at h
   split at h
   · rename_i p n hz
     simp only [Option.bind_eq_some_iff, Option.map_eq_some_iff] at h
     obtain ⟨l, hl, hh, hhi, st, hst, q, hq, d, hev, rfl⟩ := h
     rw [hE.ty] at hst
     exact zpO hE.tys hf hd hdst ho hst hl hhi hz hq hev
   · cases h
 | convert t u y =>
   rw [ho] at h
   simp only [doOp] at h
   exact zlB hE hf hd ho h
 | makeMap t r =>
   rw [ho] at h
   simp only [doOp] at h
   split at h
   · rename_i n hn
     simp only [Option.bind_eq_some_iff] at h
     obtain ⟨i, hi, h⟩ := h
     split at h
     · rename_i hb
       cases h
       exact zmU hf hd hn ho hb
     · cases h
   · cases h
 | mapUpdate t m k v =>
   rw [ho] at h
   simp only [doOp] at h
   exact zko hE.ty hE.tys hf (.inl ho) (zgK hk (.inl ho)) h
 | insert t m k v =>
   rw [ho] at h
   simp only [doOp] at h
   exact zko hE.ty hE.tys hf (.inr ho) (zgK hk (.inr ho)) h
 | call ca =>
   rw [ho] at h
   simp only [doOp] at h
   split at h
   · rename_i hc
     have hdst : o.dst.isSome = true := by
      unfold zba at hk
      cases hdd : o.dst with
      | some n => rfl
      | none => rw [hdd, ho] at hk; simp [hc] at hk
     split at h
     · rename_i ab sb t u hargs hat
       simp only [Option.bind_eq_some_iff] at h
       obtain ⟨ti, hti, h⟩ := h
       rw [hE.ty] at hti
       split at h
       · rename_i el hkk
         split at h
         · rename_i htu
           have htu := beq_eq.1 htu
           subst htu
           simp only [zcr, Option.bind_eq_some_iff] at h
           obtain ⟨es2, hsrc, r, hb, i, hi, h⟩ := h
           have hsrc := ziK hsrc
           rw [hE.ty] at hi
           split at h
           · cases h
           · rename_i hcond
             simp only [Bool.and_eq_true, List.all_eq_true] at hcond
             split at h
             · rename_i hlen
               cases h
               have h3 : 1 ≤ i.sz := by simpa [Nat.blt] using hcond.1.2
               exact OpOKF.ok (zj2 hE.tys hf hd hdst ho hc hargs hat hti hkk hi hsrc hb (beq_eq.1 hcond.1.1.1) (by simpa using hcond.1.1.2) (by omega) (fun e he => beq_eq.1 (hcond.2 e he)) hlen)
             · cases h
         · simp only [Option.bind_eq_some_iff] at h
           obtain ⟨j, hj, k, hkj, h⟩ := h
           rw [hE.ty] at hj hkj
           split at h
           · rename_i hib huk
             simp only [zcr, Option.bind_eq_some_iff] at h
             obtain ⟨es2, hsrc, r, hb, i, hi, h⟩ := h
             rw [hE.ty] at hi
             obtain ⟨s, hs, rfl⟩ := zmX hsrc
             split at h
             · cases h
             · rename_i hcond
               simp only [Bool.and_eq_true, List.all_eq_true] at hcond
               split at h
               · rename_i hlen
                 cases h
                 exact zmp hE.tys hf hd hdst ho hc hargs hat hti hkk hj hib hkj huk hs hb (beq_eq.1 hcond.1.1.1) hlen
               · cases h
           · rename_i _ huk
             simp only [zfs, Option.bind_eq_some_iff] at h
             obtain ⟨n, hsrc, r, hb, i, hi, z, hz, h⟩ := h
             rw [hE.ty] at hi
             split at h
             · cases h
             · rename_i hcond
               simp only [Bool.and_eq_true, decide_eq_true_eq] at hcond
               split at h
               · rename_i hlen
                 cases h
                 have h3 : 1 ≤ i.sz := by simpa [Nat.blt] using hcond.1.2
                 exact zlS hE.tys hf hd hdst ho hc hargs hat hti hkk hi hz hkj huk hsrc hcond.2 hb (beq_eq.1 hcond.1.1.1) (by simpa using hcond.1.1.2) (by omega) hlen
               · cases h
           · cases h
       · cases h
     · cases h
   · rename_i z hc
     split at h
     · rename_i f cap hz
       exact zpT hE.ty hE.tys hE.inv hE.call hf hd ho hc hz h
     · cases h
   · cases h
 | _ => rw [ho] at h; simp only [doOp] at h; cases h
theorem zch {s' : St} (hE : EnvOK P B E c a) (hf : Fr X c a) (hk : zba E.nt o = true) (h : step E c.s o = some s') : OpOK P X c a o s' := by
 have hd : ∀ n : Nat, o.dst = some n → n < a.tmps.size := by rw [hE.nt]; exact zaX hk
 unfold step at h
 split at h
 · rename_i ef he
   exact zjR hf hd (za7 hE.ty hE.tys hE.inv hE.call hf.sim (fun _ _ h => h) (fun _ _ h => h) he) h
 · exact zkW hE hf hk h
theorem zls {s' : St} (hE : EnvOK P B E c a) (hf : Fr X c a) (hk : zba E.nt o = true) (hg : zl5 o.op = true) (h : step E c.s o = some s') : OpOKF P X c a o s' := by
 have hd : ∀ n : Nat, o.dst = some n → n < a.tmps.size := by rw [hE.nt]; exact zaX hk
 unfold zl5 at hg
 split at hg
 · rename_i ca ho
   split at hg
   · rename_i hc
     split at hg
     · rename_i ab sb t u hargs hat
       have htu := beq_eq.1 hg
       subst htu
       have hdst : o.dst.isSome = true := by
        unfold zba at hk
        cases hdd : o.dst with
        | some n => rfl
        | none => rw [hdd, ho] at hk; simp [hc] at hk
       have hev : evOp E c.s.look c.s.get c.s.box o.type o.op = none := by
        rw [ho]
        simp only [evOp, hc]
       unfold step at h
       rw [hev, ho] at h
       simp only [doOp, hc, hargs, hat, Option.bind_eq_some_iff] at h
       obtain ⟨ti, hti, h⟩ := h
       rw [hE.ty] at hti
       split at h
       · rename_i el hkk
         rw [show Nat.beq t t = true from Nat.beq_refl t] at h
         simp only [zcr, Option.bind_eq_some_iff] at h
         obtain ⟨es2, hsrc, r, hb, i, hi, h⟩ := h
         have hsrc := ziK hsrc
         rw [hE.ty] at hi
         split at h
         · cases h
         · rename_i hcond
           simp only [Bool.and_eq_true, List.all_eq_true] at hcond
           split at h
           · rename_i hlen
             cases h
             have h3 : 1 ≤ i.sz := by simpa [Nat.blt] using hcond.1.2
             exact zj2 hE.tys hf hd hdst ho hc hargs hat hti hkk hi hsrc hb (beq_eq.1 hcond.1.1.1) (by simpa using hcond.1.1.2) (by omega) (fun e he => beq_eq.1 (hcond.2 e he)) hlen
           · cases h
       · cases h
     · cases hg
   · cases hg
 · cases hg
theorem zdg {s : St} {x : Nat} {b : Bool} (h : s.t x = .dat (.val (.bool b))) : s.force x b = s := by
 cases s with
 | mk t b' u l =>
   simp only [St.force, St.mk.injEq, and_true]
   funext y
   cases hb : Nat.beq y x with
   | true => rw [beq_eq.1 hb]; exact h.symm
   | false => rfl
theorem zi2 {x : Option Nat} (hf : Fr X c a) (hd : ∀ n : Nat, x = some n → n < a.tmps.size) : ∃ c', c'.s = c.s.putO x .undef ∧ c'.W = c.W ∧ Fr X c' (a.put x undef) ∧ Ext c c' ∧ (a.put x undef).tmps.size = a.tmps.size ∧ (a.put x undef).defers = a.defers := by
 cases x with
 | none => exact ⟨c, rfl, rfl, hf, Ext.refl c, rfl, rfl⟩
 | some n =>
   have hlt := hd n rfl
   have hne : X ≠ n := Nat.ne_of_gt (Nat.lt_of_lt_of_le hlt hf.ghost.out)
   have hsim := (Grown.refl c n).put hf.sim hlt (show VR c (.slot n []) .undef undef from rfl)
   exact ⟨{ c with s := c.s.put n .undef }, rfl, rfl, ⟨hsim, by simpa [Act.put] using hf.ghost.out, za2 hne hf.ghost.own⟩, (Ext.refl c).setS _, by simp [Act.put], rfl⟩
def EndsIn (P : Program) (X : Nat) (c : Cx) (a : Act) (s' : St) (Q : Act → World → Prop) : Prop :=
 ∀ a' c', c'.s = s' → Fr X c' a' → Ext c c' → a'.tmps.size = a.tmps.size → a'.defers = a.defers → Q a' c'.W
theorem zhV {ops : Array Oper} {j : Nat} {n : Nat} (hs : Sim c a.tmps) (hn : n < a.tmps.size) (h : (ops[j]?).bind (·.dst) = some n) : (∀ b, c.s.t n = .dat (.val (.bool b)) → yielded ops a.tmps j = some b) ∧ (c.s.t n = .undef → yielded ops a.tmps j = none) := by
 have hv := hs.slots n
 have e : a.tmps[n]? = some (a.tmps.getD n undef) := by simp [Array.getD, hn]
 refine ⟨fun b hb => ?_, fun hb => ?_⟩
 · rw [hb] at hv
   have := (zaq hv).1
   unfold yielded
   rw [h]
   simp only [Option.bind_some]
   rw [e, this]
 · rw [hb] at hv
   have hv : a.tmps.getD n undef = undef := hv
   unfold yielded
   rw [h]
   simp only [Option.bind_some]
   rw [e, hv]
   rfl
theorem zcO {ops : Array Oper} {Q : Exit → Act → World → Prop} (hops : ∀ o ∈ ops.toList, zba E.nt o = true) : ∀ (l : List Oper) (c : Cx) (a : Act) (s' : St), (∀ o ∈ l, zba E.nt o = true) → EnvOK P B E c a → Fr X c a → zdZ E ops l c.s = some s' → EndsIn P X c a s' (Q .normal) → wpList P ops Q l a c.W
 | [], c, a, s', hl, hE, hf, h, hQ => by
   cases h
   exact hQ a c rfl hf (Ext.refl c) rfl rfl
 | o :: l, c, a, s', hl, hE, hf, h, hQ => by
   have hk := hl o (by simp)
   have hd : ∀ n : Nat, o.dst = some n → n < a.tmps.size := by rw [hE.nt]; exact zaX hk
   have go : (step E c.s o).bind (zdZ E ops l) = some s' → o.wp P a c.W (wpList P ops Q l) Q := by
    intro h
    simp only [Option.bind_eq_some_iff] at h
    obtain ⟨s1, h1, h2⟩ := h
    refine zch hE hf hk h1 _ _ fun a' c' hs' hf' he' hsz hdf => ?_
    exact zcO hops l c' a' s' (fun o ho => hl o (List.mem_cons_of_mem _ ho)) (hE.next he' hsz) hf' (by rw [hs']; exact h2) fun a'' c'' h3 h4 h5 h6 h7 => hQ a'' c'' h3 h4 (he'.trans h5) (h6.trans hsz) (h7.trans hdf)
   have skip : zdZ E ops l (c.s.putO o.dst .undef) = some s' → wpList P ops Q l (a.put o.dst undef) c.W := by
    intro h
    obtain ⟨c', h1, h2, h3, h4, h5, h6⟩ := zi2 (x := o.dst) hf hd
    rw [← h2]
    exact zcO hops l c' _ s' (fun o ho => hl o (List.mem_cons_of_mem _ ho)) (hE.next h4 h5) h3 (by rw [h1]; exact h) fun a'' c'' h7 h8 h9 h10 h11 => hQ a'' c'' h7 h8 (h4.trans h9) (h10.trans h5) (h11.trans h6)
   simp only [wpList]
   unfold zdZ zb7 at h
   split at h
   · rename_i hg
     have hw : Region.wanted o (yielded ops a.tmps) = true := by simp [Region.wanted, hg]
     rw [if_pos hw]
     exact .inl (go h)
   · rename_i j want hg
     split at h
     · cases h
     · rename_i n hn
       have hnlt : n < a.tmps.size := by
        cases hj : ops[j]? with
        | none => rw [hj] at hn; cases hn
        | some oj =>
          rw [hj] at hn
          rw [hE.nt]
          exact zaX (hops oj (by have := Array.mem_of_getElem? hj; exact Array.mem_toList_iff.2 this)) n hn
       obtain ⟨h1, h2⟩ := zhV (ops := ops) (j := j) hf.sim hnlt hn
       split at h
       · rename_i b hb
         have hy := h1 _ hb
         cases b with
         | true =>
           simp only at h
           rw [zdg hb] at h
           cases want with
           | true =>
             have hw : Region.wanted o (yielded ops a.tmps) = true := by simp [Region.wanted, hg, hy]
             rw [if_pos hw]
             exact .inl (go h)
           | false =>
             have hw : Region.wanted o (yielded ops a.tmps) = false := by simp [Region.wanted, hg, hy]
             rw [if_neg (by rw [hw]; exact fun e => by cases e)]
             exact skip h
         | false =>
           simp only at h
           rw [zdg hb] at h
           cases want with
           | true =>
             have hw : Region.wanted o (yielded ops a.tmps) = false := by simp [Region.wanted, hg, hy]
             rw [if_neg (by rw [hw]; exact fun e => by cases e)]
             exact skip h
           | false =>
             have hw : Region.wanted o (yielded ops a.tmps) = true := by simp [Region.wanted, hg, hy]
             rw [if_pos hw]
             exact .inl (go h)
       · rename_i hb
         have hy := h2 hb
         have hw : Region.wanted o (yielded ops a.tmps) = false := by simp [Region.wanted, hg, hy]
         rw [if_neg (by rw [hw]; exact fun e => by cases e)]
         exact skip h
       · cases h
end
end Go.Den
namespace Go.Den
open Go Go.RowKit
set_option linter.unusedVariables false
variable {B : Nat → Option Obj}
theorem zfT {k : Kill} {d : D} (h : zau d = true) : zau (d.kill k) = true := by
 cases d with
 | ptr r o => simp only [D.kill]; split <;> rfl
 | fn f cap => simp only [D.kill]; split <;> rfl
 | dat d => rfl
 | own e es => rfl
 | junk => rfl
 | etc e => cases e with
   | map r => simp only [D.kill]; split <;> rfl
   | mark => rfl
   | err => rfl
 | _ => cases h
theorem zcL {c : Cx} {tm tm' : Array Value} {s' : St} {K : Kill} (hs : Sim c tm) (ht : ∀ y, s'.t y = .junk ∨ (s'.t y = (c.s.t y).kill K ∧ tm'.getD y undef = tm.getD y undef)) (hb : ∀ r cs', s'.box r = some cs' → ∃ cs, c.s.box r = some cs ∧ cs' = D.kills K cs) (hl : s'.l = c.s.l)
 (hpl : ∀ q r, c.s.get q = some r → K.pl q = false → s'.get q = some r) (href : ∀ r, (c.s.box r).isSome = true → K.ref r = false → (s'.box r).isSome = true) : Sim { c with s := s' } tm' := by
 have m : Mono c { c with s := s' } K (fun _ => False) := ⟨rfl, fun b g h _ => ⟨h, rfl⟩, fun q r h hk => ⟨hpl q r h hk, rfl⟩, fun r h hk => ⟨href r h hk, rfl⟩, fun q _ => ⟨rfl, fun g h _ => ⟨h, rfl⟩⟩⟩
 refine ⟨fun y => ?_, fun r cs' hb' => ?_, fun j r hg => ?_⟩
 · show VR _ _ (s'.t y) _
   rcases ht y with e | ⟨e, e2⟩
   · rw [e]; trivial
   · rw [e, e2]
     exact VR.mono m _ _ _ (fun _ _ _ h => h) (hs.slots y)
 · obtain ⟨cs, h1, rfl⟩ := hb r cs' hb'
   obtain ⟨vs, T, h2, h3, h4, h5⟩ := (hs.boxes r cs h1).out
   refine ⟨vs, T, by rw [zil]; exact h2, h3, by rw [zcW]; exact h4, fun i d v hd hv => ?_⟩
   rw [zcd] at hd
   simp only [Option.map_eq_some_iff] at hd
   obtain ⟨d0, hd0, rfl⟩ := hd
   obtain ⟨h6, h7, h8⟩ := h5 i d0 v hd0 hv
   exact ⟨VR.mono m _ _ _ (fun _ _ _ h => h) h6, h7, zfT h8⟩
 · have hg' : c.s.get (.lent j) = some r := by
    have : s'.get (.lent j) = some r := hg
    simp only [St.get, hl] at this
    exact this
   exact (hs.lent j r hg').mono m (fun h => h)
theorem zkz {L : List Nat} {s : St} {q : Pl} {r : Row} (h : s.get q = some r) (hk : (Kill.but L).pl q = false) : (s.norm L).get q = some r := by
 cases q with
 | slot y l =>
   have hm : memN y L = true := by simpa [Kill.but] using hk
   show (D.at_ l ((s.norm L).t y)).row? = _
   simp only [St.norm, hm]
   rw [za3]
   exact h
 | cell r0 o =>
   simp only [St.get, Option.bind_eq_some_iff] at h ⊢
   obtain ⟨cs, h1, d, h2, h3⟩ := h
   refine ⟨D.kills (Kill.but L) cs, ?_, d.kill (Kill.but L), by rw [zcd, h2]; rfl, ?_⟩
   · cases r0 with
     | loc n =>
       have hm : memN n L = true := by simpa [Kill.but] using hk
       have h1 : s.b n = some cs := h1
       simp only [St.norm, St.box, hm, h1, Option.map_some]
     | up n =>
       have h1 : s.u[n]? = some cs := h1
       simp only [St.norm, St.box, List.getElem?_map, h1, Option.map_some]
   · have := za3 (k := Kill.but L) [] d
     simp only [D.at_] at this
     rw [this]; exact h3
 | lent j => exact h
theorem zjY {L : List Nat} {s : St} {r : Ref} {cs' : List D} (h : (s.norm L).box r = some cs') : ∃ cs, s.box r = some cs ∧ cs' = D.kills (Kill.but L) cs := by
 cases r with
 | loc n =>
   simp only [St.norm, St.box] at h
   split at h
   · simp only [Option.map_eq_some_iff] at h
     obtain ⟨cs, h1, h2⟩ := h
     exact ⟨cs, h1, h2.symm⟩
   · cases h
 | up n =>
   simp only [St.norm, St.box, List.getElem?_map, Option.map_eq_some_iff] at h
   obtain ⟨cs, h1, h2⟩ := h
   exact ⟨cs, h1, h2.symm⟩
theorem zd8 {L : List Nat} {s : St} {r : Ref} (h : (s.box r).isSome = true) (hk : (Kill.but L).ref r = false) : ((s.norm L).box r).isSome = true := by
 obtain ⟨cs, hcs⟩ := Option.isSome_iff_exists.1 h
 cases r with
 | loc n =>
   have hm : memN n L = true := by simpa [Kill.but] using hk
   have hcs : s.b n = some cs := hcs
   simp only [St.norm, St.box, hm, hcs, Option.map_some, Option.isSome_some]
 | up n =>
   have hcs : s.u[n]? = some cs := hcs
   simp only [St.norm, St.box, List.getElem?_map, hcs, Option.map_some, Option.isSome_some]
theorem zgE {c : Cx} {a : Act} {X : Nat} (L : List Nat) (hf : Fr X c a) : Fr X { c with s := c.s.norm L } a := by
 refine ⟨zcL (K := Kill.but L) hf.sim (fun y => ?_) (fun r cs' h => zjY h) rfl (fun q r h hk => zkz h hk) (fun r h hk => zd8 h hk), hf.ghost.out, ?_⟩
 · cases hm : memN y L with
   | true => right; simp only [St.norm, hm]; exact ⟨trivial, trivial⟩
   | false => left; simp only [St.norm, hm]
 · show ((c.s.norm L).t X).hasOwn = false
   cases hm : memN X L with
   | true => simp only [St.norm, hm]; rw [zaA]; exact hf.ghost.own
   | false => simp only [St.norm, hm]; rfl
def X.exit' : X → Exit
 | .normal => .normal
 | .exit id => .exit id
 | .ret => .ret
def zbq (nt : Nat) : Code → Bool
 | .region _ ops _ => ops.toList.all (zba nt)
 | .seq a b => zbq nt a && zbq nt b
 | .cond _ a b => zbq nt a && zbq nt b
 | .block _ a => zbq nt a
 | .loop a => zbq nt a
 | _ => true
def zou (P : Program) (B : Nat → Option Obj) (E : Env) (X : Nat) (id : Nat) (ops : Array Oper) : Prop :=
 ∀ (c : Cx) (a : Act) (s' : St) (Q : Exit → Act → World → Prop), EnvOK P B E c a → Fr X c a → zck E id ops true c.s = some s' → EndsIn P X c a s' (Q .normal) → (Code.region id ops true).wp P Q a c.W
def zcm (P : Program) (B : Nat → Option Obj) (E : Env) (X : Nat) : Code → Prop
 | .region id ops draw => draw = true → zou P B E X id ops
 | .seq a b => zcm P B E X a ∧ zcm P B E X b
 | .cond _ a b => zcm P B E X a ∧ zcm P B E X b
 | .block _ a => zcm P B E X a
 | .loop a => zcm P B E X a
 | _ => True
section
variable {P : Program} {E : Env} {X : Nat}
theorem EndsIn.from {c c1 : Cx} {a a1 : Act} {s' : St} {Q : Act → World → Prop} (h : EndsIn P X c a s' Q) (he : Ext c c1) (h1 : a1.tmps.size = a.tmps.size) (h2 : a1.defers = a.defers) : EndsIn P X c1 a1 s' Q :=
 fun a' c' hs hf he' hsz hdf => h a' c' hs hf (he.trans he') (hsz.trans h1) (hdf.trans h2)
theorem zas (k : Nat) : ∀ (code : Code) (c : Cx) (a : Act) (x : Go.Den.X) (s' : St) (Q : Exit → Act → World → Prop), zbq E.nt code = true → zcm P B E X code → EnvOK P B E c a → Fr X c a → exec E k code c.s = some (x, s') → EndsIn P X c a s' (Q x.exit') → code.wp P Q a c.W
 | .skip, c, a, x, s', Q, hk, hd, hE, hf, h, hQ => by
   simp only [exec, Option.some.injEq, Prod.mk.injEq] at h
   obtain ⟨rfl, rfl⟩ := h
   exact wp_skip (hQ a c rfl hf (Ext.refl c) rfl rfl)
 | .region id ops draw, c, a, x, s', Q, hk, hd, hE, hf, h, hQ => by
   simp only [exec, Option.map_eq_some_iff, Prod.mk.injEq] at h
   obtain ⟨s1, h1, rfl, rfl⟩ := h
   cases draw with
   | false =>
     have hops : ∀ o ∈ ops.toList, zba E.nt o = true := List.all_eq_true.1 hk
     exact wp_region_list (zcO hops ops.toList c a s1 hops hE hf h1 hQ)
   | true => exact hd rfl c a s1 Q hE hf h1 hQ
 | .seq p q, c, a, x, s', Q, hk, hd, hE, hf, h, hQ => by
   have hk' : (zbq E.nt p && zbq E.nt q) = true := hk
   simp only [Bool.and_eq_true] at hk'
   simp only [exec] at h
   cases h1 : exec E k p c.s with
   | none => rw [h1] at h; cases h
   | some r =>
     obtain ⟨x1, s1⟩ := r
     rw [h1] at h
     refine wp_seq ?_
     cases x1 with
     | normal =>
       simp only at h
       refine zas k p c a .normal s1 _ hk'.1 hd.1 hE hf h1 fun a' c' hs hf' he hsz hdf => ?_
       exact zas k q c' a' x s' Q hk'.2 hd.2 (hE.next he hsz) hf' (by rw [hs]; exact h) (hQ.from he hsz hdf)
     | exit id =>
       simp only [Option.some.injEq, Prod.mk.injEq] at h
       obtain ⟨rfl, rfl⟩ := h
       exact zas k p c a (.exit id) s1 _ hk'.1 hd.1 hE hf h1 hQ
     | ret =>
       simp only [Option.some.injEq, Prod.mk.injEq] at h
       obtain ⟨rfl, rfl⟩ := h
       exact zas k p c a .ret s1 _ hk'.1 hd.1 hE hf h1 hQ
 | .cond z p q, c, a, x, s', Q, hk, hd, hE, hf, h, hQ => by
   have hk' : (zbq E.nt p && zbq E.nt q) = true := hk
   simp only [Bool.and_eq_true] at hk'
   simp only [exec] at h
   unfold znV at h
   split at h
   · rename_i n
     split at h
     · rename_i b hb
       have hv := hf.sim.slots n
       rw [hb] at hv
       have hz : a.eval (.tmp n) = .bool b := (zaq hv).1
       cases b with
       | true =>
         simp only [zdg hb] at h
         exact wp_cond_true hz (zas k p c a x s' Q hk'.1 hd.1 hE hf h hQ)
       | false =>
         simp only [zdg hb] at h
         exact wp_cond_false hz (zas k q c a x s' Q hk'.2 hd.2 hE hf h hQ)
     · cases h
   · rename_i b
     cases b with
     | true => exact wp_cond_true rfl (zas k p c a x s' Q hk'.1 hd.1 hE hf h hQ)
     | false => exact wp_cond_false rfl (zas k q c a x s' Q hk'.2 hd.2 hE hf h hQ)
   · cases h
 | .block id p, c, a, x, s', Q, hk, hd, hE, hf, h, hQ => by
   simp only [exec] at h
   refine wp_block ?_
   cases h1 : exec E k p c.s with
   | none => rw [h1] at h; cases h
   | some r =>
     obtain ⟨x1, s1⟩ := r
     rw [h1] at h
     cases x1 with
     | exit i =>
       simp only at h
       split at h
       · rename_i hb
         simp only [Option.some.injEq, Prod.mk.injEq] at h
         obtain ⟨rfl, rfl⟩ := h
         have hi := beq_eq.1 hb
         subst hi
         refine zas k p c a (.exit i) s1 _ hk hd hE hf h1 fun a' c' hs hf' he hsz hdf => ?_
         have := hQ a' c' hs hf' he hsz hdf
         simpa [Den.X.exit', Exit.inBlock] using this
       · rename_i hb
         simp only [Option.some.injEq, Prod.mk.injEq] at h
         obtain ⟨rfl, rfl⟩ := h
         have hi := beq_ne.1 hb
         refine zas k p c a (.exit i) s1 _ hk hd hE hf h1 fun a' c' hs hf' he hsz hdf => ?_
         have := hQ a' c' hs hf' he hsz hdf
         simpa [Den.X.exit', Exit.inBlock, hi] using this
     | normal =>
       simp only [Option.some.injEq, Prod.mk.injEq] at h
       obtain ⟨rfl, rfl⟩ := h
       exact zas k p c a .normal s1 _ hk hd hE hf h1 hQ
     | ret =>
       simp only [Option.some.injEq, Prod.mk.injEq] at h
       obtain ⟨rfl, rfl⟩ := h
       exact zas k p c a .ret s1 _ hk hd hE hf h1 hQ
 | .loop p, c, a, x, s', Q, hk, hd, hE, hf, h0, hQ0 => by
   simp only [exec, Option.map_eq_some_iff, Prod.mk.injEq] at h0
   obtain ⟨⟨x0, s''⟩, h, rfl, rfl⟩ := h0
   have hQ : EndsIn P X c a s'' (Q x0.exit') := fun a' c' hs hf' he hsz hdf => by
    have hf1 := zgE (E.out (zaa p)) hf'
    rw [show c'.s = s'' from hs] at hf1
    exact hQ0 a' { c' with s := s''.norm (E.out (zaa p)) } rfl hf1 (he.trans ((Ext.refl c').setS _)) hsz hdf
   clear hQ0
   generalize x0 = x at *
   generalize s'' = s' at *
   have key : ∀ (n : Nat) (c : Cx) (a : Act), EnvOK P B E c a → Fr X c a → iter (exec E k p) (St.norm (E.live (zaa p))) n c.s = some (x, s') → EndsIn P X c a s' (Q x.exit') → Code.rounds P p Q n a c.W := by
    intro n
    induction n with
    | zero => intro c a _ _ h _; cases h
    | succ n ih =>
      intro c a hE hf h hQ
      have hf1 := zgE (E.live (zaa p)) hf
      have he1 : Ext c { c with s := c.s.norm (E.live (zaa p)) } := (Ext.refl c).setS _
      have hE1 : EnvOK P B E { c with s := c.s.norm (E.live (zaa p)) } a := hE.next he1 rfl
      simp only [iter] at h
      show p.wp P (Exit.then (Code.rounds P p Q n) Q) a c.W
      cases h1 : exec E k p (c.s.norm (E.live (zaa p))) with
      | none => rw [h1] at h; cases h
      | some r =>
        obtain ⟨x1, s1⟩ := r
        rw [h1] at h
        cases x1 with
        | normal =>
          simp only at h
          refine zas k p { c with s := c.s.norm (E.live (zaa p)) } a .normal s1 _ hk hd hE1 hf1 h1 fun a' c' hs hf' he hsz hdf => ?_
          exact ih c' a' (hE1.next he hsz) hf' (by rw [hs]; exact h) (hQ.from (he1.trans he) hsz hdf)
        | exit id =>
          simp only [Option.some.injEq, Prod.mk.injEq] at h
          obtain ⟨rfl, rfl⟩ := h
          exact zas k p { c with s := c.s.norm (E.live (zaa p)) } a (.exit id) s1 _ hk hd hE1 hf1 h1 (hQ.from he1 rfl rfl)
        | ret =>
          simp only [Option.some.injEq, Prod.mk.injEq] at h
          obtain ⟨rfl, rfl⟩ := h
          exact zas k p { c with s := c.s.norm (E.live (zaa p)) } a .ret s1 _ hk hd hE1 hf1 h1 (hQ.from he1 rfl rfl)
   exact wp_loop_rounds k (key k c a hE hf h hQ)
 | .exit id, c, a, x, s', Q, hk, hd, hE, hf, h, hQ => by
   simp only [exec, Option.some.injEq, Prod.mk.injEq] at h
   obtain ⟨rfl, rfl⟩ := h
   exact wp_exit (hQ a c rfl hf (Ext.refl c) rfl rfl)
 | .ret, c, a, x, s', Q, hk, hd, hE, hf, h, hQ => by
   simp only [exec, Option.some.injEq, Prod.mk.injEq] at h
   obtain ⟨rfl, rfl⟩ := h
   exact wp_ret (hQ a c rfl hf (Ext.refl c) rfl rfl)
 | .label l, c, a, x, s', Q, hk, hd, hE, hf, h, hQ => by cases h
 | .goto l, c, a, x, s', Q, hk, hd, hE, hf, h, hQ => by cases h
end
end Go.Den
namespace Go.Den
open Go Go.RowKit
set_option linter.unusedVariables false
variable {B : Nat → Option Obj}
section
variable {P : Program} {c : Cx} {tm : Array Value} {X : Nat}
theorem zlg {lv : Bool} {d d' : D} {s1 : St} {v : Value} {i : Nat} (hs : Sim c tm) (hX : Ghost c tm X) (h : expD lv d c.s = some (d', s1)) (hv : VW c d v) :
 ∃ c', c'.s = s1 ∧ Sim c' tm ∧ Ghost c' tm X ∧ VR c' (.slot X [i]) d' v ∧ d'.plain = true ∧ Took c c' false (fun q => ∃ l, q = .slot X (i :: l)) := by
 unfold expD at h
 split at h
 · cases h
   exact ⟨c, rfl, hs, hX, hv, rfl, Took.refl _ _ _⟩
 · rename_i p n
   have key : ∀ q, c.s.take p = some q → (D.own q.1.1 (zaK n q.1.2), q.2) = (d', s1) → ∃ c', c'.s = s1 ∧ Sim c' tm ∧ Ghost c' tm X ∧ VR c' (.slot X [i]) d' v ∧ d'.plain = true ∧ Took c c' false (fun q => ∃ l, q = .slot X (i :: l)) := by
    intro q hq he
    cases he
    obtain ⟨c1, h4, h5, h6, h7, h8⟩ := zcb (sl := false) (π := [i]) hs hX hq (by simp) hv
    exact ⟨c1, h4, h5, h6, h7, rfl, h8.weak fun q ⟨l, e⟩ => ⟨l, e⟩⟩
   split at h
   · simp only [Option.map_eq_some_iff] at h
     obtain ⟨q, hq, he⟩ := h
     exact key q hq he
   · simp only [Option.map_eq_some_iff] at h
     obtain ⟨q, hq, he⟩ := h
     exact key q hq he
   · cases h
 · split at h
   · simp only [Option.map_eq_some_iff] at h
     obtain ⟨q, hq, he⟩ := h
     cases he
     obtain ⟨c', h1, h2, h3, h4, h5⟩ := zce _ c v q.1 q.2 hs hq hv
     exact ⟨c', h1, h2, h5 X hX, h3, rfl, h4.weak fun _ h => h.elim⟩
   · simp only [Option.bind_eq_some_iff] at h
     obtain ⟨q, hq, h⟩ := h
     split at h
     · rename_i hb
       cases h
       simp only [Bool.and_eq_true] at hb
       obtain ⟨c', h1, h2, h3, h4, h5⟩ := zbS _ [i] c v d' s1 hs hX hq hv hb.2
       exact ⟨c', h1, h2, h3, h4, hb.1, h5.weak fun q ⟨l, e⟩ => ⟨l, e⟩⟩
     · cases h
 · cases h
   exact ⟨c, rfl, hs, hX, hv, rfl, Took.refl _ _ _⟩
 · cases h
theorem zjE {ds : List D} (h : ∀ (i : Nat) (d : D), ds[i]? = some d → d.hasOwn = false) : D.hasOwns ds = false := by
 induction ds with
 | nil => rfl
 | cons e ds ih =>
   show (D.hasOwn e || D.hasOwns ds) = false
   rw [h 0 e rfl, ih fun i d hd => h (i + 1) d (by simpa using hd)]
   rfl
theorem zol {t : TypeId} {i : TI} {r : Ref} {n : Nat} {cs : List D} {d : D} (hty : TyOk P c.ty) (hs : Sim c tm) (hb : c.s.box r = some cs) (hm : isM cs = false) (ht : c.ty t = some i) (h : Den.loadCells i (Pl.cell r) cs n = some d) :
 ∃ v, (Instr.loadAt t (.pointer (some ⟨c.β r, n, none⟩))).run P c.W = .ok v c.W ∧ VR c (.lent 0) d v ∧ d.hasOwn = false := by
 obtain ⟨_, de, _, hf⟩ := hty.facts ht
 obtain ⟨vs, hl, hc, hcell⟩ := zir hs hb hm
 unfold Den.loadCells at h
 split at h
 · rename_i ha
   split at h
   · rename_i hsz
     cases h
     have h3 : ∀ (j : Nat) (v : Value), ((vs.drop n).take i.sz)[j]? = some v → c.W.cell? ⟨c.β r, n + j, none⟩ = some v := by
      intro j v hj
      rw [List.getElem?_take] at hj
      split at hj
      · rw [List.getElem?_drop] at hj
        exact hc _ v hj
      · cases hj
     refine ⟨.agg ((vs.drop n).take i.sz).toArray, zdt hf c.W h3 ha (by simp; omega), zfZ (by simp [hl]) fun j d v hd hu => ?_, ?_⟩
     · rw [List.getElem?_mapIdx] at hd
       simp only [Option.map_eq_some_iff] at hd
       obtain ⟨d0, hd0, rfl⟩ := hd
       have hlt : j < i.sz := by
        have := (List.getElem?_eq_some_iff.1 hd0).1
        simp at this; omega
       rw [List.getElem?_take_of_lt hlt, List.getElem?_drop] at hd0 hu
       obtain ⟨h4, h5, h6⟩ := hcell _ d0 v hd0 hu
       exact ⟨zdf hb hd0 h6 h4 _, h5⟩
     · unfold aggD
       split
       · rfl
       · refine zjE fun j d hd => ?_
         rw [List.getElem?_mapIdx] at hd
         simp only [Option.map_eq_some_iff] at hd
         obtain ⟨d0, hd0, rfl⟩ := hd
         exact zcp _
   · cases h
 · rename_i ha
   simp only [Option.map_eq_some_iff] at h
   obtain ⟨d0, hd0, rfl⟩ := h
   have hlt := (List.getElem?_eq_some_iff.1 hd0).1
   have hu := List.getElem?_eq_getElem (show n < vs.length by omega)
   obtain ⟨h4, h5, h6⟩ := hcell n d0 _ hd0 hu
   exact ⟨vs[n], zdD hf c.W (hc _ _ hu) ha, zdf hb hd0 h6 h4 _, zcp _⟩
def resM (tm : Array Value) : ResultVar → Sem Value
 | .tmp t => pure (tm.getD t undef)
 | .cell a t => do loadVar t (← asAddr (tm.getD a undef))
theorem zli {rv : ResultVar} {d : D} (hty : TyOk P c.ty) (hs : Sim c tm) (h : resD c.ty c.s rv = some d) : ∃ v, (resM tm rv).run P c.W = .ok v c.W ∧ VW c d v := by
 cases rv with
 | tmp t =>
   simp only [resD, Option.some.injEq] at h
   subst h
   have hl := zaj (a := ⟨tm, []⟩) hs (.tmp t) (.lent 0)
   exact ⟨tm.getD t undef, rfl, VW.of (.lent 0) _ _ hl.2 hl.1⟩
 | cell y t =>
   simp only [resD, Option.bind_eq_some_iff] at h
   obtain ⟨i, hi, h⟩ := h
   split at h
   · rename_i r n hy
     simp only [Option.bind_eq_some_iff] at h
     obtain ⟨cs, hb, h⟩ := h
     split at h
     · cases h
     rename_i hm
     have hv := hs.slots y
     rw [hy] at hv
     obtain ⟨v, h1, h2, h3⟩ := zol hty hs hb hm hi h
     refine ⟨v, ?_, VW.of _ _ _ h3 h2⟩
     simpa [resM, hv.2, asAddr, Instr.loadAt, Instr.sureAddr] using h1
   · cases h
theorem zdX {lv : Bool} : ∀ (rvs : List ResultVar) (i : Nat) (c : Cx) (rs : List D) (s' : St), TyOk P c.ty → Sim c tm → Ghost c tm X → Den.results c.ty lv rvs c.s = some (rs, s') →
 ∃ c' us, c'.s = s' ∧ c'.W = c.W ∧ Sim c' tm ∧ Ghost c' tm X ∧ Took c c' false (ownZ X i) ∧ us.length = rs.length ∧ (rvs.mapM (resM tm)).run P c.W = .ok us c.W ∧ ∀ (j : Nat) (d : D) (u : Value), rs[j]? = some d → us[j]? = some u → VR c' (.slot X [i + j]) d u ∧ d.plain = true
 | [], i, c, rs, s', hty, hs, hX, h => by
   cases h
   exact ⟨c, [], rfl, rfl, hs, hX, Took.refl _ _ _, rfl, rfl, fun j d u hd => by simp at hd⟩
 | rv :: rvs, i, c, rs, s', hty, hs, hX, h => by
   simp only [Den.results, Option.bind_eq_some_iff, Option.map_eq_some_iff] at h
   obtain ⟨d, hd, ⟨d1, s1⟩, he, ⟨rs2, s2⟩, hr, h⟩ := h
   cases h
   obtain ⟨v, h1, h2⟩ := zli hty hs hd
   obtain ⟨c1, h3, h4, h5, h6, h7, h8⟩ := zlg (i := i) hs hX he h2
   have hty1 : c1.ty = c.ty := h8.ext.ty
   obtain ⟨c2, us, h9, h10, h11, h12, h13, h14, h15, h16⟩ := zdX rvs (i + 1) c1 rs2 s2 (by rw [hty1]; exact hty) h4 h5 (by rw [hty1, h3]; exact hr)
   refine ⟨c2, v :: us, h9, h10.trans h8.W, h11, h12, (h8.weak fun q ⟨l, e⟩ => ⟨i, l, Nat.le_refl _, e⟩).trans (h13.weak fun q ⟨j, l, hj, e⟩ => ⟨j, l, by omega, e⟩), by simp [h14], ?_, fun j d' u hd' hu => ?_⟩
   · rw [h8.W] at h15
     simp only [List.mapM_cons, Sem.run_bind, h1, Result.andThen_ok, h15, Sem.run_pure]
   · cases j with
     | zero =>
       simp at hd' hu
       subst hd' hu
       refine ⟨?_, h7⟩
       refine h13.vr _ _ _ h6 (zbM _ h7) fun l r hr => ⟨?_, ?_⟩
       · rintro ⟨j, l', hj, e'⟩
         have e'' : Pl.slot X ([i] ++ l) = Pl.slot X (j :: l') := e'
         injection e'' with _ e''
         simp at e''
         omega
       · cases hg : c1.s.get ((Pl.slot X [i]).subs l) with
         | none => rfl
         | some r' => exact (h5.get hg ⟨[i] ++ l, rfl⟩).elim
     | succ j =>
       have := h16 j d' u (by simpa using hd') (by simpa using hu)
       rwa [show i + 1 + j = i + (j + 1) by omega] at this
def zh6 : List Value → Value
 | [v] => v
 | vs => .tuple vs.toArray
theorem zfo {fn : Func} {W : World} {us : List Value} (h : (fn.results.toList.mapM (resM tm)).run P W = .ok us W) : (Go.results fn tm).run P W = .ok (zh6 us) W := by
 have h2 : (fn.results.mapM (resM tm)).run P W = .ok us.toArray W := by
  rw [Array.mapM_eq_mapM_toList]
  show Sem.run P ((List.mapM (resM tm) fn.results.toList) >>= fun l => pure l.toArray) W = _
  rw [Sem.run_bind, h]
  rfl
 have h3 : Go.results fn tm = (do
  let vs ← fn.results.mapM (resM tm)
  pure (if h : vs.size = 1 then vs[0] else .tuple vs)) := by
  unfold Go.results
  congr 1
 rw [h3]
 simp only [Sem.run_bind, h2, Result.andThen_ok, Sem.run_pure]
 congr 1
 cases us with
 | nil => rfl
 | cons u us =>
   cases us with
   | nil => rfl
   | cons u2 us => simp [zh6]
def outSt (rs : List D) (u : List (List D)) (l : List (Option Row)) : St := ⟨fun x => match Nat.beq x 0 with | true => retD rs | false => .junk, fun _ => none, u, l⟩
theorem zdH {s : St} {q : Pl} {r : Row} (h : (s.norm []).get q = some r) : ¬ ∃ y l, q = .slot y l := by
 rintro ⟨y, l, rfl⟩
 have : (D.at_ l D.junk).row? = some r := h
 rw [zfp] at this
 cases this
theorem zen {c' : Cx} {fwd : List Nat → Option Pl} {bwd : Pl → Option (List Nat)} {d : D} {v : Value} {tm' : Array Value} (hs : Sim c' tm) (hfb : ∀ l q, fwd l = some q → bwd q = some l) (hbw : ∀ q l, bwd q = some l → zaL 0 q)
 (hv : ∀ c1, HomeTo { c' with s := ⟨fun _ => .undef, fun _ => none, [], []⟩ } c1 false X fwd → VR c1 (.slot 0 []) d v) (hd : ∀ c1 s, VR c1 (.slot 0 []) d v → VR { c1 with s := s } (.slot 0 []) d v) :
 ∃ c'', c''.W = c'.W ∧ c''.s = ⟨fun x => match Nat.beq x 0 with | true => d | false => .junk, fun _ => none, c'.s.u.map (D.kills (Kill.but [])), c'.s.l⟩ ∧ Sim c'' #[v] ∧ Ext c' c'' := by
 -- all is forgotten
 have h1 : Sim { c' with s := c'.s.norm [] } #[v] := zcL (K := Kill.but []) hs (fun y => .inl rfl) (fun r cs' h => zjY h) rfl (fun q r h hk => zkz h hk) (fun r h hk => zd8 h hk)
 -- what is returned is laid at its place
 let c1 : Cx := Cx.home { c' with s := c'.s.norm [] } X fwd bwd
 have hns : ∀ q r, (c'.s.norm []).get q = some r → ¬ (zaL X q ∨ zaL 0 q) := fun q r h => by
  rintro (⟨l, e⟩ | ⟨l, e⟩) <;> exact zdH h ⟨_, _, e⟩
 have hH : ∀ q, ¬ zaL 0 q → c1.H q = c'.H q := fun q hq => by
  have : bwd q = none := by
   cases hb : bwd q with
   | none => rfl
   | some l => exact absurd (hbw q l hb) hq
  simp only [c1, Cx.home, this]
 have hρ : ∀ g, (∀ q, c'.ρ g = .row q → ¬ zaL X q) → c1.ρ g = c'.ρ g := fun g hq => Cx.home_ρ (c := { c' with s := c'.s.norm [] }) (X := X) (fwd := fwd) (bwd := bwd) g (fun l e => hq _ e ⟨l, rfl⟩)
 have m : Mono { c' with s := c'.s.norm [] } c1 Kill.none (fun q => zaL X q ∨ zaL 0 q) := ⟨rfl, fun b g h _ => ⟨Cx.home_rd (c := { c' with s := c'.s.norm [] }) (X := X) (fwd := fwd) (bwd := bwd) b g h, rfl⟩, fun q r h _ => ⟨h, hH q fun e => hns q r h (.inr e)⟩, fun r h _ => ⟨h, rfl⟩, fun q hq => ⟨hH q fun e => hq (.inr e), fun g h _ => ⟨by rw [hρ g fun q' e => by have e2 : c'.ρ g = .row q := h; rw [e2] at e; injection e with e; rw [← e]; exact fun h => hq (.inl h)]; exact h, rfl⟩⟩⟩
 have h2 : Sim c1 #[v] := Sim.same (Z := fun q => zaL X q ∨ zaL 0 q) h1 rfl hns m fun r hr => by
  obtain ⟨cs, hb⟩ := Option.isSome_iff_exists.1 hr
  obtain ⟨vs, T, h3, h4, _⟩ := (h1.boxes r cs hb).out
  refine ⟨?_, rfl⟩
  rw [show c1.ρ _ = _ from hρ _ fun q e => by have h4' : c'.ρ (c'.β r) = .box r := h4; rw [h4'] at e; cases e]
  exact h4
 have hval : VR c1 (.slot 0 []) d v := by
  refine hv c1 ⟨rfl, fun b g h _ => ⟨Cx.home_rd (c := { c' with s := c'.s.norm [] }) (X := X) (fwd := fwd) (bwd := bwd) b g h, rfl⟩, fun l q hl => ⟨?_, fun g hg _ => ⟨?_, rfl⟩⟩, fun r hr => ?_, fun q r hf => by cases hf⟩
  · have := hfb l q hl
    simp only [c1, Cx.home, this]
  · exact Cx.home_row (c := { c' with s := c'.s.norm [] }) (bwd := bwd) hg hl
  · cases r <;> simp [St.box] at hr
 let sF : St := ⟨fun x => match Nat.beq x 0 with | true => d | false => .junk, fun _ => none, c'.s.u.map (D.kills (Kill.but [])), c'.s.l⟩
 have hbx : ∀ r, sF.box r = (c'.s.norm []).box r := fun r => by cases r <;> rfl
 have mF : Mono c1 { c1 with s := sF } Kill.none (fun _ => False) := by
  refine ⟨rfl, fun b g h _ => ⟨h, rfl⟩, fun q r h _ => ⟨?_, rfl⟩, fun r h _ => ⟨by show (sF.box r).isSome = true; rw [hbx]; exact h, rfl⟩, fun q _ => ⟨rfl, fun g h _ => ⟨h, rfl⟩⟩⟩
  have h' : (c'.s.norm []).get q = some r := h
  cases q with
  | slot y l => exact absurd ⟨y, l, rfl⟩ (zdH h')
  | cell r0 o =>
    show (sF.get (.cell r0 o)) = _
    simp only [St.get, hbx]
    exact h'
  | lent j => exact h'
 refine ⟨{ c1 with s := sF }, rfl, rfl, ⟨fun y => ?_, fun r cs hb => ?_, fun j r hg => ?_⟩, ⟨rfl, rfl, rfl, Nat.le_refl _, fun g _ hst => ⟨hρ g fun q e => by rw [e] at hst; exact hst.elim, rfl⟩, rfl, fun _ => rfl, fun j => hH _ fun ⟨l, e⟩ => by cases e⟩⟩
 · show VR _ _ (match Nat.beq y 0 with | true => d | false => .junk) _
   cases hb : Nat.beq y 0 with
   | true =>
     have hy := beq_eq.1 hb
     subst hy
     exact hd c1 sF hval
   | false => trivial
 · have hb' : (c'.s.norm []).box r = some cs := by rw [← hbx]; exact hb
   obtain ⟨vs, T, h3, h4, h5, h6⟩ := (h2.boxes r cs hb').out
   exact ⟨vs, T, h3, h4, h5, fun i d v hd hv => by
    obtain ⟨h7, h8, h9⟩ := h6 i d v hd hv
    exact ⟨VR.same mF (fun _ _ _ h => h) h7, h8, h9⟩⟩
 · exact (h2.lent j r hg).mono mF (fun h => h)
theorem zi5 {c' : Cx} {rs : List D} {us : List Value} (hs : Sim c' tm) (hl : us.length = rs.length) (hv : ∀ (j : Nat) (d : D) (u : Value), rs[j]? = some d → us[j]? = some u → VR c' (.slot X [0 + j]) d u ∧ d.plain = true) :
 ∃ c'', c''.W = c'.W ∧ c''.s = outSt rs (c'.s.u.map (D.kills (Kill.but []))) c'.s.l ∧ Sim c'' #[zh6 us] ∧ Ext c' c'' ∧ (retD rs).plain = true ∧ D.plains rs = true := by
 have hplain : D.plains rs = true := by
  have : ∀ (rs : List D), (∀ (j : Nat) (d : D), rs[j]? = some d → d.plain = true) → D.plains rs = true := by
   intro rs
   induction rs with
   | nil => intro _; rfl
   | cons r rs ih =>
     intro h
     show (r.plain && D.plains rs) = true
     rw [h 0 r rfl, ih fun j d hd => h (j + 1) d (by simpa using hd)]
     rfl
  refine this rs fun j d hd => ?_
  have hlt := (List.getElem?_eq_some_iff.1 hd).1
  exact (hv j d _ hd (List.getElem?_eq_getElem (by omega))).2
 have hp := zeh hplain
 have hd : ∀ (v : Value) (c1 : Cx) (s : St), VR c1 (.slot 0 []) (retD rs) v → VR { c1 with s := s } (.slot 0 []) (retD rs) v := fun v c1 s h => zd7 s _ _ _ hp h
 cases rs with
 | nil =>
   have hu : us = [] := List.eq_nil_of_length_eq_zero hl
   subst hu
   obtain ⟨c'', h1, h2, h3, h4⟩ := zen (X := X) (fwd := zbE 0) (bwd := ofSlot 0) (d := .undef) (v := zh6 []) (tm' := tm) hs (fun l q h => by cases h; exact zbt) (fun q l h => by
    cases q with
    | slot y l' =>
      simp only [ofSlot] at h
      split at h
      · rename_i hb; exact ⟨l', by rw [beq_eq.1 hb]⟩
      · cases h
    | _ => cases h) (fun c1 _ => rfl) (fun _ _ h => h)
   exact ⟨c'', h1, h2, h3, h4, rfl, hplain⟩
 | cons r0 rs0 =>
   cases rs0 with
   | nil =>
     obtain ⟨u0, hu⟩ : ∃ u0, us = [u0] := by
      cases us with
      | nil => cases hl
      | cons u us => cases us with
        | nil => exact ⟨u, rfl⟩
        | cons _ _ => simp at hl
     subst hu
     obtain ⟨h5, h6⟩ := hv 0 r0 u0 rfl rfl
     let fwd : List Nat → Option Pl := fun l => match l with | 0 :: l' => some (.slot 0 l') | _ => none
     let bwd : Pl → Option (List Nat) := fun q => (ofSlot 0 q).map (0 :: ·)
     obtain ⟨c'', h1, h2, h3, h4⟩ := zen (X := X) (fwd := fwd) (bwd := bwd) (d := r0) (v := u0) (tm' := tm) hs (fun l q h => by
      simp only [fwd] at h
      split at h
      · cases h
        simp only [bwd, zbt, Option.map_some]
      · cases h) (fun q l h => by
      simp only [bwd, Option.map_eq_some_iff] at h
      obtain ⟨l0, h, _⟩ := h
      cases q with
      | slot y l' =>
        simp only [ofSlot] at h
        split at h
        · rename_i hb; exact ⟨l', by rw [beq_eq.1 hb]⟩
        · cases h
      | _ => cases h) (fun c1 hh => zbJ hh r0 [0] (.slot 0 []) u0 (zbM _ h6) (zd7 _ _ _ _ h6 h5) (fun l r hr => by rw [zan]; rfl)) (hd u0)
     exact ⟨c'', h1, h2, h3, h4, hp, hplain⟩
   | cons r1 rs1 =>
     obtain ⟨u0, u1, us1, hu⟩ : ∃ u0 u1 us1, us = u0 :: u1 :: us1 := by
      cases us with
      | nil => cases hl
      | cons u us => cases us with
        | nil => simp at hl
        | cons u2 us => exact ⟨u, u2, us, rfl⟩
     obtain ⟨c'', h1, h2, h3, h4⟩ := zen (X := X) (fwd := zbE 0) (bwd := ofSlot 0) (d := .seq true (r0 :: r1 :: rs1)) (v := .tuple us.toArray) (tm' := tm) hs (fun l q h => by cases h; exact zbt) (fun q l h => by
      cases q with
      | slot y l' =>
        simp only [ofSlot] at h
        split at h
        · rename_i hb; exact ⟨l', by rw [beq_eq.1 hb]⟩
        · cases h
      | _ => cases h) (fun c1 hh => ⟨us, rfl, (fun e => by cases e), VRs.mk hl fun i d v hdi hvi => by
        obtain ⟨h5, h6⟩ := hv i d v hdi hvi
        exact zbJ hh d [0 + i] (.slot 0 [0 + i]) v (zbM _ h6) (zd7 _ _ _ _ h6 h5) (fun l r hr => rfl)⟩) (hd _)
     refine ⟨c'', h1, h2, ?_, h4, hp, hplain⟩
     rw [hu] at h3 ⊢
     exact h3
end
structure FnOK (P : Program) (B : Nat → Option Obj) (C : Cfg) (f : Nat) (fn : Func) : Prop where
 there : P.funcs[f]? = some fn
 name : (fn.name == "runtime.NumGoroutine") = false
 code : ∀ c, fn.body = some c → zbq fn.ntmps c = true
 draws : ∀ c, fn.body = some c → ∀ call, zcE P C.ty B call → zcm P B ⟨C.ty, C.mode, fn.ntmps, C.live f, C.out f, C.plan f, call⟩ fn.ntmps c
structure CfgOK (P : Program) (B : Nat → Option Obj) (C : Cfg) : Prop where
 ty : TyOk P C.ty
 fn : ∀ f fn, C.fn f = some fn → FnOK P B C f fn
 ext : ∀ f g, C.ext f = some g → zcE P C.ty B fun f' args u l => if f' = f then g args u l else none
theorem znH {vals : Array Value} {n y : Nat} : (vals ++ Array.replicate n undef).getD y undef = vals.getD y undef := by
 simp only [Array.getD_eq_getD_getElem?]
 by_cases hy : y < vals.size
 · rw [Array.getElem?_append_left hy]
 · have e0 : vals[y]? = none := Array.getElem?_eq_none (by omega)
   rw [Array.getElem?_append_right (by omega), e0]
   by_cases h2 : y - vals.size < n
   · simp [Array.getElem?_replicate, h2]
   · have e1 : (Array.replicate n undef)[y - vals.size]? = none := Array.getElem?_eq_none (by simp; omega)
     rw [e1]
theorem ziz {c1 : Cx} {tm : Array Value} {n : Nat} {cs : List D} (hs : Sim c1 tm) (hb : c1.s.b n = some cs) (hc : cs.all zcR = true) :
 ∃ c', c'.W = c1.W ∧ c'.s = znK cs ∧ Sim c' #[] ∧ c'.β (.loc 0) = c1.β (.loc n) ∧ Ext c1 c' := by
 let c' : Cx :=
  { c1 with
    β := fun r => match r.is (.loc 0) with | true => c1.β (.loc n) | false => c1.β r
    ρ := fun g => match c1.ρ g with
     | .box r => (match r.is (.loc n) with | true => .box (.loc 0) | false => .oth)
     | .row (.cell r i) => (match r.is (.loc n) with | true => .row (.cell (.loc 0) i) | false => .oth)
     | .row _ => .oth
     | x => x
    H := fun q => match q with
     | .cell r i => (match r.is (.loc 0) with | true => c1.H (.cell (.loc n) i) | false => c1.H q)
     | q => c1.H q
    s := znK cs }
 have hself : ∀ k, (Ref.loc k).is (.loc k) = true := fun k => Ref.is_eq.2 rfl
 have hst : ∀ g, stable (c1.ρ g) → c'.ρ g = c1.ρ g := fun g h => by
  simp only [c']
  generalize c1.ρ g = x at h
  cases x <;> first | rfl | exact h.elim
 have hrd : ∀ b g, Rd c1.ρ b g → g < c1.W.heap.size → Rd c'.ρ b g ∧ c'.W.heap[g]? = c1.W.heap[g]? := fun b g h _ => by
  refine ⟨?_, rfl⟩
  have h2 := hst g h.stable
  unfold Rd at h ⊢
  rw [h2]
  exact h
 refine ⟨c', rfl, rfl, ⟨fun x => trivial, fun r cs' hb' => ?_, fun j r hg => ?_⟩, ?_, ⟨rfl, rfl, rfl, Nat.le_refl _, fun g _ h => ⟨hst g h, rfl⟩, rfl, fun k => rfl, fun j => rfl⟩⟩
 · have hr : r = .loc 0 ∧ cs' = cs := by
    cases r with
    | up k => have h : ([] : List (List D))[k]? = some cs' := hb'; simp at h
    | loc m =>
      have h : (match Nat.beq m 0 with | true => some cs | false => none) = some cs' := hb'
      cases hm : Nat.beq m 0 with
      | true => rw [hm] at h; cases h; rw [beq_eq.1 hm]; exact ⟨rfl, rfl⟩
      | false => rw [hm] at h; cases h
   obtain ⟨rfl, rfl⟩ := hr
   obtain ⟨vs, T, h1, h2, h3, h4⟩ := (hs.boxes (.loc n) cs' hb).out
   have hβ : c'.β (.loc 0) = c1.β (.loc n) := by simp only [c', hself]
   refine ⟨vs, T, by rw [hβ]; exact h1, ?_, h3, fun i d u hd hu => ?_⟩
   · rw [hβ]
     simp only [c', h2, hself]
   · obtain ⟨h5, h6, h7⟩ := h4 i d u hd hu
     refine ⟨?_, h6, h7⟩
     have hup : zcR d = true := (List.all_eq_true.1 hc) d (List.mem_of_getElem? hd)
     cases d with
     | dat dd =>
       obtain ⟨cv, h8, h9⟩ := h5
       exact ⟨cv, h8.mono hrd, h9⟩
     | own e es =>
       have hHc : c'.H (.cell (.loc 0) i) = c1.H (.cell (.loc n) i) := by simp only [c', hself]
       refine ⟨by rw [hHc]; exact h5.1, RowAt.ok ?_⟩
       rw [hHc]
       have hrow := h5.2.at_
       refine hrow.re rfl hrd fun g hg => ⟨?_, rfl⟩
       have hr := hrow.choose_spec.choose_spec.2.2.2 g hg
       simp only [c', hr, hself]
     | _ => cases hup
 · have h : (([] : List (Option Row))[j]?).bind id = some r := hg
   simp at h
 · simp only [c', hself]
theorem zdY {P : Program} {C : Cfg} (hC : CfgOK P B C) : ∀ k, zcE P C.ty B (den C k)
 | 0 => fun f args u l rs u' l' h => by cases h
 | k + 1 => by
   intro f args u l rs u' l' h c vals hty hI hcs hsz hs
   unfold den at h
   split at h
   · rename_i r0 hg0
     obtain ⟨g, hg, hg0⟩ := Option.bind_eq_some_iff.1 hg0
     rw [← hg0] at h
     exact hC.ext f g hg f args u l rs u' l' (by show (if f = f then g args u l else none) = _; rw [if_pos rfl]; exact h) c vals hty hI hcs hsz hs
   · rename_i hext
     split at h
     · rename_i fn hfn
       split at h
       · rename_i hle
         have hF := hC.fn f fn hfn
         have hle : args.length ≤ fn.ntmps := by simpa using hle
         unfold zam at h
         split at h
         · cases h
         · rename_i code hb
           -- the call enters
           have hent : (callFunc f vals).run P c.W = .ok (.enter f vals) c.W := by
            have h1 : fn.name ≠ "runtime.NumGoroutine" := by simpa using hF.name
            simp [callFunc, hF.there, h1, hb, mark]
           unfold Reaches
           rw [hent]
           show Calls P f vals c.W _
           refine calls_of_wp hF.there hb ?_
           let a : Act := { tmps := vals ++ Array.replicate (fn.ntmps - vals.size) undef, defers := [] }
           have hasz : a.tmps.size = fn.ntmps := by simp [a]; omega
           have hsim : Sim c a.tmps := ⟨fun y => by rw [show a.tmps.getD y undef = vals.getD y undef from znH]; exact hs.slots y, hs.boxes, hs.lent⟩
           have hfr : Fr fn.ntmps c a := ⟨hsim, by rw [hasz]; exact Nat.le_refl _, by
            rw [hcs]
            show (args.getD fn.ntmps .undef).hasOwn = false
            rw [List.getD_eq_getElem?_getD, List.getElem?_eq_none (by omega)]
            rfl⟩
           have hE : EnvOK P B ⟨C.ty, C.mode, fn.ntmps, C.live f, C.out f, C.plan f, den C k⟩ c a := ⟨hty.symm, by rw [hty]; exact hC.ty, hI, by rw [hty]; exact zdY hC k, hasz⟩
           have fin : ∀ x s, exec ⟨C.ty, C.mode, fn.ntmps, C.live f, C.out f, C.plan f, den C k⟩ k code (start args u l) = some (x, s) → (x.exit' = .normal ∨ x.exit' = .ret) → znQ C.ty (C.liv f) fn.results.toList u.length s = some (rs, u', l') →
            code.wp P (bodyPost P fn fun | .returned v, W'' => ∃ c', c'.W = W'' ∧ Ans c rs u' l' v c' | _, _ => False) a c.W := by
            intro x s hx hxe hr
            simp only [znQ, Option.bind_eq_some_iff] at hr
            obtain ⟨⟨rs1, s1⟩, hres, hr⟩ := hr
            split at hr
            · rename_i hlen
              simp only [Option.some.injEq, Prod.mk.injEq] at hr
              obtain ⟨rfl, rfl, rfl⟩ := hr
              refine zas k code c a x s _ (hF.code code hb) (hF.draws code hb _ (zdY hC k)) hE hfr (by rw [hcs]; exact hx) fun a' c1 hs1 hf1 he1 hsz1 hdf1 => ?_
              have hty1 : c1.ty = C.ty := he1.ty.trans hty
              obtain ⟨c2, us, h2, h3, h4, h5, h6, h7, h8, h9⟩ := zdX fn.results.toList 0 c1 rs1 s1 (by rw [hty1]; exact hC.ty) hf1.sim hf1.ghost (by rw [hty1, hs1]; exact hres)
              obtain ⟨c3, h10, h11, h12, h13, h14, h15⟩ := zi5 h4 h7 h9
              have hpost : a'.defers = [] ∧ ∃ v, (Go.results fn a'.tmps).run P c1.W = .ok v c1.W ∧ ∃ c', c'.W = c1.W ∧ Ans c rs1 (s1.u.map (D.kills (Kill.but []))) s1.l v c' := by
               refine ⟨hdf1, zh6 us, zfo h8, c3, h10.trans h3, Ans.of h15 ⟨(he1.trans h6.ext).trans h13, by rw [h11, h2]; rfl, h12, zbM _ h14, ?_⟩⟩
               rw [hcs]
               show (s1.u.map _).length = u.length
               rw [List.length_map]
               exact beq_eq.1 hlen
              rcases hxe with e | e <;> rw [e] <;> exact hpost
            · cases hr
           have fin2 : ∀ x s cs, exec ⟨C.ty, C.mode, fn.ntmps, C.live f, C.out f, C.plan f, den C k⟩ k code (start args u l) = some (x, s) → (x.exit' = .normal ∨ x.exit' = .ret) → zlU fn.results.toList s = some cs → rs = [.ptr (.loc 0) 0] → u' = [cs] →
            code.wp P (bodyPost P fn fun | .returned v, W'' => ∃ c', c'.W = W'' ∧ Ans c rs u' l' v c' | _, _ => False) a c.W := by
            intro x s cs hx hxe hr hrs hu'
            refine zas k code c a x s _ (hF.code code hb) (hF.draws code hb _ (zdY hC k)) hE hfr (by rw [hcs]; exact hx) fun a' c1 hs1 hf1 he1 hsz1 hdf1 => ?_
            unfold zlU at hr
            split at hr
            · rename_i y hrv
              split at hr
              · rename_i n hy
                simp only [Option.bind_eq_some_iff] at hr
                obtain ⟨cs0, hb0, hr⟩ := hr
                split at hr
                · rename_i hup
                  cases hr
                  rw [← hs1] at hb0 hy
                  obtain ⟨c2, h2, h3, h4, h5, h6⟩ := ziz hf1.sim hb0 hup
                  have hv := hf1.sim.slots y
                  rw [hy] at hv
                  have h8 : (fn.results.toList.mapM (resM a'.tmps)).run P c1.W = .ok [a'.tmps.getD y undef] c1.W := by
                   rw [hrv]
                   simp [resM]
                  have hpost : a'.defers = [] ∧ ∃ v, (Go.results fn a'.tmps).run P c1.W = .ok v c1.W ∧ ∃ c', c'.W = c1.W ∧ Ans c rs u' l' v c' := by
                   refine ⟨hdf1, _, zfo h8, c2, h2, ?_⟩
                   subst hrs hu'
                   exact ⟨he1.trans h6, cs, rfl, hup, h3, h4, by show a'.tmps.getD y undef = _; rw [hv.2, h5]⟩
                  rcases hxe with e | e <;> rw [e] <;> exact hpost
                · cases hr
              · cases hr
            · cases hr
           split at h
           · cases h
           · rename_i x s hne hx
             have hxe : x.exit' = .normal ∨ x.exit' = .ret := by
              cases x with
              | normal => exact .inl rfl
              | ret => exact .inr rfl
              | exit i => exact (hne i rfl).elim
             unfold zpd at h
             split at h
             · split at h
               · rename_i cs hn
                 cases h
                 exact fin2 x s cs hx hxe hn rfl rfl
               · exact fin x s hx hxe h
             · exact fin x s hx hxe h
           · cases h
       · cases h
     · cases h
end Go.Den
namespace Go.Den
open Go Go.RowKit
set_option linter.unusedVariables false
variable {B : Nat → Option Obj}
structure Left (w w' : World) (v : Value) : Prop where
 os : w'.os = w.os
 tape : w'.tape = w.tape
 output : w'.output = w.output
 size : w.heap.size ≤ w'.heap.size
 keep : ∀ g, g < w.heap.size → v.ownBlock ≠ some g → w'.heap[g]? = w.heap[g]?
theorem zak {P : Program} {f : Nat} {fn : Func} {vals : Array Value} {W : World} {R : Value → World → Prop} (hf : P.funcs[f]? = some fn) (hn : (fn.name == "runtime.NumGoroutine") = false) (hb : fn.body.isSome = true) (h : Calls P f vals W fun e w' => ∃ v, e = .returned v ∧ R v w') : Reaches P f vals W R := by
 obtain ⟨code, hbd⟩ := Option.isSome_iff_exists.1 hb
 have hent : (callFunc f vals).run P W = .ok (.enter f vals) W := by
  have h1 : fn.name ≠ "runtime.NumGoroutine" := by simpa using hn
  simp [callFunc, hf, h1, hbd, mark]
 unfold Reaches
 rw [hent]
 refine Calls.mono h fun e w' he => ?_
 obtain ⟨v, rfl, hr⟩ := he
 exact hr
def zbX (es : List Dat) (xs : List Value) : Prop := es.length = xs.length ∧ ∀ (j : Nat) (d : Dat) (v : Value), es[j]? = some d → xs[j]? = some v → d = .val v ∧ scal v = true
theorem zcU {ρ : Nat → Role} {W : World} {es : List Dat} {xs : List Value} (h : zbX es xs) : RepRow ρ W 1 es xs := by
 obtain ⟨hl, h⟩ := h
 refine ⟨by omega, fun j d hj => ?_, fun j d hj => ?_⟩
 · have hlt := (List.getElem?_eq_some_iff.1 hj).1
   have hx := List.getElem?_eq_getElem (show j < xs.length by omega)
   obtain ⟨rfl, hs⟩ := h j d _ hj hx
   have e1 : (xs.drop (j * 1)).take 1 = [xs[j]] := by
    rw [Nat.mul_one, List.drop_eq_getElem_cons (by omega)]
    rfl
   rw [e1]
   exact .val hs
 · have hlt := (List.getElem?_eq_some_iff.1 hj).1
   have hx := List.getElem?_eq_getElem (show j < xs.length by omega)
   obtain ⟨rfl, hs⟩ := h j d _ hj hx
   rfl
theorem zbx {ρ : Nat → Role} {W : World} {es : List Dat} {xs : List Value} (h : RepRow ρ W 1 es xs) (hv : ∀ d ∈ es, ∃ v, d = .val v) : zbX es xs := by
 refine ⟨by have := h.len; omega, fun j d v hd hx => ?_⟩
 obtain ⟨u, rfl⟩ := hv d (List.mem_of_getElem? hd)
 have hr := h.rep j _ hd
 have hlt := (List.getElem?_eq_some_iff.1 hx).1
 have e1 : (xs.drop (j * 1)).take 1 = [v] := by
  rw [Nat.mul_one, List.drop_eq_getElem_cons hlt, (List.getElem?_eq_some_iff.1 hx).2]
  rfl
 rw [e1] at hr
 cases hr with
 | val hs => exact ⟨rfl, hs⟩
end Go.Den
namespace Go.Den
open Go Go.RowKit
set_option linter.unusedVariables false
variable {B : Nat → Option Obj}
structure ExtOK (P : Program) (ty : Nat → Option TI) (B : Nat → Option Obj) (f : Nat) (g : List D → List (List D) → List (Option Row) → Option (List D × List (List D) × List (Option Row))) : Prop where mk ::
 out : zcE P ty B fun f' args u l => if f' = f then g args u l else none
theorem zn8 {P : Program} {C : Cfg} (h1 : TyOk P C.ty) (h2 : ∀ f fn, C.fn f = some fn → FnOK P B C f fn) (h3 : ∀ f g, C.ext f = some g → ExtOK P C.ty B f g) : CfgOK P B C := ⟨h1, h2, fun f g h => (h3 f g h).out⟩
def zeP : List Dat → Option (List Int)
 | [] => some []
 | .val (.int .i64 n) :: l => (zeP l).map (n :: ·)
 | _ => none
def DI (n : Int) : Dat := .val (.int .i64 n)
theorem zcu : ∀ {es : List Dat} {zs : List Int}, zeP es = some zs → es = zs.map DI
 | [], zs, h => by cases h; rfl
 | d :: es, zs, h => by
   unfold zeP at h
   split at h
   · rename_i h0; cases h0
   · rename_i n l h0
     cases h0
     obtain ⟨ys, h1, rfl⟩ := Option.map_eq_some_iff.1 h
     rw [zcu h1]
     rfl
   · cases h
theorem zc5 {zs : List Int} {xs : List Value} (h : zbX (zs.map DI) xs) : xs = zs.map (Value.int .i64) := by
 obtain ⟨hl, h⟩ := h
 apply List.ext_getElem?
 intro j
 cases hx : xs[j]? with
 | none =>
   have := List.getElem?_eq_none_iff.1 hx
   have hl' : zs.length ≤ j := by simp at hl; omega
   simp [List.getElem?_eq_none hl']
 | some v =>
   have hlt := (List.getElem?_eq_some_iff.1 hx).1
   have hz : j < zs.length := by simp at hl; omega
   have hd : (zs.map DI)[j]? = some (DI zs[j]) := by simp [hz]
   obtain ⟨h1, _⟩ := h j _ _ hd hx
   have : v = .int .i64 zs[j] := by unfold DI at h1; injection h1 with h1; exact h1.symm
   rw [this]
   simp [hz]
theorem zgH (zs : List Int) : zbX (zs.map DI) (zs.map (Value.int .i64)) := by
 refine ⟨by simp, fun j d v hd hv => ?_⟩
 rw [List.getElem?_map] at hd hv
 cases hz : zs[j]? with
 | none => rw [hz] at hd; cases hd
 | some z =>
   rw [hz] at hd hv
   cases hd; cases hv
   exact ⟨rfl, rfl⟩
theorem zlF {w : World} {g e cap : Nat} {cur : Array Value} {zs : List Int} (hg : w.heap[g]? = some (.cells cur e (0, 0))) (hc : zs.length ≤ cap) (hs : cur.size = cap * 1) (ht : cur.toList.take (zs.length * 1) = zs.map (Value.int .i64)) : Sort.Holds (Value.int .i64) w g 0 zs.toArray := by
 intro j hj
 have hj : j < zs.length := by simpa using hj
 refine ⟨?_, ?_⟩
 · unfold World.cell?
   simp only [hg]
   have e1 : (cur.toList.take (zs.length * 1))[j]? = (zs.map (Value.int .i64))[j]? := by rw [ht]
   rw [List.getElem?_take, if_pos (by omega), List.getElem?_map, List.getElem?_eq_getElem hj] at e1
   have e2 : (zs.toArray)[j]! = zs[j] := by simp [hj]
   rw [e2]
   simpa using e1
 · unfold World.frozen?
   simp only [hg]
   simp
theorem zo6 {w : World} {g e cap n : Nat} {cur : Array Value} {zs : List Int} {os : Array Obj} (hg : w.heap[g]? = some (.cells cur e (0, 0))) (hc : zs.length ≤ cap) (hm : cap ≤ maxLen) (hs : cur.size = cap * 1) {m : Nat} (hmz : m ≤ zs.length) :
 let W' := Sort.grow (Sort.putRow (Value.int .i64) (Sort.ahead w n) g 0 zs.toArray) os
 Left w W' (.slice (some ⟨g, 0, none⟩) m cap) ∧ W'.ownsRow 0 e 1 (.slice (some ⟨g, 0, none⟩) m cap) m ((zs.take m).map (Value.int .i64)) := by
 intro W'
 have hglt : g < w.heap.size := by
  rcases Nat.lt_or_ge g w.heap.size with h | h
  · exact h
  · rw [Array.getElem?_eq_none h] at hg; cases hg
 have hheap : ∀ k, k < w.heap.size → W'.heap[k]? = (w.heap.modify g (Sort.onCells (Sort.putCells (Value.int .i64) 0 zs.toArray)))[k]? := fun k hk => by
  show ((w.heap.modify g _) ++ os)[k]? = _
  rw [Array.getElem?_append_left (by simpa using hk)]
 refine ⟨⟨rfl, rfl, rfl, ?_, fun k hk hne => ?_⟩, ?_⟩
 · show w.heap.size ≤ ((w.heap.modify g _) ++ os).size
   simp
 · rw [hheap k hk, Array.getElem?_modify, if_neg]
   intro h
   subst h
   exact hne rfl
 · refine ⟨by simp; omega, .inr ⟨g, cap, Sort.putCells (Value.int .i64) 0 zs.toArray cur, rfl, Nat.zero_le _, ?_, by omega, hm, ?_, ?_⟩⟩
   · rw [hheap g hglt, Array.getElem?_modify, if_pos rfl, hg]
     rfl
   · unfold Sort.putCells
     simpa using hs
   · apply List.ext_getElem?
     intro j
     rw [List.getElem?_take, List.getElem?_map, List.getElem?_take]
     by_cases hj : j < m
     · have hj1 : j < m * 1 := by omega
       rw [if_pos hj1, if_pos hj]
       have hjc : j < cur.size := by omega
       have hjz : j < zs.length := by omega
       unfold Sort.putCells
       rw [Array.getElem?_toList, Array.getElem?_mapIdx, Array.getElem?_eq_getElem hjc]
       simp only [Option.map_some]
       rw [if_pos ⟨Nat.zero_le _, by simpa using hjz⟩, List.getElem?_eq_getElem hjz]
       simp [hjz]
     · rw [if_neg (by omega), if_neg hj]
       rfl
end Go.Den
namespace Go.Den
open Go Go.RowKit
set_option linter.unusedVariables false
variable {B : Nat → Option Obj}
structure Kept0 (w w' : World) : Prop where
 os : w'.os = w.os
 tape : w'.tape = w.tape
 output : w'.output = w.output
 size : w.heap.size ≤ w'.heap.size
 keep : ∀ g, g < w.heap.size → w'.heap[g]? = w.heap[g]?
theorem Kept0.refl (w : World) : Kept0 w w := ⟨rfl, rfl, rfl, Nat.le_refl _, fun _ _ => rfl⟩
theorem Kept0.trans {a b c : World} (h : Kept0 a b) (k : Kept0 b c) : Kept0 a c :=
 ⟨k.os.trans h.os, k.tape.trans h.tape, k.output.trans h.output, Nat.le_trans h.size k.size, fun g hg => (k.keep g (Nat.lt_of_lt_of_le hg h.size)).trans (h.keep g hg)⟩
theorem Kept0.alloc (w : World) (o : Obj) : Kept0 w (w.alloc o) := ⟨rfl, rfl, rfl, by simp, fun g hg => Below.heap_alloc w o g hg⟩
theorem Kept0.drew (w : World) : Kept0 w w.drew := ⟨rfl, rfl, rfl, Nat.le_refl _, fun _ _ => rfl⟩
def ziv : List D → Option (List Value)
 | [] => some []
 | .dat (.val v) :: ds => (ziv ds).map (v :: ·)
 | _ => none
def DV (v : Value) : D := .dat (.val v)
def zeB (φ : List Value → Option (List Value)) (args : List D) (u : List (List D)) (l : List (Option Row)) : Option (List D × List (List D) × List (Option Row)) :=
 match u, l with
 | [], [] => (ziv args).bind fun vs => (φ vs).map fun rs => (rs.map DV, [], [])
 | _, _ => none
def retV : List Value → Value
 | [v] => v
 | vs => .tuple vs.toArray
theorem zhG {c : Cx} {tm : Array Value} (hs : ∀ x, VR c (.slot x []) (c.s.t x) (tm.getD x undef)) : ∀ {args : List D} {vs : List Value} (k : Nat), ziv args = some vs → (∀ i d, args[i]? = some d → c.s.t (k + i) = d) → vs.length = args.length ∧ ∀ i v, vs[i]? = some v → tm.getD (k + i) undef = v
 | [], vs, k, h, ht => by cases h; exact ⟨rfl, fun i v hv => by simp at hv⟩
 | d :: ds, vs, k, h, ht => by
   unfold ziv at h
   split at h
   · rename_i h0; cases h0
   · rename_i w ds' h0
     cases h0
     obtain ⟨ws, hw, rfl⟩ := Option.map_eq_some_iff.1 h
     obtain ⟨h1, h2⟩ := zhG hs (k + 1) hw (fun i d hd => by rw [show k + 1 + i = k + (i + 1) by omega]; exact ht (i + 1) d (by simpa using hd))
     refine ⟨by simp [h1], fun i v hv => ?_⟩
     cases i with
     | zero =>
       cases hv
       have h3 := hs (k + 0)
       rw [ht 0 _ rfl] at h3
       exact (zaq h3).1
     | succ i => rw [show k + (i + 1) = k + 1 + i by omega]; exact h2 i v (by simpa using hv)
   · cases h
theorem zlI {c : Cx} {p : Pl} : ∀ (rs : List Value) (i : Nat), (∀ r ∈ rs, scal r = true) → VRs c p i (rs.map DV) rs
 | [], i, h => rfl
 | r :: rs, i, h => ⟨r, rs, rfl, zaD (h r (by simp)), zlI rs (i + 1) fun x hx => h x (List.mem_cons_of_mem _ hx)⟩
theorem zfQ (b : Bool) : ∀ rs : List Value, D.tights b (rs.map DV) = true
 | [] => rfl
 | r :: rs => by
   show (D.tight b (DV r) && D.tights b (rs.map DV)) = true
   rw [zfQ b rs]
   rfl
theorem zfF : ∀ rs : List Value, D.plains (rs.map DV) = true
 | [] => rfl
 | r :: rs => by
   show (D.plain (DV r) && D.plains (rs.map DV)) = true
   rw [zfF rs]
   rfl
theorem zf6 {P : Program} {ty : Nat → Option TI} {f : Nat} {φ : List Value → Option (List Value)}
 (h : ∀ vs rs W, (∀ (g : Nat) (o : Obj), B g = some o → W.heap[g]? = some o) → φ vs = some rs → rs ≠ [] ∧ (∀ r ∈ rs, scal r = true) ∧ Reaches P f vs.toArray W fun r W' => r = retV rs ∧ Kept0 W W') :
 zcE P ty B fun f' args u l => if f' = f then zeB φ args u l else none := by
 intro f' args u l rs u' l' hc c vals hcty hI hcs hsz2 hs
 simp only at hc
 split at hc
 · rename_i hff
   subst hff
   unfold zeB at hc
   split at hc
   · simp only [Option.bind_eq_some_iff, Option.map_eq_some_iff] at hc
     obtain ⟨vs, hv, ws, hw, hq⟩ := hc
     cases hq
     obtain ⟨hne, hsc, hr⟩ := h vs ws c.W (fun g o hg => (hI g o hg).2) hw
     obtain ⟨h1, h2⟩ := zhG (c := c) (tm := vals) hs.slots 0 hv (fun i d hd => by
      rw [hcs]
      show args.getD (0 + i) .undef = d
      rw [Nat.zero_add, List.getD_eq_getElem?_getD, hd]
      rfl)
     have hvals : vals = vs.toArray := by
      apply Array.ext
      · simp [hsz2, h1]
      · intro i hi1 hi2
        have hi3 : i < vs.length := by simpa using hi2
        have := h2 i vs[i] (List.getElem?_eq_getElem hi3)
        rw [Nat.zero_add] at this
        simpa [Array.getD, hi1] using this
     rw [hvals]
     refine hr.mono fun r W' hrr => ?_
     obtain ⟨rfl, hk⟩ := hrr
     refine ⟨{ c with W := W', s := ⟨fun x => match Nat.beq x 0 with | true => retD (ws.map DV) | false => .junk, fun _ => none, [], []⟩ }, rfl, Ans.of (zfF ws) ⟨?_, rfl, ?_, ?_, ?_⟩⟩
     · exact ⟨hk.os, hk.tape, hk.output, hk.size, fun g hg _ => ⟨rfl, hk.keep g hg⟩, rfl, fun _ => rfl, fun _ => rfl⟩
     · refine ⟨fun x => ?_, fun r cs hb => ?_, fun j r hgj => ?_⟩
       · show VR _ _ (match Nat.beq x 0 with | true => retD (ws.map DV) | false => .junk) _
         cases hx : Nat.beq x 0 with
         | true =>
           have := Nat.eq_of_beq_eq_true hx
           subst this
           match ws, hne, hsc with
           | [w], _, hsc => exact zaD (hsc w (by simp))
           | w :: w2 :: ws, _, hsc => exact ⟨w :: w2 :: ws, rfl, fun e => (by cases e), zlI (w :: w2 :: ws) 0 hsc⟩
         | false => trivial
       · cases r with
         | loc n => cases hb
         | up n =>
           have hb' : ([] : List (List D))[n]? = some cs := hb
           simp at hb'
       · have hgj' : (([] : List (Option Row))[j]?).bind id = some r := hgj
         simp at hgj'
     · match ws, hne with
       | [w], _ => rfl
       | w :: w2 :: ws, _ => exact zfQ false (w :: w2 :: ws)
     · rw [hcs]
       rfl
   · cases hc
 · cases hc
theorem zl7 {P : Program} {ty : Nat → Option TI} {f : Nat} {fn : Func} {φ : List Value → Option (List Value)} (hf : P.funcs[f]? = some fn) (hn : (fn.name == "runtime.NumGoroutine") = false) (hb : fn.body.isSome = true)
 (h : ∀ vs rs W, φ vs = some rs → rs ≠ [] ∧ (∀ r ∈ rs, scal r = true) ∧ Calls P f vs.toArray W fun e w' => ∃ v, e = .returned v ∧ (v = retV rs ∧ Kept0 W w')) : ExtOK P ty B f (zeB φ) :=
 ⟨zf6 fun vs rs W _ hv => ⟨(h vs rs W hv).1, (h vs rs W hv).2.1, zak hf hn hb (h vs rs W hv).2.2⟩⟩
theorem zlc {P : Program} {ty : Nat → Option TI} {f : Nat} {fn : Func} {φ : List Value → Option (List Value)} (hf : P.funcs[f]? = some fn) (hn : (fn.name == "runtime.NumGoroutine") = false) (hb : fn.body.isSome = true)
 (h : ∀ vs rs W, (∀ (g : Nat) (o : Obj), B g = some o → W.heap[g]? = some o) → φ vs = some rs → rs ≠ [] ∧ (∀ r ∈ rs, scal r = true) ∧ Calls P f vs.toArray W fun e w' => ∃ v, e = .returned v ∧ (v = retV rs ∧ Kept0 W w')) : ExtOK P ty B f (zeB φ) :=
 ⟨zf6 fun vs rs W hB hv => ⟨(h vs rs W hB hv).1, (h vs rs W hB hv).2.1, zak hf hn hb (h vs rs W hB hv).2.2⟩⟩
end Go.Den
namespace Go.Proofs
open Go.Shelf
def Tryd.lays172_ren : Go.Shelf.Ren := ⟨fun | 172 => 129 | 244 => 137 | 245 => 138 | 247 => 146 | 279 => 147 | 280 => 148 | 281 => 149 | 282 => 150 | 287 => 154 | 316 => 155 | 171 => 74 | 205 => 156 | 321 => 157 | 322 => 158 | 243 => 90 | 246 => 120 | 283 => 133 | 284 => 134 | 285 => 135 | 286 => 136 | 129 => 142 | 317 => 141 | 318 => 143 | 319 => 144 | 320 => 145 | 337 => 152 | 338 => 153 | n => n, fun | 9 => 9 | 3 => 3 | 75 => 150 | 76 => 151 | 4 => 4 | 5 => 5 | 167 => 166 | 37 => 45 | 0 => 0 | 85 => 167 | 2 => 2 | 168 => 169 | 53 => 90 | 175 => 174 | 46 => 137 | 210 => 178 | 127 => 184 | 145 => 187 | 143 => 185 | 21 => 21 | 171 => 154 | 173 => 157 | 212 => 162 | 51 => 163 | 20 => 20 | 213 => 164 | 232 => 180 | 233 => 181 | 80 => 190 | n => n, fun | 15 => 1 | 16 => 2 | 17 => 0 | 18 => 3 | 19 => 4 | n => n⟩
theorem Tryd.lays172 : Go.Proofs.Lays.n172 Tryd.prog Tryd.lays172_ren := {
 mixed := by kernel_rfl
 f129 := Tryd.func142.trans (congrArg some (by kernel_rfl))
 f171 := Tryd.func74.trans (congrArg some (by kernel_rfl))
 f172 := Tryd.func129.trans (congrArg some (by kernel_rfl))
 f205 := Tryd.func156.trans (congrArg some (by kernel_rfl))
 f243 := Tryd.func90.trans (congrArg some (by kernel_rfl))
 f244 := Tryd.func137.trans (congrArg some (by kernel_rfl))
 f245 := Tryd.func138.trans (congrArg some (by kernel_rfl))
 f246 := Tryd.func120.trans (congrArg some (by kernel_rfl))
 f247 := Tryd.func146.trans (congrArg some (by kernel_rfl))
 f279 := Tryd.func147.trans (congrArg some (by kernel_rfl))
 f280 := Tryd.func148.trans (congrArg some (by kernel_rfl))
 f281 := Tryd.func149.trans (congrArg some (by kernel_rfl))
 f282 := Tryd.func150.trans (congrArg some (by kernel_rfl))
 f283 := Tryd.func133.trans (congrArg some (by kernel_rfl))
 f284 := Tryd.func134.trans (congrArg some (by kernel_rfl))
 f285 := Tryd.func135.trans (congrArg some (by kernel_rfl))
 f286 := Tryd.func136.trans (congrArg some (by kernel_rfl))
 f287 := Tryd.func154.trans (congrArg some (by kernel_rfl))
 f316 := Tryd.func155.trans (congrArg some (by kernel_rfl))
 f317 := Tryd.func141.trans (congrArg some (by kernel_rfl))
 f318 := Tryd.func143.trans (congrArg some (by kernel_rfl))
 f319 := Tryd.func144.trans (congrArg some (by kernel_rfl))
 f320 := Tryd.func145.trans (congrArg some (by kernel_rfl))
 f321 := Tryd.func157.trans (congrArg some (by kernel_rfl))
 f322 := Tryd.func158.trans (congrArg some (by kernel_rfl))
 f337 := Tryd.func152.trans (congrArg some (by kernel_rfl))
 f338 := Tryd.func153.trans (congrArg some (by kernel_rfl))
 t0 := Tryd.underlying0
 a0 := Tryd.isAgg0
 z0 := Tryd.sizeOf0
 v0 := Tryd.zeroValue0
 t2 := Tryd.underlying2
 a2 := Tryd.isAgg2
 z2 := Tryd.sizeOf2
 v2 := Tryd.zeroValue2
 t3 := Tryd.underlying3
 a3 := Tryd.isAgg3
 z3 := Tryd.sizeOf3
 v3 := Tryd.zeroValue3
 t4 := Tryd.underlying4
 a4 := Tryd.isAgg4
 z4 := Tryd.sizeOf4
 v4 := Tryd.zeroValue4
 t5 := Tryd.underlying5
 a5 := Tryd.isAgg5
 z5 := Tryd.sizeOf5
 v5 := Tryd.zeroValue5
 t9 := Tryd.underlying9
 a9 := Tryd.isAgg9
 z9 := Tryd.sizeOf9
 v9 := Tryd.zeroValue9
 t20 := Tryd.underlying20
 a20 := Tryd.isAgg20
 z20 := Tryd.sizeOf20
 v20 := Tryd.zeroValue20
 t21 := Tryd.underlying21
 a21 := Tryd.isAgg21
 z21 := Tryd.sizeOf21
 v21 := Tryd.zeroValue21
 t37 := Tryd.underlying45
 a37 := Tryd.isAgg45
 z37 := Tryd.sizeOf45
 v37 := Tryd.zeroValue45
 t46 := Tryd.underlying137
 a46 := Tryd.isAgg137
 z46 := Tryd.sizeOf137
 v46 := Tryd.zeroValue137
 t51 := Tryd.underlying163
 a51 := Tryd.isAgg163
 z51 := Tryd.sizeOf163
 v51 := Tryd.zeroValue163
 t53 := Tryd.underlying90
 a53 := Tryd.isAgg90
 z53 := Tryd.sizeOf90
 v53 := Tryd.zeroValue90
 t75 := Tryd.underlying150
 a75 := Tryd.isAgg150
 z75 := Tryd.sizeOf150
 v75 := Tryd.zeroValue150
 t76 := Tryd.underlying151
 a76 := Tryd.isAgg151
 z76 := Tryd.sizeOf151
 v76 := Tryd.zeroValue151
 t85 := Tryd.underlying167
 a85 := Tryd.isAgg167
 z85 := Tryd.sizeOf167
 v85 := Tryd.zeroValue167
 t127 := Tryd.underlying184
 a127 := Tryd.isAgg184
 z127 := Tryd.sizeOf184
 v127 := Tryd.zeroValue184
 t143 := Tryd.underlying185
 a143 := Tryd.isAgg185
 z143 := Tryd.sizeOf185
 v143 := Tryd.zeroValue185
 t145 := Tryd.underlying187
 a145 := Tryd.isAgg187
 z145 := Tryd.sizeOf187
 v145 := Tryd.zeroValue187
 t167 := Tryd.underlying166
 a167 := Tryd.isAgg166
 z167 := Tryd.sizeOf166
 v167 := Tryd.zeroValue166
 t168 := Tryd.underlying169
 a168 := Tryd.isAgg169
 z168 := Tryd.sizeOf169
 v168 := Tryd.zeroValue169
 t171 := Tryd.underlying154
 a171 := Tryd.isAgg154
 z171 := Tryd.sizeOf154
 v171 := Tryd.zeroValue154
 t173 := Tryd.underlying157
 a173 := Tryd.isAgg157
 z173 := Tryd.sizeOf157
 v173 := Tryd.zeroValue157
 t175 := Tryd.underlying174
 a175 := Tryd.isAgg174
 z175 := Tryd.sizeOf174
 v175 := Tryd.zeroValue174
 t210 := Tryd.underlying178
 a210 := Tryd.isAgg178
 z210 := Tryd.sizeOf178
 v210 := Tryd.zeroValue178
 t212 := Tryd.underlying162
 a212 := Tryd.isAgg162
 z212 := Tryd.sizeOf162
 v212 := Tryd.zeroValue162
 t213 := Tryd.underlying164
 a213 := Tryd.isAgg164
 z213 := Tryd.sizeOf164
 t232 := Tryd.underlying180
 a232 := Tryd.isAgg180
 z232 := Tryd.sizeOf180
 v232 := Tryd.zeroValue180
 t233 := Tryd.underlying181
 a233 := Tryd.isAgg181
 z233 := Tryd.sizeOf181
 v233 := Tryd.zeroValue181
 g15 := by kernel_rfl
 g16 := by kernel_rfl
 g17 := by kernel_rfl
 g18 := by kernel_rfl
 g19 := by kernel_rfl }
open Go.RowKit in
theorem Tryd.strconv_Atoi (s : ByteArray) (n : Int) (hl : s.size ≤ 18) (h : Lib.atoi s.data.toList = some n) (w : World) :
 Calls Tryd.prog 129 #[.string s] w fun e w' => e = .returned (.tuple #[.int .i64 n, .nilIface]) ∧ ∃ t, w' = Lib.bytesWorld w 5 t := Any.strconv_Atoi Tryd.lays172 s n hl h w
def Tryd.lays283_ren : Go.Shelf.Ren := ⟨fun | 283 => 133 | n => n, fun | 3 => 3 | 9 => 9 | 4 => 4 | n => n, fun | n => n⟩
theorem Tryd.lays283 : Go.Proofs.Lays.n283 Tryd.prog Tryd.lays283_ren := {
 mixed := by kernel_rfl
 f283 := Tryd.func133.trans (congrArg some (by kernel_rfl))
 t3 := Tryd.underlying3
 a3 := Tryd.isAgg3
 z3 := Tryd.sizeOf3
 v3 := Tryd.zeroValue3
 t4 := Tryd.underlying4
 a4 := Tryd.isAgg4
 z4 := Tryd.sizeOf4
 v4 := Tryd.zeroValue4
 t9 := Tryd.underlying9
 a9 := Tryd.isAgg9
 z9 := Tryd.sizeOf9
 v9 := Tryd.zeroValue9 }
open Go.Lib in
theorem Tryd.internal_strconv_small (i : Nat) (h : i < 100) (w : World) :
 Calls Tryd.prog 133 #[.int .i64 i] w fun e w' => e = .returned (.string ⟨(Lib.decDigits i).toArray⟩) ∧ w' = w := Any.internal_strconv_small Tryd.lays283 i h w
def Tryd.laysM284_ren : Go.Shelf.Ren := ⟨fun | 284 => 134 | 129 => 142 | 317 => 141 | 318 => 143 | n => n, fun | 53 => 90 | 3 => 3 | 212 => 162 | 0 => 0 | 4 => 4 | 46 => 137 | 5 => 5 | 9 => 9 | n => n, fun | 17 => 0 | n => n⟩
theorem Tryd.laysM284 : Go.Proofs.LaysM.n284 Tryd.prog Tryd.laysM284_ren := {
 mixed := by kernel_rfl
 f129 := Tryd.func142.trans (congrArg some (by kernel_rfl))
 f284 := Tryd.func134.trans (congrArg some (by kernel_rfl))
 f317 := Tryd.func141.trans (congrArg some (by kernel_rfl))
 f318 := Tryd.func143.trans (congrArg some (by kernel_rfl))
 t0 := Tryd.underlying0
 a0 := Tryd.isAgg0
 z0 := Tryd.sizeOf0
 v0 := Tryd.zeroValue0
 t3 := Tryd.underlying3
 a3 := Tryd.isAgg3
 z3 := Tryd.sizeOf3
 v3 := Tryd.zeroValue3
 t4 := Tryd.underlying4
 a4 := Tryd.isAgg4
 z4 := Tryd.sizeOf4
 v4 := Tryd.zeroValue4
 t5 := Tryd.underlying5
 a5 := Tryd.isAgg5
 z5 := Tryd.sizeOf5
 v5 := Tryd.zeroValue5
 t9 := Tryd.underlying9
 a9 := Tryd.isAgg9
 z9 := Tryd.sizeOf9
 v9 := Tryd.zeroValue9
 t46 := Tryd.underlying137
 a46 := Tryd.isAgg137
 z46 := Tryd.sizeOf137
 v46 := Tryd.zeroValue137
 t53 := Tryd.underlying90
 a53 := Tryd.isAgg90
 z53 := Tryd.sizeOf90
 v53 := Tryd.zeroValue90
 t212 := Tryd.underlying162
 a212 := Tryd.isAgg162
 z212 := Tryd.sizeOf162
 v212 := Tryd.zeroValue162
 g17 := by kernel_rfl
 i0 := by kernel_rfl
 i3 := by kernel_rfl
 i4 := by kernel_rfl
 i5 := by kernel_rfl
 i9 := by kernel_rfl
 i46 := by kernel_rfl
 i53 := by kernel_rfl
 i212 := by kernel_rfl
 m17 := by kernel_rfl }
open Go.Lib in
theorem Tryd.internal_strconv_numDigits (u : Nat) (h1 : 1 ≤ u) (h2 : u < 18446744073709551616) (w : World) (htab : Lib.TabIs Tryd.prog w "internal/strconv.uint64pow10" .u64 Lib.pow10Tab) :
 Calls Tryd.prog 134 #[.int .u64 u] w fun e w' => e = .returned (.int .i64 (Lib.nDigits u)) ∧ w' = w := Any.internal_strconv_numDigits Tryd.laysM284 u h1 h2 w htab
def Tryd.lays285_ren : Go.Shelf.Ren := ⟨fun | 285 => 135 | n => n, fun | 37 => 45 | 53 => 90 | 3 => 3 | 4 => 4 | 51 => 163 | 9 => 9 | 5 => 5 | 0 => 0 | n => n, fun | n => n⟩
theorem Tryd.lays285 : Go.Proofs.Lays.n285 Tryd.prog Tryd.lays285_ren := {
 mixed := by kernel_rfl
 f285 := Tryd.func135.trans (congrArg some (by kernel_rfl))
 t0 := Tryd.underlying0
 a0 := Tryd.isAgg0
 z0 := Tryd.sizeOf0
 v0 := Tryd.zeroValue0
 t3 := Tryd.underlying3
 a3 := Tryd.isAgg3
 z3 := Tryd.sizeOf3
 v3 := Tryd.zeroValue3
 t4 := Tryd.underlying4
 a4 := Tryd.isAgg4
 z4 := Tryd.sizeOf4
 v4 := Tryd.zeroValue4
 t5 := Tryd.underlying5
 a5 := Tryd.isAgg5
 z5 := Tryd.sizeOf5
 v5 := Tryd.zeroValue5
 t9 := Tryd.underlying9
 a9 := Tryd.isAgg9
 z9 := Tryd.sizeOf9
 v9 := Tryd.zeroValue9
 t37 := Tryd.underlying45
 a37 := Tryd.isAgg45
 z37 := Tryd.sizeOf45
 v37 := Tryd.zeroValue45
 t51 := Tryd.underlying163
 a51 := Tryd.isAgg163
 z51 := Tryd.sizeOf163
 v51 := Tryd.zeroValue163
 t53 := Tryd.underlying90
 a53 := Tryd.isAgg90
 z53 := Tryd.sizeOf90
 v53 := Tryd.zeroValue90 }
open Go.RowKit Go.Sort Go.Lib in
theorem Tryd.internal_strconv_formatBase10 (blk off cap : Nat) (u : Nat) (d : Array UInt8) (w : World) (hH : Holds (fun (b : UInt8) => Value.int .u8 (b.toNat : Int)) w blk off d) (hu : u < 10 ^ d.size) (hu64 : u < 18446744073709551616) (hsz : d.size < 4611686018427387904) :
 Calls Tryd.prog 135 #[.slice (some ⟨blk, off, none⟩) d.size cap, .int .u64 u] w fun e w' =>
  e = .returned (.tuple #[]) ∧ ∃ (n v' : Nat) (dk : Array UInt8), w' = (putRow (fun (b : UInt8) => Value.int .u8 (b.toNat : Int)) w blk off dk).drewN n ∧ FmtInv d.size u 0 v' dk := Any.internal_strconv_formatBase10 Tryd.lays285 blk off cap u d w hH hu hu64 hsz
def Tryd.laysM246_ren : Go.Shelf.Ren := ⟨fun | 246 => 120 | 283 => 133 | 284 => 134 | 285 => 135 | 286 => 136 | 129 => 142 | 317 => 141 | 318 => 143 | 319 => 144 | 320 => 145 | 337 => 152 | 338 => 153 | n => n, fun | 2 => 2 | 3 => 3 | 9 => 9 | 4 => 4 | 171 => 154 | 0 => 0 | 53 => 90 | 37 => 45 | 5 => 5 | 173 => 157 | 212 => 162 | 51 => 163 | 20 => 20 | 213 => 164 | 46 => 137 | 232 => 180 | 233 => 181 | n => n, fun | 17 => 0 | 18 => 3 | 19 => 4 | n => n⟩
def Tryd.laysM243_ren : Go.Shelf.Ren := ⟨fun | 243 => 90 | 246 => 120 | 283 => 133 | 284 => 134 | 285 => 135 | 286 => 136 | 129 => 142 | 317 => 141 | 318 => 143 | 319 => 144 | 320 => 145 | 337 => 152 | 338 => 153 | n => n, fun | 3 => 3 | 9 => 9 | 2 => 2 | 4 => 4 | 171 => 154 | 0 => 0 | 53 => 90 | 37 => 45 | 5 => 5 | 173 => 157 | 212 => 162 | 51 => 163 | 20 => 20 | 213 => 164 | 46 => 137 | 232 => 180 | 233 => 181 | n => n, fun | 17 => 0 | 18 => 3 | 19 => 4 | n => n⟩
def Tryd.laysM171_ren : Go.Shelf.Ren := ⟨fun | 171 => 74 | 243 => 90 | 246 => 120 | 283 => 133 | 284 => 134 | 285 => 135 | 286 => 136 | 129 => 142 | 317 => 141 | 318 => 143 | 319 => 144 | 320 => 145 | 337 => 152 | 338 => 153 | n => n, fun | 3 => 3 | 9 => 9 | 2 => 2 | 4 => 4 | 171 => 154 | 0 => 0 | 53 => 90 | 37 => 45 | 5 => 5 | 173 => 157 | 212 => 162 | 51 => 163 | 20 => 20 | 213 => 164 | 46 => 137 | 232 => 180 | 233 => 181 | n => n, fun | 17 => 0 | 18 => 3 | 19 => 4 | n => n⟩
theorem Tryd.laysM171 : Go.Proofs.LaysM.n171 Tryd.prog Tryd.laysM171_ren := {
 mixed := by kernel_rfl
 f129 := Tryd.func142.trans (congrArg some (by kernel_rfl))
 f171 := Tryd.func74.trans (congrArg some (by kernel_rfl))
 f243 := Tryd.func90.trans (congrArg some (by kernel_rfl))
 f246 := Tryd.func120.trans (congrArg some (by kernel_rfl))
 f283 := Tryd.func133.trans (congrArg some (by kernel_rfl))
 f284 := Tryd.func134.trans (congrArg some (by kernel_rfl))
 f285 := Tryd.func135.trans (congrArg some (by kernel_rfl))
 f286 := Tryd.func136.trans (congrArg some (by kernel_rfl))
 f317 := Tryd.func141.trans (congrArg some (by kernel_rfl))
 f318 := Tryd.func143.trans (congrArg some (by kernel_rfl))
 f319 := Tryd.func144.trans (congrArg some (by kernel_rfl))
 f320 := Tryd.func145.trans (congrArg some (by kernel_rfl))
 f337 := Tryd.func152.trans (congrArg some (by kernel_rfl))
 f338 := Tryd.func153.trans (congrArg some (by kernel_rfl))
 t0 := Tryd.underlying0
 a0 := Tryd.isAgg0
 z0 := Tryd.sizeOf0
 v0 := Tryd.zeroValue0
 t2 := Tryd.underlying2
 a2 := Tryd.isAgg2
 z2 := Tryd.sizeOf2
 v2 := Tryd.zeroValue2
 t3 := Tryd.underlying3
 a3 := Tryd.isAgg3
 z3 := Tryd.sizeOf3
 v3 := Tryd.zeroValue3
 t4 := Tryd.underlying4
 a4 := Tryd.isAgg4
 z4 := Tryd.sizeOf4
 v4 := Tryd.zeroValue4
 t5 := Tryd.underlying5
 a5 := Tryd.isAgg5
 z5 := Tryd.sizeOf5
 v5 := Tryd.zeroValue5
 t9 := Tryd.underlying9
 a9 := Tryd.isAgg9
 z9 := Tryd.sizeOf9
 v9 := Tryd.zeroValue9
 t20 := Tryd.underlying20
 a20 := Tryd.isAgg20
 z20 := Tryd.sizeOf20
 v20 := Tryd.zeroValue20
 t37 := Tryd.underlying45
 a37 := Tryd.isAgg45
 z37 := Tryd.sizeOf45
 v37 := Tryd.zeroValue45
 t46 := Tryd.underlying137
 a46 := Tryd.isAgg137
 z46 := Tryd.sizeOf137
 v46 := Tryd.zeroValue137
 t51 := Tryd.underlying163
 a51 := Tryd.isAgg163
 z51 := Tryd.sizeOf163
 v51 := Tryd.zeroValue163
 t53 := Tryd.underlying90
 a53 := Tryd.isAgg90
 z53 := Tryd.sizeOf90
 v53 := Tryd.zeroValue90
 t171 := Tryd.underlying154
 a171 := Tryd.isAgg154
 z171 := Tryd.sizeOf154
 v171 := Tryd.zeroValue154
 t173 := Tryd.underlying157
 a173 := Tryd.isAgg157
 z173 := Tryd.sizeOf157
 v173 := Tryd.zeroValue157
 t212 := Tryd.underlying162
 a212 := Tryd.isAgg162
 z212 := Tryd.sizeOf162
 v212 := Tryd.zeroValue162
 t213 := Tryd.underlying164
 a213 := Tryd.isAgg164
 z213 := Tryd.sizeOf164
 t232 := Tryd.underlying180
 a232 := Tryd.isAgg180
 z232 := Tryd.sizeOf180
 v232 := Tryd.zeroValue180
 t233 := Tryd.underlying181
 a233 := Tryd.isAgg181
 z233 := Tryd.sizeOf181
 v233 := Tryd.zeroValue181
 g17 := by kernel_rfl
 g18 := by kernel_rfl
 g19 := by kernel_rfl
 i0 := by kernel_rfl
 i2 := by kernel_rfl
 i3 := by kernel_rfl
 i4 := by kernel_rfl
 i5 := by kernel_rfl
 i9 := by kernel_rfl
 i20 := by kernel_rfl
 i37 := by kernel_rfl
 i46 := by kernel_rfl
 i51 := by kernel_rfl
 i53 := by kernel_rfl
 i171 := by kernel_rfl
 i173 := by kernel_rfl
 i212 := by kernel_rfl
 i232 := by kernel_rfl
 i233 := by kernel_rfl
 m17 := by kernel_rfl
 m18 := by kernel_rfl
 m19 := by kernel_rfl }
open Go.RowKit Go.Sort Go.Lib in
theorem Tryd.strconv_Itoa (n : Int) (h0 : -9223372036854775808 ≤ n) (h1 : n ≤ 9223372036854775807) (w : World) (htab : Lib.TabIs Tryd.prog w "internal/strconv.uint64pow10" .u64 Lib.pow10Tab) :
 Calls Tryd.prog 74 #[.int .i64 n] w fun e w' => e = .returned (.string ⟨(Lib.itoa n).toArray⟩) ∧ ∃ k os, w' = grow (w.drewN k) os := Any.strconv_Itoa Tryd.laysM171 n h0 h1 w htab
def Tryd.laysC172_ren : Go.Shelf.Ren := ⟨fun | 172 => 129 | 244 => 137 | 245 => 138 | 247 => 146 | 279 => 147 | 280 => 148 | 281 => 149 | 282 => 150 | 287 => 154 | 316 => 155 | 171 => 74 | 205 => 156 | 321 => 157 | 322 => 158 | 243 => 90 | 246 => 120 | 283 => 133 | 284 => 134 | 285 => 135 | 286 => 136 | 129 => 142 | 317 => 141 | 318 => 143 | 319 => 144 | 320 => 145 | 337 => 152 | 338 => 153 | n => n, fun | 9 => 9 | 3 => 3 | 75 => 150 | 76 => 151 | 4 => 4 | 5 => 5 | 167 => 166 | 37 => 45 | 0 => 0 | 85 => 167 | 2 => 2 | 168 => 169 | 53 => 90 | 175 => 174 | 46 => 137 | 210 => 178 | 127 => 184 | 145 => 187 | 143 => 185 | 21 => 21 | 171 => 154 | 173 => 157 | 212 => 162 | 51 => 163 | 20 => 20 | 213 => 164 | 232 => 180 | 233 => 181 | 80 => 190 | n => n, fun | 15 => 1 | 16 => 2 | 17 => 0 | 18 => 3 | 19 => 4 | n => n⟩
theorem Tryd.laysC172 : Go.Proofs.LaysC.n172 Tryd.prog Tryd.laysC172_ren := {
 mixed := by kernel_rfl
 f129 := Tryd.func142.trans (congrArg some (by kernel_rfl))
 f171 := Tryd.func74.trans (congrArg some (by kernel_rfl))
 f172 := Tryd.func129.trans (congrArg some (by kernel_rfl))
 f205 := Tryd.func156.trans (congrArg some (by kernel_rfl))
 f243 := Tryd.func90.trans (congrArg some (by kernel_rfl))
 f244 := Tryd.func137.trans (congrArg some (by kernel_rfl))
 f245 := Tryd.func138.trans (congrArg some (by kernel_rfl))
 f246 := Tryd.func120.trans (congrArg some (by kernel_rfl))
 f247 := Tryd.func146.trans (congrArg some (by kernel_rfl))
 f279 := Tryd.func147.trans (congrArg some (by kernel_rfl))
 f280 := Tryd.func148.trans (congrArg some (by kernel_rfl))
 f281 := Tryd.func149.trans (congrArg some (by kernel_rfl))
 f282 := Tryd.func150.trans (congrArg some (by kernel_rfl))
 f283 := Tryd.func133.trans (congrArg some (by kernel_rfl))
 f284 := Tryd.func134.trans (congrArg some (by kernel_rfl))
 f285 := Tryd.func135.trans (congrArg some (by kernel_rfl))
 f286 := Tryd.func136.trans (congrArg some (by kernel_rfl))
 f287 := Tryd.func154.trans (congrArg some (by kernel_rfl))
 f316 := Tryd.func155.trans (congrArg some (by kernel_rfl))
 f317 := Tryd.func141.trans (congrArg some (by kernel_rfl))
 f318 := Tryd.func143.trans (congrArg some (by kernel_rfl))
 f319 := Tryd.func144.trans (congrArg some (by kernel_rfl))
 f320 := Tryd.func145.trans (congrArg some (by kernel_rfl))
 f321 := Tryd.func157.trans (congrArg some (by kernel_rfl))
 f322 := Tryd.func158.trans (congrArg some (by kernel_rfl))
 f337 := Tryd.func152.trans (congrArg some (by kernel_rfl))
 f338 := Tryd.func153.trans (congrArg some (by kernel_rfl))
 t0 := Tryd.underlying0
 a0 := Tryd.isAgg0
 z0 := Tryd.sizeOf0
 v0 := Tryd.zeroValue0
 t2 := Tryd.underlying2
 a2 := Tryd.isAgg2
 z2 := Tryd.sizeOf2
 v2 := Tryd.zeroValue2
 t3 := Tryd.underlying3
 a3 := Tryd.isAgg3
 z3 := Tryd.sizeOf3
 v3 := Tryd.zeroValue3
 t4 := Tryd.underlying4
 a4 := Tryd.isAgg4
 z4 := Tryd.sizeOf4
 v4 := Tryd.zeroValue4
 t5 := Tryd.underlying5
 a5 := Tryd.isAgg5
 z5 := Tryd.sizeOf5
 v5 := Tryd.zeroValue5
 t9 := Tryd.underlying9
 a9 := Tryd.isAgg9
 z9 := Tryd.sizeOf9
 v9 := Tryd.zeroValue9
 t20 := Tryd.underlying20
 a20 := Tryd.isAgg20
 z20 := Tryd.sizeOf20
 v20 := Tryd.zeroValue20
 t21 := Tryd.underlying21
 a21 := Tryd.isAgg21
 z21 := Tryd.sizeOf21
 v21 := Tryd.zeroValue21
 t37 := Tryd.underlying45
 a37 := Tryd.isAgg45
 z37 := Tryd.sizeOf45
 v37 := Tryd.zeroValue45
 t46 := Tryd.underlying137
 a46 := Tryd.isAgg137
 z46 := Tryd.sizeOf137
 v46 := Tryd.zeroValue137
 t51 := Tryd.underlying163
 a51 := Tryd.isAgg163
 z51 := Tryd.sizeOf163
 v51 := Tryd.zeroValue163
 t53 := Tryd.underlying90
 a53 := Tryd.isAgg90
 z53 := Tryd.sizeOf90
 v53 := Tryd.zeroValue90
 t75 := Tryd.underlying150
 a75 := Tryd.isAgg150
 z75 := Tryd.sizeOf150
 v75 := Tryd.zeroValue150
 t76 := Tryd.underlying151
 a76 := Tryd.isAgg151
 z76 := Tryd.sizeOf151
 v76 := Tryd.zeroValue151
 t85 := Tryd.underlying167
 a85 := Tryd.isAgg167
 z85 := Tryd.sizeOf167
 v85 := Tryd.zeroValue167
 t127 := Tryd.underlying184
 a127 := Tryd.isAgg184
 z127 := Tryd.sizeOf184
 v127 := Tryd.zeroValue184
 t143 := Tryd.underlying185
 a143 := Tryd.isAgg185
 z143 := Tryd.sizeOf185
 v143 := Tryd.zeroValue185
 t145 := Tryd.underlying187
 a145 := Tryd.isAgg187
 z145 := Tryd.sizeOf187
 v145 := Tryd.zeroValue187
 t167 := Tryd.underlying166
 a167 := Tryd.isAgg166
 z167 := Tryd.sizeOf166
 v167 := Tryd.zeroValue166
 t168 := Tryd.underlying169
 a168 := Tryd.isAgg169
 z168 := Tryd.sizeOf169
 v168 := Tryd.zeroValue169
 t171 := Tryd.underlying154
 a171 := Tryd.isAgg154
 z171 := Tryd.sizeOf154
 v171 := Tryd.zeroValue154
 t173 := Tryd.underlying157
 a173 := Tryd.isAgg157
 z173 := Tryd.sizeOf157
 v173 := Tryd.zeroValue157
 t175 := Tryd.underlying174
 a175 := Tryd.isAgg174
 z175 := Tryd.sizeOf174
 v175 := Tryd.zeroValue174
 t210 := Tryd.underlying178
 a210 := Tryd.isAgg178
 z210 := Tryd.sizeOf178
 v210 := Tryd.zeroValue178
 t212 := Tryd.underlying162
 a212 := Tryd.isAgg162
 z212 := Tryd.sizeOf162
 v212 := Tryd.zeroValue162
 t213 := Tryd.underlying164
 a213 := Tryd.isAgg164
 z213 := Tryd.sizeOf164
 t232 := Tryd.underlying180
 a232 := Tryd.isAgg180
 z232 := Tryd.sizeOf180
 v232 := Tryd.zeroValue180
 t233 := Tryd.underlying181
 a233 := Tryd.isAgg181
 z233 := Tryd.sizeOf181
 v233 := Tryd.zeroValue181
 g15 := by kernel_rfl
 g16 := by kernel_rfl
 g17 := by kernel_rfl
 g18 := by kernel_rfl
 g19 := by kernel_rfl
 t80 := Tryd.underlying190
 a80 := Tryd.isAgg190
 z80 := Tryd.sizeOf190
 v80 := Tryd.zeroValue190
 i0 := by kernel_rfl
 i2 := by kernel_rfl
 i3 := by kernel_rfl
 i4 := by kernel_rfl
 i5 := by kernel_rfl
 i9 := by kernel_rfl
 i20 := by kernel_rfl
 i21 := by kernel_rfl
 i37 := by kernel_rfl
 i46 := by kernel_rfl
 i51 := by kernel_rfl
 i53 := by kernel_rfl
 i75 := by kernel_rfl
 i76 := by kernel_rfl
 i80 := by kernel_rfl
 i85 := by kernel_rfl
 i127 := by kernel_rfl
 i143 := by kernel_rfl
 i145 := by kernel_rfl
 i167 := by kernel_rfl
 i168 := by kernel_rfl
 i171 := by kernel_rfl
 i173 := by kernel_rfl
 i175 := by kernel_rfl
 i210 := by kernel_rfl
 i212 := by kernel_rfl
 i232 := by kernel_rfl
 i233 := by kernel_rfl
 m15 := by kernel_rfl
 m16 := by kernel_rfl
 m17 := by kernel_rfl
 m18 := by kernel_rfl
 m19 := by kernel_rfl
 c0 := by kernel_rfl
 c2 := by kernel_rfl
 c3 := by kernel_rfl
 c4 := by kernel_rfl
 c5 := by kernel_rfl
 c9 := by kernel_rfl
 c20 := by kernel_rfl
 c21 := by kernel_rfl
 c37 := by kernel_rfl
 c46 := by kernel_rfl
 c51 := by kernel_rfl
 c53 := by kernel_rfl
 c75 := by kernel_rfl
 c76 := by kernel_rfl
 c80 := by kernel_rfl
 c85 := by kernel_rfl
 c127 := by kernel_rfl
 c143 := by kernel_rfl
 c145 := by kernel_rfl
 c167 := by kernel_rfl
 c168 := by kernel_rfl
 c171 := by kernel_rfl
 c173 := by kernel_rfl
 c175 := by kernel_rfl
 c210 := by kernel_rfl
 c212 := by kernel_rfl
 c213 := by kernel_rfl
 c232 := by kernel_rfl
 c233 := by kernel_rfl }
open Go.RowKit in
theorem Tryd.strconv_Atoi_err_var (s : ByteArray) (hl : s.size ≤ 18) (h : Lib.atoi s.data.toList = none) (tp : TypeId) (p : Value) (w : World) (hvar : w.var? Tryd.prog "strconv.ErrSyntax" = some #[.iface tp p]) :
 Calls Tryd.prog 129 #[.string s] w fun e w' => ∃ N, e = .returned (.tuple #[.int .i64 0, .iface 169 (.pointer (some ⟨N, 0, none⟩))]) ∧ w.heap.size ≤ N ∧ w'.heap[N]? = some (.cells #[.string ⟨#[65, 116, 111, 105]⟩, .string s, .iface tp p] 178 (0, 0)) ∧ Below w.heap.size w w' := Any.strconv_Atoi_err_var Tryd.laysC172 s hl h tp p w hvar
def Tryd.laysM288_ren : Go.Shelf.Ren := ⟨fun | 288 => 151 | 283 => 133 | 284 => 134 | 285 => 135 | 286 => 136 | 129 => 142 | 317 => 141 | 318 => 143 | 319 => 144 | 320 => 145 | 337 => 152 | 338 => 153 | n => n, fun | 37 => 45 | 53 => 90 | 3 => 3 | 4 => 4 | 9 => 9 | 171 => 154 | 0 => 0 | 173 => 157 | 212 => 162 | 51 => 163 | 5 => 5 | 20 => 20 | 213 => 164 | 46 => 137 | 232 => 180 | 233 => 181 | n => n, fun | 17 => 0 | 18 => 3 | 19 => 4 | n => n⟩
theorem Tryd.laysM288 : Go.Proofs.LaysM.n288 Tryd.prog Tryd.laysM288_ren := {
 mixed := by kernel_rfl
 f129 := Tryd.func142.trans (congrArg some (by kernel_rfl))
 f283 := Tryd.func133.trans (congrArg some (by kernel_rfl))
 f284 := Tryd.func134.trans (congrArg some (by kernel_rfl))
 f285 := Tryd.func135.trans (congrArg some (by kernel_rfl))
 f286 := Tryd.func136.trans (congrArg some (by kernel_rfl))
 f288 := Tryd.func151.trans (congrArg some (by kernel_rfl))
 f317 := Tryd.func141.trans (congrArg some (by kernel_rfl))
 f318 := Tryd.func143.trans (congrArg some (by kernel_rfl))
 f319 := Tryd.func144.trans (congrArg some (by kernel_rfl))
 f320 := Tryd.func145.trans (congrArg some (by kernel_rfl))
 f337 := Tryd.func152.trans (congrArg some (by kernel_rfl))
 f338 := Tryd.func153.trans (congrArg some (by kernel_rfl))
 t0 := Tryd.underlying0
 a0 := Tryd.isAgg0
 z0 := Tryd.sizeOf0
 v0 := Tryd.zeroValue0
 t3 := Tryd.underlying3
 a3 := Tryd.isAgg3
 z3 := Tryd.sizeOf3
 v3 := Tryd.zeroValue3
 t4 := Tryd.underlying4
 a4 := Tryd.isAgg4
 z4 := Tryd.sizeOf4
 v4 := Tryd.zeroValue4
 t5 := Tryd.underlying5
 a5 := Tryd.isAgg5
 z5 := Tryd.sizeOf5
 v5 := Tryd.zeroValue5
 t9 := Tryd.underlying9
 a9 := Tryd.isAgg9
 z9 := Tryd.sizeOf9
 v9 := Tryd.zeroValue9
 t20 := Tryd.underlying20
 a20 := Tryd.isAgg20
 z20 := Tryd.sizeOf20
 v20 := Tryd.zeroValue20
 t37 := Tryd.underlying45
 a37 := Tryd.isAgg45
 z37 := Tryd.sizeOf45
 v37 := Tryd.zeroValue45
 t46 := Tryd.underlying137
 a46 := Tryd.isAgg137
 z46 := Tryd.sizeOf137
 v46 := Tryd.zeroValue137
 t51 := Tryd.underlying163
 a51 := Tryd.isAgg163
 z51 := Tryd.sizeOf163
 v51 := Tryd.zeroValue163
 t53 := Tryd.underlying90
 a53 := Tryd.isAgg90
 z53 := Tryd.sizeOf90
 v53 := Tryd.zeroValue90
 t171 := Tryd.underlying154
 a171 := Tryd.isAgg154
 z171 := Tryd.sizeOf154
 v171 := Tryd.zeroValue154
 t173 := Tryd.underlying157
 a173 := Tryd.isAgg157
 z173 := Tryd.sizeOf157
 v173 := Tryd.zeroValue157
 t212 := Tryd.underlying162
 a212 := Tryd.isAgg162
 z212 := Tryd.sizeOf162
 v212 := Tryd.zeroValue162
 t213 := Tryd.underlying164
 a213 := Tryd.isAgg164
 z213 := Tryd.sizeOf164
 t232 := Tryd.underlying180
 a232 := Tryd.isAgg180
 z232 := Tryd.sizeOf180
 v232 := Tryd.zeroValue180
 t233 := Tryd.underlying181
 a233 := Tryd.isAgg181
 z233 := Tryd.sizeOf181
 v233 := Tryd.zeroValue181
 g17 := by kernel_rfl
 g18 := by kernel_rfl
 g19 := by kernel_rfl
 i0 := by kernel_rfl
 i3 := by kernel_rfl
 i4 := by kernel_rfl
 i5 := by kernel_rfl
 i9 := by kernel_rfl
 i20 := by kernel_rfl
 i37 := by kernel_rfl
 i46 := by kernel_rfl
 i51 := by kernel_rfl
 i53 := by kernel_rfl
 i171 := by kernel_rfl
 i173 := by kernel_rfl
 i212 := by kernel_rfl
 i232 := by kernel_rfl
 i233 := by kernel_rfl
 m17 := by kernel_rfl
 m18 := by kernel_rfl
 m19 := by kernel_rfl }
def Tryd.laysNm225_ren : Go.Shelf.Ren := ⟨fun | 25 => 83 | 31 => 114 | 32 => 115 | 37 => 131 | n => n, fun | 22 => 23 | 3 => 3 | 4 => 4 | 40 => 137 | 0 => 0 | n => n, fun | n => n⟩
theorem Tryd.laysNm225 : Go.Proofs.Lays2.n25 Tryd.prog Tryd.laysNm225_ren := {
 mixed := by kernel_rfl
 f25 := Tryd.func83.trans (congrArg some (by kernel_rfl))
 f31 := Tryd.func114.trans (congrArg some (by kernel_rfl))
 f32 := Tryd.func115.trans (congrArg some (by kernel_rfl))
 f37 := Tryd.func131.trans (congrArg some (by kernel_rfl))
 t0 := Tryd.underlying0
 a0 := Tryd.isAgg0
 z0 := Tryd.sizeOf0
 v0 := Tryd.zeroValue0
 t3 := Tryd.underlying3
 a3 := Tryd.isAgg3
 z3 := Tryd.sizeOf3
 v3 := Tryd.zeroValue3
 t4 := Tryd.underlying4
 a4 := Tryd.isAgg4
 z4 := Tryd.sizeOf4
 v4 := Tryd.zeroValue4
 t22 := Tryd.underlying23
 a22 := Tryd.isAgg23
 z22 := Tryd.sizeOf23
 v22 := Tryd.zeroValue23
 t40 := Tryd.underlying137
 a40 := Tryd.isAgg137
 z40 := Tryd.sizeOf137
 v40 := Tryd.zeroValue137 }
open Go.RowKit Go.Lib in
theorem Tryd.slices_BinarySearch_int (b off n c : Nat) (zs : List Int) (x : Int) (w : World) (hz : n ≤ zs.length) (hbig : n < 4611686018427387904) (hc : ∀ j, j < zs.length → w.cell? ⟨b, off + j, none⟩ = some (.int .i64 (zs.getD j 0))) (hs : (zs.take n).Pairwise (· ≤ ·)) :
 Calls Tryd.prog 83 #[.slice (some ⟨b, off, none⟩) n c, .int .i64 x] w fun e w' => e = .returned (.tuple #[.int .i64 ((zs.take n).countP (· < x) : Nat), .bool ((zs.take n).contains x)]) ∧ ∃ q, w' = w.drewN q := Any.slices_BinarySearch_int Tryd.laysNm225 b off n c zs x w hz hbig hc hs
def Tryd.laysNm223_ren : Go.Shelf.Ren := ⟨fun | 23 => 109 | n => n, fun | 22 => 23 | 3 => 3 | 4 => 4 | 0 => 0 | n => n, fun | n => n⟩
theorem Tryd.laysNm223 : Go.Proofs.Lays2.n23 Tryd.prog Tryd.laysNm223_ren := {
 mixed := by kernel_rfl
 f23 := Tryd.func109.trans (congrArg some (by kernel_rfl))
 t0 := Tryd.underlying0
 a0 := Tryd.isAgg0
 z0 := Tryd.sizeOf0
 v0 := Tryd.zeroValue0
 t3 := Tryd.underlying3
 a3 := Tryd.isAgg3
 z3 := Tryd.sizeOf3
 v3 := Tryd.zeroValue3
 t4 := Tryd.underlying4
 a4 := Tryd.isAgg4
 z4 := Tryd.sizeOf4
 v4 := Tryd.zeroValue4
 t22 := Tryd.underlying23
 a22 := Tryd.isAgg23
 z22 := Tryd.sizeOf23
 v22 := Tryd.zeroValue23
 i3 := by kernel_rfl }
open Go.RowKit Go.Lib Go.Sort in
theorem Tryd.slices_Delete_int (blk off cap i j : Nat) (zs : List Int) (w : World) (hH : Holds (Value.int .i64) w blk off zs.toArray) (hcap : zs.length ≤ cap) (hm : cap ≤ 9223372036854775807) (hij : i ≤ j) (hj : j ≤ zs.length) :
 Calls Tryd.prog 109 #[.slice (some ⟨blk, off, none⟩) zs.length cap, .int .i64 i, .int .i64 j] w fun e w' => e = .returned (.slice (some ⟨blk, off, none⟩) (zs.length - (j - i)) cap) ∧ ∃ q, w' = putRow (Value.int .i64) (Sort.ahead w q) blk off (zs.take i ++ zs.drop j ++ List.replicate (j - i) 0).toArray := Any.slices_Delete_int Tryd.laysNm223 blk off cap i j zs w hH hcap hm hij hj
open Go.RowKit Go.Lib in
theorem Tryd.slices_BinarySearch_int_empty (a : Option Addr) (c : Nat) (x : Int) (w : World) :
 Calls Tryd.prog 83 #[.slice a 0 c, .int .i64 x] w fun e w' => e = .returned (.tuple #[.int .i64 0, .bool false]) ∧ w' = w := Any.slices_BinarySearch_int_empty Tryd.laysNm225 a c x w
open Go.RowKit Go.Lib in
theorem Tryd.slices_Delete_int_empty (a : Option Addr) (c : Nat) (w : World) :
 Calls Tryd.prog 109 #[.slice a 0 c, .int .i64 0, .int .i64 0] w fun e w' => e = .returned (.slice a 0 c) ∧ w' = w := Any.slices_Delete_int_empty Tryd.laysNm223 a c w
def Tryd.laysSlE041_f82_ren : Go.Shelf.Ren := ⟨fun | 41 => 82 | n => n, fun | 22 => 23 | 23 => 3 | 4 => 4 | n => n, fun | n => n⟩
theorem Tryd.laysSlE041_f82 : Go.Proofs.SlLaysE0.n41 Tryd.prog Tryd.laysSlE041_f82_ren := {
 mixed := by kernel_rfl
 f41 := ⟨Tryd.f82.name, by decide, Tryd.func82.trans (congrArg some (by kernel_rfl))⟩
 t4 := Tryd.underlying4
 a4 := Tryd.isAgg4
 z4 := Tryd.sizeOf4
 v4 := Tryd.zeroValue4
 t22 := Tryd.underlying23
 a22 := Tryd.isAgg23
 z22 := Tryd.sizeOf23
 v22 := Tryd.zeroValue23 }
def Tryd.laysNm221_ren : Go.Shelf.Ren := ⟨fun | 21 => 84 | 27 => 116 | 28 => 117 | 35 => 132 | 39 => 140 | n => n, fun | 22 => 23 | 3 => 3 | 4 => 4 | 0 => 0 | n => n, fun | n => n⟩
theorem Tryd.laysNm221 : Go.Proofs.Lays2.n21 Tryd.prog Tryd.laysNm221_ren := {
 mixed := by kernel_rfl
 f21 := Tryd.func84.trans (congrArg some (by kernel_rfl))
 f27 := Tryd.func116.trans (congrArg some (by kernel_rfl))
 f28 := Tryd.func117.trans (congrArg some (by kernel_rfl))
 f35 := Tryd.func132.trans (congrArg some (by kernel_rfl))
 f39 := Tryd.func140.trans (congrArg some (by kernel_rfl))
 t0 := Tryd.underlying0
 a0 := Tryd.isAgg0
 z0 := Tryd.sizeOf0
 v0 := Tryd.zeroValue0
 t3 := Tryd.underlying3
 a3 := Tryd.isAgg3
 z3 := Tryd.sizeOf3
 v3 := Tryd.zeroValue3
 t4 := Tryd.underlying4
 a4 := Tryd.isAgg4
 z4 := Tryd.sizeOf4
 v4 := Tryd.zeroValue4
 t22 := Tryd.underlying23
 a22 := Tryd.isAgg23
 z22 := Tryd.sizeOf23
 v22 := Tryd.zeroValue23
 i3 := by kernel_rfl }
def Tryd.laysSlE041_f81_ren : Go.Shelf.Ren := ⟨fun | 41 => 81 | n => n, fun | 22 => 29 | 23 => 97 | 4 => 4 | n => n, fun | n => n⟩
theorem Tryd.laysSlE041_f81 : Go.Proofs.SlLaysE0.n41 Tryd.prog Tryd.laysSlE041_f81_ren := {
 mixed := by kernel_rfl
 f41 := ⟨Tryd.f81.name, by decide, Tryd.func81.trans (congrArg some (by kernel_rfl))⟩
 t4 := Tryd.underlying4
 a4 := Tryd.isAgg4
 z4 := Tryd.sizeOf4
 v4 := Tryd.zeroValue4
 t22 := Tryd.underlying29
 a22 := Tryd.isAgg29
 z22 := Tryd.sizeOf29
 v22 := Tryd.zeroValue29 }
end Go.Proofs
namespace Go.Proofs.YtcmcfebihbmmeaaDoor
open Go Go.RowKit Go.Proofs
open Go.Den (Kept0 ExtOK zeB zf6 zak scal retV)
set_option linter.unusedVariables false
theorem hf72 : Tryd.prog.funcs[72]? = some Tryd.f72 := by kernel_rfl
theorem hn72 : Tryd.f72.ntmps = 28 := by kernel_rfl
theorem u45 : Tryd.prog.underlying 45 = some (.slice 5) := by kernel_rfl
theorem u5 : Tryd.prog.underlying 5 = some (.int .u8) := by kernel_rfl
theorem u9 : Tryd.prog.underlying 9 = some .string := by kernel_rfl
theorem zqx (w : World) (b : Int) (h0 : 0 ≤ b) (h1 : b < 256) : (convert 45 9 (.slice (some ⟨w.heap.size, 0, none⟩) 1 1)).run Tryd.prog (w.alloc (.cells #[.int .u8 b] 5)) = .ok (.string ⟨#[UInt8.ofNat b.toNat]⟩) (w.alloc (.cells #[.int .u8 b] 5)) := by
 have := run_convert_bytes_back (P := Tryd.prog) (w.alloc (.cells #[.int .u8 b] 5)) 45 9 5 ⟨w.heap.size, 0, none⟩ 1 [UInt8.ofNat b.toNat] u45 u5 u9 (fun j hj => by
  have : j = 0 := by simpa using hj
  subst this
  have hb : ((UInt8.ofNat b.toNat).toNat : Int) = b := by
   rw [UInt8.toNat_ofNat']
   omega
  show (w.alloc (.cells #[.int .u8 b] 5)).cell? ⟨w.heap.size, 0, none⟩ = some (.int .u8 ((UInt8.ofNat b.toNat).toNat : Int))
  rw [World.cell?_alloc_mark, hb]
  rfl)
 exact this
set_option maxRecDepth 100000 in
set_option maxHeartbeats 2000000 in
theorem zky (n : Int) (h0 : 0 ≤ n) (h9 : n < 10) (w : World) :
 Calls Tryd.prog 72 #[.int .i64 n] w fun e w' => e = .returned (.string ⟨#[UInt8.ofNat (48 + n).toNat]⟩) ∧ Kept0 w w' := by
 have kc := fun w : World => zqx w (48 + n) (by omega) (by omega)
 go_enter hf72, hn72
 unfold Tryd.f72
 go_wp2
 refine bodyPost_ret (v := .string ⟨#[UInt8.ofNat (48 + n).toNat]⟩) (by simp [results, go_sem]) rfl ?_
 exact ⟨rfl, Kept0.alloc w _⟩
theorem zqh (W : World) (g : Nat) (b : Int) (h0 : 0 ≤ b) (h1 : b < 256) (hc : W.cell? ⟨g, 0, none⟩ = some (.int .u8 b)) : (convert 45 9 (.slice (some ⟨g, 0, none⟩) 1 1)).run Tryd.prog W = .ok (.string ⟨#[UInt8.ofNat b.toNat]⟩) W := by
 have := run_convert_bytes_back (P := Tryd.prog) W 45 9 5 ⟨g, 0, none⟩ 1 [UInt8.ofNat b.toNat] u45 u5 u9 (fun j hj => by
  have : j = 0 := by simpa using hj
  subst this
  have hb : ((UInt8.ofNat b.toNat).toNat : Int) = b := by
   rw [UInt8.toNat_ofNat']
   omega
  show W.cell? ⟨g, 0, none⟩ = some (.int .u8 ((UInt8.ofNat b.toNat).toNat : Int))
  rw [hc, hb])
 exact this
theorem zm7 {W w' : World} {g : Nat} {v : Value} (hc : W.cell? ⟨g, 0, none⟩ = some v) (hg : g < W.heap.size) (hk : Kept0 W w') : w'.cell? ⟨g, 0, none⟩ = some v := by
 have h1 := hk.keep g hg
 unfold World.cell? at hc ⊢
 rw [h1]
 exact hc
set_option maxRecDepth 100000 in
set_option maxHeartbeats 2000000 in
theorem zps (n : Int) (h0 : 10 ≤ n) (h9 : n ≤ 9223372036854775807) (q : ByteArray) (hq : ∀ w, Calls Tryd.prog 72 #[.int .i64 (IntKind.i64.wrap (n.tdiv 10))] w fun e w' => e = .returned (.string q) ∧ Kept0 w w') (hsz : q.size ≤ 30) (w : World) :
 Calls Tryd.prog 72 #[.int .i64 n] w fun e w' => e = .returned (.string (q ++ ⟨#[UInt8.ofNat (IntKind.u8.wrap (IntKind.i64.wrap (48 + n.tmod 10))).toNat]⟩)) ∧ Kept0 w w' := by
 have hm0 := Int.tmod_nonneg 10 (show 0 ≤ n by omega)
 have hm1 := Int.tmod_lt_of_pos n (show 0 < 10 by omega)
 have hb : IntKind.u8.wrap (IntKind.i64.wrap (48 + n.tmod 10)) = 48 + n.tmod 10 := by simp [IntKind.wrap, IntKind.bits, IntKind.signed]; omega
 have hb0 : 0 ≤ IntKind.u8.wrap (IntKind.i64.wrap (48 + n.tmod 10)) := by rw [hb]; omega
 have hb1 : IntKind.u8.wrap (IntKind.i64.wrap (48 + n.tmod 10)) < 256 := by rw [hb]; omega
 have kc := fun w : World => zqx w (IntKind.u8.wrap (IntKind.i64.wrap (48 + n.tmod 10))) hb0 hb1
 have kc2 : ∀ w : World, (convert 45 9 (.slice (some ⟨w.heap.size, 0, none⟩) 1 1)).run Tryd.prog (w.alloc (.cells #[.int .u8 (IntKind.u8.wrap (IntKind.i64.wrap (48 + n.tmod 10)))] 5)).drew = .ok (.string ⟨#[UInt8.ofNat (IntKind.u8.wrap (IntKind.i64.wrap (48 + n.tmod 10))).toNat]⟩) (w.alloc (.cells #[.int .u8 (IntKind.u8.wrap (IntKind.i64.wrap (48 + n.tmod 10)))] 5)).drew := fun w => zqh _ _ _ hb0 hb1 (by show (World.alloc _ _).cell? _ = _; rw [World.cell?_alloc_mark]; rfl)
 have hs2 : ¬ (9223372036854775807 < (q.size : Int) + 1) := by omega
 have hs3 : ¬ (9223372036854775807 < q.size + 1) := by omega
 clear hb
 go_enter hf72, hn72
 unfold Tryd.f72
 go_wp2
 go_region_with (go_at_call 72; refine (hq _).mono ?_; rintro e w' ⟨rfl, hk⟩; try (have kd : (convert 45 9 (.slice (some ⟨w.heap.size, 0, none⟩) 1 1)).run Tryd.prog w' = .ok (.string ⟨#[UInt8.ofNat (IntKind.u8.wrap (IntKind.i64.wrap (48 + n.tmod 10))).toNat]⟩) w' := zqh _ _ _ hb0 hb1 (zm7 (by first | (rw [World.cell?_alloc_mark]; rfl) | (show (World.alloc _ _).cell? _ = _; rw [World.cell?_alloc_mark]; rfl) | (go_simp; done) | (simp; done)) (by first | (simp; done) | (show _ < (World.alloc _ _).heap.size; simp; done)) hk)))
 all_goals (try go_wp2)
 all_goals (refine bodyPost_ret (v := .string (q ++ ⟨#[UInt8.ofNat (IntKind.u8.wrap (IntKind.i64.wrap (48 + n.tmod 10))).toNat]⟩)) (by first | (simp [results, go_sem]; done) | rfl) rfl ?_)
 all_goals refine ⟨rfl, ?_⟩
 all_goals first
  | exact (Kept0.drew w).trans (hk.trans (Kept0.alloc _ _))
  | exact (Kept0.alloc w _).trans ((Kept0.drew _).trans hk)
  | exact (Kept0.alloc w _).trans hk
  | exact ((Kept0.drew w).trans (Kept0.alloc _ _)).trans hk
  | exact ((Kept0.drew w).trans (Kept0.alloc _ _)).trans ((Kept0.drew _).trans hk)
  | trace_state
theorem dec_len : ∀ (k u : Nat), u < 10 ^ (k + 1) → (Lib.decDigits u).length ≤ k + 1
 | 0, u, h => by
   rw [Lib.decDigits, dif_pos (by simpa using h)]
   simp
 | k + 1, u, h => by
   rw [Lib.decDigits]
   split
   · simp
   · have h2 : u / 10 < 10 ^ (k + 1) := by
      rw [Nat.div_lt_iff_lt_mul (by omega)]
      rw [Nat.pow_succ] at h
      exact h
     have := dec_len k (u / 10) h2
     simp
     omega
theorem zoA : ∀ (m : Nat) (n : Int), 0 ≤ n → n.toNat ≤ m → n ≤ 9223372036854775807 → ∀ w : World, Calls Tryd.prog 72 #[.int .i64 n] w fun e w' => e = .returned (.string ⟨(Lib.decDigits n.toNat).toArray⟩) ∧ Kept0 w w' := by
 intro m
 induction m with
 | zero =>
   intro n h0 hm h1 w
   have : n = 0 := by omega
   subst this
   have := zky 0 (by omega) (by omega) w
   rw [show (Lib.decDigits (0 : Int).toNat).toArray = #[UInt8.ofNat (48 + 0 : Int).toNat] by rw [Lib.decDigits, dif_pos (by decide)]; rfl]
   exact this
 | succ m ih =>
   intro n h0 hm h1 w
   by_cases h9 : n < 10
   · have := zky n h0 h9 w
     rw [Lib.decDigits, dif_pos (by omega), show 48 + n.toNat = (48 + n).toNat by omega]
     exact this
   · have hq : IntKind.i64.wrap (n.tdiv 10) = n / 10 := by
      rw [Int.tdiv_eq_ediv_of_nonneg (by omega)]
      simp [IntKind.wrap, IntKind.bits, IntKind.signed]; omega
     have hqn : (n / 10).toNat = n.toNat / 10 := by omega
     have h30 : (10 : Nat) ^ (29 + 1) = 1000000000000000000000000000000 := by decide
     have hl : (Lib.decDigits (n.toNat / 10)).length ≤ 30 := dec_len 29 _ (by rw [h30]; omega)
     have := zps n (by omega) h1 ⟨(Lib.decDigits (n.toNat / 10)).toArray⟩ (fun w => by
      rw [hq]
      have := ih (n / 10) (by omega) (by omega) (by omega) w
      rw [hqn] at this
      exact this) (by show (Lib.decDigits (n.toNat / 10)).toArray.size ≤ 30; simpa using hl) w
     have hb : IntKind.u8.wrap (IntKind.i64.wrap (48 + n.tmod 10)) = 48 + n % 10 := by
      rw [Int.tmod_eq_emod_of_nonneg (by omega)]
      simp [IntKind.wrap, IntKind.bits, IntKind.signed]; omega
     have hd : Lib.decDigits n.toNat = Lib.decDigits (n.toNat / 10) ++ [UInt8.ofNat (48 + n.toNat % 10)] := by
      rw [Lib.decDigits, dif_neg (by omega)]
     have e : (⟨(Lib.decDigits (n.toNat / 10)).toArray⟩ : ByteArray) ++ ⟨#[UInt8.ofNat (IntKind.u8.wrap (IntKind.i64.wrap (48 + n.tmod 10))).toNat]⟩ = ⟨(Lib.decDigits n.toNat).toArray⟩ := by
      rw [hb, hd, show (48 + n % 10).toNat = 48 + n.toNat % 10 by omega]
      apply ByteArray.ext
      simp
     rw [e] at this
     exact this
set_option maxRecDepth 100000 in
set_option maxHeartbeats 2000000 in
theorem zqI (n : Int) (h0 : n < 0) (h1 : -9223372036854775808 < n) (w : World) : Calls Tryd.prog 72 #[.int .i64 n] w fun e w' => e = .returned (.string (⟨#[45]⟩ ++ ⟨(Lib.decDigits (-n).toNat).toArray⟩)) ∧ Kept0 w w' := by
 have hc := fun w => zoA _ (-n) (by omega) (Nat.le_refl _) (by omega) w
 have h30 : (10 : Nat) ^ (29 + 1) = 1000000000000000000000000000000 := by decide
 have hl : (Lib.decDigits (-n).toNat).length ≤ 30 := dec_len 29 _ (by rw [h30]; omega)
 have hs : (⟨(Lib.decDigits (-n).toNat).toArray⟩ : ByteArray).size ≤ 30 := by show (Lib.decDigits (-n).toNat).toArray.size ≤ 30; simpa using hl
 generalize (⟨(Lib.decDigits (-n).toNat).toArray⟩ : ByteArray) = q at *
 have hw : IntKind.i64.wrap (-n) = -n := by simp [IntKind.wrap, IntKind.bits, IntKind.signed]; omega
 have hw2 : IntKind.i64.wrap (0 - n) = -n := by rw [Int.zero_sub]; exact hw
 have hs2 : ¬ (9223372036854775807 < 1 + q.size) := by omega
 have hs3 : ¬ (9223372036854775807 < 1 + (q.size : Int)) := by omega
 go_enter hf72, hn72
 unfold Tryd.f72
 go_wp2_with (go_at_call 72; (try rw [hw2]); (try rw [hw]); refine (hc _).mono ?_; rintro e w' ⟨rfl, hk⟩)
 refine bodyPost_ret (v := .string (⟨#[45]⟩ ++ q)) (by first | (simp [results, go_sem]; done) | rfl) rfl ?_
 exact ⟨rfl, hk⟩
def decF : Nat → Nat → List UInt8
 | 0, u => []
 | k + 1, u => if u < 10 then [UInt8.ofNat (48 + u)] else decF k (u / 10) ++ [UInt8.ofNat (48 + u % 10)]
theorem zh0 : ∀ (k u : Nat), u < 10 ^ (k + 1) → Lib.decDigits u = decF (k + 1) u
 | 0, u, h => by
   rw [Lib.decDigits, dif_pos (by simpa using h)]
   simp only [decF]
   rw [if_pos (by simpa using h)]
 | k + 1, u, h => by
   rw [Lib.decDigits]
   unfold decF
   split
   · rfl
   · rename_i h1
     have h2 : u / 10 < 10 ^ (k + 1) := by
      rw [Nat.div_lt_iff_lt_mul (by omega)]
      rw [Nat.pow_succ] at h
      exact h
     rw [zh0 k (u / 10) h2]
theorem zpl : (⟨(Lib.itoa (-9223372036854775808)).toArray⟩ : ByteArray) = ⟨#[45, 57, 50, 50, 51, 51, 55, 50, 48, 51, 54, 56, 53, 52, 55, 55, 53, 56, 48, 56]⟩ := by
 have h : Lib.itoa (-9223372036854775808) = 45 :: Lib.decDigits 9223372036854775808 := by
  unfold Lib.itoa
  rw [if_pos (by decide)]
  rfl
 rw [h, zh0 20 9223372036854775808 (by decide)]
 rfl
set_option maxRecDepth 100000 in
set_option maxHeartbeats 2000000 in
theorem zqr (w : World) : Calls Tryd.prog 72 #[.int .i64 (-9223372036854775808)] w fun e w' => e = .returned (.string ⟨#[45, 57, 50, 50, 51, 51, 55, 50, 48, 51, 54, 56, 53, 52, 55, 55, 53, 56, 48, 56]⟩) ∧ Kept0 w w' := by
 go_enter hf72, hn72
 unfold Tryd.f72
 go_wp2
 refine bodyPost_ret (v := .string ⟨#[45, 57, 50, 50, 51, 51, 55, 50, 48, 51, 54, 56, 53, 52, 55, 55, 53, 56, 48, 56]⟩) (by first | (simp [results, go_sem]; done) | rfl) rfl ?_
 exact ⟨rfl, Kept0.refl w⟩
def num (n : Int) : ByteArray := ⟨(Lib.itoa n).toArray⟩
def numV : List Value → Option (List Value)
 | [.int .i64 n] => if -9223372036854775808 ≤ n ∧ n ≤ 9223372036854775807 then some [.string (num n)] else none
 | _ => none
theorem zqm (n : Int) (h0 : -9223372036854775808 ≤ n) (h1 : n ≤ 9223372036854775807) (w : World) : Calls Tryd.prog 72 #[.int .i64 n] w fun e w' => e = .returned (.string (num n)) ∧ Kept0 w w' := by
 by_cases hn : n < 0
 · by_cases hm : n = -9223372036854775808
   · subst hm
     unfold num
     rw [zpl]
     exact zqr w
   · have := zqI n hn (by omega) w
     have e : (⟨#[45]⟩ : ByteArray) ++ ⟨(Lib.decDigits (-n).toNat).toArray⟩ = num n := by
      unfold num Lib.itoa
      rw [if_pos hn, show n.natAbs = (-n).toNat by omega]
      apply ByteArray.ext
      simp
     rw [e] at this
     exact this
 · have := zoA _ n (by omega) (Nat.le_refl _) h1 w
   unfold num Lib.itoa
   rw [if_neg hn]
   exact this
theorem l1_calls (vs rs : List Value) (W : World) (h : numV vs = some rs) : rs ≠ [] ∧ (∀ r ∈ rs, scal r = true) ∧ Calls Tryd.prog 72 vs.toArray W fun e w' => ∃ v, e = .returned v ∧ (v = retV rs ∧ Kept0 W w') := by
 unfold numV at h
 split at h
 · rename_i n
   split at h
   · rename_i hn
     cases h
     refine ⟨by simp, fun r hr => (by rw [List.mem_singleton] at hr; subst hr; rfl), (zqm n hn.1 hn.2 W).mono fun e w' he => ?_⟩
     obtain ⟨rfl, hk⟩ := he
     exact ⟨_, rfl, rfl, hk⟩
   · cases h
 · cases h
theorem zmr (w : World) (k : Nat) (os : Array Obj) : Kept0 w (Sort.grow (w.drewN k) os) :=
 ⟨rfl, rfl, rfl, by show (w.drewN k).heap.size ≤ ((w.drewN k).heap ++ os).size; simp, fun g hg => by
  show ((w.drewN k).heap ++ os)[g]? = _
  rw [Array.getElem?_append_left (by exact hg)]
  rfl⟩
def TabAt (B : Nat → Option Obj) : Prop := ∀ W : World, (∀ (g : Nat) (o : Obj), B g = some o → W.heap[g]? = some o) → Lib.TabIs Tryd.prog W "internal/strconv.uint64pow10" .u64 Lib.pow10Tab
noncomputable def zcG (P : Program) (W : World) (n : String) (g : Nat) : Option Obj := if P.globalNamed n = some g then W.heap[g]? else none
theorem znG {W : World} (h : Lib.TabIs Tryd.prog W "internal/strconv.uint64pow10" .u64 Lib.pow10Tab) : TabAt (zcG Tryd.prog W "internal/strconv.uint64pow10") := fun W' hW => by
 unfold Lib.TabIs World.var? at *
 cases hg : Tryd.prog.globalNamed "internal/strconv.uint64pow10" with
 | none => rw [hg] at h; cases h
 | some g =>
   rw [hg] at h
   simp only [Option.bind_some] at h ⊢
   cases ho : W.heap[g]? with
   | none => rw [ho] at h; cases h
   | some o =>
     have := hW g o (by unfold zcG; rw [if_pos hg]; exact ho)
     rw [this]
     rw [ho] at h
     exact h
theorem itoa_calls {B : Nat → Option Obj} (hB : TabAt B) (vs rs : List Value) (W : World) (hW : ∀ (g : Nat) (o : Obj), B g = some o → W.heap[g]? = some o) (h : numV vs = some rs) : rs ≠ [] ∧ (∀ r ∈ rs, scal r = true) ∧ Calls Tryd.prog 74 vs.toArray W fun e w' => ∃ v, e = .returned v ∧ (v = retV rs ∧ Kept0 W w') := by
 unfold numV at h
 split at h
 · rename_i n
   split at h
   · rename_i hn
     cases h
     refine ⟨by simp, fun r hr => (by rw [List.mem_singleton] at hr; subst hr; rfl), (Tryd.strconv_Itoa n hn.1 hn.2 W (hB W hW)).mono fun e w' he => ?_⟩
     obtain ⟨rfl, k, os, rfl⟩ := he
     exact ⟨_, rfl, rfl, zmr W k os⟩
   · cases h
 · cases h
end Go.Proofs.YtcmcfebihbmmeaaDoor
namespace Go.Proofs.YtcmcfebihbmmeaaDoor
open Go Go.RowKit Go.Sort Go.Lib Go.Proofs
open Go.Den (Kept0 scal)
set_option linter.unusedVariables false
theorem zqi : Tryd.prog.funcs[151]? = some Tryd.f151 := by kernel_rfl
theorem zp5 : Tryd.f151.ntmps = 36 := by kernel_rfl
theorem i5e : ∃ i0, Tryd.prog.info? 5 = some i0 ∧ i0.zero = some (.int .u8 0) ∧ i0.size = 1 ∧ i0.bytes = 1 := by
 obtain ⟨i0, hi, hz0, hz1, hz2⟩ := info_parts Tryd.laysM288.i5
 exact ⟨i0, hi, hz0, hz1, hz2⟩
theorem zlw {a b c : World} {r : Option Nat} (h : a.grownBy b none) (k : b.grownBy c r) : a.grownBy c r :=
 ⟨k.os.trans h.os, k.tape.trans h.tape, k.output.trans h.output, Nat.le_trans h.size k.size, fun g hg hne => (k.block g (Nat.lt_of_lt_of_le hg h.size) hne).trans (h.block g hg (by simp))⟩
section
variable {w : World}
theorem zo3 {ops : Array Oper} {rest : List Oper} {o : Oper} {a : Act} {Q : Exit → Act → World → Prop} (hgd : o.guard = none) (sl x : Operand) (ho : o.op = .call { callee := .builtin .append, args := #[sl, x], argTypes := #[45, 9] })
 (i : TypeInfo) (hi : Tryd.prog.info? 5 = some i) (hz : i.zero = some (.int .u8 0)) (hsize : i.size = 1) (hby : i.bytes = 1) (v : Value) (n : Nat) (xs : List Value) (hs : a.eval sl = v) (hown : w.ownsRow 0 5 1 v n xs) (s : ByteArray) (hx : a.eval x = .string s) (hl : n + s.size ≤ 2147483648)
 (h : ∀ v' w', w'.ownsRow 0 5 1 v' (n + s.size) (xs ++ Lib.strCells s) → w.grownBy w' v.ownBlock → (v'.ownBlock = v.ownBlock ∨ v'.ownBlock = some w.heap.size) → wpList Tryd.prog ops Q rest (a.put o.dst v') w') : wpList Tryd.prog ops Q (o :: rest) a w := by
 refine wpList_plain hgd fun K hK => ?_
 obtain ⟨v', w', hr, h2, h3, h4⟩ := Go.Den.run_appendS (P := Tryd.prog) (ty := o.type) u45 u9 hi hz hsize hby hown s hl
 unfold Oper.wp execOp
 simp only [ho, resolve, invoke, builtin, Sem.run_bind, Sem.run_pure, Result.andThen_ok, List.map_toArray, List.map_cons, List.map_nil, hs, hx, hr]
 exact hK _ _ (h v' w' h2 h3 h4)
theorem zpi {ops : Array Oper} {rest : List Oper} {o : Oper} {a : Act} {Q : Exit → Act → World → Prop} (hgd : o.guard = none) (sl x : Operand) (ho : o.op = .call { callee := .builtin .append, args := #[sl, x], argTypes := #[45, 45] })
 (i : TypeInfo) (hi : Tryd.prog.info? 5 = some i) (hz : i.zero = some (.int .u8 0)) (hsize : i.size = 1) (hby : i.bytes = 1) (v : Value) (n : Nat) (xs : List Value) (hs : a.eval sl = v) (hown : w.ownsRow 0 5 1 v n xs)
 (ad : Addr) (m c : Nat) (news : List Value) (hx : a.eval x = .slice (some ad) m c) (hl : news.length = m * 1) (hnews : ∀ j u, news[j]? = some u → w.cell? (ad.add j) = some u) (h1 : ∀ u ∈ news, u.oneCell' = true) (h63 : n + m ≤ 2147483648)
 (h : ∀ v' w', w'.ownsRow 0 5 1 v' (n + m) (xs ++ news) → w.grownBy w' v.ownBlock → (v'.ownBlock = v.ownBlock ∨ v'.ownBlock = some w.heap.size) → wpList Tryd.prog ops Q rest (a.put o.dst v') w') : wpList Tryd.prog ops Q (o :: rest) a w := by
 refine wpList_plain hgd fun K hK => ?_
 obtain ⟨v', w', hr, h2, h3, _, h4⟩ := run_append_own_at (P := Tryd.prog) w 0 45 o.type 5 i (.int .u8 0) 1 1 u45 hi hz hsize hby rfl (by decide) v n xs hown ad m c news hl hnews h1 (by simp only [maxLen]; omega) (by omega) (Nat.zero_le _)
 unfold Oper.wp execOp
 simp only [ho, resolve, invoke, builtin, Sem.run_bind, Sem.run_pure, Result.andThen_ok, List.map_toArray, List.map_cons, List.map_nil, hs, hx, hr]
 exact hK _ _ (h v' w' h2 h3 h4)
end
theorem zkL {u : Nat} (h : u < 100) : (Lib.decDigits u).length ≤ 20 := by
 rw [Lib.decDigits_length]
 by_cases h10 : u < 10
 · rw [Lib.nDigits_small h10]; omega
 · rw [Lib.nDigits_big (by omega), Lib.nDigits_small (show u / 10 < 10 by omega)]; omega
set_option maxHeartbeats 6400000 in
set_option maxRecDepth 100000 in
theorem zok (n u : Nat) (hu : u < 100) (sv : Value) (xs : List Value) (w : World) (hown : w.ownsRow 0 5 1 sv n xs) (hlim : n ≤ 1000000) :
 Calls Tryd.prog 151 #[sv, .int .u64 u, .int .i64 10] w fun e w' => ∃ v', e = .returned v' ∧ w'.ownsRow 0 5 1 v' (n + (Lib.decDigits u).length) (xs ++ Lib.byteCells (Lib.decDigits u)) ∧ w.grownBy w' sv.ownBlock ∧ ∀ g, v'.ownBlock = some g → g < w.heap.size → sv.ownBlock = some g := by
 obtain ⟨i0, hi, hz0, hz1, hz2⟩ := i5e
 have hlen := zkL hu
 have hsz : (⟨(Lib.decDigits u).toArray⟩ : ByteArray).size = (Lib.decDigits u).length := by simp [ByteArray.size]
 go_enter zqi, zp5
 unfold Tryd.f151
 go_wp2_with (first
  | (go_at_call 133; refine (Tryd.internal_strconv_small u hu _).mono ?_; rintro e w' ⟨rfl, rfl⟩)
  | (at_builtin; refine zo3 rfl _ _ rfl i0 hi hz0 hz1 hz2 _ _ _ rfl hown ⟨(Lib.decDigits u).toArray⟩ rfl (by rw [hsz]; omega) ?_))
 intro v' w1 hown' hgrow hob
 go_wp2
 go_ret
 refine ⟨v', rfl, ?_, hgrow, fun g h1 h2 => hob.elim (fun e => e ▸ h1) fun e => by rw [e] at h1; cases h1; exact absurd h2 (Nat.lt_irrefl _)⟩
 first | exact hown' | (rw [hsz] at hown'; exact hown')
set_option maxHeartbeats 12800000 in
set_option maxRecDepth 100000 in
theorem zpR (n u : Nat) (hu : 100 ≤ u) (hu64 : u < 18446744073709551616) (sv : Value) (xs : List Value) (w : World) (hown : w.ownsRow 0 5 1 sv n xs) (hlim : n ≤ 1000000) (htab : Lib.TabIs Tryd.prog w "internal/strconv.uint64pow10" .u64 Lib.pow10Tab) :
 Calls Tryd.prog 151 #[sv, .int .u64 u, .int .i64 10] w fun e w' => ∃ v', e = .returned v' ∧ w'.ownsRow 0 5 1 v' (n + (Lib.decDigits u).length) (xs ++ Lib.byteCells (Lib.decDigits u)) ∧ w.grownBy w' sv.ownBlock ∧ ∀ g, v'.ownBlock = some g → g < w.heap.size → sv.ownBlock = some g := by
 obtain ⟨i0, hi, hz0, hz1, hz2⟩ := i5e
 have hu1 : 1 ≤ u := by omega
 have hnd : Lib.nDigits u ≤ 20 := by have := Lib.numDigits_eq u hu1 hu64; split at this <;> omega
 have hal : Tryd.prog.arrayLen 154 = 24 := by simp [Program.arrayLen]
 have hsl : ∀ W, (Instr.sliceAt 154 (.pointer (some ⟨w.heap.size, 0, none⟩)) none (some (.int .i64 (Lib.nDigits u : Int))) none).run Tryd.prog W = .ok (.slice (some ⟨w.heap.size, 0, none⟩) (Lib.nDigits u) 24) W := fun W => by
  rw [run_sliceAt_array_h W 154 ⟨w.heap.size, 0, none⟩ (by simp [Program.arrayLen, Program.elem]) .i64 (Lib.nDigits u : Int) (by omega) (by rw [hal]; omega)]
  go_simp
 have hz := Lib.holds_zero0 w 154 (Lib.nDigits u) (by omega)
 have hfmt := Tryd.internal_strconv_formatBase10 w.heap.size 0 24 u (Array.replicate (Lib.nDigits u) 0) (w.alloc (.cells Lib.zeros24 154)) hz (by rw [Array.size_replicate]; exact Lib.lt_pow_nDigits u) hu64 (by rw [Array.size_replicate]; omega)
 rw [Array.size_replicate] at hfmt
 have hz' := Lib.hid hz
 have iu : (100 : Int) ≤ (u : Int) := by omega
 clear hz hal
 go_enter zqi, zp5
 unfold Tryd.f151
 go_wp2_with (first
  | (go_at_call 134; refine (Tryd.internal_strconv_numDigits u hu1 hu64 _ (Lib.tabIs_alloc htab _)).mono ?_; rintro e w' ⟨rfl, rfl⟩))
 go_at_call 135
 refine hfmt.mono ?_
 rintro e w' ⟨rfl, k, v', dk, rfl, hF⟩
 have hcells : ∀ j u', (Lib.byteCells (Lib.decDigits u))[j]? = some u' → ((putRow (fun (b : UInt8) => Value.int .u8 (b.toNat : Int)) (w.alloc (.cells Lib.zeros24 154)) w.heap.size 0 dk).drewN k).cell? ((⟨w.heap.size, 0, none⟩ : Addr).add j) = some u' := by
  intro j u' hj
  have hlt := (List.getElem?_eq_some_iff.1 hj).1
  rw [Lib.byteCells_length] at hlt
  have hv : (Lib.byteCells (Lib.decDigits u))[j]? = some (Value.int .u8 ((Lib.decDigits u)[j].toNat : Int)) := by simp [Lib.byteCells, hlt]
  rw [hv] at hj
  cases hj
  rw [Lib.row_is_numeral hF j hlt, Lib.add_plain, World.cell?_drewN]
  exact cell?_putRow (fun (b : UInt8) => Value.int .u8 (b.toNat : Int)) _ w.heap.size 0 _ dk hz'.out (by rw [hF.size, Array.size_replicate]) j (by rw [hF.size]; rw [Lib.decDigits_length] at hlt; exact hlt)
 obtain ⟨os, eo⟩ := Lib.fin_at w (.cells Lib.zeros24 154) dk k 0
 have hown2 : ((putRow (fun (b : UInt8) => Value.int .u8 (b.toNat : Int)) (w.alloc (.cells Lib.zeros24 154)) w.heap.size 0 dk).drewN k).ownsRow 0 5 1 sv n xs := by rw [eo]; exact Lib.ownsRow_grow hown k os
 have hgr : w.grownBy ((putRow (fun (b : UInt8) => Value.int .u8 (b.toNat : Int)) (w.alloc (.cells Lib.zeros24 154)) w.heap.size 0 dk).drewN k) none := by
  rw [eo]
  exact ⟨rfl, rfl, rfl, Lib.size_grow w k os, fun g hg _ => Lib.heap_grow_old w k os g hg⟩
 generalize (putRow (fun (b : UInt8) => Value.int .u8 (b.toNat : Int)) (w.alloc (.cells Lib.zeros24 154)) w.heap.size 0 dk).drewN k = W2 at hcells hown2 hgr ⊢
 clear eo hz' hfmt
 go_wp2_with (at_builtin; refine zpi rfl _ _ rfl i0 hi hz0 hz1 hz2 _ _ _ rfl hown2 ⟨w.heap.size, 0, none⟩ (Lib.nDigits u) 24 (Lib.byteCells (Lib.decDigits u)) rfl ?c0 hcells ?c2 ?c3 ?_)
 case c0 => rw [Lib.byteCells_length, Lib.decDigits_length, Nat.mul_one]
 case c2 => intro u' hu'; simp only [Lib.byteCells, List.mem_map] at hu'; obtain ⟨b, _, rfl⟩ := hu'; rfl
 case c3 => omega
 intro v2 w3 hown' hgrow hob
 go_wp2
 go_ret
 have hsz2 := hgr.size
 refine ⟨v2, rfl, ?_, zlw hgr hgrow, fun g h1 h2 => hob.elim (fun e => e ▸ h1) fun e => by rw [e] at h1; cases h1; omega⟩
 rw [Lib.decDigits_length]
 exact hown'
theorem au_all {B : Nat → Option Obj} (hB : TabAt B) (n u : Nat) (sv : Value) (xs : List Value) (w : World) (hW : ∀ (g : Nat) (o : Obj), B g = some o → w.heap[g]? = some o) (hu64 : u < 18446744073709551616) (hown : w.ownsRow 0 5 1 sv n xs) (hlim : n ≤ 1000000) :
 Calls Tryd.prog 151 #[sv, .int .u64 u, .int .i64 10] w fun e w' => ∃ v', e = .returned v' ∧ w'.ownsRow 0 5 1 v' (n + (Lib.decDigits u).length) (xs ++ Lib.byteCells (Lib.decDigits u)) ∧ w.grownBy w' sv.ownBlock ∧ ∀ g, v'.ownBlock = some g → g < w.heap.size → sv.ownBlock = some g := by
 by_cases h : u < 100
 · exact zok n u h sv xs w hown hlim
 · exact zpR n u (by omega) hu64 sv xs w hown hlim (hB w hW)
def ErrAt (B : Nat → Option Obj) : Prop := ∀ W : World, (∀ (g : Nat) (o : Obj), B g = some o → W.heap[g]? = some o) → ∃ tp p, W.var? Tryd.prog "strconv.ErrSyntax" = some #[.iface tp p]
theorem zjg {P : Program} {W W' : World} {n : String} {cs : Array Value} (h : W.var? P n = some cs) (hW : ∀ (g : Nat) (o : Obj), zcG P W n g = some o → W'.heap[g]? = some o) : W'.var? P n = some cs := by
 unfold World.var? at *
 cases hg : P.globalNamed n with
 | none => rw [hg] at h; cases h
 | some g =>
   rw [hg] at h
   simp only [Option.bind_some] at h ⊢
   cases ho : W.heap[g]? with
   | none => rw [ho] at h; cases h
   | some o =>
     rw [hW g o (by unfold zcG; rw [if_pos hg]; exact ho)]
     rw [ho] at h
     exact h
noncomputable def zbF (P : Program) (W : World) (n m : String) (g : Nat) : Option Obj := if P.globalNamed n = some g then W.heap[g]? else if P.globalNamed m = some g then W.heap[g]? else none
theorem zmW {P : Program} {W : World} {n m : String} {g : Nat} {o : Obj} (h : zbF P W n m g = some o) : W.heap[g]? = some o := by
 unfold zbF at h
 split at h
 · exact h
 · split at h
   · exact h
   · cases h
theorem zk8 {P : Program} {W : World} {n m : String} {g : Nat} {o : Obj} (h : zcG P W n g = some o) : zbF P W n m g = some o := by
 unfold zcG at h
 unfold zbF
 split at h
 · rename_i hn; rw [if_pos hn]; exact h
 · cases h
theorem zlf {P : Program} {W : World} {n m : String} {g : Nat} {o : Obj} (h : zcG P W m g = some o) : zbF P W n m g = some o := by
 unfold zcG at h
 unfold zbF
 split at h
 · rename_i hn
   split
   · exact h
   · first | (rw [if_pos hn]; exact h) | exact h
 · cases h
theorem zoS {W : World} (h : Lib.TabIs Tryd.prog W "internal/strconv.uint64pow10" .u64 Lib.pow10Tab) {tp : TypeId} {p : Value} (he : W.var? Tryd.prog "strconv.ErrSyntax" = some #[.iface tp p]) :
 TabAt (zbF Tryd.prog W "internal/strconv.uint64pow10" "strconv.ErrSyntax") ∧ ErrAt (zbF Tryd.prog W "internal/strconv.uint64pow10" "strconv.ErrSyntax") :=
 ⟨fun W' hW => znG h W' fun g o hg => hW g o (zk8 hg), fun W' hW => ⟨tp, p, zjg he fun g o hg => hW g o (zlf hg)⟩⟩
def atoiV : Value → Option (Value × Bool)
 | .string s => if s.size ≤ 18 then match Lib.atoi s.data.toList with
   | some n => some (.int .i64 n, true)
   | none => some (.int .i64 0, false) else none
 | _ => none
theorem zkV (w : World) (t : ByteArray) : Kept0 w (Lib.bytesWorld w 5 t) := by
 have := Lib.bytesWorld_below w 5 t
 exact ⟨this.os, this.tape, this.output, this.size, fun g hg => this.block g hg⟩
theorem atoi_calls {B : Nat → Option Obj} (hE : ErrAt B) (v : Value) (r : Value × Bool) (W : World) (hW : ∀ (g : Nat) (o : Obj), B g = some o → W.heap[g]? = some o) (h : atoiV v = some r) : scal r.1 = true ∧ Calls Tryd.prog 129 #[v] W fun e w' => ∃ er, e = .returned (.tuple #[r.1, er]) ∧ (match r.2 with | true => er = .nilIface | false => ∃ t u, er = .iface t u) ∧ Kept0 W w' := by
 unfold atoiV at h
 split at h
 · rename_i s
   split at h
   · rename_i hs
     split at h
     · rename_i n hn
       cases h
       refine ⟨rfl, (Tryd.strconv_Atoi s n hs hn W).mono fun e w' he => ?_⟩
       obtain ⟨rfl, t, rfl⟩ := he
       exact ⟨_, rfl, rfl, zkV W t⟩
     · rename_i hn
       cases h
       obtain ⟨tp, p, hv⟩ := hE W hW
       refine ⟨rfl, (Tryd.strconv_Atoi_err_var s hs hn tp p W hv).mono fun e w' he => ?_⟩
       obtain ⟨k, rfl, _, _, hb⟩ := he
       exact ⟨_, rfl, ⟨_, _, rfl⟩, hb.os, hb.tape, hb.output, hb.size, fun g hg => hb.block g hg⟩
   · cases h
 · cases h
end Go.Proofs.YtcmcfebihbmmeaaDoor
namespace Go.Proofs.YtcmcfebihbmmeaaDoor
open Go Go.RowKit Go.Proofs Go.ChangeShapes
set_option linter.unusedVariables false
theorem star : "*" ++ "errors.errorString" = "*errors.errorString" := by decide
theorem zpZ (u : TypeId) (h : Tryd.prog.typeName? 3 u = some "*errors.errorString") : u = 185 :=
 typeName_ptr_named (nm := "errors.errorString") (by rw [star]; kernel_rfl) (by kernel_rfl) (by decide) u (by rw [star]; exact h)
theorem zqk : ∃ f, Tryd.prog.underlying 187 = some (.struct #[f]) ∧ f.type = 9 ∧ f.offset = 0 := by
 exact ⟨{ name := "s", type := 9, offset := 0, embedded := false, tag := "", pkgPath := "errors", byteOffset := 0 }, by kernel_rfl, rfl, rfl⟩
theorem zqn {W : World} {text : List UInt8} {r : List (String × DataW Unit)} (h : laidMet Tryd.prog (("strconv.ErrSyntax", .iface "*errors.errorString" (.ptr (.agg [.lit (.string text)]))) :: r) W) : ∃ p, W.var? Tryd.prog "strconv.ErrSyntax" = some #[.iface 185 p] := by
 obtain ⟨f, hf, hft, hfo⟩ := zqk
 obtain ⟨a, s, hv, _⟩ := laid_sentinel (ms := #[("Error", 190)]) (g := 1) (ti := 150) (tp := 185) (te := 187) (ts := 9) h (by kernel_rfl) (by kernel_rfl) (by kernel_rfl) zpZ (by kernel_rfl) hf hft hfo (by kernel_rfl) (by kernel_rfl) (by kernel_rfl)
 exact ⟨_, hv⟩
end Go.Proofs.YtcmcfebihbmmeaaDoor
namespace Go.Den
open Go Go.RowKit
set_option linter.unusedVariables false
section
variable {P : Program} {ops : Array Oper} {Q : Exit → Act → World → Prop} {md : Region.Mode} {R : World → World → Prop} {str : Nat → Bool}
def zb0 (P : Program) (md : Region.Mode) (ops : Array Oper) (Q : Exit → Act → World → Prop) (R : World → World → Prop) (str : Nat → Bool) : Nat → Array Bool → Act → World → Prop
 | 0, listed, a, w => Region.ready md ops listed = [] ∧ Q .normal a w
 | fuel + 1, listed, a, w =>
   (Region.ready md ops listed = [] → Q .normal a w) ∧
   ∀ i ∈ Region.ready md ops listed, wpOp P ops Q i (fun a' w' => (str i = true → R w w') ∧ zb0 P md ops Q R str fuel (listed.setIfInBounds i true) a' w') a w
theorem zgw : ∀ (fuel : Nat) (listed : Array Bool) (a : Act) (w : World), zb0 P md ops Q R str fuel listed a w → wpAny P md ops Q fuel listed a w
 | 0, _, _, _, h => h
 | fuel + 1, _, _, _, h => ⟨h.1, fun i hi => wpOp_mono (fun a' w' h' => zgw fuel _ a' w' h'.2) (h.2 i hi)⟩
theorem zfP (hR : ∀ a b c, R a b → R b c → R a c) (hR0 : ∀ a, R a a) {w0 : World} {i : Nat} {oi : Oper} {v : Value} {desc : Nat → Bool} (hi : ops[i]? = some oi) (hsel : ∀ (j : Nat) (o : Oper) cs b, ops[j]? = some o → o.op ≠ .select cs b)
 (hQ : ∀ c a w, Q (.panic c) (a.put oi.dst v) w → Q (.panic c) a w) (hdesc : ∀ j oj, ops[j]? = some oj → desc j = true → ∃ e ∈ oj.after, Region.binds md e = true ∧ (e.on = i ∨ desc e.on = true)) :
 ∀ (fuel : Nat) (listed : Array Bool) (a : Act) (w : World),
  (∀ j oj, ops[j]? = some oj → j ≠ i → listed.getD j true = false → desc j = false → oi.apart ops oj = true ∧ str j = true) →
  (∀ k, listed.getD k false = true → desc k = false) → i ∈ Region.ready md ops listed → YieldsIf P ops (R w0) oi v a → R w0 w →
  zb0 P md ops Q R str fuel (listed.setIfInBounds i true) (a.put oi.dst v) w → zb0 P md ops Q R str (fuel + 1) listed a w := by
 intro fuel
 induction fuel with
 | zero =>
   intro listed a w _ hl hr hy hS H
   refine ⟨fun h => (by rw [h] at hr; cases hr), fun j hj => ?_⟩
   by_cases hji : j = i
   · subst hji; exact hy.wpOp hi hS ⟨fun _ => hR0 w, H⟩
   · have := ready_mono hj hji
     rw [H.1] at this
     cases this
 | succ fuel ih =>
   intro listed a w hfree hl hr hy hS H
   refine ⟨fun h => (by rw [h] at hr; cases hr), fun j hj => ?_⟩
   by_cases hji : j = i
   · subst hji; exact hy.wpOp hi hS ⟨fun _ => hR0 w, H⟩
   · have h1 := H.2 j (ready_mono hj hji)
     obtain ⟨hjun, oj, hoj, hall⟩ := mem_ready.1 hj
     have hnot : desc j = false := by
      cases hdj : desc j with
      | false => rfl
      | true =>
        obtain ⟨e, he, hb, hor⟩ := hdesc j oj hoj hdj
        have h1 := hall e he hb
        rcases hor with heq | hd2
        · have h0 := (mem_ready.1 hr).1
          rw [heq] at h1
          rcases Nat.lt_or_ge i listed.size with h' | h'
          · simp [h'] at h0 h1; rw [h0] at h1; cases h1
          · simp [Array.getElem?_eq_none h'] at h1
        · rw [hl _ h1] at hd2; cases hd2
     have hl' : ∀ k, (listed.setIfInBounds j true).getD k false = true → desc k = false := fun k hk => by
      by_cases hjk : j = k
      · subst hjk; exact hnot
      · rw [getD_set_ne false hjk] at hk; exact hl k hk
     obtain ⟨hap, hst⟩ := hfree j oj hoj hji hjun hnot
     have h2 := wpOp_putIf hoj hap (fun cs b => hsel i oi cs b hi) (fun cs b => hsel j oj cs b hoj) hQ hy h1
     have hfree' : ∀ k ok, ops[k]? = some ok → k ≠ i → (listed.setIfInBounds j true).getD k true = false →
      desc k = false → oi.apart ops ok = true ∧ str k = true := fun k ok hk hki hun hno => by
      refine hfree k ok hk hki ?_ hno
      by_cases hjk : j = k
      · subst hjk; exact hjun
      · rw [getD_set_ne true hjk] at hun; exact hun
     refine wpOp_mono (fun a' w' h3 => ⟨h3.2.1, ih (listed.setIfInBounds j true) a' w' hfree' hl' (ready_mono hr (Ne.symm hji)) h3.1 (hR _ _ _ hS (h3.2.1 hst)) ?_⟩) h2
     rw [Array.setIfInBounds_comm _ _ hji]
     exact h3.2.2
theorem zf0 (hR0 : ∀ a, R a a) {i : Nat} {oi : Oper} {v : Value} {desc : Nat → Bool} (hi : ops[i]? = some oi) (hsel : ∀ (j : Nat) (o : Oper) cs b, ops[j]? = some o → o.op ≠ .select cs b)
 (hQ : ∀ c a w, Q (.panic c) (a.put oi.dst v) w → Q (.panic c) a w) (hdesc : ∀ j oj, ops[j]? = some oj → desc j = true → ∃ e ∈ oj.after, Region.binds md e = true ∧ (e.on = i ∨ desc e.on = true)) :
 ∀ (fuel : Nat) (listed : Array Bool) (a : Act) (w : World),
  (∀ j oj, ops[j]? = some oj → j ≠ i → listed.getD j true = false → desc j = false → oi.apart ops oj = true) →
  (∀ k, listed.getD k false = true → desc k = false) → i ∈ Region.ready md ops listed → Go.Yields P ops oi v a →
  zb0 P md ops Q R str fuel (listed.setIfInBounds i true) (a.put oi.dst v) w → zb0 P md ops Q R str (fuel + 1) listed a w := by
 intro fuel
 induction fuel with
 | zero =>
   intro listed a w _ hl hr hy H
   refine ⟨fun h => (by rw [h] at hr; cases hr), fun j hj => ?_⟩
   by_cases hji : j = i
   · subst hji; exact hy.wpOp hi ⟨fun _ => hR0 w, H⟩
   · have := ready_mono hj hji
     rw [H.1] at this
     cases this
 | succ fuel ih =>
   intro listed a w hfree hl hr hy H
   refine ⟨fun h => (by rw [h] at hr; cases hr), fun j hj => ?_⟩
   by_cases hji : j = i
   · subst hji; exact hy.wpOp hi ⟨fun _ => hR0 w, H⟩
   · have h1 := H.2 j (ready_mono hj hji)
     obtain ⟨hjun, oj, hoj, hall⟩ := mem_ready.1 hj
     have hnot : desc j = false := by
      cases hdj : desc j with
      | false => rfl
      | true =>
        obtain ⟨e, he, hb, hor⟩ := hdesc j oj hoj hdj
        have h1 := hall e he hb
        rcases hor with heq | hd2
        · have h0 := (mem_ready.1 hr).1
          rw [heq] at h1
          rcases Nat.lt_or_ge i listed.size with h' | h'
          · simp [h'] at h0 h1; rw [h0] at h1; cases h1
          · simp [Array.getElem?_eq_none h'] at h1
        · rw [hl _ h1] at hd2; cases hd2
     have hl' : ∀ k, (listed.setIfInBounds j true).getD k false = true → desc k = false := fun k hk => by
      by_cases hjk : j = k
      · subst hjk; exact hnot
      · rw [getD_set_ne false hjk] at hk; exact hl k hk
     have h2 := wpOp_put hoj (hfree j oj hoj hji hjun hnot) (fun cs b => hsel i oi cs b hi) (fun cs b => hsel j oj cs b hoj) hQ hy h1
     have hfree' : ∀ k ok, ops[k]? = some ok → k ≠ i → (listed.setIfInBounds j true).getD k true = false →
      desc k = false → oi.apart ops ok = true := fun k ok hk hki hun hno => by
      refine hfree k ok hk hki ?_ hno
      by_cases hjk : j = k
      · subst hjk; exact hjun
      · rw [getD_set_ne true hjk] at hun; exact hun
     refine wpOp_mono (fun a' w' h3 => ⟨h3.2.1, ih (listed.setIfInBounds j true) a' w' hfree' hl' (ready_mono hr (Ne.symm hji)) h3.1 ?_⟩) h2
     rw [Array.setIfInBounds_comm _ _ hji]
     exact h3.2.2
end
end Go.Den
namespace Go.Den
open Go Go.RowKit
set_option linter.unusedVariables false
theorem zmC {P : Program} {c : Cx} {a : Act} {o : Oper} {E : Env} {d : D} (hE : E.ty = c.ty) (hty : TyOk P c.ty) (hs : Sim c a.tmps) (hcm : zgA o.op = true)
 (h : evOp E c.s.look c.s.get c.s.box o.type o.op = some (.pure d)) : ∀ x T, Calm P c a o x T d := by
 cases ho : o.op with
 | move z =>
   rw [ho] at h
   simp only [evOp] at h
   cases h
   exact fun x T => (zkd hs (.inl ho))
 | assign z =>
   rw [ho] at h
   simp only [evOp] at h
   split at h
   · rename_i hz
     simp only [Option.bind_eq_some_iff] at h
     obtain ⟨i, hi, h⟩ := h
     split at h
     · rename_i e hk
       cases h
       rw [hE] at hi
       exact fun x T => (zqd hty ho hz hi hk)
     · cases h
   · split at h
     · cases h
       exact fun x T => (zkd hs (.inr ho))
     · cases h
 | pick z u w =>
   rw [ho] at h
   simp only [evOp, Option.map_eq_some_iff] at h
   obtain ⟨b, hb, h⟩ := h
   cases h
   exact fun x T => by cases b <;> exact (zox hs ho hb)
 | build t ps =>
   rw [ho] at h
   simp only [evOp, Option.bind_eq_some_iff] at h
   obtain ⟨i, hi, h⟩ := h
   rw [hE] at hi
   split at h
   · rename_i hq
     simp only [Bool.and_eq_true] at hq
     simp only [Option.map_eq_some_iff] at h
     obtain ⟨cs, hf, h⟩ := h
     cases h
     exact fun x T => (zlD hE hty hs ho hi hq.1 hq.2 hf)
   · cases h
 | nilCheck z =>
   rw [ho] at h
   simp only [evOp] at h
   split at h
   · rename_i r n hz
     cases h
     exact fun x T => (zgk hs ho hz)
   · cases h
 | binOp op t z u k =>
   rw [ho] at h
   simp only [evOp] at h
   split at h
   · rename_i b hb
     cases h
     rw [hE] at hb
     exact fun x T => (zjS hty hs ho hb)
   · simp only [Option.map_eq_some_iff] at h
     obtain ⟨d, hd, h⟩ := h
     cases h
     rw [hE] at hd
     exact fun x T => (zl8 hty hs ho hd)
 | unOp op t z =>
   rw [ho] at h
   simp only [evOp, Option.map_eq_some_iff] at h
   obtain ⟨d, hd, h⟩ := h
   cases h
   exact fun x T => (zow hs ho hd)
 | convert t u z =>
   rw [ho] at h
   simp only [evOp, Option.bind_eq_some_iff, Option.map_eq_some_iff] at h
   obtain ⟨i, hi, d, hd, h⟩ := h
   cases h
   rw [hE] at hd hi
   exact fun x T => (zhJ hty hs ho (by rw [hi]; rfl) hd)
 | makeFunc fn first cap =>
   rw [ho] at h
   cases fn with
   | func f =>
     simp only [evOp] at h
     split at h
     · rename_i hf
       simp only [Option.map_eq_some_iff] at h
       obtain ⟨rs, hr, h⟩ := h
       cases h
       exact fun x T => (zgn hs ho hf hr)
     · cases h
   | _ => simp only [evOp] at h; cases h
 | slice t z lo hi mx =>
   rw [ho] at h
   simp only [evOp] at h
   split at h
   · simp only [Option.bind_eq_some_iff, Option.map_eq_some_iff] at h
     obtain ⟨st, hst, l, hl, hh, hhi, d, hd, h⟩ := h
     cases h
     rw [hE] at hst hd
     exact fun x T => (znn hty hs (fun _ _ h => h) ho hst hl hhi hd)
   · cases h
 | fieldAddr t z f =>
   rw [ho] at h
   simp only [evOp, Option.bind_eq_some_iff] at h
   obtain ⟨i, hi, q, hq, j, hj, h⟩ := h
   rw [hE] at hi hj
   split at h
   · rename_i hc
     simp only [Option.map_eq_some_iff] at h
     obtain ⟨d, hd, h⟩ := h
     cases h
     exact fun x T => (zfa hty hs ho hi hq hj hc hd)
   · cases h
 | field t z f =>
   rw [ho] at h
   simp only [evOp, Option.bind_eq_some_iff] at h
   obtain ⟨i, hi, q, hq, j, hj, h⟩ := h
   rw [hE] at hi hj
   split at h
   · cases h
   · rename_i ha
     split at h
     · rename_i cs hz
       simp only [Option.map_eq_some_iff] at h
       obtain ⟨d, hd, h⟩ := h
       cases h
       exact fun x T => ((zeg hty hs ho hi hq hj ha).1 cs d hz hd)
     · rename_i ds hz
       split at h
       · rename_i hja
         simp only [Option.map_eq_some_iff] at h
         obtain ⟨d, hd, h⟩ := h
         cases h
         exact fun x T => ((zeg hty hs ho hi hq hj ha).2.1 ds d hz hja hd)
       · rename_i hja
         split at h
         · rename_i hb
           cases h
           exact fun x T => ((zeg hty hs ho hi hq hj ha).2.2 ds hz hja hb)
         · cases h
     · cases h
 | indexAddr t z u =>
   rw [ho] at h
   simp only [evOp, Option.bind_eq_some_iff] at h
   obtain ⟨k, hk, h⟩ := h
   rw [hE] at hk
   split at h
   · rename_i e hkk
     simp only [Option.bind_eq_some_iff, Option.map_eq_some_iff] at h
     obtain ⟨j, hj, n, hn, d, hd, h⟩ := h
     rw [hE] at hj
     cases h
     exact fun x T => (zf1 hty hs (fun _ _ h => h) ho hk hkk hj hn hd)
   · cases h
 | index t z u =>
   rw [ho] at h
   simp only [evOp, Option.bind_eq_some_iff] at h
   obtain ⟨k, hk, n, hn, h⟩ := h
   rw [hE] at hk
   split at h
   · rename_i s hz hkk
     split at h
     · rename_i hb
       cases h
       exact fun x T => (zlN hty hs ho hk hkk hn hz hb)
     · cases h
   · cases h
 | extract z j =>
   rw [ho] at h
   simp only [evOp] at h
   split at h
   · rename_i ds hz
     simp only [Option.map_eq_some_iff] at h
     obtain ⟨d, hd, h⟩ := h
     cases h
     exact fun x T => (zhL hs ho hz hd)
   · cases h
 | call ca =>
   rw [ho] at h
   simp only [evOp] at h
   split at h
   · rename_i hc
     split at h
     · rename_i z t ha hat
       simp only [Option.bind_eq_some_iff, Option.map_eq_some_iff] at h
       obtain ⟨i, hi, n, hn, h⟩ := h
       cases h
       rw [hE] at hi
       exact fun x T => (zqD hty hs (fun _ _ h => h) ho hc ha hat hi hn)
     · cases h
   · rename_i hc
     split at h
     · rename_i z u ha
       simp only [Option.bind_eq_some_iff, Option.map_eq_some_iff] at h
       obtain ⟨m, hm, n, hn, h⟩ := h
       cases h
       exact fun x T => (zeU (mx := true) hs ho hc ha hm hn)
     · cases h
   · rename_i hc
     split at h
     · rename_i z u ha
       simp only [Option.bind_eq_some_iff, Option.map_eq_some_iff] at h
       obtain ⟨m, hm, n, hn, h⟩ := h
       cases h
       exact fun x T => (zeU (mx := false) hs ho hc ha hm hn)
     · cases h
   · rename_i z hc
     rw [ho] at hcm
     simp [zgA, hc] at hcm
   · cases h
 | _ => rw [ho] at hcm; cases hcm
theorem zcc {P : Program} {o : Oper} {a : Act} {w : World} {K : Act → World → Prop} {Q : Exit → Act → World → Prop} (h : o.wp P a w K Q) : o.wp P a w (fun a' w' => K a' w' ∧ ∃ v, a'.tmps = (a.put o.dst v).tmps) Q := by
 unfold Oper.wp at *
 generalize (execOp a.eval o).run P w = r at *
 cases r with
 | ok n w' =>
   cases n <;> simp only [Oper.upon] at h ⊢
   case value v => exact ⟨h, v, rfl⟩
   case skip => exact ⟨h, _, rfl⟩
   case defer d => exact ⟨h, undef, by cases o.dst <;> rfl⟩
   case enter f args =>
    refine Calls.mono h fun e w'' he => ?_
    cases e with
    | returned v => exact ⟨he, v, rfl⟩
    | panicked c => exact he
    | outgrown => exact he
   case row r args => exact Rows.mono h fun v w'' he => ⟨he, v, rfl⟩
 | halt x w' => cases x <;> simp only [Oper.upon] at h ⊢ <;> exact h
section
variable {P : Program} {c : Cx} {a : Act} {o : Oper} {X : Nat}
theorem zib {n : Nat} {d : D} {T : World → Prop} (hf : Fr X c a) (hn : n < a.tmps.size) (h : Calm P c a o n T d) :
 ∃ v c', c'.s = c.s.put n d ∧ c'.W = c.W ∧ Fr X c' (a.put (some n) v) ∧ Ext c c' ∧ (∀ g, g < c.W.heap.size → c'.ρ g = c.ρ g) ∧ ∀ w, T w → (execOp a.eval o).run P w = .ok (.value v) w := by
 obtain ⟨v, c1, h0, h1, h2, h3⟩ := h
 have hsim := h2.put hf.sim hn h3
 have hne : X ≠ n := Nat.ne_of_gt (Nat.lt_of_lt_of_le hn hf.ghost.out)
 have e := h2.ext
 exact ⟨v, { c1 with s := c.s.put n d }, rfl, h0, ⟨hsim, by simpa [Act.put] using hf.ghost.out, za2 hne hf.ghost.own⟩, ⟨e.os, e.tape, e.output, e.size, e.keep, e.ty, e.up, e.lentH⟩, h2.ρ, h1⟩
def Cx.isM (c : Cx) (M : List Nat) (g : Nat) : Bool := M.any fun n => Nat.beq (c.β (.loc n)) g
def Cx.hid (c : Cx) (M : List Nat) : Cx := { c with ρ := fun g => match c.isM M g with | true => .oth | false => c.ρ g, s := c.s.hid M }
theorem isM_iff {M : List Nat} {g : Nat} : c.isM M g = true ↔ ∃ n ∈ M, c.β (.loc n) = g := by
 unfold Cx.isM
 rw [List.any_eq_true]
 constructor
 · rintro ⟨n, h1, h2⟩; exact ⟨n, h1, beq_eq.1 h2⟩
 · rintro ⟨n, h1, h2⟩; exact ⟨n, h1, beq_eq.2 h2⟩
theorem zkH {s : St} {n : Nat} (h : znE s n = true) : s.t n = .ptr (.loc n) 0 := by
 unfold znE at h
 split at h
 · rename_i m o e
   simp only [Bool.and_eq_true] at h
   rw [e, beq_eq.1 h.1, beq_eq.1 h.2]
 · cases h
theorem ze6 {M : List Nat} {s : St} (h : zm8 M s = true) {n : Nat} (hn : n ∈ M) : s.t n = .ptr (.loc n) 0 ∧ ∃ cs, s.b n = some cs ∧ ∀ d ∈ cs, ∃ x, d = .dat x := by
 have := (List.all_eq_true.1 h) n hn
 simp only [Bool.and_eq_true] at this
 refine ⟨zkH this.1, ?_⟩
 have h2 := this.2
 unfold zoN at h2
 split at h2
 · rename_i cs hcs
   refine ⟨cs, hcs, fun d hd => ?_⟩
   have := (List.all_eq_true.1 h2) d hd
   split at this
   · exact ⟨_, rfl⟩
   · cases this
 · cases h2
theorem zcH {M : List Nat} {tm : Array Value} (hs : Sim c tm) (h : zm8 M c.s = true) {g : Nat} (hg : c.isM M g = true) : ∃ n ∈ M, c.β (.loc n) = g ∧ c.ρ g = .box (.loc n) ∧ g < c.W.heap.size := by
 obtain ⟨n, hn, rfl⟩ := isM_iff.1 hg
 obtain ⟨_, cs, hcs, _⟩ := ze6 h hn
 have hb := hs.boxes (.loc n) cs hcs
 obtain ⟨vs, T, h1, h2, _⟩ := hb.out
 exact ⟨n, hn, rfl, h2, hb.lt⟩
theorem zo9 {M : List Nat} {s : St} {q : Pl} {r : Row} (h : s.get q = some r) (hk : (Kill.hide M).pl q = false) : (s.hid M).get q = some r := by
 cases q with
 | slot y l =>
   show (D.at_ l ((s.hid M).t y)).row? = _
   simp only [St.hid]
   rw [za3]
   exact h
 | cell r0 o =>
   simp only [St.get, Option.bind_eq_some_iff] at h ⊢
   obtain ⟨cs, h1, d, h2, h3⟩ := h
   refine ⟨D.kills (Kill.hide M) cs, ?_, d.kill (Kill.hide M), by rw [zcd, h2]; rfl, ?_⟩
   · cases r0 with
     | loc n =>
       have hm : memN n M = false := hk
       have h1 : s.b n = some cs := h1
       simp only [St.hid, St.box, hm, h1, Option.map_some]
     | up n =>
       have h1 : s.u[n]? = some cs := h1
       simp only [St.hid, St.box, List.getElem?_map, h1, Option.map_some]
   · have := za3 (k := Kill.hide M) [] d
     simp only [D.at_] at this
     rw [this]; exact h3
 | lent j => exact h
theorem zpJ {M : List Nat} {s : St} {r : Ref} {cs' : List D} (h : (s.hid M).box r = some cs') : (∀ n ∈ M, r ≠ .loc n) ∧ ∃ cs, s.box r = some cs ∧ cs' = D.kills (Kill.hide M) cs := by
 cases r with
 | loc n =>
   simp only [St.hid, St.box] at h
   split at h
   · cases h
   · rename_i hm
     simp only [Option.map_eq_some_iff] at h
     obtain ⟨cs, h1, rfl⟩ := h
     refine ⟨fun k hk e => ?_, cs, h1, rfl⟩
     cases e
     rw [memN_iff.2 hk] at hm
     cases hm
 | up n =>
   simp only [St.hid, St.box, List.getElem?_map, Option.map_eq_some_iff] at h
   obtain ⟨cs, h1, rfl⟩ := h
   exact ⟨fun k hk e => (by cases e), cs, h1, rfl⟩
theorem ziq {M : List Nat} {s : St} {r : Ref} (h : (s.box r).isSome = true) (hk : (Kill.hide M).ref r = false) : ((s.hid M).box r).isSome = true := by
 obtain ⟨cs, hcs⟩ := Option.isSome_iff_exists.1 h
 cases r with
 | loc n =>
   have hm : memN n M = false := hk
   have hcs : s.b n = some cs := hcs
   simp only [St.hid, St.box, hm, hcs, Option.map_some, Option.isSome_some]
 | up n =>
   have hcs : s.u[n]? = some cs := hcs
   simp only [St.hid, St.box, List.getElem?_map, hcs, Option.map_some, Option.isSome_some]
theorem zhQ {M : List Nat} {g : Nat} {r : Role} (h : c.ρ g = r) (hg : c.isM M g = false) : (c.hid M).ρ g = r := by
 show (match c.isM M g with | true => Role.oth | false => c.ρ g) = r
 rw [hg]; exact h
theorem zk0 {M : List Nat} (hf : Fr X c a) (h : zm8 M c.s = true) : Fr X (c.hid M) a ∧ Ext c (c.hid M) := by
 have hs := hf.sim
 have hne : ∀ g r, c.ρ g = r → (∀ n : Nat, r ≠ .box (.loc n)) → c.isM M g = false := fun g r hr hn => by
  cases hg : c.isM M g with
  | false => rfl
  | true =>
    obtain ⟨n, _, _, h1, _⟩ := zcH hs h hg
    exact (hn n (hr.symm.trans h1)).elim
 have hrd : ∀ b g, Rd c.ρ b g → Rd (c.hid M).ρ b g := fun b g hr => by
  rcases hr with hr | ⟨h1, hr⟩
  · exact .inl (zhQ hr (hne g _ hr fun n e => by cases e))
  · exact .inr ⟨h1, zhQ hr (hne g _ hr fun n e => by cases e)⟩
 have m : Mono c (c.hid M) (Kill.hide M) (fun _ => False) := ⟨rfl, fun b g hr _ => ⟨hrd b g hr, rfl⟩, fun q r hq hk => ⟨zo9 hq hk, rfl⟩, fun r hr hk => ⟨ziq hr hk, rfl⟩, fun q _ => ⟨rfl, fun g hg _ => ⟨zhQ hg (hne g _ hg fun n e => by cases e), rfl⟩⟩⟩
 refine ⟨⟨⟨fun y => ?_, fun r cs' hb' => ?_, fun j r hg => ?_⟩, hf.ghost.out, ?_⟩, rfl, rfl, rfl, Nat.le_refl _, fun g hg hst => ⟨?_, rfl⟩, rfl, fun _ => rfl, fun _ => rfl⟩
 · exact VR.mono m _ _ _ (fun _ _ _ h => h) (hs.slots y)
 · obtain ⟨hr, cs, h1, rfl⟩ := zpJ hb'
   obtain ⟨vs, T, h2, h3, h4, h5⟩ := (hs.boxes r cs h1).out
   refine ⟨vs, T, by rw [zil]; exact h2, zhQ h3 ?_, by rw [zcW]; exact h4, fun i d v hd hv => ?_⟩
   · show c.isM M (c.β r) = false
     cases hg : c.isM M (c.β r) with
     | false => rfl
     | true =>
       obtain ⟨n, hn, _, h6, _⟩ := zcH hs h hg
       have e : Role.box r = .box (.loc n) := h3.symm.trans h6
       cases e
       exact (hr n hn rfl).elim
   · rw [zcd] at hd
     simp only [Option.map_eq_some_iff] at hd
     obtain ⟨d0, hd0, rfl⟩ := hd
     obtain ⟨h6, h7, h8⟩ := h5 i d0 v hd0 hv
     exact ⟨VR.mono m _ _ _ (fun _ _ _ h => h) h6, h7, zfT h8⟩
 · have hg' : c.s.get (.lent j) = some r := hg
   exact (hs.lent j r hg').mono m (fun h => h)
 · show ((c.s.t X).kill (Kill.hide M)).hasOwn = false
   rw [zaA]
   exact hf.ghost.own
 · refine zhQ rfl (hne g _ rfl fun n e => ?_)
   rw [e] at hst
   exact hst
theorem zh4 {d : D} (h : zhF d = true) : d = .junk := by
 unfold zhF at h
 split at h
 · rfl
 · cases h
def Cx.shown (c c' : Cx) (M : List Nat) (dst : Option Nat) : Cx :=
 { c' with
   ρ := fun g => match c.isM M g with | true => c.ρ g | false => c'.ρ g
   β := fun r => match r with | .loc n => (match memN n M with | true => c.β (.loc n) | false => c'.β (.loc n)) | .up n => c'.β (.up n)
   s := c'.s.shown M dst c.s }
theorem zja {M : List Nat} {dst : Option Nat} {s0 s : St} (y : Nat) : (s.shown M dst s0).t y = s.t y ∨ ∃ n o, n ∈ M ∧ s0.t y = .ptr (.loc n) o ∧ s.t y = .junk ∧ dst ≠ some y ∧ (s.shown M dst s0).t y = .ptr (.loc n) o := by
 simp only [St.shown]
 split
 · rename_i n o e
   split
   · rename_i hc
     simp only [Bool.and_eq_true] at hc
     refine .inr ⟨n, o, memN_iff.1 hc.1.1, by rw [e], zh4 hc.1.2, fun hd => ?_, rfl⟩
     rw [hd] at hc
     have := hc.2
     simp at this
   · exact .inl rfl
 · exact .inl rfl
theorem zjd {M : List Nat} {c' : Cx} {a' : Act} {v : Value} (hf : Fr X c a) (h : zm8 M c.s = true) (he : Ext (c.hid M) c') (hf' : Fr X c' a') (hsz : a'.tmps.size = a.tmps.size) (htm : a'.tmps = (a.put o.dst v).tmps)
 (hno : M.all (fun n => (c'.s.b n).isNone) = true) : Fr X (c.shown c' M o.dst) a' ∧ Ext c (c.shown c' M o.dst) := by
 have hs := hf.sim
 have hs' := hf'.sim
 have hnone : ∀ n ∈ M, c'.s.b n = none := fun n hn => by simpa using (List.all_eq_true.1 hno) n hn
 have hoth : ∀ g, c.isM M g = true → c'.ρ g = .oth ∧ c'.W.heap[g]? = c.W.heap[g]? := fun g hg => by
  obtain ⟨n, _, _, _, hlt⟩ := zcH hs h hg
  have hr : (c.hid M).ρ g = .oth := by
   show (match c.isM M g with | true => Role.oth | false => c.ρ g) = .oth
   rw [hg]
  obtain ⟨h1, h2⟩ := he.keep g hlt (by rw [hr]; trivial)
  exact ⟨h1.trans hr, h2⟩
 have hne : ∀ g r, c'.ρ g = r → r ≠ .oth → c.isM M g = false := fun g r hr hn => by
  cases hg : c.isM M g with
  | false => rfl
  | true => exact (hn (hr.symm.trans (hoth g hg).1)).elim
 have hρ : ∀ g r, c'.ρ g = r → r ≠ .oth → (c.shown c' M o.dst).ρ g = r := fun g r hr hn => by
  show (match c.isM M g with | true => c.ρ g | false => c'.ρ g) = r
  rw [hne g r hr hn]; exact hr
 have hrd : ∀ b g, Rd c'.ρ b g → Rd (c.shown c' M o.dst).ρ b g := fun b g hr => by
  rcases hr with hr | ⟨h1, hr⟩
  · exact .inl (hρ g _ hr (fun e => by cases e))
  · exact .inr ⟨h1, hρ g _ hr (fun e => by cases e)⟩
 have hmem : ∀ n, memN n M = true → c'.s.b n = none := fun n hn => hnone n (memN_iff.1 hn)
 have hbox : ∀ r cs, c'.s.box r = some cs → (c.shown c' M o.dst).s.box r = some cs ∧ (c.shown c' M o.dst).β r = c'.β r := fun r cs hb => by
  cases r with
  | loc n =>
    have hb : c'.s.b n = some cs := hb
    have hm : memN n M = false := by
     cases hm : memN n M with
     | false => rfl
     | true => rw [hmem n hm] at hb; cases hb
    refine ⟨?_, ?_⟩
    · show (match memN n M with | true => c.s.b n | false => c'.s.b n) = some cs
      rw [hm]; exact hb
    · show (match memN n M with | true => c.β (.loc n) | false => c'.β (.loc n)) = _
      rw [hm]
  | up n => exact ⟨hb, rfl⟩
 have hget : ∀ q r, c'.s.get q = some r → (c.shown c' M o.dst).s.get q = some r := fun q r hq => by
  cases q with
  | slot y l =>
    show (D.at_ l ((c'.s.shown M o.dst c.s).t y)).row? = _
    have hq' : (D.at_ l (c'.s.t y)).row? = some r := hq
    rcases zja (M := M) (dst := o.dst) (s0 := c.s) (s := c'.s) y with e | ⟨n, k, _, _, e, _, _⟩
    · rw [e]; exact hq'
    · rw [e] at hq'
      cases l <;> cases hq'
  | cell r0 k =>
    simp only [St.get, Option.bind_eq_some_iff] at hq ⊢
    obtain ⟨cs, h1, d, h2, h3⟩ := hq
    exact ⟨cs, (hbox r0 cs h1).1, d, h2, h3⟩
  | lent j => exact hq
 have m : Mono c' (c.shown c' M o.dst) Kill.none (fun _ => False) := ⟨rfl, fun b g hr _ => ⟨hrd b g hr, rfl⟩, fun q r hq _ => ⟨hget q r hq, rfl⟩, fun r hr _ => (by
  obtain ⟨cs, hcs⟩ := Option.isSome_iff_exists.1 hr
  obtain ⟨h1, h2⟩ := hbox r cs hcs
  exact ⟨by rw [h1]; rfl, h2⟩), fun q _ => ⟨rfl, fun g hg _ => ⟨hρ g _ hg (fun e => by cases e), rfl⟩⟩⟩
 have hMbox : ∀ n ∈ M, (c.shown c' M o.dst).s.box (.loc n) = c.s.b n ∧ (c.shown c' M o.dst).β (.loc n) = c.β (.loc n) := fun n hn => by
  have hm := memN_iff.2 hn
  refine ⟨?_, ?_⟩
  · show (match memN n M with | true => c.s.b n | false => c'.s.b n) = _
    rw [hm]
  · show (match memN n M with | true => c.β (.loc n) | false => c'.β (.loc n)) = _
    rw [hm]
 refine ⟨⟨⟨fun y => ?_, fun r cs hb => ?_, fun j r hg => ?_⟩, hf'.ghost.out, ?_⟩, ?_⟩
 · show VR _ _ ((c'.s.shown M o.dst c.s).t y) _
   rcases zja (M := M) (dst := o.dst) (s0 := c.s) (s := c'.s) y with e | ⟨n, k, hn, e0, _, hd, e⟩
   · rw [e]
     exact VR.same m (fun _ _ _ h => h) (hs'.slots y)
   · rw [e]
     obtain ⟨h1, h2⟩ := hMbox n hn
     obtain ⟨_, cs, hcs, _⟩ := ze6 h hn
     have hv := hs.slots y
     rw [e0] at hv
     have et : a'.tmps.getD y undef = a.tmps.getD y undef := by
      rw [htm]
      cases hdd : o.dst with
      | none => rfl
      | some x =>
        have hxy : x ≠ y := fun e => hd (by rw [hdd, e])
        simp [Act.put, Array.getD_eq_getD_getElem?, Array.getElem?_setIfInBounds_ne hxy]
     refine ⟨by rw [h1, hcs]; rfl, ?_⟩
     rw [et, h2]
     exact hv.2
 · by_cases hr : ∃ n ∈ M, r = .loc n
   · obtain ⟨n, hn, rfl⟩ := hr
     obtain ⟨h1, h2⟩ := hMbox n hn
     rw [h1] at hb
     obtain ⟨_, cs', hcs, hdat⟩ := ze6 h hn
     rw [hcs] at hb
     cases hb
     obtain ⟨vs, T, h3, h4, h5, h6⟩ := (hs.boxes (.loc n) _ hcs).out
     have hM : c.isM M (c.β (.loc n)) = true := isM_iff.2 ⟨n, hn, rfl⟩
     refine ⟨vs, T, ?_, ?_, h5, fun i d v hd hv => ?_⟩
     · rw [h2]
       exact (hoth _ hM).2.trans h3
     · rw [h2]
       show (match c.isM M (c.β (.loc n)) with | true => c.ρ (c.β (.loc n)) | false => c'.ρ (c.β (.loc n))) = _
       rw [hM]
       exact h4
     · obtain ⟨h7, h8, h9⟩ := h6 i d v hd hv
       obtain ⟨x, rfl⟩ := hdat d (List.mem_of_getElem? hd)
       refine ⟨?_, h8, h9⟩
       obtain ⟨cv, h10, h11⟩ := h7
       refine ⟨cv, h10.mono fun b g hr hg => ?_, h11⟩
       have hgM : c.isM M g = false := by
        cases hgM : c.isM M g with
        | false => rfl
        | true =>
          obtain ⟨k, _, _, h12, _⟩ := zcH hs h hgM
          rcases hr with hr | ⟨_, hr⟩ <;> (rw [h12] at hr; cases hr)
       have hr1 : Rd (c.hid M).ρ b g := by
        rcases hr with hr | ⟨h1, hr⟩
        · exact .inl (zhQ hr hgM)
        · exact .inr ⟨h1, zhQ hr hgM⟩
       obtain ⟨h13, h14⟩ := he.rd b g hr1 hg
       exact ⟨hrd b g h13, h14⟩
   · have hbc : c'.s.box r = some cs := by
      cases r with
      | loc n =>
        have hm : memN n M = false := by
         cases hm : memN n M with
         | false => rfl
         | true => exact (hr ⟨n, memN_iff.1 hm, rfl⟩).elim
        have hb' : (match memN n M with | true => c.s.b n | false => c'.s.b n) = some cs := hb
        rw [hm] at hb'
        exact hb'
      | up n => exact hb
     obtain ⟨vs, T, h3, h4, h5, h6⟩ := (hs'.boxes r cs hbc).out
     have hβ := (hbox r cs hbc).2
     refine ⟨vs, T, by rw [hβ]; exact h3, by rw [hβ]; exact hρ _ _ h4 (fun e => by cases e), h5, fun i d v hd hv => ?_⟩
     obtain ⟨h7, h8, h9⟩ := h6 i d v hd hv
     exact ⟨VR.same m (fun _ _ _ h => h) h7, h8, h9⟩
 · have hg' : c'.s.get (.lent j) = some r := hg
   exact (hs'.lent j r hg').mono m (fun h => h)
 · show ((c'.s.shown M o.dst c.s).t X).hasOwn = false
   rcases zja (M := M) (dst := o.dst) (s0 := c.s) (s := c'.s) X with e | ⟨n, k, hn, e0, _, hd, e⟩
   · rw [e]; exact hf'.ghost.own
   · rw [e]; rfl
 · refine ⟨he.os, he.tape, he.output, he.size, fun g hg hst => ?_, he.ty, fun n => he.up n, fun j => he.lentH j⟩
   have hgM : c.isM M g = false := by
    cases hgM : c.isM M g with
    | false => rfl
    | true =>
      obtain ⟨k, _, _, h12, _⟩ := zcH hs h hgM
      rw [h12] at hst
      exact hst.elim
   have h1 : (c.hid M).ρ g = c.ρ g := zhQ rfl hgM
   obtain ⟨h2, h3⟩ := he.keep g hg (by rw [h1]; exact hst)
   refine ⟨?_, h3⟩
   show (match c.isM M g with | true => c.ρ g | false => c'.ρ g) = _
   rw [hgM]
   exact h2.trans h1
end
end Go.Den
namespace Go.Den
open Go Go.RowKit
set_option linter.unusedVariables false
theorem znw {s : St} {n : Nat} (h : s.t n = .junk) : s.put n .junk = s := by
 have ho : (s.t n).hasOwn = false := by rw [h]; rfl
 unfold St.put
 rw [ho]
 cases s with
 | mk t b u l =>
   simp only [St.mk.injEq, and_true]
   funext y
   cases hb : Nat.beq y n with
   | true => rw [beq_eq.1 hb]; exact h.symm
   | false => rfl
section
variable {P : Program} {c : Cx} {a : Act} {o : Oper} {X : Nat}
theorem zi8 {n : Nat} {ob : Obj} {v : Value} (hf : Fr X c a) (hn : n < a.tmps.size) (hj : c.s.t n = .junk) :
 ∃ c', c'.s = c.s ∧ c'.W = c.W.alloc ob ∧ Fr X c' (a.put (some n) v) ∧ Ext c c' ∧ (∀ g, g < c.W.heap.size → c'.ρ g = c.ρ g) ∧ c'.ρ c.W.heap.size = .oth := by
 let c1 : Cx := { c with ρ := fun g => if g = c.W.heap.size then .oth else c.ρ g, W := c.W.alloc ob }
 have hρ : ∀ g, g < c.W.heap.size → c1.ρ g = c.ρ g := fun g hg => if_neg (by omega)
 have hg : Grown c c1 n := ⟨rfl, rfl, rfl, ⟨rfl, rfl, rfl, by show c.W.heap.size ≤ (c.W.alloc ob).heap.size; simp, fun k hk => Below.heap_alloc c.W ob k hk⟩, hρ, fun _ _ => rfl⟩
 have hsim := hg.put hf.sim hn (d := .junk) (v := v) trivial
 have hne : X ≠ n := Nat.ne_of_gt (Nat.lt_of_lt_of_le hn hf.ghost.out)
 have e := hg.ext
 refine ⟨{ c1 with s := c.s.put n .junk }, znw hj, rfl, ⟨hsim, by simpa [Act.put] using hf.ghost.out, za2 hne hf.ghost.own⟩, ⟨e.os, e.tape, e.output, e.size, e.keep, e.ty, e.up, e.lentH⟩, hρ, if_pos rfl⟩
theorem zi0 {tm : Array Value} {n g : Nat} {cs : List D} {vs : List Value} {T : TypeId} (hs : Sim c tm) (hX : Ghost c tm X) (hn : n < tm.size) (hb : c.s.b n = none) (hM : isM cs = false) (hl : vs.length = cs.length)
 (hv : ∀ (i : Nat) (d : D) (v : Value), cs[i]? = some d → vs[i]? = some v → VR c (.slot X [i]) d v ∧ v.oneCell' = true ∧ zau d = true)
 (hg : c.ρ g = .oth) (hgh : c.W.heap[g]? = some (.cells vs.toArray T (0, 0))) (htm : tm.getD n undef = .pointer (some ⟨g, 0, none⟩)) :
 ∃ c1, c1.W = c.W ∧ c1.s = ((c.s.setBox (.loc n) cs).put n (.ptr (.loc n) 0)) ∧ Sim c1 tm ∧ (∀ c0, Ext c0 c → c0.W.heap.size ≤ g → Ext c0 c1) ∧ (∀ k, k ≠ g → stable (c.ρ k) → c1.ρ k = c.ρ k) ∧ (∀ b k, Rd c1.ρ b k → Rd c.ρ b k) := by
 have hbx : c.s.box (.loc n) = none := hb
 let h := c.home X (zdA (.loc n) 0) (za0 (.loc n) 0 cs.length)
 let c1 : Cx := { h with ρ := fun k => if k = g then .box (.loc n) else h.ρ k, β := fun r => match r.is (.loc n) with | true => g | false => c.β r, W := c.W, s := c.s.setBox (.loc n) cs }
 have hρ : ∀ k, k ≠ g → c1.ρ k = h.ρ k := fun k hk => if_neg hk
 have hng : ∀ k r, c.ρ k = r → r ≠ .oth → k ≠ g := fun k r hk hr e => hr (by rw [← hk, e, hg])
 have hβ : ∀ r, r ≠ .loc n → c1.β r = c.β r := fun r hr => by
  have : r.is (.loc n) = false := by
   cases e : r.is (.loc n) with
   | true => exact absurd (Ref.is_eq.1 e) hr
   | false => rfl
  simp only [c1, this]
 have hsome : ∀ r, (c.s.box r).isSome = true → r ≠ .loc n := fun r hr e => by rw [e, hbx] at hr; cases hr
 have hget : ∀ q r, c.s.get q = some r → ∀ o, q ≠ .cell (.loc n) o := fun q r hq o e => by
  rw [e] at hq
  simp [St.get, hbx] at hq
 have hH : ∀ q, (∀ o, q ≠ .cell (.loc n) o) → c1.H q = c.H q := fun q hq => by
  have : za0 (.loc n) 0 cs.length q = none := by
   cases q with
   | cell r o =>
     have : r.is (.loc n) = false := by
      cases e : r.is (.loc n) with
      | true => exact absurd (by rw [Ref.is_eq.1 e]) (hq o)
      | false => rfl
     simp [za0, this]
   | _ => rfl
  show h.H q = c.H q
  simp only [h, Cx.home, this]
 have hrd : ∀ b k, Rd c.ρ b k → k < c.W.heap.size → Rd c1.ρ b k ∧ c1.W.heap[k]? = c.W.heap[k]? := fun b k hr hk => ⟨by
  have hkg : k ≠ g := by
   rcases hr with hr | ⟨_, hr⟩
   · exact hng k _ hr (fun e => by cases e)
   · exact hng k _ hr (fun e => by cases e)
  unfold Rd
  rw [hρ k hkg]
  exact Cx.home_rd b k hr, rfl⟩
 have hbs : ∀ r, r ≠ .loc n → c1.s.box r = c.s.box r := fun r hr => za8 hr
 have m : Mono c c1 Kill.none (fun q => (∃ o, q = .cell (.loc n) o) ∨ zaL X q) := by
  refine ⟨rfl, hrd, fun q r hq _ => ⟨?_, hH q (hget q r hq)⟩, fun r hr _ => ⟨by rw [hbs r (hsome r hr)]; exact hr, hβ r (hsome r hr)⟩, fun q hq => ⟨hH q (fun o e => hq (.inl ⟨o, e⟩)), fun k hk hlt => ⟨?_, rfl⟩⟩⟩
  · cases q with
    | slot y l => show ((D.at_ l ((c.s.setBox (.loc n) cs).t y)).row? = _); rw [setBox_tl.1]; exact hq
    | cell r' o =>
      have hne : r' ≠ .loc n := fun e => hget _ r hq o (by rw [e])
      simp only [St.get] at hq ⊢
      rw [hbs r' hne]
      exact hq
    | lent j => simp only [St.get] at hq ⊢; rw [show c1.s.l = c.s.l from setBox_tl.2]; exact hq
  · rw [hρ k (hng k _ hk (fun e => by cases e)), Cx.home_ρ k (fun l e => by rw [hk] at e; injection e with e; exact hq (.inr ⟨l, e⟩))]
    exact hk
 have hb1 : c1.β (.loc n) = g := by
  have : (Ref.loc n).is (.loc n) = true := Ref.is_eq.2 rfl
  simp only [c1, this]
 have hnew : BoxOK c1 (.loc n) cs := by
  refine ⟨vs, ⟨T, fun _ => 0⟩, ?_, ?_, hl, fun i d v hd hvv => ?_⟩
  · rw [hb1, hM]
    exact hgh
  · rw [hb1]
    exact if_pos rfl
  · obtain ⟨h1, h2, h3⟩ := hv i d v hd hvv
    refine ⟨?_, h2, h3⟩
    have hlt : i < cs.length := (List.getElem?_eq_some_iff.1 hd).1
    refine zbJ (c := c) (c1 := c1) (sl := false) (X := X) (fwd := fun l => match l with | [j] => if j < cs.length then some (.cell (.loc n) j) else none | _ => none) ⟨rfl, hrd, fun l q hl' => ?_, fun r hr => ⟨by rw [hbs r (hsome r hr)]; exact hr, hβ r (hsome r hr)⟩, fun q r hf => by cases hf⟩ d [i] (.cell (.loc n) i) v (by cases d <;> simp [zau] at h3 <;> rfl) h1 (fun l r hr => ?_)
    · split at hl'
      · rename_i j
        split at hl'
        · rename_i hj
          cases hl'
          refine ⟨?_, fun k hk hlt => ⟨?_, rfl⟩⟩
          · have : za0 (.loc n) 0 cs.length (.cell (.loc n) j) = some [j] := by
             have e1 : (Ref.loc n).is (.loc n) = true := Ref.is_eq.2 rfl
             have e2 : Nat.ble 0 j = true := by simp
             have e3 : Nat.blt j (0 + cs.length) = true := by simp [Nat.blt]; omega
             simp only [za0, e1, e2, e3, Bool.and_self, Nat.sub_zero]
            show h.H _ = _
            simp only [h, Cx.home, this]
          · rw [hρ k (hng k _ hk (fun e => by cases e))]
            exact Cx.home_row hk (by simp [zdA])
        · cases hl'
      · cases hl'
    · cases l with
      | nil => simp [hlt, Pl.subs]
      | cons j l => cases d <;> simp [D.at_, D.row?, zau] at hr h3
 have hsim : Sim c1 tm := by
  refine Sim.setBox (r := .loc n) (cs := cs) (K := Kill.none) hs m (fun _ => rfl) (by rw [zdv]) (fun q r' hq e => ?_) (fun r' hne hr' => ?_) hnew
  · rcases e with ⟨o, e⟩ | e
    · exact ⟨o, e⟩
    · exact (hX.get hq e).elim
  · obtain ⟨cs', hb'⟩ := Option.isSome_iff_exists.1 hr'
    have hlt := (hs.boxes r' cs' hb').lt
    obtain ⟨vs', T', h1, h2, _⟩ := (hs.boxes r' cs' hb').out
    refine ⟨?_, rfl⟩
    rw [hρ _ (hng _ _ h2 (fun e => by cases e)), Cx.home_ρ _ (fun l e => by rw [h2] at e; cases e)]
    exact h2
 have htm' : tm.setIfInBounds n (.pointer (some ⟨g, 0, none⟩)) = tm := by
  apply Array.ext (by simp)
  intro i h1 h2
  by_cases e : n = i
  · subst e
    simp only [Array.getElem_setIfInBounds_self]
    rw [← htm]
    simp [Array.getD, h2]
  · rw [Array.getElem_setIfInBounds_ne h2 e]
 refine ⟨{ c1 with s := c1.s.put n (.ptr (.loc n) 0) }, rfl, rfl, ?_, fun c0 he hlt => ?_, fun k hk hst => ?_, fun b k hr => ?_⟩
 · have := Sim.put (c1 := c1) (x := n) (d := .ptr (.loc n) 0) (v := .pointer (some ⟨g, 0, none⟩)) hsim hn rfl ⟨rfl, fun b g h _ => ⟨h, rfl⟩, fun q r h _ => ⟨h, rfl⟩, fun r h _ => ⟨h, rfl⟩, fun q _ => ⟨rfl, fun g h _ => ⟨h, rfl⟩⟩⟩ (fun r _ => ⟨rfl, rfl, rfl⟩) ⟨by
    show ((c.s.setBox (.loc n) cs).box (.loc n)).isSome = true
    have hb2 : Nat.beq n n = true := beq_eq.2 rfl
    simp only [St.setBox, St.box, hb2]
    rfl, by rw [hb1]⟩
   rwa [htm'] at this
 · refine ⟨he.os, he.tape, he.output, he.size, fun k hk hst => ?_, he.ty, fun k => (hβ (.up k) (fun e => by cases e)).trans (he.up k), fun j => ?_⟩
   · obtain ⟨h1, h2⟩ := he.keep k hk hst
     refine ⟨?_, h2⟩
     show c1.ρ k = _
     rw [hρ k (by omega), ← h1]
     exact Cx.home_stable (by rw [h1]; exact hst)
   · show h.H (.lent j) = _
     exact (hH (.lent j) (fun o e => by cases e)).trans (he.lentH j)
 · show c1.ρ k = _
   rw [hρ k hk]
   exact Cx.home_stable hst
 · have hr' : Rd c1.ρ b k := hr
   have hkg : k ≠ g := fun e => by
    subst e
    have h1 : c1.ρ k = .box (.loc n) := if_pos rfl
    rcases hr' with hr | ⟨_, hr⟩ <;> (rw [h1] at hr; cases hr)
   unfold Rd at hr' ⊢
   rw [hρ k hkg] at hr'
   have hback : ∀ r, h.ρ k = r → (r = .set ∨ r = .out) → c.ρ k = r := fun r hk hr => by
    simp only [h, Cx.home] at hk
    split at hk
    · split at hk
      · split at hk <;> (rcases hr with hr | hr <;> (rw [← hk] at hr; cases hr))
      · rcases hr with hr | hr <;> (rw [← hk] at hr; cases hr)
    · exact hk
   rcases hr' with hr | ⟨h1, hr⟩
   · exact .inl (hback _ hr (.inl rfl))
   · exact .inr ⟨h1, hback _ hr (.inr rfl)⟩
end
end Go.Den
