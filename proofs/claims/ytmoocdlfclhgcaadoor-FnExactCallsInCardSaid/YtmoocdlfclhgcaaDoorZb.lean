/- Merged out of: D33 D34 Dt E0 G1 G2 G3 YFnExactCallsIn LFnExactCallsIn LFnExactCallsInCard (prune.py, a program of this work's). -/
import Derived.Test.YtmoocdlfclhgcaaDoorZa1
import Derived.Test.YtmoocdlfclhgcaaDoorZa5
import Derived.KernelRfl
import Derived.IntWalk
import Derived.LaidHandle
import Derived.Handed
import Derived.Stop.LaidErr
import Derived.Lib.LaidTab
import Derived.Test.YtmoocdlfclhgcaaDoorRows
import Derived.WalkKit
import Derived.ProofKit
import Derived.OpenShut
import Derived.ShutString
import Derived.ChangeOld
import Derived.Below
import Derived.Test.YtmoocdlfclhgcaaDoorCards
import Derived.Test.YtmoocdlfclhgcaaDoorTie
import Derived.SevenTiedAt
set_option linter.unusedVariables false
set_option linter.unusedSimpArgs false
set_option linter.unnecessarySimpa false
namespace Go.Den
open Go
set_option linter.unusedVariables false
inductive Hint where
 | yes
 | no
 | put (d : D)
 | to (f : St → St)
 | at (d : Dat)
 | ok
 | ret (rs : List D)
 | back (rs : List D) (u : List (List D)) (l : List (Option Row))
 | loop (s0 : St) (x : X) (s : St)
def Obs : List Prop → Prop
 | [] => True
 | p :: l => p ∧ Obs l
theorem zfC : ∀ {a b : List Prop}, Obs (a ++ b) → Obs a ∧ Obs b
 | [], b, h => ⟨trivial, h⟩
 | p :: a, b, h => by
   have h' : p ∧ Obs (a ++ b) := h
   obtain ⟨h1, h2⟩ := zfC h'.2
   exact ⟨⟨h'.1, h1⟩, h2⟩
abbrev zcn := List (Nat × Hint)
def zib : zcn → Nat → Option Hint
 | [], _ => none
 | (a, x) :: l, n => match Nat.beq a n with | true => some x | false => zib l n
def keyOf (o : Oper) : Option Nat :=
 match o.dst, o.op with
 | some n, _ => some n
 | none, .store _ (.tmp a) _ => some (100000 + a)
 | _, _ => none
def hadd {α : Type} (p : Prop) : Option (List Prop × α) → Option (List Prop × α)
 | some r => some (p :: r.1, r.2)
 | none => none
def zjQ {α : Type} (hs : zcn) (s : St) (x : Nat) (yes no : St → Option (List Prop × α)) (und : Option (List Prop × α)) : Option (List Prop × α) :=
 match s.t x with
 | .dat (.val (.bool b)) => match zib hs (200000 + x) with
   | some .yes => hadd (b = true) (yes (s.force x true))
   | some .no => hadd (b = false) (no (s.force x false))
   | _ => match b with | true => yes (s.force x true) | false => no (s.force x false)
 | .undef => und
 | _ => none
def hcond {α : Type} (hs : zcn) (s : St) (c : Operand) (yes no : St → Option (List Prop × α)) : Option (List Prop × α) :=
 match c with
 | .tmp x => zjQ hs s x yes no none
 | .const (.bool v) => match v with | true => yes s | false => no s
 | _ => none
def ziA {α : Type} (hs : zcn) (ops : Array Oper) (s : St) (g : Option (Nat × Bool)) (k z : St → Option (List Prop × α)) : Option (List Prop × α) :=
 match g with
 | none => k s
 | some (j, want) => match (ops[j]?).bind (·.dst) with
   | none => none
   | some x => match want with
     | true => zjQ hs s x k z (z s)
     | false => zjQ hs s x z k (z s)
def Env.with (E : Env) (q : List D × List (List D) × List (Option Row)) : Env := { E with call := fun _ _ _ _ => some q }
def zdf (E : Env) (s : St) (o : Oper) : Option (Nat × List D × Bool) :=
 match o.op with
 | .call ca => match ca.callee with
   | .value z => match s.look z with
     | .fn f [] => match zbb (E.mode f) with
       | true => (match zeh s.get (zau E s.look ca.args.toList ca.argTypes.toList) with
         | some r => some (f, r.1.map .dat, r.2)
         | none => none)
       | false => none
     | _ => none
   | _ => none
 | _ => none
def zjZ (E : Env) (s : St) (f : Nat) (cap : List Ref) (args : List D) : Option (List D × List (List D) × List (Option Row)) :=
 (zal (E.mode f) args s).bind fun a =>
 (zax a.2.get (E.mode f) a.1).bind fun ls =>
 match zaJ ls with
 | false => none
 | true => match cap.isEmpty && a.1.all zgj with
   | true => (zaq (hide ls false a.2.get) 0 [] (E.mode f) 0 a.1).map fun v => (v.1, [], ls.map fun p => some p.2)
   | false => match ls.all fun p => !p.1.ofCell with
     | false => none
     | true =>
       let keys := a.2.sent E.nt cap a.1; let m := a.2.upsSent keys cap a.1
       (zaq (hide ls true a.2.get) m keys (E.mode f) 0 a.1).bind fun v =>
       (zbB m keys cap).bind fun caps =>
       (zdF a.2 keys).bind fun bs => (zb6 m keys (a.2.u.take m ++ bs)).map fun us => (v.1 ++ caps.map (fun r => D.ptr r 0), us, ls.map fun p => some p.2)
def zcZ (E : Env) (s : St) (o : Oper) : Option (Nat × List D × List (List D) × List (Option Row)) :=
 match o.op with
 | .call ca => match ca.callee with
   | .value z => match s.look z with
     | .fn f cap => match cap.isEmpty && (zbb (E.mode f) && (zeh s.get (zau E s.look ca.args.toList ca.argTypes.toList)).isSome) with
       | true => none
       | false => (zjZ E s f cap (zau E s.look ca.args.toList ca.argTypes.toList)).map fun r => (f, r)
     | _ => none
   | _ => none
 | _ => none
theorem zeJ {E : Env} {s : St} {o : Oper} {rs : List D} {f : Nat} {args : List D} {fl : Bool} (h : zdf E s o = some (f, args, fl)) (hpl : D.plains rs = true) (hfl : fl = true → D.cleans rs = true) (hc : E.call f args [] [] = some (rs, [], [])) : evOp E s.look s.get s.box o.type o.op = some (.pure (retD rs)) ∧ evOp (E.with (rs, [], [])) s.look s.get s.box o.type o.op = some (.pure (retD rs)) := by
 unfold zdf at h
 split at h
 · rename_i ca ho
   split at h
   · rename_i z hz
     split at h
     · rename_i f' hf
       split at h
       · rename_i hm
         split at h
         · rename_i r hr
           · cases h
             have hcl : (r.2 && !D.cleans rs) = false := by
              cases hr2 : r.2 with
              | false => rfl
              | true => rw [hfl hr2]; rfl
             rw [ho]
             refine ⟨?_, ?_⟩
             · simp only [evOp, hz, hf, zcY, hm, hr, Option.bind_some, hc, zjR, hpl, hcl]
             · have hm' : zbb ((E.with (rs, [], [])).mode f) = true := hm
               have hr' : zeh s.get (zau (E.with (rs, [], [])) s.look ca.args.toList ca.argTypes.toList) = some r := by
                rw [← hr]
                congr 1
                generalize ca.args.toList = zs
                generalize ca.argTypes.toList = ts
                induction zs generalizing ts with
                | nil => rfl
                | cons z zs ih => simp only [zau, ih]; rfl
               have hcc : (E.with (rs, [], [])).call f (r.1.map .dat) [] [] = some (rs, [], []) := rfl
               simp only [evOp, hz, hf, zcY, hm', hr', Option.bind_some, hcc, zjR, hpl, hcl]
         · cases h
       · cases h
     · cases h
   · cases h
 · cases h
theorem zjl {E : Env} {s : St} {o : Oper} {rs : List D} {f : Nat} {args : List D} {cs : List D} {l : List (Option Row)} (h : zdf E s o = some (f, args, false)) (hpl : D.plains rs = false) (hc : E.call f args [] [] = some (rs, [cs], l)) : evOp E s.look s.get s.box o.type o.op = some (.made cs) := by
 unfold zdf at h
 split at h
 · rename_i ca ho
   split at h
   · rename_i z hz
     split at h
     · rename_i f' hf
       split at h
       · rename_i hm
         split at h
         · rename_i r hr
           have h1 : r.2 = false := by injection h with h; injection h with _ h; injection h with _ h
           have h2 : f' = f ∧ r.1.map D.dat = args := by injection h with h; injection h with h3 h; injection h with h4 _; exact ⟨h3, h4⟩
           obtain ⟨rfl, rfl⟩ := h2
           rw [ho]
           simp only [evOp, hz, hf, zcY, hm, hr, Option.bind_some, hc, zjR, hpl, h1]
         · cases h
       · cases h
     · cases h
   · cases h
 · cases h
theorem zcK {E : Env} {q : List D × List (List D) × List (Option Row)} {lk : Operand → D} : ∀ (zs : List Operand) (ts : List Nat), zau (E.with q) lk zs ts = zau E lk zs ts
 | [], ts => rfl
 | z :: zs, ts => by simp only [zau, zcK zs]; rfl
theorem ze6 {E : Env} {s : St} {o : Oper} {q : List D × List (List D) × List (Option Row)} {r : Nat × List D × List (List D) × List (Option Row)} (h : zcZ E s o = some r) (hc : E.call r.1 r.2.1 r.2.2.1 r.2.2.2 = some q) : step E s o = step (E.with q) s o := by
 unfold zcZ at h
 split at h
 · rename_i ca ho
   split at h
   · rename_i z hz
     split at h
     · rename_i f cap hf
       split at h
       · cases h
       · rename_i hdead
         simp only [Option.map_eq_some_iff] at h
         obtain ⟨⟨a, u, l⟩, hdo, rfl⟩ := h
         simp only at hc
         have hev : ∀ E', E'.mode = E.mode → zau E' s.look ca.args.toList ca.argTypes.toList = zau E s.look ca.args.toList ca.argTypes.toList → evOp E' s.look s.get s.box o.type o.op = none := by
          intro E' hm ha
          rw [ho]
          simp only [evOp, hz, hf]
          cases cap with
          | cons r rs => rfl
          | nil =>
            simp only [List.isEmpty_nil, Bool.true_and] at hdead
            simp only [zcY, hm, ha]
            cases hz : zbb (E.mode f) with
            | false => rfl
            | true =>
              rw [hz, Bool.true_and] at hdead
              cases hv : zeh s.get (zau E s.look ca.args.toList ca.argTypes.toList) with
              | none => rfl
              | some r => rw [hv] at hdead; cases hdead
         unfold step
         rw [hev E rfl rfl, hev (E.with q) rfl (zcK _ _)]
         simp only [ho, doOp, hz, hf, zcK]
         unfold zjZ at hdo
         unfold zfA
         simp only [Option.bind_eq_some_iff] at hdo
         obtain ⟨a1, h1, ls, h2, hdo⟩ := hdo
         have h1' : zal ((E.with q).mode f) (zau E s.look ca.args.toList ca.argTypes.toList) s = some a1 := h1
         have h2' : zax a1.2.get ((E.with q).mode f) a1.1 = some ls := h2
         simp only [h1, h1', h2, h2', Option.bind_some]
         split at hdo
         · cases hdo
         · rename_i hdis
           simp only [hdis]
           split at hdo
           · rename_i hcl
             simp only [hcl]
             simp only [Option.map_eq_some_iff, Prod.mk.injEq] at hdo
             obtain ⟨v, hv, rfl, rfl, rfl⟩ := hdo
             have hv' : zaq (hide ls false a1.2.get) 0 [] ((E.with q).mode f) 0 a1.1 = some v := hv
             simp only [hv, hv', Option.bind_some, hc]
             rfl
           · rename_i hcl
             simp only [hcl]
             split at hdo
             · cases hdo
             · rename_i hnc
               simp only [hnc]
               simp only [Option.bind_eq_some_iff, Option.map_eq_some_iff, Prod.mk.injEq] at hdo
               obtain ⟨v, hv, caps, hcaps, bs, hbs, us, hus, rfl, rfl, rfl⟩ := hdo
               have hv' : zaq (hide ls true a1.2.get) (a1.2.upsSent (a1.2.sent (E.with q).nt cap a1.1) cap a1.1) (a1.2.sent (E.with q).nt cap a1.1) ((E.with q).mode f) 0 a1.1 = some v := hv
               have e2 : (E.with q).nt = E.nt := rfl
               simp only [e2] at hv' ⊢
               simp only [hv, hv', Option.bind_some, hcaps, hbs, hus, hc]
               rfl
     · cases h
   · cases h
 · cases h
def zkY (E : Env) (s : St) (hd : Option Dat) : Op → Option (Prop × D)
 | .indexAddr t x i => (E.ty t).bind fun k => match k.kind with
   | .slice e => (E.ty e).bind fun j => (intOf (s.look i)).bind fun n => match s.look x, hd with
     | .dat (.lst b es), some d => (match Nat.beq d.cells.length j.sz with | true => some ((0 ≤ n ∧ n < es.length) ∧ es[n.toNat]? = some d, .ep b d.cells) | false => none)
     | .bor p m, none => (s.get p).bind fun r => match Nat.beq r.1 e with | true => some (0 ≤ n ∧ n < (zaP m r.2).length, .bp p n.toNat 0) | false => none
     | _, _ => none
   | _ => none
 | .load t x => (E.ty t).bind fun i => match s.look x, hd with
   | .bp p j o, some d => (s.get p).bind fun r => (zcp i (d.cells.drop o)).map fun x => (r.2[j]? = some d, .dat x)
   | _, _ => none
 | .slice t x lo hi mx => match mx with
   | none => (zcE E.ty t).bind fun st => (zcj s.look lo).bind fun l => (zcj s.look hi).bind fun h => match st, s.look x with
     | none, .dat (.val (.string b)) => some (0 ≤ l.getD 0 ∧ l.getD 0 ≤ h.getD b.size ∧ h.getD b.size ≤ b.size, .dat (.val (.string (b.extract (l.getD 0).toNat (h.getD b.size).toNat))))
     | some n, .dat (.lst b es) => some ((0 ≤ l.getD 0 ∧ l.getD 0 ≤ h.getD es.length ∧ h.getD es.length ≤ es.length) ∧ wid n es = true, .dat (.lst b ((es.take (h.getD es.length).toNat).drop (l.getD 0).toNat)))
     | some n, .bor p m => (match l, h with
       | none, some h => (s.get p).bind fun r => some (0 ≤ h ∧ h ≤ (zaP m r.2).length, .bor p (some h.toNat))
       | some l, none => (match m with | none => (s.get p).bind fun r => (E.ty r.1).bind fun i => (match Nat.beq i.sz n with | true => some (0 ≤ l ∧ l ≤ r.2.length, .sb p l.toNat n) | false => none) | some _ => none)
       | _, _ => none)
     | _, _ => none
   | some _ => none
 | .index t x i => (E.ty t).bind fun k => (intOf (s.look i)).bind fun n => match s.look x, k.kind with
   | .dat (.val (.string s)), .str => some (0 ≤ n ∧ n < s.size, .dat (.val (.int .u8 ((s[n.toNat]?).getD 0).toNat)))
   | _, _ => none
 | .binOp op t x y _ => match op, s.look x, s.look y, hd with
   | .rem, .dat (.val (.int k a)), .dat (.val (.int k' b)), none => match decide (k = k') with
     | true => some (b ≠ 0, .dat (.val (.int k (a.tmod b))))
     | false => none
   | .quo, .dat (.val (.int k a)), .dat (.val (.int k' b)), none => match decide (k = k') with
     | true => some (b ≠ 0, .dat (.val (.int k (k.wrap (a.tdiv b)))))
     | false => none
   | .add, .dat (.val (.string a)), .dat (.val (.string b)), none => some (a.size + b.size ≤ 9223372036854775807, .dat (.val (.string (a ++ b))))
   | _, _, _, _ => none
 | .makeSlice t l c => (E.ty t).bind fun i => match i.kind with
   | .slice e => (E.ty e).bind fun j => j.zeroD.bind fun z => (intOf (s.look l)).bind fun n => (intOf (s.look c)).bind fun m =>
     match Nat.ble j.bytes 65536 with
     | true => some (0 ≤ n ∧ n ≤ m ∧ m ≤ 2147483648, .own e (List.replicate n.toNat z))
     | false => none
   | _ => none
 | .lookup t m k ok => (E.ty t).bind fun i => match i.kind with
   | .map kt et => (E.ty kt).bind fun kj => (E.ty et).bind fun ej => match ziW kj.kind, s.look m, s.look k, hd, ok with
     | true, .etc (.map r), .dat (.val kv), some (.val b), false => (s.box r).bind fun cs => match isM cs with
       | true => some (zdh kj.kind kv cs.tail = some (some b), .dat (.val b))
       | false => none
     | _, _, _, _, _ => none
   | _ => none
 | _ => none
theorem zev {E : Env} {s : St} {hd : Option Dat} {op : Op} {ty : Nat} {p : Prop} {d : D} (h : zkY E s hd op = some (p, d)) (hp : p) : evOp E s.look s.get s.box ty op = some (.pure d) := by
 unfold zkY at h
 split at h
 · rename_i t x i
   simp only [Option.bind_eq_some_iff] at h
   obtain ⟨k, hk, h⟩ := h
   simp only [evOp, hk, Option.bind_some]
   split at h
   · rename_i e hke
     simp only [Option.bind_eq_some_iff] at h
     obtain ⟨j, hj, n, hn, h⟩ := h
     simp only [hke, hj, Option.bind_some, hn]
     split at h
     · rename_i b es dd hx
       split at h
       · rename_i hb
         cases h
         obtain ⟨h1, h2⟩ := hp
         simp only [hx, zbF, h1, h2, and_self, if_true, Option.bind_some, hb, Option.map_some]
       · cases h
     · rename_i pl m hx
       simp only [Option.bind_eq_some_iff] at h
       obtain ⟨r, hr, h⟩ := h
       split at h
       · rename_i hb
         cases h
         simp only [hx, zbF, hr, Option.bind_some, hb, hp, and_self, if_true, Option.map_some]
       · cases h
     · cases h
   · cases h
 · rename_i t x
   simp only [Option.bind_eq_some_iff] at h
   obtain ⟨i, hi, h⟩ := h
   simp only [evOp, hi, Option.bind_some]
   split at h
   · rename_i pl j o dd hx
     simp only [Option.bind_eq_some_iff, Option.map_eq_some_iff, Prod.mk.injEq] at h
     obtain ⟨r, hr, y, hy, rfl, rfl⟩ := h
     simp only [hx, zcx, hr, Option.bind_some, hp, hy, Option.map_some]
   · cases h
 · rename_i t x lo hi mx
   split at h
   · simp only [Option.bind_eq_some_iff] at h
     obtain ⟨st, hst, l, hl, hh, hhi, h⟩ := h
     simp only [evOp, hst, hl, hhi, Option.bind_some]
     split at h
     · rename_i b hx
       cases h
       simp only [hx, zg9, zbX, hp, and_self, if_true, Option.map_some]
     · rename_i n b es hx
       cases h
       obtain ⟨h1, h2⟩ := hp
       simp only [hx, zg9, zbX, h1, h2, and_self, if_true, Option.map_some]
     · rename_i n pl m hx
       split at h
       · rename_i hhv
         simp only [Option.bind_eq_some_iff] at h
         obtain ⟨r, hr, h⟩ := h
         cases h
         simp only [hx, zg9, hr, Option.bind_some, hp, and_self, if_true, Option.map_some]
       · cases m with
         | none =>
           simp only [Option.bind_eq_some_iff] at h
           obtain ⟨r, hr, ii, hii, h⟩ := h
           split at h
           · rename_i hb
             cases h
             simp only [hx, zg9, hr, Option.bind_some, hii, hb, hp, and_self, if_true, Option.map_some]
           · cases h
         | some m => cases h
       · cases h
     · cases h
   · cases h
 · rename_i t x i
   simp only [Option.bind_eq_some_iff] at h
   obtain ⟨k, hk, n, hn, h⟩ := h
   simp only [evOp, hk, hn, Option.bind_some]
   split at h
   · rename_i b hx hkk
     cases h
     simp only [hx, hkk]
     rw [dif_pos hp]
     have : b[n.toNat]? = some (b[n.toNat]'(by omega)) := getElem?_pos b n.toNat (by omega)
     rw [this]
     rfl
   · cases h
 · rename_i op t x y ky
   split at h
   · rename_i k a k' b hx hy
     split at h
     · rename_i hk
       cases h
       simp [evOp, hx, hy, zfQ, binD, binV, zgR, hk, hp]
     · cases h
   · rename_i k a k' b hx hy
     split at h
     · rename_i hk
       cases h
       simp [evOp, hx, hy, zfQ, binD, binV, zgR, hk, hp]
     · cases h
   · rename_i a b hx hy
     cases h
     simp only [evOp, hx, hy, zfQ, binD, binV, zgR]
     rw [if_pos hp]
     rfl
   · cases h
 · rename_i t l c
   simp only [Option.bind_eq_some_iff] at h
   obtain ⟨i, hi, h⟩ := h
   simp only [evOp, hi, Option.bind_some]
   split at h
   · rename_i e hk
     simp only [Option.bind_eq_some_iff] at h
     obtain ⟨j, hj, z, hz, n, hn, m, hm, h⟩ := h
     split at h
     · rename_i hb
       cases h
       simp only [hk, hj, hz, hn, hm, Option.bind_some, hp, and_self, if_true, hb]
     · cases h
   · cases h
 · rename_i t m k ok
   simp only [Option.bind_eq_some_iff] at h
   obtain ⟨i, hi, h⟩ := h
   split at h
   · rename_i kt et hk
     simp only [Option.bind_eq_some_iff] at h
     obtain ⟨kj, hkj, ej, hej, h⟩ := h
     split at h
     · rename_i r kv b hkt hm hkk
       simp only [Option.bind_eq_some_iff] at h
       obtain ⟨cs, hcs, h⟩ := h
       split at h
       · rename_i hM
         cases h
         simp only [evOp, hi, Option.bind_some, hk, hkj, hej, hkt, hm, hkk, hcs, hM, hp, zii, Option.map_some]
       · cases h
     · cases h
   · cases h
 · cases h
def zjn (E : Env) (s : St) (x : Option Nat) : Op → Option (Prop × St)
 | .call c => match c.callee with
   | .builtin .append => match c.args.toList, c.argTypes.toList with
     | [a, b], [t, u] => (E.ty t).bind fun i => match i.kind with
       | .slice e => match Nat.beq t u with
         | true => (zff s.get (s.look b)).bind fun es2 => (zbe s e a).bind fun r => (E.ty e).bind fun i =>
           match Nat.beq r.1.1 e && Nat.ble i.bytes 65536 && Nat.blt 0 i.sz with
           | true => some (es2.all (fun d => Nat.beq d.cells.length i.sz) = true ∧ r.1.2.length + es2.length ≤ 2147483648, r.2.putO x (.own e (r.1.2 ++ es2)))
           | false => none
         | false => (E.ty e).bind fun j => (E.ty u).bind fun k => match zgs j, k.kind, s.look b with
           | true, .str, .dat (.val (.string w)) => (zbe s e a).bind fun r => match Nat.beq r.1.1 e && Nat.ble j.bytes 65536 && Nat.blt 0 j.sz with
             | true => some ((zaQ w).all (fun d => Nat.beq d.cells.length j.sz) = true ∧ r.1.2.length + (zaQ w).length ≤ 2147483648, r.2.putO x (.own e (r.1.2 ++ zaQ w)))
             | false => none
           | _, .int _, .dat (.val (.int .i64 n)) => (zbe s e a).bind fun r => j.zeroD.bind fun z => match Nat.beq r.1.1 e && Nat.ble j.bytes 65536 && Nat.blt 0 j.sz && decide (0 ≤ n) with
             | true => some (r.1.2.length + n.toNat ≤ 2147483648, r.2.putO x (.own e (r.1.2 ++ List.replicate n.toNat z)))
             | false => none
           | _, _, _ => none
       | _ => none
     | _, _ => none
   | _ => none
 | .convert t u y => (E.ty t).bind fun i => match i.kind with
   | .slice e => (E.ty e).bind fun j => (E.ty u).bind fun k => match j.kind, k.kind with
     | .int .u8, .str => (zff s.get (s.look y)).bind fun es => x.map fun n => (zkS es ≠ none, s.put n (.dat (.val ((zkS es).getD (.string ByteArray.empty)))))
     | _, _ => none
   | _ => none
 | _ => none
theorem zgJ {E : Env} {s : St} {o : Oper} {p : Prop} {s' : St} (h : zjn E s o.dst o.op = some (p, s')) (hp : p) : step E s o = some s' := by
 unfold zjn at h
 split at h
 · rename_i c ho
   split at h
   · rename_i hc
     split at h
     · rename_i a b t u ha hat
       simp only [Option.bind_eq_some_iff] at h
       obtain ⟨i, hi, h⟩ := h
       split at h
       · rename_i e hk
         split at h
         · rename_i htu
           simp only [Option.bind_eq_some_iff] at h
           obtain ⟨es2, hes, r, hr, i2, hi2, h⟩ := h
           split at h
           · rename_i hcond
             cases h
             have hev : evOp E s.look s.get s.box o.type o.op = none := by rw [ho]; simp only [evOp, hc]
             unfold step
             rw [hev]
             have hes' : zgD s.get false (s.look b) = some es2 := by
              unfold zgD
              split
              · rename_i he
                rw [he] at hes
                cases hes
              · exact hes
             simp only [ho, doOp, hc, ha, hat, hi, Option.bind_some, hk, htu, zb8, hes', hr, hi2, hcond, hp.1, Bool.and_self, hp.2, if_true]
           · cases h
         · rename_i htu
           simp only [Option.bind_eq_some_iff] at h
           obtain ⟨j, hj, k, hkj, h⟩ := h
           split at h
           · rename_i w hib huk hw
             simp only [Option.bind_eq_some_iff] at h
             obtain ⟨r, hr, h⟩ := h
             split at h
             · rename_i hcond
               cases h
               have hev : evOp E s.look s.get s.box o.type o.op = none := by rw [ho]; simp only [evOp, hc]
               unfold step
               rw [hev]
               have hes' : zgD s.get true (s.look b) = some (zaQ w) := by rw [hw]; rfl
               simp only [ho, doOp, hc, ha, hat, hi, Option.bind_some, hk, htu, hj, hkj, hib, huk, zb8, hes', hr, hcond, hp.1, Bool.and_self, hp.2, if_true]
             · cases h
           · rename_i nn huk hw
             simp only [Option.bind_eq_some_iff] at h
             obtain ⟨r, hr, z, hz, h⟩ := h
             split at h
             · rename_i hcond
               cases h
               have hev : evOp E s.look s.get s.box o.type o.op = none := by rw [ho]; simp only [evOp, hc]
               unfold step
               rw [hev]
               have hes' : intOf (s.look b) = some nn := by rw [hw]; exact rfl
               simp only [ho, doOp, hc, ha, hat, hi, Option.bind_some, hk, htu, hj, hkj, huk]
               simp only [zeM, hes', hr, hz, hj, Option.bind_some, hcond, hp, if_true]
             · cases h
           · cases h
       · cases h
     · cases h
   · cases h
 · rename_i t u y ho
   simp only [Option.bind_eq_some_iff] at h
   obtain ⟨i, hi, h⟩ := h
   split at h
   · rename_i e hk
     simp only [Option.bind_eq_some_iff] at h
     obtain ⟨j, hj, k, hkk, h⟩ := h
     split at h
     · rename_i hjk hku
       simp only [Option.bind_eq_some_iff, Option.map_eq_some_iff, Prod.mk.injEq] at h
       obtain ⟨es, hes, n, hn, rfl, rfl⟩ := h
       obtain ⟨v, hv⟩ := Option.ne_none_iff_exists'.1 hp
       have hconv : zkz (some i) (some k) (s.look y) = none := by
        cases hy : s.look y with
        | dat d => cases d with
          | val w => rw [hy] at hes; cases hes
          | agg cs => rfl
          | lst b l => rfl
        | _ => rfl
       have hev : evOp E s.look s.get s.box o.type o.op = none := by rw [ho]; simp only [evOp, hi, hkk, Option.bind_some, hconv, Option.map_none]
       unfold step
       rw [hev]
       simp only [ho, doOp, zct, hi, hj, hkk, Option.bind_some, hk, hjk, hku, hes, hv, hn, Option.map_some, Option.getD_some]
     · cases h
   · cases h
 · cases h
def zlO (E : Env) (s : St) (hd : Dat) : Op → Option (Prop × St)
 | .store t a y => match zeE y with
   | true => none
   | false => (E.ty t).bind fun i => match s.look a with
     | .bp p j o => (s.datD (s.look y)).bind fun q => match Nat.beq q.1.cells.length i.sz with
       | false => none
       | true => (q.2.get p).bind fun r => (zeH hd o q.1.cells).map fun d' => (r.2[j]? = some hd, q.2.setPl p (.own r.1 (r.2.set j d')))
     | _ => none
 | _ => none
theorem zh1 {E : Env} {s : St} {hd : Dat} {o : Oper} {p : Prop} {s' : St} (h : zlO E s hd o.op = some (p, s')) (hp : p) : step E s o = some s' := by
 unfold zlO at h
 split at h
 · rename_i t a y ho
   split at h
   · cases h
   · rename_i hn
     simp only [Option.bind_eq_some_iff] at h
     obtain ⟨i, hi, h⟩ := h
     split at h
     · rename_i pl j off ha
       simp only [Option.bind_eq_some_iff] at h
       obtain ⟨q, hq, h⟩ := h
       split at h
       · cases h
       · rename_i hb
         simp only [Option.bind_eq_some_iff, Option.map_eq_some_iff, Prod.mk.injEq] at h
         obtain ⟨r, hr, d', hd', rfl, rfl⟩ := h
         have hev : evOp E s.look s.get s.box o.type o.op = none := by rw [ho]; simp only [evOp]
         unfold step
         rw [hev]
         simp only [ho, doOp, hn, zch, hi, Option.bind_some, ha, hq, hb, hr, hp, hd', Option.map_some]
     · cases h
 · cases h
def zl2 {α : Type} (b : Bool) (p : Prop) (r : Option (List Prop × α)) : Option (List Prop × α) := match b with | true => hadd p r | false => r
def zjG (E : Env) (s : St) (x : Option Nat) (f : Nat) (cap : List Ref) (args : List D) (q : List D × List (List D) × List (Option Row)) : Option (Prop × St) :=
 (zal (E.mode f) args s).bind fun a =>
 (zax a.2.get (E.mode f) a.1).bind fun ls =>
 match zaJ ls with
 | false => none
 | true => match cap.isEmpty && a.1.all zgj with
   | true => (zaq (hide ls false a.2.get) 0 [] (E.mode f) 0 a.1).bind fun v =>
     (zbp a.2 ls q.2.2).map fun s => (((v.2 && !(D.cleans q.1 && zaX q.2.2)) || !D.plains q.1) = false, s.putO x (retD q.1))
   | false => match ls.all fun p => !p.1.ofCell with
     | false => none
     | true =>
       let keys := a.2.sent E.nt cap a.1; let m := a.2.upsSent keys cap a.1
       (zaq (hide ls true a.2.get) m keys (E.mode f) 0 a.1).bind fun v =>
       (zbp (a.2.regain m keys q.2.1) ls q.2.2).map fun s => (((v.2 && !(D.cleans q.1 && (zaX q.2.2 && za8 q.2.1))) || !D.plains q.1) = false, s.putO x (retD q.1))
def zls (E : Env) (s : St) (o : Oper) (q : List D × List (List D) × List (Option Row)) : Option (Prop × St) :=
 match o.op with
 | .call ca => match ca.callee with
   | .value z => match s.look z with
     | .fn f cap => zjG E s o.dst f cap (zau E s.look ca.args.toList ca.argTypes.toList) q
     | _ => none
   | _ => none
 | _ => none
theorem zhM {E : Env} {s : St} {o : Oper} {q : List D × List (List D) × List (Option Row)} {r : Nat × List D × List (List D) × List (Option Row)} {p : Prop} {s' : St} (h : zcZ E s o = some r) (hc : E.call r.1 r.2.1 r.2.2.1 r.2.2.2 = some q) (hh : zls E s o q = some (p, s')) (hp : p) : step E s o = some s' := by
 unfold zcZ at h
 unfold zls at hh
 split at h
 · rename_i ca ho
   simp only [ho] at hh
   split at h
   · rename_i z hz
     simp only [hz] at hh
     split at h
     · rename_i f cap hf
       simp only [hf] at hh
       split at h
       · cases h
       · rename_i hdead
         simp only [Option.map_eq_some_iff] at h
         obtain ⟨⟨a, u, l⟩, hdo, rfl⟩ := h
         simp only at hc
         have hev : evOp E s.look s.get s.box o.type o.op = none := by
          rw [ho]
          simp only [evOp, hz, hf]
          cases cap with
          | cons r rs => rfl
          | nil =>
            simp only [List.isEmpty_nil, Bool.true_and] at hdead
            simp only [zcY]
            cases hz : zbb (E.mode f) with
            | false => rfl
            | true =>
              rw [hz, Bool.true_and] at hdead
              cases hv : zeh s.get (zau E s.look ca.args.toList ca.argTypes.toList) with
              | none => rfl
              | some r => rw [hv] at hdead; cases hdead
         unfold step
         rw [hev]
         simp only [ho, doOp, hz, hf]
         unfold zjZ at hdo
         unfold zfA
         unfold zjG at hh
         simp only [Option.bind_eq_some_iff] at hdo
         obtain ⟨a1, h1, ls, h2, hdo⟩ := hdo
         simp only [h1, h2, Option.bind_some] at hh ⊢
         split at hdo
         · cases hdo
         · rename_i hdis
           simp only [hdis] at hh ⊢
           split at hdo
           · rename_i hcl
             simp only [hcl] at hh ⊢
             simp only [Option.map_eq_some_iff, Prod.mk.injEq] at hdo
             obtain ⟨v, hv, rfl, rfl, rfl⟩ := hdo
             simp only [hv, Option.bind_some, Option.map_eq_some_iff, Prod.mk.injEq] at hh ⊢
             obtain ⟨s3, hg, rfl, rfl⟩ := hh
             simp only [hc, Option.bind_some, hp, hg, Option.map_some]
           · rename_i hcl
             simp only [hcl] at hh ⊢
             split at hdo
             · cases hdo
             · rename_i hnc
               simp only [hnc] at hh ⊢
               simp only [Option.bind_eq_some_iff, Option.map_eq_some_iff, Prod.mk.injEq] at hdo
               obtain ⟨v, hv, caps, hcaps, bs, hbs, us, hus, rfl, rfl, rfl⟩ := hdo
               simp only [hv, Option.bind_some, Option.map_eq_some_iff, Prod.mk.injEq] at hh ⊢
               obtain ⟨s3, hg, rfl, rfl⟩ := hh
               simp only [hcaps, hbs, hus, Option.bind_some, hc, hp, hg, Option.map_some]
     · cases h
   · cases h
 · cases h
def hop {α : Type} (E : Env) (hs : zcn) (run : Env → St → Oper → Option St) (view : St → St) (pu ap : Oper → Bool) (s : St) (o : Oper) (k : St → Option (List Prop × α)) : Option (List Prop × α) :=
 match (keyOf o).bind (zib hs) with
 | some (.put d) => hadd (run E s o = some (s.putO o.dst d)) (k (s.putO o.dst d))
 | some (.to f) => hadd (run E s o = some (f s)) (k (f s))
 | some (.at d) => match zkY E s (some d) o.op with
   | some (p, d) => (match o.dst, pu o with | some n, true => hadd p (k (s.put n d)) | _, _ => none)
   | none => (match zlO E s d o.op, ap o with | some (p, s'), true => hadd p (k s') | _, _ => none)
 | some .ok => match zkY E s none o.op with
   | some (p, d) => (match o.dst, pu o with | some n, true => hadd p (k (s.put n d)) | _, _ => none)
   | none => (match zjn E s o.dst o.op, ap o with | some (p, s'), true => hadd p (k s') | _, _ => none)
 | some (.ret rs) => match D.plains rs, zdf E (view s) o with
   | true, some (f, args, fl) => zl2 fl (D.cleans rs = true) (hadd (E.call f args [] [] = some (rs, [], [])) (match pu o, o.dst with | true, some n => k (s.put n (retD rs)) | _, _ => (run (E.with (rs, [], [])) s o).bind k))
   | _, _ => none
 | some (.back rs u l) => match zcZ E (view s) o with
   | some (f, args, us, ls) => hadd (E.call f args us ls = some (rs, u, l)) (match ap o with
     | true => (match zls E s o (rs, u, l) with | some (p, s') => hadd p (k s') | none => none)
     | false => (run (E.with (rs, u, l)) s o).bind k)
   | none => match zdf E (view s) o, D.plains rs, u, ap o with
     | some (f, args, false), false, [cs], true => hadd (E.call f args [] [] = some (rs, [cs], l)) ((s.apply o.dst (.made cs)).bind k)
     | _, _, _, _ => none
 | _ => (run E s o).bind k
def hops (E : Env) (hs : zcn) (ops : Array Oper) : List Oper → St → Option (List Prop × St)
 | [], s => some ([], s)
 | o :: l, s => ziA hs ops s o.guard (fun s => hop E hs step (fun s => s) (fun _ => true) (fun _ => true) s o (hops E hs ops l)) (fun s => hops E hs ops l (s.putO o.dst .undef))
def zdP (M : Option (List Nat)) (k : Nat) (s : St) : St :=
 match k with
 | 0 => s
 | 1 => s
 | 2 => s
 | 3 => s
 | _ => match M with | none => s | some M => s.hid M
def zjJ : Op → Bool
 | .load _ _ => true
 | _ => false
def zhz (M : Option (List Nat)) (k : Nat) (o : Oper) : Bool :=
 match k with
 | 0 => zfy o.op
 | 1 => zjJ o.op && M.isNone
 | 2 => true
 | 3 => false
 | _ => M.isNone
def zdd (E : Env) (hs : zcn) (ops : Array Oper) (M : Option (List Nat)) : Bool → List PRow → St → Option (List Prop × St)
 | _, [], s => some ([], s)
 | first, (i, k, ds) :: l, s => match zdH s ds with
   | false => none
   | true => match ops[i]? with
     | none => none
     | some o => ziA hs ops s o.guard (fun s => match k with
       | 5 => (match zkj M s o with | true => hop E hs step (fun s => s) (fun _ => true) (fun _ => true) s o (zdd E hs ops M (first && zbq k) l) | false => none)
       | 6 => hop E hs (fun E => zaF E none first 4) (zdP none 4) (zhz none 4) (fun _ => false) s o (zdd E hs ops M (first && zbq k) l)
       | 7 => hop E hs (fun E => zaF E none first 4) (zdP none 4) (zhz none 4) (fun _ => false) s o (zdd E hs ops M (first && zbq k) l)
       | 8 => hop E hs (fun E => zaF E none first 4) (zdP none 4) (zhz none 4) (fun _ => false) s o (zdd E hs ops M (first && zbq k) l)
       | 9 => (match zjA o.op with | true => hop E hs step (fun s => s) (fun _ => true) (fun _ => true) s o (zdd E hs ops M (first && zbq k) l) | false => none)
       | 10 => (match zbL s o with | true => hop E hs step (fun s => s) (fun _ => true) (fun _ => true) s o (zdd E hs ops M (first && zbq k) l) | false => none)
       | 11 => (match zbC s o with | true => hop E hs step (fun s => s) (fun _ => true) (fun _ => true) s o (zdd E hs ops M (first && zbq k) l) | false => none)
       | 12 => (match M with | none => (match zeo E s o with | true => hop E hs step (fun s => s) (fun _ => true) (fun _ => true) s o (zdd E hs ops none (first && zbq k) l) | false => none) | some _ => none)
       | 13 => (match zcM E s o with | true => hop E hs step (fun s => s) (fun _ => true) (fun _ => true) s o (zdd E hs ops M (first && zbq k) l) | false => none)
       | k => hop E hs (fun E => zaF E M first k) (zdP M k) (zhz M k) (fun _ => Nat.beq k 2) s o (zdd E hs ops M (first && zbq k) l)) (fun s => zdd E hs ops M (first && zbq k) l (s.putO o.dst .undef))
def zmd (E : Env) (hs : zcn) (ops : Array Oper) (p : Plan) (s : St) : Option (List Prop × St) :=
 match p.2 with
 | [] => some ([], s)
 | (i, k, ds) :: l => match zfU s ds with
   | true => zdd E hs ops p.1 true ((i, k, ds) :: l) (s.junks ds)
   | false => none
def zhW (E : Env) (hs : zcn) (id : Nat) (ops : Array Oper) (draw : Bool) (s : St) : Option (List Prop × St) :=
 match draw with
 | false => hops E hs ops ops.toList s
 | true => match E.plan id with
   | some p => zmd E hs ops p s
   | none => none
def zkT (r : Option (List Prop × X × St)) (k : X → St → Option (List Prop × X × St)) : Option (List Prop × X × St) :=
 match r with
 | some (ps, x, s) => match k x s with
   | some q => some (ps ++ q.1, q.2)
   | none => none
 | none => none
def zkM : List Nat → List D → Nat → D
 | a :: L, d :: ds, x => match Nat.beq a x with | true => d | false => zkM L ds x
 | _, _, _ => .junk
def zkA : List Nat → List (Option (List D)) → Nat → Option (List D)
 | a :: L, d :: ds, x => match Nat.beq a x with | true => d | false => zkA L ds x
 | _, _, _ => none
def Nm (L : List Nat) (ds : List D) (bs : List (Option (List D))) (u : List (List D)) (l : List (Option Row)) : St := ⟨zkM L ds, zkA L bs, u, l⟩
def nmOf (L : List Nat) (s : St) : St := Nm L (L.map fun x => (s.t x).kill (Kill.but L)) (L.map fun x => (s.b x).map (D.kills (Kill.but L))) (s.u.map (D.kills (Kill.but L))) s.l
def zjX (E : Env) (n : Nat) (c : Code) (s0 : St) (x : X) (s' : St) : Prop := ∀ s : St, s.norm (E.live (zaa c)) = s0 → exec E n (.loop c) s = some (x, s')
def zck (E : Env) (n : Nat) (hs : zcn) : Code → St → Option (List Prop × X × St)
 | .skip, s => some ([], .normal, s)
 | .region id ops draw, s => match zhW E hs id ops draw s with | some r => some (r.1, .normal, r.2) | none => none
 | .seq a b, s => zkT (zck E n hs a s) fun x s' => match x with
   | .normal => zck E n hs b s'
   | x => some ([], x, s')
 | .cond c a b, s => hcond hs s c (zck E n hs a) (zck E n hs b)
 | .block id c, s => zkT (zck E n hs c s) fun x s' => match x with
   | .exit i => (match Nat.beq i id with | true => some ([], .normal, s') | false => some ([], .exit i, s'))
   | x => some ([], x, s')
 | .loop c, s => match zib hs (300000 + zaa c) with
   | some (.loop s0 x s') => some ([nmOf (E.live (zaa c)) s = s0, zjX E n c s0 x s'], x, s')
   | _ => none
 | .exit id, s => some ([], .exit id, s)
 | .ret, s => some ([], .ret, s)
 | _, _ => none
theorem nbeq_eq {a b : Nat} : Nat.beq a b = true ↔ a = b := ⟨Nat.eq_of_beq_eq_true, fun h => by rw [h]; exact Nat.beq_refl b⟩
theorem nbeq_ne {a b : Nat} : Nat.beq a b = false ↔ a ≠ b := ⟨Nat.ne_of_beq_eq_false, fun h => by
 cases hb : Nat.beq a b with
 | false => rfl
 | true => exact (h (Nat.eq_of_beq_eq_true hb)).elim⟩
theorem zcQ {a x : Nat} {l : List Nat} : memN x (a :: l) = (Nat.beq x a || memN x l) := by
 show (match Nat.beq x a with | true => true | false => memN x l) = _
 cases Nat.beq x a <;> rfl
theorem zg6 {f : Nat → D} {x : Nat} : ∀ {L : List Nat}, zkM L (L.map f) x = match memN x L with | true => f x | false => .junk
 | [] => rfl
 | a :: L => by
   simp only [List.map_cons, zkM]
   cases h : Nat.beq a x with
   | true => rw [nbeq_eq.1 h, zcQ]; simp
   | false =>
     have h2 : Nat.beq x a = false := nbeq_ne.2 (fun e => nbeq_ne.1 h e.symm)
     simp only [zg6 (L := L), zcQ, h2, Bool.false_or]
theorem zgF {f : Nat → Option (List D)} {x : Nat} : ∀ {L : List Nat}, zkA L (L.map f) x = match memN x L with | true => f x | false => none
 | [] => rfl
 | a :: L => by
   simp only [List.map_cons, zkA]
   cases h : Nat.beq a x with
   | true => rw [nbeq_eq.1 h, zcQ]; simp
   | false =>
     have h2 : Nat.beq x a = false := nbeq_ne.2 (fun e => nbeq_ne.1 h e.symm)
     simp only [zgF (L := L), zcQ, h2, Bool.false_or]
theorem zh0 (L : List Nat) (s : St) : s.norm L = nmOf L s := by
 simp only [St.norm, nmOf, Nm, St.mk.injEq, and_true]
 refine ⟨funext fun x => ?_, funext fun x => ?_⟩
 · rw [zg6]; cases memN x L <;> rfl
 · rw [zgF]; cases memN x L <;> rfl
theorem zaI {α : Type} {p : Prop} {r : Option (List Prop × α)} {q : List Prop × α} (h : hadd p r = some q) : ∃ ps, r = some (ps, q.2) ∧ q.1 = p :: ps := by
 unfold hadd at h
 split at h
 · rename_i r'
   cases h
   exact ⟨r'.1, rfl, rfl⟩
 · cases h
section
variable {E : Env} {hs : zcn} {ops : Array Oper}
theorem zda {α β : Type} {s : St} {x : Nat} {yes no : St → Option (List Prop × α)} {und : Option (List Prop × α)} {q : List Prop × α} {yes' no' : St → Option β} {und' : Option β} {b : β}
 (h : zjQ hs s x yes no und = some q) (hq : Obs q.1) (hy : ∀ s ps, yes s = some (ps, q.2) → Obs ps → yes' s = some b) (hn : ∀ s ps, no s = some (ps, q.2) → Obs ps → no' s = some b) (hu : ∀ ps, und = some (ps, q.2) → Obs ps → und' = some b) :
 (match s.t x with
  | .dat (.val (.bool v)) => match v with | true => yes' (s.force x true) | false => no' (s.force x false)
  | .undef => und'
  | _ => none) = some b := by
 unfold zjQ at h
 cases hx : s.t x with
 | undef => rw [hx] at h; exact hu q.1 h hq
 | dat d =>
   rw [hx] at h
   cases d with
   | val v =>
     cases v with
     | bool v =>
       simp only at h ⊢
       split at h
       · obtain ⟨ps, h1, h2⟩ := zaI h
         rw [h2] at hq
         have hv : v = true := hq.1
         rw [hv]
         exact hy _ ps h1 hq.2
       · obtain ⟨ps, h1, h2⟩ := zaI h
         rw [h2] at hq
         have hv : v = false := hq.1
         rw [hv]
         exact hn _ ps h1 hq.2
       · cases v with
         | true => exact hy _ q.1 h hq
         | false => exact hn _ q.1 h hq
     | _ => cases h
   | _ => cases h
 | _ => rw [hx] at h; cases h
theorem zhB {α β : Type} {s : St} {c : Operand} {yes no : St → Option (List Prop × α)} {q : List Prop × α} {yes' no' : St → Option β} {b : β}
 (h : hcond hs s c yes no = some q) (hq : Obs q.1) (hy : ∀ s ps, yes s = some (ps, q.2) → Obs ps → yes' s = some b) (hn : ∀ s ps, no s = some (ps, q.2) → Obs ps → no' s = some b) : zk3 s c yes' no' = some b := by
 unfold hcond at h
 unfold zk3
 split at h
 · rename_i x
   have := zda (und' := (none : Option β)) h hq hy hn (fun ps h => by cases h)
   simp only
   revert this
   cases s.t x with
   | dat d =>
     cases d with
     | val v => cases v <;> exact id
     | _ => exact id
   | _ => intro h; first | exact h | cases h
 · rename_i v
   cases v with
   | true => exact hy _ q.1 h hq
   | false => exact hn _ q.1 h hq
 · cases h
theorem zef {α β : Type} {s : St} {g : Option (Nat × Bool)} {k z : St → Option (List Prop × α)} {q : List Prop × α} {k' z' : St → Option β} {b : β}
 (h : ziA hs ops s g k z = some q) (hq : Obs q.1) (hk : ∀ s ps, k s = some (ps, q.2) → Obs ps → k' s = some b) (hz : ∀ s ps, z s = some (ps, q.2) → Obs ps → z' s = some b) : zby ops s g k' z' = some b := by
 unfold ziA at h
 unfold zby
 split at h
 · exact hk _ q.1 h hq
 · rename_i j want
   simp only
   split at h
   · cases h
   · rename_i x hx
     rw [hx]
     simp only
     split at h
     · have := zda (und' := z' s) h hq hk hz (fun ps h h2 => hz _ ps h h2)
       revert this
       cases s.t x with
       | dat d =>
         cases d with
         | val v =>
           cases v with
           | bool v => cases v <;> exact id
           | _ => exact id
         | _ => exact id
       | _ => exact id
     · have := zda (und' := z' s) h hq hz hk (fun ps h h2 => hz _ ps h h2)
       revert this
       cases s.t x with
       | dat d =>
         cases d with
         | val v =>
           cases v with
           | bool v => cases v <;> exact id
           | _ => exact id
         | _ => exact id
       | _ => exact id
structure RunOK (E : Env) (run : Env → St → Oper → Option St) (view : St → St) (pu ap : Oper → Bool) : Prop where
 pure : ∀ s o n d, evOp E s.look s.get s.box o.type o.op = some (.pure d) → o.dst = some n → pu o = true → run E s o = some (s.put n d)
 app : ∀ s o s', step E s o = some s' → ap o = true → run E s o = some s'
 vw : ∀ s o, pu o = true → view s = s
 vw2 : ∀ s o, ap o = true → view s = s
 ev : ∀ s o rs f args fl, zdf E (view s) o = some (f, args, fl) → D.plains rs = true → (fl = true → D.cleans rs = true) → E.call f args [] [] = some (rs, [], []) → run E s o = run (E.with (rs, [], [])) s o
 go : ∀ s o r q, zcZ E (view s) o = some r → E.call r.1 r.2.1 r.2.2.1 r.2.2.2 = some q → ∀ s', run (E.with q) s o = some s' → run E s o = some s'
theorem step_ok : RunOK E step (fun s => s) (fun _ => true) (fun _ => true) :=
 ⟨fun s o n d h hd _ => by
  unfold step
  rw [h, hd]
  rfl, fun s o s' h _ => h, fun _ _ _ => rfl, fun _ _ _ => rfl, fun s o rs f args fl h hpl hfl hc => by
  obtain ⟨h1, h2⟩ := zeJ h hpl hfl hc
  unfold step
  rw [h1, h2], fun s o r q h hc s' hr => by rw [ze6 h hc]; exact hr⟩
theorem zcL {M : Option (List Nat)} {first : Bool} {k : Nat} : RunOK E (fun E => zaF E M first k) (zdP M k) (zhz M k) (fun _ => Nat.beq k 2) := by
 have hcall : ∀ (s : St) (o : Oper) r, zdf E s o = some r → ∃ ca z, o.op = .call ca ∧ ca.callee = .value z := fun s o r h => by
  unfold zdf at h
  split at h
  · rename_i ca ho
    split at h
    · rename_i z hz; exact ⟨ca, z, ho, hz⟩
    · cases h
  · cases h
 have hcall2 : ∀ (s : St) (o : Oper) r, zcZ E s o = some r → ∃ ca z, o.op = .call ca ∧ ca.callee = .value z := fun s o r h => by
  unfold zcZ at h
  split at h
  · rename_i ca ho
    split at h
    · rename_i z hz; exact ⟨ca, z, ho, hz⟩
    · cases h
  · cases h
 have hno : ∀ (s : St) (o : Oper) (q : List D × List (List D) × List (Option Row)), (∃ ca z, o.op = .call ca ∧ ca.callee = .value z) → (k = 0 ∨ k = 1 ∨ k = 3) → ∀ E, zaF E M first k s o = none := by
  rintro s o q ⟨ca, z, ho, hz⟩ hk E
  rcases hk with rfl | rfl | rfl
  · simp only [zaF, zep, ho, zfy, hz]
  · simp only [zaF, zde, ho]
  · simp only [zaF, zeF, ho]
 have hev : ∀ (s : St) (o : Oper) (r : Nat × List D × List (List D) × List (Option Row)), zcZ E s o = some r → ∀ E', E'.mode = E.mode → (∀ zs ts, zau E' s.look zs ts = zau E s.look zs ts) → evOp E' s.look s.get s.box o.type o.op = none := by
  intro s o r h E' hm ha
  unfold zcZ at h
  split at h
  · rename_i ca ho
    split at h
    · rename_i z hz
      split at h
      · rename_i f cap hf
        split at h
        · cases h
        · rename_i hdead
          rw [ho]
          simp only [evOp, hz, hf]
          cases cap with
          | cons r rs => rfl
          | nil =>
            simp only [List.isEmpty_nil, Bool.true_and] at hdead
            simp only [zcY, hm, ha]
            cases hzz : zbb (E.mode f) with
            | false => rfl
            | true =>
              rw [hzz, Bool.true_and] at hdead
              cases hv : zeh s.get (zau E s.look ca.args.toList ca.argTypes.toList) with
              | none => rfl
              | some r => rw [hv] at hdead; cases hdead
      · cases h
    · cases h
  · cases h
 have hpure : ∀ s o n d, evOp E s.look s.get s.box o.type o.op = some (.pure d) → o.dst = some n → zhz M k o = true → zaF E M first k s o = some (s.put n d) := by
  intro s o n d h hd hpu
  match k, hpu with
  | 0, hpu =>
    have hpu : zfy o.op = true := hpu
    simp only [zaF, zep, hpu, hd, h]
  | 1, hpu =>
    have hpu : (zjJ o.op && M.isNone) = true := hpu
    simp only [Bool.and_eq_true, Option.isNone_iff_eq_none] at hpu
    obtain ⟨h1, rfl⟩ := hpu
    unfold zjJ at h1
    split at h1
    · rename_i t x ho
      rw [ho] at h
      simp only [evOp, Option.bind_eq_some_iff, Option.map_eq_some_iff] at h
      obtain ⟨i, hi, y, hy, he⟩ := h
      cases he
      simp only [zaF, zde, ho, hd, hi, Option.bind_some, hy, Option.map_some]
    · cases h1
  | 2, hpu => exact step_ok.pure s o n d h hd rfl
  | m + 4, hpu =>
    have hpu : M.isNone = true := hpu
    simp only [Option.isNone_iff_eq_none] at hpu
    subst hpu
    simp only [zaF, zay, h, hd, Option.bind_some, St.apply, Option.map_some]
 have hvw : ∀ (s : St) (o : Oper), zhz M k o = true → zdP M k s = s := by
  intro s o hpu
  match k, hpu with
  | 0, _ => rfl
  | 1, _ => rfl
  | 2, _ => rfl
  | m + 4, hpu =>
    have hpu : M.isNone = true := hpu
    simp only [Option.isNone_iff_eq_none] at hpu
    subst hpu
    rfl
 refine ⟨hpure, fun s o s' h hk => by rw [Nat.eq_of_beq_eq_true hk]; exact h, hvw, fun s o hk => by rw [Nat.eq_of_beq_eq_true hk]; rfl, fun s o rs f args fl h hpl hfl hc => ?_, fun s o r q h hc s' hr => ?_⟩
 · have hk5 : (k = 0 ∨ k = 1 ∨ k = 3) ∨ k = 2 ∨ ∃ m, k = m + 4 := by
    match k with
    | 0 => exact .inl (.inl rfl)
    | 1 => exact .inl (.inr (.inl rfl))
    | 2 => exact .inr (.inl rfl)
    | 3 => exact .inl (.inr (.inr rfl))
    | m + 4 => exact .inr (.inr ⟨m, rfl⟩)
   rcases hk5 with hk | rfl | ⟨m, rfl⟩
   · rw [hno s o (rs, [], []) (hcall _ _ _ h) hk, hno s o (rs, [], []) (hcall _ _ _ h) hk]
   · exact step_ok.ev s o rs f args fl h hpl hfl hc
   · show zay E M s o = zay (E.with (rs, [], [])) M s o
     unfold zay
     cases M with
     | none =>
       obtain ⟨h1, h2⟩ := zeJ (s := s) h hpl hfl hc
       simp only [h1, h2]
     | some M =>
       have h' := step_ok.ev (s.hid M) o rs f args fl h hpl hfl hc
       simp only [h']
 · have hk5 : (k = 0 ∨ k = 1 ∨ k = 3) ∨ k = 2 ∨ ∃ m, k = m + 4 := by
    match k with
    | 0 => exact .inl (.inl rfl)
    | 1 => exact .inl (.inr (.inl rfl))
    | 2 => exact .inr (.inl rfl)
    | 3 => exact .inl (.inr (.inr rfl))
    | m + 4 => exact .inr (.inr ⟨m, rfl⟩)
   rcases hk5 with hk | rfl | ⟨m, rfl⟩
   · rw [hno s o q (hcall2 _ _ _ h) hk] at hr
     cases hr
   · exact step_ok.go s o r q h hc s' hr
   · have hr' : zay (E.with q) M s o = some s' := hr
     show zay E M s o = some s'
     unfold zay at hr' ⊢
     cases M with
     | none =>
       simp only at hr'
       rw [hev s o r h (E.with q) rfl (fun zs ts => zcK zs ts)] at hr'
       cases hr'
     | some M =>
       have h' := ze6 (s := s.hid M) h hc
       simp only [h']
       exact hr'
theorem zaV {α β : Type} {run : Env → St → Oper → Option St} {view : St → St} {pu ap : Oper → Bool} (hrun : RunOK E run view pu ap) {s : St} {o : Oper} {k : St → Option (List Prop × α)} {q : List Prop × α} {k' : St → Option β} {b : β}
 (h : hop E hs run view pu ap s o k = some q) (hq : Obs q.1) (hk : ∀ s ps, k s = some (ps, q.2) → Obs ps → k' s = some b) : (run E s o).bind k' = some b := by
 unfold hop at h
 split at h
 · obtain ⟨ps, h1, h2⟩ := zaI h
   rw [h2] at hq
   rw [hq.1]
   exact hk _ ps h1 hq.2
 · obtain ⟨ps, h1, h2⟩ := zaI h
   rw [h2] at hq
   rw [hq.1]
   exact hk _ ps h1 hq.2
 · split at h
   · rename_i p d hask
     split at h
     · rename_i n hdn hpu
       obtain ⟨ps, h1, h2⟩ := zaI h
       rw [h2] at hq
       rw [hrun.pure s o _ _ (zev hask hq.1) hdn hpu]
       exact hk _ ps h1 hq.2
     · cases h
   · split at h
     · rename_i p s' hask hap
       obtain ⟨ps, h1, h2⟩ := zaI h
       rw [h2] at hq
       rw [hrun.app s o _ (zh1 hask hq.1) hap]
       exact hk _ ps h1 hq.2
     · cases h
 · split at h
   · rename_i p d hask
     split at h
     · rename_i n hdn hpu
       obtain ⟨ps, h1, h2⟩ := zaI h
       rw [h2] at hq
       rw [hrun.pure s o _ _ (zev hask hq.1) hdn hpu]
       exact hk _ ps h1 hq.2
     · cases h
   · split at h
     · rename_i p s' hask hap
       obtain ⟨ps, h1, h2⟩ := zaI h
       rw [h2] at hq
       rw [hrun.app s o _ (zgJ hask hq.1) hap]
       exact hk _ ps h1 hq.2
     · cases h
 · rename_i rs hhint
   split at h
   · rename_i f args fl hpl hcv
     have hkey : ∃ ps, hadd (E.call f args [] [] = some (rs, [], [])) (match pu o, o.dst with | true, some n => k (s.put n (retD rs)) | _, _ => (run (E.with (rs, [], [])) s o).bind k) = some (ps, q.2) ∧ Obs ps ∧ (fl = true → D.cleans rs = true) := by
      cases fl with
      | false => exact ⟨q.1, h, hq, fun e => by cases e⟩
      | true =>
        obtain ⟨ps, h1, h2⟩ := zaI h
        rw [h2] at hq
        exact ⟨ps, h1, hq.2, fun _ => hq.1⟩
     obtain ⟨ps0, h0, hq0, hfl⟩ := hkey
     obtain ⟨ps, h1, h2⟩ := zaI h0
     simp only at h2
     rw [h2] at hq0
     split at h1
     · rename_i n hpu hdn
       have hv := hrun.vw s o hpu
       rw [hv] at hcv
       rw [hrun.pure s o _ _ (zeJ hcv hpl hfl hq0.1).1 hdn hpu]
       exact hk _ ps h1 hq0.2
     · rw [hrun.ev s o _ _ _ _ hcv hpl hfl hq0.1]
       simp only [Option.bind_eq_some_iff] at h1
       obtain ⟨s', hr, h1⟩ := h1
       rw [hr]
       exact hk s' ps h1 hq0.2
   · cases h
 · split at h
   · rename_i f args us ls hcv
     obtain ⟨ps, h1, h2⟩ := zaI h
     rw [h2] at hq
     split at h1
     · rename_i hap
       split at h1
       · rename_i p s' hch
         obtain ⟨ps2, h3, h4⟩ := zaI h1
         simp only at h4
         rw [h4] at hq
         have hv : view s = s := hrun.vw2 s o hap
         rw [hv] at hcv
         rw [hrun.app s o _ (zhM hcv hq.1 hch hq.2.1) hap]
         exact hk s' ps2 h3 hq.2.2
       · cases h1
     · simp only [Option.bind_eq_some_iff] at h1
       obtain ⟨s', hr, h1⟩ := h1
       rw [hrun.go s o _ _ hcv hq.1 s' hr]
       exact hk s' ps h1 hq.2
   · split at h
     · rename_i f args cs hcv hpl hap hkey
       obtain ⟨ps, h1, h2⟩ := zaI h
       rw [h2] at hq
       have hv : view s = s := hrun.vw2 s o hap
       rw [hv] at hcv
       simp only [Option.bind_eq_some_iff] at h1
       obtain ⟨s', hs', h1⟩ := h1
       have hst : step E s o = some s' := by
        unfold step
        rw [zjl hcv hpl hq.1]
        exact hs'
       rw [hrun.app s o s' hst hap]
       exact hk s' ps h1 hq.2
     · cases h
 · cases hr : run E s o with
   | none => rw [hr] at h; cases h
   | some s' => rw [hr] at h; exact hk s' q.1 h hq
theorem zdT : ∀ (l : List Oper) (s : St) (q : List Prop × St), hops E hs ops l s = some q → Obs q.1 → zdu E ops l s = some q.2
 | [], s, q, h, hq => by cases h; rfl
 | o :: l, s, q, h, hq => by
   unfold hops at h
   unfold zdu
   exact zef h hq (fun s ps h1 h2 => zaV step_ok h1 h2 fun s ps h3 h4 => zdT l s (ps, q.2) h3 h4) (fun s ps h1 h2 => zdT l _ (ps, q.2) h1 h2)
theorem zaw {M : Option (List Nat)} : ∀ (l : List PRow) (first : Bool) (s : St) (q : List Prop × St), zdd E hs ops M first l s = some q → Obs q.1 → zat E ops M first l s = some q.2
 | [], first, s, q, h, hq => by cases h; rfl
 | (i, k, ds) :: l, first, s, q, h, hq => by
   unfold zdd at h
   unfold zat
   split at h
   · cases h
   · rename_i hj
     simp only [hj]
     split at h
     · cases h
     · rename_i o ho
       simp only [ho]
       refine zef h hq (fun s ps h1 h2 => ?_) (fun s ps h1 h2 => zaw l _ _ (ps, q.2) h1 h2)
       split at h1
       · split at h1
         · rename_i hgr
           have := zaV (hs := hs) step_ok h1 h2 fun s ps h3 h4 => zaw l _ s (ps, q.2) h3 h4
           simp only [zar, hgr]
           exact this
         · cases h1
       · exact zaV (hs := hs) (zcL (M := none) (first := first) (k := 4)) h1 h2 fun s ps h3 h4 => zaw l _ s (ps, q.2) h3 h4
       · exact zaV (hs := hs) (zcL (M := none) (first := first) (k := 4)) h1 h2 fun s ps h3 h4 => zaw l _ s (ps, q.2) h3 h4
       · exact zaV (hs := hs) (zcL (M := none) (first := first) (k := 4)) h1 h2 fun s ps h3 h4 => zaw l _ s (ps, q.2) h3 h4
       · split at h1
         · rename_i hcv
           have := zaV (hs := hs) step_ok h1 h2 fun s ps h3 h4 => zaw l _ s (ps, q.2) h3 h4
           simp only [zar, hcv]
           exact this
         · cases h1
       · split at h1
         · rename_i hcv
           have := zaV (hs := hs) step_ok h1 h2 fun s ps h3 h4 => zaw l _ s (ps, q.2) h3 h4
           simp only [zar, hcv]
           exact this
         · cases h1
       · split at h1
         · rename_i hcv
           have := zaV (hs := hs) step_ok h1 h2 fun s ps h3 h4 => zaw l _ s (ps, q.2) h3 h4
           simp only [zar, hcv]
           exact this
         · cases h1
       · split at h1
         · split at h1
           · rename_i hcv
             have := zaV (hs := hs) step_ok h1 h2 fun s ps h3 h4 => zaw l _ s (ps, q.2) h3 h4
             simp only [zar, hcv]
             exact this
           · cases h1
         · cases h1
       · split at h1
         · rename_i hcv
           have := zaV (hs := hs) step_ok h1 h2 fun s ps h3 h4 => zaw l _ s (ps, q.2) h3 h4
           simp only [zar, hcv]
           exact this
         · cases h1
       · rename_i n5 n6 n7 n8 n9 n10 n11 n12 n13
         have e : ∀ s, zar E M first k s o = zaF E M first k s o := fun s => by
          unfold zar
          split
          · exact absurd rfl n5
          · exact absurd rfl n6
          · exact absurd rfl n7
          · exact absurd rfl n8
          · exact absurd rfl n9
          · exact absurd rfl n10
          · exact absurd rfl n11
          · exact absurd rfl n12
          · exact absurd rfl n13
          · rfl
         rw [e]
         exact zaV zcL h1 h2 fun s ps h3 h4 => zaw l _ s (ps, q.2) h3 h4
theorem zgl {id : Nat} {draw : Bool} {s : St} {q : List Prop × St} (h : zhW E hs id ops draw s = some q) (hq : Obs q.1) : zb5 E id ops draw s = some q.2 := by
 unfold zhW at h
 unfold zb5
 cases draw with
 | false => exact zdT _ _ _ h hq
 | true =>
   simp only at h ⊢
   split at h
   · rename_i p hp
     simp only [hp]
     unfold zmd at h
     unfold zhT
     split at h
     · rename_i e
       simp only [e]
       cases h; rfl
     · rename_i i k ds l e
       simp only [e]
       split at h
       · rename_i hn
         simp only [hn]
         exact zaw _ _ _ _ h hq
       · cases h
   · cases h
theorem zfV {r : Option (List Prop × X × St)} {k : X → St → Option (List Prop × X × St)} {q : List Prop × X × St} (h : zkT r k = some q) (hq : Obs q.1) : ∃ ps x s qs, r = some (ps, x, s) ∧ k x s = some (qs, q.2) ∧ Obs ps ∧ Obs qs := by
 unfold zkT at h
 split at h
 · rename_i ps x s
   split at h
   · rename_i q' hk
     cases h
     obtain ⟨h1, h2⟩ := zfC hq
     exact ⟨ps, x, s, q'.1, rfl, hk, h1, h2⟩
   · cases h
 · cases h
theorem zaU {n : Nat} : ∀ (c : Code) (s : St) (q : List Prop × X × St), zck E n hs c s = some q → Obs q.1 → exec E n c s = some q.2
 | .skip, s, q, h, hq => by cases h; rfl
 | .region id ops draw, s, q, h, hq => by
   simp only [zck] at h
   split at h
   · rename_i r hr
     cases h
     simp only [exec]
     rw [zgl hr hq]
     rfl
   · cases h
 | .seq a b, s, q, h, hq => by
   obtain ⟨pq, r⟩ := q
   simp only [zck] at h
   obtain ⟨ps, x, s1, qs, h1, h2, h3, h4⟩ := zfV h hq
   have := zaU a s _ h1 h3
   simp only [exec, this]
   cases x with
   | normal => exact zaU b s1 (qs, r) h2 h4
   | exit i => cases h2; rfl
   | ret => cases h2; rfl
 | .cond c a b, s, q, h, hq => by
   simp only [zck] at h
   simp only [exec]
   exact zhB h hq (fun s ps h1 h2 => zaU a s (ps, q.2) h1 h2) (fun s ps h1 h2 => zaU b s (ps, q.2) h1 h2)
 | .block id c, s, q, h, hq => by
   obtain ⟨pq, r⟩ := q
   simp only [zck] at h
   obtain ⟨ps, x, s1, qs, h1, h2, h3, h4⟩ := zfV h hq
   have := zaU c s _ h1 h3
   simp only [exec, this]
   cases x with
   | normal => cases h2; rfl
   | exit i =>
     simp only at h2 ⊢
     split at h2
     · rename_i hb; simp only [hb]; cases h2; rfl
     · rename_i hb; simp only [hb]; cases h2; rfl
   | ret => cases h2; rfl
 | .loop c, s, q, h, hq => by
   simp only [zck] at h
   split at h
   · cases h; exact hq.2.1 s ((zh0 _ s).trans hq.1)
   · cases h
 | .exit id, s, q, h, hq => by cases h; rfl
 | .ret, s, q, h, hq => by cases h; rfl
 | .label _, s, q, h, hq => by cases h
 | .goto _, s, q, h, hq => by cases h
 | .rangeFunc _ _ _ _, s, q, h, hq => by cases h
 | .scope _, s, q, h, hq => by cases h
 | .refuse _, s, q, h, hq => by cases h
end
end Go.Den
namespace Go.Den
open Go
set_option linter.unusedVariables false
abbrev Res := List D × List (List D) × List (Option Row)
def hrun (C : Cfg) (n : Nat) (call : Nat → List D → List (List D) → List (Option Row) → Option Res) (hs : zcn) (f : Nat) (fn : Func) (args : List D) (u : List (List D)) (l : List (Option Row)) : Option (List Prop × Res) :=
 match fn.body with
 | none => none
 | some c => match zck ⟨C.ty, C.mode, fn.ntmps, C.live f, C.out f, C.plan f, call⟩ n hs c (zbr args u l) with
   | some (_, .exit _, _) => none
   | some (ps, _, s) => (zlR C.ty (C.liv f) fn.results.toList u l s).map fun r => (ps, r)
   | none => none
theorem ziU {C : Cfg} {n : Nat} {call : Nat → List D → List (List D) → List (Option Row) → Option Res} (hs : zcn) {f : Nat} {fn : Func} {args : List D} {u : List (List D)} {l : List (Option Row)} {q : List Prop × Res} (h : hrun C n call hs f fn args u l = some q) (hq : Obs q.1) : zbO C n call f fn args u l = some q.2 := by
 unfold hrun at h
 unfold zbO
 split at h
 · cases h
 · rename_i c hc
   rw [hc]
   simp only
   split at h
   · cases h
   · rename_i ps x s hne he
     simp only [Option.map_eq_some_iff] at h
     obtain ⟨r, hr, h⟩ := h
     cases h
     have := zaU _ _ _ he hq
     rw [this]
     cases x with
     | exit i => exact (hne _ rfl).elim
     | normal => simp only [hr]
     | ret => simp only [hr]
   · cases h
theorem zah {C : Cfg} {n : Nat} {call : Nat → List D → List (List D) → List (Option Row) → Option Res} (hs : zcn) {f : Nat} {fn : Func} {args : List D} {u : List (List D)} {l : List (Option Row)} {ps : List Prop} {r : Res} (hq : Obs ps) (h : hrun C n call hs f fn args u l = some (ps, r)) : zbO C n call f fn args u l = some r := ziU hs h hq
theorem ob0 : Obs [] := trivial
theorem ob {p : Prop} {l : List Prop} (h : p) (hl : Obs l) : Obs (p :: l) := ⟨h, hl⟩
def ze1 (r : Nat) : Code → Option Code
 | .seq a b => match ze1 r a with | some c => some c | none => ze1 r b
 | .cond _ a b => match ze1 r a with | some c => some c | none => ze1 r b
 | .block _ a => ze1 r a
 | .loop a => match Nat.beq (zaa a) r with | true => some a | false => ze1 r a
 | _ => none
def lp (fn : Func) (r : Nat) : Code := match fn.body with | some c => (ze1 r c).getD .skip | none => .skip
def zbY (C : Cfg) (k f : Nat) (fn : Func) : Env := ⟨C.ty, C.mode, fn.ntmps, C.live f, C.out f, C.plan f, den C k⟩
def za2 (C : Cfg) (k f : Nat) (fn : Func) (r : Nat) (s0 : St) (x : X) (s' : St) : Prop := zjX (zbY C k f fn) k (lp fn r) s0 x s'
section
variable {E : Env} {n m : Nat} {c : Code} {L : List Nat} {s s0 s1 s2 : St} {ps : List Prop} {hs : zcn}
def stOf (r : Option (List Prop × X × St)) : St := match r with | some q => q.2.2 | none => zbr [] [] []
def zkR (r : Option (List Prop × X × St)) : Option (List Prop × X) := match r with | some q => some (q.1, q.2.1) | none => none
def zba (E : Env) (n : Nat) (c : Code) (m : Nat) (s : St) (K : X → St → Prop) : Prop := ∃ x s1, iter (exec E n c) (St.norm (E.live (zaa c))) m s = some (x, s1) ∧ K x (s1.norm (E.out (zaa c)))
theorem zfx {r : Option (List Prop × X × St)} {p : List Prop × X} (h : zkR r = some p) : r = some (p.1, p.2, stOf r) := by
 unfold zkR at h
 split at h
 · cases h; rfl
 · cases h
theorem zaK {K : X → St → Prop} (hs : zcn) (hL : s.norm (E.live (zaa c)) = s0) (h : zkR (zck E n hs c s0) = some (ps, .normal)) (ho : Obs ps) (hst : nmOf (E.live (zaa c)) (stOf (zck E n hs c s0)) = s2) (hn : ∀ s, s.norm (E.live (zaa c)) = s2 → zba E n c m s K) : zba E n c (m + 1) s K := by
 obtain ⟨x, s1, h1, h2⟩ := hn (stOf (zck E n hs c s0)) ((zh0 _ _).trans hst)
 have := zaU _ _ _ (zfx h) ho
 refine ⟨x, s1, ?_, h2⟩
 simp only [iter, hL, this]
 exact h1
theorem zan {K : X → St → Prop} {x : X} (hs : zcn) (hL : s.norm (E.live (zaa c)) = s0) (h : zkR (zck E n hs c s0) = some (ps, x)) (hx : (match x with | .normal => false | _ => true) = true) (ho : Obs ps) (hst : nmOf (E.out (zaa c)) (stOf (zck E n hs c s0)) = s2) (hK : K x s2) : zba E n c (m + 1) s K := by
 have := zaU _ _ _ (zfx h) ho
 refine ⟨x, stOf (zck E n hs c s0), ?_, by rw [zh0, hst]; exact hK⟩
 simp only [iter, hL, this]
 cases x with
 | normal => cases hx
 | _ => rfl
theorem zh4 {K : X → St → Prop} (h : zba E n c n s K) : ∃ x s', exec E n (.loop c) s = some (x, s') ∧ K x s' := by
 obtain ⟨x, s1, h1, h2⟩ := h
 exact ⟨x, _, by simp only [exec, h1, Option.map_some], h2⟩
theorem zkf {x : X} (h : ∀ s : St, s.norm (E.live (zaa c)) = s0 → zba E n c n s (fun x' s' => x' = x ∧ s' = s1)) : zjX E n c s0 x s1 := fun s hL => by
 obtain ⟨x', s', h1, rfl, rfl⟩ := zh4 (h s hL)
 exact h1
end
end Go.Den
namespace Go.Den
open Go
abbrev I (n : Int) : Dat := .val (.int .i64 n)
abbrev B (b : Bool) : Dat := .val (.bool b)
abbrev S (s : ByteArray) : Dat := .val (.string s)
abbrev w64 (n : Int) : Int := IntKind.i64.wrap n
abbrev T (k n : Int) (ds : List Dat) : Dat := .agg [I k, I n, .lst false ds]
end Go.Den
namespace Go.Den
open Go
set_option linter.unusedVariables false
set_option maxRecDepth 100000
theorem zia {α : Type} {f : Nat} : ∀ {l : List (Nat × α)}, memN f (l.map (·.1)) = false → zcV l f = none
 | [], _ => rfl
 | (a, x) :: l, h => by
   simp only [List.map_cons, memN] at h
   unfold zcV
   split at h
   · cases h
   · rename_i hb
     have hab : Nat.beq a f = false := by
      cases hc : Nat.beq a f with
      | false => rfl
      | true =>
        have := Nat.eq_of_beq_eq_true hc
        subst this
        have hr : Nat.beq a a = true := Nat.beq_refl a
        rw [hr] at hb
        cases hb
     rw [hab]
     exact zia h
theorem zkJ : extsOf.map (·.1) = zjp := by rfl
theorem noExt {f : Nat} {fn : Func} (h : cfg.fn f = some fn) (hb : memN f zgb = false) : cfg.ext f = none := by
 unfold cfg at h ⊢
 simp only at h ⊢
 split at h
 · rename_i hbb
   simp only [Bool.and_eq_true, Bool.or_eq_true, Bool.not_eq_true', hb, Bool.false_eq_true, or_false] at hbb
   exact zia (by rw [zkJ]; exact hbb.2)
 · cases h
def EvN (N f : Nat) (args : List D) (u : List (List D)) (l : List (Option Row)) (r : Res) : Prop := ∀ k, N ≤ k → den cfg k f args u l = some r
theorem zcl {f : Nat} (fn : Func) {args : List D} {u : List (List D)} {l : List (Option Row)} {r : Res} (N : Nat) (hf : cfg.fn f = some fn) (hl : Nat.ble args.length fn.ntmps = true) (h : ∀ kk, N ≤ kk → zbO cfg kk (den cfg kk) f fn args u l = some r) (hb : memN f zgb = false := by kernel_rfl) : EvN (N + 1) f args u l r := fun k hk => by
 obtain ⟨m, rfl⟩ : ∃ m, k = m + 1 := ⟨k - 1, by omega⟩
 simp only [den, noExt hf hb, Option.bind_none, hf, hl]
 exact h m (by omega)
theorem zkb {n : Int} (h : -9223372036854775808 ≤ n ∧ n ≤ 9223372036854775807) : w64 n = n := by show IntKind.i64.wrap n = n; rw [IntKind.wrap_i64]; omega
theorem zeb {E : Env} {kk : Nat} {c : Code} {K : X → St → Prop} (st : Nat → St) (n : Nat)
 (hgo : ∀ i, i < n → ∀ (m : Nat) (s : St), s.norm (E.live (zaa c)) = st i → (∀ s : St, s.norm (E.live (zaa c)) = st (i + 1) → zba E kk c m s K) → zba E kk c (m + 1) s K)
 (hend : ∀ (m : Nat) (s : St), s.norm (E.live (zaa c)) = st n → zba E kk c (m + 1) s K) : ∀ (d i m : Nat), i + d = n → d < m → ∀ s : St, s.norm (E.live (zaa c)) = st i → zba E kk c m s K
 | 0, i, m, hi, hm, s, hs => by
   obtain ⟨m, rfl⟩ : ∃ k, m = k + 1 := ⟨m - 1, by omega⟩
   have : i = n := by omega
   subst this
   exact hend m s hs
 | d + 1, i, m, hi, hm, s, hs => by
   obtain ⟨m, rfl⟩ : ∃ k, m = k + 1 := ⟨m - 1, by omega⟩
   exact hgo i (by omega) m s hs fun s' hs' => zeb st n hgo hend d (i + 1) m (by omega) (by omega) s' hs'
theorem zaS {kk f : Nat} {fn : Func} {r : Nat} {x : X} {s' : St} (st : Nat → St) (n : Nat) (hk : n < kk)
 (hgo : ∀ i, i < n → ∀ (m : Nat) (s : St) (K : X → St → Prop), s.norm ((zbY cfg kk f fn).live (zaa (lp fn r))) = st i → (∀ s : St, s.norm ((zbY cfg kk f fn).live (zaa (lp fn r))) = st (i + 1) → zba (zbY cfg kk f fn) kk (lp fn r) m s K) → zba (zbY cfg kk f fn) kk (lp fn r) (m + 1) s K)
 (hend : ∀ (m : Nat) (s : St) (K : X → St → Prop), s.norm ((zbY cfg kk f fn).live (zaa (lp fn r))) = st n → K x s' → zba (zbY cfg kk f fn) kk (lp fn r) (m + 1) s K) {s0 : St} (h0 : s0 = st 0) : za2 cfg kk f fn r s0 x s' :=
 zkf fun s hs => zeb st n (fun i hi m s hs hn => hgo i hi m s _ hs hn) (fun m s hs => hend m s _ hs ⟨rfl, rfl⟩) n 0 kk (by omega) hk s (by rw [hs, h0])
theorem zlL {α : Type} (a : List α) (z x : α) (i : Nat) (hi : i < a.length) (hx : a[i]? = some x) : (a.take i ++ List.replicate (a.length - i) z).set i x = a.take (i + 1) ++ List.replicate (a.length - (i + 1)) z := by
 have h1 : (a.take i).length = i := by simp; omega
 obtain ⟨m, hm⟩ : ∃ m, a.length - i = m + 1 := ⟨a.length - i - 1, by omega⟩
 rw [hm, show a.length - (i + 1) = m by omega, List.replicate_succ, List.set_append_right _ _ (by omega), h1, Nat.sub_self, List.set_cons_zero, List.take_add_one, hx]
 simp
theorem zlK {α : Type} (a : List α) (z : α) (i : Nat) (hi : i < a.length) : (a.take i ++ List.replicate (a.length - i) z)[i]? = some z := by
 have h1 : (a.take i).length = i := by simp; omega
 rw [List.getElem?_append_right (by omega), h1, Nat.sub_self, List.getElem?_replicate, if_pos (by omega)]
theorem zfi {α : Type} (p : α → Bool) : ∀ {ks : List α}, ks.all p = false → ∃ (j : Nat) (x : α), ks[j]? = some x ∧ p x = false ∧ ∀ i y, i < j → ks[i]? = some y → p y = true
 | [], h => by cases h
 | y :: ks, h => by
   cases hy : p y with
   | false => exact ⟨0, y, rfl, hy, fun i y hi => by omega⟩
   | true =>
     rw [List.all_cons, hy, Bool.true_and] at h
     obtain ⟨j, x, h1, h2, h3⟩ := zfi p h
     refine ⟨j + 1, x, by simpa using h1, h2, fun i z hi hz => ?_⟩
     cases i with
     | zero => simp at hz; rw [← hz]; exact hy
     | succ i => exact h3 i z (by omega) (by simpa using hz)
theorem zd0 {kk f : Nat} {fn : Func} {r : Nat} {x1 x2 : X} {s1 : St} {s2 : Nat → St} (st : Nat → St) (chk : Nat → Bool) (n : Nat) (hk : n < kk)
 (hr : ∀ i, i < n → (∀ j, j < i → chk j = true) → ∀ (m : Nat) (s : St) (K : X → St → Prop), s.norm ((zbY cfg kk f fn).live (zaa (lp fn r))) = st i → (chk i = true → ∀ s : St, s.norm ((zbY cfg kk f fn).live (zaa (lp fn r))) = st (i + 1) → zba (zbY cfg kk f fn) kk (lp fn r) m s K) → (chk i = false → K x2 (s2 i)) → zba (zbY cfg kk f fn) kk (lp fn r) (m + 1) s K)
 (hend : (∀ j, j < n → chk j = true) → ∀ (m : Nat) (s : St) (K : X → St → Prop), s.norm ((zbY cfg kk f fn).live (zaa (lp fn r))) = st n → K x1 s1 → zba (zbY cfg kk f fn) kk (lp fn r) (m + 1) s K) {s0 : St} (h0 : s0 = st 0) :
 ((List.range n).all chk = true → za2 cfg kk f fn r s0 x1 s1) ∧ (∀ i, i < n → (∀ j, j < i → chk j = true) → chk i = false → za2 cfg kk f fn r s0 x2 (s2 i)) := by
 refine ⟨fun hall => ?_, fun i hi hch hc => ?_⟩
 · have hch : ∀ j, j < n → chk j = true := fun j hj => (List.all_eq_true.1 hall) j (List.mem_range.2 hj)
   exact zaS st n hk (fun i hi m s K hs hn => hr i hi (fun j hj => hch j (by omega)) m s K hs (fun _ => hn) (fun h => by rw [hch i hi] at h; cases h)) (fun m s K hs hK => hend hch m s K hs hK) h0
 · exact zaS st i (by omega) (fun j hj m s K hs hn => hr j (by omega) (fun q hq => hch q (by omega)) m s K hs (fun _ => hn) (fun h => by rw [hch j hj] at h; cases h)) (fun m s K hs hK => hr i hi hch m s K hs (fun h => by rw [hc] at h; cases h) (fun _ => hK)) h0
theorem zft {kk f : Nat} {fn : Func} {r : Nat} {x1 x2 : X} {s1 s2 : St} (st : Nat → St) (chk : Nat → Bool) (n : Nat) (hk : n < kk)
 (hr : ∀ i, i < n → (∀ j, j < i → chk j = true) → ∀ (m : Nat) (s : St) (K : X → St → Prop), s.norm ((zbY cfg kk f fn).live (zaa (lp fn r))) = st i → (chk i = true → ∀ s : St, s.norm ((zbY cfg kk f fn).live (zaa (lp fn r))) = st (i + 1) → zba (zbY cfg kk f fn) kk (lp fn r) m s K) → (chk i = false → K x2 s2) → zba (zbY cfg kk f fn) kk (lp fn r) (m + 1) s K)
 (hend : (∀ j, j < n → chk j = true) → ∀ (m : Nat) (s : St) (K : X → St → Prop), s.norm ((zbY cfg kk f fn).live (zaa (lp fn r))) = st n → K x1 s1 → zba (zbY cfg kk f fn) kk (lp fn r) (m + 1) s K) {s0 : St} (h0 : s0 = st 0) :
 ((List.range n).all chk = true → za2 cfg kk f fn r s0 x1 s1) ∧ ((List.range n).all chk = false → za2 cfg kk f fn r s0 x2 s2) := by
 obtain ⟨h1, h2⟩ := zd0 (s2 := fun _ => s2) st chk n hk hr hend h0
 refine ⟨h1, fun hall => ?_⟩
 obtain ⟨j, q, h3, h4, h5⟩ := zfi chk hall
 have hj : j < n := by
  have := (List.getElem?_eq_some_iff.1 h3).1
  simpa using this
 have hqj : q = j := by
  rw [List.getElem?_range hj] at h3
  exact (Option.some.inj h3).symm
 subst hqj
 exact h2 q hj (fun i hi => h5 i i hi (List.getElem?_range (by omega))) h4
theorem zmk {n : Nat} {d : Dat} {i : TI} {k : IntKind} (h : WT cfg.ty n d) (ht : cfg.ty n = some i) (hk : i.kind = .int k) : ∃ x : Int, d = .val (.int k x) ∧ (Lit.int k x).wf = true := by
 cases h with
 | @int _ i' k' x ht' hk' hw => rw [ht] at ht'; cases ht'; rw [hk] at hk'; cases hk'; exact ⟨x, rfl, hw⟩
 | bool ht' hk' => rw [ht] at ht'; cases ht'; rw [hk] at hk'; cases hk'
 | str ht' hk' => rw [ht] at ht'; cases ht'; rw [hk] at hk'; cases hk'
 | lst ht' hk' => rw [ht] at ht'; cases ht'; rw [hk] at hk'; cases hk'
 | agg ht' hk' => rw [ht] at ht'; cases ht'; rw [hk] at hk'; cases hk'
theorem zl4 {n e : Nat} {d : Dat} {i : TI} (h : WT cfg.ty n d) (ht : cfg.ty n = some i) (hk : i.kind = .slice e) : ∃ es : List Dat, d = .lst false es ∧ es.length ≤ maxLen ∧ ∀ x ∈ es, WT cfg.ty e x := by
 cases h with
 | int ht' hk' => rw [ht] at ht'; cases ht'; rw [hk] at hk'; cases hk'
 | bool ht' hk' => rw [ht] at ht'; cases ht'; rw [hk] at hk'; cases hk'
 | str ht' hk' => rw [ht] at ht'; cases ht'; rw [hk] at hk'; cases hk'
 | @lst _ i' e' es ht' hk' hl hx => rw [ht] at ht'; cases ht'; rw [hk] at hk'; cases hk'; exact ⟨es, rfl, hl, hx⟩
 | agg ht' hk' => rw [ht] at ht'; cases ht'; rw [hk] at hk'; cases hk'
theorem zl9 {n : Nat} {d : Dat} {i : TI} (h : WT cfg.ty n d) (ht : cfg.ty n = some i) (hk : i.kind = .struct) : ∃ cs : List Dat, d = .agg cs ∧ cs.length = i.fs.length ∧ ∀ (j : Nat) (f : Nat × Nat) (x : Dat), i.fs[j]? = some f → cs[j]? = some x → WT cfg.ty f.2 x := by
 cases h with
 | int ht' hk' => rw [ht] at ht'; cases ht'; rw [hk] at hk'; cases hk'
 | bool ht' hk' => rw [ht] at ht'; cases ht'; rw [hk] at hk'; cases hk'
 | str ht' hk' => rw [ht] at ht'; cases ht'; rw [hk] at hk'; cases hk'
 | lst ht' hk' => rw [ht] at ht'; cases ht'; rw [hk] at hk'; cases hk'
 | @agg _ i' cs ht' hk' hl hx => rw [ht] at ht'; cases ht'; exact ⟨cs, rfl, hl, hx⟩
theorem zlk {d : Dat} (h : WT cfg.ty 3 d) : ∃ n : Int, d = I n := by
 obtain ⟨n, h1, _⟩ := zmk h (i := ⟨.int .i64, 1, 8, [], [.dat (.val (.int .i64 0))]⟩) (by kernel_rfl) rfl
 exact ⟨n, h1⟩
end Go.Den
namespace Go.Den
open Go
abbrev fD (k f : Nat) (a r : List D) : Prop := den cfg k f a [] [] = some (r, [], [])
noncomputable abbrev fN (k f : Nat) (fn : Func) (r : Nat) : List Nat := (zbY cfg k f fn).live (zaa (lp fn r))
abbrev fR (k f : Nat) (fn : Func) (r m : Nat) (s : St) (K : X → St → Prop) : Prop := zba (zbY cfg k f fn) k (lp fn r) m s K
theorem rF : false = false := rfl
theorem rT : true = true := rfl
abbrev tT (p : Prop) [Decidable p] : Prop := decide p = true
abbrev tF (p : Prop) [Decidable p] : Prop := decide p = false
open Go.Proofs
open Go
set_option linter.unusedVariables false
set_option maxRecDepth 100000
abbrev In := Go.Proofs.YtmoocdlfclhgcaaDoor.Ins
theorem szIn (kk : Nat) (c : In) (left : Int) {r : Res} (q1 : (tT (w64 (left - (c.t.size : Int)) < 0)) → r = ([D.dat (I (-1))], [], [])) (q2 : (tF (w64 (left - (c.t.size : Int)) < 0)) → r = ([D.dat (I (w64 (left - (c.t.size : Int))))], [], [])) : zbO cfg kk (den cfg kk) 16 Tryd.f16 [.dat (DIns c), .dat (I left)] [] [] = some r := by
 rcases Bool.eq_false_or_eq_true (decide (w64 (left - (c.t.size : Int)) < 0)) with d1 | d1
 · have oz := q1 d1
   subst oz; exact zah [(200011, .yes)] (ob d1 ob0) (by kernel_rfl)
 · have oz := q2 d1
   subst oz; exact zah [(200011, .no)] (ob d1 ob0) (by kernel_rfl)
def hdz (b : Bool) (es : List Dat) (left i : Int) : St := Nm [0, 1, 5] [.dat (.lst b es), .dat (I left), .dat (I i)] [none, none, none] [] []
theorem zmp (kk m : Nat) {s : St} {K : X → St → Prop} (b : Bool) (es : List Dat) (left i : Int) (c20 : In) (x23 : Int) (hs : s.norm (fN kk 5 Tryd.f5 5) = hdz b es left i) (q1 : (tT (i < (es.length : Int))) → (tT (x23 < 0)) → ((0 ≤ i ∧ i < (es.length : Int)) ∧ es[i.toNat]? = some (Dat.agg [I c20.op, I c20.a, Dat.val (Value.string c20.t)])) ∧ (fD kk 16 [D.dat (Dat.agg [I c20.op, I c20.a, Dat.val (Value.string c20.t)]), D.dat (I left)] [D.dat (I x23)]) ∧ K (X.ret) (Nm [1, 4] [D.dat (I x23), D.dat (I (-1))] [none, none] [] [])) (q2 : (tT (i < (es.length : Int))) → (tF (x23 < 0)) → ((0 ≤ i ∧ i < (es.length : Int)) ∧ es[i.toNat]? = some (Dat.agg [I c20.op, I c20.a, Dat.val (Value.string c20.t)])) ∧ (fD kk 16 [D.dat (Dat.agg [I c20.op, I c20.a, Dat.val (Value.string c20.t)]), D.dat (I left)] [D.dat (I x23)]) ∧ (∀ s : St, s.norm (fN kk 5 Tryd.f5 5) = Nm [0, 1, 5] [D.dat (Dat.lst b es), D.dat (I x23), D.dat (I (w64 (i + 1)))] [none, none, none] [] [] → fR kk 5 Tryd.f5 5 m s K)) (q3 : (tF (i < (es.length : Int))) → K (X.exit 0) (Nm [1, 4] [D.dat (I left), D.junk] [none, none] [] [])) : fR kk 5 Tryd.f5 5 (m + 1) s K := by
 rcases Bool.eq_false_or_eq_true (decide (i < (es.length : Int))) with d1 | d1
 · rcases Bool.eq_false_or_eq_true (decide (x23 < 0)) with d4 | d4
   · obtain ⟨hz1, hz2, oz⟩ := q1 d1 d4
     exact zan [(20, .at (DIns c20)), (23, .ret [.dat (I x23)]), (200015, .yes), (200025, .yes)] hs (by kernel_rfl) rfl (ob d1 (ob hz1 (ob hz2 (ob d4 ob0)))) (by kernel_rfl) oz
   · obtain ⟨hz1, hz2, oz⟩ := q2 d1 d4
     exact zaK [(20, .at (DIns c20)), (23, .ret [.dat (I x23)]), (200015, .yes), (200025, .no)] hs (by kernel_rfl) (ob d1 (ob hz1 (ob hz2 (ob d4 ob0)))) (by kernel_rfl) oz
 · have oz := q3 d1
   exact zan [(20, .at (DIns c20)), (23, .ret [.dat (I x23)]), (200015, .no)] hs (by kernel_rfl) rfl (ob d1 ob0) (by kernel_rfl) oz
theorem szS_y (kk : Nat) (b : Bool) (es : List Dat) (left z : Int) {r : Res} (q1 : (tT (w64 (left - (es.length : Int)) < 0)) → r = ([D.dat (I (-1))], [], [])) (q2 : (tF (w64 (left - (es.length : Int)) < 0)) → (za2 cfg kk 5 Tryd.f5 5 (hdz b es (w64 (left - (es.length : Int))) 0) (X.exit 0) (Nm [1, 4] [D.dat (I z), D.junk] [none, none] [] [])) ∧ r = ([D.dat (I z)], [], [])) : zbO cfg kk (den cfg kk) 5 Tryd.f5 [.dat (Dat.lst b es), .dat (I left)] [] [] = some r := by
 rcases Bool.eq_false_or_eq_true (decide (w64 (left - (es.length : Int)) < 0)) with d1 | d1
 · have oz := q1 d1
   subst oz; exact zah [(300005, .loop (hdz b es (w64 (left - es.length)) 0) (.exit 0) (Nm [1, 4] [.dat (I z), .junk] [none, none] [] [])), (200011, .yes)] (ob d1 ob0) (by kernel_rfl)
 · obtain ⟨hz1, oz⟩ := q2 d1
   subst oz; exact zah [(300005, .loop (hdz b es (w64 (left - es.length)) 0) (.exit 0) (Nm [1, 4] [.dat (I z), .junk] [none, none] [] [])), (200011, .no)] (ob d1 (ob (rfl : _ = hdz b es (w64 (left - (es.length : Int))) 0) (ob hz1 ob0))) (by kernel_rfl)
theorem zmj (kk : Nat) (b : Bool) (es : List Dat) (left z : Int) {r : Res} (q1 : (tT (w64 (left - (es.length : Int)) < 0)) → r = ([D.dat (I (-1))], [], [])) (q2 : (tF (w64 (left - (es.length : Int)) < 0)) → (za2 cfg kk 5 Tryd.f5 5 (hdz b es (w64 (left - (es.length : Int))) 0) X.ret (Nm [1, 4] [D.dat (I z), D.dat (I (-1))] [none, none] [] [])) ∧ r = ([D.dat (I (-1))], [], [])) : zbO cfg kk (den cfg kk) 5 Tryd.f5 [.dat (Dat.lst b es), .dat (I left)] [] [] = some r := by
 rcases Bool.eq_false_or_eq_true (decide (w64 (left - (es.length : Int)) < 0)) with d1 | d1
 · have oz := q1 d1
   subst oz; exact zah [(300005, .loop (hdz b es (w64 (left - es.length)) 0) .ret (Nm [1, 4] [.dat (I z), .dat (I (-1))] [none, none] [] [])), (200011, .yes)] (ob d1 ob0) (by kernel_rfl)
 · obtain ⟨hz1, oz⟩ := q2 d1
   subst oz; exact zah [(300005, .loop (hdz b es (w64 (left - es.length)) 0) .ret (Nm [1, 4] [.dat (I z), .dat (I (-1))] [none, none] [] [])), (200011, .no)] (ob d1 (ob (rfl : _ = hdz b es (w64 (left - (es.length : Int))) 0) (ob hz1 ob0))) (by kernel_rfl)
theorem toIn (kk : Nat) (c : In) {r : Res} (q1 : r = ([D.dat (Dat.agg [I c.op, I c.a, Dat.val (Value.string c.t)])], [], [])) : zbO cfg kk (den cfg kk) 18 Tryd.f18 [.dat (DIns c)] [] [] = some r := by
 have oz := q1
 subst oz; exact zah [] ob0 (by kernel_rfl)
def hdt (b : Bool) (es : List Dat) (out : List Dat) (i : Int) : St := Nm [0, 3, 4] [.dat (.lst b es), .own 41 out, .dat (I i)] [none, none, none] [] []
theorem zmo (kk m : Nat) {s : St} {K : X → St → Prop} (b : Bool) (es : List Dat) (out : List Dat) (i : Int) (c18 : In) (c20 : In) (c100021 : In) (hs : s.norm (fN kk 7 Tryd.f7 3) = hdt b es out i) (q1 : (tT (i < (es.length : Int))) → ((0 ≤ i ∧ i < (es.length : Int)) ∧ es[i.toNat]? = some (Dat.agg [I c18.op, I c18.a, Dat.val (Value.string c18.t)])) ∧ (fD kk 18 [D.dat (Dat.agg [I c18.op, I c18.a, Dat.val (Value.string c18.t)])] [D.dat (Dat.agg [I c20.op, I c20.a, Dat.val (Value.string c20.t)])]) ∧ (0 ≤ i ∧ i < (out.length : Int)) ∧ (out[i.toNat]? = some (Dat.agg [I c100021.op, I c100021.a, Dat.val (Value.string c100021.t)])) ∧ (∀ s : St, s.norm (fN kk 7 Tryd.f7 3) = Nm [0, 3, 4] [D.dat (Dat.lst b es), D.own 41 (out.set i.toNat (Dat.agg [I c20.op, I c20.a, Dat.val (Value.string c20.t)])), D.dat (I (w64 (i + 1)))] [none, none, none] [] [] → fR kk 7 Tryd.f7 3 m s K)) (q2 : (tF (i < (es.length : Int))) → K (X.exit 0) (Nm [3] [D.own 41 out] [none] [] [])) : fR kk 7 Tryd.f7 3 (m + 1) s K := by
 rcases Bool.eq_false_or_eq_true (decide (i < (es.length : Int))) with d1 | d1
 · obtain ⟨hz1, hz2, hz3, hz4, oz⟩ := q1 d1
   exact zaK [(18, .at (DIns c18)), (20, .ret [.dat (DIns c20)]), (21, .ok), (100021, .at (DIns c100021)), (200011, .yes)] hs (by kernel_rfl) (ob d1 (ob hz1 (ob hz2 (ob hz3 (ob hz4 ob0))))) (by kernel_rfl) oz
 · have oz := q2 d1
   exact zan [(18, .at (DIns c18)), (20, .ret [.dat (DIns c20)]), (21, .ok), (100021, .at (DIns c100021)), (200011, .no)] hs (by kernel_rfl) rfl (ob d1 ob0) (by kernel_rfl) oz
theorem toS (kk : Nat) (b : Bool) (es : List Dat) {r : Res} (q1 : (0 ≤ (es.length : Int) ∧ (es.length : Int) ≤ (es.length : Int) ∧ (es.length : Int) ≤ 2147483648) ∧ (za2 cfg kk 7 Tryd.f7 3 (hdt b es (List.replicate es.length (DIns (Proofs.YtmoocdlfclhgcaaDoor.Ins.mk 0 0 ByteArray.empty))) 0) (X.exit 0) (Nm [3] [D.own 41 es] [none] [] [])) ∧ r = ([D.own 41 es], [], [])) : zbO cfg kk (den cfg kk) 7 Tryd.f7 [.dat (Dat.lst b es)] [] [] = some r := by
 obtain ⟨hz1, hz2, oz⟩ := q1
 subst oz; exact zah [(300003, .loop (hdt b es (List.replicate es.length (DIns ⟨0, 0, ByteArray.empty⟩)) 0) (.exit 0) (Nm [3] [.own 41 es] [none] [] [])), (7, .ok)] (ob hz1 (ob (rfl : _ = hdt b es (List.replicate es.length (DIns (Proofs.YtmoocdlfclhgcaaDoor.Ins.mk 0 0 ByteArray.empty))) 0) (ob hz2 ob0))) (by kernel_rfl)
theorem eqIn (kk : Nat) (c c' : In) {r : Res} (q1 : ((!decide (c.op = c'.op)) = true) → r = ([D.dat (B false)], [], [])) (q2 : ((!decide (c.op = c'.op)) = false) → ((!decide (c.a = c'.a)) = true) → r = ([D.dat (B false)], [], [])) (q3 : ((!decide (c.op = c'.op)) = false) → ((!decide (c.a = c'.a)) = false) → ((!decide (c.t = c'.t)) = true) → r = ([D.dat (B false)], [], [])) (q4 : ((!decide (c.op = c'.op)) = false) → ((!decide (c.a = c'.a)) = false) → ((!decide (c.t = c'.t)) = false) → r = ([D.dat (B true)], [], [])) : zbO cfg kk (den cfg kk) 20 Tryd.f20 [.dat (DIns c), .dat (DIns c')] [] [] = some r := by
 rcases Bool.eq_false_or_eq_true ((!decide (c.op = c'.op))) with d1 | d1
 · have oz := q1 d1
   subst oz; exact zah [(200009, .yes)] (ob d1 ob0) (by kernel_rfl)
 · rcases Bool.eq_false_or_eq_true ((!decide (c.a = c'.a))) with d2 | d2
   · have oz := q2 d1 d2
     subst oz; exact zah [(200009, .no), (200014, .yes)] (ob d1 (ob d2 ob0)) (by kernel_rfl)
   · rcases Bool.eq_false_or_eq_true ((!decide (c.t = c'.t))) with d3 | d3
     · have oz := q3 d1 d2 d3
       subst oz; exact zah [(200009, .no), (200014, .no), (200019, .yes)] (ob d1 (ob d2 (ob d3 ob0))) (by kernel_rfl)
     · have oz := q4 d1 d2 d3
       subst oz; exact zah [(200009, .no), (200014, .no), (200019, .no)] (ob d1 (ob d2 (ob d3 ob0))) (by kernel_rfl)
def hde (b1 b2 : Bool) (xs ys : List Dat) (i : Int) : St := Nm [0, 1, 5] [.dat (.lst b1 xs), .dat (.lst b2 ys), .dat (I i)] [none, none, none] [] []
theorem zmB (kk m : Nat) {s : St} {K : X → St → Prop} (b1 b2 : Bool) (xs ys : List Dat) (i : Int) (c19 : In) (c23 : In) (g25 : Bool) (hs : s.norm (fN kk 9 Tryd.f9 4) = hde b1 b2 xs ys i) (q1 : (tT (i < (xs.length : Int))) → ((!g25) = true) → ((0 ≤ i ∧ i < (xs.length : Int)) ∧ xs[i.toNat]? = some (Dat.agg [I c19.op, I c19.a, Dat.val (Value.string c19.t)])) ∧ ((0 ≤ i ∧ i < (ys.length : Int)) ∧ ys[i.toNat]? = some (Dat.agg [I c23.op, I c23.a, Dat.val (Value.string c23.t)])) ∧ (fD kk 20 [D.dat (Dat.agg [I c19.op, I c19.a, Dat.val (Value.string c19.t)]), D.dat (Dat.agg [I c23.op, I c23.a, Dat.val (Value.string c23.t)])] [D.dat (B g25)]) ∧ K (X.ret) (Nm [4] [D.dat (B false)] [none] [] [])) (q2 : (tT (i < (xs.length : Int))) → ((!g25) = false) → ((0 ≤ i ∧ i < (xs.length : Int)) ∧ xs[i.toNat]? = some (Dat.agg [I c19.op, I c19.a, Dat.val (Value.string c19.t)])) ∧ ((0 ≤ i ∧ i < (ys.length : Int)) ∧ ys[i.toNat]? = some (Dat.agg [I c23.op, I c23.a, Dat.val (Value.string c23.t)])) ∧ (fD kk 20 [D.dat (Dat.agg [I c19.op, I c19.a, Dat.val (Value.string c19.t)]), D.dat (Dat.agg [I c23.op, I c23.a, Dat.val (Value.string c23.t)])] [D.dat (B g25)]) ∧ (∀ s : St, s.norm (fN kk 9 Tryd.f9 4) = Nm [0, 1, 5] [D.dat (Dat.lst b1 xs), D.dat (Dat.lst b2 ys), D.dat (I (w64 (i + 1)))] [none, none, none] [] [] → fR kk 9 Tryd.f9 4 m s K)) (q3 : (tF (i < (xs.length : Int))) → K (X.exit 0) (Nm [4] [D.junk] [none] [] [])) : fR kk 9 Tryd.f9 4 (m + 1) s K := by
 rcases Bool.eq_false_or_eq_true (decide (i < (xs.length : Int))) with d1 | d1
 · rcases Bool.eq_false_or_eq_true ((!g25)) with d5 | d5
   · obtain ⟨hz1, hz2, hz3, oz⟩ := q1 d1 d5
     exact zan [(19, .at (DIns c19)), (23, .at (DIns c23)), (25, .ret [.dat (B g25)]), (200014, .yes), (200026, .yes)] hs (by kernel_rfl) rfl (ob d1 (ob hz1 (ob hz2 (ob hz3 (ob d5 ob0))))) (by kernel_rfl) oz
   · obtain ⟨hz1, hz2, hz3, oz⟩ := q2 d1 d5
     exact zaK [(19, .at (DIns c19)), (23, .at (DIns c23)), (25, .ret [.dat (B g25)]), (200014, .yes), (200026, .no)] hs (by kernel_rfl) (ob d1 (ob hz1 (ob hz2 (ob hz3 (ob d5 ob0))))) (by kernel_rfl) oz
 · have oz := q3 d1
   exact zan [(19, .at (DIns c19)), (23, .at (DIns c23)), (25, .ret [.dat (B g25)]), (200014, .no)] hs (by kernel_rfl) rfl (ob d1 ob0) (by kernel_rfl) oz
theorem eqS_y (kk : Nat) (b1 b2 : Bool) (xs ys : List Dat) {r : Res} (q1 : ((!decide ((xs.length : Int) = (ys.length : Int))) = true) → r = ([D.dat (B false)], [], [])) (q2 : ((!decide ((xs.length : Int) = (ys.length : Int))) = false) → (za2 cfg kk 9 Tryd.f9 4 (hde b1 b2 xs ys 0) (X.exit 0) (Nm [4] [D.junk] [none] [] [])) ∧ r = ([D.dat (B true)], [], [])) : zbO cfg kk (den cfg kk) 9 Tryd.f9 [.dat (Dat.lst b1 xs), .dat (Dat.lst b2 ys)] [] [] = some r := by
 rcases Bool.eq_false_or_eq_true ((!decide ((xs.length : Int) = (ys.length : Int)))) with d1 | d1
 · have oz := q1 d1
   subst oz; exact zah [(300004, .loop (hde b1 b2 xs ys 0) (.exit 0) (Nm [4] [.junk] [none] [] [])), (200010, .yes)] (ob d1 ob0) (by kernel_rfl)
 · obtain ⟨hz1, oz⟩ := q2 d1
   subst oz; exact zah [(300004, .loop (hde b1 b2 xs ys 0) (.exit 0) (Nm [4] [.junk] [none] [] [])), (200010, .no)] (ob d1 (ob (rfl : _ = hde b1 b2 xs ys 0) (ob hz1 ob0))) (by kernel_rfl)
theorem l1In (kk : Nat) (x lo hi : Int) {r : Res} (q1 : (tT (lo ≤ x)) → r = ([D.dat (B (decide (x ≤ hi)))], [], [])) (q2 : (tF (lo ≤ x)) → r = ([D.dat (B false)], [], [])) : zbO cfg kk (den cfg kk) 26 Tryd.f26 [.dat (I x), .dat (I lo), .dat (I hi)] [] [] = some r := by
 rcases Bool.eq_false_or_eq_true (decide (lo ≤ x)) with d1 | d1
 · have oz := q1 d1
   subst oz; exact zah [(200010, .yes)] (ob d1 (ob rT (ob rT ob0))) (by kernel_rfl)
 · have oz := q2 d1
   subst oz; exact zah [(200010, .no)] (ob d1 (ob rF (ob rF ob0))) (by kernel_rfl)
def hdc (sx : ByteArray) (b i : Int) : St := Nm [0, 1, 7] [.dat (S sx), .dat (.val (.int .u8 b)), .dat (I i)] [none, none, none] [] []
theorem zmv (kk m : Nat) {s : St} {K : X → St → Prop} (sx : ByteArray) (b i : Int) (hs : s.norm (fN kk 25 Tryd.f25 2) = hdc sx b i) (q1 : (tT (i < (sx.size : Int))) → (tT (((sx[i.toNat]?.getD 0).toNat : Int) = b)) → (0 ≤ i ∧ i < (sx.size : Int)) ∧ (0 ≤ (none : Option Int).getD 0 ∧ (none : Option Int).getD 0 ≤ (some i : Option Int).getD (sx.size : Int) ∧ (some i : Option Int).getD (sx.size : Int) ≤ (sx.size : Int)) ∧ (0 ≤ (some (w64 (i + 1)) : Option Int).getD 0 ∧ (some (w64 (i + 1)) : Option Int).getD 0 ≤ (none : Option Int).getD (sx.size : Int) ∧ (none : Option Int).getD (sx.size : Int) ≤ (sx.size : Int)) ∧ K (X.ret) (Nm [0, 4, 5, 6] [D.dat (Dat.val (Value.string sx)), D.dat (Dat.val (Value.string (sx.extract 0 ((some i : Option Int).getD (sx.size : Int)).toNat))), D.dat (Dat.val (Value.string (sx.extract ((some (w64 (i + 1)) : Option Int).getD 0).toNat ((none : Option Int).getD (sx.size : Int)).toNat))), D.dat (B true)] [none, none, none, none] [] [])) (q2 : (tT (i < (sx.size : Int))) → (tF (((sx[i.toNat]?.getD 0).toNat : Int) = b)) → (0 ≤ i ∧ i < (sx.size : Int)) ∧ (∀ s : St, s.norm (fN kk 25 Tryd.f25 2) = Nm [0, 1, 7] [D.dat (Dat.val (Value.string sx)), D.dat (Dat.val (Value.int IntKind.u8 b)), D.dat (I (w64 (i + 1)))] [none, none, none] [] [] → fR kk 25 Tryd.f25 2 m s K)) (q3 : (tF (i < (sx.size : Int))) → K (X.exit 0) (Nm [0, 4, 5, 6] [D.dat (Dat.val (Value.string sx)), D.junk, D.junk, D.junk] [none, none, none, none] [] [])) : fR kk 25 Tryd.f25 2 (m + 1) s K := by
 rcases Bool.eq_false_or_eq_true (decide (i < (sx.size : Int))) with d1 | d1
 · rcases Bool.eq_false_or_eq_true (decide (((sx[i.toNat]?.getD 0).toNat : Int) = b)) with d3 | d3
   · obtain ⟨hz1, hz2, hz3, oz⟩ := q1 d1 d3
     exact zan [(16, .ok), (21, .ok), (25, .ok), (200011, .yes), (200018, .yes)] hs (by kernel_rfl) rfl (ob d1 (ob hz1 (ob d3 (ob hz2 (ob hz3 ob0))))) (by kernel_rfl) oz
   · obtain ⟨hz1, oz⟩ := q2 d1 d3
     exact zaK [(16, .ok), (21, .ok), (25, .ok), (200011, .yes), (200018, .no)] hs (by kernel_rfl) (ob d1 (ob hz1 (ob d3 ob0))) (by kernel_rfl) oz
 · have oz := q3 d1
   exact zan [(16, .ok), (21, .ok), (25, .ok), (200011, .no)] hs (by kernel_rfl) rfl (ob d1 ob0) (by kernel_rfl) oz
theorem cut_n (kk : Nat) (s : ByteArray) (b : Int) {r : Res} (q1 : (za2 cfg kk 25 Tryd.f25 2 (hdc s b 0) (X.exit 0) (Nm [0, 4, 5, 6] [D.dat (Dat.val (Value.string s)), D.junk, D.junk, D.junk] [none, none, none, none] [] [])) ∧ r = ([D.dat (Dat.val (Value.string s)), D.dat (Dat.val (Value.string (ByteArray.mk #[]))), D.dat (B false)], [], [])) : zbO cfg kk (den cfg kk) 25 Tryd.f25 [.dat (S s), .dat (Dat.val (.int .u8 b))] [] [] = some r := by
 obtain ⟨hz1, oz⟩ := q1
 subst oz; exact zah [(300002, .loop (hdc s b 0) (.exit 0) (Nm [0, 4, 5, 6] [.dat (S s), .junk, .junk, .junk] [none, none, none, none] [] []))] (ob (rfl : _ = hdc s b 0) (ob hz1 ob0)) (by kernel_rfl)
theorem cut_y (kk : Nat) (s s1 s2 : ByteArray) (b : Int) {r : Res} (q1 : (za2 cfg kk 25 Tryd.f25 2 (hdc s b 0) X.ret (Nm [0, 4, 5, 6] [D.dat (Dat.val (Value.string s)), D.dat (Dat.val (Value.string s1)), D.dat (Dat.val (Value.string s2)), D.dat (B true)] [none, none, none, none] [] [])) ∧ r = ([D.dat (Dat.val (Value.string s1)), D.dat (Dat.val (Value.string s2)), D.dat (B true)], [], [])) : zbO cfg kk (den cfg kk) 25 Tryd.f25 [.dat (S s), .dat (Dat.val (.int .u8 b))] [] [] = some r := by
 obtain ⟨hz1, oz⟩ := q1
 subst oz; exact zah [(300002, .loop (hdc s b 0) .ret (Nm [0, 4, 5, 6] [.dat (S s), .dat (S s1), .dat (S s2), .dat (B true)] [none, none, none, none] [] []))] (ob (rfl : _ = hdc s b 0) (ob hz1 ob0)) (by kernel_rfl)
def hdx (b : Bool) (es : List Dat) (t : ByteArray) (i : Int) : St := Nm [3, 6, 7, 8] [.dat (S t), .dat (.lst b es), .dat (I es.length), .dat (I i)] [none, none, none, none] [] []
theorem zlj (kk m : Nat) {s : St} {K : X → St → Prop} (b : Bool) (es : List Dat) (t : ByteArray) (i : Int) (c10 : In) (s15 : ByteArray) (s19 : ByteArray) (hs : s.norm (fN kk 27 Tryd.f27 3) = hdx b es t i) (q1 : (tT (i < (es.length : Int))) → ((0 ≤ i ∧ i < (es.length : Int)) ∧ es[i.toNat]? = some (Dat.agg [I c10.op, I c10.a, Dat.val (Value.string c10.t)])) ∧ (fD kk 35 [D.dat (I c10.op)] [D.dat (Dat.val (Value.string s15))]) ∧ (s15.size + 1 ≤ 9223372036854775807) ∧ (fD kk 35 [D.dat (I c10.a)] [D.dat (Dat.val (Value.string s19))]) ∧ ((s15 ++ ByteArray.mk #[32]).size + s19.size ≤ 9223372036854775807) ∧ ((s15 ++ ByteArray.mk #[32] ++ s19).size + 1 ≤ 9223372036854775807) ∧ ((s15 ++ ByteArray.mk #[32] ++ s19 ++ ByteArray.mk #[32]).size + c10.t.size ≤ 9223372036854775807) ∧ ((s15 ++ ByteArray.mk #[32] ++ s19 ++ ByteArray.mk #[32] ++ c10.t).size + 1 ≤ 9223372036854775807) ∧ (t.size + (s15 ++ ByteArray.mk #[32] ++ s19 ++ ByteArray.mk #[32] ++ c10.t ++ ByteArray.mk #[10]).size ≤ 9223372036854775807) ∧ (∀ s : St, s.norm (fN kk 27 Tryd.f27 3) = Nm [3, 6, 7, 8] [D.dat (Dat.val (Value.string (t ++ (s15 ++ ByteArray.mk #[32] ++ s19 ++ ByteArray.mk #[32] ++ c10.t ++ ByteArray.mk #[10])))), D.dat (Dat.lst b es), D.dat (I (es.length : Int)), D.dat (I (w64 (i + 1)))] [none, none, none, none] [] [] → fR kk 27 Tryd.f27 3 m s K)) (q2 : (tF (i < (es.length : Int))) → K (X.exit 0) (Nm [3] [D.dat (Dat.val (Value.string t))] [none] [] [])) : fR kk 27 Tryd.f27 3 (m + 1) s K := by
 rcases Bool.eq_false_or_eq_true (decide (i < (es.length : Int))) with d1 | d1
 · obtain ⟨hz1, hz2, hz3, hz4, hz5, hz6, hz7, hz8, hz9, oz⟩ := q1 d1
   exact zaK [(10, .at (DIns c10)), (15, .ret [.dat (S s15)]), (16, .ok), (19, .ret [.dat (S s19)]), (20, .ok), (21, .ok), (24, .ok), (25, .ok), (26, .ok), (200009, .yes)] hs (by kernel_rfl) (ob d1 (ob hz1 (ob hz2 (ob hz3 (ob hz4 (ob hz5 (ob hz6 (ob hz7 (ob hz8 (ob hz9 ob0)))))))))) (by kernel_rfl) oz
 · have oz := q2 d1
   exact zan [(10, .at (DIns c10)), (15, .ret [.dat (S s15)]), (16, .ok), (19, .ret [.dat (S s19)]), (20, .ok), (21, .ok), (24, .ok), (25, .ok), (26, .ok), (200009, .no)] hs (by kernel_rfl) rfl (ob d1 ob0) (by kernel_rfl) oz
theorem text (kk : Nat) (b : Bool) (es : List Dat) (t : ByteArray) {r : Res} (q1 : (za2 cfg kk 27 Tryd.f27 3 (hdx b es ByteArray.empty 0) (X.exit 0) (Nm [3] [D.dat (Dat.val (Value.string t))] [none] [] [])) ∧ r = ([D.dat (Dat.val (Value.string t))], [], [])) : zbO cfg kk (den cfg kk) 27 Tryd.f27 [.dat (Dat.lst b es)] [] [] = some r := by
 obtain ⟨hz1, oz⟩ := q1
 subst oz; exact zah [(300003, .loop (hdx b es ByteArray.empty 0) (.exit 0) (Nm [3] [.dat (S t)] [none] [] []))] (ob (rfl : _ = hdx b es ByteArray.empty 0) (ob hz1 ob0)) (by kernel_rfl)
def hdk (b : Bool) (es : List Dat) (i : Int) : St := Nm [0, 12, 13, 14] [.dat (.lst b es), .dat (.lst b es), .dat (I es.length), .dat (I i)] [none, none, none, none] [] []
theorem zld (kk m : Nat) {s : St} {K : X → St → Prop} (b : Bool) (es : List Dat) (i : Int) (c16 : In) (s21_0 : ByteArray) (s21_1 : ByteArray) (g21_2 : Bool) (g29 : Bool) (g35 : Bool) (hs : s.norm (fN kk 17 Tryd.f17 4) = hdk b es i) (q1 : (tT (i < (es.length : Int))) → (g21_2 = true) → ((0 ≤ i ∧ i < (es.length : Int)) ∧ es[i.toNat]? = some (Dat.agg [I c16.op, I c16.a, Dat.val (Value.string c16.t)])) ∧ (fD kk 25 [D.dat (Dat.val (Value.string c16.t)), D.dat (Dat.val (Value.int IntKind.u8 10))] [D.dat (Dat.val (Value.string s21_0)), D.dat (Dat.val (Value.string s21_1)), D.dat (B g21_2)]) ∧ K (X.ret) (Nm [0, 2, 3] [D.dat (Dat.lst b es), D.dat (Dat.val (Value.string (ByteArray.mk #[]))), D.dat (B false)] [none, none, none] [] [])) (q2 : (tT (i < (es.length : Int))) → (g21_2 = false) → ((!g29) = true) → ((0 ≤ i ∧ i < (es.length : Int)) ∧ es[i.toNat]? = some (Dat.agg [I c16.op, I c16.a, Dat.val (Value.string c16.t)])) ∧ (fD kk 25 [D.dat (Dat.val (Value.string c16.t)), D.dat (Dat.val (Value.int IntKind.u8 10))] [D.dat (Dat.val (Value.string s21_0)), D.dat (Dat.val (Value.string s21_1)), D.dat (B g21_2)]) ∧ (fD kk 26 [D.dat (I c16.op), D.dat (I 1), D.dat (I 13)] [D.dat (B g29)]) ∧ K (X.ret) (Nm [0, 2, 3] [D.dat (Dat.lst b es), D.dat (Dat.val (Value.string (ByteArray.mk #[]))), D.dat (B false)] [none, none, none] [] [])) (q3 : (tT (i < (es.length : Int))) → (g21_2 = false) → ((!g29) = false) → ((!g35) = true) → ((0 ≤ i ∧ i < (es.length : Int)) ∧ es[i.toNat]? = some (Dat.agg [I c16.op, I c16.a, Dat.val (Value.string c16.t)])) ∧ (fD kk 25 [D.dat (Dat.val (Value.string c16.t)), D.dat (Dat.val (Value.int IntKind.u8 10))] [D.dat (Dat.val (Value.string s21_0)), D.dat (Dat.val (Value.string s21_1)), D.dat (B g21_2)]) ∧ (fD kk 26 [D.dat (I c16.op), D.dat (I 1), D.dat (I 13)] [D.dat (B g29)]) ∧ (fD kk 26 [D.dat (I c16.a), D.dat (I 0), D.dat (I 100000)] [D.dat (B g35)]) ∧ K (X.ret) (Nm [0, 2, 3] [D.dat (Dat.lst b es), D.dat (Dat.val (Value.string (ByteArray.mk #[]))), D.dat (B false)] [none, none, none] [] [])) (q4 : (tT (i < (es.length : Int))) → (g21_2 = false) → ((!g29) = false) → ((!g35) = false) → (tT (1500 < (c16.t.size : Int))) → ((0 ≤ i ∧ i < (es.length : Int)) ∧ es[i.toNat]? = some (Dat.agg [I c16.op, I c16.a, Dat.val (Value.string c16.t)])) ∧ (fD kk 25 [D.dat (Dat.val (Value.string c16.t)), D.dat (Dat.val (Value.int IntKind.u8 10))] [D.dat (Dat.val (Value.string s21_0)), D.dat (Dat.val (Value.string s21_1)), D.dat (B g21_2)]) ∧ (fD kk 26 [D.dat (I c16.op), D.dat (I 1), D.dat (I 13)] [D.dat (B g29)]) ∧ (fD kk 26 [D.dat (I c16.a), D.dat (I 0), D.dat (I 100000)] [D.dat (B g35)]) ∧ K (X.ret) (Nm [0, 2, 3] [D.dat (Dat.lst b es), D.dat (Dat.val (Value.string (ByteArray.mk #[]))), D.dat (B false)] [none, none, none] [] [])) (q5 : (tT (i < (es.length : Int))) → (g21_2 = false) → ((!g29) = false) → ((!g35) = false) → (tF (1500 < (c16.t.size : Int))) → ((0 ≤ i ∧ i < (es.length : Int)) ∧ es[i.toNat]? = some (Dat.agg [I c16.op, I c16.a, Dat.val (Value.string c16.t)])) ∧ (fD kk 25 [D.dat (Dat.val (Value.string c16.t)), D.dat (Dat.val (Value.int IntKind.u8 10))] [D.dat (Dat.val (Value.string s21_0)), D.dat (Dat.val (Value.string s21_1)), D.dat (B g21_2)]) ∧ (fD kk 26 [D.dat (I c16.op), D.dat (I 1), D.dat (I 13)] [D.dat (B g29)]) ∧ (fD kk 26 [D.dat (I c16.a), D.dat (I 0), D.dat (I 100000)] [D.dat (B g35)]) ∧ (∀ s : St, s.norm (fN kk 17 Tryd.f17 4) = Nm [0, 12, 13, 14] [D.dat (Dat.lst b es), D.dat (Dat.lst b es), D.dat (I (es.length : Int)), D.dat (I (w64 (i + 1)))] [none, none, none, none] [] [] → fR kk 17 Tryd.f17 4 m s K)) (q6 : (tF (i < (es.length : Int))) → K (X.exit 0) (Nm [0, 2, 3] [D.dat (Dat.lst b es), D.junk, D.junk] [none, none, none] [] [])) : fR kk 17 Tryd.f17 4 (m + 1) s K := by
 rcases Bool.eq_false_or_eq_true (decide (i < (es.length : Int))) with d1 | d1
 · rcases Bool.eq_false_or_eq_true (g21_2) with d4 | d4
   · obtain ⟨hz1, hz2, oz⟩ := q1 d1 d4
     exact zan [(16, .at (DIns c16)), (21, .ret [.dat (S s21_0), .dat (S s21_1), .dat (B g21_2)]), (29, .ret [.dat (B g29)]), (35, .ret [.dat (B g35)]), (200015, .yes), (200026, .yes)] hs (by kernel_rfl) rfl (ob d1 (ob hz1 (ob hz2 (ob d4 (ob rT (ob rT (ob rT ob0))))))) (by kernel_rfl) oz
   · rcases Bool.eq_false_or_eq_true ((!g29)) with d9 | d9
     · obtain ⟨hz1, hz2, hz3, oz⟩ := q2 d1 d4 d9
       exact zan [(16, .at (DIns c16)), (21, .ret [.dat (S s21_0), .dat (S s21_1), .dat (B g21_2)]), (29, .ret [.dat (B g29)]), (35, .ret [.dat (B g35)]), (200015, .yes), (200026, .no), (200032, .yes)] hs (by kernel_rfl) rfl (ob d1 (ob hz1 (ob hz2 (ob d4 (ob rF (ob rF (ob hz3 (ob rF (ob d9 (ob rT (ob rT (ob rT ob0)))))))))))) (by kernel_rfl) oz
     · rcases Bool.eq_false_or_eq_true ((!g35)) with d14 | d14
       · obtain ⟨hz1, hz2, hz3, hz4, oz⟩ := q3 d1 d4 d9 d14
         exact zan [(16, .at (DIns c16)), (21, .ret [.dat (S s21_0), .dat (S s21_1), .dat (B g21_2)]), (29, .ret [.dat (B g29)]), (35, .ret [.dat (B g35)]), (200015, .yes), (200026, .no), (200032, .no), (200038, .yes)] hs (by kernel_rfl) rfl (ob d1 (ob hz1 (ob hz2 (ob d4 (ob rF (ob rF (ob hz3 (ob rF (ob d9 (ob rF (ob rF (ob hz4 (ob rF (ob d14 (ob rT (ob rT (ob rT ob0))))))))))))))))) (by kernel_rfl) oz
       · rcases Bool.eq_false_or_eq_true (decide (1500 < (c16.t.size : Int))) with d18 | d18
         · obtain ⟨hz1, hz2, hz3, hz4, oz⟩ := q4 d1 d4 d9 d14 d18
           exact zan [(16, .at (DIns c16)), (21, .ret [.dat (S s21_0), .dat (S s21_1), .dat (B g21_2)]), (29, .ret [.dat (B g29)]), (35, .ret [.dat (B g35)]), (200015, .yes), (200026, .no), (200032, .no), (200038, .no), (200043, .yes)] hs (by kernel_rfl) rfl (ob d1 (ob hz1 (ob hz2 (ob d4 (ob rF (ob rF (ob hz3 (ob rF (ob d9 (ob rF (ob rF (ob hz4 (ob rF (ob d14 (ob rF (ob rF (ob rF (ob d18 ob0)))))))))))))))))) (by kernel_rfl) oz
         · obtain ⟨hz1, hz2, hz3, hz4, oz⟩ := q5 d1 d4 d9 d14 d18
           exact zaK [(16, .at (DIns c16)), (21, .ret [.dat (S s21_0), .dat (S s21_1), .dat (B g21_2)]), (29, .ret [.dat (B g29)]), (35, .ret [.dat (B g35)]), (200015, .yes), (200026, .no), (200032, .no), (200038, .no), (200043, .no)] hs (by kernel_rfl) (ob d1 (ob hz1 (ob hz2 (ob d4 (ob rF (ob rF (ob hz3 (ob rF (ob d9 (ob rF (ob rF (ob hz4 (ob rF (ob d14 (ob rF (ob rF (ob rF (ob d18 ob0)))))))))))))))))) (by kernel_rfl) oz
 · have oz := q6 d1
   exact zan [(16, .at (DIns c16)), (21, .ret [.dat (S s21_0), .dat (S s21_1), .dat (B g21_2)]), (29, .ret [.dat (B g29)]), (35, .ret [.dat (B g35)]), (200015, .no)] hs (by kernel_rfl) rfl (ob d1 ob0) (by kernel_rfl) oz
theorem zml (kk : Nat) (b : Bool) (es : List Dat) (s46 : ByteArray) {r : Res} (q1 : (tT (3000 < (es.length : Int))) → r = ([D.dat (Dat.val (Value.string (ByteArray.mk #[]))), D.dat (B false)], [], [])) (q2 : (tF (3000 < (es.length : Int))) → (za2 cfg kk 17 Tryd.f17 4 (hdk b es 0) (X.exit 0) (Nm [0, 2, 3] [D.dat (Dat.lst b es), D.junk, D.junk] [none, none, none] [] [])) ∧ (fD kk 27 [D.dat (Dat.lst b es)] [D.dat (Dat.val (Value.string s46))]) ∧ r = ([D.dat (Dat.val (Value.string s46)), D.dat (B true)], [], [])) : zbO cfg kk (den cfg kk) 17 Tryd.f17 [.dat (Dat.lst b es)] [] [] = some r := by
 rcases Bool.eq_false_or_eq_true (decide (3000 < (es.length : Int))) with d1 | d1
 · have oz := q1 d1
   subst oz; exact zah [(300004, .loop (hdk b es 0) (.exit 0) (Nm [0, 2, 3] [.dat (.lst b es), .junk, .junk] [none, none, none] [] [])), (46, .ret [.dat (S s46)]), (200011, .yes)] (ob d1 ob0) (by kernel_rfl)
 · obtain ⟨hz1, hz2, oz⟩ := q2 d1
   subst oz; exact zah [(300004, .loop (hdk b es 0) (.exit 0) (Nm [0, 2, 3] [.dat (.lst b es), .junk, .junk] [none, none, none] [] [])), (46, .ret [.dat (S s46)]), (200011, .no)] (ob d1 (ob (rfl : _ = hdk b es 0) (ob hz1 (ob hz2 ob0)))) (by kernel_rfl)
theorem zlb (kk : Nat) (b : Bool) (es : List Dat) {r : Res} (q1 : (tT (3000 < (es.length : Int))) → r = ([D.dat (Dat.val (Value.string (ByteArray.mk #[]))), D.dat (B false)], [], [])) (q2 : (tF (3000 < (es.length : Int))) → (za2 cfg kk 17 Tryd.f17 4 (hdk b es 0) X.ret (Nm [0, 2, 3] [D.dat (Dat.lst b es), D.dat (Dat.val (Value.string ByteArray.empty)), D.dat (B false)] [none, none, none] [] [])) ∧ r = ([D.dat (Dat.val (Value.string ByteArray.empty)), D.dat (B false)], [], [])) : zbO cfg kk (den cfg kk) 17 Tryd.f17 [.dat (Dat.lst b es)] [] [] = some r := by
 rcases Bool.eq_false_or_eq_true (decide (3000 < (es.length : Int))) with d1 | d1
 · have oz := q1 d1
   subst oz; exact zah [(300004, .loop (hdk b es 0) .ret (Nm [0, 2, 3] [.dat (.lst b es), .dat (S ByteArray.empty), .dat (B false)] [none, none, none] [] [])), (200011, .yes)] (ob d1 ob0) (by kernel_rfl)
 · obtain ⟨hz1, oz⟩ := q2 d1
   subst oz; exact zah [(300004, .loop (hdk b es 0) .ret (Nm [0, 2, 3] [.dat (.lst b es), .dat (S ByteArray.empty), .dat (B false)] [none, none, none] [] [])), (200011, .no)] (ob d1 (ob (rfl : _ = hdk b es 0) (ob hz1 ob0))) (by kernel_rfl)
def hdn (b : Bool) (es : List Dat) (c1 c2 i : Int) : St := Nm [7, 8, 18, 19, 20] [.dat (I c1), .dat (I c2), .dat (.lst b es), .dat (I es.length), .dat (I i)] [none, none, none, none, none] [] []
theorem zis (kk m : Nat) {s : St} {K : X → St → Prop} (b : Bool) (es : List Dat) (c1 c2 i : Int) (c22 : In) (hs : s.norm (fN kk 6 Tryd.f6 7) = hdn b es c1 c2 i) (q1 : (tT (i < (es.length : Int))) → (tT (c22.op = 9)) → (tT (c22.op = 10)) → ((0 ≤ i ∧ i < (es.length : Int)) ∧ es[i.toNat]? = some (Dat.agg [I c22.op, I c22.a, Dat.val (Value.string c22.t)])) ∧ (∀ s : St, s.norm (fN kk 6 Tryd.f6 7) = Nm [7, 8, 18, 19, 20] [D.dat (I (w64 (c1 + 1))), D.dat (I (w64 (c2 + 1))), D.dat (Dat.lst b es), D.dat (I (es.length : Int)), D.dat (I (w64 (i + 1)))] [none, none, none, none, none] [] [] → fR kk 6 Tryd.f6 7 m s K)) (q2 : (tT (i < (es.length : Int))) → (tT (c22.op = 9)) → (tF (c22.op = 10)) → ((0 ≤ i ∧ i < (es.length : Int)) ∧ es[i.toNat]? = some (Dat.agg [I c22.op, I c22.a, Dat.val (Value.string c22.t)])) ∧ (∀ s : St, s.norm (fN kk 6 Tryd.f6 7) = Nm [7, 8, 18, 19, 20] [D.dat (I (w64 (c1 + 1))), D.dat (I c2), D.dat (Dat.lst b es), D.dat (I (es.length : Int)), D.dat (I (w64 (i + 1)))] [none, none, none, none, none] [] [] → fR kk 6 Tryd.f6 7 m s K)) (q3 : (tT (i < (es.length : Int))) → (tF (c22.op = 9)) → (tT (c22.op = 10)) → ((0 ≤ i ∧ i < (es.length : Int)) ∧ es[i.toNat]? = some (Dat.agg [I c22.op, I c22.a, Dat.val (Value.string c22.t)])) ∧ (∀ s : St, s.norm (fN kk 6 Tryd.f6 7) = Nm [7, 8, 18, 19, 20] [D.dat (I c1), D.dat (I (w64 (c2 + 1))), D.dat (Dat.lst b es), D.dat (I (es.length : Int)), D.dat (I (w64 (i + 1)))] [none, none, none, none, none] [] [] → fR kk 6 Tryd.f6 7 m s K)) (q4 : (tT (i < (es.length : Int))) → (tF (c22.op = 9)) → (tF (c22.op = 10)) → ((0 ≤ i ∧ i < (es.length : Int)) ∧ es[i.toNat]? = some (Dat.agg [I c22.op, I c22.a, Dat.val (Value.string c22.t)])) ∧ (∀ s : St, s.norm (fN kk 6 Tryd.f6 7) = Nm [7, 8, 18, 19, 20] [D.dat (I c1), D.dat (I c2), D.dat (Dat.lst b es), D.dat (I (es.length : Int)), D.dat (I (w64 (i + 1)))] [none, none, none, none, none] [] [] → fR kk 6 Tryd.f6 7 m s K)) (q5 : (tF (i < (es.length : Int))) → K (X.exit 0) (Nm [7, 8] [D.dat (I c1), D.dat (I c2)] [none, none] [] [])) : fR kk 6 Tryd.f6 7 (m + 1) s K := by
 rcases Bool.eq_false_or_eq_true (decide (i < (es.length : Int))) with d1 | d1
 · rcases Bool.eq_false_or_eq_true (decide (c22.op = 9)) with d3 | d3
   · rcases Bool.eq_false_or_eq_true (decide (c22.op = 10)) with d4 | d4
     · obtain ⟨hz1, oz⟩ := q1 d1 d3 d4
       exact zaK [(22, .at (DIns c22)), (200021, .yes), (200026, .yes), (200031, .yes)] hs (by kernel_rfl) (ob d1 (ob hz1 (ob d3 (ob d4 ob0)))) (by kernel_rfl) oz
     · obtain ⟨hz1, oz⟩ := q2 d1 d3 d4
       exact zaK [(22, .at (DIns c22)), (200021, .yes), (200026, .yes), (200031, .no)] hs (by kernel_rfl) (ob d1 (ob hz1 (ob d3 (ob d4 ob0)))) (by kernel_rfl) oz
   · rcases Bool.eq_false_or_eq_true (decide (c22.op = 10)) with d4 | d4
     · obtain ⟨hz1, oz⟩ := q3 d1 d3 d4
       exact zaK [(22, .at (DIns c22)), (200021, .yes), (200026, .no), (200031, .yes)] hs (by kernel_rfl) (ob d1 (ob hz1 (ob d3 (ob d4 ob0)))) (by kernel_rfl) oz
     · obtain ⟨hz1, oz⟩ := q4 d1 d3 d4
       exact zaK [(22, .at (DIns c22)), (200021, .yes), (200026, .no), (200031, .no)] hs (by kernel_rfl) (ob d1 (ob hz1 (ob d3 (ob d4 ob0)))) (by kernel_rfl) oz
 · have oz := q5 d1
   exact zan [(22, .at (DIns c22)), (200021, .no)] hs (by kernel_rfl) rfl (ob d1 ob0) (by kernel_rfl) oz
theorem zmg (kk : Nat) (b : Bool) (es : List Dat) (c1 c2 : Int) (s13_0 : ByteArray) (g13_1 : Bool) {r : Res} (q1 : ((!g13_1) = true) → (fD kk 17 [D.dat (Dat.lst b es)] [D.dat (Dat.val (Value.string s13_0)), D.dat (B g13_1)]) ∧ r = ([D.dat (I 0), D.dat (I 0), D.dat (B false)], [], [])) (q2 : ((!g13_1) = false) → (fD kk 17 [D.dat (Dat.lst b es)] [D.dat (Dat.val (Value.string s13_0)), D.dat (B g13_1)]) ∧ (za2 cfg kk 6 Tryd.f6 7 (hdn b es 0 0 0) (X.exit 0) (Nm [7, 8] [D.dat (I c1), D.dat (I c2)] [none, none] [] [])) ∧ r = ([D.dat (I c1), D.dat (I c2), D.dat (B true)], [], [])) : zbO cfg kk (den cfg kk) 6 Tryd.f6 [.dat (Dat.lst b es)] [] [] = some r := by
 rcases Bool.eq_false_or_eq_true ((!g13_1)) with d2 | d2
 · obtain ⟨hz1, oz⟩ := q1 d2
   subst oz; exact zah [(300007, .loop (hdn b es 0 0 0) (.exit 0) (Nm [7, 8] [.dat (I c1), .dat (I c2)] [none, none] [] [])), (13, .ret [.dat (S s13_0), .dat (B g13_1)]), (200017, .yes)] (ob hz1 (ob d2 ob0)) (by kernel_rfl)
 · obtain ⟨hz1, hz2, oz⟩ := q2 d2
   subst oz; exact zah [(300007, .loop (hdn b es 0 0 0) (.exit 0) (Nm [7, 8] [.dat (I c1), .dat (I c2)] [none, none] [] [])), (13, .ret [.dat (S s13_0), .dat (B g13_1)]), (200017, .no)] (ob hz1 (ob d2 (ob (rfl : _ = hdn b es 0 0 0) (ob hz2 ob0)))) (by kernel_rfl)
theorem zid (kk m : Nat) {s : St} {K : X → St → Prop} (b : Bool) (es : List Dat) (c1 c2 i : Int) (c22 : In) (hs : s.norm (fN kk 8 Tryd.f8 6) = hdn b es c1 c2 i) (q1 : (tT (i < (es.length : Int))) → (tT (c22.op = 9)) → ((0 ≤ i ∧ i < (es.length : Int)) ∧ es[i.toNat]? = some (Dat.agg [I c22.op, I c22.a, Dat.val (Value.string c22.t)])) ∧ (∀ s : St, s.norm (fN kk 8 Tryd.f8 6) = Nm [7, 8, 18, 19, 20] [D.dat (I (w64 (c1 + 1))), D.dat (I c2), D.dat (Dat.lst b es), D.dat (I (es.length : Int)), D.dat (I (w64 (i + 1)))] [none, none, none, none, none] [] [] → fR kk 8 Tryd.f8 6 m s K)) (q2 : (tT (i < (es.length : Int))) → (tF (c22.op = 9)) → (tT (c22.op = 10)) → ((0 ≤ i ∧ i < (es.length : Int)) ∧ es[i.toNat]? = some (Dat.agg [I c22.op, I c22.a, Dat.val (Value.string c22.t)])) ∧ (∀ s : St, s.norm (fN kk 8 Tryd.f8 6) = Nm [7, 8, 18, 19, 20] [D.dat (I c1), D.dat (I (w64 (c2 + 1))), D.dat (Dat.lst b es), D.dat (I (es.length : Int)), D.dat (I (w64 (i + 1)))] [none, none, none, none, none] [] [] → fR kk 8 Tryd.f8 6 m s K)) (q3 : (tT (i < (es.length : Int))) → (tF (c22.op = 9)) → (tF (c22.op = 10)) → ((0 ≤ i ∧ i < (es.length : Int)) ∧ es[i.toNat]? = some (Dat.agg [I c22.op, I c22.a, Dat.val (Value.string c22.t)])) ∧ (∀ s : St, s.norm (fN kk 8 Tryd.f8 6) = Nm [7, 8, 18, 19, 20] [D.dat (I c1), D.dat (I c2), D.dat (Dat.lst b es), D.dat (I (es.length : Int)), D.dat (I (w64 (i + 1)))] [none, none, none, none, none] [] [] → fR kk 8 Tryd.f8 6 m s K)) (q4 : (tF (i < (es.length : Int))) → K (X.exit 0) (Nm [7, 8] [D.dat (I c1), D.dat (I c2)] [none, none] [] [])) : fR kk 8 Tryd.f8 6 (m + 1) s K := by
 rcases Bool.eq_false_or_eq_true (decide (i < (es.length : Int))) with d1 | d1
 · rcases Bool.eq_false_or_eq_true (decide (c22.op = 9)) with d3 | d3
   · obtain ⟨hz1, oz⟩ := q1 d1 d3
     exact zaK [(22, .at (DIns c22)), (200021, .yes), (200026, .yes)] hs (by kernel_rfl) (ob d1 (ob hz1 (ob d3 ob0))) (by kernel_rfl) oz
   · rcases Bool.eq_false_or_eq_true (decide (c22.op = 10)) with d4 | d4
     · obtain ⟨hz1, oz⟩ := q2 d1 d3 d4
       exact zaK [(22, .at (DIns c22)), (200021, .yes), (200026, .no), (200030, .yes)] hs (by kernel_rfl) (ob d1 (ob hz1 (ob d3 (ob d4 ob0)))) (by kernel_rfl) oz
     · obtain ⟨hz1, oz⟩ := q3 d1 d3 d4
       exact zaK [(22, .at (DIns c22)), (200021, .yes), (200026, .no), (200030, .no)] hs (by kernel_rfl) (ob d1 (ob hz1 (ob d3 (ob d4 ob0)))) (by kernel_rfl) oz
 · have oz := q4 d1
   exact zan [(22, .at (DIns c22)), (200021, .no)] hs (by kernel_rfl) rfl (ob d1 ob0) (by kernel_rfl) oz
theorem zma (kk : Nat) (b : Bool) (es : List Dat) (c1 c2 : Int) (s13_0 : ByteArray) (g13_1 : Bool) {r : Res} (q1 : ((!g13_1) = true) → (fD kk 19 [D.dat (Dat.lst b es)] [D.dat (Dat.val (Value.string s13_0)), D.dat (B g13_1)]) ∧ r = ([D.dat (I 0), D.dat (I 0), D.dat (B false)], [], [])) (q2 : ((!g13_1) = false) → (fD kk 19 [D.dat (Dat.lst b es)] [D.dat (Dat.val (Value.string s13_0)), D.dat (B g13_1)]) ∧ (za2 cfg kk 8 Tryd.f8 6 (hdn b es 0 0 0) (X.exit 0) (Nm [7, 8] [D.dat (I c1), D.dat (I c2)] [none, none] [] [])) ∧ r = ([D.dat (I c1), D.dat (I c2), D.dat (B true)], [], [])) : zbO cfg kk (den cfg kk) 8 Tryd.f8 [.dat (Dat.lst b es)] [] [] = some r := by
 rcases Bool.eq_false_or_eq_true ((!g13_1)) with d2 | d2
 · obtain ⟨hz1, oz⟩ := q1 d2
   subst oz; exact zah [(300006, .loop (hdn b es 0 0 0) (.exit 0) (Nm [7, 8] [.dat (I c1), .dat (I c2)] [none, none] [] [])), (13, .ret [.dat (S s13_0), .dat (B g13_1)]), (200017, .yes)] (ob hz1 (ob d2 ob0)) (by kernel_rfl)
 · obtain ⟨hz1, hz2, oz⟩ := q2 d2
   subst oz; exact zah [(300006, .loop (hdn b es 0 0 0) (.exit 0) (Nm [7, 8] [.dat (I c1), .dat (I c2)] [none, none] [] [])), (13, .ret [.dat (S s13_0), .dat (B g13_1)]), (200017, .no)] (ob hz1 (ob d2 (ob (rfl : _ = hdn b es 0 0 0) (ob hz2 ob0)))) (by kernel_rfl)
theorem law (kk : Nat) (b : Bool) (es : List Dat) (x13 : Int) (e18 : List Dat) (x19_0 : Int) (x19_1 : Int) (g19_2 : Bool) (e24 : List Dat) (x27_0 : Int) (x27_1 : Int) (g27_2 : Bool) (e46 : List Dat) (g47 : Bool) {r : Res} (q1 : (tT (x13 < 0)) → (fD kk 5 [D.dat (Dat.lst b es), D.dat (I 1048576)] [D.dat (I x13)]) ∧ r = ([D.dat (B true)], [], [])) (q2 : (tF (x13 < 0)) → ((!decide (x27_0 = x19_0)) = true) → (fD kk 5 [D.dat (Dat.lst b es), D.dat (I 1048576)] [D.dat (I x13)]) ∧ (fD kk 7 [D.dat (Dat.lst b es)] [D.own 41 e18]) ∧ (fD kk 6 [D.dat (Dat.lst true e18)] [D.dat (I x19_0), D.dat (I x19_1), D.dat (B g19_2)]) ∧ (fD kk 7 [D.dat (Dat.lst b es)] [D.own 41 e24]) ∧ (fD kk 8 [D.dat (Dat.lst true e24)] [D.dat (I x27_0), D.dat (I x27_1), D.dat (B g27_2)]) ∧ r = ([D.dat (B false)], [], [])) (q3 : (tF (x13 < 0)) → ((!decide (x27_0 = x19_0)) = false) → ((!decide (x27_1 = x19_1)) = true) → (fD kk 5 [D.dat (Dat.lst b es), D.dat (I 1048576)] [D.dat (I x13)]) ∧ (fD kk 7 [D.dat (Dat.lst b es)] [D.own 41 e18]) ∧ (fD kk 6 [D.dat (Dat.lst true e18)] [D.dat (I x19_0), D.dat (I x19_1), D.dat (B g19_2)]) ∧ (fD kk 7 [D.dat (Dat.lst b es)] [D.own 41 e24]) ∧ (fD kk 8 [D.dat (Dat.lst true e24)] [D.dat (I x27_0), D.dat (I x27_1), D.dat (B g27_2)]) ∧ r = ([D.dat (B false)], [], [])) (q4 : (tF (x13 < 0)) → ((!decide (x27_0 = x19_0)) = false) → ((!decide (x27_1 = x19_1)) = false) → ((!g27_2 == g19_2) = true) → (fD kk 5 [D.dat (Dat.lst b es), D.dat (I 1048576)] [D.dat (I x13)]) ∧ (fD kk 7 [D.dat (Dat.lst b es)] [D.own 41 e18]) ∧ (fD kk 6 [D.dat (Dat.lst true e18)] [D.dat (I x19_0), D.dat (I x19_1), D.dat (B g19_2)]) ∧ (fD kk 7 [D.dat (Dat.lst b es)] [D.own 41 e24]) ∧ (fD kk 8 [D.dat (Dat.lst true e24)] [D.dat (I x27_0), D.dat (I x27_1), D.dat (B g27_2)]) ∧ r = ([D.dat (B false)], [], [])) (q5 : (tF (x13 < 0)) → ((!decide (x27_0 = x19_0)) = false) → ((!decide (x27_1 = x19_1)) = false) → ((!g27_2 == g19_2) = false) → ((!g47) = true) → (fD kk 5 [D.dat (Dat.lst b es), D.dat (I 1048576)] [D.dat (I x13)]) ∧ (fD kk 7 [D.dat (Dat.lst b es)] [D.own 41 e18]) ∧ (fD kk 6 [D.dat (Dat.lst true e18)] [D.dat (I x19_0), D.dat (I x19_1), D.dat (B g19_2)]) ∧ (fD kk 7 [D.dat (Dat.lst b es)] [D.own 41 e24]) ∧ (fD kk 8 [D.dat (Dat.lst true e24)] [D.dat (I x27_0), D.dat (I x27_1), D.dat (B g27_2)]) ∧ (fD kk 7 [D.dat (Dat.lst b es)] [D.own 41 e46]) ∧ (fD kk 9 [D.dat (Dat.lst true e24), D.dat (Dat.lst true e46)] [D.dat (B g47)]) ∧ r = ([D.dat (B false)], [], [])) (q6 : (tF (x13 < 0)) → ((!decide (x27_0 = x19_0)) = false) → ((!decide (x27_1 = x19_1)) = false) → ((!g27_2 == g19_2) = false) → ((!g47) = false) → (fD kk 5 [D.dat (Dat.lst b es), D.dat (I 1048576)] [D.dat (I x13)]) ∧ (fD kk 7 [D.dat (Dat.lst b es)] [D.own 41 e18]) ∧ (fD kk 6 [D.dat (Dat.lst true e18)] [D.dat (I x19_0), D.dat (I x19_1), D.dat (B g19_2)]) ∧ (fD kk 7 [D.dat (Dat.lst b es)] [D.own 41 e24]) ∧ (fD kk 8 [D.dat (Dat.lst true e24)] [D.dat (I x27_0), D.dat (I x27_1), D.dat (B g27_2)]) ∧ (fD kk 7 [D.dat (Dat.lst b es)] [D.own 41 e46]) ∧ (fD kk 9 [D.dat (Dat.lst true e24), D.dat (Dat.lst true e46)] [D.dat (B g47)]) ∧ r = ([D.dat (B true)], [], [])) : zbO cfg kk (den cfg kk) 3 Tryd.f3 [.dat (Dat.lst b es)] [] [] = some r := by
 rcases Bool.eq_false_or_eq_true (decide (x13 < 0)) with d2 | d2
 · obtain ⟨hz1, oz⟩ := q1 d2
   subst oz; exact zah [(13, .ret [.dat (I x13)]), (18, .ret [.own 41 e18]), (19, .ret [.dat (I x19_0), .dat (I x19_1), .dat (B g19_2)]), (24, .ret [.own 41 e24]), (27, .ret [.dat (I x27_0), .dat (I x27_1), .dat (B g27_2)]), (46, .ret [.own 41 e46]), (47, .ret [.dat (B g47)]), (200015, .yes)] (ob hz1 (ob d2 ob0)) (by kernel_rfl)
 · rcases Bool.eq_false_or_eq_true ((!decide (x27_0 = x19_0))) with d9 | d9
   · obtain ⟨hz1, hz2, hz3, hz4, hz5, oz⟩ := q2 d2 d9
     subst oz; exact zah [(13, .ret [.dat (I x13)]), (18, .ret [.own 41 e18]), (19, .ret [.dat (I x19_0), .dat (I x19_1), .dat (B g19_2)]), (24, .ret [.own 41 e24]), (27, .ret [.dat (I x27_0), .dat (I x27_1), .dat (B g27_2)]), (46, .ret [.own 41 e46]), (47, .ret [.dat (B g47)]), (200015, .no), (200034, .yes)] (ob hz1 (ob d2 (ob hz2 (ob rT (ob hz3 (ob hz4 (ob rT (ob hz5 (ob d9 (ob rT (ob rT ob0))))))))))) (by kernel_rfl)
   · rcases Bool.eq_false_or_eq_true ((!decide (x27_1 = x19_1))) with d12 | d12
     · obtain ⟨hz1, hz2, hz3, hz4, hz5, oz⟩ := q3 d2 d9 d12
       subst oz; exact zah [(13, .ret [.dat (I x13)]), (18, .ret [.own 41 e18]), (19, .ret [.dat (I x19_0), .dat (I x19_1), .dat (B g19_2)]), (24, .ret [.own 41 e24]), (27, .ret [.dat (I x27_0), .dat (I x27_1), .dat (B g27_2)]), (46, .ret [.own 41 e46]), (47, .ret [.dat (B g47)]), (200015, .no), (200034, .no), (200039, .yes)] (ob hz1 (ob d2 (ob hz2 (ob rT (ob hz3 (ob hz4 (ob rT (ob hz5 (ob d9 (ob rF (ob rF (ob d12 (ob rT (ob rT ob0)))))))))))))) (by kernel_rfl)
     · rcases Bool.eq_false_or_eq_true ((!g27_2 == g19_2)) with d15 | d15
       · obtain ⟨hz1, hz2, hz3, hz4, hz5, oz⟩ := q4 d2 d9 d12 d15
         subst oz; exact zah [(13, .ret [.dat (I x13)]), (18, .ret [.own 41 e18]), (19, .ret [.dat (I x19_0), .dat (I x19_1), .dat (B g19_2)]), (24, .ret [.own 41 e24]), (27, .ret [.dat (I x27_0), .dat (I x27_1), .dat (B g27_2)]), (46, .ret [.own 41 e46]), (47, .ret [.dat (B g47)]), (200015, .no), (200034, .no), (200039, .no), (200043, .yes)] (ob hz1 (ob d2 (ob hz2 (ob rT (ob hz3 (ob hz4 (ob rT (ob hz5 (ob d9 (ob rF (ob rF (ob d12 (ob rF (ob rF (ob d15 ob0))))))))))))))) (by kernel_rfl)
       · rcases Bool.eq_false_or_eq_true ((!g47)) with d19 | d19
         · obtain ⟨hz1, hz2, hz3, hz4, hz5, hz6, hz7, oz⟩ := q5 d2 d9 d12 d15 d19
           subst oz; exact zah [(13, .ret [.dat (I x13)]), (18, .ret [.own 41 e18]), (19, .ret [.dat (I x19_0), .dat (I x19_1), .dat (B g19_2)]), (24, .ret [.own 41 e24]), (27, .ret [.dat (I x27_0), .dat (I x27_1), .dat (B g27_2)]), (46, .ret [.own 41 e46]), (47, .ret [.dat (B g47)]), (200015, .no), (200034, .no), (200039, .no), (200043, .no), (200048, .yes)] (ob hz1 (ob d2 (ob hz2 (ob rT (ob hz3 (ob hz4 (ob rT (ob hz5 (ob d9 (ob rF (ob rF (ob d12 (ob rF (ob rF (ob d15 (ob hz6 (ob rT (ob hz7 (ob d19 ob0))))))))))))))))))) (by kernel_rfl)
         · obtain ⟨hz1, hz2, hz3, hz4, hz5, hz6, hz7, oz⟩ := q6 d2 d9 d12 d15 d19
           subst oz; exact zah [(13, .ret [.dat (I x13)]), (18, .ret [.own 41 e18]), (19, .ret [.dat (I x19_0), .dat (I x19_1), .dat (B g19_2)]), (24, .ret [.own 41 e24]), (27, .ret [.dat (I x27_0), .dat (I x27_1), .dat (B g27_2)]), (46, .ret [.own 41 e46]), (47, .ret [.dat (B g47)]), (200015, .no), (200034, .no), (200039, .no), (200043, .no), (200048, .no)] (ob hz1 (ob d2 (ob hz2 (ob rT (ob hz3 (ob hz4 (ob rT (ob hz5 (ob d9 (ob rF (ob rF (ob d12 (ob rF (ob rF (ob d15 (ob hz6 (ob rT (ob hz7 (ob d19 ob0))))))))))))))))))) (by kernel_rfl)
end Go.Den
namespace Go.Den
open Go.Proofs
open Go
set_option linter.unusedVariables false
set_option maxRecDepth 100000
open Go.Proofs.YtmoocdlfclhgcaaDoor (num numV okI okT zeg zfh zdb zdo)
theorem ih {α : Type} {es : List α} {i : Nat} {d : α} (h : es[i]? = some d) : (0 ≤ (i : Int) ∧ (i : Int) < (es.length : Int)) ∧ es[((i : Int)).toNat]? = some d := by
 have hlt := (List.getElem?_eq_some_iff.1 h).1
 refine ⟨⟨by omega, by omega⟩, ?_⟩
 rw [Int.toNat_natCast]
 exact h
theorem gm {α : Type} {L : List α} {f : α → Dat} {i : Nat} {x : α} (h : L[i]? = some x) : (L.map f)[i]? = some (f x) := by rw [List.getElem?_map, h]; rfl
theorem wi (i : Nat) (h : i ≤ 1048576) : w64 ((i : Int) + 1) = ((i + 1 : Nat) : Int) := by rw [zkb (by omega)]; rfl
theorem zeO {α : Type} {L : List α} {i : Nat} (h : i < L.length) : ∃ x, L[i]? = some x := ⟨_, List.getElem?_eq_getElem h⟩
theorem zlf {f : Nat} {g : List D → List (List D) → List (Option Row) → Option Res} {args : List D} {u : List (List D)} {l : List (Option Row)} {r : Res} (hx : cfg.ext f = some g) (h : g args u l = some r) : EvN 1 f args u l r := fun k hk => by
 obtain ⟨m, rfl⟩ : ∃ m, k = m + 1 := ⟨k - 1, by omega⟩
 simp only [den, hx, Option.bind_some, h]
def In64 (n : Int) : Prop := -9223372036854775808 ≤ n ∧ n ≤ 9223372036854775807
theorem zlI {n : Int} (h : In64 n) : zfG numV [.dat (I n)] [] [] = some ([.dat (S (num n))], [], []) := by
 have : numV [.int .i64 n] = some [.string (num n)] := by show (if -9223372036854775808 ≤ n ∧ n ≤ 9223372036854775807 then some [Value.string (num n)] else none) = _; exact if_pos h
 show (zhe [.dat (I n)]).bind (fun vs => (numV vs).map fun rs => (rs.map DV, [], [])) = _
 show (numV [.int .i64 n]).map (fun rs => (rs.map DV, ([] : List (List D)), ([] : List (Option Row)))) = _
 rw [this]
 rfl
theorem zk7 {n : Int} (h : In64 n) : EvN 1 35 [.dat (I n)] [] [] ([.dat (S (num n))], [], []) := zlf (by kernel_rfl) (zlI h)
theorem zkK (b : Bool) (L : List In) : EvN 1 19 [.dat (.lst b (L.map DIns))] [] [] ([.dat (S (zeg L)), .dat (B (okT L))], [], []) :=
 zlf (g := zk2) (by kernel_rfl) (by
  show ((zfd (L.map DIns)).bind fun l => some ([.string (zeg l), .bool (okT l)].map DV, [], [])) = _
  rw [zfz]
  rfl)
theorem zlt (c : In) (left : Int) (h0 : 0 ≤ left) (h1 : left ≤ 1048576) (h2 : c.t.size ≤ 9223372036854775807) : EvN 1 16 [.dat (DIns c), .dat (I left)] [] [] ([.dat (I (if left - c.t.size < 0 then -1 else left - c.t.size))], [], []) := by
 refine zcl Tryd.f16 0 (by kernel_rfl) (by kernel_rfl) fun kk _ => ?_
 have hw : w64 (left - c.t.size) = left - c.t.size := zkb (by omega)
 refine szIn kk c left (fun d => ?_) (fun d => ?_)
 · rw [hw] at d
   rw [if_pos (of_decide_eq_true d)]
 · rw [hw] at d ⊢
   rw [if_neg (of_decide_eq_false d)]
def la (L : List In) (left : Int) : Nat → Int
 | 0 => left
 | i + 1 => la L left i - ((L.getD i ⟨0, 0, ByteArray.empty⟩).t.size : Int)
theorem zmF (L : List In) (left : Int) : ∀ i, la L left i ≤ left
 | 0 => Int.le_refl _
 | i + 1 => by have := zmF L left i; show la L left i - _ ≤ _; omega
theorem zca {α : Type} {L : List α} {i : Nat} {x z : α} (h : L[i]? = some x) : L.getD i z = x := by rw [List.getD_eq_getElem?_getD, h]; rfl
theorem zl8 (b : Bool) (L : List In) (left : Int) (h1 : 0 ≤ left) (h3 : left ≤ 1048576) (hl : L.length ≤ 9223372036854775807) (h2 : ∀ x ∈ L, x.t.size ≤ 9223372036854775807) :
 ∃ z : Int, EvN 1048580 5 [.dat (.lst b (L.map DIns)), .dat (I left)] [] [] ([.dat (I z)], [], []) ∧ (0 ≤ z → L.length ≤ 1048576 ∧ ∀ x ∈ L, x.t.size ≤ 1048576) := by
 have hlen : (L.map DIns).length = L.length := by simp
 have hw : w64 (left - ((L.map DIns).length : Int)) = left - L.length := by rw [hlen]; exact zkb (by omega)
 by_cases hneg : left - L.length < 0
 · refine ⟨-1, zcl Tryd.f5 1048579 (by kernel_rfl) (by kernel_rfl) fun kk hkk => ?_, fun h => by omega⟩
   refine zmj kk b _ left left (fun d => rfl) (fun d => ?_)
   rw [hw] at d
   exact absurd hneg (of_decide_eq_false d)
 · have hleft : ∀ i, la L (left - L.length) i ≤ 1048576 := fun i => by have := zmF L (left - L.length) i; omega
   have key : ∀ kk, 1048579 ≤ kk → ((List.range L.length).all (fun i => decide (0 ≤ la L (left - L.length) (i + 1))) = true → za2 cfg kk 5 Tryd.f5 5 (hdz b (L.map DIns) (left - L.length) 0) (.exit 0) (Nm [1, 4] [.dat (I (la L (left - L.length) L.length)), .junk] [none, none] [] [])) ∧
    ((List.range L.length).all (fun i => decide (0 ≤ la L (left - L.length) (i + 1))) = false → za2 cfg kk 5 Tryd.f5 5 (hdz b (L.map DIns) (left - L.length) 0) .ret (Nm [1, 4] [.dat (I (-1)), .dat (I (-1))] [none, none] [] [])) := fun kk hkk => by
    refine zft (fun i => hdz b (L.map DIns) (la L (left - L.length) i) i) (fun i => decide (0 ≤ la L (left - L.length) (i + 1))) L.length (by omega) (fun i hi hp m s K hs hn hK => ?_) (fun hp m s K hs hK => ?_) rfl
    · obtain ⟨x, hx⟩ := zeO hi
      have hxs := h2 x (List.mem_of_getElem? hx)
      have hla : 0 ≤ la L (left - L.length) i := by
       cases i with
       | zero => show (0 : Int) ≤ left - L.length; omega
       | succ i => exact of_decide_eq_true (hp i (by omega))
      have hnx : la L (left - L.length) (i + 1) = la L (left - L.length) i - x.t.size := by show la L _ i - _ = _; rw [zca hx]
      have hc := zlt x (la L (left - L.length) i) hla (hleft i) hxs kk (by omega)
      rw [← hnx] at hc
      refine zmp kk m b _ _ i x _ hs (fun _ d => ⟨ih (gm hx), hc, ?_⟩) (fun _ d => ⟨ih (gm hx), hc, fun s' hs' => ?_⟩) (fun d => absurd (of_decide_eq_false d) (by omega))
      · split
        · exact hK (decide_eq_false (by omega))
        · rename_i hq; rw [if_neg hq] at d; exact absurd (of_decide_eq_true d) (by omega)
      · by_cases hq : la L (left - L.length) (i + 1) < 0
        · rw [if_pos hq] at d; exact absurd (of_decide_eq_false d) (by omega)
        · rw [if_neg hq] at hs'
          refine hn (decide_eq_true (by omega)) s' ?_
          rw [hs', wi i (by omega)]
          rfl
    · exact zmp kk m b _ _ _ ⟨0, 0, ByteArray.empty⟩ 0 hs (fun d => absurd (of_decide_eq_true d) (by omega)) (fun d => absurd (of_decide_eq_true d) (by omega)) (fun _ => hK)
   cases hall : (List.range L.length).all (fun i => decide (0 ≤ la L (left - L.length) (i + 1))) with
   | true =>
     refine ⟨la L (left - L.length) L.length, zcl Tryd.f5 1048579 (by kernel_rfl) (by kernel_rfl) fun kk hkk => ?_, fun h => ⟨by omega, fun x hx => ?_⟩⟩
     · refine szS_y kk b _ left _ (fun d => ?_) (fun d => ⟨?_, rfl⟩)
       · rw [hw] at d; exact absurd (of_decide_eq_true d) hneg
       · rw [hw]; exact (key kk hkk).1 hall
     · obtain ⟨i, hi, rfl⟩ := List.mem_iff_getElem.1 hx
       have h4 : 0 ≤ la L (left - L.length) (i + 1) := of_decide_eq_true ((List.all_eq_true.1 hall) i (List.mem_range.2 hi))
       have h5 : la L (left - L.length) (i + 1) = la L (left - L.length) i - (L[i]).t.size := by show la L _ i - _ = _; rw [zca (List.getElem?_eq_getElem hi)]
       have := hleft i
       omega
   | false =>
     refine ⟨-1, zcl Tryd.f5 1048579 (by kernel_rfl) (by kernel_rfl) fun kk hkk => ?_, fun h => by omega⟩
     refine zmj kk b _ left (-1) (fun d => rfl) (fun d => ⟨?_, rfl⟩)
     rw [hw]; exact (key kk hkk).2 hall
theorem zlA (c : In) : EvN 1 18 [.dat (DIns c)] [] [] ([.dat (DIns c)], [], []) :=
 zcl Tryd.f18 0 (by kernel_rfl) (by kernel_rfl) fun kk _ => toIn kk c rfl
theorem zmr (b : Bool) (L : List In) (h : L.length ≤ 1048576) : EvN 1048580 7 [.dat (.lst b (L.map DIns))] [] [] ([.own 41 (L.map DIns)], [], []) := by
 refine zcl Tryd.f7 1048579 (by kernel_rfl) (by kernel_rfl) fun kk hkk => ?_
 have hlen : (L.map DIns).length = L.length := by simp
 generalize hes : L.map DIns = es at *
 refine toS kk b es ⟨⟨by omega, by omega, by omega⟩, ?_, rfl⟩
 refine zaS (fun i => hdt b es (es.take i ++ List.replicate (es.length - i) (DIns ⟨0, 0, ByteArray.empty⟩)) i) es.length (by omega) (fun i hi m s K hs hn => ?_) (fun m s K hs hK => ?_) (by simp)
 · obtain ⟨x, hx⟩ := zeO (L := L) (i := i) (by omega)
   have hxd : es[i]? = some (DIns x) := by rw [← hes]; exact gm hx
   refine zmo kk m b es _ i x x ⟨0, 0, ByteArray.empty⟩ hs (fun _ => ⟨ih hxd, zlA x kk (by omega), ⟨by omega, by simp; omega⟩, by rw [Int.toNat_natCast]; exact zlK es _ i hi, fun s' hs' => hn s' ?_⟩) (fun d => absurd (of_decide_eq_false d) (by omega))
   rw [hs', Int.toNat_natCast, wi i (by omega), show Dat.agg [I x.op, I x.a, Dat.val (Value.string x.t)] = DIns x from rfl, zlL es _ _ i hi hxd]
   rfl
 · refine zmo kk m b es _ _ ⟨0, 0, ByteArray.empty⟩ ⟨0, 0, ByteArray.empty⟩ ⟨0, 0, ByteArray.empty⟩ hs (fun d => absurd (of_decide_eq_true d) (by omega)) (fun _ => ?_)
   simpa using hK
theorem zlw (c : In) : EvN 1 20 [.dat (DIns c), .dat (DIns c)] [] [] ([.dat (B true)], [], []) :=
 zcl Tryd.f20 0 (by kernel_rfl) (by kernel_rfl) fun kk _ => eqIn kk c c (fun d => by simp at d) (fun _ d => by simp at d) (fun _ _ d => by simp at d) (fun _ _ _ => rfl)
theorem zmt (L : List In) (b1 b2 : Bool) (h : L.length ≤ 1048576) : EvN 1048580 9 [.dat (.lst b1 (L.map DIns)), .dat (.lst b2 (L.map DIns))] [] [] ([.dat (B true)], [], []) := by
 refine zcl Tryd.f9 1048579 (by kernel_rfl) (by kernel_rfl) fun kk hkk => ?_
 have hlen : (L.map DIns).length = L.length := by simp
 generalize hes : L.map DIns = es at *
 refine eqS_y kk b1 b2 es es (fun d => by simp at d) (fun _ => ⟨?_, rfl⟩)
 refine zaS (fun i => hde b1 b2 es es i) es.length (by omega) (fun i hi m s K hs hn => ?_) (fun m s K hs hK => ?_) rfl
 · obtain ⟨x, hx⟩ := zeO (L := L) (i := i) (by omega)
   have hxd : es[i]? = some (DIns x) := by rw [← hes]; exact gm hx
   refine zmB kk m b1 b2 es es i x x true hs (fun _ d => by cases d) (fun _ _ => ⟨ih hxd, ih hxd, zlw x kk (by omega), fun s' hs' => hn s' ?_⟩) (fun d => absurd (of_decide_eq_false d) (by omega))
   rw [hs', wi i (by omega)]
   rfl
 · exact zmB kk m b1 b2 es es _ ⟨0, 0, ByteArray.empty⟩ ⟨0, 0, ByteArray.empty⟩ true hs (fun d => absurd (of_decide_eq_true d) (by omega)) (fun d => absurd (of_decide_eq_true d) (by omega)) (fun _ => hK)
def inB (x lo hi : Int) : Bool := decide (lo ≤ x) && decide (x ≤ hi)
theorem zj0 (x lo hi : Int) : EvN 1 26 [.dat (I x), .dat (I lo), .dat (I hi)] [] [] ([.dat (B (inB x lo hi))], [], []) :=
 zcl Tryd.f26 0 (by kernel_rfl) (by kernel_rfl) fun kk _ => l1In kk x lo hi (fun d => by simp only [decide_eq_true_eq] at d; simp [inB, d]) (fun d => by simp only [decide_eq_false_iff_not] at d; simp [inB, d])
def lf (t : ByteArray) : Bool := decide (0 ≤ Lib.indexByte t.data.toList 10)
def noLf (t : ByteArray) (i : Nat) : Bool := !decide (((t[i]?.getD 0).toNat : Int) = 10)
theorem zj2 (c : UInt8) : ∀ l : List UInt8, 0 ≤ Lib.indexByte l c ↔ c ∈ l
 | [] => by simp [Lib.indexByte]
 | b :: l => by
   have h0 := zj2 c l
   have h1 := Lib.indexByte_ge l c
   unfold Lib.indexByte
   by_cases hb : b = c
   · subst hb; simp
   · have hb' : (b == c) = false := by simpa using hb
     rw [hb', if_neg (by simp)]
     by_cases hm : Lib.indexByte l c = -1
     · rw [hm] at h0 ⊢
       simp only [beq_self_eq_true, if_true]
       constructor
       · intro h; omega
       · intro h
         rcases List.mem_cons.1 h with rfl | h
         · exact absurd rfl hb
         · exact absurd (h0.2 h) (by omega)
     · have hm' : (Lib.indexByte l c == -1) = false := by simpa using hm
       rw [hm', if_neg (by simp)]
       constructor
       · intro _
         exact List.mem_cons_of_mem _ (h0.1 (by omega))
       · intro _
         omega
theorem ziB (t : ByteArray) (i : Nat) (h : i < t.size) : t[i]?.getD 0 = t.data.toList[i]'(by simpa using h) := by
 rw [getElem?_pos t i h]
 rfl
theorem zif (t : ByteArray) : (List.range t.size).all (noLf t) = !lf t := by
 have key : lf t = true ↔ ∃ i, i < t.size ∧ noLf t i = false := by
  unfold lf
  rw [decide_eq_true_eq, zj2]
  constructor
  · intro h
    obtain ⟨i, hi, hx⟩ := List.mem_iff_getElem.1 h
    have hi' : i < t.size := by simpa using hi
    refine ⟨i, hi', ?_⟩
    unfold noLf
    rw [ziB t i hi', hx]
    rfl
  · rintro ⟨i, hi, hx⟩
    unfold noLf at hx
    rw [ziB t i hi] at hx
    simp only [Bool.not_eq_false', decide_eq_true_eq] at hx
    have : t.data.toList[i]'(by simpa using hi) = 10 := UInt8.toNat_inj.1 (by have e : (10 : UInt8).toNat = 10 := rfl; rw [e]; omega)
    rw [← this]
    exact List.getElem_mem _
 cases hl : lf t with
 | true =>
   obtain ⟨i, hi, hx⟩ := key.1 hl
   rw [Bool.not_true, ← Bool.not_eq_true, List.all_eq_true]
   intro h
   have := h i (List.mem_range.2 hi)
   rw [hx] at this
   cases this
 | false =>
   rw [Bool.not_false, List.all_eq_true]
   intro i hi
   cases hn : noLf t i with
   | true => rfl
   | false => rw [key.2 ⟨i, List.mem_range.1 hi, hn⟩] at hl; cases hl
theorem zme (t : ByteArray) (h : t.size ≤ 1048576) : ∃ s1 s2, EvN 1048580 25 [.dat (S t), .dat (.val (.int .u8 10))] [] [] ([.dat (S s1), .dat (S s2), .dat (B (lf t))], [], []) := by
 have key : ∀ kk, 1048579 ≤ kk → ((List.range t.size).all (noLf t) = true → za2 cfg kk 25 Tryd.f25 2 (hdc t 10 0) (.exit 0) (Nm [0, 4, 5, 6] [.dat (S t), .junk, .junk, .junk] [none, none, none, none] [] [])) ∧
  (∀ i, i < t.size → (∀ j, j < i → noLf t j = true) → noLf t i = false → za2 cfg kk 25 Tryd.f25 2 (hdc t 10 0) .ret (Nm [0, 4, 5, 6] [.dat (S t), .dat (S (t.extract 0 i)), .dat (S (t.extract (i + 1) t.size)), .dat (B true)] [none, none, none, none] [] [])) := fun kk hkk => by
  refine zd0 (fun i => hdc t 10 i) (noLf t) t.size (by omega) (s2 := fun i => Nm [0, 4, 5, 6] [.dat (S t), .dat (S (t.extract 0 i)), .dat (S (t.extract (i + 1) t.size)), .dat (B true)] [none, none, none, none] [] []) (fun i hi hp m s K hs hn hK => ?_) (fun hp m s K hs hK => ?_) rfl
  · have e1 : w64 ((i : Int) + 1) = ((i + 1 : Nat) : Int) := wi i (by omega)
    refine zmv kk m t 10 i hs (fun _ d => ⟨⟨by omega, by omega⟩, ⟨by simp, by simp, by simp; omega⟩, ?_, ?_⟩) (fun _ d => ⟨⟨by omega, by omega⟩, fun s' hs' => hn ?_ s' ?_⟩) (fun d => absurd (of_decide_eq_false d) (by omega))
    · rw [e1]; simp; omega
    · rw [e1]
      simp only [Option.getD_some, Option.getD_none, Int.toNat_natCast]
      refine hK ?_
      unfold noLf
      rw [Int.toNat_natCast] at d
      rw [d]
      rfl
    · unfold noLf
      rw [Int.toNat_natCast] at d
      rw [d]
      rfl
    · rw [hs', e1]
      rfl
  · exact zmv kk m t 10 _ hs (fun d => absurd (of_decide_eq_true d) (by omega)) (fun d => absurd (of_decide_eq_true d) (by omega)) (fun _ => hK)
 cases hl : lf t with
 | false =>
   refine ⟨t, ByteArray.mk #[], zcl Tryd.f25 1048579 (by kernel_rfl) (by kernel_rfl) fun kk hkk => ?_⟩
   exact cut_n kk t 10 ⟨(key kk hkk).1 (by rw [zif, hl]; rfl), rfl⟩
 | true =>
   have h0 := zif t
   rw [hl] at h0
   obtain ⟨j, q, h3, h4, h5⟩ := zfi (noLf t) h0
   have hj : j < t.size := by
    have := (List.getElem?_eq_some_iff.1 h3).1
    simpa using this
   have hqj : q = j := by
    rw [List.getElem?_range hj] at h3
    exact (Option.some.inj h3).symm
   subst hqj
   refine ⟨t.extract 0 q, t.extract (q + 1) t.size, zcl Tryd.f25 1048579 (by kernel_rfl) (by kernel_rfl) fun kk hkk => ?_⟩
   exact cut_y kk t _ _ 10 ⟨(key kk hkk).2 q hj (fun i hi => h5 i i hi (List.getElem?_range (by omega))) h4, rfl⟩
theorem ok_in {x : In} (h : x.ok = true) : 1 ≤ x.op ∧ x.op ≤ 13 ∧ 0 ≤ x.a ∧ x.a ≤ 100000 ∧ (x.t.size : Int) ≤ 1500 := by
 unfold Go.Proofs.YtmoocdlfclhgcaaDoor.Ins.ok okI at h
 simp only [Bool.and_eq_true, decide_eq_true_eq] at h
 omega
def tx (L : List In) : Nat → ByteArray
 | 0 => ByteArray.empty
 | i + 1 => tx L i ++ zfh (L.getD i ⟨0, 0, ByteArray.empty⟩)
theorem zjq {L : List In} (hok : ∀ x ∈ L, x.ok = true) : ∀ i, i ≤ L.length → (tx L i).size ≤ 1600 * i
 | 0, _ => Nat.le_refl _
 | i + 1, h => by
   have h1 := zjq hok i (by omega)
   have h2 := zdo (hok _ (List.getElem_mem (show i < L.length by omega)))
   show (tx L i ++ _).size ≤ _
   rw [ByteArray.size_append, zca (List.getElem?_eq_getElem (show i < L.length by omega))]
   omega
theorem zlT (b : Bool) (L : List In) (h : L.length ≤ 3000) (hok : ∀ x ∈ L, x.ok = true) : EvN 1048580 27 [.dat (.lst b (L.map DIns))] [] [] ([.dat (S (tx L L.length))], [], []) := by
 refine zcl Tryd.f27 1048579 (by kernel_rfl) (by kernel_rfl) fun kk hkk => text kk b _ _ ⟨?_, rfl⟩
 have hlen : (L.map DIns).length = L.length := by simp
 refine zaS (fun i => hdx b (L.map DIns) (tx L i) i) L.length (by omega) (fun i hi m s K hs hn => ?_) (fun m s K hs hK => ?_) rfl
 · obtain ⟨x, hx⟩ := zeO hi
   have hxo := hok x (List.mem_of_getElem? hx)
   have hin := ok_in hxo
   have hl := zdo hxo
   have ht := zjq hok i (by omega)
   have e1 := zk7 (n := x.op) ⟨by omega, by omega⟩ kk (by omega)
   have e2 := zk7 (n := x.a) ⟨by omega, by omega⟩ kk (by omega)
   have s1 := zdb (n := x.op) (by omega) (by omega)
   have s2 := zdb (n := x.a) (by omega) (by omega)
   have z1 : (ByteArray.mk #[32]).size = 1 := rfl
   have z2 : (ByteArray.mk #[10]).size = 1 := rfl
   have hd : zfh x = ((((num x.op ++ ⟨#[32]⟩) ++ num x.a) ++ ⟨#[32]⟩) ++ x.t) ++ ⟨#[10]⟩ := rfl
   refine zlj kk m b _ (tx L i) i x (num x.op) (num x.a) hs (fun _ => ⟨ih (gm hx), e1, by omega, e2, ?_, ?_, ?_, ?_, ?_, fun s' hs' => hn s' ?_⟩) (fun d => absurd (of_decide_eq_false d) (by omega))
   · rw [ByteArray.size_append, z1]; omega
   · rw [ByteArray.size_append, ByteArray.size_append, z1]; omega
   · rw [ByteArray.size_append, ByteArray.size_append, ByteArray.size_append, z1]; omega
   · rw [ByteArray.size_append, ByteArray.size_append, ByteArray.size_append, ByteArray.size_append, z1]; omega
   · rw [hd] at hl; omega
   · have e : tx L (i + 1) = tx L i ++ zfh x := by show tx L i ++ _ = _; rw [zca hx]
     rw [hs', wi i (by omega), ← hd, ← e]
     rfl
 · exact zlj kk m b _ _ _ ⟨0, 0, ByteArray.empty⟩ ByteArray.empty ByteArray.empty hs (fun d => absurd (of_decide_eq_true d) (by omega)) (fun _ => hK)
theorem ok_eq (x : In) : x.ok = (inB x.op 1 13 && (inB x.a 0 100000 && (decide ((x.t.size : Int) ≤ 1500) && !lf x.t))) := by
 unfold Go.Proofs.YtmoocdlfclhgcaaDoor.Ins.ok okI inB lf
 simp only [Bool.and_assoc]
theorem zkp (b : Bool) (L : List In) (h : L.length ≤ 1048576) (hs : ∀ x ∈ L, x.t.size ≤ 1048576) : ∃ s, EvN 1048590 17 [.dat (.lst b (L.map DIns))] [] [] ([.dat (S s), .dat (B (okT L))], [], []) := by
 have hlen : (L.map DIns).length = L.length := by simp
 by_cases h3 : 3000 < L.length
 · refine ⟨ByteArray.mk #[], zcl Tryd.f17 1048589 (by kernel_rfl) (by kernel_rfl) fun kk hkk => ?_⟩
   have e : okT L = false := by unfold okT; rw [decide_eq_false (by omega)]; rfl
   rw [e]
   exact zlb kk b _ (fun d => rfl) (fun d => absurd (of_decide_eq_false d) (by omega))
 · have key : ∀ kk, 1048589 ≤ kk → ((List.range L.length).all (fun i => (L.getD i ⟨0, 0, ByteArray.empty⟩).ok) = true → za2 cfg kk 17 Tryd.f17 4 (hdk b (L.map DIns) 0) (.exit 0) (Nm [0, 2, 3] [.dat (.lst b (L.map DIns)), .junk, .junk] [none, none, none] [] [])) ∧
    ((List.range L.length).all (fun i => (L.getD i ⟨0, 0, ByteArray.empty⟩).ok) = false → za2 cfg kk 17 Tryd.f17 4 (hdk b (L.map DIns) 0) .ret (Nm [0, 2, 3] [.dat (.lst b (L.map DIns)), .dat (S ByteArray.empty), .dat (B false)] [none, none, none] [] [])) := fun kk hkk => by
    refine zft (fun i => hdk b (L.map DIns) i) (fun i => (L.getD i ⟨0, 0, ByteArray.empty⟩).ok) L.length (by omega) (fun i hi hp m s K hs' hn hK => ?_) (fun hp m s K hs' hK => ?_) rfl
    · obtain ⟨x, hx⟩ := zeO hi
      obtain ⟨s1, s2, hc⟩ := zme x.t (hs x (List.mem_of_getElem? hx))
      have hc := hc kk (by omega)
      have h1 := zj0 x.op 1 13 kk (by omega)
      have h2 := zj0 x.a 0 100000 kk (by omega)
      have ho : (L.getD i ⟨0, 0, ByteArray.empty⟩).ok = (inB x.op 1 13 && (inB x.a 0 100000 && (decide ((x.t.size : Int) ≤ 1500) && !lf x.t))) := by rw [zca hx, ok_eq]
      rw [ho] at hn hK
      refine zld kk m b _ i x s1 s2 (lf x.t) (inB x.op 1 13) (inB x.a 0 100000) hs' (fun _ d => ⟨ih (gm hx), hc, hK ?_⟩) (fun _ d d2 => ⟨ih (gm hx), hc, h1, hK ?_⟩) (fun _ d d2 d3 => ⟨ih (gm hx), hc, h1, h2, hK ?_⟩) (fun _ d d2 d3 d4 => ⟨ih (gm hx), hc, h1, h2, hK ?_⟩) (fun _ d d2 d3 d4 => ⟨ih (gm hx), hc, h1, h2, fun s' hs2 => hn ?_ s' ?_⟩) (fun d => absurd (of_decide_eq_false d) (by omega))
      · rw [d]; simp
      · rw [Bool.not_eq_true'] at d2; rw [d2]; rfl
      · rw [Bool.not_eq_true'] at d3; rw [d3]; simp
      · have : decide ((x.t.size : Int) ≤ 1500) = false := decide_eq_false (by have := of_decide_eq_true d4; omega)
        rw [this]; simp
      · have : decide ((x.t.size : Int) ≤ 1500) = true := decide_eq_true (by have := of_decide_eq_false d4; omega)
        rw [Bool.not_eq_false'] at d2 d3
        rw [this, d, d2, d3]; rfl
      · rw [hs2, wi i (by omega)]
        rfl
    · exact zld kk m b _ _ ⟨0, 0, ByteArray.empty⟩ ByteArray.empty ByteArray.empty false false false hs' (fun d => absurd (of_decide_eq_true d) (by omega)) (fun d => absurd (of_decide_eq_true d) (by omega)) (fun d => absurd (of_decide_eq_true d) (by omega)) (fun d => absurd (of_decide_eq_true d) (by omega)) (fun d => absurd (of_decide_eq_true d) (by omega)) (fun _ => hK)
   have hall : (List.range L.length).all (fun i => (L.getD i ⟨0, 0, ByteArray.empty⟩).ok) = okT L := by
    unfold okT
    rw [decide_eq_true (show L.length ≤ 3000 by omega), Bool.true_and, Bool.eq_iff_iff, List.all_eq_true, List.all_eq_true]
    constructor
    · intro hq x hx
      obtain ⟨i, hi, rfl⟩ := List.mem_iff_getElem.1 hx
      have := hq i (List.mem_range.2 hi)
      rwa [zca (List.getElem?_eq_getElem hi)] at this
    · intro hq i hi
      rw [zca (List.getElem?_eq_getElem (List.mem_range.1 hi))]
      exact hq _ (List.getElem_mem _)
   rw [hall] at key
   cases hok : okT L with
   | true =>
     rw [hok] at key
     have hxo : ∀ x ∈ L, x.ok = true := by
      unfold okT at hok
      simp only [Bool.and_eq_true, List.all_eq_true] at hok
      exact hok.2
     refine ⟨tx L L.length, zcl Tryd.f17 1048589 (by kernel_rfl) (by kernel_rfl) fun kk hkk => ?_⟩
     exact zml kk b _ (tx L L.length) (fun d => absurd (of_decide_eq_true d) (by omega)) (fun d => ⟨(key kk hkk).1 rfl, zlT b L (by omega) hxo kk (by omega), rfl⟩)
   | false =>
     rw [hok] at key
     refine ⟨ByteArray.empty, zcl Tryd.f17 1048589 (by kernel_rfl) (by kernel_rfl) fun kk hkk => ?_⟩
     exact zlb kk b _ (fun d => absurd (of_decide_eq_true d) (by omega)) (fun d => ⟨(key kk hkk).2 rfl, rfl⟩)
def cn (k : Int) (L : List In) : Nat → Nat
 | 0 => 0
 | i + 1 => cn k L i + (if (L.getD i ⟨0, 0, ByteArray.empty⟩).op = k then 1 else 0)
theorem zmz (k : Int) (L : List In) : ∀ i, cn k L i ≤ i
 | 0 => Nat.le_refl _
 | i + 1 => by have := zmz k L i; show cn k L i + _ ≤ _; split <;> omega
theorem ziz {k : Int} {L : List In} {i : Nat} {x : In} (hx : L[i]? = some x) (h : x.op = k) (hi : i ≤ 1048576) : w64 ((cn k L i : Int) + 1) = ((cn k L (i + 1) : Nat) : Int) := by
 have : cn k L (i + 1) = cn k L i + 1 := by show cn k L i + _ = _; rw [zca hx, if_pos h]
 rw [this]
 exact wi _ (by have := zmz k L i; omega)
theorem zhr {k : Int} {L : List In} {i : Nat} {x : In} (hx : L[i]? = some x) (h : x.op ≠ k) : cn k L (i + 1) = cn k L i := by
 show cn k L i + _ = _
 rw [zca hx, if_neg h, Nat.add_zero]
def zbj (L : List In) : Int × Int × Bool := match okT L with
 | true => ((cn 9 L L.length : Nat), (cn 10 L L.length : Nat), true)
 | false => (0, 0, false)
theorem zjr (b : Bool) (L : List In) (h : L.length ≤ 1048576) (hs : ∀ x ∈ L, x.t.size ≤ 1048576) : EvN 1048600 6 [.dat (.lst b (L.map DIns))] [] [] ([.dat (I (zbj L).1), .dat (I (zbj L).2.1), .dat (B (zbj L).2.2)], [], []) := by
 have hlen : (L.map DIns).length = L.length := by simp
 obtain ⟨t, ht⟩ := zkp b L h hs
 refine zcl Tryd.f6 1048599 (by kernel_rfl) (by kernel_rfl) fun kk hkk => ?_
 have ht := ht kk (by omega)
 refine zmg kk b _ (cn 9 L L.length : Nat) (cn 10 L L.length : Nat) t (okT L) (fun d => ⟨ht, ?_⟩) (fun d => ⟨ht, ?_, ?_⟩)
 · rw [Bool.not_eq_true'] at d
   unfold zbj
   rw [d]
 · refine zaS (fun i => hdn b (L.map DIns) (cn 9 L i : Nat) (cn 10 L i : Nat) i) L.length (by omega) (fun i hi m s K hs hn => ?_) (fun m s K hs hK => ?_) rfl
   · obtain ⟨x, hx⟩ := zeO hi
     refine zis kk m b _ _ _ i x hs (fun _ d d2 => ?_) (fun _ d d2 => ⟨ih (gm hx), fun s' hs' => hn s' ?_⟩) (fun _ d d2 => ⟨ih (gm hx), fun s' hs' => hn s' ?_⟩) (fun _ d d2 => ⟨ih (gm hx), fun s' hs' => hn s' ?_⟩) (fun d => absurd (of_decide_eq_false d) (by omega))
     · have := of_decide_eq_true d
       have := of_decide_eq_true d2
       omega
     · rw [hs', wi i (by omega), ziz hx (of_decide_eq_true d) (by omega), zhr hx (of_decide_eq_false d2)]
       rfl
     · rw [hs', wi i (by omega), ziz hx (of_decide_eq_true d2) (by omega), zhr hx (of_decide_eq_false d)]
       rfl
     · rw [hs', wi i (by omega), zhr hx (of_decide_eq_false d2), zhr hx (of_decide_eq_false d)]
       rfl
   · exact zis kk m b _ _ _ _ ⟨0, 0, ByteArray.empty⟩ hs (fun d => absurd (of_decide_eq_true d) (by omega)) (fun d => absurd (of_decide_eq_true d) (by omega)) (fun d => absurd (of_decide_eq_true d) (by omega)) (fun d => absurd (of_decide_eq_true d) (by omega)) (fun _ => hK)
 · rw [Bool.not_eq_false'] at d
   unfold zbj
   rw [d]
theorem zj3 (b : Bool) (L : List In) (h : L.length ≤ 1048576) : EvN 1048600 8 [.dat (.lst b (L.map DIns))] [] [] ([.dat (I (zbj L).1), .dat (I (zbj L).2.1), .dat (B (zbj L).2.2)], [], []) := by
 have hlen : (L.map DIns).length = L.length := by simp
 refine zcl Tryd.f8 1048599 (by kernel_rfl) (by kernel_rfl) fun kk hkk => ?_
 have ht := zkK b L kk (by omega)
 refine zma kk b _ (cn 9 L L.length : Nat) (cn 10 L L.length : Nat) (zeg L) (okT L) (fun d => ⟨ht, ?_⟩) (fun d => ⟨ht, ?_, ?_⟩)
 · rw [Bool.not_eq_true'] at d
   unfold zbj
   rw [d]
 · refine zaS (fun i => hdn b (L.map DIns) (cn 9 L i : Nat) (cn 10 L i : Nat) i) L.length (by omega) (fun i hi m s K hs hn => ?_) (fun m s K hs hK => ?_) rfl
   · obtain ⟨x, hx⟩ := zeO hi
     refine zid kk m b _ _ _ i x hs (fun _ d => ⟨ih (gm hx), fun s' hs' => hn s' ?_⟩) (fun _ d d2 => ⟨ih (gm hx), fun s' hs' => hn s' ?_⟩) (fun _ d d2 => ⟨ih (gm hx), fun s' hs' => hn s' ?_⟩) (fun d => absurd (of_decide_eq_false d) (by omega))
     · rw [hs', wi i (by omega), ziz hx (of_decide_eq_true d) (by omega), zhr (k := 10) hx (by have := of_decide_eq_true d; omega)]
       rfl
     · rw [hs', wi i (by omega), ziz hx (of_decide_eq_true d2) (by omega), zhr hx (of_decide_eq_false d)]
       rfl
     · rw [hs', wi i (by omega), zhr hx (of_decide_eq_false d2), zhr hx (of_decide_eq_false d)]
       rfl
   · exact zid kk m b _ _ _ _ ⟨0, 0, ByteArray.empty⟩ hs (fun d => absurd (of_decide_eq_true d) (by omega)) (fun d => absurd (of_decide_eq_true d) (by omega)) (fun d => absurd (of_decide_eq_true d) (by omega)) (fun _ => hK)
 · rw [Bool.not_eq_false'] at d
   unfold zbj
   rw [d]
end Go.Den
namespace Go.Den
open Go
set_option linter.unusedVariables false
set_option maxRecDepth 100000
theorem zmu {n : Nat} {d : Dat} {i : TI} (h : WT cfg.ty n d) (ht : cfg.ty n = some i) (hk : i.kind = .str) : ∃ s : ByteArray, d = S s ∧ s.size ≤ maxLen := by
 cases h with
 | int ht' hk' => rw [ht] at ht'; cases ht'; rw [hk] at hk'; cases hk'
 | bool ht' hk' => rw [ht] at ht'; cases ht'; rw [hk] at hk'; cases hk'
 | str ht' hk' hs => exact ⟨_, rfl, hs⟩
 | lst ht' hk' => rw [ht] at ht'; cases ht'; rw [hk] at hk'; cases hk'
 | agg ht' hk' => rw [ht] at ht'; cases ht'; rw [hk] at hk'; cases hk'
theorem in_of {d : Dat} (h : WT cfg.ty 38 d) : ∃ x : In, d = DIns x ∧ x.t.size ≤ 9223372036854775807 := by
 obtain ⟨l, rfl, hl, hx⟩ := zl9 h (i := ⟨.struct, 3, 32, [(0, 3), (1, 3), (2, 9)], [.dat (.val (.int .i64 0)), .dat (.val (.int .i64 0)), .dat (.val (.string ByteArray.empty))]⟩) (by kernel_rfl) rfl
 match l, hl, hx with
 | [o, a, t], _, hx =>
   obtain ⟨o, rfl⟩ := zlk (hx 0 (0, 3) o rfl rfl)
   obtain ⟨a, rfl⟩ := zlk (hx 1 (1, 3) a rfl rfl)
   obtain ⟨t, rfl, ht⟩ := zmu (hx 2 (2, 9) t rfl rfl) (i := ⟨.str, 1, 16, [], [.dat (.val (.string ByteArray.empty))]⟩) (by kernel_rfl) rfl
   exact ⟨⟨o, a, t⟩, rfl, ht⟩
theorem zl3 {d : Dat} (h : WT cfg.ty 22 d) : ∃ L : List In, d = .lst false (L.map DIns) ∧ L.length ≤ 9223372036854775807 ∧ ∀ x ∈ L, x.t.size ≤ 9223372036854775807 := by
 obtain ⟨es, rfl, hl, hx⟩ := zl4 h (i := ⟨.slice 38, 1, 24, [], [.own 38 []]⟩) (by kernel_rfl) rfl
 have : ∀ es : List Dat, (∀ x ∈ es, WT cfg.ty 38 x) → ∃ L : List In, es = L.map DIns ∧ ∀ x ∈ L, x.t.size ≤ 9223372036854775807 := by
  intro es
  induction es with
  | nil => intro _; exact ⟨[], rfl, fun x hx => by cases hx⟩
  | cons d es ihs =>
    intro h
    obtain ⟨x, rfl, hx⟩ := in_of (h d (by simp))
    obtain ⟨L, rfl, hL⟩ := ihs fun y hy => h y (List.mem_cons_of_mem _ hy)
    refine ⟨x :: L, rfl, fun y hy => ?_⟩
    rcases List.mem_cons.1 hy with rfl | hy
    · exact hx
    · exact hL y hy
 obtain ⟨L, rfl, hL⟩ := this es hx
 rw [List.length_map] at hl
 exact ⟨L, rfl, hl, hL⟩
end Go.Den
namespace Go.Den
open Go
set_option linter.unusedVariables false
set_option maxRecDepth 100000
theorem fnExactCallsIn_den : ∀ (d0 : Dat), WT cfg.ty 22 d0 → ∃ k, den cfg k 3 [.dat d0] [] [] = some ([.dat (.val (.bool true))], [], []) := by
 intro d0 w0
 obtain ⟨L, rfl, hl, hs⟩ := zl3 w0
 obtain ⟨z, hz, hz0⟩ := zl8 false L 1048576 (by omega) (by omega) hl hs
 refine ⟨1100001, zcl Go.Proofs.Tryd.f3 1100000 (by kernel_rfl) (by kernel_rfl) (fun kk hkk => ?_) (by kernel_rfl) 1100001 (Nat.le_refl _)⟩
 have h5 := hz kk (by omega)
 have hle : decide (z < 0) = false → L.length ≤ 1048576 ∧ ∀ x ∈ L, x.t.size ≤ 1048576 := fun d => hz0 (by have := of_decide_eq_false d; omega)
 have h7 := fun h => zmr false L h kk (by omega)
 have h6 := fun h hs => zjr true L h hs kk (by omega)
 have h8 := fun h => zj3 true L h kk (by omega)
 have h9 := fun h => zmt L true true h kk (by omega)
 generalize (zbj L).1 = c1 at *
 generalize (zbj L).2.1 = c2 at *
 generalize (zbj L).2.2 = g at *
 exact law kk false _ z _ c1 c2 g _ c1 c2 g _ true (fun d => ⟨h5, rfl⟩) (fun d d2 => by simp at d2) (fun d d2 d3 => by simp at d3) (fun d d2 d3 d4 => by simp at d4) (fun d d2 d3 d4 d5 => by cases d5)
  (fun d d2 d3 d4 d5 => ⟨h5, h7 (hle d).1, h6 (hle d).1 (hle d).2, h7 (hle d).1, h8 (hle d).1, h7 (hle d).1, h9 (hle d).1, rfl⟩)
end Go.Den
namespace Go.Proofs.YtmoocdlfclhgcaaDoor.fnExactCallsIn
open Go.ChangeShapes Go.WideShapes Go.ChangeAt Go.RowKit Go.Den
set_option linter.unusedVariables false
theorem own : ownKnob Tryd.prog.godebug = none := by kernel_rfl
theorem zlC : laidOutB Tryd.prog = true := by kernel_rfl
theorem body : (Tryd.f3.body).isSome = true := by kernel_rfl
theorem fnThere : cfg.fn 3 = some Tryd.f3 := by kernel_rfl
theorem zlv : zc7 cfg.ty 8 22 = true := by kernel_rfl
def setG (h : Array Obj) (g : Nat) (c : Array Value) : Array Obj := h.modify g fun
 | .cells _ t frozen => .cells c t frozen
 | o => o
def vals (d : DataW Unit) : Array Value := match d with
 | .agg l => (l.map fun | .lit (.int k n) => Value.int k n | _ => .nilIface).toArray
 | _ => #[]
noncomputable def zhf (os : Os) : World :=
 let w0 := World.holding Tryd.prog os ⟨#[], #[], []⟩
 { w0 with heap := setG (setG (setG (w0.heap) 2 (vals Rows.laid_math_bits_deBruijn32tab)) 3 (vals Rows.laid_math_bits_deBruijn64tab)) 1 (vals Rows.laid_internal_strconv_uint64pow10) }
theorem zkD (os : Os) (args : Array Value) : laidMetH Tryd.prog Rows.fnExactCallsInRow.laid ((zhf os).forCall (fun _ _ => 0) ⟨#[], args, []⟩).memory :=
 laidMetH_of_parts (laidMet_of_run (ps := (List.range 32).map (MemPlace.cell 2 ·) ++ (List.range 64).map (MemPlace.cell 3 ·) ++ (List.range 20).map (MemPlace.cell 1 ·)) 8 (by kernel_rfl) (by kernel_rfl) (by kernel_rfl)) (by kernel_rfl)
set_option maxRecDepth 100000 in
theorem zk6 (os : Os) (started : os.Started) (H : Type) (enc : TypeId × Value → H) :
 ReturnsInHanded {} Tryd.checked os 3 .any (fun w args => (Rows.fnExactCallsInSpec.pre enc Tryd.prog Tryd.f3 Rows.fnExactCallsInRow.domain false w args ∧ laidMetH Tryd.prog Rows.fnExactCallsInRow.laid w) ∧ sizedMet enc Tryd.prog Tryd.f3 (OpenSpec.ofChange Rows.fnExactCallsInSpec) false w args) (Rows.fnExactCallsInSpec.post enc Tryd.prog Tryd.f3 false true false false) := by
 refine returnsInHanded_of_change_and (C := Tryd.checked) (X := fun w _ => laidMetH Tryd.prog Rows.fnExactCallsInRow.laid w) (fun _ _ _ hh h => h.of_heap hh) own started (by kernel_rfl) Tryd.func3
  (ChangeSpec.witness_at (enc := enc) (C := Tryd.checked) (os := os) (X := fun w _ => laidMetH Tryd.prog Rows.fnExactCallsInRow.laid w) false (zhf os) #[.slice none 0 0] 8 rfl (by kernel_rfl) (by kernel_rfl) (by kernel_rfl) (by kernel_rfl) (by kernel_rfl) (zkD os _)) ?_
 intro W base args ds gs before hval0 hW hcnd _ hL _
 have hTab : Lib.TabIs Tryd.prog W "internal/strconv.uint64pow10" .u64 Lib.pow10Tab := Lib.tabIs_of_head (g := 1) (by kernel_rfl) (t := 94) (by kernel_rfl) (e := 79) (n := 20) (by kernel_rfl) (by kernel_rfl) (by kernel_rfl) (by kernel_rfl) (laidMet.tail (laidMet.tail (show laidMet Tryd.prog Rows.fnExactCallsInRow.laid W from hL)))
 have hval : ∀ (j : Nat) t v, Tryd.f3.params[j]? = some t → args[j]? = some v → Value.okWide Tryd.prog W .any base t v := hval0
 have hW' := hW
 obtain ⟨p, q, hA0, hV, rfl, hfz, hnd⟩ := hW
 have hA : DataW.TrodAll enc Tryd.prog W 0 (fun _ => true) true Tryd.f3.params.toList args.toList ds p := hA0
 rw [Tryd.params3] at hA hval
 obtain ⟨v0, vs0, d0, ds0, p0, q0, hargs, rfl, rfl, h0, r0⟩ := trodAll_cons hA
 obtain ⟨rfl, rfl, rfl⟩ := trodAll_nil r0
 obtain rfl : args = #[v0] := by cases args; simp_all
 obtain ⟨rfl, rfl⟩ := trodVars_none hV
 have k0 := h0
 have lt0 : ∀ x ∈ p0, x.block < W.heap.size := by obtain ⟨m, hm⟩ := k0; exact DataW.trod_lt m _ _ _ hm
 obtain ⟨e0, cv0, R0, V0, T0⟩ := zlV zlp zlv (hval 0 22 v0 rfl rfl) h0
 clear hA0 hval0
 have hden := fnExactCallsIn_den e0 T0
 refine (zjm (P := Tryd.prog) (C := cfg) (f := 3) (fn := Tryd.f3) (vals := #[v0]) (ds := [e0]) (W := W) (b := true) (B := zeV Tryd.prog W "internal/strconv.uint64pow10") (zkq (zkP hTab)).out (zk5 fnThere) body rfl (fun j d v hj hv => ?_) (fun g o h => zk1 h) hden).mono fun e W' hh => ?_
 · match j, hj, hv with
   | 0, hj, hv => cases hj; cases hv; exact ⟨cv0, R0, V0⟩
   | j + 1, hj, hv => simp at hj
 · obtain ⟨he, bel⟩ := hh
   subst he
   exact ⟨_, rfl, _, _, _, [], _, [], hW', trodAll_mk1 (shut_bool Tryd.underlying4 _), (trodAll_cons_mk (Below.trod zlC (by kernel_rfl) (of_decide_eq_true (by kernel_rfl)) k0 bel lt0) trodAll_mk0), rfl, bel.frame _, fun h => by cases h⟩
theorem over : Rows.fnExactCallsInRow.holds Tryd.pinned (OpenSpec.ofChange Rows.fnExactCallsInSpec) :=
 OpenClaim.holds_of_wide 3 Tryd.f3 rfl rfl rfl rfl rfl rfl rfl ⟨rfl, rfl, rfl, rfl, rfl⟩ rfl rfl rfl rfl rfl (by kernel_rfl) Tryd.func3 (by kernel_rfl)
  (of_decide_eq_true (by kernel_rfl)) (by unfold Func.isWrapper; first | (rw [if_pos (by decide +kernel)]; kernel_rfl) | (rw [if_neg (by decide +kernel)]; exact ⟨rfl, rfl⟩))
  (fun os started H enc _ => zk6 os started H enc)
theorem proved : Rows.FnExactCallsInSaid := over
end Go.Proofs.YtmoocdlfclhgcaaDoor.fnExactCallsIn
namespace Go.Proofs.YtmoocdlfclhgcaaDoor
theorem fnExactCallsIn_holds : Rows.FnExactCallsInSaid := fnExactCallsIn.proved
end Go.Proofs.YtmoocdlfclhgcaaDoor
namespace Go.Proofs.YtmoocdlfclhgcaaDoor
open Go
theorem fnExactCallsInCard_holds : Rows.FnExactCallsInCardSaid :=
 Claim7.holds_tied_plain_at .later [] [.data, .data, .data] true (true, "329d426325702a782e31df2674cd905a4db5641f93a9b18856352dbe941b77e0") false
  fnExactCallsIn_holds (fun _ h => by cases h) (by kernel_rfl) (fun _ h => by cases h) fnExactCallsIn_row_tie rfl ⟨rfl, rfl⟩ (by kernel_rfl) rfl
  (fun f fn hf hfn => by
   obtain rfl : f = 3 := Option.some.inj ((show Tryd.prog.funcNamed Rows.fnExactCallsInRow.func = some 3 by kernel_rfl).symm.trans hf) |>.symm
   obtain rfl : fn = Tryd.f3 := (Option.some.inj (Tryd.func3.symm.trans hfn)).symm
   exact ⟨by kernel_rfl, fun j t ht => by
    rw [Tryd.params3] at ht
    match j, ht with
    | 0, ht => cases ht; exact (show Tryd.prog.wantsStandIn 22 = false by kernel_rfl)
    | j + 1, ht => simp at ht⟩)
  (by kernel_rfl)
end Go.Proofs.YtmoocdlfclhgcaaDoor
