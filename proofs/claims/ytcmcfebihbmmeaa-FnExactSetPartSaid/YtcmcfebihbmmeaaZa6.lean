/- Merged out of: D33 D34 Dt E0 E1 (prune.py, a program of this work's). -/
import Derived.Test.YtcmcfebihbmmeaaZa1
import Derived.Test.YtcmcfebihbmmeaaZa5
import Derived.KernelRfl
import Derived.IntWalk
set_option linter.unusedVariables false
set_option linter.unusedSimpArgs false
set_option linter.unnecessarySimpa false
namespace Go.Den
open Go
set_option linter.unusedVariables false
inductive Hint where
 | yes
 | no
 | put (d : D)
 | to (f : St → St)
 | at (d : Dat)
 | ok
 | ret (rs : List D)
 | back (rs : List D) (u : List (List D)) (l : List (Option Row))
 | loop (s0 : St) (x : X) (s : St)
def Obs : List Prop → Prop
 | [] => True
 | p :: l => p ∧ Obs l
theorem zgf : ∀ {a b : List Prop}, Obs (a ++ b) → Obs a ∧ Obs b
 | [], b, h => ⟨trivial, h⟩
 | p :: a, b, h => by
   have h' : p ∧ Obs (a ++ b) := h
   obtain ⟨h1, h2⟩ := zgf h'.2
   exact ⟨⟨h'.1, h1⟩, h2⟩
abbrev zcT := List (Nat × Hint)
def zi0 : zcT → Nat → Option Hint
 | [], _ => none
 | (a, x) :: l, n => match Nat.beq a n with | true => some x | false => zi0 l n
def keyOf (o : Oper) : Option Nat :=
 match o.dst, o.op with
 | some n, _ => some n
 | none, .store _ (.tmp a) _ => some (100000 + a)
 | _, _ => none
def hadd {α : Type} (p : Prop) : Option (List Prop × α) → Option (List Prop × α)
 | some r => some (p :: r.1, r.2)
 | none => none
def zkE {α : Type} (hs : zcT) (s : St) (x : Nat) (yes no : St → Option (List Prop × α)) (und : Option (List Prop × α)) : Option (List Prop × α) :=
 match s.t x with
 | .dat (.val (.bool b)) => match zi0 hs (200000 + x) with
   | some .yes => hadd (b = true) (yes (s.force x true))
   | some .no => hadd (b = false) (no (s.force x false))
   | _ => match b with | true => yes (s.force x true) | false => no (s.force x false)
 | .undef => und
 | _ => none
def hcond {α : Type} (hs : zcT) (s : St) (c : Operand) (yes no : St → Option (List Prop × α)) : Option (List Prop × α) :=
 match c with
 | .tmp x => zkE hs s x yes no none
 | .const (.bool v) => match v with | true => yes s | false => no s
 | _ => none
def zjh {α : Type} (hs : zcT) (ops : Array Oper) (s : St) (g : Option (Nat × Bool)) (k z : St → Option (List Prop × α)) : Option (List Prop × α) :=
 match g with
 | none => k s
 | some (j, want) => match (ops[j]?).bind (·.dst) with
   | none => none
   | some x => match want with
     | true => zkE hs s x k z (z s)
     | false => zkE hs s x z k (z s)
def Env.with (E : Env) (q : List D × List (List D) × List (Option Row)) : Env := { E with call := fun _ _ _ _ => some q }
def zdz (E : Env) (s : St) (o : Oper) : Option (Nat × List D × Bool) :=
 match o.op with
 | .call ca => match ca.callee with
   | .value z => match s.look z with
     | .fn f [] => match zbj (E.mode f) with
       | true => (match zeE s.get (zaz E s.look ca.args.toList ca.argTypes.toList) with
         | some r => some (f, r.1.map .dat, r.2)
         | none => none)
       | false => none
     | _ => none
   | _ => none
 | _ => none
def zkt (E : Env) (s : St) (f : Nat) (cap : List Ref) (args : List D) : Option (List D × List (List D) × List (Option Row)) :=
 (zaq (E.mode f) args s).bind fun a =>
 (zaE a.2.get (E.mode f) a.1).bind fun ls =>
 match zaP ls with
 | false => none
 | true => match cap.isEmpty && a.1.all zgU with
   | true => (zau (hide ls false a.2.get) 0 [] (E.mode f) 0 a.1).map fun v => (v.1, [], ls.map fun p => some p.2)
   | false => match ls.all fun p => !p.1.ofCell with
     | false => none
     | true =>
       let keys := a.2.sent E.nt cap a.1; let m := a.2.upsSent keys cap a.1
       (zau (hide ls true a.2.get) m keys (E.mode f) 0 a.1).bind fun v =>
       (zbK m keys cap).bind fun caps =>
       (zed a.2 keys).bind fun bs => (zcf m keys (a.2.u.take m ++ bs)).map fun us => (v.1 ++ caps.map (fun r => D.ptr r 0), us, ls.map fun p => some p.2)
def zda (E : Env) (s : St) (o : Oper) : Option (Nat × List D × List (List D) × List (Option Row)) :=
 match o.op with
 | .call ca => match ca.callee with
   | .value z => match s.look z with
     | .fn f cap => match cap.isEmpty && (zbj (E.mode f) && (zeE s.get (zaz E s.look ca.args.toList ca.argTypes.toList)).isSome) with
       | true => none
       | false => (zkt E s f cap (zaz E s.look ca.args.toList ca.argTypes.toList)).map fun r => (f, r)
     | _ => none
   | _ => none
 | _ => none
theorem zfq {E : Env} {s : St} {o : Oper} {rs : List D} {f : Nat} {args : List D} {fl : Bool} (h : zdz E s o = some (f, args, fl)) (hpl : D.plains rs = true) (hfl : fl = true → D.cleans rs = true) (hc : E.call f args [] [] = some (rs, [], [])) : evOp E s.look s.get s.box o.type o.op = some (.pure (retD rs)) ∧ evOp (E.with (rs, [], [])) s.look s.get s.box o.type o.op = some (.pure (retD rs)) := by
 unfold zdz at h
 split at h
 · rename_i ca ho
   split at h
   · rename_i z hz
     split at h
     · rename_i f' hf
       split at h
       · rename_i hm
         split at h
         · rename_i r hr
           · cases h
             have hcl : (r.2 && !D.cleans rs) = false := by
              cases hr2 : r.2 with
              | false => rfl
              | true => rw [hfl hr2]; rfl
             rw [ho]
             refine ⟨?_, ?_⟩
             · simp only [evOp, hz, hf, zde, hm, hr, Option.bind_some, hc, zkn, hpl, hcl]
             · have hm' : zbj ((E.with (rs, [], [])).mode f) = true := hm
               have hr' : zeE s.get (zaz (E.with (rs, [], [])) s.look ca.args.toList ca.argTypes.toList) = some r := by
                rw [← hr]
                congr 1
                generalize ca.args.toList = zs
                generalize ca.argTypes.toList = ts
                induction zs generalizing ts with
                | nil => rfl
                | cons z zs ih => simp only [zaz, ih]; rfl
               have hcc : (E.with (rs, [], [])).call f (r.1.map .dat) [] [] = some (rs, [], []) := rfl
               simp only [evOp, hz, hf, zde, hm', hr', Option.bind_some, hcc, zkn, hpl, hcl]
         · cases h
       · cases h
     · cases h
   · cases h
 · cases h
theorem zlb {E : Env} {s : St} {o : Oper} {rs : List D} {f : Nat} {args : List D} {cs : List D} {l : List (Option Row)} (h : zdz E s o = some (f, args, false)) (hpl : D.plains rs = false) (hc : E.call f args [] [] = some (rs, [cs], l)) : evOp E s.look s.get s.box o.type o.op = some (.made cs) := by
 unfold zdz at h
 split at h
 · rename_i ca ho
   split at h
   · rename_i z hz
     split at h
     · rename_i f' hf
       split at h
       · rename_i hm
         split at h
         · rename_i r hr
           have h1 : r.2 = false := by injection h with h; injection h with _ h; injection h with _ h
           have h2 : f' = f ∧ r.1.map D.dat = args := by injection h with h; injection h with h3 h; injection h with h4 _; exact ⟨h3, h4⟩
           obtain ⟨rfl, rfl⟩ := h2
           rw [ho]
           simp only [evOp, hz, hf, zde, hm, hr, Option.bind_some, hc, zkn, hpl, h1]
         · cases h
       · cases h
     · cases h
   · cases h
 · cases h
theorem zc7 {E : Env} {q : List D × List (List D) × List (Option Row)} {lk : Operand → D} : ∀ (zs : List Operand) (ts : List Nat), zaz (E.with q) lk zs ts = zaz E lk zs ts
 | [], ts => rfl
 | z :: zs, ts => by simp only [zaz, zc7 zs]; rfl
theorem zfr {E : Env} {s : St} {o : Oper} {q : List D × List (List D) × List (Option Row)} {r : Nat × List D × List (List D) × List (Option Row)} (h : zda E s o = some r) (hc : E.call r.1 r.2.1 r.2.2.1 r.2.2.2 = some q) : step E s o = step (E.with q) s o := by
 unfold zda at h
 split at h
 · rename_i ca ho
   split at h
   · rename_i z hz
     split at h
     · rename_i f cap hf
       split at h
       · cases h
       · rename_i hdead
         simp only [Option.map_eq_some_iff] at h
         obtain ⟨⟨a, u, l⟩, hdo, rfl⟩ := h
         simp only at hc
         have hev : ∀ E', E'.mode = E.mode → zaz E' s.look ca.args.toList ca.argTypes.toList = zaz E s.look ca.args.toList ca.argTypes.toList → evOp E' s.look s.get s.box o.type o.op = none := by
          intro E' hm ha
          rw [ho]
          simp only [evOp, hz, hf]
          cases cap with
          | cons r rs => rfl
          | nil =>
            simp only [List.isEmpty_nil, Bool.true_and] at hdead
            simp only [zde, hm, ha]
            cases hz : zbj (E.mode f) with
            | false => rfl
            | true =>
              rw [hz, Bool.true_and] at hdead
              cases hv : zeE s.get (zaz E s.look ca.args.toList ca.argTypes.toList) with
              | none => rfl
              | some r => rw [hv] at hdead; cases hdead
         unfold step
         rw [hev E rfl rfl, hev (E.with q) rfl (zc7 _ _)]
         simp only [ho, doOp, hz, hf, zc7]
         unfold zkt at hdo
         unfold zfQ
         simp only [Option.bind_eq_some_iff] at hdo
         obtain ⟨a1, h1, ls, h2, hdo⟩ := hdo
         have h1' : zaq ((E.with q).mode f) (zaz E s.look ca.args.toList ca.argTypes.toList) s = some a1 := h1
         have h2' : zaE a1.2.get ((E.with q).mode f) a1.1 = some ls := h2
         simp only [h1, h1', h2, h2', Option.bind_some]
         split at hdo
         · cases hdo
         · rename_i hdis
           simp only [hdis]
           split at hdo
           · rename_i hcl
             simp only [hcl]
             simp only [Option.map_eq_some_iff, Prod.mk.injEq] at hdo
             obtain ⟨v, hv, rfl, rfl, rfl⟩ := hdo
             have hv' : zau (hide ls false a1.2.get) 0 [] ((E.with q).mode f) 0 a1.1 = some v := hv
             simp only [hv, hv', Option.bind_some, hc]
             rfl
           · rename_i hcl
             simp only [hcl]
             split at hdo
             · cases hdo
             · rename_i hnc
               simp only [hnc]
               simp only [Option.bind_eq_some_iff, Option.map_eq_some_iff, Prod.mk.injEq] at hdo
               obtain ⟨v, hv, caps, hcaps, bs, hbs, us, hus, rfl, rfl, rfl⟩ := hdo
               have hv' : zau (hide ls true a1.2.get) (a1.2.upsSent (a1.2.sent (E.with q).nt cap a1.1) cap a1.1) (a1.2.sent (E.with q).nt cap a1.1) ((E.with q).mode f) 0 a1.1 = some v := hv
               have e2 : (E.with q).nt = E.nt := rfl
               simp only [e2] at hv' ⊢
               simp only [hv, hv', Option.bind_some, hcaps, hbs, hus, hc]
               rfl
     · cases h
   · cases h
 · cases h
def zmc (E : Env) (s : St) (hd : Option Dat) : Op → Option (Prop × D)
 | .indexAddr t x i => (E.ty t).bind fun k => match k.kind with
   | .slice e => (E.ty e).bind fun j => (intOf (s.look i)).bind fun n => match s.look x, hd with
     | .dat (.lst b es), some d => (match Nat.beq d.cells.length j.sz with | true => some ((0 ≤ n ∧ n < es.length) ∧ es[n.toNat]? = some d, .ep b d.cells) | false => none)
     | .bor p m, none => (s.get p).bind fun r => match Nat.beq r.1 e with | true => some (0 ≤ n ∧ n < (zaX m r.2).length, .bp p n.toNat 0) | false => none
     | _, _ => none
   | _ => none
 | .load t x => (E.ty t).bind fun i => match s.look x, hd with
   | .bp p j o, some d => (s.get p).bind fun r => (zcU i (d.cells.drop o)).map fun x => (r.2[j]? = some d, .dat x)
   | _, _ => none
 | .slice t x lo hi mx => match mx with
   | none => (zcB E.ty t).bind fun st => (zcu s.look lo).bind fun l => (zcu s.look hi).bind fun h => match st, s.look x with
     | none, .dat (.val (.string b)) => some (0 ≤ l.getD 0 ∧ l.getD 0 ≤ h.getD b.size ∧ h.getD b.size ≤ b.size, .dat (.val (.string (b.extract (l.getD 0).toNat (h.getD b.size).toNat))))
     | some n, .dat (.lst b es) => some ((0 ≤ l.getD 0 ∧ l.getD 0 ≤ h.getD es.length ∧ h.getD es.length ≤ es.length) ∧ wid n es = true, .dat (.lst b ((es.take (h.getD es.length).toNat).drop (l.getD 0).toNat)))
     | some n, .bor p m => (match l, h with
       | none, some h => (s.get p).bind fun r => some (0 ≤ h ∧ h ≤ (zaX m r.2).length, .bor p (some h.toNat))
       | some l, none => (match m with | none => (s.get p).bind fun r => (E.ty r.1).bind fun i => (match Nat.beq i.sz n with | true => some (0 ≤ l ∧ l ≤ r.2.length, .sb p l.toNat n) | false => none) | some _ => none)
       | _, _ => none)
     | _, _ => none
   | some _ => none
 | .index t x i => (E.ty t).bind fun k => (intOf (s.look i)).bind fun n => match s.look x, k.kind with
   | .dat (.val (.string s)), .str => some (0 ≤ n ∧ n < s.size, .dat (.val (.int .u8 ((s[n.toNat]?).getD 0).toNat)))
   | _, _ => none
 | .binOp op t x y _ => match op, s.look x, s.look y, hd with
   | .rem, .dat (.val (.int k a)), .dat (.val (.int k' b)), none => match decide (k = k') with
     | true => some (b ≠ 0, .dat (.val (.int k (a.tmod b))))
     | false => none
   | .quo, .dat (.val (.int k a)), .dat (.val (.int k' b)), none => match decide (k = k') with
     | true => some (b ≠ 0, .dat (.val (.int k (k.wrap (a.tdiv b)))))
     | false => none
   | .add, .dat (.val (.string a)), .dat (.val (.string b)), none => some (a.size + b.size ≤ 9223372036854775807, .dat (.val (.string (a ++ b))))
   | _, _, _, _ => none
 | .makeSlice t l c => (E.ty t).bind fun i => match i.kind with
   | .slice e => (E.ty e).bind fun j => j.zeroD.bind fun z => (intOf (s.look l)).bind fun n => (intOf (s.look c)).bind fun m =>
     match Nat.ble j.bytes 65536 with
     | true => some (0 ≤ n ∧ n ≤ m ∧ m ≤ 2147483648, .own e (List.replicate n.toNat z))
     | false => none
   | _ => none
 | .lookup t m k ok => (E.ty t).bind fun i => match i.kind with
   | .map kt et => (E.ty kt).bind fun kj => (E.ty et).bind fun ej => match zjP kj.kind, s.look m, s.look k, hd, ok with
     | true, .etc (.map r), .dat (.val kv), some (.val b), false => (s.box r).bind fun cs => match isM cs with
       | true => some (zdK kj.kind kv cs.tail = some (some b), .dat (.val b))
       | false => none
     | _, _, _, _, _ => none
   | _ => none
 | _ => none
theorem zfD {E : Env} {s : St} {hd : Option Dat} {op : Op} {ty : Nat} {p : Prop} {d : D} (h : zmc E s hd op = some (p, d)) (hp : p) : evOp E s.look s.get s.box ty op = some (.pure d) := by
 unfold zmc at h
 split at h
 · rename_i t x i
   simp only [Option.bind_eq_some_iff] at h
   obtain ⟨k, hk, h⟩ := h
   simp only [evOp, hk, Option.bind_some]
   split at h
   · rename_i e hke
     simp only [Option.bind_eq_some_iff] at h
     obtain ⟨j, hj, n, hn, h⟩ := h
     simp only [hke, hj, Option.bind_some, hn]
     split at h
     · rename_i b es dd hx
       split at h
       · rename_i hb
         cases h
         obtain ⟨h1, h2⟩ := hp
         simp only [hx, zbT, h1, h2, and_self, if_true, Option.bind_some, hb, Option.map_some]
       · cases h
     · rename_i pl m hx
       simp only [Option.bind_eq_some_iff] at h
       obtain ⟨r, hr, h⟩ := h
       split at h
       · rename_i hb
         cases h
         simp only [hx, zbT, hr, Option.bind_some, hb, hp, and_self, if_true, Option.map_some]
       · cases h
     · cases h
   · cases h
 · rename_i t x
   simp only [Option.bind_eq_some_iff] at h
   obtain ⟨i, hi, h⟩ := h
   simp only [evOp, hi, Option.bind_some]
   split at h
   · rename_i pl j o dd hx
     simp only [Option.bind_eq_some_iff, Option.map_eq_some_iff, Prod.mk.injEq] at h
     obtain ⟨r, hr, y, hy, rfl, rfl⟩ := h
     simp only [hx, zcX, hr, Option.bind_some, hp, hy, Option.map_some]
   · cases h
 · rename_i t x lo hi mx
   split at h
   · simp only [Option.bind_eq_some_iff] at h
     obtain ⟨st, hst, l, hl, hh, hhi, h⟩ := h
     simp only [evOp, hst, hl, hhi, Option.bind_some]
     split at h
     · rename_i b hx
       cases h
       simp only [hx, zhj, zb8, hp, and_self, if_true, Option.map_some]
     · rename_i n b es hx
       cases h
       obtain ⟨h1, h2⟩ := hp
       simp only [hx, zhj, zb8, h1, h2, and_self, if_true, Option.map_some]
     · rename_i n pl m hx
       split at h
       · rename_i hhv
         simp only [Option.bind_eq_some_iff] at h
         obtain ⟨r, hr, h⟩ := h
         cases h
         simp only [hx, zhj, hr, Option.bind_some, hp, and_self, if_true, Option.map_some]
       · cases m with
         | none =>
           simp only [Option.bind_eq_some_iff] at h
           obtain ⟨r, hr, ii, hii, h⟩ := h
           split at h
           · rename_i hb
             cases h
             simp only [hx, zhj, hr, Option.bind_some, hii, hb, hp, and_self, if_true, Option.map_some]
           · cases h
         | some m => cases h
       · cases h
     · cases h
   · cases h
 · rename_i t x i
   simp only [Option.bind_eq_some_iff] at h
   obtain ⟨k, hk, n, hn, h⟩ := h
   simp only [evOp, hk, hn, Option.bind_some]
   split at h
   · rename_i b hx hkk
     cases h
     simp only [hx, hkk]
     rw [dif_pos hp]
     have : b[n.toNat]? = some (b[n.toNat]'(by omega)) := getElem?_pos b n.toNat (by omega)
     rw [this]
     rfl
   · cases h
 · rename_i op t x y ky
   split at h
   · rename_i k a k' b hx hy
     split at h
     · rename_i hk
       cases h
       simp [evOp, hx, hy, zgb, binD, binV, zhy, hk, hp]
     · cases h
   · rename_i k a k' b hx hy
     split at h
     · rename_i hk
       cases h
       simp [evOp, hx, hy, zgb, binD, binV, zhy, hk, hp]
     · cases h
   · rename_i a b hx hy
     cases h
     simp only [evOp, hx, hy, zgb, binD, binV, zhy]
     rw [if_pos hp]
     rfl
   · cases h
 · rename_i t l c
   simp only [Option.bind_eq_some_iff] at h
   obtain ⟨i, hi, h⟩ := h
   simp only [evOp, hi, Option.bind_some]
   split at h
   · rename_i e hk
     simp only [Option.bind_eq_some_iff] at h
     obtain ⟨j, hj, z, hz, n, hn, m, hm, h⟩ := h
     split at h
     · rename_i hb
       cases h
       simp only [hk, hj, hz, hn, hm, Option.bind_some, hp, and_self, if_true, hb]
     · cases h
   · cases h
 · rename_i t m k ok
   simp only [Option.bind_eq_some_iff] at h
   obtain ⟨i, hi, h⟩ := h
   split at h
   · rename_i kt et hk
     simp only [Option.bind_eq_some_iff] at h
     obtain ⟨kj, hkj, ej, hej, h⟩ := h
     split at h
     · rename_i r kv b hkt hm hkk
       simp only [Option.bind_eq_some_iff] at h
       obtain ⟨cs, hcs, h⟩ := h
       split at h
       · rename_i hM
         cases h
         simp only [evOp, hi, Option.bind_some, hk, hkj, hej, hkt, hm, hkk, hcs, hM, hp, zjp, Option.map_some]
       · cases h
     · cases h
   · cases h
 · cases h
def zkx (E : Env) (s : St) (x : Option Nat) : Op → Option (Prop × St)
 | .call c => match c.callee with
   | .builtin .append => match c.args.toList, c.argTypes.toList with
     | [a, b], [t, u] => (E.ty t).bind fun i => match i.kind with
       | .slice e => match Nat.beq t u with
         | true => (zfj s.get (s.look b)).bind fun es2 => (zbl s e a).bind fun r => (E.ty e).bind fun i =>
           match Nat.beq r.1.1 e && Nat.ble i.bytes 65536 && Nat.blt 0 i.sz with
           | true => some (es2.all (fun d => Nat.beq d.cells.length i.sz) = true ∧ r.1.2.length + es2.length ≤ 2147483648, r.2.putO x (.own e (r.1.2 ++ es2)))
           | false => none
         | false => (E.ty e).bind fun j => (E.ty u).bind fun k => match zhJ j, k.kind, s.look b with
           | true, .str, .dat (.val (.string w)) => (zbl s e a).bind fun r => match Nat.beq r.1.1 e && Nat.ble j.bytes 65536 && Nat.blt 0 j.sz with
             | true => some ((zaZ w).all (fun d => Nat.beq d.cells.length j.sz) = true ∧ r.1.2.length + (zaZ w).length ≤ 2147483648, r.2.putO x (.own e (r.1.2 ++ zaZ w)))
             | false => none
           | _, .int _, .dat (.val (.int .i64 n)) => (zbl s e a).bind fun r => j.zeroD.bind fun z => match Nat.beq r.1.1 e && Nat.ble j.bytes 65536 && Nat.blt 0 j.sz && decide (0 ≤ n) with
             | true => some (r.1.2.length + n.toNat ≤ 2147483648, r.2.putO x (.own e (r.1.2 ++ List.replicate n.toNat z)))
             | false => none
           | _, _, _ => none
       | _ => none
     | _, _ => none
   | _ => none
 | .convert t u y => (E.ty t).bind fun i => match i.kind with
   | .slice e => (E.ty e).bind fun j => (E.ty u).bind fun k => match j.kind, k.kind with
     | .int .u8, .str => (zfj s.get (s.look y)).bind fun es => x.map fun n => (zml es ≠ none, s.put n (.dat (.val ((zml es).getD (.string ByteArray.empty)))))
     | _, _ => none
   | _ => none
 | _ => none
theorem zhd {E : Env} {s : St} {o : Oper} {p : Prop} {s' : St} (h : zkx E s o.dst o.op = some (p, s')) (hp : p) : step E s o = some s' := by
 unfold zkx at h
 split at h
 · rename_i c ho
   split at h
   · rename_i hc
     split at h
     · rename_i a b t u ha hat
       simp only [Option.bind_eq_some_iff] at h
       obtain ⟨i, hi, h⟩ := h
       split at h
       · rename_i e hk
         split at h
         · rename_i htu
           simp only [Option.bind_eq_some_iff] at h
           obtain ⟨es2, hes, r, hr, i2, hi2, h⟩ := h
           split at h
           · rename_i hcond
             cases h
             have hev : evOp E s.look s.get s.box o.type o.op = none := by rw [ho]; simp only [evOp, hc]
             unfold step
             rw [hev]
             have hes' : zhh s.get false (s.look b) = some es2 := by
              unfold zhh
              split
              · rename_i he
                rw [he] at hes
                cases hes
              · exact hes
             simp only [ho, doOp, hc, ha, hat, hi, Option.bind_some, hk, htu, zcp, hes', hr, hi2, hcond, hp.1, Bool.and_self, hp.2, if_true]
           · cases h
         · rename_i htu
           simp only [Option.bind_eq_some_iff] at h
           obtain ⟨j, hj, k, hkj, h⟩ := h
           split at h
           · rename_i w hib huk hw
             simp only [Option.bind_eq_some_iff] at h
             obtain ⟨r, hr, h⟩ := h
             split at h
             · rename_i hcond
               cases h
               have hev : evOp E s.look s.get s.box o.type o.op = none := by rw [ho]; simp only [evOp, hc]
               unfold step
               rw [hev]
               have hes' : zhh s.get true (s.look b) = some (zaZ w) := by rw [hw]; rfl
               simp only [ho, doOp, hc, ha, hat, hi, Option.bind_some, hk, htu, hj, hkj, hib, huk, zcp, hes', hr, hcond, hp.1, Bool.and_self, hp.2, if_true]
             · cases h
           · rename_i nn huk hw
             simp only [Option.bind_eq_some_iff] at h
             obtain ⟨r, hr, z, hz, h⟩ := h
             split at h
             · rename_i hcond
               cases h
               have hev : evOp E s.look s.get s.box o.type o.op = none := by rw [ho]; simp only [evOp, hc]
               unfold step
               rw [hev]
               have hes' : intOf (s.look b) = some nn := by rw [hw]; exact rfl
               simp only [ho, doOp, hc, ha, hat, hi, Option.bind_some, hk, htu, hj, hkj, huk]
               simp only [zfB, hes', hr, hz, hj, Option.bind_some, hcond, hp, if_true]
             · cases h
           · cases h
       · cases h
     · cases h
   · cases h
 · rename_i t u y ho
   simp only [Option.bind_eq_some_iff] at h
   obtain ⟨i, hi, h⟩ := h
   split at h
   · rename_i e hk
     simp only [Option.bind_eq_some_iff] at h
     obtain ⟨j, hj, k, hkk, h⟩ := h
     split at h
     · rename_i hjk hku
       simp only [Option.bind_eq_some_iff, Option.map_eq_some_iff, Prod.mk.injEq] at h
       obtain ⟨es, hes, n, hn, rfl, rfl⟩ := h
       obtain ⟨v, hv⟩ := Option.ne_none_iff_exists'.1 hp
       have hconv : zmj (some i) (some k) (s.look y) = none := by
        cases hy : s.look y with
        | dat d => cases d with
          | val w => rw [hy] at hes; cases hes
          | agg cs => rfl
          | lst b l => rfl
        | _ => rfl
       have hev : evOp E s.look s.get s.box o.type o.op = none := by rw [ho]; simp only [evOp, hi, hkk, Option.bind_some, hconv, Option.map_none]
       unfold step
       rw [hev]
       simp only [ho, doOp, zcJ, hi, hj, hkk, Option.bind_some, hk, hjk, hku, hes, hv, hn, Option.map_some, Option.getD_some]
     · cases h
   · cases h
 · cases h
def zng (E : Env) (s : St) (hd : Dat) : Op → Option (Prop × St)
 | .store t a y => match ze4 y with
   | true => none
   | false => (E.ty t).bind fun i => match s.look a with
     | .bp p j o => (s.datD (s.look y)).bind fun q => match Nat.beq q.1.cells.length i.sz with
       | false => none
       | true => (q.2.get p).bind fun r => (ze0 hd o q.1.cells).map fun d' => (r.2[j]? = some hd, q.2.setPl p (.own r.1 (r.2.set j d')))
     | _ => none
 | _ => none
theorem ziz {E : Env} {s : St} {hd : Dat} {o : Oper} {p : Prop} {s' : St} (h : zng E s hd o.op = some (p, s')) (hp : p) : step E s o = some s' := by
 unfold zng at h
 split at h
 · rename_i t a y ho
   split at h
   · cases h
   · rename_i hn
     simp only [Option.bind_eq_some_iff] at h
     obtain ⟨i, hi, h⟩ := h
     split at h
     · rename_i pl j off ha
       simp only [Option.bind_eq_some_iff] at h
       obtain ⟨q, hq, h⟩ := h
       split at h
       · cases h
       · rename_i hb
         simp only [Option.bind_eq_some_iff, Option.map_eq_some_iff, Prod.mk.injEq] at h
         obtain ⟨r, hr, d', hd', rfl, rfl⟩ := h
         have hev : evOp E s.look s.get s.box o.type o.op = none := by rw [ho]; simp only [evOp]
         unfold step
         rw [hev]
         simp only [ho, doOp, hn, zco, hi, Option.bind_some, ha, hq, hb, hr, hp, hd', Option.map_some]
     · cases h
 · cases h
def znW {α : Type} (b : Bool) (p : Prop) (r : Option (List Prop × α)) : Option (List Prop × α) := match b with | true => hadd p r | false => r
def zkO (E : Env) (s : St) (x : Option Nat) (f : Nat) (cap : List Ref) (args : List D) (q : List D × List (List D) × List (Option Row)) : Option (Prop × St) :=
 (zaq (E.mode f) args s).bind fun a =>
 (zaE a.2.get (E.mode f) a.1).bind fun ls =>
 match zaP ls with
 | false => none
 | true => match cap.isEmpty && a.1.all zgU with
   | true => (zau (hide ls false a.2.get) 0 [] (E.mode f) 0 a.1).bind fun v =>
     (zbw a.2 ls q.2.2).map fun s => (((v.2 && !(D.cleans q.1 && za0 q.2.2)) || !D.plains q.1) = false, s.putO x (retD q.1))
   | false => match ls.all fun p => !p.1.ofCell with
     | false => none
     | true =>
       let keys := a.2.sent E.nt cap a.1; let m := a.2.upsSent keys cap a.1
       (zau (hide ls true a.2.get) m keys (E.mode f) 0 a.1).bind fun v =>
       (zbw (a.2.regain m keys q.2.1) ls q.2.2).map fun s => (((v.2 && !(D.cleans q.1 && (za0 q.2.2 && zbf q.2.1))) || !D.plains q.1) = false, s.putO x (retD q.1))
def zmN (E : Env) (s : St) (o : Oper) (q : List D × List (List D) × List (Option Row)) : Option (Prop × St) :=
 match o.op with
 | .call ca => match ca.callee with
   | .value z => match s.look z with
     | .fn f cap => zkO E s o.dst f cap (zaz E s.look ca.args.toList ca.argTypes.toList) q
     | _ => none
   | _ => none
 | _ => none
theorem zh9 {E : Env} {s : St} {o : Oper} {q : List D × List (List D) × List (Option Row)} {r : Nat × List D × List (List D) × List (Option Row)} {p : Prop} {s' : St} (h : zda E s o = some r) (hc : E.call r.1 r.2.1 r.2.2.1 r.2.2.2 = some q) (hh : zmN E s o q = some (p, s')) (hp : p) : step E s o = some s' := by
 unfold zda at h
 unfold zmN at hh
 split at h
 · rename_i ca ho
   simp only [ho] at hh
   split at h
   · rename_i z hz
     simp only [hz] at hh
     split at h
     · rename_i f cap hf
       simp only [hf] at hh
       split at h
       · cases h
       · rename_i hdead
         simp only [Option.map_eq_some_iff] at h
         obtain ⟨⟨a, u, l⟩, hdo, rfl⟩ := h
         simp only at hc
         have hev : evOp E s.look s.get s.box o.type o.op = none := by
          rw [ho]
          simp only [evOp, hz, hf]
          cases cap with
          | cons r rs => rfl
          | nil =>
            simp only [List.isEmpty_nil, Bool.true_and] at hdead
            simp only [zde]
            cases hz : zbj (E.mode f) with
            | false => rfl
            | true =>
              rw [hz, Bool.true_and] at hdead
              cases hv : zeE s.get (zaz E s.look ca.args.toList ca.argTypes.toList) with
              | none => rfl
              | some r => rw [hv] at hdead; cases hdead
         unfold step
         rw [hev]
         simp only [ho, doOp, hz, hf]
         unfold zkt at hdo
         unfold zfQ
         unfold zkO at hh
         simp only [Option.bind_eq_some_iff] at hdo
         obtain ⟨a1, h1, ls, h2, hdo⟩ := hdo
         simp only [h1, h2, Option.bind_some] at hh ⊢
         split at hdo
         · cases hdo
         · rename_i hdis
           simp only [hdis] at hh ⊢
           split at hdo
           · rename_i hcl
             simp only [hcl] at hh ⊢
             simp only [Option.map_eq_some_iff, Prod.mk.injEq] at hdo
             obtain ⟨v, hv, rfl, rfl, rfl⟩ := hdo
             simp only [hv, Option.bind_some, Option.map_eq_some_iff, Prod.mk.injEq] at hh ⊢
             obtain ⟨s3, hg, rfl, rfl⟩ := hh
             simp only [hc, Option.bind_some, hp, hg, Option.map_some]
           · rename_i hcl
             simp only [hcl] at hh ⊢
             split at hdo
             · cases hdo
             · rename_i hnc
               simp only [hnc] at hh ⊢
               simp only [Option.bind_eq_some_iff, Option.map_eq_some_iff, Prod.mk.injEq] at hdo
               obtain ⟨v, hv, caps, hcaps, bs, hbs, us, hus, rfl, rfl, rfl⟩ := hdo
               simp only [hv, Option.bind_some, Option.map_eq_some_iff, Prod.mk.injEq] at hh ⊢
               obtain ⟨s3, hg, rfl, rfl⟩ := hh
               simp only [hcaps, hbs, hus, Option.bind_some, hc, hp, hg, Option.map_some]
     · cases h
   · cases h
 · cases h
def hop {α : Type} (E : Env) (hs : zcT) (run : Env → St → Oper → Option St) (view : St → St) (pu ap : Oper → Bool) (s : St) (o : Oper) (k : St → Option (List Prop × α)) : Option (List Prop × α) :=
 match (keyOf o).bind (zi0 hs) with
 | some (.put d) => hadd (run E s o = some (s.putO o.dst d)) (k (s.putO o.dst d))
 | some (.to f) => hadd (run E s o = some (f s)) (k (f s))
 | some (.at d) => match zmc E s (some d) o.op with
   | some (p, d) => (match o.dst, pu o with | some n, true => hadd p (k (s.put n d)) | _, _ => none)
   | none => (match zng E s d o.op, ap o with | some (p, s'), true => hadd p (k s') | _, _ => none)
 | some .ok => match zmc E s none o.op with
   | some (p, d) => (match o.dst, pu o with | some n, true => hadd p (k (s.put n d)) | _, _ => none)
   | none => (match zkx E s o.dst o.op, ap o with | some (p, s'), true => hadd p (k s') | _, _ => none)
 | some (.ret rs) => match D.plains rs, zdz E (view s) o with
   | true, some (f, args, fl) => znW fl (D.cleans rs = true) (hadd (E.call f args [] [] = some (rs, [], [])) (match pu o, o.dst with | true, some n => k (s.put n (retD rs)) | _, _ => (run (E.with (rs, [], [])) s o).bind k))
   | _, _ => none
 | some (.back rs u l) => match zda E (view s) o with
   | some (f, args, us, ls) => hadd (E.call f args us ls = some (rs, u, l)) (match ap o with
     | true => (match zmN E s o (rs, u, l) with | some (p, s') => hadd p (k s') | none => none)
     | false => (run (E.with (rs, u, l)) s o).bind k)
   | none => match zdz E (view s) o, D.plains rs, u, ap o with
     | some (f, args, false), false, [cs], true => hadd (E.call f args [] [] = some (rs, [cs], l)) ((s.apply o.dst (.made cs)).bind k)
     | _, _, _, _ => none
 | _ => (run E s o).bind k
def hops (E : Env) (hs : zcT) (ops : Array Oper) : List Oper → St → Option (List Prop × St)
 | [], s => some ([], s)
 | o :: l, s => zjh hs ops s o.guard (fun s => hop E hs step (fun s => s) (fun _ => true) (fun _ => true) s o (hops E hs ops l)) (fun s => hops E hs ops l (s.putO o.dst .undef))
def zdY (M : Option (List Nat)) (k : Nat) (s : St) : St :=
 match k with
 | 0 => s
 | 1 => s
 | 2 => s
 | 3 => s
 | _ => match M with | none => s | some M => s.hid M
def zkb : Op → Bool
 | .load _ _ => true
 | _ => false
def zip (M : Option (List Nat)) (k : Nat) (o : Oper) : Bool :=
 match k with
 | 0 => zf7 o.op
 | 1 => zkb o.op && M.isNone
 | 2 => true
 | 3 => false
 | _ => M.isNone
def zdy (E : Env) (hs : zcT) (ops : Array Oper) (M : Option (List Nat)) : Bool → List PRow → St → Option (List Prop × St)
 | _, [], s => some ([], s)
 | first, (i, k, ds) :: l, s => match zd9 s ds with
   | false => none
   | true => match ops[i]? with
     | none => none
     | some o => zjh hs ops s o.guard (fun s => match k with
       | 5 => (match zkZ M s o with | true => hop E hs step (fun s => s) (fun _ => true) (fun _ => true) s o (zdy E hs ops M (first && zbE k) l) | false => none)
       | 6 => hop E hs (fun E => zaQ E none first 4) (zdY none 4) (zip none 4) (fun _ => false) s o (zdy E hs ops M (first && zbE k) l)
       | 7 => hop E hs (fun E => zaQ E none first 4) (zdY none 4) (zip none 4) (fun _ => false) s o (zdy E hs ops M (first && zbE k) l)
       | 8 => hop E hs (fun E => zaQ E none first 4) (zdY none 4) (zip none 4) (fun _ => false) s o (zdy E hs ops M (first && zbE k) l)
       | 9 => (match zks o.op with | true => hop E hs step (fun s => s) (fun _ => true) (fun _ => true) s o (zdy E hs ops M (first && zbE k) l) | false => none)
       | 10 => (match zbW s o with | true => hop E hs step (fun s => s) (fun _ => true) (fun _ => true) s o (zdy E hs ops M (first && zbE k) l) | false => none)
       | 11 => (match zbO s o with | true => hop E hs step (fun s => s) (fun _ => true) (fun _ => true) s o (zdy E hs ops M (first && zbE k) l) | false => none)
       | 12 => (match M with | none => (match zeP E s o with | true => hop E hs step (fun s => s) (fun _ => true) (fun _ => true) s o (zdy E hs ops none (first && zbE k) l) | false => none) | some _ => none)
       | 13 => (match zc4 E s o with | true => hop E hs step (fun s => s) (fun _ => true) (fun _ => true) s o (zdy E hs ops M (first && zbE k) l) | false => none)
       | k => hop E hs (fun E => zaQ E M first k) (zdY M k) (zip M k) (fun _ => Nat.beq k 2) s o (zdy E hs ops M (first && zbE k) l)) (fun s => zdy E hs ops M (first && zbE k) l (s.putO o.dst .undef))
def znt (E : Env) (hs : zcT) (ops : Array Oper) (p : Plan) (s : St) : Option (List Prop × St) :=
 match p.2 with
 | [] => some ([], s)
 | (i, k, ds) :: l => match zf1 s ds with
   | true => zdy E hs ops p.1 true ((i, k, ds) :: l) (s.junks ds)
   | false => none
def zij (E : Env) (hs : zcT) (id : Nat) (ops : Array Oper) (draw : Bool) (s : St) : Option (List Prop × St) :=
 match draw with
 | false => hops E hs ops ops.toList s
 | true => match E.plan id with
   | some p => znt E hs ops p s
   | none => none
def zlJ (r : Option (List Prop × X × St)) (k : X → St → Option (List Prop × X × St)) : Option (List Prop × X × St) :=
 match r with
 | some (ps, x, s) => match k x s with
   | some q => some (ps ++ q.1, q.2)
   | none => none
 | none => none
def zlA : List Nat → List D → Nat → D
 | a :: L, d :: ds, x => match Nat.beq a x with | true => d | false => zlA L ds x
 | _, _, _ => .junk
def zlN : List Nat → List (Option (List D)) → Nat → Option (List D)
 | a :: L, d :: ds, x => match Nat.beq a x with | true => d | false => zlN L ds x
 | _, _, _ => none
def Nm (L : List Nat) (ds : List D) (bs : List (Option (List D))) (u : List (List D)) (l : List (Option Row)) : St := ⟨zlA L ds, zlN L bs, u, l⟩
def nmOf (L : List Nat) (s : St) : St := Nm L (L.map fun x => (s.t x).kill (Kill.but L)) (L.map fun x => (s.b x).map (D.kills (Kill.but L))) (s.u.map (D.kills (Kill.but L))) s.l
def zkc (E : Env) (n : Nat) (c : Code) (s0 : St) (x : X) (s' : St) : Prop := ∀ s : St, s.norm (E.live (zaa c)) = s0 → exec E n (.loop c) s = some (x, s')
def zcw (E : Env) (n : Nat) (hs : zcT) : Code → St → Option (List Prop × X × St)
 | .skip, s => some ([], .normal, s)
 | .region id ops draw, s => match zij E hs id ops draw s with | some r => some (r.1, .normal, r.2) | none => none
 | .seq a b, s => zlJ (zcw E n hs a s) fun x s' => match x with
   | .normal => zcw E n hs b s'
   | x => some ([], x, s')
 | .cond c a b, s => hcond hs s c (zcw E n hs a) (zcw E n hs b)
 | .block id c, s => zlJ (zcw E n hs c s) fun x s' => match x with
   | .exit i => (match Nat.beq i id with | true => some ([], .normal, s') | false => some ([], .exit i, s'))
   | x => some ([], x, s')
 | .loop c, s => match zi0 hs (300000 + zaa c) with
   | some (.loop s0 x s') => some ([nmOf (E.live (zaa c)) s = s0, zkc E n c s0 x s'], x, s')
   | _ => none
 | .exit id, s => some ([], .exit id, s)
 | .ret, s => some ([], .ret, s)
 | _, _ => none
theorem nbeq_eq {a b : Nat} : Nat.beq a b = true ↔ a = b := ⟨Nat.eq_of_beq_eq_true, fun h => by rw [h]; exact Nat.beq_refl b⟩
theorem nbeq_ne {a b : Nat} : Nat.beq a b = false ↔ a ≠ b := ⟨Nat.ne_of_beq_eq_false, fun h => by
 cases hb : Nat.beq a b with
 | false => rfl
 | true => exact (h (Nat.eq_of_beq_eq_true hb)).elim⟩
theorem zcY {a x : Nat} {l : List Nat} : memN x (a :: l) = (Nat.beq x a || memN x l) := by
 show (match Nat.beq x a with | true => true | false => memN x l) = _
 cases Nat.beq x a <;> rfl
theorem zhS {f : Nat → D} {x : Nat} : ∀ {L : List Nat}, zlA L (L.map f) x = match memN x L with | true => f x | false => .junk
 | [] => rfl
 | a :: L => by
   simp only [List.map_cons, zlA]
   cases h : Nat.beq a x with
   | true => rw [nbeq_eq.1 h, zcY]; simp
   | false =>
     have h2 : Nat.beq x a = false := nbeq_ne.2 (fun e => nbeq_ne.1 h e.symm)
     simp only [zhS (L := L), zcY, h2, Bool.false_or]
theorem zho {f : Nat → Option (List D)} {x : Nat} : ∀ {L : List Nat}, zlN L (L.map f) x = match memN x L with | true => f x | false => none
 | [] => rfl
 | a :: L => by
   simp only [List.map_cons, zlN]
   cases h : Nat.beq a x with
   | true => rw [nbeq_eq.1 h, zcY]; simp
   | false =>
     have h2 : Nat.beq x a = false := nbeq_ne.2 (fun e => nbeq_ne.1 h e.symm)
     simp only [zho (L := L), zcY, h2, Bool.false_or]
theorem zh6 (L : List Nat) (s : St) : s.norm L = nmOf L s := by
 simp only [St.norm, nmOf, Nm, St.mk.injEq, and_true]
 refine ⟨funext fun x => ?_, funext fun x => ?_⟩
 · rw [zhS]; cases memN x L <;> rfl
 · rw [zho]; cases memN x L <;> rfl
theorem zaR {α : Type} {p : Prop} {r : Option (List Prop × α)} {q : List Prop × α} (h : hadd p r = some q) : ∃ ps, r = some (ps, q.2) ∧ q.1 = p :: ps := by
 unfold hadd at h
 split at h
 · rename_i r'
   cases h
   exact ⟨r'.1, rfl, rfl⟩
 · cases h
section
variable {E : Env} {hs : zcT} {ops : Array Oper}
theorem zdo {α β : Type} {s : St} {x : Nat} {yes no : St → Option (List Prop × α)} {und : Option (List Prop × α)} {q : List Prop × α} {yes' no' : St → Option β} {und' : Option β} {b : β}
 (h : zkE hs s x yes no und = some q) (hq : Obs q.1) (hy : ∀ s ps, yes s = some (ps, q.2) → Obs ps → yes' s = some b) (hn : ∀ s ps, no s = some (ps, q.2) → Obs ps → no' s = some b) (hu : ∀ ps, und = some (ps, q.2) → Obs ps → und' = some b) :
 (match s.t x with
  | .dat (.val (.bool v)) => match v with | true => yes' (s.force x true) | false => no' (s.force x false)
  | .undef => und'
  | _ => none) = some b := by
 unfold zkE at h
 cases hx : s.t x with
 | undef => rw [hx] at h; exact hu q.1 h hq
 | dat d =>
   rw [hx] at h
   cases d with
   | val v =>
     cases v with
     | bool v =>
       simp only at h ⊢
       split at h
       · obtain ⟨ps, h1, h2⟩ := zaR h
         rw [h2] at hq
         have hv : v = true := hq.1
         rw [hv]
         exact hy _ ps h1 hq.2
       · obtain ⟨ps, h1, h2⟩ := zaR h
         rw [h2] at hq
         have hv : v = false := hq.1
         rw [hv]
         exact hn _ ps h1 hq.2
       · cases v with
         | true => exact hy _ q.1 h hq
         | false => exact hn _ q.1 h hq
     | _ => cases h
   | _ => cases h
 | _ => rw [hx] at h; cases h
theorem zif {α β : Type} {s : St} {c : Operand} {yes no : St → Option (List Prop × α)} {q : List Prop × α} {yes' no' : St → Option β} {b : β}
 (h : hcond hs s c yes no = some q) (hq : Obs q.1) (hy : ∀ s ps, yes s = some (ps, q.2) → Obs ps → yes' s = some b) (hn : ∀ s ps, no s = some (ps, q.2) → Obs ps → no' s = some b) : zl4 s c yes' no' = some b := by
 unfold hcond at h
 unfold zl4
 split at h
 · rename_i x
   have := zdo (und' := (none : Option β)) h hq hy hn (fun ps h => by cases h)
   simp only
   revert this
   cases s.t x with
   | dat d =>
     cases d with
     | val v => cases v <;> exact id
     | _ => exact id
   | _ => intro h; first | exact h | cases h
 · rename_i v
   cases v with
   | true => exact hy _ q.1 h hq
   | false => exact hn _ q.1 h hq
 · cases h
theorem zeo {α β : Type} {s : St} {g : Option (Nat × Bool)} {k z : St → Option (List Prop × α)} {q : List Prop × α} {k' z' : St → Option β} {b : β}
 (h : zjh hs ops s g k z = some q) (hq : Obs q.1) (hk : ∀ s ps, k s = some (ps, q.2) → Obs ps → k' s = some b) (hz : ∀ s ps, z s = some (ps, q.2) → Obs ps → z' s = some b) : zbH ops s g k' z' = some b := by
 unfold zjh at h
 unfold zbH
 split at h
 · exact hk _ q.1 h hq
 · rename_i j want
   simp only
   split at h
   · cases h
   · rename_i x hx
     rw [hx]
     simp only
     split at h
     · have := zdo (und' := z' s) h hq hk hz (fun ps h h2 => hz _ ps h h2)
       revert this
       cases s.t x with
       | dat d =>
         cases d with
         | val v =>
           cases v with
           | bool v => cases v <;> exact id
           | _ => exact id
         | _ => exact id
       | _ => exact id
     · have := zdo (und' := z' s) h hq hz hk (fun ps h h2 => hz _ ps h h2)
       revert this
       cases s.t x with
       | dat d =>
         cases d with
         | val v =>
           cases v with
           | bool v => cases v <;> exact id
           | _ => exact id
         | _ => exact id
       | _ => exact id
structure RunOK (E : Env) (run : Env → St → Oper → Option St) (view : St → St) (pu ap : Oper → Bool) : Prop where
 pure : ∀ s o n d, evOp E s.look s.get s.box o.type o.op = some (.pure d) → o.dst = some n → pu o = true → run E s o = some (s.put n d)
 app : ∀ s o s', step E s o = some s' → ap o = true → run E s o = some s'
 vw : ∀ s o, pu o = true → view s = s
 vw2 : ∀ s o, ap o = true → view s = s
 ev : ∀ s o rs f args fl, zdz E (view s) o = some (f, args, fl) → D.plains rs = true → (fl = true → D.cleans rs = true) → E.call f args [] [] = some (rs, [], []) → run E s o = run (E.with (rs, [], [])) s o
 go : ∀ s o r q, zda E (view s) o = some r → E.call r.1 r.2.1 r.2.2.1 r.2.2.2 = some q → ∀ s', run (E.with q) s o = some s' → run E s o = some s'
theorem step_ok : RunOK E step (fun s => s) (fun _ => true) (fun _ => true) :=
 ⟨fun s o n d h hd _ => by
  unfold step
  rw [h, hd]
  rfl, fun s o s' h _ => h, fun _ _ _ => rfl, fun _ _ _ => rfl, fun s o rs f args fl h hpl hfl hc => by
  obtain ⟨h1, h2⟩ := zfq h hpl hfl hc
  unfold step
  rw [h1, h2], fun s o r q h hc s' hr => by rw [zfr h hc]; exact hr⟩
theorem zc2 {M : Option (List Nat)} {first : Bool} {k : Nat} : RunOK E (fun E => zaQ E M first k) (zdY M k) (zip M k) (fun _ => Nat.beq k 2) := by
 have hcall : ∀ (s : St) (o : Oper) r, zdz E s o = some r → ∃ ca z, o.op = .call ca ∧ ca.callee = .value z := fun s o r h => by
  unfold zdz at h
  split at h
  · rename_i ca ho
    split at h
    · rename_i z hz; exact ⟨ca, z, ho, hz⟩
    · cases h
  · cases h
 have hcall2 : ∀ (s : St) (o : Oper) r, zda E s o = some r → ∃ ca z, o.op = .call ca ∧ ca.callee = .value z := fun s o r h => by
  unfold zda at h
  split at h
  · rename_i ca ho
    split at h
    · rename_i z hz; exact ⟨ca, z, ho, hz⟩
    · cases h
  · cases h
 have hno : ∀ (s : St) (o : Oper) (q : List D × List (List D) × List (Option Row)), (∃ ca z, o.op = .call ca ∧ ca.callee = .value z) → (k = 0 ∨ k = 1 ∨ k = 3) → ∀ E, zaQ E M first k s o = none := by
  rintro s o q ⟨ca, z, ho, hz⟩ hk E
  rcases hk with rfl | rfl | rfl
  · simp only [zaQ, zeJ, ho, zf7, hz]
  · simp only [zaQ, zdS, ho]
  · simp only [zaQ, zeZ, ho]
 have hev : ∀ (s : St) (o : Oper) (r : Nat × List D × List (List D) × List (Option Row)), zda E s o = some r → ∀ E', E'.mode = E.mode → (∀ zs ts, zaz E' s.look zs ts = zaz E s.look zs ts) → evOp E' s.look s.get s.box o.type o.op = none := by
  intro s o r h E' hm ha
  unfold zda at h
  split at h
  · rename_i ca ho
    split at h
    · rename_i z hz
      split at h
      · rename_i f cap hf
        split at h
        · cases h
        · rename_i hdead
          rw [ho]
          simp only [evOp, hz, hf]
          cases cap with
          | cons r rs => rfl
          | nil =>
            simp only [List.isEmpty_nil, Bool.true_and] at hdead
            simp only [zde, hm, ha]
            cases hzz : zbj (E.mode f) with
            | false => rfl
            | true =>
              rw [hzz, Bool.true_and] at hdead
              cases hv : zeE s.get (zaz E s.look ca.args.toList ca.argTypes.toList) with
              | none => rfl
              | some r => rw [hv] at hdead; cases hdead
      · cases h
    · cases h
  · cases h
 have hpure : ∀ s o n d, evOp E s.look s.get s.box o.type o.op = some (.pure d) → o.dst = some n → zip M k o = true → zaQ E M first k s o = some (s.put n d) := by
  intro s o n d h hd hpu
  match k, hpu with
  | 0, hpu =>
    have hpu : zf7 o.op = true := hpu
    simp only [zaQ, zeJ, hpu, hd, h]
  | 1, hpu =>
    have hpu : (zkb o.op && M.isNone) = true := hpu
    simp only [Bool.and_eq_true, Option.isNone_iff_eq_none] at hpu
    obtain ⟨h1, rfl⟩ := hpu
    unfold zkb at h1
    split at h1
    · rename_i t x ho
      rw [ho] at h
      simp only [evOp, Option.bind_eq_some_iff, Option.map_eq_some_iff] at h
      obtain ⟨i, hi, y, hy, he⟩ := h
      cases he
      simp only [zaQ, zdS, ho, hd, hi, Option.bind_some, hy, Option.map_some]
    · cases h1
  | 2, hpu => exact step_ok.pure s o n d h hd rfl
  | m + 4, hpu =>
    have hpu : M.isNone = true := hpu
    simp only [Option.isNone_iff_eq_none] at hpu
    subst hpu
    simp only [zaQ, zaF, h, hd, Option.bind_some, St.apply, Option.map_some]
 have hvw : ∀ (s : St) (o : Oper), zip M k o = true → zdY M k s = s := by
  intro s o hpu
  match k, hpu with
  | 0, _ => rfl
  | 1, _ => rfl
  | 2, _ => rfl
  | m + 4, hpu =>
    have hpu : M.isNone = true := hpu
    simp only [Option.isNone_iff_eq_none] at hpu
    subst hpu
    rfl
 refine ⟨hpure, fun s o s' h hk => by rw [Nat.eq_of_beq_eq_true hk]; exact h, hvw, fun s o hk => by rw [Nat.eq_of_beq_eq_true hk]; rfl, fun s o rs f args fl h hpl hfl hc => ?_, fun s o r q h hc s' hr => ?_⟩
 · have hk5 : (k = 0 ∨ k = 1 ∨ k = 3) ∨ k = 2 ∨ ∃ m, k = m + 4 := by
    match k with
    | 0 => exact .inl (.inl rfl)
    | 1 => exact .inl (.inr (.inl rfl))
    | 2 => exact .inr (.inl rfl)
    | 3 => exact .inl (.inr (.inr rfl))
    | m + 4 => exact .inr (.inr ⟨m, rfl⟩)
   rcases hk5 with hk | rfl | ⟨m, rfl⟩
   · rw [hno s o (rs, [], []) (hcall _ _ _ h) hk, hno s o (rs, [], []) (hcall _ _ _ h) hk]
   · exact step_ok.ev s o rs f args fl h hpl hfl hc
   · show zaF E M s o = zaF (E.with (rs, [], [])) M s o
     unfold zaF
     cases M with
     | none =>
       obtain ⟨h1, h2⟩ := zfq (s := s) h hpl hfl hc
       simp only [h1, h2]
     | some M =>
       have h' := step_ok.ev (s.hid M) o rs f args fl h hpl hfl hc
       simp only [h']
 · have hk5 : (k = 0 ∨ k = 1 ∨ k = 3) ∨ k = 2 ∨ ∃ m, k = m + 4 := by
    match k with
    | 0 => exact .inl (.inl rfl)
    | 1 => exact .inl (.inr (.inl rfl))
    | 2 => exact .inr (.inl rfl)
    | 3 => exact .inl (.inr (.inr rfl))
    | m + 4 => exact .inr (.inr ⟨m, rfl⟩)
   rcases hk5 with hk | rfl | ⟨m, rfl⟩
   · rw [hno s o q (hcall2 _ _ _ h) hk] at hr
     cases hr
   · exact step_ok.go s o r q h hc s' hr
   · have hr' : zaF (E.with q) M s o = some s' := hr
     show zaF E M s o = some s'
     unfold zaF at hr' ⊢
     cases M with
     | none =>
       simp only at hr'
       rw [hev s o r h (E.with q) rfl (fun zs ts => zc7 zs ts)] at hr'
       cases hr'
     | some M =>
       have h' := zfr (s := s.hid M) h hc
       simp only [h']
       exact hr'
theorem za1 {α β : Type} {run : Env → St → Oper → Option St} {view : St → St} {pu ap : Oper → Bool} (hrun : RunOK E run view pu ap) {s : St} {o : Oper} {k : St → Option (List Prop × α)} {q : List Prop × α} {k' : St → Option β} {b : β}
 (h : hop E hs run view pu ap s o k = some q) (hq : Obs q.1) (hk : ∀ s ps, k s = some (ps, q.2) → Obs ps → k' s = some b) : (run E s o).bind k' = some b := by
 unfold hop at h
 split at h
 · obtain ⟨ps, h1, h2⟩ := zaR h
   rw [h2] at hq
   rw [hq.1]
   exact hk _ ps h1 hq.2
 · obtain ⟨ps, h1, h2⟩ := zaR h
   rw [h2] at hq
   rw [hq.1]
   exact hk _ ps h1 hq.2
 · split at h
   · rename_i p d hask
     split at h
     · rename_i n hdn hpu
       obtain ⟨ps, h1, h2⟩ := zaR h
       rw [h2] at hq
       rw [hrun.pure s o _ _ (zfD hask hq.1) hdn hpu]
       exact hk _ ps h1 hq.2
     · cases h
   · split at h
     · rename_i p s' hask hap
       obtain ⟨ps, h1, h2⟩ := zaR h
       rw [h2] at hq
       rw [hrun.app s o _ (ziz hask hq.1) hap]
       exact hk _ ps h1 hq.2
     · cases h
 · split at h
   · rename_i p d hask
     split at h
     · rename_i n hdn hpu
       obtain ⟨ps, h1, h2⟩ := zaR h
       rw [h2] at hq
       rw [hrun.pure s o _ _ (zfD hask hq.1) hdn hpu]
       exact hk _ ps h1 hq.2
     · cases h
   · split at h
     · rename_i p s' hask hap
       obtain ⟨ps, h1, h2⟩ := zaR h
       rw [h2] at hq
       rw [hrun.app s o _ (zhd hask hq.1) hap]
       exact hk _ ps h1 hq.2
     · cases h
 · rename_i rs hhint
   split at h
   · rename_i f args fl hpl hcv
     have hkey : ∃ ps, hadd (E.call f args [] [] = some (rs, [], [])) (match pu o, o.dst with | true, some n => k (s.put n (retD rs)) | _, _ => (run (E.with (rs, [], [])) s o).bind k) = some (ps, q.2) ∧ Obs ps ∧ (fl = true → D.cleans rs = true) := by
      cases fl with
      | false => exact ⟨q.1, h, hq, fun e => by cases e⟩
      | true =>
        obtain ⟨ps, h1, h2⟩ := zaR h
        rw [h2] at hq
        exact ⟨ps, h1, hq.2, fun _ => hq.1⟩
     obtain ⟨ps0, h0, hq0, hfl⟩ := hkey
     obtain ⟨ps, h1, h2⟩ := zaR h0
     simp only at h2
     rw [h2] at hq0
     split at h1
     · rename_i n hpu hdn
       have hv := hrun.vw s o hpu
       rw [hv] at hcv
       rw [hrun.pure s o _ _ (zfq hcv hpl hfl hq0.1).1 hdn hpu]
       exact hk _ ps h1 hq0.2
     · rw [hrun.ev s o _ _ _ _ hcv hpl hfl hq0.1]
       simp only [Option.bind_eq_some_iff] at h1
       obtain ⟨s', hr, h1⟩ := h1
       rw [hr]
       exact hk s' ps h1 hq0.2
   · cases h
 · split at h
   · rename_i f args us ls hcv
     obtain ⟨ps, h1, h2⟩ := zaR h
     rw [h2] at hq
     split at h1
     · rename_i hap
       split at h1
       · rename_i p s' hch
         obtain ⟨ps2, h3, h4⟩ := zaR h1
         simp only at h4
         rw [h4] at hq
         have hv : view s = s := hrun.vw2 s o hap
         rw [hv] at hcv
         rw [hrun.app s o _ (zh9 hcv hq.1 hch hq.2.1) hap]
         exact hk s' ps2 h3 hq.2.2
       · cases h1
     · simp only [Option.bind_eq_some_iff] at h1
       obtain ⟨s', hr, h1⟩ := h1
       rw [hrun.go s o _ _ hcv hq.1 s' hr]
       exact hk s' ps h1 hq.2
   · split at h
     · rename_i f args cs hcv hpl hap hkey
       obtain ⟨ps, h1, h2⟩ := zaR h
       rw [h2] at hq
       have hv : view s = s := hrun.vw2 s o hap
       rw [hv] at hcv
       simp only [Option.bind_eq_some_iff] at h1
       obtain ⟨s', hs', h1⟩ := h1
       have hst : step E s o = some s' := by
        unfold step
        rw [zlb hcv hpl hq.1]
        exact hs'
       rw [hrun.app s o s' hst hap]
       exact hk s' ps h1 hq.2
     · cases h
 · cases hr : run E s o with
   | none => rw [hr] at h; cases h
   | some s' => rw [hr] at h; exact hk s' q.1 h hq
theorem zeh : ∀ (l : List Oper) (s : St) (q : List Prop × St), hops E hs ops l s = some q → Obs q.1 → zdE E ops l s = some q.2
 | [], s, q, h, hq => by cases h; rfl
 | o :: l, s, q, h, hq => by
   unfold hops at h
   unfold zdE
   exact zeo h hq (fun s ps h1 h2 => za1 step_ok h1 h2 fun s ps h3 h4 => zeh l s (ps, q.2) h3 h4) (fun s ps h1 h2 => zeh l _ (ps, q.2) h1 h2)
theorem zaB {M : Option (List Nat)} : ∀ (l : List PRow) (first : Bool) (s : St) (q : List Prop × St), zdy E hs ops M first l s = some q → Obs q.1 → zaA E ops M first l s = some q.2
 | [], first, s, q, h, hq => by cases h; rfl
 | (i, k, ds) :: l, first, s, q, h, hq => by
   unfold zdy at h
   unfold zaA
   split at h
   · cases h
   · rename_i hj
     simp only [hj]
     split at h
     · cases h
     · rename_i o ho
       simp only [ho]
       refine zeo h hq (fun s ps h1 h2 => ?_) (fun s ps h1 h2 => zaB l _ _ (ps, q.2) h1 h2)
       split at h1
       · split at h1
         · rename_i hgr
           have := za1 (hs := hs) step_ok h1 h2 fun s ps h3 h4 => zaB l _ s (ps, q.2) h3 h4
           simp only [zaw, hgr]
           exact this
         · cases h1
       · exact za1 (hs := hs) (zc2 (M := none) (first := first) (k := 4)) h1 h2 fun s ps h3 h4 => zaB l _ s (ps, q.2) h3 h4
       · exact za1 (hs := hs) (zc2 (M := none) (first := first) (k := 4)) h1 h2 fun s ps h3 h4 => zaB l _ s (ps, q.2) h3 h4
       · exact za1 (hs := hs) (zc2 (M := none) (first := first) (k := 4)) h1 h2 fun s ps h3 h4 => zaB l _ s (ps, q.2) h3 h4
       · split at h1
         · rename_i hcv
           have := za1 (hs := hs) step_ok h1 h2 fun s ps h3 h4 => zaB l _ s (ps, q.2) h3 h4
           simp only [zaw, hcv]
           exact this
         · cases h1
       · split at h1
         · rename_i hcv
           have := za1 (hs := hs) step_ok h1 h2 fun s ps h3 h4 => zaB l _ s (ps, q.2) h3 h4
           simp only [zaw, hcv]
           exact this
         · cases h1
       · split at h1
         · rename_i hcv
           have := za1 (hs := hs) step_ok h1 h2 fun s ps h3 h4 => zaB l _ s (ps, q.2) h3 h4
           simp only [zaw, hcv]
           exact this
         · cases h1
       · split at h1
         · split at h1
           · rename_i hcv
             have := za1 (hs := hs) step_ok h1 h2 fun s ps h3 h4 => zaB l _ s (ps, q.2) h3 h4
             simp only [zaw, hcv]
             exact this
           · cases h1
         · cases h1
       · split at h1
         · rename_i hcv
           have := za1 (hs := hs) step_ok h1 h2 fun s ps h3 h4 => zaB l _ s (ps, q.2) h3 h4
           simp only [zaw, hcv]
           exact this
         · cases h1
       · rename_i n5 n6 n7 n8 n9 n10 n11 n12 n13
         have e : ∀ s, zaw E M first k s o = zaQ E M first k s o := fun s => by
          unfold zaw
          split
          · exact absurd rfl n5
          · exact absurd rfl n6
          · exact absurd rfl n7
          · exact absurd rfl n8
          · exact absurd rfl n9
          · exact absurd rfl n10
          · exact absurd rfl n11
          · exact absurd rfl n12
          · exact absurd rfl n13
          · rfl
         rw [e]
         exact za1 zc2 h1 h2 fun s ps h3 h4 => zaB l _ s (ps, q.2) h3 h4
theorem zgS {id : Nat} {draw : Bool} {s : St} {q : List Prop × St} (h : zij E hs id ops draw s = some q) (hq : Obs q.1) : zcd E id ops draw s = some q.2 := by
 unfold zij at h
 unfold zcd
 cases draw with
 | false => exact zeh _ _ _ h hq
 | true =>
   simp only at h ⊢
   split at h
   · rename_i p hp
     simp only [hp]
     unfold znt at h
     unfold ziv
     split at h
     · rename_i e
       simp only [e]
       cases h; rfl
     · rename_i i k ds l e
       simp only [e]
       split at h
       · rename_i hn
         simp only [hn]
         exact zaB _ _ _ _ h hq
       · cases h
   · cases h
theorem zgh {r : Option (List Prop × X × St)} {k : X → St → Option (List Prop × X × St)} {q : List Prop × X × St} (h : zlJ r k = some q) (hq : Obs q.1) : ∃ ps x s qs, r = some (ps, x, s) ∧ k x s = some (qs, q.2) ∧ Obs ps ∧ Obs qs := by
 unfold zlJ at h
 split at h
 · rename_i ps x s
   split at h
   · rename_i q' hk
     cases h
     obtain ⟨h1, h2⟩ := zgf hq
     exact ⟨ps, x, s, q'.1, rfl, hk, h1, h2⟩
   · cases h
 · cases h
theorem za5 {n : Nat} : ∀ (c : Code) (s : St) (q : List Prop × X × St), zcw E n hs c s = some q → Obs q.1 → exec E n c s = some q.2
 | .skip, s, q, h, hq => by cases h; rfl
 | .region id ops draw, s, q, h, hq => by
   simp only [zcw] at h
   split at h
   · rename_i r hr
     cases h
     simp only [exec]
     rw [zgS hr hq]
     rfl
   · cases h
 | .seq a b, s, q, h, hq => by
   obtain ⟨pq, r⟩ := q
   simp only [zcw] at h
   obtain ⟨ps, x, s1, qs, h1, h2, h3, h4⟩ := zgh h hq
   have := za5 a s _ h1 h3
   simp only [exec, this]
   cases x with
   | normal => exact za5 b s1 (qs, r) h2 h4
   | exit i => cases h2; rfl
   | ret => cases h2; rfl
 | .cond c a b, s, q, h, hq => by
   simp only [zcw] at h
   simp only [exec]
   exact zif h hq (fun s ps h1 h2 => za5 a s (ps, q.2) h1 h2) (fun s ps h1 h2 => za5 b s (ps, q.2) h1 h2)
 | .block id c, s, q, h, hq => by
   obtain ⟨pq, r⟩ := q
   simp only [zcw] at h
   obtain ⟨ps, x, s1, qs, h1, h2, h3, h4⟩ := zgh h hq
   have := za5 c s _ h1 h3
   simp only [exec, this]
   cases x with
   | normal => cases h2; rfl
   | exit i =>
     simp only at h2 ⊢
     split at h2
     · rename_i hb; simp only [hb]; cases h2; rfl
     · rename_i hb; simp only [hb]; cases h2; rfl
   | ret => cases h2; rfl
 | .loop c, s, q, h, hq => by
   simp only [zcw] at h
   split at h
   · cases h; exact hq.2.1 s ((zh6 _ s).trans hq.1)
   · cases h
 | .exit id, s, q, h, hq => by cases h; rfl
 | .ret, s, q, h, hq => by cases h; rfl
 | .label _, s, q, h, hq => by cases h
 | .goto _, s, q, h, hq => by cases h
 | .rangeFunc _ _ _ _, s, q, h, hq => by cases h
 | .scope _, s, q, h, hq => by cases h
 | .refuse _, s, q, h, hq => by cases h
end
end Go.Den
namespace Go.Den
open Go
set_option linter.unusedVariables false
abbrev Res := List D × List (List D) × List (Option Row)
def hrun (C : Cfg) (n : Nat) (call : Nat → List D → List (List D) → List (Option Row) → Option Res) (hs : zcT) (f : Nat) (fn : Func) (args : List D) (u : List (List D)) (l : List (Option Row)) : Option (List Prop × Res) :=
 match fn.body with
 | none => none
 | some c => match zcw ⟨C.ty, C.mode, fn.ntmps, C.live f, C.out f, C.plan f, call⟩ n hs c (zbr args u l) with
   | some (_, .exit _, _) => none
   | some (ps, _, s) => (zm2 C.ty (C.liv f) fn.results.toList u l s).map fun r => (ps, r)
   | none => none
theorem zjz {C : Cfg} {n : Nat} {call : Nat → List D → List (List D) → List (Option Row) → Option Res} (hs : zcT) {f : Nat} {fn : Func} {args : List D} {u : List (List D)} {l : List (Option Row)} {q : List Prop × Res} (h : hrun C n call hs f fn args u l = some q) (hq : Obs q.1) : zaC C n call f fn args u l = some q.2 := by
 unfold hrun at h
 unfold zaC
 split at h
 · cases h
 · rename_i c hc
   rw [hc]
   simp only
   split at h
   · cases h
   · rename_i ps x s hne he
     simp only [Option.map_eq_some_iff] at h
     obtain ⟨r, hr, h⟩ := h
     cases h
     have := za5 _ _ _ he hq
     rw [this]
     cases x with
     | exit i => exact (hne _ rfl).elim
     | normal => simp only [hr]
     | ret => simp only [hr]
   · cases h
theorem zab {C : Cfg} {n : Nat} {call : Nat → List D → List (List D) → List (Option Row) → Option Res} (hs : zcT) {f : Nat} {fn : Func} {args : List D} {u : List (List D)} {l : List (Option Row)} {ps : List Prop} {r : Res} (hq : Obs ps) (h : hrun C n call hs f fn args u l = some (ps, r)) : zaC C n call f fn args u l = some r := zjz hs h hq
theorem ob0 : Obs [] := trivial
theorem ob {p : Prop} {l : List Prop} (h : p) (hl : Obs l) : Obs (p :: l) := ⟨h, hl⟩
theorem obT {p : Prop} (h : p) : true = true ∧ p := ⟨rfl, h⟩
def ze1 (r : Nat) : Code → Option Code
 | .seq a b => match ze1 r a with | some c => some c | none => ze1 r b
 | .cond _ a b => match ze1 r a with | some c => some c | none => ze1 r b
 | .block _ a => ze1 r a
 | .loop a => match Nat.beq (zaa a) r with | true => some a | false => ze1 r a
 | _ => none
def lp (fn : Func) (r : Nat) : Code := match fn.body with | some c => (ze1 r c).getD .skip | none => .skip
def zaf (C : Cfg) (k f : Nat) (fn : Func) : Env := ⟨C.ty, C.mode, fn.ntmps, C.live f, C.out f, C.plan f, den C k⟩
def zam (C : Cfg) (k f : Nat) (fn : Func) (r : Nat) (s0 : St) (x : X) (s' : St) : Prop := zkc (zaf C k f fn) k (lp fn r) s0 x s'
section
variable {E : Env} {n m : Nat} {c : Code} {L : List Nat} {s s0 s1 s2 : St} {ps : List Prop} {hs : zcT}
def stOf (r : Option (List Prop × X × St)) : St := match r with | some q => q.2.2 | none => zbr [] [] []
def zly (r : Option (List Prop × X × St)) : Option (List Prop × X) := match r with | some q => some (q.1, q.2.1) | none => none
def zai (E : Env) (n : Nat) (c : Code) (m : Nat) (s : St) (K : X → St → Prop) : Prop := ∃ x s1, iter (exec E n c) (St.norm (E.live (zaa c))) m s = some (x, s1) ∧ K x (s1.norm (E.out (zaa c)))
theorem zfV {r : Option (List Prop × X × St)} {p : List Prop × X} (h : zly r = some p) : r = some (p.1, p.2, stOf r) := by
 unfold zly at h
 split at h
 · cases h; rfl
 · cases h
theorem zaj {K : X → St → Prop} (hs : zcT) (hL : s.norm (E.live (zaa c)) = s0) (h : zly (zcw E n hs c s0) = some (ps, .normal)) (ho : Obs ps) (hst : nmOf (E.live (zaa c)) (stOf (zcw E n hs c s0)) = s2) (hn : ∀ s, s.norm (E.live (zaa c)) = s2 → zai E n c m s K) : zai E n c (m + 1) s K := by
 obtain ⟨x, s1, h1, h2⟩ := hn (stOf (zcw E n hs c s0)) ((zh6 _ _).trans hst)
 have := za5 _ _ _ (zfV h) ho
 refine ⟨x, s1, ?_, h2⟩
 simp only [iter, hL, this]
 exact h1
theorem zac {K : X → St → Prop} {x : X} (hs : zcT) (hL : s.norm (E.live (zaa c)) = s0) (h : zly (zcw E n hs c s0) = some (ps, x)) (hx : (match x with | .normal => false | _ => true) = true) (ho : Obs ps) (hst : nmOf (E.out (zaa c)) (stOf (zcw E n hs c s0)) = s2) (hK : K x s2) : zai E n c (m + 1) s K := by
 have := za5 _ _ _ (zfV h) ho
 refine ⟨x, stOf (zcw E n hs c s0), ?_, by rw [zh6, hst]; exact hK⟩
 simp only [iter, hL, this]
 cases x with
 | normal => cases hx
 | _ => rfl
theorem ziJ {K : X → St → Prop} (h : zai E n c n s K) : ∃ x s', exec E n (.loop c) s = some (x, s') ∧ K x s' := by
 obtain ⟨x, s1, h1, h2⟩ := h
 exact ⟨x, _, by simp only [exec, h1, Option.map_some], h2⟩
theorem zhe {x : X} (h : ∀ s : St, s.norm (E.live (zaa c)) = s0 → zai E n c n s (fun x' s' => x' = x ∧ s' = s1)) : zkc E n c s0 x s1 := fun s hL => by
 obtain ⟨x', s', h1, rfl, rfl⟩ := ziJ (h s hL)
 exact h1
end
end Go.Den
namespace Go.Den
open Go
abbrev I (n : Int) : Dat := .val (.int .i64 n)
abbrev B (b : Bool) : Dat := .val (.bool b)
abbrev S (s : ByteArray) : Dat := .val (.string s)
abbrev w64 (n : Int) : Int := IntKind.i64.wrap n
abbrev T (k n : Int) (ds : List Dat) : Dat := .agg [I k, I n, .lst false ds]
end Go.Den
namespace Go.Den
open Go
set_option linter.unusedVariables false
set_option maxRecDepth 100000
theorem zjv {α : Type} {f : Nat} : ∀ {l : List (Nat × α)}, memN f (l.map (·.1)) = false → zc9 l f = none
 | [], _ => rfl
 | (a, x) :: l, h => by
   simp only [List.map_cons, memN] at h
   unfold zc9
   split at h
   · cases h
   · rename_i hb
     have hab : Nat.beq a f = false := by
      cases hc : Nat.beq a f with
      | false => rfl
      | true =>
        have := Nat.eq_of_beq_eq_true hc
        subst this
        have hr : Nat.beq a a = true := Nat.beq_refl a
        rw [hr] at hb
        cases hb
     rw [hab]
     exact zjv h
theorem zlF : extsOf.map (·.1) = zkg := by rfl
theorem noExt {f : Nat} {fn : Func} (h : cfg.fn f = some fn) (hb : memN f zgN = false) : cfg.ext f = none := by
 unfold cfg at h ⊢
 simp only at h ⊢
 split at h
 · rename_i hbb
   simp only [Bool.and_eq_true, Bool.or_eq_true, Bool.not_eq_true', hb, Bool.false_eq_true, or_false] at hbb
   exact zjv (by rw [zlF]; exact hbb.2)
 · cases h
def EvN (N f : Nat) (args : List D) (u : List (List D)) (l : List (Option Row)) (r : Res) : Prop := ∀ k, N ≤ k → den cfg k f args u l = some r
theorem zaS {f : Nat} (fn : Func) {args : List D} {u : List (List D)} {l : List (Option Row)} {r : Res} (N : Nat) (hf : cfg.fn f = some fn) (hl : Nat.ble args.length fn.ntmps = true) (h : ∀ kk, N ≤ kk → zaC cfg kk (den cfg kk) f fn args u l = some r) (hb : memN f zgN = false := by kernel_rfl) : EvN (N + 1) f args u l r := fun k hk => by
 obtain ⟨m, rfl⟩ : ∃ m, k = m + 1 := ⟨k - 1, by omega⟩
 simp only [den, noExt hf hb, Option.bind_none, hf, hl]
 exact h m (by omega)
theorem zeq {n : Int} (h : -9223372036854775808 ≤ n ∧ n ≤ 9223372036854775807) : w64 n = n := by show IntKind.i64.wrap n = n; rw [IntKind.wrap_i64]; omega
theorem zet {E : Env} {kk : Nat} {c : Code} {K : X → St → Prop} (st : Nat → St) (n : Nat)
 (hgo : ∀ i, i < n → ∀ (m : Nat) (s : St), s.norm (E.live (zaa c)) = st i → (∀ s : St, s.norm (E.live (zaa c)) = st (i + 1) → zai E kk c m s K) → zai E kk c (m + 1) s K)
 (hend : ∀ (m : Nat) (s : St), s.norm (E.live (zaa c)) = st n → zai E kk c (m + 1) s K) : ∀ (d i m : Nat), i + d = n → d < m → ∀ s : St, s.norm (E.live (zaa c)) = st i → zai E kk c m s K
 | 0, i, m, hi, hm, s, hs => by
   obtain ⟨m, rfl⟩ : ∃ k, m = k + 1 := ⟨m - 1, by omega⟩
   have : i = n := by omega
   subst this
   exact hend m s hs
 | d + 1, i, m, hi, hm, s, hs => by
   obtain ⟨m, rfl⟩ : ∃ k, m = k + 1 := ⟨m - 1, by omega⟩
   exact hgo i (by omega) m s hs fun s' hs' => zet st n hgo hend d (i + 1) m (by omega) (by omega) s' hs'
theorem zaG {kk f : Nat} {fn : Func} {r : Nat} {x : X} {s' : St} (st : Nat → St) (n : Nat) (hk : n < kk)
 (hgo : ∀ i, i < n → ∀ (m : Nat) (s : St) (K : X → St → Prop), s.norm ((zaf cfg kk f fn).live (zaa (lp fn r))) = st i → (∀ s : St, s.norm ((zaf cfg kk f fn).live (zaa (lp fn r))) = st (i + 1) → zai (zaf cfg kk f fn) kk (lp fn r) m s K) → zai (zaf cfg kk f fn) kk (lp fn r) (m + 1) s K)
 (hend : ∀ (m : Nat) (s : St) (K : X → St → Prop), s.norm ((zaf cfg kk f fn).live (zaa (lp fn r))) = st n → K x s' → zai (zaf cfg kk f fn) kk (lp fn r) (m + 1) s K) {s0 : St} (h0 : s0 = st 0) : zam cfg kk f fn r s0 x s' :=
 zhe fun s hs => zet st n (fun i hi m s hs hn => hgo i hi m s _ hs hn) (fun m s hs => hend m s _ hs ⟨rfl, rfl⟩) n 0 kk (by omega) hk s (by rw [hs, h0])
theorem zln {α : Type} (a : List α) (z x : α) (i : Nat) (hi : i < a.length) (hx : a[i]? = some x) : (a.take i ++ List.replicate (a.length - i) z).set i x = a.take (i + 1) ++ List.replicate (a.length - (i + 1)) z := by
 have h1 : (a.take i).length = i := by simp; omega
 obtain ⟨m, hm⟩ : ∃ m, a.length - i = m + 1 := ⟨a.length - i - 1, by omega⟩
 rw [hm, show a.length - (i + 1) = m by omega, List.replicate_succ, List.set_append_right _ _ (by omega), h1, Nat.sub_self, List.set_cons_zero, List.take_add_one, hx]
 simp
theorem zj9 {α : Type} (a : List α) (z : α) (i : Nat) (hi : i < a.length) : (a.take i ++ List.replicate (a.length - i) z)[i]? = some z := by
 have h1 : (a.take i).length = i := by simp; omega
 rw [List.getElem?_append_right (by omega), h1, Nat.sub_self, List.getElem?_replicate, if_pos (by omega)]
theorem zdO {α : Type} (p : α → Bool) : ∀ {ks : List α}, ks.all p = false → ∃ (j : Nat) (x : α), ks[j]? = some x ∧ p x = false ∧ ∀ i y, i < j → ks[i]? = some y → p y = true
 | [], h => by cases h
 | y :: ks, h => by
   cases hy : p y with
   | false => exact ⟨0, y, rfl, hy, fun i y hi => by omega⟩
   | true =>
     rw [List.all_cons, hy, Bool.true_and] at h
     obtain ⟨j, x, h1, h2, h3⟩ := zdO p h
     refine ⟨j + 1, x, by simpa using h1, h2, fun i z hi hz => ?_⟩
     cases i with
     | zero => simp at hz; rw [← hz]; exact hy
     | succ i => exact h3 i z (by omega) (by simpa using hz)
theorem zcP {kk f : Nat} {fn : Func} {r : Nat} {x1 x2 : X} {s1 : St} {s2 : Nat → St} (st : Nat → St) (chk : Nat → Bool) (n : Nat) (hk : n < kk)
 (hr : ∀ i, i < n → (∀ j, j < i → chk j = true) → ∀ (m : Nat) (s : St) (K : X → St → Prop), s.norm ((zaf cfg kk f fn).live (zaa (lp fn r))) = st i → (chk i = true → ∀ s : St, s.norm ((zaf cfg kk f fn).live (zaa (lp fn r))) = st (i + 1) → zai (zaf cfg kk f fn) kk (lp fn r) m s K) → (chk i = false → K x2 (s2 i)) → zai (zaf cfg kk f fn) kk (lp fn r) (m + 1) s K)
 (hend : (∀ j, j < n → chk j = true) → ∀ (m : Nat) (s : St) (K : X → St → Prop), s.norm ((zaf cfg kk f fn).live (zaa (lp fn r))) = st n → K x1 s1 → zai (zaf cfg kk f fn) kk (lp fn r) (m + 1) s K) {s0 : St} (h0 : s0 = st 0) :
 ((List.range n).all chk = true → zam cfg kk f fn r s0 x1 s1) ∧ (∀ i, i < n → (∀ j, j < i → chk j = true) → chk i = false → zam cfg kk f fn r s0 x2 (s2 i)) := by
 refine ⟨fun hall => ?_, fun i hi hch hc => ?_⟩
 · have hch : ∀ j, j < n → chk j = true := fun j hj => (List.all_eq_true.1 hall) j (List.mem_range.2 hj)
   exact zaG st n hk (fun i hi m s K hs hn => hr i hi (fun j hj => hch j (by omega)) m s K hs (fun _ => hn) (fun h => by rw [hch i hi] at h; cases h)) (fun m s K hs hK => hend hch m s K hs hK) h0
 · exact zaG st i (by omega) (fun j hj m s K hs hn => hr j (by omega) (fun q hq => hch q (by omega)) m s K hs (fun _ => hn) (fun h => by rw [hch j hj] at h; cases h)) (fun m s K hs hK => hr i hi hch m s K hs (fun h => by rw [hc] at h; cases h) (fun _ => hK)) h0
theorem zbN {kk f : Nat} {fn : Func} {r : Nat} {x1 x2 : X} {s1 s2 : St} (st : Nat → St) (chk : Nat → Bool) (n : Nat) (hk : n < kk)
 (hr : ∀ i, i < n → (∀ j, j < i → chk j = true) → ∀ (m : Nat) (s : St) (K : X → St → Prop), s.norm ((zaf cfg kk f fn).live (zaa (lp fn r))) = st i → (chk i = true → ∀ s : St, s.norm ((zaf cfg kk f fn).live (zaa (lp fn r))) = st (i + 1) → zai (zaf cfg kk f fn) kk (lp fn r) m s K) → (chk i = false → K x2 s2) → zai (zaf cfg kk f fn) kk (lp fn r) (m + 1) s K)
 (hend : (∀ j, j < n → chk j = true) → ∀ (m : Nat) (s : St) (K : X → St → Prop), s.norm ((zaf cfg kk f fn).live (zaa (lp fn r))) = st n → K x1 s1 → zai (zaf cfg kk f fn) kk (lp fn r) (m + 1) s K) {s0 : St} (h0 : s0 = st 0) :
 ((List.range n).all chk = true → zam cfg kk f fn r s0 x1 s1) ∧ ((List.range n).all chk = false → zam cfg kk f fn r s0 x2 s2) := by
 obtain ⟨h1, h2⟩ := zcP (s2 := fun _ => s2) st chk n hk hr hend h0
 refine ⟨h1, fun hall => ?_⟩
 obtain ⟨j, q, h3, h4, h5⟩ := zdO chk hall
 have hj : j < n := by
  have := (List.getElem?_eq_some_iff.1 h3).1
  simpa using this
 have hqj : q = j := by
  rw [List.getElem?_range hj] at h3
  exact (Option.some.inj h3).symm
 subst hqj
 exact h2 q hj (fun i hi => h5 i i hi (List.getElem?_range (by omega))) h4
theorem znw {n : Nat} {d : Dat} {i : TI} {k : IntKind} (h : WT cfg.ty n d) (ht : cfg.ty n = some i) (hk : i.kind = .int k) : ∃ x : Int, d = .val (.int k x) ∧ (Lit.int k x).wf = true := by
 cases h with
 | @int _ i' k' x ht' hk' hw => rw [ht] at ht'; cases ht'; rw [hk] at hk'; cases hk'; exact ⟨x, rfl, hw⟩
 | bool ht' hk' => rw [ht] at ht'; cases ht'; rw [hk] at hk'; cases hk'
 | str ht' hk' => rw [ht] at ht'; cases ht'; rw [hk] at hk'; cases hk'
 | lst ht' hk' => rw [ht] at ht'; cases ht'; rw [hk] at hk'; cases hk'
 | agg ht' hk' => rw [ht] at ht'; cases ht'; rw [hk] at hk'; cases hk'
theorem zmt {n e : Nat} {d : Dat} {i : TI} (h : WT cfg.ty n d) (ht : cfg.ty n = some i) (hk : i.kind = .slice e) : ∃ es : List Dat, d = .lst false es ∧ es.length ≤ maxLen ∧ ∀ x ∈ es, WT cfg.ty e x := by
 cases h with
 | int ht' hk' => rw [ht] at ht'; cases ht'; rw [hk] at hk'; cases hk'
 | bool ht' hk' => rw [ht] at ht'; cases ht'; rw [hk] at hk'; cases hk'
 | str ht' hk' => rw [ht] at ht'; cases ht'; rw [hk] at hk'; cases hk'
 | @lst _ i' e' es ht' hk' hl hx => rw [ht] at ht'; cases ht'; rw [hk] at hk'; cases hk'; exact ⟨es, rfl, hl, hx⟩
 | agg ht' hk' => rw [ht] at ht'; cases ht'; rw [hk] at hk'; cases hk'
theorem zmB {n : Nat} {d : Dat} {i : TI} (h : WT cfg.ty n d) (ht : cfg.ty n = some i) (hk : i.kind = .struct) : ∃ cs : List Dat, d = .agg cs ∧ cs.length = i.fs.length ∧ ∀ (j : Nat) (f : Nat × Nat) (x : Dat), i.fs[j]? = some f → cs[j]? = some x → WT cfg.ty f.2 x := by
 cases h with
 | int ht' hk' => rw [ht] at ht'; cases ht'; rw [hk] at hk'; cases hk'
 | bool ht' hk' => rw [ht] at ht'; cases ht'; rw [hk] at hk'; cases hk'
 | str ht' hk' => rw [ht] at ht'; cases ht'; rw [hk] at hk'; cases hk'
 | lst ht' hk' => rw [ht] at ht'; cases ht'; rw [hk] at hk'; cases hk'
 | @agg _ i' cs ht' hk' hl hx => rw [ht] at ht'; cases ht'; exact ⟨cs, rfl, hl, hx⟩
theorem zkT {d : Dat} (h : WT cfg.ty 4 d) : ∃ b : Bool, d = B b := by
 cases h with
 | int ht' hk' => have : cfg.ty 4 = some ⟨.bool, 1, 1, [], [.dat (.val (.bool false))]⟩ := by kernel_rfl
                  rw [this] at ht'; cases ht'; cases hk'
 | bool ht' hk' => exact ⟨_, rfl⟩
 | str ht' hk' => have : cfg.ty 4 = some ⟨.bool, 1, 1, [], [.dat (.val (.bool false))]⟩ := by kernel_rfl
                  rw [this] at ht'; cases ht'; cases hk'
 | lst ht' hk' => have : cfg.ty 4 = some ⟨.bool, 1, 1, [], [.dat (.val (.bool false))]⟩ := by kernel_rfl
                  rw [this] at ht'; cases ht'; cases hk'
 | agg ht' hk' => have : cfg.ty 4 = some ⟨.bool, 1, 1, [], [.dat (.val (.bool false))]⟩ := by kernel_rfl
                  rw [this] at ht'; cases ht'; cases hk'
end Go.Den
namespace Go.Den
open Go.Proofs
open Go
set_option linter.unusedVariables false
set_option maxRecDepth 100000
structure Cl where
 l : Bool
 n : Int
 a : Int
 b : Int
abbrev Cl.d (x : Cl) : Dat := .agg [B x.l, I x.n, I x.a, I x.b]
abbrev Yd (b : Bool) (o : Int) (cs rs ns : List Dat) : Dat := .agg [I o, .lst b cs, .lst b rs, .lst b ns]
abbrev Yb (b : Bool) (o : Int) (cs rs ns : List Dat) : Option (List D) := some [.dat (I o), .dat (.lst b cs), .dat (.lst b rs), .dat (.lst b ns)]
theorem szC (kk : Nat) (left : Int) (b : Bool) (es : List Dat) {r : Res} (q1 : (decide (w64 (left - (es.length : Int)) < 0) = true) → r = ([D.dat (I (-1))], [], [])) (q2 : (decide (w64 (left - (es.length : Int)) < 0) = false) → r = ([D.dat (I (w64 (left - (es.length : Int))))], [], [])) : zaC cfg kk (den cfg kk) 11 Try.f11 [.dat (Dat.lst b es), .dat (I left)] [] [] = some r := by
 rcases Bool.eq_false_or_eq_true (decide (w64 (left - (es.length : Int)) < 0)) with d1 | d1
 · have oz := q1 d1
   subst oz; exact zab [(200010, .yes)] (ob d1 ob0) (by kernel_rfl)
 · have oz := q2 d1
   subst oz; exact zab [(200010, .no)] (ob d1 ob0) (by kernel_rfl)
theorem szI (kk : Nat) (left : Int) (b : Bool) (es : List Dat) {r : Res} (q1 : (decide (w64 (left - (es.length : Int)) < 0) = true) → r = ([D.dat (I (-1))], [], [])) (q2 : (decide (w64 (left - (es.length : Int)) < 0) = false) → r = ([D.dat (I (w64 (left - (es.length : Int))))], [], [])) : zaC cfg kk (den cfg kk) 12 Try.f12 [.dat (Dat.lst b es), .dat (I left)] [] [] = some r := by
 rcases Bool.eq_false_or_eq_true (decide (w64 (left - (es.length : Int)) < 0)) with d1 | d1
 · have oz := q1 d1
   subst oz; exact zab [(200010, .yes)] (ob d1 ob0) (by kernel_rfl)
 · have oz := q2 d1
   subst oz; exact zab [(200010, .no)] (ob d1 ob0) (by kernel_rfl)
theorem szY (kk : Nat) (left : Int) (b : Bool) (o : Int) (cs rs ns : List Dat) (x8 : Int) (x14 : Int) (x20 : Int) {r : Res} (q1 : (decide (x8 < 0) = true) → (den cfg kk 11 [D.dat (Dat.lst b cs), D.dat (I left)] [] [] = some ([D.dat (I x8)], [], [])) ∧ r = ([D.dat (I (-1))], [], [])) (q2 : (decide (x8 < 0) = false) → (decide (x14 < 0) = true) → (den cfg kk 11 [D.dat (Dat.lst b cs), D.dat (I left)] [] [] = some ([D.dat (I x8)], [], [])) ∧ (den cfg kk 12 [D.dat (Dat.lst b rs), D.dat (I x8)] [] [] = some ([D.dat (I x14)], [], [])) ∧ r = ([D.dat (I (-1))], [], [])) (q3 : (decide (x8 < 0) = false) → (decide (x14 < 0) = false) → (decide (x20 < 0) = true) → (den cfg kk 11 [D.dat (Dat.lst b cs), D.dat (I left)] [] [] = some ([D.dat (I x8)], [], [])) ∧ (den cfg kk 12 [D.dat (Dat.lst b rs), D.dat (I x8)] [] [] = some ([D.dat (I x14)], [], [])) ∧ (den cfg kk 12 [D.dat (Dat.lst b ns), D.dat (I x14)] [] [] = some ([D.dat (I x20)], [], [])) ∧ r = ([D.dat (I (-1))], [], [])) (q4 : (decide (x8 < 0) = false) → (decide (x14 < 0) = false) → (decide (x20 < 0) = false) → (den cfg kk 11 [D.dat (Dat.lst b cs), D.dat (I left)] [] [] = some ([D.dat (I x8)], [], [])) ∧ (den cfg kk 12 [D.dat (Dat.lst b rs), D.dat (I x8)] [] [] = some ([D.dat (I x14)], [], [])) ∧ (den cfg kk 12 [D.dat (Dat.lst b ns), D.dat (I x14)] [] [] = some ([D.dat (I x20)], [], [])) ∧ r = ([D.dat (I x20)], [], [])) : zaC cfg kk (den cfg kk) 4 Try.f4 [.dat (Yd b o cs rs ns), .dat (I left)] [] [] = some r := by
 rcases Bool.eq_false_or_eq_true (decide (x8 < 0)) with d2 | d2
 · obtain ⟨hz1, oz⟩ := q1 d2
   subst oz; exact zab [(8, .ret [.dat (I x8)]), (14, .ret [.dat (I x14)]), (20, .ret [.dat (I x20)]), (200010, .yes)] (ob hz1 (ob d2 ob0)) (by kernel_rfl)
 · rcases Bool.eq_false_or_eq_true (decide (x14 < 0)) with d4 | d4
   · obtain ⟨hz1, hz2, oz⟩ := q2 d2 d4
     subst oz; exact zab [(8, .ret [.dat (I x8)]), (14, .ret [.dat (I x14)]), (20, .ret [.dat (I x20)]), (200010, .no), (200016, .yes)] (ob hz1 (ob d2 (ob hz2 (ob d4 ob0)))) (by kernel_rfl)
   · rcases Bool.eq_false_or_eq_true (decide (x20 < 0)) with d6 | d6
     · obtain ⟨hz1, hz2, hz3, oz⟩ := q3 d2 d4 d6
       subst oz; exact zab [(8, .ret [.dat (I x8)]), (14, .ret [.dat (I x14)]), (20, .ret [.dat (I x20)]), (200010, .no), (200016, .no), (200022, .yes)] (ob hz1 (ob d2 (ob hz2 (ob d4 (ob hz3 (ob d6 ob0)))))) (by kernel_rfl)
     · obtain ⟨hz1, hz2, hz3, oz⟩ := q4 d2 d4 d6
       subst oz; exact zab [(8, .ret [.dat (I x8)]), (14, .ret [.dat (I x14)]), (20, .ret [.dat (I x20)]), (200010, .no), (200016, .no), (200022, .no)] (ob hz1 (ob d2 (ob hz2 (ob d4 (ob hz3 (ob d6 ob0)))))) (by kernel_rfl)
theorem zny (kk : Nat) (c : Cl) {r : Res} (q1 : r = ([D.dat (Dat.agg [B c.l, I c.n, I c.a, I c.b])], [], [])) : zaC cfg kk (den cfg kk) 29 Try.f29 [.dat (c.d)] [] [] = some r := by
 have oz := q1
 subst oz; exact zab [] ob0 (by kernel_rfl)
def hd41 (b : Bool) (es out : List Dat) (i : Int) : St := Nm [0, 3, 4] [.dat (.lst b es), .own 41 out, .dat (I i)] [none, none, none] [] []
theorem zhr (kk m : Nat) {s : St} {K : X → St → Prop} (b : Bool) (es out : List Dat) (i : Int) (c18 : Cl) (c20 : Cl) (c100021 : Cl) (hs : s.norm ((zaf cfg kk 16 Try.f16).live (zaa (lp Try.f16 3))) = hd41 b es out i) (q1 : (decide (i < (es.length : Int)) = true) → ((0 ≤ i ∧ i < (es.length : Int)) ∧ es[i.toNat]? = some (Dat.agg [B c18.l, I c18.n, I c18.a, I c18.b])) ∧ (den cfg kk 29 [D.dat (Dat.agg [B c18.l, I c18.n, I c18.a, I c18.b])] [] [] = some ([D.dat (Dat.agg [B c20.l, I c20.n, I c20.a, I c20.b])], [], [])) ∧ (0 ≤ i ∧ i < (out.length : Int)) ∧ (out[i.toNat]? = some (Dat.agg [B c100021.l, I c100021.n, I c100021.a, I c100021.b])) ∧ (∀ s : St, s.norm ((zaf cfg kk 16 Try.f16).live (zaa (lp Try.f16 3))) = Nm [0, 3, 4] [D.dat (Dat.lst b es), D.own 41 (out.set i.toNat (Dat.agg [B c20.l, I c20.n, I c20.a, I c20.b])), D.dat (I (w64 (i + 1)))] [none, none, none] [] [] → zai (zaf cfg kk 16 Try.f16) kk (lp Try.f16 3) m s K)) (q2 : (decide (i < (es.length : Int)) = false) → K (X.exit 0) (Nm [3] [D.own 41 out] [none] [] [])) : zai (zaf cfg kk 16 Try.f16) kk (lp Try.f16 3) (m + 1) s K := by
 rcases Bool.eq_false_or_eq_true (decide (i < (es.length : Int))) with d1 | d1
 · obtain ⟨hz1, hz2, hz3, hz4, oz⟩ := q1 d1
   exact zaj [(18, .at (c18.d)), (20, .ret [.dat (c20.d)]), (21, .ok), (100021, .at (c100021.d)), (200011, .yes)] hs (by kernel_rfl) (ob d1 (ob hz1 (ob hz2 (ob hz3 (ob hz4 ob0))))) (by kernel_rfl) oz
 · have oz := q2 d1
   exact zac [(18, .at (c18.d)), (20, .ret [.dat (c20.d)]), (21, .ok), (100021, .at (c100021.d)), (200011, .no)] hs (by kernel_rfl) rfl (ob d1 ob0) (by kernel_rfl) oz
theorem zm3 (kk : Nat) (b : Bool) (es out : List Dat) {r : Res} (q1 : (0 ≤ (es.length : Int) ∧ (es.length : Int) ≤ (es.length : Int) ∧ (es.length : Int) ≤ 2147483648) ∧ (zam cfg kk 16 Try.f16 3 (hd41 b es (List.replicate es.length (Cl.mk false 0 0 0).d) 0) (X.exit 0) (Nm [3] [D.own 41 out] [none] [] [])) ∧ r = ([D.own 41 out], [], [])) : zaC cfg kk (den cfg kk) 16 Try.f16 [.dat (Dat.lst b es)] [] [] = some r := by
 obtain ⟨hz1, hz2, oz⟩ := q1
 subst oz; exact zab [(300003, .loop (hd41 b es (List.replicate es.length (Cl.d ⟨false, 0, 0, 0⟩)) 0) (.exit 0) (Nm [3] [.own 41 out] [none] [] [])), (7, .ok)] (ob hz1 (ob (rfl : _ = hd41 b es (List.replicate es.length (Cl.mk false 0 0 0).d) 0) (ob hz2 ob0))) (by kernel_rfl)
def hd42 (b : Bool) (es out : List Dat) (i : Int) : St := Nm [0, 3, 4] [.dat (.lst b es), .own 3 out, .dat (I i)] [none, none, none] [] []
theorem ziN (kk m : Nat) {s : St} {K : X → St → Prop} (b : Bool) (es out : List Dat) (i : Int) (x18 : Int) (x100020 : Int) (hs : s.norm ((zaf cfg kk 17 Try.f17).live (zaa (lp Try.f17 3))) = hd42 b es out i) (q1 : (decide (i < (es.length : Int)) = true) → ((0 ≤ i ∧ i < (es.length : Int)) ∧ es[i.toNat]? = some (I x18)) ∧ (0 ≤ i ∧ i < (out.length : Int)) ∧ (out[i.toNat]? = some (I x100020)) ∧ (∀ s : St, s.norm ((zaf cfg kk 17 Try.f17).live (zaa (lp Try.f17 3))) = Nm [0, 3, 4] [D.dat (Dat.lst b es), D.own 3 (out.set i.toNat (I x18)), D.dat (I (w64 (i + 1)))] [none, none, none] [] [] → zai (zaf cfg kk 17 Try.f17) kk (lp Try.f17 3) m s K)) (q2 : (decide (i < (es.length : Int)) = false) → K (X.exit 0) (Nm [3] [D.own 3 out] [none] [] [])) : zai (zaf cfg kk 17 Try.f17) kk (lp Try.f17 3) (m + 1) s K := by
 rcases Bool.eq_false_or_eq_true (decide (i < (es.length : Int))) with d1 | d1
 · obtain ⟨hz1, hz2, hz3, oz⟩ := q1 d1
   exact zaj [(18, .at (I x18)), (20, .ok), (100020, .at (I x100020)), (200011, .yes)] hs (by kernel_rfl) (ob d1 (ob hz1 (ob hz2 (ob hz3 ob0)))) (by kernel_rfl) oz
 · have oz := q2 d1
   exact zac [(18, .at (I x18)), (20, .ok), (100020, .at (I x100020)), (200011, .no)] hs (by kernel_rfl) rfl (ob d1 ob0) (by kernel_rfl) oz
theorem znR (kk : Nat) (b : Bool) (es out : List Dat) {r : Res} (q1 : (0 ≤ (es.length : Int) ∧ (es.length : Int) ≤ (es.length : Int) ∧ (es.length : Int) ≤ 2147483648) ∧ (zam cfg kk 17 Try.f17 3 (hd42 b es (List.replicate es.length (I 0)) 0) (X.exit 0) (Nm [3] [D.own 3 out] [none] [] [])) ∧ r = ([D.own 3 out], [], [])) : zaC cfg kk (den cfg kk) 17 Try.f17 [.dat (Dat.lst b es)] [] [] = some r := by
 obtain ⟨hz1, hz2, oz⟩ := q1
 subst oz; exact zab [(300003, .loop (hd42 b es (List.replicate es.length (I 0)) 0) (.exit 0) (Nm [3] [.own 3 out] [none] [] [])), (7, .ok)] (ob hz1 (ob (rfl : _ = hd42 b es (List.replicate es.length (I 0)) 0) (ob hz2 ob0))) (by kernel_rfl)
theorem znJ (kk : Nat) (c c' : Cl) {r : Res} (q1 : ((!c.l == c'.l) = true) → r = ([D.dat (B false)], [], [])) (q2 : ((!c.l == c'.l) = false) → ((!decide (c.n = c'.n)) = true) → r = ([D.dat (B false)], [], [])) (q3 : ((!c.l == c'.l) = false) → ((!decide (c.n = c'.n)) = false) → ((!decide (c.a = c'.a)) = true) → r = ([D.dat (B false)], [], [])) (q4 : ((!c.l == c'.l) = false) → ((!decide (c.n = c'.n)) = false) → ((!decide (c.a = c'.a)) = false) → ((!decide (c.b = c'.b)) = true) → r = ([D.dat (B false)], [], [])) (q5 : ((!c.l == c'.l) = false) → ((!decide (c.n = c'.n)) = false) → ((!decide (c.a = c'.a)) = false) → ((!decide (c.b = c'.b)) = false) → r = ([D.dat (B true)], [], [])) : zaC cfg kk (den cfg kk) 38 Try.f38 [.dat (c.d), .dat (c'.d)] [] [] = some r := by
 rcases Bool.eq_false_or_eq_true ((!c.l == c'.l)) with d1 | d1
 · have oz := q1 d1
   subst oz; exact zab [(200009, .yes)] (ob d1 ob0) (by kernel_rfl)
 · rcases Bool.eq_false_or_eq_true ((!decide (c.n = c'.n))) with d2 | d2
   · have oz := q2 d1 d2
     subst oz; exact zab [(200009, .no), (200014, .yes)] (ob d1 (ob d2 ob0)) (by kernel_rfl)
   · rcases Bool.eq_false_or_eq_true ((!decide (c.a = c'.a))) with d3 | d3
     · have oz := q3 d1 d2 d3
       subst oz; exact zab [(200009, .no), (200014, .no), (200019, .yes)] (ob d1 (ob d2 (ob d3 ob0))) (by kernel_rfl)
     · rcases Bool.eq_false_or_eq_true ((!decide (c.b = c'.b))) with d4 | d4
       · have oz := q4 d1 d2 d3 d4
         subst oz; exact zab [(200009, .no), (200014, .no), (200019, .no), (200024, .yes)] (ob d1 (ob d2 (ob d3 (ob d4 ob0)))) (by kernel_rfl)
       · have oz := q5 d1 d2 d3 d4
         subst oz; exact zab [(200009, .no), (200014, .no), (200019, .no), (200024, .no)] (ob d1 (ob d2 (ob d3 (ob d4 ob0)))) (by kernel_rfl)
def hd45 (b1 b2 : Bool) (xs ys : List Dat) (i : Int) : St := Nm [0, 1, 5] [.dat (.lst b1 xs), .dat (.lst b2 ys), .dat (I i)] [none, none, none] [] []
theorem zhk (kk m : Nat) {s : St} {K : X → St → Prop} (b1 b2 : Bool) (xs ys : List Dat) (i : Int) (c19 : Cl) (c23 : Cl) (g25 : Bool) (hs : s.norm ((zaf cfg kk 22 Try.f22).live (zaa (lp Try.f22 4))) = hd45 b1 b2 xs ys i) (q1 : (decide (i < (xs.length : Int)) = true) → ((!g25) = true) → ((0 ≤ i ∧ i < (xs.length : Int)) ∧ xs[i.toNat]? = some (Dat.agg [B c19.l, I c19.n, I c19.a, I c19.b])) ∧ ((0 ≤ i ∧ i < (ys.length : Int)) ∧ ys[i.toNat]? = some (Dat.agg [B c23.l, I c23.n, I c23.a, I c23.b])) ∧ (den cfg kk 38 [D.dat (Dat.agg [B c19.l, I c19.n, I c19.a, I c19.b]), D.dat (Dat.agg [B c23.l, I c23.n, I c23.a, I c23.b])] [] [] = some ([D.dat (B g25)], [], [])) ∧ K (X.ret) (Nm [4] [D.dat (B false)] [none] [] [])) (q2 : (decide (i < (xs.length : Int)) = true) → ((!g25) = false) → ((0 ≤ i ∧ i < (xs.length : Int)) ∧ xs[i.toNat]? = some (Dat.agg [B c19.l, I c19.n, I c19.a, I c19.b])) ∧ ((0 ≤ i ∧ i < (ys.length : Int)) ∧ ys[i.toNat]? = some (Dat.agg [B c23.l, I c23.n, I c23.a, I c23.b])) ∧ (den cfg kk 38 [D.dat (Dat.agg [B c19.l, I c19.n, I c19.a, I c19.b]), D.dat (Dat.agg [B c23.l, I c23.n, I c23.a, I c23.b])] [] [] = some ([D.dat (B g25)], [], [])) ∧ (∀ s : St, s.norm ((zaf cfg kk 22 Try.f22).live (zaa (lp Try.f22 4))) = Nm [0, 1, 5] [D.dat (Dat.lst b1 xs), D.dat (Dat.lst b2 ys), D.dat (I (w64 (i + 1)))] [none, none, none] [] [] → zai (zaf cfg kk 22 Try.f22) kk (lp Try.f22 4) m s K)) (q3 : (decide (i < (xs.length : Int)) = false) → K (X.exit 0) (Nm [4] [D.junk] [none] [] [])) : zai (zaf cfg kk 22 Try.f22) kk (lp Try.f22 4) (m + 1) s K := by
 rcases Bool.eq_false_or_eq_true (decide (i < (xs.length : Int))) with d1 | d1
 · rcases Bool.eq_false_or_eq_true ((!g25)) with d5 | d5
   · obtain ⟨hz1, hz2, hz3, oz⟩ := q1 d1 d5
     exact zac [(19, .at (c19.d)), (23, .at (c23.d)), (25, .ret [.dat (B g25)]), (200014, .yes), (200026, .yes)] hs (by kernel_rfl) rfl (ob d1 (ob hz1 (ob hz2 (ob hz3 (ob d5 ob0))))) (by kernel_rfl) oz
   · obtain ⟨hz1, hz2, hz3, oz⟩ := q2 d1 d5
     exact zaj [(19, .at (c19.d)), (23, .at (c23.d)), (25, .ret [.dat (B g25)]), (200014, .yes), (200026, .no)] hs (by kernel_rfl) (ob d1 (ob hz1 (ob hz2 (ob hz3 (ob d5 ob0))))) (by kernel_rfl) oz
 · have oz := q3 d1
   exact zac [(19, .at (c19.d)), (23, .at (c23.d)), (25, .ret [.dat (B g25)]), (200014, .no)] hs (by kernel_rfl) rfl (ob d1 ob0) (by kernel_rfl) oz
theorem zkN (kk : Nat) (b1 b2 : Bool) (xs ys : List Dat) {r : Res} (q1 : ((!decide ((xs.length : Int) = (ys.length : Int))) = true) → r = ([D.dat (B false)], [], [])) (q2 : ((!decide ((xs.length : Int) = (ys.length : Int))) = false) → (zam cfg kk 22 Try.f22 4 (hd45 b1 b2 xs ys 0) (X.exit 0) (Nm [4] [D.junk] [none] [] [])) ∧ r = ([D.dat (B true)], [], [])) : zaC cfg kk (den cfg kk) 22 Try.f22 [.dat (Dat.lst b1 xs), .dat (Dat.lst b2 ys)] [] [] = some r := by
 rcases Bool.eq_false_or_eq_true ((!decide ((xs.length : Int) = (ys.length : Int)))) with d1 | d1
 · have oz := q1 d1
   subst oz; exact zab [(300004, .loop (hd45 b1 b2 xs ys 0) (.exit 0) (Nm [4] [.junk] [none] [] [])), (200010, .yes)] (ob d1 ob0) (by kernel_rfl)
 · obtain ⟨hz1, oz⟩ := q2 d1
   subst oz; exact zab [(300004, .loop (hd45 b1 b2 xs ys 0) (.exit 0) (Nm [4] [.junk] [none] [] [])), (200010, .no)] (ob d1 (ob (rfl : _ = hd45 b1 b2 xs ys 0) (ob hz1 ob0))) (by kernel_rfl)
theorem zi4 (kk m : Nat) {s : St} {K : X → St → Prop} (b1 b2 : Bool) (xs ys : List Dat) (i : Int) (x19 : Int) (x23 : Int) (hs : s.norm ((zaf cfg kk 23 Try.f23).live (zaa (lp Try.f23 4))) = hd45 b1 b2 xs ys i) (q1 : (decide (i < (xs.length : Int)) = true) → ((!decide (x19 = x23)) = true) → ((0 ≤ i ∧ i < (xs.length : Int)) ∧ xs[i.toNat]? = some (I x19)) ∧ ((0 ≤ i ∧ i < (ys.length : Int)) ∧ ys[i.toNat]? = some (I x23)) ∧ K (X.ret) (Nm [4] [D.dat (B false)] [none] [] [])) (q2 : (decide (i < (xs.length : Int)) = true) → ((!decide (x19 = x23)) = false) → ((0 ≤ i ∧ i < (xs.length : Int)) ∧ xs[i.toNat]? = some (I x19)) ∧ ((0 ≤ i ∧ i < (ys.length : Int)) ∧ ys[i.toNat]? = some (I x23)) ∧ (∀ s : St, s.norm ((zaf cfg kk 23 Try.f23).live (zaa (lp Try.f23 4))) = Nm [0, 1, 5] [D.dat (Dat.lst b1 xs), D.dat (Dat.lst b2 ys), D.dat (I (w64 (i + 1)))] [none, none, none] [] [] → zai (zaf cfg kk 23 Try.f23) kk (lp Try.f23 4) m s K)) (q3 : (decide (i < (xs.length : Int)) = false) → K (X.exit 0) (Nm [4] [D.junk] [none] [] [])) : zai (zaf cfg kk 23 Try.f23) kk (lp Try.f23 4) (m + 1) s K := by
 rcases Bool.eq_false_or_eq_true (decide (i < (xs.length : Int))) with d1 | d1
 · rcases Bool.eq_false_or_eq_true ((!decide (x19 = x23))) with d4 | d4
   · obtain ⟨hz1, hz2, oz⟩ := q1 d1 d4
     exact zac [(19, .at (I x19)), (23, .at (I x23)), (200014, .yes), (200025, .yes)] hs (by kernel_rfl) rfl (ob d1 (ob hz1 (ob hz2 (ob d4 ob0)))) (by kernel_rfl) oz
   · obtain ⟨hz1, hz2, oz⟩ := q2 d1 d4
     exact zaj [(19, .at (I x19)), (23, .at (I x23)), (200014, .yes), (200025, .no)] hs (by kernel_rfl) (ob d1 (ob hz1 (ob hz2 (ob d4 ob0)))) (by kernel_rfl) oz
 · have oz := q3 d1
   exact zac [(19, .at (I x19)), (23, .at (I x23)), (200014, .no)] hs (by kernel_rfl) rfl (ob d1 ob0) (by kernel_rfl) oz
theorem zma (kk : Nat) (b1 b2 : Bool) (xs ys : List Dat) {r : Res} (q1 : ((!decide ((xs.length : Int) = (ys.length : Int))) = true) → r = ([D.dat (B false)], [], [])) (q2 : ((!decide ((xs.length : Int) = (ys.length : Int))) = false) → (zam cfg kk 23 Try.f23 4 (hd45 b1 b2 xs ys 0) (X.exit 0) (Nm [4] [D.junk] [none] [] [])) ∧ r = ([D.dat (B true)], [], [])) : zaC cfg kk (den cfg kk) 23 Try.f23 [.dat (Dat.lst b1 xs), .dat (Dat.lst b2 ys)] [] [] = some r := by
 rcases Bool.eq_false_or_eq_true ((!decide ((xs.length : Int) = (ys.length : Int)))) with d1 | d1
 · have oz := q1 d1
   subst oz; exact zab [(300004, .loop (hd45 b1 b2 xs ys 0) (.exit 0) (Nm [4] [.junk] [none] [] [])), (200010, .yes)] (ob d1 ob0) (by kernel_rfl)
 · obtain ⟨hz1, oz⟩ := q2 d1
   subst oz; exact zab [(300004, .loop (hd45 b1 b2 xs ys 0) (.exit 0) (Nm [4] [.junk] [none] [] [])), (200010, .no)] (ob d1 (ob (rfl : _ = hd45 b1 b2 xs ys 0) (ob hz1 ob0))) (by kernel_rfl)
theorem zm4 (kk : Nat) (b1 b2 : Bool) (o o' : Int) (cs rs ns cs' rs' ns' : List Dat) (g14 : Bool) (g20 : Bool) (g26 : Bool) {r : Res} (q1 : ((!decide (o = o')) = true) → r = ([D.dat (B false)], [], [])) (q2 : ((!decide (o = o')) = false) → ((!g14) = true) → (den cfg kk 22 [D.dat (Dat.lst b1 cs), D.dat (Dat.lst b2 cs')] [] [] = some ([D.dat (B g14)], [], [])) ∧ r = ([D.dat (B false)], [], [])) (q3 : ((!decide (o = o')) = false) → ((!g14) = false) → ((!g20) = true) → (den cfg kk 22 [D.dat (Dat.lst b1 cs), D.dat (Dat.lst b2 cs')] [] [] = some ([D.dat (B g14)], [], [])) ∧ (den cfg kk 23 [D.dat (Dat.lst b1 rs), D.dat (Dat.lst b2 rs')] [] [] = some ([D.dat (B g20)], [], [])) ∧ r = ([D.dat (B false)], [], [])) (q4 : ((!decide (o = o')) = false) → ((!g14) = false) → ((!g20) = false) → ((!g26) = true) → (den cfg kk 22 [D.dat (Dat.lst b1 cs), D.dat (Dat.lst b2 cs')] [] [] = some ([D.dat (B g14)], [], [])) ∧ (den cfg kk 23 [D.dat (Dat.lst b1 rs), D.dat (Dat.lst b2 rs')] [] [] = some ([D.dat (B g20)], [], [])) ∧ (den cfg kk 23 [D.dat (Dat.lst b1 ns), D.dat (Dat.lst b2 ns')] [] [] = some ([D.dat (B g26)], [], [])) ∧ r = ([D.dat (B false)], [], [])) (q5 : ((!decide (o = o')) = false) → ((!g14) = false) → ((!g20) = false) → ((!g26) = false) → (den cfg kk 22 [D.dat (Dat.lst b1 cs), D.dat (Dat.lst b2 cs')] [] [] = some ([D.dat (B g14)], [], [])) ∧ (den cfg kk 23 [D.dat (Dat.lst b1 rs), D.dat (Dat.lst b2 rs')] [] [] = some ([D.dat (B g20)], [], [])) ∧ (den cfg kk 23 [D.dat (Dat.lst b1 ns), D.dat (Dat.lst b2 ns')] [] [] = some ([D.dat (B g26)], [], [])) ∧ r = ([D.dat (B true)], [], [])) : zaC cfg kk (den cfg kk) 8 Try.f8 [.dat (Yd b1 o cs rs ns), .dat (Yd b2 o' cs' rs' ns')] [] [] = some r := by
 rcases Bool.eq_false_or_eq_true ((!decide (o = o'))) with d1 | d1
 · have oz := q1 d1
   subst oz; exact zab [(14, .ret [.dat (B g14)]), (20, .ret [.dat (B g20)]), (26, .ret [.dat (B g26)]), (200009, .yes)] (ob d1 ob0) (by kernel_rfl)
 · rcases Bool.eq_false_or_eq_true ((!g14)) with d3 | d3
   · obtain ⟨hz1, oz⟩ := q2 d1 d3
     subst oz; exact zab [(14, .ret [.dat (B g14)]), (20, .ret [.dat (B g20)]), (26, .ret [.dat (B g26)]), (200009, .no), (200015, .yes)] (ob d1 (ob hz1 (ob d3 ob0))) (by kernel_rfl)
   · rcases Bool.eq_false_or_eq_true ((!g20)) with d5 | d5
     · obtain ⟨hz1, hz2, oz⟩ := q3 d1 d3 d5
       subst oz; exact zab [(14, .ret [.dat (B g14)]), (20, .ret [.dat (B g20)]), (26, .ret [.dat (B g26)]), (200009, .no), (200015, .no), (200021, .yes)] (ob d1 (ob hz1 (ob d3 (ob hz2 (ob d5 ob0))))) (by kernel_rfl)
     · rcases Bool.eq_false_or_eq_true ((!g26)) with d7 | d7
       · obtain ⟨hz1, hz2, hz3, oz⟩ := q4 d1 d3 d5 d7
         subst oz; exact zab [(14, .ret [.dat (B g14)]), (20, .ret [.dat (B g20)]), (26, .ret [.dat (B g26)]), (200009, .no), (200015, .no), (200021, .no), (200027, .yes)] (ob d1 (ob hz1 (ob d3 (ob hz2 (ob d5 (ob hz3 (ob d7 ob0))))))) (by kernel_rfl)
       · obtain ⟨hz1, hz2, hz3, oz⟩ := q5 d1 d3 d5 d7
         subst oz; exact zab [(14, .ret [.dat (B g14)]), (20, .ret [.dat (B g20)]), (26, .ret [.dat (B g26)]), (200009, .no), (200015, .no), (200021, .no), (200027, .no)] (ob d1 (ob hz1 (ob d3 (ob hz2 (ob d5 (ob hz3 (ob d7 ob0))))))) (by kernel_rfl)
theorem l1In (kk : Nat) (x lo hi : Int) {r : Res} (q1 : (decide (lo ≤ x) = true) → r = ([D.dat (B (decide (x ≤ hi)))], [], [])) (q2 : (decide (lo ≤ x) = false) → r = ([D.dat (B false)], [], [])) : zaC cfg kk (den cfg kk) 14 Try.f14 [.dat (I x), .dat (I lo), .dat (I hi)] [] [] = some r := by
 rcases Bool.eq_false_or_eq_true (decide (lo ≤ x)) with d1 | d1
 · have oz := q1 d1
   subst oz; exact zab [(200010, .yes)] (ob d1 (ob (rfl : true = true) (ob (rfl : true = true) ob0))) (by kernel_rfl)
 · have oz := q2 d1
   subst oz; exact zab [(200010, .no)] (ob d1 (ob (rfl : false = false) (ob (rfl : false = false) ob0))) (by kernel_rfl)
def hd71 (b : Bool) (es : List Dat) (x i : Int) : St := Nm [1, 7, 8, 9] [.dat (I x), .dat (.lst b es), .dat (I es.length), .dat (I i)] [none, none, none, none] [] []
theorem zlv (kk m : Nat) {s : St} {K : X → St → Prop} (b : Bool) (es : List Dat) (x i : Int) (x11 : Int) (hs : s.norm ((zaf cfg kk 28 Try.f28).live (zaa (lp Try.f28 2))) = hd71 b es x i) (q1 : (decide (i < (es.length : Int)) = true) → (decide (x11 = x) = true) → ((0 ≤ i ∧ i < (es.length : Int)) ∧ es[i.toNat]? = some (I x11)) ∧ K (X.ret) (Nm [4] [D.dat (B true)] [none] [] [])) (q2 : (decide (i < (es.length : Int)) = true) → (decide (x11 = x) = false) → ((0 ≤ i ∧ i < (es.length : Int)) ∧ es[i.toNat]? = some (I x11)) ∧ (∀ s : St, s.norm ((zaf cfg kk 28 Try.f28).live (zaa (lp Try.f28 2))) = Nm [1, 7, 8, 9] [D.dat (I x), D.dat (Dat.lst b es), D.dat (I (es.length : Int)), D.dat (I (w64 (i + 1)))] [none, none, none, none] [] [] → zai (zaf cfg kk 28 Try.f28) kk (lp Try.f28 2) m s K)) (q3 : (decide (i < (es.length : Int)) = false) → K (X.exit 0) (Nm [4] [D.junk] [none] [] [])) : zai (zaf cfg kk 28 Try.f28) kk (lp Try.f28 2) (m + 1) s K := by
 rcases Bool.eq_false_or_eq_true (decide (i < (es.length : Int))) with d1 | d1
 · rcases Bool.eq_false_or_eq_true (decide (x11 = x)) with d3 | d3
   · obtain ⟨hz1, oz⟩ := q1 d1 d3
     exact zac [(11, .at (I x11)), (200010, .yes), (200015, .yes)] hs (by kernel_rfl) rfl (ob d1 (ob hz1 (ob d3 ob0))) (by kernel_rfl) oz
   · obtain ⟨hz1, oz⟩ := q2 d1 d3
     exact zaj [(11, .at (I x11)), (200010, .yes), (200015, .no)] hs (by kernel_rfl) (ob d1 (ob hz1 (ob d3 ob0))) (by kernel_rfl) oz
 · have oz := q3 d1
   exact zac [(11, .at (I x11)), (200010, .no)] hs (by kernel_rfl) rfl (ob d1 ob0) (by kernel_rfl) oz
theorem zmP (kk : Nat) (b : Bool) (es : List Dat) (x : Int) {r : Res} (q1 : (zam cfg kk 28 Try.f28 2 (hd71 b es x 0) (X.exit 0) (Nm [4] [D.junk] [none] [] [])) ∧ r = ([D.dat (B false)], [], [])) : zaC cfg kk (den cfg kk) 28 Try.f28 [.dat (Dat.lst b es), .dat (I x)] [] [] = some r := by
 obtain ⟨hz1, oz⟩ := q1
 subst oz; exact zab [(300002, .loop (hd71 b es x 0) (.exit 0) (Nm [4] [.junk] [none] [] []))] (ob (rfl : _ = hd71 b es x 0) (ob hz1 ob0)) (by kernel_rfl)
theorem zm8 (kk : Nat) (b : Bool) (es : List Dat) (x : Int) {r : Res} (q1 : (zam cfg kk 28 Try.f28 2 (hd71 b es x 0) X.ret (Nm [4] [D.dat (B true)] [none] [] [])) ∧ r = ([D.dat (B true)], [], [])) : zaC cfg kk (den cfg kk) 28 Try.f28 [.dat (Dat.lst b es), .dat (I x)] [] [] = some r := by
 obtain ⟨hz1, oz⟩ := q1
 subst oz; exact zab [(300002, .loop (hd71 b es x 0) .ret (Nm [4] [.dat (B true)] [none] [] []))] (ob (rfl : _ = hd71 b es x 0) (ob hz1 ob0)) (by kernel_rfl)
def zbt (b : Bool) (o : Int) (cs rs ns : List Dat) (i : Int) : St := Nm [1, 29, 30, 31] [.ptr (.loc 1) 0, .dat (.lst b ns), .dat (I ns.length), .dat (I i)] [Yb b o cs rs ns, none, none, none] [] []
theorem zj6 (kk m : Nat) {s : St} {K : X → St → Prop} (b : Bool) (o : Int) (cs rs ns : List Dat) (i : Int) (x34 : Int) (g40 : Bool) (x50 : Int) (hs : s.norm ((zaf cfg kk 13 Try.f13).live (zaa (lp Try.f13 4))) = zbt b o cs rs ns i) (q1 : (decide (i < (ns.length : Int)) = true) → ((!g40) = true) → ((0 ≤ i ∧ i < (ns.length : Int)) ∧ ns[i.toNat]? = some (I x34)) ∧ (den cfg kk 14 [D.dat (I x34), D.dat (I 0), D.dat (I (w64 (o - 1)))] [] [] = some ([D.dat (B g40)], [], [])) ∧ K (X.ret) (Nm [1, 2] [D.ptr (Ref.loc 1) 0, D.dat (B false)] [some [D.dat (I o), D.dat (Dat.lst b cs), D.dat (Dat.lst b rs), D.dat (Dat.lst b ns)], none] [] [])) (q2 : (decide (i < (ns.length : Int)) = true) → ((!g40) = false) → (decide (0 < i) = true) → (decide (x34 ≤ x50) = true) → ((0 ≤ i ∧ i < (ns.length : Int)) ∧ ns[i.toNat]? = some (I x34)) ∧ (den cfg kk 14 [D.dat (I x34), D.dat (I 0), D.dat (I (w64 (o - 1)))] [] [] = some ([D.dat (B g40)], [], [])) ∧ ((0 ≤ w64 (i - 1) ∧ w64 (i - 1) < (ns.length : Int)) ∧ ns[(w64 (i - 1)).toNat]? = some (I x50)) ∧ K (X.ret) (Nm [1, 2] [D.ptr (Ref.loc 1) 0, D.dat (B false)] [some [D.dat (I o), D.dat (Dat.lst b cs), D.dat (Dat.lst b rs), D.dat (Dat.lst b ns)], none] [] [])) (q3 : (decide (i < (ns.length : Int)) = true) → ((!g40) = false) → (decide (0 < i) = true) → (decide (x34 ≤ x50) = false) → ((0 ≤ i ∧ i < (ns.length : Int)) ∧ ns[i.toNat]? = some (I x34)) ∧ (den cfg kk 14 [D.dat (I x34), D.dat (I 0), D.dat (I (w64 (o - 1)))] [] [] = some ([D.dat (B g40)], [], [])) ∧ ((0 ≤ w64 (i - 1) ∧ w64 (i - 1) < (ns.length : Int)) ∧ ns[(w64 (i - 1)).toNat]? = some (I x50)) ∧ (∀ s : St, s.norm ((zaf cfg kk 13 Try.f13).live (zaa (lp Try.f13 4))) = Nm [1, 29, 30, 31] [D.ptr (Ref.loc 1) 0, D.dat (Dat.lst b ns), D.dat (I (ns.length : Int)), D.dat (I (w64 (i + 1)))] [some [D.dat (I o), D.dat (Dat.lst b cs), D.dat (Dat.lst b rs), D.dat (Dat.lst b ns)], none, none, none] [] [] → zai (zaf cfg kk 13 Try.f13) kk (lp Try.f13 4) m s K)) (q4 : (decide (i < (ns.length : Int)) = true) → ((!g40) = false) → (decide (0 < i) = false) → ((0 ≤ i ∧ i < (ns.length : Int)) ∧ ns[i.toNat]? = some (I x34)) ∧ (den cfg kk 14 [D.dat (I x34), D.dat (I 0), D.dat (I (w64 (o - 1)))] [] [] = some ([D.dat (B g40)], [], [])) ∧ (∀ s : St, s.norm ((zaf cfg kk 13 Try.f13).live (zaa (lp Try.f13 4))) = Nm [1, 29, 30, 31] [D.ptr (Ref.loc 1) 0, D.dat (Dat.lst b ns), D.dat (I (ns.length : Int)), D.dat (I (w64 (i + 1)))] [some [D.dat (I o), D.dat (Dat.lst b cs), D.dat (Dat.lst b rs), D.dat (Dat.lst b ns)], none, none, none] [] [] → zai (zaf cfg kk 13 Try.f13) kk (lp Try.f13 4) m s K)) (q5 : (decide (i < (ns.length : Int)) = false) → K (X.exit 0) (Nm [1, 2] [D.ptr (Ref.loc 1) 0, D.junk] [some [D.dat (I o), D.dat (Dat.lst b cs), D.dat (Dat.lst b rs), D.dat (Dat.lst b ns)], none] [] [])) : zai (zaf cfg kk 13 Try.f13) kk (lp Try.f13 4) (m + 1) s K := by
 rcases Bool.eq_false_or_eq_true (decide (i < (ns.length : Int))) with d1 | d1
 · rcases Bool.eq_false_or_eq_true ((!g40)) with d4 | d4
   · obtain ⟨hz1, hz2, oz⟩ := q1 d1 d4
     exact zac [(34, .at (I x34)), (40, .ret [.dat (B g40)]), (50, .at (I x50)), (200032, .yes), (200042, .yes)] hs (by kernel_rfl) rfl (ob d1 (ob hz1 (ob hz2 (ob d4 (ob (rfl : true = true) (ob (rfl : true = true) (ob (rfl : true = true) ob0))))))) (by kernel_rfl) oz
   · rcases Bool.eq_false_or_eq_true (decide (0 < i)) with d7 | d7
     · rcases Bool.eq_false_or_eq_true (decide (x34 ≤ x50)) with d17 | d17
       · obtain ⟨hz1, hz2, hz3, oz⟩ := q2 d1 d4 d7 d17
         exact zac [(34, .at (I x34)), (40, .ret [.dat (B g40)]), (50, .at (I x50)), (200032, .yes), (200042, .no), (200045, .yes), (200055, .yes)] hs (by kernel_rfl) rfl (ob d1 (ob hz1 (ob hz2 (ob d4 (ob (rfl : false = false) (ob (rfl : false = false) (ob d7 (ob (rfl : true = true) (ob (rfl : true = true) (ob (rfl : true = true) (ob (rfl : true = true) (ob hz3 (ob (rfl : true = true) (ob (rfl : true = true) (ob (rfl : true = true) (ob (rfl : false = false) (ob d17 ob0))))))))))))))))) (by kernel_rfl) oz
       · obtain ⟨hz1, hz2, hz3, oz⟩ := q3 d1 d4 d7 d17
         exact zaj [(34, .at (I x34)), (40, .ret [.dat (B g40)]), (50, .at (I x50)), (200032, .yes), (200042, .no), (200045, .yes), (200055, .no)] hs (by kernel_rfl) (ob d1 (ob hz1 (ob hz2 (ob d4 (ob (rfl : false = false) (ob (rfl : false = false) (ob d7 (ob (rfl : true = true) (ob (rfl : true = true) (ob (rfl : true = true) (ob (rfl : true = true) (ob hz3 (ob (rfl : true = true) (ob (rfl : true = true) (ob (rfl : true = true) (ob (rfl : false = false) (ob d17 ob0))))))))))))))))) (by kernel_rfl) oz
     · obtain ⟨hz1, hz2, oz⟩ := q4 d1 d4 d7
       exact zaj [(34, .at (I x34)), (40, .ret [.dat (B g40)]), (50, .at (I x50)), (200032, .yes), (200042, .no), (200045, .no)] hs (by kernel_rfl) (ob d1 (ob hz1 (ob hz2 (ob d4 (ob (rfl : false = false) (ob (rfl : false = false) (ob d7 (ob (rfl : false = false) (ob (rfl : false = false) (ob (rfl : false = false) (ob (rfl : false = false) (ob (rfl : false = false) (ob (rfl : false = false) (ob (rfl : false = false) (ob (rfl : false = false) ob0))))))))))))))) (by kernel_rfl) oz
 · have oz := q5 d1
   exact zac [(34, .at (I x34)), (40, .ret [.dat (B g40)]), (50, .at (I x50)), (200032, .no)] hs (by kernel_rfl) rfl (ob d1 ob0) (by kernel_rfl) oz
def zb0 (b : Bool) (o : Int) (cs rs ns : List Dat) (i : Int) : St := Nm [1, 58, 59, 60] [.ptr (.loc 1) 0, .dat (.lst b cs), .dat (I cs.length), .dat (I i)] [Yb b o cs rs ns, none, none, none] [] []
theorem zld (kk m : Nat) {s : St} {K : X → St → Prop} (b : Bool) (o : Int) (cs rs ns : List Dat) (i : Int) (c63 : Cl) (g92 : Bool) (g102 : Bool) (g134 : Bool) (hs : s.norm ((zaf cfg kk 13 Try.f13).live (zaa (lp Try.f13 10))) = zb0 b o cs rs ns i) (q1 : (decide (i < (cs.length : Int)) = true) → (c63.l = true) → ((!decide (c63.a = 0)) = true) → ((0 ≤ i ∧ i < (cs.length : Int)) ∧ cs[i.toNat]? = some (Dat.agg [B c63.l, I c63.n, I c63.a, I c63.b])) ∧ K (X.ret) (Nm [1, 2] [D.ptr (Ref.loc 1) 0, D.dat (B false)] [some [D.dat (I o), D.dat (Dat.lst b cs), D.dat (Dat.lst b rs), D.dat (Dat.lst b ns)], none] [] [])) (q2 : (decide (i < (cs.length : Int)) = true) → (c63.l = true) → ((!decide (c63.a = 0)) = false) → ((!decide (c63.b = 0)) = true) → ((0 ≤ i ∧ i < (cs.length : Int)) ∧ cs[i.toNat]? = some (Dat.agg [B c63.l, I c63.n, I c63.a, I c63.b])) ∧ K (X.ret) (Nm [1, 2] [D.ptr (Ref.loc 1) 0, D.dat (B false)] [some [D.dat (I o), D.dat (Dat.lst b cs), D.dat (Dat.lst b rs), D.dat (Dat.lst b ns)], none] [] [])) (q3 : (decide (i < (cs.length : Int)) = true) → (c63.l = true) → ((!decide (c63.a = 0)) = false) → ((!decide (c63.b = 0)) = false) → ((0 ≤ i ∧ i < (cs.length : Int)) ∧ cs[i.toNat]? = some (Dat.agg [B c63.l, I c63.n, I c63.a, I c63.b])) ∧ (∀ s : St, s.norm ((zaf cfg kk 13 Try.f13).live (zaa (lp Try.f13 10))) = Nm [1, 58, 59, 60] [D.ptr (Ref.loc 1) 0, D.dat (Dat.lst b cs), D.dat (I (cs.length : Int)), D.dat (I (w64 (i + 1)))] [some [D.dat (I o), D.dat (Dat.lst b cs), D.dat (Dat.lst b rs), D.dat (Dat.lst b ns)], none, none, none] [] [] → zai (zaf cfg kk 13 Try.f13) kk (lp Try.f13 10) m s K)) (q4 : (decide (i < (cs.length : Int)) = true) → (c63.l = false) → ((!decide (c63.n = 0)) = true) → ((0 ≤ i ∧ i < (cs.length : Int)) ∧ cs[i.toNat]? = some (Dat.agg [B c63.l, I c63.n, I c63.a, I c63.b])) ∧ K (X.ret) (Nm [1, 2] [D.ptr (Ref.loc 1) 0, D.dat (B false)] [some [D.dat (I o), D.dat (Dat.lst b cs), D.dat (Dat.lst b rs), D.dat (Dat.lst b ns)], none] [] [])) (q5 : (decide (i < (cs.length : Int)) = true) → (c63.l = false) → ((!decide (c63.n = 0)) = false) → ((!g92) = true) → ((0 ≤ i ∧ i < (cs.length : Int)) ∧ cs[i.toNat]? = some (Dat.agg [B c63.l, I c63.n, I c63.a, I c63.b])) ∧ (den cfg kk 14 [D.dat (I c63.a), D.dat (I 0), D.dat (I (w64 ((cs.length : Int) - 1)))] [] [] = some ([D.dat (B g92)], [], [])) ∧ K (X.ret) (Nm [1, 2] [D.ptr (Ref.loc 1) 0, D.dat (B false)] [some [D.dat (I o), D.dat (Dat.lst b cs), D.dat (Dat.lst b rs), D.dat (Dat.lst b ns)], none] [] [])) (q6 : (decide (i < (cs.length : Int)) = true) → (c63.l = false) → ((!decide (c63.n = 0)) = false) → ((!g92) = false) → ((!g102) = true) → ((0 ≤ i ∧ i < (cs.length : Int)) ∧ cs[i.toNat]? = some (Dat.agg [B c63.l, I c63.n, I c63.a, I c63.b])) ∧ (den cfg kk 14 [D.dat (I c63.a), D.dat (I 0), D.dat (I (w64 ((cs.length : Int) - 1)))] [] [] = some ([D.dat (B g92)], [], [])) ∧ (den cfg kk 14 [D.dat (I c63.b), D.dat (I 0), D.dat (I (w64 ((cs.length : Int) - 1)))] [] [] = some ([D.dat (B g102)], [], [])) ∧ K (X.ret) (Nm [1, 2] [D.ptr (Ref.loc 1) 0, D.dat (B false)] [some [D.dat (I o), D.dat (Dat.lst b cs), D.dat (Dat.lst b rs), D.dat (Dat.lst b ns)], none] [] [])) (q7 : (decide (i < (cs.length : Int)) = true) → (c63.l = false) → ((!decide (c63.n = 0)) = false) → ((!g92) = false) → ((!g102) = false) → (decide (i < o) = true) → (decide (o ≤ c63.a) = true) → ((!g134) = true) → ((0 ≤ i ∧ i < (cs.length : Int)) ∧ cs[i.toNat]? = some (Dat.agg [B c63.l, I c63.n, I c63.a, I c63.b])) ∧ (den cfg kk 14 [D.dat (I c63.a), D.dat (I 0), D.dat (I (w64 ((cs.length : Int) - 1)))] [] [] = some ([D.dat (B g92)], [], [])) ∧ (den cfg kk 14 [D.dat (I c63.b), D.dat (I 0), D.dat (I (w64 ((cs.length : Int) - 1)))] [] [] = some ([D.dat (B g102)], [], [])) ∧ (den cfg kk 28 [D.dat (Dat.lst b ns), D.dat (I i)] [] [] = some ([D.dat (B g134)], [], [])) ∧ K (X.ret) (Nm [1, 2] [D.ptr (Ref.loc 1) 0, D.dat (B false)] [some [D.dat (I o), D.dat (Dat.lst b cs), D.dat (Dat.lst b rs), D.dat (Dat.lst b ns)], none] [] [])) (q8 : (decide (i < (cs.length : Int)) = true) → (c63.l = false) → ((!decide (c63.n = 0)) = false) → ((!g92) = false) → ((!g102) = false) → (decide (i < o) = true) → (decide (o ≤ c63.a) = true) → ((!g134) = false) → ((0 ≤ i ∧ i < (cs.length : Int)) ∧ cs[i.toNat]? = some (Dat.agg [B c63.l, I c63.n, I c63.a, I c63.b])) ∧ (den cfg kk 14 [D.dat (I c63.a), D.dat (I 0), D.dat (I (w64 ((cs.length : Int) - 1)))] [] [] = some ([D.dat (B g92)], [], [])) ∧ (den cfg kk 14 [D.dat (I c63.b), D.dat (I 0), D.dat (I (w64 ((cs.length : Int) - 1)))] [] [] = some ([D.dat (B g102)], [], [])) ∧ (den cfg kk 28 [D.dat (Dat.lst b ns), D.dat (I i)] [] [] = some ([D.dat (B g134)], [], [])) ∧ (∀ s : St, s.norm ((zaf cfg kk 13 Try.f13).live (zaa (lp Try.f13 10))) = Nm [1, 58, 59, 60] [D.ptr (Ref.loc 1) 0, D.dat (Dat.lst b cs), D.dat (I (cs.length : Int)), D.dat (I (w64 (i + 1)))] [some [D.dat (I o), D.dat (Dat.lst b cs), D.dat (Dat.lst b rs), D.dat (Dat.lst b ns)], none, none, none] [] [] → zai (zaf cfg kk 13 Try.f13) kk (lp Try.f13 10) m s K)) (q9 : (decide (i < (cs.length : Int)) = true) → (c63.l = false) → ((!decide (c63.n = 0)) = false) → ((!g92) = false) → ((!g102) = false) → (decide (i < o) = true) → (decide (o ≤ c63.a) = false) → (decide (o ≤ c63.b) = true) → ((!g134) = true) → ((0 ≤ i ∧ i < (cs.length : Int)) ∧ cs[i.toNat]? = some (Dat.agg [B c63.l, I c63.n, I c63.a, I c63.b])) ∧ (den cfg kk 14 [D.dat (I c63.a), D.dat (I 0), D.dat (I (w64 ((cs.length : Int) - 1)))] [] [] = some ([D.dat (B g92)], [], [])) ∧ (den cfg kk 14 [D.dat (I c63.b), D.dat (I 0), D.dat (I (w64 ((cs.length : Int) - 1)))] [] [] = some ([D.dat (B g102)], [], [])) ∧ (den cfg kk 28 [D.dat (Dat.lst b ns), D.dat (I i)] [] [] = some ([D.dat (B g134)], [], [])) ∧ K (X.ret) (Nm [1, 2] [D.ptr (Ref.loc 1) 0, D.dat (B false)] [some [D.dat (I o), D.dat (Dat.lst b cs), D.dat (Dat.lst b rs), D.dat (Dat.lst b ns)], none] [] [])) (q10 : (decide (i < (cs.length : Int)) = true) → (c63.l = false) → ((!decide (c63.n = 0)) = false) → ((!g92) = false) → ((!g102) = false) → (decide (i < o) = true) → (decide (o ≤ c63.a) = false) → (decide (o ≤ c63.b) = true) → ((!g134) = false) → ((0 ≤ i ∧ i < (cs.length : Int)) ∧ cs[i.toNat]? = some (Dat.agg [B c63.l, I c63.n, I c63.a, I c63.b])) ∧ (den cfg kk 14 [D.dat (I c63.a), D.dat (I 0), D.dat (I (w64 ((cs.length : Int) - 1)))] [] [] = some ([D.dat (B g92)], [], [])) ∧ (den cfg kk 14 [D.dat (I c63.b), D.dat (I 0), D.dat (I (w64 ((cs.length : Int) - 1)))] [] [] = some ([D.dat (B g102)], [], [])) ∧ (den cfg kk 28 [D.dat (Dat.lst b ns), D.dat (I i)] [] [] = some ([D.dat (B g134)], [], [])) ∧ (∀ s : St, s.norm ((zaf cfg kk 13 Try.f13).live (zaa (lp Try.f13 10))) = Nm [1, 58, 59, 60] [D.ptr (Ref.loc 1) 0, D.dat (Dat.lst b cs), D.dat (I (cs.length : Int)), D.dat (I (w64 (i + 1)))] [some [D.dat (I o), D.dat (Dat.lst b cs), D.dat (Dat.lst b rs), D.dat (Dat.lst b ns)], none, none, none] [] [] → zai (zaf cfg kk 13 Try.f13) kk (lp Try.f13 10) m s K)) (q11 : (decide (i < (cs.length : Int)) = true) → (c63.l = false) → ((!decide (c63.n = 0)) = false) → ((!g92) = false) → ((!g102) = false) → (decide (i < o) = true) → (decide (o ≤ c63.a) = false) → (decide (o ≤ c63.b) = false) → ((0 ≤ i ∧ i < (cs.length : Int)) ∧ cs[i.toNat]? = some (Dat.agg [B c63.l, I c63.n, I c63.a, I c63.b])) ∧ (den cfg kk 14 [D.dat (I c63.a), D.dat (I 0), D.dat (I (w64 ((cs.length : Int) - 1)))] [] [] = some ([D.dat (B g92)], [], [])) ∧ (den cfg kk 14 [D.dat (I c63.b), D.dat (I 0), D.dat (I (w64 ((cs.length : Int) - 1)))] [] [] = some ([D.dat (B g102)], [], [])) ∧ (∀ s : St, s.norm ((zaf cfg kk 13 Try.f13).live (zaa (lp Try.f13 10))) = Nm [1, 58, 59, 60] [D.ptr (Ref.loc 1) 0, D.dat (Dat.lst b cs), D.dat (I (cs.length : Int)), D.dat (I (w64 (i + 1)))] [some [D.dat (I o), D.dat (Dat.lst b cs), D.dat (Dat.lst b rs), D.dat (Dat.lst b ns)], none, none, none] [] [] → zai (zaf cfg kk 13 Try.f13) kk (lp Try.f13 10) m s K)) (q12 : (decide (i < (cs.length : Int)) = true) → (c63.l = false) → ((!decide (c63.n = 0)) = false) → ((!g92) = false) → ((!g102) = false) → (decide (i < o) = false) → ((0 ≤ i ∧ i < (cs.length : Int)) ∧ cs[i.toNat]? = some (Dat.agg [B c63.l, I c63.n, I c63.a, I c63.b])) ∧ (den cfg kk 14 [D.dat (I c63.a), D.dat (I 0), D.dat (I (w64 ((cs.length : Int) - 1)))] [] [] = some ([D.dat (B g92)], [], [])) ∧ (den cfg kk 14 [D.dat (I c63.b), D.dat (I 0), D.dat (I (w64 ((cs.length : Int) - 1)))] [] [] = some ([D.dat (B g102)], [], [])) ∧ (∀ s : St, s.norm ((zaf cfg kk 13 Try.f13).live (zaa (lp Try.f13 10))) = Nm [1, 58, 59, 60] [D.ptr (Ref.loc 1) 0, D.dat (Dat.lst b cs), D.dat (I (cs.length : Int)), D.dat (I (w64 (i + 1)))] [some [D.dat (I o), D.dat (Dat.lst b cs), D.dat (Dat.lst b rs), D.dat (Dat.lst b ns)], none, none, none] [] [] → zai (zaf cfg kk 13 Try.f13) kk (lp Try.f13 10) m s K)) (q13 : (decide (i < (cs.length : Int)) = false) → K (X.exit 2) (Nm [1, 2] [D.ptr (Ref.loc 1) 0, D.junk] [some [D.dat (I o), D.dat (Dat.lst b cs), D.dat (Dat.lst b rs), D.dat (Dat.lst b ns)], none] [] [])) : zai (zaf cfg kk 13 Try.f13) kk (lp Try.f13 10) (m + 1) s K := by
 rcases Bool.eq_false_or_eq_true (decide (i < (cs.length : Int))) with d1 | d1
 · rcases Bool.eq_false_or_eq_true (c63.l) with d3 | d3
   · rcases Bool.eq_false_or_eq_true ((!decide (c63.a = 0))) with d7 | d7
     · obtain ⟨hz1, oz⟩ := q1 d1 d3 d7
       exact zac [(63, .at (c63.d)), (92, .ret [.dat (B g92)]), (102, .ret [.dat (B g102)]), (134, .ret [.dat (B g134)]), (200061, .yes), (200067, .yes), (200071, .yes)] hs (by kernel_rfl) rfl (ob d1 (ob hz1 (ob d3 (ob (rfl : true = true) (ob (rfl : true = true) (ob (rfl : true = true) (ob d7 (ob (rfl : true = true) (ob (rfl : true = true) (ob (rfl : true = true) ob0)))))))))) (by kernel_rfl) oz
     · rcases Bool.eq_false_or_eq_true ((!decide (c63.b = 0))) with d11 | d11
       · obtain ⟨hz1, oz⟩ := q2 d1 d3 d7 d11
         exact zac [(63, .at (c63.d)), (92, .ret [.dat (B g92)]), (102, .ret [.dat (B g102)]), (134, .ret [.dat (B g134)]), (200061, .yes), (200067, .yes), (200071, .no), (200077, .yes)] hs (by kernel_rfl) rfl (ob d1 (ob hz1 (ob d3 (ob (rfl : true = true) (ob (rfl : true = true) (ob (rfl : true = true) (ob d7 (ob (rfl : false = false) (ob (rfl : false = false) (ob (rfl : true = true) (ob d11 (ob (rfl : true = true) (ob (rfl : true = true) (ob (rfl : true = true) (ob (rfl : true = true) ob0))))))))))))))) (by kernel_rfl) oz
       · obtain ⟨hz1, oz⟩ := q3 d1 d3 d7 d11
         exact zaj [(63, .at (c63.d)), (92, .ret [.dat (B g92)]), (102, .ret [.dat (B g102)]), (134, .ret [.dat (B g134)]), (200061, .yes), (200067, .yes), (200071, .no), (200077, .no), (200081, .no), (200110, .no)] hs (by kernel_rfl) (ob d1 (ob hz1 (ob d3 (ob (rfl : true = true) (ob (rfl : true = true) (ob (rfl : true = true) (ob d7 (ob (rfl : false = false) (ob (rfl : false = false) (ob (rfl : true = true) (ob d11 (ob (rfl : false = false) (ob (rfl : false = false) (ob (rfl : false = false) (ob (show (!c63.l) = false from (by simp [d1, d3, d7, d11])) (ob (rfl : false = false) (ob (rfl : false = false) (ob (rfl : false = false) (ob (rfl : false = false) (ob (rfl : false = false) (ob (rfl : false = false) (ob (rfl : false = false) (ob (show (!c63.l) = false from (by simp [d1, d3, d7, d11])) (ob (rfl : false = false) (ob (rfl : false = false) (ob (rfl : false = false) ob0)))))))))))))))))))))))))) (by kernel_rfl) oz
   · rcases Bool.eq_false_or_eq_true ((!decide (c63.n = 0))) with d12 | d12
     · obtain ⟨hz1, oz⟩ := q4 d1 d3 d12
       exact zac [(63, .at (c63.d)), (92, .ret [.dat (B g92)]), (102, .ret [.dat (B g102)]), (134, .ret [.dat (B g134)]), (200061, .yes), (200067, .no), (200081, .yes), (200085, .yes)] hs (by kernel_rfl) rfl (ob d1 (ob hz1 (ob d3 (ob (rfl : false = false) (ob (rfl : false = false) (ob (rfl : false = false) (ob (rfl : false = false) (ob (show (!c63.l) = true from (by simp [d1, d3])) (ob (rfl : true = true) (ob (rfl : true = true) (ob (rfl : true = true) (ob d12 (ob (rfl : true = true) (ob (rfl : true = true) (ob (rfl : true = true) (ob (rfl : true = true) (ob (rfl : true = true) (ob (rfl : true = true) (ob (rfl : true = true) (ob (rfl : true = true) (ob (rfl : true = true) (ob (rfl : true = true) ob0)))))))))))))))))))))) (by kernel_rfl) oz
     · rcases Bool.eq_false_or_eq_true ((!g92)) with d23 | d23
       · obtain ⟨hz1, hz2, oz⟩ := q5 d1 d3 d12 d23
         exact zac [(63, .at (c63.d)), (92, .ret [.dat (B g92)]), (102, .ret [.dat (B g102)]), (134, .ret [.dat (B g134)]), (200061, .yes), (200067, .no), (200081, .yes), (200085, .no), (200095, .yes)] hs (by kernel_rfl) rfl (ob d1 (ob hz1 (ob d3 (ob (rfl : false = false) (ob (rfl : false = false) (ob (rfl : false = false) (ob (rfl : false = false) (ob (show (!c63.l) = true from (by simp [d1, d3])) (ob (rfl : true = true) (ob (rfl : true = true) (ob (rfl : true = true) (ob d12 (ob (rfl : false = false) (ob (rfl : false = false) (ob (rfl : false = false) (ob (rfl : false = false) (ob (rfl : false = false) (ob (rfl : false = false) (ob hz2 (ob (rfl : false = false) (ob (rfl : true = true) (ob (rfl : true = true) (ob d23 (ob (rfl : true = true) (ob (rfl : true = true) (ob (rfl : true = true) (ob (rfl : true = true) (ob (rfl : true = true) (ob (rfl : true = true) (ob (rfl : true = true) (ob (rfl : true = true) ob0))))))))))))))))))))))))))))))) (by kernel_rfl) oz
       · rcases Bool.eq_false_or_eq_true ((!g102)) with d33 | d33
         · obtain ⟨hz1, hz2, hz3, oz⟩ := q6 d1 d3 d12 d23 d33
           exact zac [(63, .at (c63.d)), (92, .ret [.dat (B g92)]), (102, .ret [.dat (B g102)]), (134, .ret [.dat (B g134)]), (200061, .yes), (200067, .no), (200081, .yes), (200085, .no), (200095, .no), (200106, .yes)] hs (by kernel_rfl) rfl (ob d1 (ob hz1 (ob d3 (ob (rfl : false = false) (ob (rfl : false = false) (ob (rfl : false = false) (ob (rfl : false = false) (ob (show (!c63.l) = true from (by simp [d1, d3])) (ob (rfl : true = true) (ob (rfl : true = true) (ob (rfl : true = true) (ob d12 (ob (rfl : false = false) (ob (rfl : false = false) (ob (rfl : false = false) (ob (rfl : false = false) (ob (rfl : false = false) (ob (rfl : false = false) (ob hz2 (ob (rfl : false = false) (ob (rfl : true = true) (ob (rfl : true = true) (ob d23 (ob (rfl : false = false) (ob (rfl : false = false) (ob (rfl : false = false) (ob (rfl : false = false) (ob (rfl : false = false) (ob (rfl : false = false) (ob hz3 (ob (rfl : false = false) (ob (rfl : true = true) (ob d33 ob0))))))))))))))))))))))))))))))))) (by kernel_rfl) oz
         · rcases Bool.eq_false_or_eq_true (decide (i < o)) with d38 | d38
           · rcases Bool.eq_false_or_eq_true (decide (o ≤ c63.a)) with d44 | d44
             · rcases Bool.eq_false_or_eq_true ((!g134)) with d51 | d51
               · obtain ⟨hz1, hz2, hz3, hz4, oz⟩ := q7 d1 d3 d12 d23 d33 d38 d44 d51
                 exact zac [(63, .at (c63.d)), (92, .ret [.dat (B g92)]), (102, .ret [.dat (B g102)]), (134, .ret [.dat (B g134)]), (200061, .yes), (200067, .no), (200081, .yes), (200085, .no), (200095, .no), (200106, .no), (200110, .yes), (200116, .yes), (200122, .yes), (200136, .yes)] hs (by kernel_rfl) rfl (ob d1 (ob hz1 (ob d3 (ob (rfl : false = false) (ob (rfl : false = false) (ob (rfl : false = false) (ob (rfl : false = false) (ob (show (!c63.l) = true from (by simp [d1, d3])) (ob (rfl : true = true) (ob (rfl : true = true) (ob (rfl : true = true) (ob d12 (ob (rfl : false = false) (ob (rfl : false = false) (ob (rfl : false = false) (ob (rfl : false = false) (ob (rfl : false = false) (ob (rfl : false = false) (ob hz2 (ob (rfl : false = false) (ob (rfl : true = true) (ob (rfl : true = true) (ob d23 (ob (rfl : false = false) (ob (rfl : false = false) (ob (rfl : false = false) (ob (rfl : false = false) (ob (rfl : false = false) (ob (rfl : false = false) (ob hz3 (ob (rfl : false = false) (ob (rfl : true = true) (ob d33 (ob (show (!c63.l) = true from (by simp [d1, d3, d12, d23, d33])) (ob (rfl : true = true) (ob (rfl : true = true) (ob (rfl : true = true) (ob d38 (ob (rfl : true = true) (ob (rfl : true = true) (ob (rfl : true = true) (ob (rfl : true = true) (ob (rfl : true = true) (ob d44 (ob (rfl : true = true) (ob (rfl : true = true) (ob (rfl : true = true) (ob (rfl : true = true) (ob (rfl : true = true) (ob hz4 (ob d51 ob0))))))))))))))))))))))))))))))))))))))))))))))))))) (by kernel_rfl) oz
               · obtain ⟨hz1, hz2, hz3, hz4, oz⟩ := q8 d1 d3 d12 d23 d33 d38 d44 d51
                 exact zaj [(63, .at (c63.d)), (92, .ret [.dat (B g92)]), (102, .ret [.dat (B g102)]), (134, .ret [.dat (B g134)]), (200061, .yes), (200067, .no), (200081, .yes), (200085, .no), (200095, .no), (200106, .no), (200110, .yes), (200116, .yes), (200122, .yes), (200136, .no)] hs (by kernel_rfl) (ob d1 (ob hz1 (ob d3 (ob (rfl : false = false) (ob (rfl : false = false) (ob (rfl : false = false) (ob (rfl : false = false) (ob (show (!c63.l) = true from (by simp [d1, d3])) (ob (rfl : true = true) (ob (rfl : true = true) (ob (rfl : true = true) (ob d12 (ob (rfl : false = false) (ob (rfl : false = false) (ob (rfl : false = false) (ob (rfl : false = false) (ob (rfl : false = false) (ob (rfl : false = false) (ob hz2 (ob (rfl : false = false) (ob (rfl : true = true) (ob (rfl : true = true) (ob d23 (ob (rfl : false = false) (ob (rfl : false = false) (ob (rfl : false = false) (ob (rfl : false = false) (ob (rfl : false = false) (ob (rfl : false = false) (ob hz3 (ob (rfl : false = false) (ob (rfl : true = true) (ob d33 (ob (show (!c63.l) = true from (by simp [d1, d3, d12, d23, d33])) (ob (rfl : true = true) (ob (rfl : true = true) (ob (rfl : true = true) (ob d38 (ob (rfl : true = true) (ob (rfl : true = true) (ob (rfl : true = true) (ob (rfl : true = true) (ob (rfl : true = true) (ob d44 (ob (rfl : true = true) (ob (rfl : true = true) (ob (rfl : true = true) (ob (rfl : true = true) (ob (rfl : true = true) (ob hz4 (ob d51 ob0))))))))))))))))))))))))))))))))))))))))))))))))))) (by kernel_rfl) oz
             · rcases Bool.eq_false_or_eq_true (decide (o ≤ c63.b)) with d50 | d50
               · rcases Bool.eq_false_or_eq_true ((!g134)) with d56 | d56
                 · obtain ⟨hz1, hz2, hz3, hz4, oz⟩ := q9 d1 d3 d12 d23 d33 d38 d44 d50 d56
                   exact zac [(63, .at (c63.d)), (92, .ret [.dat (B g92)]), (102, .ret [.dat (B g102)]), (134, .ret [.dat (B g134)]), (200061, .yes), (200067, .no), (200081, .yes), (200085, .no), (200095, .no), (200106, .no), (200110, .yes), (200116, .yes), (200122, .no), (200130, .yes), (200136, .yes)] hs (by kernel_rfl) rfl (ob d1 (ob hz1 (ob d3 (ob (rfl : false = false) (ob (rfl : false = false) (ob (rfl : false = false) (ob (rfl : false = false) (ob (show (!c63.l) = true from (by simp [d1, d3])) (ob (rfl : true = true) (ob (rfl : true = true) (ob (rfl : true = true) (ob d12 (ob (rfl : false = false) (ob (rfl : false = false) (ob (rfl : false = false) (ob (rfl : false = false) (ob (rfl : false = false) (ob (rfl : false = false) (ob hz2 (ob (rfl : false = false) (ob (rfl : true = true) (ob (rfl : true = true) (ob d23 (ob (rfl : false = false) (ob (rfl : false = false) (ob (rfl : false = false) (ob (rfl : false = false) (ob (rfl : false = false) (ob (rfl : false = false) (ob hz3 (ob (rfl : false = false) (ob (rfl : true = true) (ob d33 (ob (show (!c63.l) = true from (by simp [d1, d3, d12, d23, d33])) (ob (rfl : true = true) (ob (rfl : true = true) (ob (rfl : true = true) (ob d38 (ob (rfl : true = true) (ob (rfl : true = true) (ob (rfl : true = true) (ob (rfl : true = true) (ob (rfl : true = true) (ob d44 (ob (rfl : false = false) (ob (rfl : false = false) (ob (rfl : false = false) (ob (rfl : false = false) (ob (rfl : true = true) (ob d50 (ob (rfl : true = true) (ob (rfl : true = true) (ob (rfl : true = true) (ob hz4 (ob (rfl : true = true) (ob d56 ob0)))))))))))))))))))))))))))))))))))))))))))))))))))))))) (by kernel_rfl) oz
                 · obtain ⟨hz1, hz2, hz3, hz4, oz⟩ := q10 d1 d3 d12 d23 d33 d38 d44 d50 d56
                   exact zaj [(63, .at (c63.d)), (92, .ret [.dat (B g92)]), (102, .ret [.dat (B g102)]), (134, .ret [.dat (B g134)]), (200061, .yes), (200067, .no), (200081, .yes), (200085, .no), (200095, .no), (200106, .no), (200110, .yes), (200116, .yes), (200122, .no), (200130, .yes), (200136, .no)] hs (by kernel_rfl) (ob d1 (ob hz1 (ob d3 (ob (rfl : false = false) (ob (rfl : false = false) (ob (rfl : false = false) (ob (rfl : false = false) (ob (show (!c63.l) = true from (by simp [d1, d3])) (ob (rfl : true = true) (ob (rfl : true = true) (ob (rfl : true = true) (ob d12 (ob (rfl : false = false) (ob (rfl : false = false) (ob (rfl : false = false) (ob (rfl : false = false) (ob (rfl : false = false) (ob (rfl : false = false) (ob hz2 (ob (rfl : false = false) (ob (rfl : true = true) (ob (rfl : true = true) (ob d23 (ob (rfl : false = false) (ob (rfl : false = false) (ob (rfl : false = false) (ob (rfl : false = false) (ob (rfl : false = false) (ob (rfl : false = false) (ob hz3 (ob (rfl : false = false) (ob (rfl : true = true) (ob d33 (ob (show (!c63.l) = true from (by simp [d1, d3, d12, d23, d33])) (ob (rfl : true = true) (ob (rfl : true = true) (ob (rfl : true = true) (ob d38 (ob (rfl : true = true) (ob (rfl : true = true) (ob (rfl : true = true) (ob (rfl : true = true) (ob (rfl : true = true) (ob d44 (ob (rfl : false = false) (ob (rfl : false = false) (ob (rfl : false = false) (ob (rfl : false = false) (ob (rfl : true = true) (ob d50 (ob (rfl : true = true) (ob (rfl : true = true) (ob (rfl : true = true) (ob hz4 (ob (rfl : true = true) (ob d56 ob0)))))))))))))))))))))))))))))))))))))))))))))))))))))))) (by kernel_rfl) oz
               · obtain ⟨hz1, hz2, hz3, oz⟩ := q11 d1 d3 d12 d23 d33 d38 d44 d50
                 exact zaj [(63, .at (c63.d)), (92, .ret [.dat (B g92)]), (102, .ret [.dat (B g102)]), (134, .ret [.dat (B g134)]), (200061, .yes), (200067, .no), (200081, .yes), (200085, .no), (200095, .no), (200106, .no), (200110, .yes), (200116, .yes), (200122, .no), (200130, .no)] hs (by kernel_rfl) (ob d1 (ob hz1 (ob d3 (ob (rfl : false = false) (ob (rfl : false = false) (ob (rfl : false = false) (ob (rfl : false = false) (ob (show (!c63.l) = true from (by simp [d1, d3])) (ob (rfl : true = true) (ob (rfl : true = true) (ob (rfl : true = true) (ob d12 (ob (rfl : false = false) (ob (rfl : false = false) (ob (rfl : false = false) (ob (rfl : false = false) (ob (rfl : false = false) (ob (rfl : false = false) (ob hz2 (ob (rfl : false = false) (ob (rfl : true = true) (ob (rfl : true = true) (ob d23 (ob (rfl : false = false) (ob (rfl : false = false) (ob (rfl : false = false) (ob (rfl : false = false) (ob (rfl : false = false) (ob (rfl : false = false) (ob hz3 (ob (rfl : false = false) (ob (rfl : true = true) (ob d33 (ob (show (!c63.l) = true from (by simp [d1, d3, d12, d23, d33])) (ob (rfl : true = true) (ob (rfl : true = true) (ob (rfl : true = true) (ob d38 (ob (rfl : true = true) (ob (rfl : true = true) (ob (rfl : true = true) (ob (rfl : true = true) (ob (rfl : true = true) (ob d44 (ob (rfl : false = false) (ob (rfl : false = false) (ob (rfl : false = false) (ob (rfl : false = false) (ob (rfl : true = true) (ob d50 (ob (rfl : false = false) (ob (rfl : false = false) (ob (rfl : false = false) (ob (rfl : false = false) ob0)))))))))))))))))))))))))))))))))))))))))))))))))))))) (by kernel_rfl) oz
           · obtain ⟨hz1, hz2, hz3, oz⟩ := q12 d1 d3 d12 d23 d33 d38
             exact zaj [(63, .at (c63.d)), (92, .ret [.dat (B g92)]), (102, .ret [.dat (B g102)]), (134, .ret [.dat (B g134)]), (200061, .yes), (200067, .no), (200081, .yes), (200085, .no), (200095, .no), (200106, .no), (200110, .yes), (200116, .no)] hs (by kernel_rfl) (ob d1 (ob hz1 (ob d3 (ob (rfl : false = false) (ob (rfl : false = false) (ob (rfl : false = false) (ob (rfl : false = false) (ob (show (!c63.l) = true from (by simp [d1, d3])) (ob (rfl : true = true) (ob (rfl : true = true) (ob (rfl : true = true) (ob d12 (ob (rfl : false = false) (ob (rfl : false = false) (ob (rfl : false = false) (ob (rfl : false = false) (ob (rfl : false = false) (ob (rfl : false = false) (ob hz2 (ob (rfl : false = false) (ob (rfl : true = true) (ob (rfl : true = true) (ob d23 (ob (rfl : false = false) (ob (rfl : false = false) (ob (rfl : false = false) (ob (rfl : false = false) (ob (rfl : false = false) (ob (rfl : false = false) (ob hz3 (ob (rfl : false = false) (ob (rfl : true = true) (ob d33 (ob (show (!c63.l) = true from (by simp [d1, d3, d12, d23, d33])) (ob (rfl : true = true) (ob (rfl : true = true) (ob (rfl : true = true) (ob d38 (ob (rfl : false = false) (ob (rfl : false = false) (ob (rfl : false = false) (ob (rfl : false = false) (ob (rfl : false = false) (ob (rfl : false = false) ob0)))))))))))))))))))))))))))))))))))))))))))) (by kernel_rfl) oz
 · have oz := q13 d1
   exact zac [(63, .at (c63.d)), (92, .ret [.dat (B g92)]), (102, .ret [.dat (B g102)]), (134, .ret [.dat (B g134)]), (200061, .no)] hs (by kernel_rfl) rfl (ob d1 ob0) (by kernel_rfl) oz
def zdi (b : Bool) (o : Int) (cs rs ns : List Dat) (i : Int) : St := Nm [1, 139, 140, 141] [.ptr (.loc 1) 0, .dat (.lst b rs), .dat (I rs.length), .dat (I i)] [Yb b o cs rs ns, none, none, none] [] []
theorem zlr (kk m : Nat) {s : St} {K : X → St → Prop} (b : Bool) (o : Int) (cs rs ns : List Dat) (i : Int) (x143 : Int) (g150 : Bool) (hs : s.norm ((zaf cfg kk 13 Try.f13).live (zaa (lp Try.f13 18))) = zdi b o cs rs ns i) (q1 : (decide (i < (rs.length : Int)) = true) → ((!g150) = true) → ((0 ≤ i ∧ i < (rs.length : Int)) ∧ rs[i.toNat]? = some (I x143)) ∧ (den cfg kk 14 [D.dat (I x143), D.dat (I 0), D.dat (I (w64 ((cs.length : Int) - 1)))] [] [] = some ([D.dat (B g150)], [], [])) ∧ K (X.ret) (Nm [2] [D.dat (B false)] [none] [] [])) (q2 : (decide (i < (rs.length : Int)) = true) → ((!g150) = false) → ((0 ≤ i ∧ i < (rs.length : Int)) ∧ rs[i.toNat]? = some (I x143)) ∧ (den cfg kk 14 [D.dat (I x143), D.dat (I 0), D.dat (I (w64 ((cs.length : Int) - 1)))] [] [] = some ([D.dat (B g150)], [], [])) ∧ (∀ s : St, s.norm ((zaf cfg kk 13 Try.f13).live (zaa (lp Try.f13 18))) = Nm [1, 139, 140, 141] [D.ptr (Ref.loc 1) 0, D.dat (Dat.lst b rs), D.dat (I (rs.length : Int)), D.dat (I (w64 (i + 1)))] [some [D.dat (I o), D.dat (Dat.lst b cs), D.dat (Dat.lst b rs), D.dat (Dat.lst b ns)], none, none, none] [] [] → zai (zaf cfg kk 13 Try.f13) kk (lp Try.f13 18) m s K)) (q3 : (decide (i < (rs.length : Int)) = false) → K (X.exit 4) (Nm [2] [D.junk] [none] [] [])) : zai (zaf cfg kk 13 Try.f13) kk (lp Try.f13 18) (m + 1) s K := by
 rcases Bool.eq_false_or_eq_true (decide (i < (rs.length : Int))) with d1 | d1
 · rcases Bool.eq_false_or_eq_true ((!g150)) with d4 | d4
   · obtain ⟨hz1, hz2, oz⟩ := q1 d1 d4
     exact zac [(143, .at (I x143)), (150, .ret [.dat (B g150)]), (200142, .yes), (200151, .yes)] hs (by kernel_rfl) rfl (ob d1 (ob hz1 (ob hz2 (ob d4 ob0)))) (by kernel_rfl) oz
   · obtain ⟨hz1, hz2, oz⟩ := q2 d1 d4
     exact zaj [(143, .at (I x143)), (150, .ret [.dat (B g150)]), (200142, .yes), (200151, .no)] hs (by kernel_rfl) (ob d1 (ob hz1 (ob hz2 (ob d4 ob0)))) (by kernel_rfl) oz
 · have oz := q3 d1
   exact zac [(143, .at (I x143)), (150, .ret [.dat (B g150)]), (200142, .no)] hs (by kernel_rfl) rfl (ob d1 ob0) (by kernel_rfl) oz
theorem znh (kk : Nat) (b : Bool) (o : Int) (cs rs ns : List Dat) (g25 : Bool) {r : Res} (q1 : (decide (200 < (cs.length : Int)) = true) → r = ([D.dat (B false)], [], [])) (q2 : (decide (200 < (cs.length : Int)) = false) → (decide (60 < (rs.length : Int)) = true) → r = ([D.dat (B false)], [], [])) (q3 : (decide (200 < (cs.length : Int)) = false) → (decide (60 < (rs.length : Int)) = false) → ((!g25) = true) → (den cfg kk 14 [D.dat (I o), D.dat (I 0), D.dat (I (cs.length : Int))] [] [] = some ([D.dat (B g25)], [], [])) ∧ r = ([D.dat (B false)], [], [])) (q4 : (decide (200 < (cs.length : Int)) = false) → (decide (60 < (rs.length : Int)) = false) → ((!g25) = false) → (den cfg kk 14 [D.dat (I o), D.dat (I 0), D.dat (I (cs.length : Int))] [] [] = some ([D.dat (B g25)], [], [])) ∧ (zam cfg kk 13 Try.f13 4 (zbt b o cs rs ns 0) X.ret (Nm [1, 2] [D.ptr (Ref.loc 1) 0, D.dat (B false)] [some [D.dat (I o), D.dat (Dat.lst b cs), D.dat (Dat.lst b rs), D.dat (Dat.lst b ns)], none] [] [])) ∧ r = ([D.dat (B false)], [], [])) : zaC cfg kk (den cfg kk) 13 Try.f13 [.dat (Yd b o cs rs ns)] [] [] = some r := by
 rcases Bool.eq_false_or_eq_true (decide (200 < (cs.length : Int))) with d1 | d1
 · have oz := q1 d1
   subst oz; exact zab [(300004, .loop (zbt b o cs rs ns 0) .ret (Nm [1, 2] [.ptr (.loc 1) 0, .dat (B false)] [Yb b o cs rs ns, none] [] [])), (25, .ret [.dat (B g25)]), (200013, .yes)] (ob d1 (ob (rfl : true = true) (ob (rfl : true = true) (ob (rfl : true = true) ob0)))) (by kernel_rfl)
 · rcases Bool.eq_false_or_eq_true (decide (60 < (rs.length : Int))) with d5 | d5
   · have oz := q2 d1 d5
     subst oz; exact zab [(300004, .loop (zbt b o cs rs ns 0) .ret (Nm [1, 2] [.ptr (.loc 1) 0, .dat (B false)] [Yb b o cs rs ns, none] [] [])), (25, .ret [.dat (B g25)]), (200013, .no), (200019, .yes)] (ob d1 (ob (rfl : false = false) (ob (rfl : false = false) (ob (rfl : false = false) (ob d5 (ob (rfl : true = true) (ob (rfl : true = true) (ob (rfl : true = true) (ob (rfl : true = true) (ob (rfl : true = true) (ob (rfl : true = true) ob0))))))))))) (by kernel_rfl)
   · rcases Bool.eq_false_or_eq_true ((!g25)) with d13 | d13
     · obtain ⟨hz1, oz⟩ := q3 d1 d5 d13
       subst oz; exact zab [(300004, .loop (zbt b o cs rs ns 0) .ret (Nm [1, 2] [.ptr (.loc 1) 0, .dat (B false)] [Yb b o cs rs ns, none] [] [])), (25, .ret [.dat (B g25)]), (200013, .no), (200019, .no), (200027, .yes)] (ob d1 (ob (rfl : false = false) (ob (rfl : false = false) (ob (rfl : false = false) (ob d5 (ob (rfl : false = false) (ob (rfl : false = false) (ob (rfl : false = false) (ob (rfl : false = false) (ob (rfl : false = false) (ob hz1 (ob (rfl : false = false) (ob d13 ob0))))))))))))) (by kernel_rfl)
     · obtain ⟨hz1, hz2, oz⟩ := q4 d1 d5 d13
       subst oz; exact zab [(300004, .loop (zbt b o cs rs ns 0) .ret (Nm [1, 2] [.ptr (.loc 1) 0, .dat (B false)] [Yb b o cs rs ns, none] [] [])), (25, .ret [.dat (B g25)]), (200013, .no), (200019, .no), (200027, .no)] (ob d1 (ob (rfl : false = false) (ob (rfl : false = false) (ob (rfl : false = false) (ob d5 (ob (rfl : false = false) (ob (rfl : false = false) (ob (rfl : false = false) (ob (rfl : false = false) (ob (rfl : false = false) (ob hz1 (ob (rfl : false = false) (ob d13 (ob (rfl : _ = zbt b o cs rs ns 0) (ob hz2 ob0))))))))))))))) (by kernel_rfl)
theorem zmY (kk : Nat) (b : Bool) (o : Int) (cs rs ns : List Dat) (g25 : Bool) {r : Res} (q1 : (decide (200 < (cs.length : Int)) = true) → r = ([D.dat (B false)], [], [])) (q2 : (decide (200 < (cs.length : Int)) = false) → (decide (60 < (rs.length : Int)) = true) → r = ([D.dat (B false)], [], [])) (q3 : (decide (200 < (cs.length : Int)) = false) → (decide (60 < (rs.length : Int)) = false) → ((!g25) = true) → (den cfg kk 14 [D.dat (I o), D.dat (I 0), D.dat (I (cs.length : Int))] [] [] = some ([D.dat (B g25)], [], [])) ∧ r = ([D.dat (B false)], [], [])) (q4 : (decide (200 < (cs.length : Int)) = false) → (decide (60 < (rs.length : Int)) = false) → ((!g25) = false) → (den cfg kk 14 [D.dat (I o), D.dat (I 0), D.dat (I (cs.length : Int))] [] [] = some ([D.dat (B g25)], [], [])) ∧ (zam cfg kk 13 Try.f13 4 (zbt b o cs rs ns 0) (X.exit 0) (Nm [1, 2] [D.ptr (Ref.loc 1) 0, D.junk] [some [D.dat (I o), D.dat (Dat.lst b cs), D.dat (Dat.lst b rs), D.dat (Dat.lst b ns)], none] [] [])) ∧ (zam cfg kk 13 Try.f13 10 (zb0 b o cs rs ns 0) X.ret (Nm [1, 2] [D.ptr (Ref.loc 1) 0, D.dat (B false)] [some [D.dat (I o), D.dat (Dat.lst b cs), D.dat (Dat.lst b rs), D.dat (Dat.lst b ns)], none] [] [])) ∧ r = ([D.dat (B false)], [], [])) : zaC cfg kk (den cfg kk) 13 Try.f13 [.dat (Yd b o cs rs ns)] [] [] = some r := by
 rcases Bool.eq_false_or_eq_true (decide (200 < (cs.length : Int))) with d1 | d1
 · have oz := q1 d1
   subst oz; exact zab [(300004, .loop (zbt b o cs rs ns 0) (.exit 0) (Nm [1, 2] [.ptr (.loc 1) 0, .junk] [Yb b o cs rs ns, none] [] [])), (300010, .loop (zb0 b o cs rs ns 0) .ret (Nm [1, 2] [.ptr (.loc 1) 0, .dat (B false)] [Yb b o cs rs ns, none] [] [])), (25, .ret [.dat (B g25)]), (200013, .yes)] (ob d1 (ob (rfl : true = true) (ob (rfl : true = true) (ob (rfl : true = true) ob0)))) (by kernel_rfl)
 · rcases Bool.eq_false_or_eq_true (decide (60 < (rs.length : Int))) with d5 | d5
   · have oz := q2 d1 d5
     subst oz; exact zab [(300004, .loop (zbt b o cs rs ns 0) (.exit 0) (Nm [1, 2] [.ptr (.loc 1) 0, .junk] [Yb b o cs rs ns, none] [] [])), (300010, .loop (zb0 b o cs rs ns 0) .ret (Nm [1, 2] [.ptr (.loc 1) 0, .dat (B false)] [Yb b o cs rs ns, none] [] [])), (25, .ret [.dat (B g25)]), (200013, .no), (200019, .yes)] (ob d1 (ob (rfl : false = false) (ob (rfl : false = false) (ob (rfl : false = false) (ob d5 (ob (rfl : true = true) (ob (rfl : true = true) (ob (rfl : true = true) (ob (rfl : true = true) (ob (rfl : true = true) (ob (rfl : true = true) ob0))))))))))) (by kernel_rfl)
   · rcases Bool.eq_false_or_eq_true ((!g25)) with d13 | d13
     · obtain ⟨hz1, oz⟩ := q3 d1 d5 d13
       subst oz; exact zab [(300004, .loop (zbt b o cs rs ns 0) (.exit 0) (Nm [1, 2] [.ptr (.loc 1) 0, .junk] [Yb b o cs rs ns, none] [] [])), (300010, .loop (zb0 b o cs rs ns 0) .ret (Nm [1, 2] [.ptr (.loc 1) 0, .dat (B false)] [Yb b o cs rs ns, none] [] [])), (25, .ret [.dat (B g25)]), (200013, .no), (200019, .no), (200027, .yes)] (ob d1 (ob (rfl : false = false) (ob (rfl : false = false) (ob (rfl : false = false) (ob d5 (ob (rfl : false = false) (ob (rfl : false = false) (ob (rfl : false = false) (ob (rfl : false = false) (ob (rfl : false = false) (ob hz1 (ob (rfl : false = false) (ob d13 ob0))))))))))))) (by kernel_rfl)
     · obtain ⟨hz1, hz2, hz3, oz⟩ := q4 d1 d5 d13
       subst oz; exact zab [(300004, .loop (zbt b o cs rs ns 0) (.exit 0) (Nm [1, 2] [.ptr (.loc 1) 0, .junk] [Yb b o cs rs ns, none] [] [])), (300010, .loop (zb0 b o cs rs ns 0) .ret (Nm [1, 2] [.ptr (.loc 1) 0, .dat (B false)] [Yb b o cs rs ns, none] [] [])), (25, .ret [.dat (B g25)]), (200013, .no), (200019, .no), (200027, .no)] (ob d1 (ob (rfl : false = false) (ob (rfl : false = false) (ob (rfl : false = false) (ob d5 (ob (rfl : false = false) (ob (rfl : false = false) (ob (rfl : false = false) (ob (rfl : false = false) (ob (rfl : false = false) (ob hz1 (ob (rfl : false = false) (ob d13 (ob (rfl : _ = zbt b o cs rs ns 0) (ob hz2 (ob (rfl : _ = zb0 b o cs rs ns 0) (ob hz3 ob0))))))))))))))))) (by kernel_rfl)
theorem zmS (kk : Nat) (b : Bool) (o : Int) (cs rs ns : List Dat) (g25 : Bool) {r : Res} (q1 : (decide (200 < (cs.length : Int)) = true) → r = ([D.dat (B false)], [], [])) (q2 : (decide (200 < (cs.length : Int)) = false) → (decide (60 < (rs.length : Int)) = true) → r = ([D.dat (B false)], [], [])) (q3 : (decide (200 < (cs.length : Int)) = false) → (decide (60 < (rs.length : Int)) = false) → ((!g25) = true) → (den cfg kk 14 [D.dat (I o), D.dat (I 0), D.dat (I (cs.length : Int))] [] [] = some ([D.dat (B g25)], [], [])) ∧ r = ([D.dat (B false)], [], [])) (q4 : (decide (200 < (cs.length : Int)) = false) → (decide (60 < (rs.length : Int)) = false) → ((!g25) = false) → (den cfg kk 14 [D.dat (I o), D.dat (I 0), D.dat (I (cs.length : Int))] [] [] = some ([D.dat (B g25)], [], [])) ∧ (zam cfg kk 13 Try.f13 4 (zbt b o cs rs ns 0) (X.exit 0) (Nm [1, 2] [D.ptr (Ref.loc 1) 0, D.junk] [some [D.dat (I o), D.dat (Dat.lst b cs), D.dat (Dat.lst b rs), D.dat (Dat.lst b ns)], none] [] [])) ∧ (zam cfg kk 13 Try.f13 10 (zb0 b o cs rs ns 0) (X.exit 2) (Nm [1, 2] [D.ptr (Ref.loc 1) 0, D.junk] [some [D.dat (I o), D.dat (Dat.lst b cs), D.dat (Dat.lst b rs), D.dat (Dat.lst b ns)], none] [] [])) ∧ (zam cfg kk 13 Try.f13 18 (zdi b o cs rs ns 0) X.ret (Nm [2] [D.dat (B false)] [none] [] [])) ∧ r = ([D.dat (B false)], [], [])) : zaC cfg kk (den cfg kk) 13 Try.f13 [.dat (Yd b o cs rs ns)] [] [] = some r := by
 rcases Bool.eq_false_or_eq_true (decide (200 < (cs.length : Int))) with d1 | d1
 · have oz := q1 d1
   subst oz; exact zab [(300004, .loop (zbt b o cs rs ns 0) (.exit 0) (Nm [1, 2] [.ptr (.loc 1) 0, .junk] [Yb b o cs rs ns, none] [] [])), (300010, .loop (zb0 b o cs rs ns 0) (.exit 2) (Nm [1, 2] [.ptr (.loc 1) 0, .junk] [Yb b o cs rs ns, none] [] [])), (300018, .loop (zdi b o cs rs ns 0) .ret (Nm [2] [.dat (B false)] [none] [] [])), (25, .ret [.dat (B g25)]), (200013, .yes)] (ob d1 (ob (rfl : true = true) (ob (rfl : true = true) (ob (rfl : true = true) ob0)))) (by kernel_rfl)
 · rcases Bool.eq_false_or_eq_true (decide (60 < (rs.length : Int))) with d5 | d5
   · have oz := q2 d1 d5
     subst oz; exact zab [(300004, .loop (zbt b o cs rs ns 0) (.exit 0) (Nm [1, 2] [.ptr (.loc 1) 0, .junk] [Yb b o cs rs ns, none] [] [])), (300010, .loop (zb0 b o cs rs ns 0) (.exit 2) (Nm [1, 2] [.ptr (.loc 1) 0, .junk] [Yb b o cs rs ns, none] [] [])), (300018, .loop (zdi b o cs rs ns 0) .ret (Nm [2] [.dat (B false)] [none] [] [])), (25, .ret [.dat (B g25)]), (200013, .no), (200019, .yes)] (ob d1 (ob (rfl : false = false) (ob (rfl : false = false) (ob (rfl : false = false) (ob d5 (ob (rfl : true = true) (ob (rfl : true = true) (ob (rfl : true = true) (ob (rfl : true = true) (ob (rfl : true = true) (ob (rfl : true = true) ob0))))))))))) (by kernel_rfl)
   · rcases Bool.eq_false_or_eq_true ((!g25)) with d13 | d13
     · obtain ⟨hz1, oz⟩ := q3 d1 d5 d13
       subst oz; exact zab [(300004, .loop (zbt b o cs rs ns 0) (.exit 0) (Nm [1, 2] [.ptr (.loc 1) 0, .junk] [Yb b o cs rs ns, none] [] [])), (300010, .loop (zb0 b o cs rs ns 0) (.exit 2) (Nm [1, 2] [.ptr (.loc 1) 0, .junk] [Yb b o cs rs ns, none] [] [])), (300018, .loop (zdi b o cs rs ns 0) .ret (Nm [2] [.dat (B false)] [none] [] [])), (25, .ret [.dat (B g25)]), (200013, .no), (200019, .no), (200027, .yes)] (ob d1 (ob (rfl : false = false) (ob (rfl : false = false) (ob (rfl : false = false) (ob d5 (ob (rfl : false = false) (ob (rfl : false = false) (ob (rfl : false = false) (ob (rfl : false = false) (ob (rfl : false = false) (ob hz1 (ob (rfl : false = false) (ob d13 ob0))))))))))))) (by kernel_rfl)
     · obtain ⟨hz1, hz2, hz3, hz4, oz⟩ := q4 d1 d5 d13
       subst oz; exact zab [(300004, .loop (zbt b o cs rs ns 0) (.exit 0) (Nm [1, 2] [.ptr (.loc 1) 0, .junk] [Yb b o cs rs ns, none] [] [])), (300010, .loop (zb0 b o cs rs ns 0) (.exit 2) (Nm [1, 2] [.ptr (.loc 1) 0, .junk] [Yb b o cs rs ns, none] [] [])), (300018, .loop (zdi b o cs rs ns 0) .ret (Nm [2] [.dat (B false)] [none] [] [])), (25, .ret [.dat (B g25)]), (200013, .no), (200019, .no), (200027, .no)] (ob d1 (ob (rfl : false = false) (ob (rfl : false = false) (ob (rfl : false = false) (ob d5 (ob (rfl : false = false) (ob (rfl : false = false) (ob (rfl : false = false) (ob (rfl : false = false) (ob (rfl : false = false) (ob hz1 (ob (rfl : false = false) (ob d13 (ob (rfl : _ = zbt b o cs rs ns 0) (ob hz2 (ob (rfl : _ = zb0 b o cs rs ns 0) (ob hz3 (ob (rfl : _ = zdi b o cs rs ns 0) (ob hz4 ob0))))))))))))))))))) (by kernel_rfl)
theorem zmR (kk : Nat) (b : Bool) (o : Int) (cs rs ns : List Dat) (g25 : Bool) {r : Res} (q1 : (decide (200 < (cs.length : Int)) = true) → r = ([D.dat (B false)], [], [])) (q2 : (decide (200 < (cs.length : Int)) = false) → (decide (60 < (rs.length : Int)) = true) → r = ([D.dat (B false)], [], [])) (q3 : (decide (200 < (cs.length : Int)) = false) → (decide (60 < (rs.length : Int)) = false) → ((!g25) = true) → (den cfg kk 14 [D.dat (I o), D.dat (I 0), D.dat (I (cs.length : Int))] [] [] = some ([D.dat (B g25)], [], [])) ∧ r = ([D.dat (B false)], [], [])) (q4 : (decide (200 < (cs.length : Int)) = false) → (decide (60 < (rs.length : Int)) = false) → ((!g25) = false) → (den cfg kk 14 [D.dat (I o), D.dat (I 0), D.dat (I (cs.length : Int))] [] [] = some ([D.dat (B g25)], [], [])) ∧ (zam cfg kk 13 Try.f13 4 (zbt b o cs rs ns 0) (X.exit 0) (Nm [1, 2] [D.ptr (Ref.loc 1) 0, D.junk] [some [D.dat (I o), D.dat (Dat.lst b cs), D.dat (Dat.lst b rs), D.dat (Dat.lst b ns)], none] [] [])) ∧ (zam cfg kk 13 Try.f13 10 (zb0 b o cs rs ns 0) (X.exit 2) (Nm [1, 2] [D.ptr (Ref.loc 1) 0, D.junk] [some [D.dat (I o), D.dat (Dat.lst b cs), D.dat (Dat.lst b rs), D.dat (Dat.lst b ns)], none] [] [])) ∧ (zam cfg kk 13 Try.f13 18 (zdi b o cs rs ns 0) (X.exit 4) (Nm [2] [D.junk] [none] [] [])) ∧ r = ([D.dat (B true)], [], [])) : zaC cfg kk (den cfg kk) 13 Try.f13 [.dat (Yd b o cs rs ns)] [] [] = some r := by
 rcases Bool.eq_false_or_eq_true (decide (200 < (cs.length : Int))) with d1 | d1
 · have oz := q1 d1
   subst oz; exact zab [(300004, .loop (zbt b o cs rs ns 0) (.exit 0) (Nm [1, 2] [.ptr (.loc 1) 0, .junk] [Yb b o cs rs ns, none] [] [])), (300010, .loop (zb0 b o cs rs ns 0) (.exit 2) (Nm [1, 2] [.ptr (.loc 1) 0, .junk] [Yb b o cs rs ns, none] [] [])), (300018, .loop (zdi b o cs rs ns 0) (.exit 4) (Nm [2] [.junk] [none] [] [])), (25, .ret [.dat (B g25)]), (200013, .yes)] (ob d1 (ob (rfl : true = true) (ob (rfl : true = true) (ob (rfl : true = true) ob0)))) (by kernel_rfl)
 · rcases Bool.eq_false_or_eq_true (decide (60 < (rs.length : Int))) with d5 | d5
   · have oz := q2 d1 d5
     subst oz; exact zab [(300004, .loop (zbt b o cs rs ns 0) (.exit 0) (Nm [1, 2] [.ptr (.loc 1) 0, .junk] [Yb b o cs rs ns, none] [] [])), (300010, .loop (zb0 b o cs rs ns 0) (.exit 2) (Nm [1, 2] [.ptr (.loc 1) 0, .junk] [Yb b o cs rs ns, none] [] [])), (300018, .loop (zdi b o cs rs ns 0) (.exit 4) (Nm [2] [.junk] [none] [] [])), (25, .ret [.dat (B g25)]), (200013, .no), (200019, .yes)] (ob d1 (ob (rfl : false = false) (ob (rfl : false = false) (ob (rfl : false = false) (ob d5 (ob (rfl : true = true) (ob (rfl : true = true) (ob (rfl : true = true) (ob (rfl : true = true) (ob (rfl : true = true) (ob (rfl : true = true) ob0))))))))))) (by kernel_rfl)
   · rcases Bool.eq_false_or_eq_true ((!g25)) with d13 | d13
     · obtain ⟨hz1, oz⟩ := q3 d1 d5 d13
       subst oz; exact zab [(300004, .loop (zbt b o cs rs ns 0) (.exit 0) (Nm [1, 2] [.ptr (.loc 1) 0, .junk] [Yb b o cs rs ns, none] [] [])), (300010, .loop (zb0 b o cs rs ns 0) (.exit 2) (Nm [1, 2] [.ptr (.loc 1) 0, .junk] [Yb b o cs rs ns, none] [] [])), (300018, .loop (zdi b o cs rs ns 0) (.exit 4) (Nm [2] [.junk] [none] [] [])), (25, .ret [.dat (B g25)]), (200013, .no), (200019, .no), (200027, .yes)] (ob d1 (ob (rfl : false = false) (ob (rfl : false = false) (ob (rfl : false = false) (ob d5 (ob (rfl : false = false) (ob (rfl : false = false) (ob (rfl : false = false) (ob (rfl : false = false) (ob (rfl : false = false) (ob hz1 (ob (rfl : false = false) (ob d13 ob0))))))))))))) (by kernel_rfl)
     · obtain ⟨hz1, hz2, hz3, hz4, oz⟩ := q4 d1 d5 d13
       subst oz; exact zab [(300004, .loop (zbt b o cs rs ns 0) (.exit 0) (Nm [1, 2] [.ptr (.loc 1) 0, .junk] [Yb b o cs rs ns, none] [] [])), (300010, .loop (zb0 b o cs rs ns 0) (.exit 2) (Nm [1, 2] [.ptr (.loc 1) 0, .junk] [Yb b o cs rs ns, none] [] [])), (300018, .loop (zdi b o cs rs ns 0) (.exit 4) (Nm [2] [.junk] [none] [] [])), (25, .ret [.dat (B g25)]), (200013, .no), (200019, .no), (200027, .no)] (ob d1 (ob (rfl : false = false) (ob (rfl : false = false) (ob (rfl : false = false) (ob d5 (ob (rfl : false = false) (ob (rfl : false = false) (ob (rfl : false = false) (ob (rfl : false = false) (ob (rfl : false = false) (ob hz1 (ob (rfl : false = false) (ob d13 (ob (rfl : _ = zbt b o cs rs ns 0) (ob hz2 (ob (rfl : _ = zb0 b o cs rs ns 0) (ob hz3 (ob (rfl : _ = zdi b o cs rs ns 0) (ob hz4 ob0))))))))))))))))))) (by kernel_rfl)
theorem znr (kk : Nat) (x hi : Int) {r : Res} (q1 : (decide (0 ≤ x) = true) → r = ([D.dat (B (decide (x < hi)))], [], [])) (q2 : (decide (0 ≤ x) = false) → r = ([D.dat (B false)], [], [])) : zaC cfg kk (den cfg kk) 19 Try.f19 [.dat (I x), .dat (I hi)] [] [] = some r := by
 rcases Bool.eq_false_or_eq_true (decide (0 ≤ x)) with d1 | d1
 · have oz := q1 d1
   subst oz; exact zab [(200007, .yes)] (ob d1 (ob (rfl : true = true) (ob (rfl : true = true) ob0))) (by kernel_rfl)
 · have oz := q2 d1
   subst oz; exact zab [(200007, .no)] (ob d1 (ob (rfl : false = false) (ob (rfl : false = false) ob0))) (by kernel_rfl)
theorem zmL (kk : Nat) (c : Cl) (hi : Int) (g22 : Bool) (g28 : Bool) {r : Res} (q1 : (c.l = true) → (decide (c.a = 0) = true) → r = ([D.dat (B (decide (c.b = 0)))], [], [])) (q2 : (c.l = true) → (decide (c.a = 0) = false) → r = ([D.dat (B false)], [], [])) (q3 : (c.l = false) → (decide (c.n = 0) = true) → (g22 = true) → (den cfg kk 19 [D.dat (I c.a), D.dat (I hi)] [] [] = some ([D.dat (B g22)], [], [])) ∧ (den cfg kk 19 [D.dat (I c.b), D.dat (I hi)] [] [] = some ([D.dat (B g28)], [], [])) ∧ r = ([D.dat (B g28)], [], [])) (q4 : (c.l = false) → (decide (c.n = 0) = true) → (g22 = false) → (den cfg kk 19 [D.dat (I c.a), D.dat (I hi)] [] [] = some ([D.dat (B g22)], [], [])) ∧ r = ([D.dat (B false)], [], [])) (q5 : (c.l = false) → (decide (c.n = 0) = false) → r = ([D.dat (B false)], [], [])) : zaC cfg kk (den cfg kk) 31 Try.f31 [.dat (c.d), .dat (I hi)] [] [] = some r := by
 rcases Bool.eq_false_or_eq_true (c.l) with d1 | d1
 · rcases Bool.eq_false_or_eq_true (decide (c.a = 0)) with d2 | d2
   · have oz := q1 d1 d2
     subst oz; exact zab [(22, .ret [.dat (B g22)]), (28, .ret [.dat (B g28)]), (200006, .yes), (200010, .yes)] (ob d1 (ob d2 (ob (rfl : true = true) (ob (rfl : true = true) ob0)))) (by kernel_rfl)
   · have oz := q2 d1 d2
     subst oz; exact zab [(22, .ret [.dat (B g22)]), (28, .ret [.dat (B g28)]), (200006, .yes), (200010, .no)] (ob d1 (ob d2 (ob (rfl : false = false) (ob (rfl : false = false) ob0)))) (by kernel_rfl)
 · rcases Bool.eq_false_or_eq_true (decide (c.n = 0)) with d2 | d2
   · rcases Bool.eq_false_or_eq_true (g22) with d7 | d7
     · obtain ⟨hz1, hz2, oz⟩ := q3 d1 d2 d7
       subst oz; exact zab [(22, .ret [.dat (B g22)]), (28, .ret [.dat (B g28)]), (200006, .no), (200018, .yes), (200024, .yes)] (ob d1 (ob d2 (ob (rfl : true = true) (ob (rfl : true = true) (ob (rfl : true = true) (ob hz1 (ob d7 (ob (rfl : true = true) (ob (rfl : true = true) (ob (rfl : true = true) (ob hz2 ob0))))))))))) (by kernel_rfl)
     · obtain ⟨hz1, oz⟩ := q4 d1 d2 d7
       subst oz; exact zab [(22, .ret [.dat (B g22)]), (28, .ret [.dat (B g28)]), (200006, .no), (200018, .yes), (200024, .no)] (ob d1 (ob d2 (ob (rfl : true = true) (ob (rfl : true = true) (ob (rfl : true = true) (ob hz1 (ob d7 (ob (rfl : false = false) (ob (rfl : false = false) (ob (rfl : false = false) ob0)))))))))) (by kernel_rfl)
   · have oz := q5 d1 d2
     subst oz; exact zab [(22, .ret [.dat (B g22)]), (28, .ret [.dat (B g28)]), (200006, .no), (200018, .no)] (ob d1 (ob d2 (ob (rfl : false = false) (ob (rfl : false = false) (ob (rfl : false = false) ob0))))) (by kernel_rfl)
theorem names (kk : Nat) (b : Bool) (o : Int) (cs rs ns : List Dat) (c : Cl) {r : Res} (q1 : ((!c.l) = true) → (decide (o ≤ c.a) = true) → r = ([D.dat (B true)], [], [])) (q2 : ((!c.l) = true) → (decide (o ≤ c.a) = false) → r = ([D.dat (B (decide (o ≤ c.b)))], [], [])) (q3 : ((!c.l) = false) → r = ([D.dat (B false)], [], [])) : zaC cfg kk (den cfg kk) 32 Try.f32 [.dat (Yd b o cs rs ns), .dat (c.d)] [] [] = some r := by
 rcases Bool.eq_false_or_eq_true ((!c.l)) with d1 | d1
 · rcases Bool.eq_false_or_eq_true (decide (o ≤ c.a)) with d7 | d7
   · have oz := q1 d1 d7
     subst oz; exact zab [(200008, .yes), (200014, .yes)] (ob d1 (ob (rfl : true = true) (ob (rfl : true = true) (ob (rfl : true = true) (ob (rfl : true = true) (ob (rfl : true = true) (ob d7 (ob (rfl : true = true) (ob (rfl : true = true) (ob (rfl : true = true) (ob (rfl : true = true) (ob (rfl : true = true) ob0)))))))))))) (by kernel_rfl)
   · have oz := q2 d1 d7
     subst oz; exact zab [(200008, .yes), (200014, .no)] (ob d1 (ob (rfl : true = true) (ob (rfl : true = true) (ob (rfl : true = true) (ob (rfl : true = true) (ob (rfl : true = true) (ob d7 (ob (rfl : false = false) (ob (rfl : false = false) (ob (rfl : false = false) (ob (rfl : false = false) (ob (rfl : true = true) ob0)))))))))))) (by kernel_rfl)
 · have oz := q3 d1
   subst oz; exact zab [(200008, .no)] (ob d1 (ob (rfl : false = false) (ob (rfl : false = false) (ob (rfl : false = false) (ob (rfl : false = false) (ob (rfl : false = false) (ob (rfl : false = false) ob0))))))) (by kernel_rfl)
def hd89 (b : Bool) (es : List Dat) (x i : Int) : St := Nm [0, 1, 7, 8] [.dat (.lst b es), .dat (I x), .dat (I es.length), .dat (I i)] [none, none, none, none] [] []
theorem zkS (kk m : Nat) {s : St} {K : X → St → Prop} (b : Bool) (es : List Dat) (x i : Int) (x14 : Int) (hs : s.norm ((zaf cfg kk 41 Try.f41).live (zaa (lp Try.f41 2))) = hd89 b es x i) (q1 : (decide (i < (es.length : Int)) = true) → (decide (x = x14) = true) → ((0 ≤ i ∧ i < (es.length : Int)) ∧ es[i.toNat]? = some (I x14)) ∧ K (X.ret) (Nm [4] [D.dat (I i)] [none] [] [])) (q2 : (decide (i < (es.length : Int)) = true) → (decide (x = x14) = false) → ((0 ≤ i ∧ i < (es.length : Int)) ∧ es[i.toNat]? = some (I x14)) ∧ (∀ s : St, s.norm ((zaf cfg kk 41 Try.f41).live (zaa (lp Try.f41 2))) = Nm [0, 1, 7, 8] [D.dat (Dat.lst b es), D.dat (I x), D.dat (I (es.length : Int)), D.dat (I (w64 (i + 1)))] [none, none, none, none] [] [] → zai (zaf cfg kk 41 Try.f41) kk (lp Try.f41 2) m s K)) (q3 : (decide (i < (es.length : Int)) = false) → K (X.exit 0) (Nm [4] [D.junk] [none] [] [])) : zai (zaf cfg kk 41 Try.f41) kk (lp Try.f41 2) (m + 1) s K := by
 rcases Bool.eq_false_or_eq_true (decide (i < (es.length : Int))) with d1 | d1
 · rcases Bool.eq_false_or_eq_true (decide (x = x14)) with d3 | d3
   · obtain ⟨hz1, oz⟩ := q1 d1 d3
     exact zac [(14, .at (I x14)), (200009, .yes), (200016, .yes)] hs (by kernel_rfl) rfl (ob d1 (ob hz1 (ob d3 ob0))) (by kernel_rfl) oz
   · obtain ⟨hz1, oz⟩ := q2 d1 d3
     exact zaj [(14, .at (I x14)), (200009, .yes), (200016, .no)] hs (by kernel_rfl) (ob d1 (ob hz1 (ob d3 ob0))) (by kernel_rfl) oz
 · have oz := q3 d1
   exact zac [(14, .at (I x14)), (200009, .no)] hs (by kernel_rfl) rfl (ob d1 ob0) (by kernel_rfl) oz
theorem znk (kk : Nat) (b : Bool) (es : List Dat) (x : Int) {r : Res} (q1 : (zam cfg kk 41 Try.f41 2 (hd89 b es x 0) (X.exit 0) (Nm [4] [D.junk] [none] [] [])) ∧ r = ([D.dat (I (-1))], [], [])) : zaC cfg kk (den cfg kk) 41 Try.f41 [.dat (Dat.lst b es), .dat (I x)] [] [] = some r := by
 obtain ⟨hz1, oz⟩ := q1
 subst oz; exact zab [(300002, .loop (hd89 b es x 0) (.exit 0) (Nm [4] [.junk] [none] [] []))] (ob (rfl : _ = hd89 b es x 0) (ob hz1 ob0)) (by kernel_rfl)
theorem znl (kk : Nat) (b : Bool) (es : List Dat) (x j : Int) {r : Res} (q1 : (zam cfg kk 41 Try.f41 2 (hd89 b es x 0) X.ret (Nm [4] [D.dat (I j)] [none] [] [])) ∧ r = ([D.dat (I j)], [], [])) : zaC cfg kk (den cfg kk) 41 Try.f41 [.dat (Dat.lst b es), .dat (I x)] [] [] = some r := by
 obtain ⟨hz1, oz⟩ := q1
 subst oz; exact zab [(300002, .loop (hd89 b es x 0) .ret (Nm [4] [.dat (I j)] [none] [] []))] (ob (rfl : _ = hd89 b es x 0) (ob hz1 ob0)) (by kernel_rfl)
theorem contains (kk : Nat) (b : Bool) (es : List Dat) (x : Int) (x7 : Int) {r : Res} (q1 : (den cfg kk 41 [D.dat (Dat.lst b es), D.dat (I x)] [] [] = some ([D.dat (I x7)], [], [])) ∧ r = ([D.dat (B (decide (0 ≤ x7)))], [], [])) : zaC cfg kk (den cfg kk) 33 Try.f33 [.dat (Dat.lst b es), .dat (I x)] [] [] = some r := by
 obtain ⟨hz1, oz⟩ := q1
 subst oz; exact zab [(7, .ret [.dat (I x7)])] (ob hz1 ob0) (by kernel_rfl)
theorem root1 (kk : Nat) (x hi : Int) (g6 : Bool) {r : Res} (q1 : (den cfg kk 19 [D.dat (I x), D.dat (I hi)] [] [] = some ([D.dat (B g6)], [], [])) ∧ r = ([D.dat (B !g6)], [[D.dat (I hi)]], [])) : zaC cfg kk (den cfg kk) 40 Try.f40 [.dat (I x), .ptr (.up 0) 0] [[.dat (I hi)]] [] = some r := by
 obtain ⟨hz1, oz⟩ := q1
 subst oz; exact zab [(6, .ret [.dat (B g6)])] (ob hz1 ob0) (by kernel_rfl)
def zgK (b : Bool) (es : List Dat) (hi i : Int) : St := Nm [0, 1, 7, 8] [.dat (.lst b es), .fn 40 [.up 0], .dat (I es.length), .dat (I i)] [none, none, none, none] [[.dat (I hi)]] []
theorem zjs (kk m : Nat) {s : St} {K : X → St → Prop} (b : Bool) (es : List Dat) (hi i : Int) (g16 : Bool) (x14 : Int) (hs : s.norm ((zaf cfg kk 46 Try.f46).live (zaa (lp Try.f46 2))) = zgK b es hi i) (q1 : (decide (i < (es.length : Int)) = true) → (g16 = true) → ((0 ≤ i ∧ i < (es.length : Int)) ∧ es[i.toNat]? = some (I x14)) ∧ (den cfg kk 40 [D.dat (I x14), D.ptr (Ref.up 0) 0] [[D.dat (I hi)]] [] = some ([D.dat (B g16)], [[D.dat (I hi)]], [])) ∧ K (X.ret) (Nm [4] [D.dat (I i)] [none] [[D.dat (I hi)]] [])) (q2 : (decide (i < (es.length : Int)) = true) → (g16 = false) → ((0 ≤ i ∧ i < (es.length : Int)) ∧ es[i.toNat]? = some (I x14)) ∧ (den cfg kk 40 [D.dat (I x14), D.ptr (Ref.up 0) 0] [[D.dat (I hi)]] [] = some ([D.dat (B g16)], [[D.dat (I hi)]], [])) ∧ (∀ s : St, s.norm ((zaf cfg kk 46 Try.f46).live (zaa (lp Try.f46 2))) = Nm [0, 1, 7, 8] [D.dat (Dat.lst b es), D.fn 40 [Ref.up 0], D.dat (I (es.length : Int)), D.dat (I (w64 (i + 1)))] [none, none, none, none] [[D.dat (I hi)]] [] → zai (zaf cfg kk 46 Try.f46) kk (lp Try.f46 2) m s K)) (q3 : (decide (i < (es.length : Int)) = false) → K (X.exit 0) (Nm [4] [D.junk] [none] [[D.dat (I hi)]] [])) : zai (zaf cfg kk 46 Try.f46) kk (lp Try.f46 2) (m + 1) s K := by
 rcases Bool.eq_false_or_eq_true (decide (i < (es.length : Int))) with d1 | d1
 · rcases Bool.eq_false_or_eq_true (g16) with d5 | d5
   · obtain ⟨hz1, hz2, oz⟩ := q1 d1 d5
     exact zac [(16, .back [.dat (B g16)] [[.dat (I hi)]] []), (14, .at (I x14)), (200009, .yes), (200016, .yes)] hs (by kernel_rfl) rfl (ob d1 (ob hz1 (ob hz2 (ob (rfl : false = false) (ob d5 ob0))))) (by kernel_rfl) oz
   · obtain ⟨hz1, hz2, oz⟩ := q2 d1 d5
     exact zaj [(16, .back [.dat (B g16)] [[.dat (I hi)]] []), (14, .at (I x14)), (200009, .yes), (200016, .no)] hs (by kernel_rfl) (ob d1 (ob hz1 (ob hz2 (ob (rfl : false = false) (ob d5 ob0))))) (by kernel_rfl) oz
 · have oz := q3 d1
   exact zac [(16, .back [.dat (B g16)] [[.dat (I hi)]] []), (14, .at (I x14)), (200009, .no)] hs (by kernel_rfl) rfl (ob d1 ob0) (by kernel_rfl) oz
theorem zmm (kk : Nat) (b : Bool) (es : List Dat) (hi : Int) {r : Res} (q1 : (zam cfg kk 46 Try.f46 2 (zgK b es hi 0) (X.exit 0) (Nm [4] [D.junk] [none] [[D.dat (I hi)]] [])) ∧ r = ([D.dat (I (-1))], [[D.dat (I hi)]], [])) : zaC cfg kk (den cfg kk) 46 Try.f46 [.dat (Dat.lst b es), .fn 40 [.up 0]] [[.dat (I hi)]] [] = some r := by
 obtain ⟨hz1, oz⟩ := q1
 subst oz; exact zab [(300002, .loop (zgK b es hi 0) (.exit 0) (Nm [4] [.junk] [none] [[.dat (I hi)]] []))] (ob (rfl : _ = zgK b es hi 0) (ob hz1 ob0)) (by kernel_rfl)
theorem zlD (kk : Nat) (b : Bool) (es : List Dat) (hi j : Int) {r : Res} (q1 : (zam cfg kk 46 Try.f46 2 (zgK b es hi 0) X.ret (Nm [4] [D.dat (I j)] [none] [[D.dat (I hi)]] [])) ∧ r = ([D.dat (I j)], [[D.dat (I hi)]], [])) : zaC cfg kk (den cfg kk) 46 Try.f46 [.dat (Dat.lst b es), .fn 40 [.up 0]] [[.dat (I hi)]] [] = some r := by
 obtain ⟨hz1, oz⟩ := q1
 subst oz; exact zab [(300002, .loop (zgK b es hi 0) .ret (Nm [4] [.dat (I j)] [none] [[.dat (I hi)]] []))] (ob (rfl : _ = zgK b es hi 0) (ob hz1 ob0)) (by kernel_rfl)
theorem zkq (kk : Nat) (b : Bool) (es : List Dat) (hi j : Int) {r : Res} (q1 : (den cfg kk 46 [D.dat (Dat.lst b es), D.fn 40 [Ref.up 0]] [[D.dat (I hi)]] [] = some ([D.dat (I j)], [[D.dat (I hi)]], [])) ∧ r = ([D.dat (B (decide (0 ≤ j)))], [[D.dat (I hi)]], [])) : zaC cfg kk (den cfg kk) 39 Try.f39 [.dat (Dat.lst b es), .fn 40 [.up 0]] [[.dat (I hi)]] [] = some r := by
 obtain ⟨hz1, oz⟩ := q1
 subst oz; exact zab [(7, .back [.dat (I j)] [[.dat (I hi)]] [])] (ob hz1 (ob (rfl : false = false) ob0)) (by kernel_rfl)
theorem zl6 (kk : Nat) (b : Bool) (es : List Dat) (hi : Int) (g : Bool) {r : Res} (q1 : (decide ((es.length : Int) ≤ 60) = true) → (den cfg kk 39 [D.dat (Dat.lst b es), D.fn 40 [Ref.up 0]] [[D.dat (I hi)]] [] = some ([D.dat (B g)], [[D.dat (I hi)]], [])) ∧ r = ([D.dat (B !g)], [], [])) (q2 : (decide ((es.length : Int) ≤ 60) = false) → r = ([D.dat (B false)], [], [])) : zaC cfg kk (den cfg kk) 30 Try.f30 [.dat (Dat.lst b es), .dat (I hi)] [] [] = some r := by
 rcases Bool.eq_false_or_eq_true (decide ((es.length : Int) ≤ 60)) with d1 | d1
 · obtain ⟨hz1, oz⟩ := q1 d1
   subst oz; exact zab [(11, .back [.dat (B g)] [[.dat (I hi)]] []), (200008, .yes)] (ob d1 (ob (rfl : true = true) (ob (rfl : true = true) (ob hz1 (ob (rfl : false = false) (ob (rfl : true = true) ob0)))))) (by kernel_rfl)
 · have oz := q2 d1
   subst oz; exact zab [(11, .back [.dat (B g)] [[.dat (I hi)]] []), (200008, .no)] (ob d1 (ob (rfl : false = false) (ob (rfl : false = false) (ob (rfl : false = false) ob0)))) (by kernel_rfl)
def zbL (b : Bool) (o : Int) (cs rs ns : List Dat) (i : Int) : St := Nm [1, 3, 32, 33, 34] [.ptr (.loc 1) 0, .dat (I cs.length), .dat (.lst b ns), .dat (I ns.length), .dat (I i)] [Yb b o cs rs ns, none, none, none, none] [] []
theorem zlk (kk m : Nat) {s : St} {K : X → St → Prop} (b : Bool) (o : Int) (cs rs ns : List Dat) (i : Int) (x37 : Int) (g42 : Bool) (x52 : Int) (hs : s.norm ((zaf cfg kk 18 Try.f18).live (zaa (lp Try.f18 5))) = zbL b o cs rs ns i) (q1 : (decide (i < (ns.length : Int)) = true) → ((!g42) = true) → ((0 ≤ i ∧ i < (ns.length : Int)) ∧ ns[i.toNat]? = some (I x37)) ∧ (den cfg kk 19 [D.dat (I x37), D.dat (I o)] [] [] = some ([D.dat (B g42)], [], [])) ∧ K (X.ret) (Nm [1, 2, 3] [D.ptr (Ref.loc 1) 0, D.dat (B false), D.dat (I (cs.length : Int))] [some [D.dat (I o), D.dat (Dat.lst b cs), D.dat (Dat.lst b rs), D.dat (Dat.lst b ns)], none, none] [] [])) (q2 : (decide (i < (ns.length : Int)) = true) → ((!g42) = false) → (decide (0 < i) = true) → (decide (x37 ≤ x52) = true) → ((0 ≤ i ∧ i < (ns.length : Int)) ∧ ns[i.toNat]? = some (I x37)) ∧ (den cfg kk 19 [D.dat (I x37), D.dat (I o)] [] [] = some ([D.dat (B g42)], [], [])) ∧ ((0 ≤ w64 (i - 1) ∧ w64 (i - 1) < (ns.length : Int)) ∧ ns[(w64 (i - 1)).toNat]? = some (I x52)) ∧ K (X.ret) (Nm [1, 2, 3] [D.ptr (Ref.loc 1) 0, D.dat (B false), D.dat (I (cs.length : Int))] [some [D.dat (I o), D.dat (Dat.lst b cs), D.dat (Dat.lst b rs), D.dat (Dat.lst b ns)], none, none] [] [])) (q3 : (decide (i < (ns.length : Int)) = true) → ((!g42) = false) → (decide (0 < i) = true) → (decide (x37 ≤ x52) = false) → ((0 ≤ i ∧ i < (ns.length : Int)) ∧ ns[i.toNat]? = some (I x37)) ∧ (den cfg kk 19 [D.dat (I x37), D.dat (I o)] [] [] = some ([D.dat (B g42)], [], [])) ∧ ((0 ≤ w64 (i - 1) ∧ w64 (i - 1) < (ns.length : Int)) ∧ ns[(w64 (i - 1)).toNat]? = some (I x52)) ∧ (∀ s : St, s.norm ((zaf cfg kk 18 Try.f18).live (zaa (lp Try.f18 5))) = Nm [1, 3, 32, 33, 34] [D.ptr (Ref.loc 1) 0, D.dat (I (cs.length : Int)), D.dat (Dat.lst b ns), D.dat (I (ns.length : Int)), D.dat (I (w64 (i + 1)))] [some [D.dat (I o), D.dat (Dat.lst b cs), D.dat (Dat.lst b rs), D.dat (Dat.lst b ns)], none, none, none, none] [] [] → zai (zaf cfg kk 18 Try.f18) kk (lp Try.f18 5) m s K)) (q4 : (decide (i < (ns.length : Int)) = true) → ((!g42) = false) → (decide (0 < i) = false) → ((0 ≤ i ∧ i < (ns.length : Int)) ∧ ns[i.toNat]? = some (I x37)) ∧ (den cfg kk 19 [D.dat (I x37), D.dat (I o)] [] [] = some ([D.dat (B g42)], [], [])) ∧ (∀ s : St, s.norm ((zaf cfg kk 18 Try.f18).live (zaa (lp Try.f18 5))) = Nm [1, 3, 32, 33, 34] [D.ptr (Ref.loc 1) 0, D.dat (I (cs.length : Int)), D.dat (Dat.lst b ns), D.dat (I (ns.length : Int)), D.dat (I (w64 (i + 1)))] [some [D.dat (I o), D.dat (Dat.lst b cs), D.dat (Dat.lst b rs), D.dat (Dat.lst b ns)], none, none, none, none] [] [] → zai (zaf cfg kk 18 Try.f18) kk (lp Try.f18 5) m s K)) (q5 : (decide (i < (ns.length : Int)) = false) → K (X.exit 0) (Nm [1, 2, 3] [D.ptr (Ref.loc 1) 0, D.junk, D.dat (I (cs.length : Int))] [some [D.dat (I o), D.dat (Dat.lst b cs), D.dat (Dat.lst b rs), D.dat (Dat.lst b ns)], none, none] [] [])) : zai (zaf cfg kk 18 Try.f18) kk (lp Try.f18 5) (m + 1) s K := by
 rcases Bool.eq_false_or_eq_true (decide (i < (ns.length : Int))) with d1 | d1
 · rcases Bool.eq_false_or_eq_true ((!g42)) with d4 | d4
   · obtain ⟨hz1, hz2, oz⟩ := q1 d1 d4
     exact zac [(37, .at (I x37)), (42, .ret [.dat (B g42)]), (52, .at (I x52)), (200035, .yes), (200044, .yes)] hs (by kernel_rfl) rfl (ob d1 (ob hz1 (ob hz2 (ob d4 (ob (rfl : true = true) (ob (rfl : true = true) (ob (rfl : true = true) ob0))))))) (by kernel_rfl) oz
   · rcases Bool.eq_false_or_eq_true (decide (0 < i)) with d7 | d7
     · rcases Bool.eq_false_or_eq_true (decide (x37 ≤ x52)) with d17 | d17
       · obtain ⟨hz1, hz2, hz3, oz⟩ := q2 d1 d4 d7 d17
         exact zac [(37, .at (I x37)), (42, .ret [.dat (B g42)]), (52, .at (I x52)), (200035, .yes), (200044, .no), (200047, .yes), (200057, .yes)] hs (by kernel_rfl) rfl (ob d1 (ob hz1 (ob hz2 (ob d4 (ob (rfl : false = false) (ob (rfl : false = false) (ob d7 (ob (rfl : true = true) (ob (rfl : true = true) (ob (rfl : true = true) (ob (rfl : true = true) (ob hz3 (ob (rfl : true = true) (ob (rfl : true = true) (ob (rfl : true = true) (ob (rfl : false = false) (ob d17 ob0))))))))))))))))) (by kernel_rfl) oz
       · obtain ⟨hz1, hz2, hz3, oz⟩ := q3 d1 d4 d7 d17
         exact zaj [(37, .at (I x37)), (42, .ret [.dat (B g42)]), (52, .at (I x52)), (200035, .yes), (200044, .no), (200047, .yes), (200057, .no)] hs (by kernel_rfl) (ob d1 (ob hz1 (ob hz2 (ob d4 (ob (rfl : false = false) (ob (rfl : false = false) (ob d7 (ob (rfl : true = true) (ob (rfl : true = true) (ob (rfl : true = true) (ob (rfl : true = true) (ob hz3 (ob (rfl : true = true) (ob (rfl : true = true) (ob (rfl : true = true) (ob (rfl : false = false) (ob d17 ob0))))))))))))))))) (by kernel_rfl) oz
     · obtain ⟨hz1, hz2, oz⟩ := q4 d1 d4 d7
       exact zaj [(37, .at (I x37)), (42, .ret [.dat (B g42)]), (52, .at (I x52)), (200035, .yes), (200044, .no), (200047, .no)] hs (by kernel_rfl) (ob d1 (ob hz1 (ob hz2 (ob d4 (ob (rfl : false = false) (ob (rfl : false = false) (ob d7 (ob (rfl : false = false) (ob (rfl : false = false) (ob (rfl : false = false) (ob (rfl : false = false) (ob (rfl : false = false) (ob (rfl : false = false) (ob (rfl : false = false) (ob (rfl : false = false) ob0))))))))))))))) (by kernel_rfl) oz
 · have oz := q5 d1
   exact zac [(37, .at (I x37)), (42, .ret [.dat (B g42)]), (52, .at (I x52)), (200035, .no)] hs (by kernel_rfl) rfl (ob d1 ob0) (by kernel_rfl) oz
def zcI (b : Bool) (o : Int) (cs rs ns : List Dat) (i : Int) : St := Nm [1, 3, 60, 61, 62] [.ptr (.loc 1) 0, .dat (I cs.length), .dat (.lst b cs), .dat (I cs.length), .dat (I i)] [Yb b o cs rs ns, none, none, none, none] [] []
theorem zkM (kk m : Nat) {s : St} {K : X → St → Prop} (b : Bool) (o : Int) (cs rs ns : List Dat) (i : Int) (c65 : Cl) (g69 : Bool) (g79 : Bool) (g85 : Bool) (hs : s.norm ((zaf cfg kk 18 Try.f18).live (zaa (lp Try.f18 11))) = zcI b o cs rs ns i) (q1 : (decide (i < (cs.length : Int)) = true) → ((!g69) = true) → ((0 ≤ i ∧ i < (cs.length : Int)) ∧ cs[i.toNat]? = some (Dat.agg [B c65.l, I c65.n, I c65.a, I c65.b])) ∧ (den cfg kk 31 [D.dat (Dat.agg [B c65.l, I c65.n, I c65.a, I c65.b]), D.dat (I (cs.length : Int))] [] [] = some ([D.dat (B g69)], [], [])) ∧ K (X.ret) (Nm [2] [D.dat (B false)] [none] [] [])) (q2 : (decide (i < (cs.length : Int)) = true) → ((!g69) = false) → (decide (i < o) = true) → (g79 = true) → ((!g85) = true) → ((0 ≤ i ∧ i < (cs.length : Int)) ∧ cs[i.toNat]? = some (Dat.agg [B c65.l, I c65.n, I c65.a, I c65.b])) ∧ (den cfg kk 31 [D.dat (Dat.agg [B c65.l, I c65.n, I c65.a, I c65.b]), D.dat (I (cs.length : Int))] [] [] = some ([D.dat (B g69)], [], [])) ∧ (den cfg kk 32 [D.dat (Dat.agg [I o, Dat.lst b cs, Dat.lst b rs, Dat.lst b ns]), D.dat (Dat.agg [B c65.l, I c65.n, I c65.a, I c65.b])] [] [] = some ([D.dat (B g79)], [], [])) ∧ (den cfg kk 33 [D.dat (Dat.lst b ns), D.dat (I i)] [] [] = some ([D.dat (B g85)], [], [])) ∧ K (X.ret) (Nm [2] [D.dat (B false)] [none] [] [])) (q3 : (decide (i < (cs.length : Int)) = true) → ((!g69) = false) → (decide (i < o) = true) → (g79 = true) → ((!g85) = false) → ((0 ≤ i ∧ i < (cs.length : Int)) ∧ cs[i.toNat]? = some (Dat.agg [B c65.l, I c65.n, I c65.a, I c65.b])) ∧ (den cfg kk 31 [D.dat (Dat.agg [B c65.l, I c65.n, I c65.a, I c65.b]), D.dat (I (cs.length : Int))] [] [] = some ([D.dat (B g69)], [], [])) ∧ (den cfg kk 32 [D.dat (Dat.agg [I o, Dat.lst b cs, Dat.lst b rs, Dat.lst b ns]), D.dat (Dat.agg [B c65.l, I c65.n, I c65.a, I c65.b])] [] [] = some ([D.dat (B g79)], [], [])) ∧ (den cfg kk 33 [D.dat (Dat.lst b ns), D.dat (I i)] [] [] = some ([D.dat (B g85)], [], [])) ∧ (∀ s : St, s.norm ((zaf cfg kk 18 Try.f18).live (zaa (lp Try.f18 11))) = Nm [1, 3, 60, 61, 62] [D.ptr (Ref.loc 1) 0, D.dat (I (cs.length : Int)), D.dat (Dat.lst b cs), D.dat (I (cs.length : Int)), D.dat (I (w64 (i + 1)))] [some [D.dat (I o), D.dat (Dat.lst b cs), D.dat (Dat.lst b rs), D.dat (Dat.lst b ns)], none, none, none, none] [] [] → zai (zaf cfg kk 18 Try.f18) kk (lp Try.f18 11) m s K)) (q4 : (decide (i < (cs.length : Int)) = true) → ((!g69) = false) → (decide (i < o) = true) → (g79 = false) → ((0 ≤ i ∧ i < (cs.length : Int)) ∧ cs[i.toNat]? = some (Dat.agg [B c65.l, I c65.n, I c65.a, I c65.b])) ∧ (den cfg kk 31 [D.dat (Dat.agg [B c65.l, I c65.n, I c65.a, I c65.b]), D.dat (I (cs.length : Int))] [] [] = some ([D.dat (B g69)], [], [])) ∧ (den cfg kk 32 [D.dat (Dat.agg [I o, Dat.lst b cs, Dat.lst b rs, Dat.lst b ns]), D.dat (Dat.agg [B c65.l, I c65.n, I c65.a, I c65.b])] [] [] = some ([D.dat (B g79)], [], [])) ∧ (∀ s : St, s.norm ((zaf cfg kk 18 Try.f18).live (zaa (lp Try.f18 11))) = Nm [1, 3, 60, 61, 62] [D.ptr (Ref.loc 1) 0, D.dat (I (cs.length : Int)), D.dat (Dat.lst b cs), D.dat (I (cs.length : Int)), D.dat (I (w64 (i + 1)))] [some [D.dat (I o), D.dat (Dat.lst b cs), D.dat (Dat.lst b rs), D.dat (Dat.lst b ns)], none, none, none, none] [] [] → zai (zaf cfg kk 18 Try.f18) kk (lp Try.f18 11) m s K)) (q5 : (decide (i < (cs.length : Int)) = true) → ((!g69) = false) → (decide (i < o) = false) → ((0 ≤ i ∧ i < (cs.length : Int)) ∧ cs[i.toNat]? = some (Dat.agg [B c65.l, I c65.n, I c65.a, I c65.b])) ∧ (den cfg kk 31 [D.dat (Dat.agg [B c65.l, I c65.n, I c65.a, I c65.b]), D.dat (I (cs.length : Int))] [] [] = some ([D.dat (B g69)], [], [])) ∧ (∀ s : St, s.norm ((zaf cfg kk 18 Try.f18).live (zaa (lp Try.f18 11))) = Nm [1, 3, 60, 61, 62] [D.ptr (Ref.loc 1) 0, D.dat (I (cs.length : Int)), D.dat (Dat.lst b cs), D.dat (I (cs.length : Int)), D.dat (I (w64 (i + 1)))] [some [D.dat (I o), D.dat (Dat.lst b cs), D.dat (Dat.lst b rs), D.dat (Dat.lst b ns)], none, none, none, none] [] [] → zai (zaf cfg kk 18 Try.f18) kk (lp Try.f18 11) m s K)) (q6 : (decide (i < (cs.length : Int)) = false) → K (X.exit 2) (Nm [2] [D.junk] [none] [] [])) : zai (zaf cfg kk 18 Try.f18) kk (lp Try.f18 11) (m + 1) s K := by
 rcases Bool.eq_false_or_eq_true (decide (i < (cs.length : Int))) with d1 | d1
 · rcases Bool.eq_false_or_eq_true ((!g69)) with d4 | d4
   · obtain ⟨hz1, hz2, oz⟩ := q1 d1 d4
     exact zac [(65, .at (c65.d)), (69, .ret [.dat (B g69)]), (79, .ret [.dat (B g79)]), (85, .ret [.dat (B g85)]), (200063, .yes), (200071, .yes)] hs (by kernel_rfl) rfl (ob d1 (ob hz1 (ob hz2 (ob d4 (ob (rfl : true = true) (ob (rfl : true = true) (ob (rfl : true = true) (ob (rfl : true = true) (ob (rfl : true = true) (ob (rfl : true = true) (ob (rfl : true = true) ob0))))))))))) (by kernel_rfl) oz
   · rcases Bool.eq_false_or_eq_true (decide (i < o)) with d9 | d9
     · rcases Bool.eq_false_or_eq_true (g79) with d15 | d15
       · rcases Bool.eq_false_or_eq_true ((!g85)) with d22 | d22
         · obtain ⟨hz1, hz2, hz3, hz4, oz⟩ := q2 d1 d4 d9 d15 d22
           exact zac [(65, .at (c65.d)), (69, .ret [.dat (B g69)]), (79, .ret [.dat (B g79)]), (85, .ret [.dat (B g85)]), (200063, .yes), (200071, .no), (200076, .yes), (200081, .yes), (200088, .yes)] hs (by kernel_rfl) rfl (ob d1 (ob hz1 (ob hz2 (ob d4 (ob (rfl : false = false) (ob (rfl : false = false) (ob (rfl : false = false) (ob (rfl : false = false) (ob d9 (ob (rfl : true = true) (ob (rfl : true = true) (ob hz3 (ob (rfl : false = false) (ob (rfl : false = false) (ob d15 (ob (rfl : true = true) (ob (rfl : true = true) (ob (rfl : true = true) (ob hz4 (ob (rfl : true = true) (ob (rfl : false = false) (ob d22 ob0)))))))))))))))))))))) (by kernel_rfl) oz
         · obtain ⟨hz1, hz2, hz3, hz4, oz⟩ := q3 d1 d4 d9 d15 d22
           exact zaj [(65, .at (c65.d)), (69, .ret [.dat (B g69)]), (79, .ret [.dat (B g79)]), (85, .ret [.dat (B g85)]), (200063, .yes), (200071, .no), (200076, .yes), (200081, .yes), (200088, .no)] hs (by kernel_rfl) (ob d1 (ob hz1 (ob hz2 (ob d4 (ob (rfl : false = false) (ob (rfl : false = false) (ob (rfl : false = false) (ob (rfl : false = false) (ob d9 (ob (rfl : true = true) (ob (rfl : true = true) (ob hz3 (ob (rfl : false = false) (ob (rfl : false = false) (ob d15 (ob (rfl : true = true) (ob (rfl : true = true) (ob (rfl : true = true) (ob hz4 (ob (rfl : true = true) (ob (rfl : false = false) (ob d22 ob0)))))))))))))))))))))) (by kernel_rfl) oz
       · obtain ⟨hz1, hz2, hz3, oz⟩ := q4 d1 d4 d9 d15
         exact zaj [(65, .at (c65.d)), (69, .ret [.dat (B g69)]), (79, .ret [.dat (B g79)]), (85, .ret [.dat (B g85)]), (200063, .yes), (200071, .no), (200076, .yes), (200081, .no)] hs (by kernel_rfl) (ob d1 (ob hz1 (ob hz2 (ob d4 (ob (rfl : false = false) (ob (rfl : false = false) (ob (rfl : false = false) (ob (rfl : false = false) (ob d9 (ob (rfl : true = true) (ob (rfl : true = true) (ob hz3 (ob (rfl : false = false) (ob (rfl : false = false) (ob d15 (ob (rfl : false = false) (ob (rfl : false = false) (ob (rfl : false = false) (ob (rfl : false = false) (ob (rfl : false = false) ob0)))))))))))))))))))) (by kernel_rfl) oz
     · obtain ⟨hz1, hz2, oz⟩ := q5 d1 d4 d9
       exact zaj [(65, .at (c65.d)), (69, .ret [.dat (B g69)]), (79, .ret [.dat (B g79)]), (85, .ret [.dat (B g85)]), (200063, .yes), (200071, .no), (200076, .no)] hs (by kernel_rfl) (ob d1 (ob hz1 (ob hz2 (ob d4 (ob (rfl : false = false) (ob (rfl : false = false) (ob (rfl : false = false) (ob (rfl : false = false) (ob d9 (ob (rfl : false = false) (ob (rfl : false = false) (ob (rfl : false = false) (ob (rfl : false = false) (ob (rfl : false = false) ob0)))))))))))))) (by kernel_rfl) oz
 · have oz := q6 d1
   exact zac [(65, .at (c65.d)), (69, .ret [.dat (B g69)]), (79, .ret [.dat (B g79)]), (85, .ret [.dat (B g85)]), (200063, .no)] hs (by kernel_rfl) rfl (ob d1 ob0) (by kernel_rfl) oz
theorem znj (kk : Nat) (b : Bool) (o : Int) (cs rs ns : List Dat) (g28 : Bool) {r : Res} (q1 : (decide (200 < (cs.length : Int)) = true) → r = ([D.dat (B false)], [], [])) (q2 : (decide (200 < (cs.length : Int)) = false) → (decide (o < 0) = true) → r = ([D.dat (B false)], [], [])) (q3 : (decide (200 < (cs.length : Int)) = false) → (decide (o < 0) = false) → (decide ((cs.length : Int) < o) = true) → r = ([D.dat (B false)], [], [])) (q4 : (decide (200 < (cs.length : Int)) = false) → (decide (o < 0) = false) → (decide ((cs.length : Int) < o) = false) → ((!g28) = true) → (den cfg kk 30 [D.dat (Dat.lst b rs), D.dat (I (cs.length : Int))] [] [] = some ([D.dat (B g28)], [], [])) ∧ r = ([D.dat (B false)], [], [])) (q5 : (decide (200 < (cs.length : Int)) = false) → (decide (o < 0) = false) → (decide ((cs.length : Int) < o) = false) → ((!g28) = false) → (den cfg kk 30 [D.dat (Dat.lst b rs), D.dat (I (cs.length : Int))] [] [] = some ([D.dat (B g28)], [], [])) ∧ (zam cfg kk 18 Try.f18 5 (zbL b o cs rs ns 0) X.ret (Nm [1, 2, 3] [D.ptr (Ref.loc 1) 0, D.dat (B false), D.dat (I (cs.length : Int))] [some [D.dat (I o), D.dat (Dat.lst b cs), D.dat (Dat.lst b rs), D.dat (Dat.lst b ns)], none, none] [] [])) ∧ r = ([D.dat (B false)], [], [])) : zaC cfg kk (den cfg kk) 18 Try.f18 [.dat (Yd b o cs rs ns)] [] [] = some r := by
 rcases Bool.eq_false_or_eq_true (decide (200 < (cs.length : Int))) with d1 | d1
 · have oz := q1 d1
   subst oz; exact zab [(300005, .loop (zbL b o cs rs ns 0) .ret (Nm [1, 2, 3] [.ptr (.loc 1) 0, .dat (B false), .dat (I cs.length)] [Yb b o cs rs ns, none, none] [] [])), (28, .ret [.dat (B g28)]), (200013, .yes)] (ob d1 (ob (rfl : true = true) (ob (rfl : true = true) ob0))) (by kernel_rfl)
 · rcases Bool.eq_false_or_eq_true (decide (o < 0)) with d4 | d4
   · have oz := q2 d1 d4
     subst oz; exact zab [(300005, .loop (zbL b o cs rs ns 0) .ret (Nm [1, 2, 3] [.ptr (.loc 1) 0, .dat (B false), .dat (I cs.length)] [Yb b o cs rs ns, none, none] [] [])), (28, .ret [.dat (B g28)]), (200013, .no), (200018, .yes)] (ob d1 (ob (rfl : false = false) (ob (rfl : false = false) (ob d4 (ob (rfl : true = true) (ob (rfl : true = true) (ob (rfl : true = true) ob0))))))) (by kernel_rfl)
   · rcases Bool.eq_false_or_eq_true (decide ((cs.length : Int) < o)) with d8 | d8
     · have oz := q3 d1 d4 d8
       subst oz; exact zab [(300005, .loop (zbL b o cs rs ns 0) .ret (Nm [1, 2, 3] [.ptr (.loc 1) 0, .dat (B false), .dat (I cs.length)] [Yb b o cs rs ns, none, none] [] [])), (28, .ret [.dat (B g28)]), (200013, .no), (200018, .no), (200024, .yes)] (ob d1 (ob (rfl : false = false) (ob (rfl : false = false) (ob d4 (ob (rfl : false = false) (ob (rfl : false = false) (ob (rfl : false = false) (ob d8 (ob (rfl : true = true) (ob (rfl : true = true) (ob (rfl : true = true) (ob (rfl : true = true) ob0)))))))))))) (by kernel_rfl)
     · rcases Bool.eq_false_or_eq_true ((!g28)) with d14 | d14
       · obtain ⟨hz1, oz⟩ := q4 d1 d4 d8 d14
         subst oz; exact zab [(300005, .loop (zbL b o cs rs ns 0) .ret (Nm [1, 2, 3] [.ptr (.loc 1) 0, .dat (B false), .dat (I cs.length)] [Yb b o cs rs ns, none, none] [] [])), (28, .ret [.dat (B g28)]), (200013, .no), (200018, .no), (200024, .no), (200030, .yes)] (ob d1 (ob (rfl : false = false) (ob (rfl : false = false) (ob d4 (ob (rfl : false = false) (ob (rfl : false = false) (ob (rfl : false = false) (ob d8 (ob (rfl : false = false) (ob (rfl : false = false) (ob (rfl : false = false) (ob hz1 (ob (rfl : false = false) (ob d14 ob0)))))))))))))) (by kernel_rfl)
       · obtain ⟨hz1, hz2, oz⟩ := q5 d1 d4 d8 d14
         subst oz; exact zab [(300005, .loop (zbL b o cs rs ns 0) .ret (Nm [1, 2, 3] [.ptr (.loc 1) 0, .dat (B false), .dat (I cs.length)] [Yb b o cs rs ns, none, none] [] [])), (28, .ret [.dat (B g28)]), (200013, .no), (200018, .no), (200024, .no), (200030, .no)] (ob d1 (ob (rfl : false = false) (ob (rfl : false = false) (ob d4 (ob (rfl : false = false) (ob (rfl : false = false) (ob (rfl : false = false) (ob d8 (ob (rfl : false = false) (ob (rfl : false = false) (ob (rfl : false = false) (ob hz1 (ob (rfl : false = false) (ob d14 (ob (rfl : _ = zbL b o cs rs ns 0) (ob hz2 ob0)))))))))))))))) (by kernel_rfl)
theorem zns (kk : Nat) (b : Bool) (o : Int) (cs rs ns : List Dat) (g28 : Bool) {r : Res} (q1 : (decide (200 < (cs.length : Int)) = true) → r = ([D.dat (B false)], [], [])) (q2 : (decide (200 < (cs.length : Int)) = false) → (decide (o < 0) = true) → r = ([D.dat (B false)], [], [])) (q3 : (decide (200 < (cs.length : Int)) = false) → (decide (o < 0) = false) → (decide ((cs.length : Int) < o) = true) → r = ([D.dat (B false)], [], [])) (q4 : (decide (200 < (cs.length : Int)) = false) → (decide (o < 0) = false) → (decide ((cs.length : Int) < o) = false) → ((!g28) = true) → (den cfg kk 30 [D.dat (Dat.lst b rs), D.dat (I (cs.length : Int))] [] [] = some ([D.dat (B g28)], [], [])) ∧ r = ([D.dat (B false)], [], [])) (q5 : (decide (200 < (cs.length : Int)) = false) → (decide (o < 0) = false) → (decide ((cs.length : Int) < o) = false) → ((!g28) = false) → (den cfg kk 30 [D.dat (Dat.lst b rs), D.dat (I (cs.length : Int))] [] [] = some ([D.dat (B g28)], [], [])) ∧ (zam cfg kk 18 Try.f18 5 (zbL b o cs rs ns 0) (X.exit 0) (Nm [1, 2, 3] [D.ptr (Ref.loc 1) 0, D.junk, D.dat (I (cs.length : Int))] [some [D.dat (I o), D.dat (Dat.lst b cs), D.dat (Dat.lst b rs), D.dat (Dat.lst b ns)], none, none] [] [])) ∧ (zam cfg kk 18 Try.f18 11 (zcI b o cs rs ns 0) X.ret (Nm [2] [D.dat (B false)] [none] [] [])) ∧ r = ([D.dat (B false)], [], [])) : zaC cfg kk (den cfg kk) 18 Try.f18 [.dat (Yd b o cs rs ns)] [] [] = some r := by
 rcases Bool.eq_false_or_eq_true (decide (200 < (cs.length : Int))) with d1 | d1
 · have oz := q1 d1
   subst oz; exact zab [(300005, .loop (zbL b o cs rs ns 0) (.exit 0) (Nm [1, 2, 3] [.ptr (.loc 1) 0, .junk, .dat (I cs.length)] [Yb b o cs rs ns, none, none] [] [])), (300011, .loop (zcI b o cs rs ns 0) .ret (Nm [2] [.dat (B false)] [none] [] [])), (28, .ret [.dat (B g28)]), (200013, .yes)] (ob d1 (ob (rfl : true = true) (ob (rfl : true = true) ob0))) (by kernel_rfl)
 · rcases Bool.eq_false_or_eq_true (decide (o < 0)) with d4 | d4
   · have oz := q2 d1 d4
     subst oz; exact zab [(300005, .loop (zbL b o cs rs ns 0) (.exit 0) (Nm [1, 2, 3] [.ptr (.loc 1) 0, .junk, .dat (I cs.length)] [Yb b o cs rs ns, none, none] [] [])), (300011, .loop (zcI b o cs rs ns 0) .ret (Nm [2] [.dat (B false)] [none] [] [])), (28, .ret [.dat (B g28)]), (200013, .no), (200018, .yes)] (ob d1 (ob (rfl : false = false) (ob (rfl : false = false) (ob d4 (ob (rfl : true = true) (ob (rfl : true = true) (ob (rfl : true = true) ob0))))))) (by kernel_rfl)
   · rcases Bool.eq_false_or_eq_true (decide ((cs.length : Int) < o)) with d8 | d8
     · have oz := q3 d1 d4 d8
       subst oz; exact zab [(300005, .loop (zbL b o cs rs ns 0) (.exit 0) (Nm [1, 2, 3] [.ptr (.loc 1) 0, .junk, .dat (I cs.length)] [Yb b o cs rs ns, none, none] [] [])), (300011, .loop (zcI b o cs rs ns 0) .ret (Nm [2] [.dat (B false)] [none] [] [])), (28, .ret [.dat (B g28)]), (200013, .no), (200018, .no), (200024, .yes)] (ob d1 (ob (rfl : false = false) (ob (rfl : false = false) (ob d4 (ob (rfl : false = false) (ob (rfl : false = false) (ob (rfl : false = false) (ob d8 (ob (rfl : true = true) (ob (rfl : true = true) (ob (rfl : true = true) (ob (rfl : true = true) ob0)))))))))))) (by kernel_rfl)
     · rcases Bool.eq_false_or_eq_true ((!g28)) with d14 | d14
       · obtain ⟨hz1, oz⟩ := q4 d1 d4 d8 d14
         subst oz; exact zab [(300005, .loop (zbL b o cs rs ns 0) (.exit 0) (Nm [1, 2, 3] [.ptr (.loc 1) 0, .junk, .dat (I cs.length)] [Yb b o cs rs ns, none, none] [] [])), (300011, .loop (zcI b o cs rs ns 0) .ret (Nm [2] [.dat (B false)] [none] [] [])), (28, .ret [.dat (B g28)]), (200013, .no), (200018, .no), (200024, .no), (200030, .yes)] (ob d1 (ob (rfl : false = false) (ob (rfl : false = false) (ob d4 (ob (rfl : false = false) (ob (rfl : false = false) (ob (rfl : false = false) (ob d8 (ob (rfl : false = false) (ob (rfl : false = false) (ob (rfl : false = false) (ob hz1 (ob (rfl : false = false) (ob d14 ob0)))))))))))))) (by kernel_rfl)
       · obtain ⟨hz1, hz2, hz3, oz⟩ := q5 d1 d4 d8 d14
         subst oz; exact zab [(300005, .loop (zbL b o cs rs ns 0) (.exit 0) (Nm [1, 2, 3] [.ptr (.loc 1) 0, .junk, .dat (I cs.length)] [Yb b o cs rs ns, none, none] [] [])), (300011, .loop (zcI b o cs rs ns 0) .ret (Nm [2] [.dat (B false)] [none] [] [])), (28, .ret [.dat (B g28)]), (200013, .no), (200018, .no), (200024, .no), (200030, .no)] (ob d1 (ob (rfl : false = false) (ob (rfl : false = false) (ob d4 (ob (rfl : false = false) (ob (rfl : false = false) (ob (rfl : false = false) (ob d8 (ob (rfl : false = false) (ob (rfl : false = false) (ob (rfl : false = false) (ob hz1 (ob (rfl : false = false) (ob d14 (ob (rfl : _ = zbL b o cs rs ns 0) (ob hz2 (ob (rfl : _ = zcI b o cs rs ns 0) (ob hz3 ob0)))))))))))))))))) (by kernel_rfl)
theorem zmQ (kk : Nat) (b : Bool) (o : Int) (cs rs ns : List Dat) (g28 : Bool) {r : Res} (q1 : (decide (200 < (cs.length : Int)) = true) → r = ([D.dat (B false)], [], [])) (q2 : (decide (200 < (cs.length : Int)) = false) → (decide (o < 0) = true) → r = ([D.dat (B false)], [], [])) (q3 : (decide (200 < (cs.length : Int)) = false) → (decide (o < 0) = false) → (decide ((cs.length : Int) < o) = true) → r = ([D.dat (B false)], [], [])) (q4 : (decide (200 < (cs.length : Int)) = false) → (decide (o < 0) = false) → (decide ((cs.length : Int) < o) = false) → ((!g28) = true) → (den cfg kk 30 [D.dat (Dat.lst b rs), D.dat (I (cs.length : Int))] [] [] = some ([D.dat (B g28)], [], [])) ∧ r = ([D.dat (B false)], [], [])) (q5 : (decide (200 < (cs.length : Int)) = false) → (decide (o < 0) = false) → (decide ((cs.length : Int) < o) = false) → ((!g28) = false) → (den cfg kk 30 [D.dat (Dat.lst b rs), D.dat (I (cs.length : Int))] [] [] = some ([D.dat (B g28)], [], [])) ∧ (zam cfg kk 18 Try.f18 5 (zbL b o cs rs ns 0) (X.exit 0) (Nm [1, 2, 3] [D.ptr (Ref.loc 1) 0, D.junk, D.dat (I (cs.length : Int))] [some [D.dat (I o), D.dat (Dat.lst b cs), D.dat (Dat.lst b rs), D.dat (Dat.lst b ns)], none, none] [] [])) ∧ (zam cfg kk 18 Try.f18 11 (zcI b o cs rs ns 0) (X.exit 2) (Nm [2] [D.junk] [none] [] [])) ∧ r = ([D.dat (B true)], [], [])) : zaC cfg kk (den cfg kk) 18 Try.f18 [.dat (Yd b o cs rs ns)] [] [] = some r := by
 rcases Bool.eq_false_or_eq_true (decide (200 < (cs.length : Int))) with d1 | d1
 · have oz := q1 d1
   subst oz; exact zab [(300005, .loop (zbL b o cs rs ns 0) (.exit 0) (Nm [1, 2, 3] [.ptr (.loc 1) 0, .junk, .dat (I cs.length)] [Yb b o cs rs ns, none, none] [] [])), (300011, .loop (zcI b o cs rs ns 0) (.exit 2) (Nm [2] [.junk] [none] [] [])), (28, .ret [.dat (B g28)]), (200013, .yes)] (ob d1 (ob (rfl : true = true) (ob (rfl : true = true) ob0))) (by kernel_rfl)
 · rcases Bool.eq_false_or_eq_true (decide (o < 0)) with d4 | d4
   · have oz := q2 d1 d4
     subst oz; exact zab [(300005, .loop (zbL b o cs rs ns 0) (.exit 0) (Nm [1, 2, 3] [.ptr (.loc 1) 0, .junk, .dat (I cs.length)] [Yb b o cs rs ns, none, none] [] [])), (300011, .loop (zcI b o cs rs ns 0) (.exit 2) (Nm [2] [.junk] [none] [] [])), (28, .ret [.dat (B g28)]), (200013, .no), (200018, .yes)] (ob d1 (ob (rfl : false = false) (ob (rfl : false = false) (ob d4 (ob (rfl : true = true) (ob (rfl : true = true) (ob (rfl : true = true) ob0))))))) (by kernel_rfl)
   · rcases Bool.eq_false_or_eq_true (decide ((cs.length : Int) < o)) with d8 | d8
     · have oz := q3 d1 d4 d8
       subst oz; exact zab [(300005, .loop (zbL b o cs rs ns 0) (.exit 0) (Nm [1, 2, 3] [.ptr (.loc 1) 0, .junk, .dat (I cs.length)] [Yb b o cs rs ns, none, none] [] [])), (300011, .loop (zcI b o cs rs ns 0) (.exit 2) (Nm [2] [.junk] [none] [] [])), (28, .ret [.dat (B g28)]), (200013, .no), (200018, .no), (200024, .yes)] (ob d1 (ob (rfl : false = false) (ob (rfl : false = false) (ob d4 (ob (rfl : false = false) (ob (rfl : false = false) (ob (rfl : false = false) (ob d8 (ob (rfl : true = true) (ob (rfl : true = true) (ob (rfl : true = true) (ob (rfl : true = true) ob0)))))))))))) (by kernel_rfl)
     · rcases Bool.eq_false_or_eq_true ((!g28)) with d14 | d14
       · obtain ⟨hz1, oz⟩ := q4 d1 d4 d8 d14
         subst oz; exact zab [(300005, .loop (zbL b o cs rs ns 0) (.exit 0) (Nm [1, 2, 3] [.ptr (.loc 1) 0, .junk, .dat (I cs.length)] [Yb b o cs rs ns, none, none] [] [])), (300011, .loop (zcI b o cs rs ns 0) (.exit 2) (Nm [2] [.junk] [none] [] [])), (28, .ret [.dat (B g28)]), (200013, .no), (200018, .no), (200024, .no), (200030, .yes)] (ob d1 (ob (rfl : false = false) (ob (rfl : false = false) (ob d4 (ob (rfl : false = false) (ob (rfl : false = false) (ob (rfl : false = false) (ob d8 (ob (rfl : false = false) (ob (rfl : false = false) (ob (rfl : false = false) (ob hz1 (ob (rfl : false = false) (ob d14 ob0)))))))))))))) (by kernel_rfl)
       · obtain ⟨hz1, hz2, hz3, oz⟩ := q5 d1 d4 d8 d14
         subst oz; exact zab [(300005, .loop (zbL b o cs rs ns 0) (.exit 0) (Nm [1, 2, 3] [.ptr (.loc 1) 0, .junk, .dat (I cs.length)] [Yb b o cs rs ns, none, none] [] [])), (300011, .loop (zcI b o cs rs ns 0) (.exit 2) (Nm [2] [.junk] [none] [] [])), (28, .ret [.dat (B g28)]), (200013, .no), (200018, .no), (200024, .no), (200030, .no)] (ob d1 (ob (rfl : false = false) (ob (rfl : false = false) (ob d4 (ob (rfl : false = false) (ob (rfl : false = false) (ob (rfl : false = false) (ob d8 (ob (rfl : false = false) (ob (rfl : false = false) (ob (rfl : false = false) (ob hz1 (ob (rfl : false = false) (ob d14 (ob (rfl : _ = zbL b o cs rs ns 0) (ob hz2 (ob (rfl : _ = zcI b o cs rs ns 0) (ob hz3 ob0)))))))))))))))))) (by kernel_rfl)
end Go.Den
