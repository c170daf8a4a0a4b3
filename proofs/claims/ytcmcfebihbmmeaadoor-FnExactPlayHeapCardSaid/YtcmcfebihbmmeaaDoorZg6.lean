/- Merged out of: D33 D34 Dt E0 E1 EE HA (prune.py, a program of this work's). -/
import Derived.Test.YtcmcfebihbmmeaaDoorZg1
import Derived.Test.YtcmcfebihbmmeaaDoorZg5
import Derived.KernelRfl
import Derived.IntWalk
set_option linter.unusedVariables false
set_option linter.unusedSimpArgs false
set_option linter.unnecessarySimpa false
namespace Go.Den
open Go
set_option linter.unusedVariables false
inductive Hint where
 | yes
 | no
 | put (d : D)
 | to (f : St → St)
 | at (d : Dat)
 | ok
 | ret (rs : List D)
 | back (rs : List D) (u : List (List D)) (l : List (Option Row))
 | loop (s0 : St) (x : X) (s : St)
def Obs : List Prop → Prop
 | [] => True
 | p :: l => p ∧ Obs l
theorem zgi : ∀ {a b : List Prop}, Obs (a ++ b) → Obs a ∧ Obs b
 | [], b, h => ⟨trivial, h⟩
 | p :: a, b, h => by
   have h' : p ∧ Obs (a ++ b) := h
   obtain ⟨h1, h2⟩ := zgi h'.2
   exact ⟨⟨h'.1, h1⟩, h2⟩
abbrev zcL := List (Nat × Hint)
def zjP : zcL → Nat → Option Hint
 | [], _ => none
 | (a, x) :: l, n => match Nat.beq a n with | true => some x | false => zjP l n
def keyOf (o : Oper) : Option Nat :=
 match o.dst, o.op with
 | some n, _ => some n
 | none, .store _ (.tmp a) _ => some (100000 + a)
 | _, _ => none
def hadd {α : Type} (p : Prop) : Option (List Prop × α) → Option (List Prop × α)
 | some r => some (p :: r.1, r.2)
 | none => none
def zmx {α : Type} (hs : zcL) (s : St) (x : Nat) (yes no : St → Option (List Prop × α)) (und : Option (List Prop × α)) : Option (List Prop × α) :=
 match s.t x with
 | .dat (.val (.bool b)) => match zjP hs (200000 + x) with
   | some .yes => hadd (b = true) (yes (s.force x true))
   | some .no => hadd (b = false) (no (s.force x false))
   | _ => match b with | true => yes (s.force x true) | false => no (s.force x false)
 | .undef => und
 | _ => none
def hcond {α : Type} (hs : zcL) (s : St) (c : Operand) (yes no : St → Option (List Prop × α)) : Option (List Prop × α) :=
 match c with
 | .tmp x => zmx hs s x yes no none
 | .const (.bool v) => match v with | true => yes s | false => no s
 | _ => none
def zke {α : Type} (hs : zcL) (ops : Array Oper) (s : St) (g : Option (Nat × Bool)) (k z : St → Option (List Prop × α)) : Option (List Prop × α) :=
 match g with
 | none => k s
 | some (j, want) => match (ops[j]?).bind (·.dst) with
   | none => none
   | some x => match want with
     | true => zmx hs s x k z (z s)
     | false => zmx hs s x z k (z s)
def Env.with (E : Env) (q : List D × List (List D) × List (Option Row)) : Env := { E with call := fun _ _ _ _ => some q }
def zdz (E : Env) (s : St) (o : Oper) : Option (Nat × List D × Bool) :=
 match o.op with
 | .call ca => match ca.callee with
   | .value z => match s.look z with
     | .fn f [] => match zcM (E.mode f) with
       | true => (match zf2 s.get (zaX E s.look ca.args.toList ca.argTypes.toList) with
         | some r => some (f, r.1.map .dat, r.2)
         | none => none)
       | false => none
     | _ => none
   | _ => none
 | _ => none
def zmL (E : Env) (s : St) (f : Nat) (cap : List Ref) (args : List D) : Option (List D × List (List D) × List (Option Row)) :=
 (zaE (E.mode f) args s).bind fun a =>
 (zbf a.2.get (E.mode f) a.1).bind fun ls =>
 match zaS ls with
 | false => none
 | true => match cap.isEmpty && a.1.all zju with
   | true => (zaF (hide ls false a.2.get) 0 [] (E.mode f) 0 a.1).map fun v => (v.1, [], ls.map fun p => some p.2)
   | false => match ls.all fun p => !p.1.ofCell with
     | false => none
     | true =>
       let keys := a.2.sent E.nt cap a.1; let m := a.2.u.length
       (zaF (hide ls true a.2.get) m keys (E.mode f) 0 a.1).bind fun v =>
       (zbY m keys cap).bind fun caps =>
       (ze4 a.2 keys).bind fun bs => (zcO m keys (a.2.u ++ bs)).map fun us => (v.1 ++ caps.map (fun r => D.ptr r 0), us, ls.map fun p => some p.2)
def zdg (E : Env) (s : St) (o : Oper) : Option (Nat × List D × List (List D) × List (Option Row)) :=
 match o.op with
 | .call ca => match ca.callee with
   | .value z => match s.look z with
     | .fn f cap => match cap.isEmpty && (zcM (E.mode f) && (zf2 s.get (zaX E s.look ca.args.toList ca.argTypes.toList)).isSome) with
       | true => none
       | false => (zmL E s f cap (zaX E s.look ca.args.toList ca.argTypes.toList)).map fun r => (f, r)
     | _ => none
   | _ => none
 | _ => none
theorem zfr {E : Env} {s : St} {o : Oper} {rs : List D} {f : Nat} {args : List D} {fl : Bool} (h : zdz E s o = some (f, args, fl)) (hpl : D.plains rs = true) (hfl : fl = true → D.cleans rs = true) (hc : E.call f args [] [] = some (rs, [], [])) : evOp E s.look s.get s.box o.type o.op = some (.pure (retD rs)) ∧ evOp (E.with (rs, [], [])) s.look s.get s.box o.type o.op = some (.pure (retD rs)) := by
 unfold zdz at h
 split at h
 · rename_i ca ho
   split at h
   · rename_i z hz
     split at h
     · rename_i f' hf
       split at h
       · rename_i hm
         split at h
         · rename_i r hr
           · cases h
             have hcl : (r.2 && !D.cleans rs) = false := by
              cases hr2 : r.2 with
              | false => rfl
              | true => rw [hfl hr2]; rfl
             rw [ho]
             refine ⟨?_, ?_⟩
             · simp only [evOp, hz, hf, zd2, hm, hr, Option.bind_some, hc, zlJ, hpl, hcl]
             · have hm' : zcM ((E.with (rs, [], [])).mode f) = true := hm
               have hr' : zf2 s.get (zaX (E.with (rs, [], [])) s.look ca.args.toList ca.argTypes.toList) = some r := by
                rw [← hr]
                congr 1
                generalize ca.args.toList = zs
                generalize ca.argTypes.toList = ts
                induction zs generalizing ts with
                | nil => rfl
                | cons z zs ih => simp only [zaX, ih]; rfl
               have hcc : (E.with (rs, [], [])).call f (r.1.map .dat) [] [] = some (rs, [], []) := rfl
               simp only [evOp, hz, hf, zd2, hm', hr', Option.bind_some, hcc, zlJ, hpl, hcl]
         · cases h
       · cases h
     · cases h
   · cases h
 · cases h
theorem zmB {E : Env} {s : St} {o : Oper} {rs : List D} {f : Nat} {args : List D} {cs : List D} {l : List (Option Row)} (h : zdz E s o = some (f, args, false)) (hpl : D.plains rs = false) (hc : E.call f args [] [] = some (rs, [cs], l)) : evOp E s.look s.get s.box o.type o.op = some (.made cs) := by
 unfold zdz at h
 split at h
 · rename_i ca ho
   split at h
   · rename_i z hz
     split at h
     · rename_i f' hf
       split at h
       · rename_i hm
         split at h
         · rename_i r hr
           have h1 : r.2 = false := by injection h with h; injection h with _ h; injection h with _ h
           have h2 : f' = f ∧ r.1.map D.dat = args := by injection h with h; injection h with h3 h; injection h with h4 _; exact ⟨h3, h4⟩
           obtain ⟨rfl, rfl⟩ := h2
           rw [ho]
           simp only [evOp, hz, hf, zd2, hm, hr, Option.bind_some, hc, zlJ, hpl, h1]
         · cases h
       · cases h
     · cases h
   · cases h
 · cases h
theorem zc6 {E : Env} {q : List D × List (List D) × List (Option Row)} {lk : Operand → D} : ∀ (zs : List Operand) (ts : List Nat), zaX (E.with q) lk zs ts = zaX E lk zs ts
 | [], ts => rfl
 | z :: zs, ts => by simp only [zaX, zc6 zs]; rfl
theorem zfu {E : Env} {s : St} {o : Oper} {q : List D × List (List D) × List (Option Row)} {r : Nat × List D × List (List D) × List (Option Row)} (h : zdg E s o = some r) (hc : E.call r.1 r.2.1 r.2.2.1 r.2.2.2 = some q) : step E s o = step (E.with q) s o := by
 unfold zdg at h
 split at h
 · rename_i ca ho
   split at h
   · rename_i z hz
     split at h
     · rename_i f cap hf
       split at h
       · cases h
       · rename_i hdead
         simp only [Option.map_eq_some_iff] at h
         obtain ⟨⟨a, u, l⟩, hdo, rfl⟩ := h
         simp only at hc
         have hev : ∀ E', E'.mode = E.mode → zaX E' s.look ca.args.toList ca.argTypes.toList = zaX E s.look ca.args.toList ca.argTypes.toList → evOp E' s.look s.get s.box o.type o.op = none := by
          intro E' hm ha
          rw [ho]
          simp only [evOp, hz, hf]
          cases cap with
          | cons r rs => rfl
          | nil =>
            simp only [List.isEmpty_nil, Bool.true_and] at hdead
            simp only [zd2, hm, ha]
            cases hz : zcM (E.mode f) with
            | false => rfl
            | true =>
              rw [hz, Bool.true_and] at hdead
              cases hv : zf2 s.get (zaX E s.look ca.args.toList ca.argTypes.toList) with
              | none => rfl
              | some r => rw [hv] at hdead; cases hdead
         unfold step
         rw [hev E rfl rfl, hev (E.with q) rfl (zc6 _ _)]
         simp only [ho, doOp, hz, hf, zc6]
         unfold zmL at hdo
         unfold zhN
         simp only [Option.bind_eq_some_iff] at hdo
         obtain ⟨a1, h1, ls, h2, hdo⟩ := hdo
         have h1' : zaE ((E.with q).mode f) (zaX E s.look ca.args.toList ca.argTypes.toList) s = some a1 := h1
         have h2' : zbf a1.2.get ((E.with q).mode f) a1.1 = some ls := h2
         simp only [h1, h1', h2, h2', Option.bind_some]
         split at hdo
         · cases hdo
         · rename_i hdis
           simp only [hdis]
           split at hdo
           · rename_i hcl
             simp only [hcl]
             simp only [Option.map_eq_some_iff, Prod.mk.injEq] at hdo
             obtain ⟨v, hv, rfl, rfl, rfl⟩ := hdo
             have hv' : zaF (hide ls false a1.2.get) 0 [] ((E.with q).mode f) 0 a1.1 = some v := hv
             simp only [hv, hv', Option.bind_some, hc]
             rfl
           · rename_i hcl
             simp only [hcl]
             split at hdo
             · cases hdo
             · rename_i hnc
               simp only [hnc]
               simp only [Option.bind_eq_some_iff, Option.map_eq_some_iff, Prod.mk.injEq] at hdo
               obtain ⟨v, hv, caps, hcaps, bs, hbs, us, hus, rfl, rfl, rfl⟩ := hdo
               have hv' : zaF (hide ls true a1.2.get) a1.2.u.length (a1.2.sent (E.with q).nt cap a1.1) ((E.with q).mode f) 0 a1.1 = some v := hv
               have e2 : (E.with q).nt = E.nt := rfl
               simp only [e2] at hv' ⊢
               simp only [hv, hv', Option.bind_some, hcaps, hbs, hus, hc]
               rfl
     · cases h
   · cases h
 · cases h
def zng (E : Env) (s : St) (hd : Option Dat) : Op → Option (Prop × D)
 | .indexAddr t x i => (E.ty t).bind fun k => match k.kind with
   | .slice e => (E.ty e).bind fun j => (intOf (s.look i)).bind fun n => match s.look x, hd with
     | .dat (.lst b es), some d => (match Nat.beq d.cells.length j.sz with | true => some ((0 ≤ n ∧ n < es.length) ∧ es[n.toNat]? = some d, .ep b d.cells) | false => none)
     | .bor p m, none => (s.get p).bind fun r => match Nat.beq r.1 e with | true => some (0 ≤ n ∧ n < (zaN m r.2).length, .bp p n.toNat 0) | false => none
     | _, _ => none
   | _ => none
 | .load t x => (E.ty t).bind fun i => match s.look x, hd with
   | .bp p j o, some d => (s.get p).bind fun r => (zcQ i (d.cells.drop o)).map fun x => (r.2[j]? = some d, .dat x)
   | _, _ => none
 | .slice t x lo hi mx => match mx with
   | none => (zcy E.ty t).bind fun st => (zcp s.look lo).bind fun l => (zcp s.look hi).bind fun h => match st, s.look x with
     | none, .dat (.val (.string b)) => some (0 ≤ l.getD 0 ∧ l.getD 0 ≤ h.getD b.size ∧ h.getD b.size ≤ b.size, .dat (.val (.string (b.extract (l.getD 0).toNat (h.getD b.size).toNat))))
     | some n, .dat (.lst b es) => some ((0 ≤ l.getD 0 ∧ l.getD 0 ≤ h.getD es.length ∧ h.getD es.length ≤ es.length) ∧ wid n es = true, .dat (.lst b ((es.take (h.getD es.length).toNat).drop (l.getD 0).toNat)))
     | some n, .bor p m => (match l, h with
       | none, some h => (s.get p).bind fun r => some (0 ≤ h ∧ h ≤ (zaN m r.2).length, .bor p (some h.toNat))
       | some l, none => (match m with | none => (s.get p).bind fun r => (E.ty r.1).bind fun i => (match Nat.beq i.sz n with | true => some (0 ≤ l ∧ l ≤ r.2.length, .sb p l.toNat n) | false => none) | some _ => none)
       | _, _ => none)
     | _, _ => none
   | some _ => none
 | .index t x i => (E.ty t).bind fun k => (intOf (s.look i)).bind fun n => match s.look x, k.kind with
   | .dat (.val (.string s)), .str => some (0 ≤ n ∧ n < s.size, .dat (.val (.int .u8 ((s[n.toNat]?).getD 0).toNat)))
   | _, _ => none
 | .binOp op t x y _ => match op, s.look x, s.look y, hd with
   | .rem, .dat (.val (.int k a)), .dat (.val (.int k' b)), none => match decide (k = k') with
     | true => some (b ≠ 0, .dat (.val (.int k (a.tmod b))))
     | false => none
   | .quo, .dat (.val (.int k a)), .dat (.val (.int k' b)), none => match decide (k = k') with
     | true => some (b ≠ 0, .dat (.val (.int k (k.wrap (a.tdiv b)))))
     | false => none
   | .add, .dat (.val (.string a)), .dat (.val (.string b)), none => some (a.size + b.size ≤ 9223372036854775807, .dat (.val (.string (a ++ b))))
   | _, _, _, _ => none
 | .makeSlice t l c => (E.ty t).bind fun i => match i.kind with
   | .slice e => (E.ty e).bind fun j => j.zeroD.bind fun z => (intOf (s.look l)).bind fun n => (intOf (s.look c)).bind fun m =>
     match Nat.ble j.bytes 65536 with
     | true => some (0 ≤ n ∧ n ≤ m ∧ m ≤ 2147483648, .own e (List.replicate n.toNat z))
     | false => none
   | _ => none
 | .lookup t m k ok => (E.ty t).bind fun i => match i.kind with
   | .map kt et => (E.ty kt).bind fun kj => (E.ty et).bind fun ej => match zkG kj.kind, s.look m, s.look k, hd, ok with
     | true, .etc (.map r), .dat (.val kv), some (.val b), false => (s.box r).bind fun cs => match isM cs with
       | true => some (zdk kj.kind kv cs.tail = some (some b), .dat (.val b))
       | false => none
     | _, _, _, _, _ => none
   | _ => none
 | _ => none
theorem zfC {E : Env} {s : St} {hd : Option Dat} {op : Op} {ty : Nat} {p : Prop} {d : D} (h : zng E s hd op = some (p, d)) (hp : p) : evOp E s.look s.get s.box ty op = some (.pure d) := by
 unfold zng at h
 split at h
 · rename_i t x i
   simp only [Option.bind_eq_some_iff] at h
   obtain ⟨k, hk, h⟩ := h
   simp only [evOp, hk, Option.bind_some]
   split at h
   · rename_i e hke
     simp only [Option.bind_eq_some_iff] at h
     obtain ⟨j, hj, n, hn, h⟩ := h
     simp only [hke, hj, Option.bind_some, hn]
     split at h
     · rename_i b es dd hx
       split at h
       · rename_i hb
         cases h
         obtain ⟨h1, h2⟩ := hp
         simp only [hx, zbJ, h1, h2, and_self, if_true, Option.bind_some, hb, Option.map_some]
       · cases h
     · rename_i pl m hx
       simp only [Option.bind_eq_some_iff] at h
       obtain ⟨r, hr, h⟩ := h
       split at h
       · rename_i hb
         cases h
         simp only [hx, zbJ, hr, Option.bind_some, hb, hp, and_self, if_true, Option.map_some]
       · cases h
     · cases h
   · cases h
 · rename_i t x
   simp only [Option.bind_eq_some_iff] at h
   obtain ⟨i, hi, h⟩ := h
   simp only [evOp, hi, Option.bind_some]
   split at h
   · rename_i pl j o dd hx
     simp only [Option.bind_eq_some_iff, Option.map_eq_some_iff, Prod.mk.injEq] at h
     obtain ⟨r, hr, y, hy, rfl, rfl⟩ := h
     simp only [hx, zdi, hr, Option.bind_some, hp, hy, Option.map_some]
   · cases h
 · rename_i t x lo hi mx
   split at h
   · simp only [Option.bind_eq_some_iff] at h
     obtain ⟨st, hst, l, hl, hh, hhi, h⟩ := h
     simp only [evOp, hst, hl, hhi, Option.bind_some]
     split at h
     · rename_i b hx
       cases h
       simp only [hx, zh7, zb1, hp, and_self, if_true, Option.map_some]
     · rename_i n b es hx
       cases h
       obtain ⟨h1, h2⟩ := hp
       simp only [hx, zh7, zb1, h1, h2, and_self, if_true, Option.map_some]
     · rename_i n pl m hx
       split at h
       · rename_i hhv
         simp only [Option.bind_eq_some_iff] at h
         obtain ⟨r, hr, h⟩ := h
         cases h
         simp only [hx, zh7, hr, Option.bind_some, hp, and_self, if_true, Option.map_some]
       · cases m with
         | none =>
           simp only [Option.bind_eq_some_iff] at h
           obtain ⟨r, hr, ii, hii, h⟩ := h
           split at h
           · rename_i hb
             cases h
             simp only [hx, zh7, hr, Option.bind_some, hii, hb, hp, and_self, if_true, Option.map_some]
           · cases h
         | some m => cases h
       · cases h
     · cases h
   · cases h
 · rename_i t x i
   simp only [Option.bind_eq_some_iff] at h
   obtain ⟨k, hk, n, hn, h⟩ := h
   simp only [evOp, hk, hn, Option.bind_some]
   split at h
   · rename_i b hx hkk
     cases h
     simp only [hx, hkk]
     rw [dif_pos hp]
     have : b[n.toNat]? = some (b[n.toNat]'(by omega)) := getElem?_pos b n.toNat (by omega)
     rw [this]
     rfl
   · cases h
 · rename_i op t x y ky
   split at h
   · rename_i k a k' b hx hy
     split at h
     · rename_i hk
       cases h
       simp [evOp, hx, hy, zgv, binD, binV, zht, hk, hp]
     · cases h
   · rename_i k a k' b hx hy
     split at h
     · rename_i hk
       cases h
       simp [evOp, hx, hy, zgv, binD, binV, zht, hk, hp]
     · cases h
   · rename_i a b hx hy
     cases h
     simp only [evOp, hx, hy, zgv, binD, binV, zht]
     rw [if_pos hp]
     rfl
   · cases h
 · rename_i t l c
   simp only [Option.bind_eq_some_iff] at h
   obtain ⟨i, hi, h⟩ := h
   simp only [evOp, hi, Option.bind_some]
   split at h
   · rename_i e hk
     simp only [Option.bind_eq_some_iff] at h
     obtain ⟨j, hj, z, hz, n, hn, m, hm, h⟩ := h
     split at h
     · rename_i hb
       cases h
       simp only [hk, hj, hz, hn, hm, Option.bind_some, hp, and_self, if_true, hb]
     · cases h
   · cases h
 · rename_i t m k ok
   simp only [Option.bind_eq_some_iff] at h
   obtain ⟨i, hi, h⟩ := h
   split at h
   · rename_i kt et hk
     simp only [Option.bind_eq_some_iff] at h
     obtain ⟨kj, hkj, ej, hej, h⟩ := h
     split at h
     · rename_i r kv b hkt hm hkk
       simp only [Option.bind_eq_some_iff] at h
       obtain ⟨cs, hcs, h⟩ := h
       split at h
       · rename_i hM
         cases h
         simp only [evOp, hi, Option.bind_some, hk, hkj, hej, hkt, hm, hkk, hcs, hM, hp, zki, Option.map_some]
       · cases h
     · cases h
   · cases h
 · cases h
def zlL (E : Env) (s : St) (x : Option Nat) : Op → Option (Prop × St)
 | .call c => match c.callee with
   | .builtin .append => match c.args.toList, c.argTypes.toList with
     | [a, b], [t, u] => (E.ty t).bind fun i => match i.kind with
       | .slice e => match Nat.beq t u with
         | true => (zfF s.get (s.look b)).bind fun es2 => (zcn s e a).bind fun r => (E.ty e).bind fun i =>
           match Nat.beq r.1.1 e && Nat.ble i.bytes 65536 && Nat.blt 0 i.sz with
           | true => some (es2.all (fun d => Nat.beq d.cells.length i.sz) = true ∧ r.1.2.length + es2.length ≤ 2147483648, r.2.putO x (.own e (r.1.2 ++ es2)))
           | false => none
         | false => (E.ty e).bind fun j => (E.ty u).bind fun k => match zif j, k.kind, s.look b with
           | true, .str, .dat (.val (.string w)) => (zcn s e a).bind fun r => match Nat.beq r.1.1 e && Nat.ble j.bytes 65536 && Nat.blt 0 j.sz with
             | true => some ((zah w).all (fun d => Nat.beq d.cells.length j.sz) = true ∧ r.1.2.length + (zah w).length ≤ 2147483648, r.2.putO x (.own e (r.1.2 ++ zah w)))
             | false => none
           | _, _, _ => none
       | _ => none
     | _, _ => none
   | _ => none
 | .convert t u y => (E.ty t).bind fun i => match i.kind with
   | .slice e => (E.ty e).bind fun j => (E.ty u).bind fun k => match j.kind, k.kind with
     | .int .u8, .str => (zfF s.get (s.look y)).bind fun es => x.map fun n => (zde es ≠ none, s.put n (.dat (.val ((zde es).getD (.string ByteArray.empty)))))
     | _, _ => none
   | _ => none
 | _ => none
theorem zh2 {E : Env} {s : St} {o : Oper} {p : Prop} {s' : St} (h : zlL E s o.dst o.op = some (p, s')) (hp : p) : step E s o = some s' := by
 unfold zlL at h
 split at h
 · rename_i c ho
   split at h
   · rename_i hc
     split at h
     · rename_i a b t u ha hat
       simp only [Option.bind_eq_some_iff] at h
       obtain ⟨i, hi, h⟩ := h
       split at h
       · rename_i e hk
         split at h
         · rename_i htu
           simp only [Option.bind_eq_some_iff] at h
           obtain ⟨es2, hes, r, hr, i2, hi2, h⟩ := h
           split at h
           · rename_i hcond
             cases h
             have hev : evOp E s.look s.get s.box o.type o.op = none := by rw [ho]; simp only [evOp, hc]
             unfold step
             rw [hev]
             have hes' : zh6 s.get false (s.look b) = some es2 := by
              unfold zh6
              split
              · rename_i he
                rw [he] at hes
                cases hes
              · exact hes
             simp only [ho, doOp, hc, ha, hat, hi, Option.bind_some, hk, htu, zci, hes', hr, hi2, hcond, hp.1, Bool.and_self, hp.2, if_true]
           · cases h
         · rename_i htu
           simp only [Option.bind_eq_some_iff] at h
           obtain ⟨j, hj, k, hkj, h⟩ := h
           split at h
           · rename_i w hib huk hw
             simp only [Option.bind_eq_some_iff] at h
             obtain ⟨r, hr, h⟩ := h
             split at h
             · rename_i hcond
               cases h
               have hev : evOp E s.look s.get s.box o.type o.op = none := by rw [ho]; simp only [evOp, hc]
               unfold step
               rw [hev]
               have hes' : zh6 s.get true (s.look b) = some (zah w) := by rw [hw]; rfl
               simp only [ho, doOp, hc, ha, hat, hi, Option.bind_some, hk, htu, hj, hkj, hib, huk, zci, hes', hr, hcond, hp.1, Bool.and_self, hp.2, if_true]
             · cases h
           · cases h
       · cases h
     · cases h
   · cases h
 · rename_i t u y ho
   simp only [Option.bind_eq_some_iff] at h
   obtain ⟨i, hi, h⟩ := h
   split at h
   · rename_i e hk
     simp only [Option.bind_eq_some_iff] at h
     obtain ⟨j, hj, k, hkk, h⟩ := h
     split at h
     · rename_i hjk hku
       simp only [Option.bind_eq_some_iff, Option.map_eq_some_iff, Prod.mk.injEq] at h
       obtain ⟨es, hes, n, hn, rfl, rfl⟩ := h
       obtain ⟨v, hv⟩ := Option.ne_none_iff_exists'.1 hp
       have hconv : znQ (some i) (some k) (s.look y) = none := by
        cases hy : s.look y with
        | dat d => cases d with
          | val w => rw [hy] at hes; cases hes
          | agg cs => rfl
          | lst b l => rfl
        | _ => rfl
       have hev : evOp E s.look s.get s.box o.type o.op = none := by rw [ho]; simp only [evOp, hi, hkk, Option.bind_some, hconv, Option.map_none]
       unfold step
       rw [hev]
       simp only [ho, doOp, zcK, hi, hj, hkk, Option.bind_some, hk, hjk, hku, hes, hv, hn, Option.map_some, Option.getD_some]
     · cases h
   · cases h
 · cases h
def zoK (E : Env) (s : St) (hd : Dat) : Op → Option (Prop × St)
 | .store t a y => match zfD y with
   | true => none
   | false => (E.ty t).bind fun i => match s.look a with
     | .bp p j o => (s.datD (s.look y)).bind fun q => match Nat.beq q.1.cells.length i.sz with
       | false => none
       | true => (q.2.get p).bind fun r => (zfE hd o q.1.cells).map fun d' => (r.2[j]? = some hd, q.2.setPl p (.own r.1 (r.2.set j d')))
     | _ => none
 | _ => none
theorem zi9 {E : Env} {s : St} {hd : Dat} {o : Oper} {p : Prop} {s' : St} (h : zoK E s hd o.op = some (p, s')) (hp : p) : step E s o = some s' := by
 unfold zoK at h
 split at h
 · rename_i t a y ho
   split at h
   · cases h
   · rename_i hn
     simp only [Option.bind_eq_some_iff] at h
     obtain ⟨i, hi, h⟩ := h
     split at h
     · rename_i pl j off ha
       simp only [Option.bind_eq_some_iff] at h
       obtain ⟨q, hq, h⟩ := h
       split at h
       · cases h
       · rename_i hb
         simp only [Option.bind_eq_some_iff, Option.map_eq_some_iff, Prod.mk.injEq] at h
         obtain ⟨r, hr, d', hd', rfl, rfl⟩ := h
         have hev : evOp E s.look s.get s.box o.type o.op = none := by rw [ho]; simp only [evOp]
         unfold step
         rw [hev]
         simp only [ho, doOp, hn, zck, hi, Option.bind_some, ha, hq, hb, hr, hp, hd', Option.map_some]
     · cases h
 · cases h
def zqa {α : Type} (b : Bool) (p : Prop) (r : Option (List Prop × α)) : Option (List Prop × α) := match b with | true => hadd p r | false => r
def zlq (E : Env) (s : St) (x : Option Nat) (f : Nat) (cap : List Ref) (args : List D) (q : List D × List (List D) × List (Option Row)) : Option (Prop × St) :=
 (zaE (E.mode f) args s).bind fun a =>
 (zbf a.2.get (E.mode f) a.1).bind fun ls =>
 match zaS ls with
 | false => none
 | true => match cap.isEmpty && a.1.all zju with
   | true => (zaF (hide ls false a.2.get) 0 [] (E.mode f) 0 a.1).bind fun v =>
     (zbt a.2 ls q.2.2).map fun s => (((v.2 && !(D.cleans q.1 && zbd q.2.2)) || !D.plains q.1) = false, s.putO x (retD q.1))
   | false => match ls.all fun p => !p.1.ofCell with
     | false => none
     | true =>
       let keys := a.2.sent E.nt cap a.1; let m := a.2.u.length
       (zaF (hide ls true a.2.get) m keys (E.mode f) 0 a.1).bind fun v =>
       (zbt (a.2.regain m keys q.2.1) ls q.2.2).map fun s => (((v.2 && !(D.cleans q.1 && (zbd q.2.2 && zbp q.2.1))) || !D.plains q.1) = false, s.putO x (retD q.1))
def zpj (E : Env) (s : St) (o : Oper) (q : List D × List (List D) × List (Option Row)) : Option (Prop × St) :=
 match o.op with
 | .call ca => match ca.callee with
   | .value z => match s.look z with
     | .fn f cap => zlq E s o.dst f cap (zaX E s.look ca.args.toList ca.argTypes.toList) q
     | _ => none
   | _ => none
 | _ => none
theorem zjh {E : Env} {s : St} {o : Oper} {q : List D × List (List D) × List (Option Row)} {r : Nat × List D × List (List D) × List (Option Row)} {p : Prop} {s' : St} (h : zdg E s o = some r) (hc : E.call r.1 r.2.1 r.2.2.1 r.2.2.2 = some q) (hh : zpj E s o q = some (p, s')) (hp : p) : step E s o = some s' := by
 unfold zdg at h
 unfold zpj at hh
 split at h
 · rename_i ca ho
   simp only [ho] at hh
   split at h
   · rename_i z hz
     simp only [hz] at hh
     split at h
     · rename_i f cap hf
       simp only [hf] at hh
       split at h
       · cases h
       · rename_i hdead
         simp only [Option.map_eq_some_iff] at h
         obtain ⟨⟨a, u, l⟩, hdo, rfl⟩ := h
         simp only at hc
         have hev : evOp E s.look s.get s.box o.type o.op = none := by
          rw [ho]
          simp only [evOp, hz, hf]
          cases cap with
          | cons r rs => rfl
          | nil =>
            simp only [List.isEmpty_nil, Bool.true_and] at hdead
            simp only [zd2]
            cases hz : zcM (E.mode f) with
            | false => rfl
            | true =>
              rw [hz, Bool.true_and] at hdead
              cases hv : zf2 s.get (zaX E s.look ca.args.toList ca.argTypes.toList) with
              | none => rfl
              | some r => rw [hv] at hdead; cases hdead
         unfold step
         rw [hev]
         simp only [ho, doOp, hz, hf]
         unfold zmL at hdo
         unfold zhN
         unfold zlq at hh
         simp only [Option.bind_eq_some_iff] at hdo
         obtain ⟨a1, h1, ls, h2, hdo⟩ := hdo
         simp only [h1, h2, Option.bind_some] at hh ⊢
         split at hdo
         · cases hdo
         · rename_i hdis
           simp only [hdis] at hh ⊢
           split at hdo
           · rename_i hcl
             simp only [hcl] at hh ⊢
             simp only [Option.map_eq_some_iff, Prod.mk.injEq] at hdo
             obtain ⟨v, hv, rfl, rfl, rfl⟩ := hdo
             simp only [hv, Option.bind_some, Option.map_eq_some_iff, Prod.mk.injEq] at hh ⊢
             obtain ⟨s3, hg, rfl, rfl⟩ := hh
             simp only [hc, Option.bind_some, hp, hg, Option.map_some]
           · rename_i hcl
             simp only [hcl] at hh ⊢
             split at hdo
             · cases hdo
             · rename_i hnc
               simp only [hnc] at hh ⊢
               simp only [Option.bind_eq_some_iff, Option.map_eq_some_iff, Prod.mk.injEq] at hdo
               obtain ⟨v, hv, caps, hcaps, bs, hbs, us, hus, rfl, rfl, rfl⟩ := hdo
               simp only [hv, Option.bind_some, Option.map_eq_some_iff, Prod.mk.injEq] at hh ⊢
               obtain ⟨s3, hg, rfl, rfl⟩ := hh
               simp only [hcaps, hbs, hus, Option.bind_some, hc, hp, hg, Option.map_some]
     · cases h
   · cases h
 · cases h
def hop {α : Type} (E : Env) (hs : zcL) (run : Env → St → Oper → Option St) (view : St → St) (pu ap : Oper → Bool) (s : St) (o : Oper) (k : St → Option (List Prop × α)) : Option (List Prop × α) :=
 match (keyOf o).bind (zjP hs) with
 | some (.put d) => hadd (run E s o = some (s.putO o.dst d)) (k (s.putO o.dst d))
 | some (.to f) => hadd (run E s o = some (f s)) (k (f s))
 | some (.at d) => match zng E s (some d) o.op with
   | some (p, d) => (match o.dst, pu o with | some n, true => hadd p (k (s.put n d)) | _, _ => none)
   | none => (match zoK E s d o.op, ap o with | some (p, s'), true => hadd p (k s') | _, _ => none)
 | some .ok => match zng E s none o.op with
   | some (p, d) => (match o.dst, pu o with | some n, true => hadd p (k (s.put n d)) | _, _ => none)
   | none => (match zlL E s o.dst o.op, ap o with | some (p, s'), true => hadd p (k s') | _, _ => none)
 | some (.ret rs) => match D.plains rs, zdz E (view s) o with
   | true, some (f, args, fl) => zqa fl (D.cleans rs = true) (hadd (E.call f args [] [] = some (rs, [], [])) (match pu o, o.dst with | true, some n => k (s.put n (retD rs)) | _, _ => (run (E.with (rs, [], [])) s o).bind k))
   | _, _ => none
 | some (.back rs u l) => match zdg E (view s) o with
   | some (f, args, us, ls) => hadd (E.call f args us ls = some (rs, u, l)) (match ap o with
     | true => (match zpj E s o (rs, u, l) with | some (p, s') => hadd p (k s') | none => none)
     | false => (run (E.with (rs, u, l)) s o).bind k)
   | none => match zdz E (view s) o, D.plains rs, u, ap o with
     | some (f, args, false), false, [cs], true => hadd (E.call f args [] [] = some (rs, [cs], l)) ((s.apply o.dst (.made cs)).bind k)
     | _, _, _, _ => none
 | _ => (run E s o).bind k
def hops (E : Env) (hs : zcL) (ops : Array Oper) : List Oper → St → Option (List Prop × St)
 | [], s => some ([], s)
 | o :: l, s => zke hs ops s o.guard (fun s => hop E hs step (fun s => s) (fun _ => true) (fun _ => true) s o (hops E hs ops l)) (fun s => hops E hs ops l (s.putO o.dst .undef))
def zd3 (M : Option (List Nat)) (k : Nat) (s : St) : St :=
 match k with
 | 0 => s
 | 1 => s
 | 2 => s
 | 3 => s
 | _ => match M with | none => s | some M => s.hid M
def zlv : Op → Bool
 | .load _ _ => true
 | _ => false
def ziE (M : Option (List Nat)) (k : Nat) (o : Oper) : Bool :=
 match k with
 | 0 => zge o.op
 | 1 => zlv o.op && M.isNone
 | 2 => true
 | 3 => false
 | _ => M.isNone
def zeK (E : Env) (hs : zcL) (ops : Array Oper) (M : Option (List Nat)) : Bool → List PRow → St → Option (List Prop × St)
 | _, [], s => some ([], s)
 | first, (i, k, ds) :: l, s => match zfB s ds with
   | false => none
   | true => match ops[i]? with
     | none => none
     | some o => zke hs ops s o.guard (fun s => match k with
       | 5 => (match zmm M s o with | true => hop E hs step (fun s => s) (fun _ => true) (fun _ => true) s o (zeK E hs ops M (first && zbR k) l) | false => none)
       | 6 => hop E hs (fun E => zaQ E none first 4) (zd3 none 4) (ziE none 4) (fun _ => false) s o (zeK E hs ops M (first && zbR k) l)
       | 7 => hop E hs (fun E => zaQ E none first 4) (zd3 none 4) (ziE none 4) (fun _ => false) s o (zeK E hs ops M (first && zbR k) l)
       | 8 => hop E hs (fun E => zaQ E none first 4) (zd3 none 4) (ziE none 4) (fun _ => false) s o (zeK E hs ops M (first && zbR k) l)
       | 9 => (match zlb o.op with | true => hop E hs step (fun s => s) (fun _ => true) (fun _ => true) s o (zeK E hs ops M (first && zbR k) l) | false => none)
       | 10 => (match zbH s o with | true => hop E hs step (fun s => s) (fun _ => true) (fun _ => true) s o (zeK E hs ops M (first && zbR k) l) | false => none)
       | 11 => (match zbE s o with | true => hop E hs step (fun s => s) (fun _ => true) (fun _ => true) s o (zeK E hs ops M (first && zbR k) l) | false => none)
       | k => hop E hs (fun E => zaQ E M first k) (zd3 M k) (ziE M k) (fun _ => Nat.beq k 2) s o (zeK E hs ops M (first && zbR k) l)) (fun s => zeK E hs ops M (first && zbR k) l (s.putO o.dst .undef))
def zpy (E : Env) (hs : zcL) (ops : Array Oper) (p : Plan) (s : St) : Option (List Prop × St) :=
 match p.2 with
 | [] => some ([], s)
 | (i, k, ds) :: l => match zgB s ds with
   | true => zeK E hs ops p.1 true ((i, k, ds) :: l) (s.junks ds)
   | false => none
def zjg (E : Env) (hs : zcL) (id : Nat) (ops : Array Oper) (draw : Bool) (s : St) : Option (List Prop × St) :=
 match draw with
 | false => hops E hs ops ops.toList s
 | true => match E.plan id with
   | some p => zpy E hs ops p s
   | none => none
def znc (r : Option (List Prop × X × St)) (k : X → St → Option (List Prop × X × St)) : Option (List Prop × X × St) :=
 match r with
 | some (ps, x, s) => match k x s with
   | some q => some (ps ++ q.1, q.2)
   | none => none
 | none => none
def zm2 : List Nat → List D → Nat → D
 | a :: L, d :: ds, x => match Nat.beq a x with | true => d | false => zm2 L ds x
 | _, _, _ => .junk
def zm3 : List Nat → List (Option (List D)) → Nat → Option (List D)
 | a :: L, d :: ds, x => match Nat.beq a x with | true => d | false => zm3 L ds x
 | _, _, _ => none
def Nm (L : List Nat) (ds : List D) (bs : List (Option (List D))) (u : List (List D)) (l : List (Option Row)) : St := ⟨zm2 L ds, zm3 L bs, u, l⟩
def nmOf (L : List Nat) (s : St) : St := Nm L (L.map fun x => (s.t x).kill (Kill.but L)) (L.map fun x => (s.b x).map (D.kills (Kill.but L))) (s.u.map (D.kills (Kill.but L))) s.l
def zmc (E : Env) (n : Nat) (c : Code) (s0 : St) (x : X) (s' : St) : Prop := ∀ s : St, s.norm (E.live (zaa c)) = s0 → exec E n (.loop c) s = some (x, s')
def zcr (E : Env) (n : Nat) (hs : zcL) : Code → St → Option (List Prop × X × St)
 | .skip, s => some ([], .normal, s)
 | .region id ops draw, s => match zjg E hs id ops draw s with | some r => some (r.1, .normal, r.2) | none => none
 | .seq a b, s => znc (zcr E n hs a s) fun x s' => match x with
   | .normal => zcr E n hs b s'
   | x => some ([], x, s')
 | .cond c a b, s => hcond hs s c (zcr E n hs a) (zcr E n hs b)
 | .block id c, s => znc (zcr E n hs c s) fun x s' => match x with
   | .exit i => (match Nat.beq i id with | true => some ([], .normal, s') | false => some ([], .exit i, s'))
   | x => some ([], x, s')
 | .loop c, s => match zjP hs (300000 + zaa c) with
   | some (.loop s0 x s') => some ([nmOf (E.live (zaa c)) s = s0, zmc E n c s0 x s'], x, s')
   | _ => none
 | .exit id, s => some ([], .exit id, s)
 | .ret, s => some ([], .ret, s)
 | _, _ => none
theorem nbeq_eq {a b : Nat} : Nat.beq a b = true ↔ a = b := ⟨Nat.eq_of_beq_eq_true, fun h => by rw [h]; exact Nat.beq_refl b⟩
theorem nbeq_ne {a b : Nat} : Nat.beq a b = false ↔ a ≠ b := ⟨Nat.ne_of_beq_eq_false, fun h => by
 cases hb : Nat.beq a b with
 | false => rfl
 | true => exact (h (Nat.eq_of_beq_eq_true hb)).elim⟩
theorem zc7 {a x : Nat} {l : List Nat} : memN x (a :: l) = (Nat.beq x a || memN x l) := by
 show (match Nat.beq x a with | true => true | false => memN x l) = _
 cases Nat.beq x a <;> rfl
theorem zhS {f : Nat → D} {x : Nat} : ∀ {L : List Nat}, zm2 L (L.map f) x = match memN x L with | true => f x | false => .junk
 | [] => rfl
 | a :: L => by
   simp only [List.map_cons, zm2]
   cases h : Nat.beq a x with
   | true => rw [nbeq_eq.1 h, zc7]; simp
   | false =>
     have h2 : Nat.beq x a = false := nbeq_ne.2 (fun e => nbeq_ne.1 h e.symm)
     simp only [zhS (L := L), zc7, h2, Bool.false_or]
theorem zin {f : Nat → Option (List D)} {x : Nat} : ∀ {L : List Nat}, zm3 L (L.map f) x = match memN x L with | true => f x | false => none
 | [] => rfl
 | a :: L => by
   simp only [List.map_cons, zm3]
   cases h : Nat.beq a x with
   | true => rw [nbeq_eq.1 h, zc7]; simp
   | false =>
     have h2 : Nat.beq x a = false := nbeq_ne.2 (fun e => nbeq_ne.1 h e.symm)
     simp only [zin (L := L), zc7, h2, Bool.false_or]
theorem ziL (L : List Nat) (s : St) : s.norm L = nmOf L s := by
 simp only [St.norm, nmOf, Nm, St.mk.injEq, and_true]
 refine ⟨funext fun x => ?_, funext fun x => ?_⟩
 · rw [zhS]; cases memN x L <;> rfl
 · rw [zin]; cases memN x L <;> rfl
theorem zaM {α : Type} {p : Prop} {r : Option (List Prop × α)} {q : List Prop × α} (h : hadd p r = some q) : ∃ ps, r = some (ps, q.2) ∧ q.1 = p :: ps := by
 unfold hadd at h
 split at h
 · rename_i r'
   cases h
   exact ⟨r'.1, rfl, rfl⟩
 · cases h
section
variable {E : Env} {hs : zcL} {ops : Array Oper}
theorem zdt {α β : Type} {s : St} {x : Nat} {yes no : St → Option (List Prop × α)} {und : Option (List Prop × α)} {q : List Prop × α} {yes' no' : St → Option β} {und' : Option β} {b : β}
 (h : zmx hs s x yes no und = some q) (hq : Obs q.1) (hy : ∀ s ps, yes s = some (ps, q.2) → Obs ps → yes' s = some b) (hn : ∀ s ps, no s = some (ps, q.2) → Obs ps → no' s = some b) (hu : ∀ ps, und = some (ps, q.2) → Obs ps → und' = some b) :
 (match s.t x with
  | .dat (.val (.bool v)) => match v with | true => yes' (s.force x true) | false => no' (s.force x false)
  | .undef => und'
  | _ => none) = some b := by
 unfold zmx at h
 cases hx : s.t x with
 | undef => rw [hx] at h; exact hu q.1 h hq
 | dat d =>
   rw [hx] at h
   cases d with
   | val v =>
     cases v with
     | bool v =>
       simp only at h ⊢
       split at h
       · obtain ⟨ps, h1, h2⟩ := zaM h
         rw [h2] at hq
         have hv : v = true := hq.1
         rw [hv]
         exact hy _ ps h1 hq.2
       · obtain ⟨ps, h1, h2⟩ := zaM h
         rw [h2] at hq
         have hv : v = false := hq.1
         rw [hv]
         exact hn _ ps h1 hq.2
       · cases v with
         | true => exact hy _ q.1 h hq
         | false => exact hn _ q.1 h hq
     | _ => cases h
   | _ => cases h
 | _ => rw [hx] at h; cases h
theorem ziT {α β : Type} {s : St} {c : Operand} {yes no : St → Option (List Prop × α)} {q : List Prop × α} {yes' no' : St → Option β} {b : β}
 (h : hcond hs s c yes no = some q) (hq : Obs q.1) (hy : ∀ s ps, yes s = some (ps, q.2) → Obs ps → yes' s = some b) (hn : ∀ s ps, no s = some (ps, q.2) → Obs ps → no' s = some b) : zmU s c yes' no' = some b := by
 unfold hcond at h
 unfold zmU
 split at h
 · rename_i x
   have := zdt (und' := (none : Option β)) h hq hy hn (fun ps h => by cases h)
   simp only
   revert this
   cases s.t x with
   | dat d =>
     cases d with
     | val v => cases v <;> exact id
     | _ => exact id
   | _ => intro h; first | exact h | cases h
 · rename_i v
   cases v with
   | true => exact hy _ q.1 h hq
   | false => exact hn _ q.1 h hq
 · cases h
theorem zeE {α β : Type} {s : St} {g : Option (Nat × Bool)} {k z : St → Option (List Prop × α)} {q : List Prop × α} {k' z' : St → Option β} {b : β}
 (h : zke hs ops s g k z = some q) (hq : Obs q.1) (hk : ∀ s ps, k s = some (ps, q.2) → Obs ps → k' s = some b) (hz : ∀ s ps, z s = some (ps, q.2) → Obs ps → z' s = some b) : zb4 ops s g k' z' = some b := by
 unfold zke at h
 unfold zb4
 split at h
 · exact hk _ q.1 h hq
 · rename_i j want
   simp only
   split at h
   · cases h
   · rename_i x hx
     rw [hx]
     simp only
     split at h
     · have := zdt (und' := z' s) h hq hk hz (fun ps h h2 => hz _ ps h h2)
       revert this
       cases s.t x with
       | dat d =>
         cases d with
         | val v =>
           cases v with
           | bool v => cases v <;> exact id
           | _ => exact id
         | _ => exact id
       | _ => exact id
     · have := zdt (und' := z' s) h hq hz hk (fun ps h h2 => hz _ ps h h2)
       revert this
       cases s.t x with
       | dat d =>
         cases d with
         | val v =>
           cases v with
           | bool v => cases v <;> exact id
           | _ => exact id
         | _ => exact id
       | _ => exact id
structure RunOK (E : Env) (run : Env → St → Oper → Option St) (view : St → St) (pu ap : Oper → Bool) : Prop where
 pure : ∀ s o n d, evOp E s.look s.get s.box o.type o.op = some (.pure d) → o.dst = some n → pu o = true → run E s o = some (s.put n d)
 app : ∀ s o s', step E s o = some s' → ap o = true → run E s o = some s'
 vw : ∀ s o, pu o = true → view s = s
 vw2 : ∀ s o, ap o = true → view s = s
 ev : ∀ s o rs f args fl, zdz E (view s) o = some (f, args, fl) → D.plains rs = true → (fl = true → D.cleans rs = true) → E.call f args [] [] = some (rs, [], []) → run E s o = run (E.with (rs, [], [])) s o
 go : ∀ s o r q, zdg E (view s) o = some r → E.call r.1 r.2.1 r.2.2.1 r.2.2.2 = some q → ∀ s', run (E.with q) s o = some s' → run E s o = some s'
theorem step_ok : RunOK E step (fun s => s) (fun _ => true) (fun _ => true) :=
 ⟨fun s o n d h hd _ => by
  unfold step
  rw [h, hd]
  rfl, fun s o s' h _ => h, fun _ _ _ => rfl, fun _ _ _ => rfl, fun s o rs f args fl h hpl hfl hc => by
  obtain ⟨h1, h2⟩ := zfr h hpl hfl hc
  unfold step
  rw [h1, h2], fun s o r q h hc s' hr => by rw [zfu h hc]; exact hr⟩
theorem zc0 {M : Option (List Nat)} {first : Bool} {k : Nat} : RunOK E (fun E => zaQ E M first k) (zd3 M k) (ziE M k) (fun _ => Nat.beq k 2) := by
 have hcall : ∀ (s : St) (o : Oper) r, zdz E s o = some r → ∃ ca z, o.op = .call ca ∧ ca.callee = .value z := fun s o r h => by
  unfold zdz at h
  split at h
  · rename_i ca ho
    split at h
    · rename_i z hz; exact ⟨ca, z, ho, hz⟩
    · cases h
  · cases h
 have hcall2 : ∀ (s : St) (o : Oper) r, zdg E s o = some r → ∃ ca z, o.op = .call ca ∧ ca.callee = .value z := fun s o r h => by
  unfold zdg at h
  split at h
  · rename_i ca ho
    split at h
    · rename_i z hz; exact ⟨ca, z, ho, hz⟩
    · cases h
  · cases h
 have hno : ∀ (s : St) (o : Oper) (q : List D × List (List D) × List (Option Row)), (∃ ca z, o.op = .call ca ∧ ca.callee = .value z) → (k = 0 ∨ k = 1 ∨ k = 3) → ∀ E, zaQ E M first k s o = none := by
  rintro s o q ⟨ca, z, ho, hz⟩ hk E
  rcases hk with rfl | rfl | rfl
  · simp only [zaQ, zeY, ho, zge, hz]
  · simp only [zaQ, zeZ, ho]
  · simp only [zaQ, zfI, ho]
 have hev : ∀ (s : St) (o : Oper) (r : Nat × List D × List (List D) × List (Option Row)), zdg E s o = some r → ∀ E', E'.mode = E.mode → (∀ zs ts, zaX E' s.look zs ts = zaX E s.look zs ts) → evOp E' s.look s.get s.box o.type o.op = none := by
  intro s o r h E' hm ha
  unfold zdg at h
  split at h
  · rename_i ca ho
    split at h
    · rename_i z hz
      split at h
      · rename_i f cap hf
        split at h
        · cases h
        · rename_i hdead
          rw [ho]
          simp only [evOp, hz, hf]
          cases cap with
          | cons r rs => rfl
          | nil =>
            simp only [List.isEmpty_nil, Bool.true_and] at hdead
            simp only [zd2, hm, ha]
            cases hzz : zcM (E.mode f) with
            | false => rfl
            | true =>
              rw [hzz, Bool.true_and] at hdead
              cases hv : zf2 s.get (zaX E s.look ca.args.toList ca.argTypes.toList) with
              | none => rfl
              | some r => rw [hv] at hdead; cases hdead
      · cases h
    · cases h
  · cases h
 have hpure : ∀ s o n d, evOp E s.look s.get s.box o.type o.op = some (.pure d) → o.dst = some n → ziE M k o = true → zaQ E M first k s o = some (s.put n d) := by
  intro s o n d h hd hpu
  match k, hpu with
  | 0, hpu =>
    have hpu : zge o.op = true := hpu
    simp only [zaQ, zeY, hpu, hd, h]
  | 1, hpu =>
    have hpu : (zlv o.op && M.isNone) = true := hpu
    simp only [Bool.and_eq_true, Option.isNone_iff_eq_none] at hpu
    obtain ⟨h1, rfl⟩ := hpu
    unfold zlv at h1
    split at h1
    · rename_i t x ho
      rw [ho] at h
      simp only [evOp, Option.bind_eq_some_iff, Option.map_eq_some_iff] at h
      obtain ⟨i, hi, y, hy, he⟩ := h
      cases he
      simp only [zaQ, zeZ, ho, hd, hi, Option.bind_some, hy, Option.map_some]
    · cases h1
  | 2, hpu => exact step_ok.pure s o n d h hd rfl
  | m + 4, hpu =>
    have hpu : M.isNone = true := hpu
    simp only [Option.isNone_iff_eq_none] at hpu
    subst hpu
    simp only [zaQ, zaz, h, hd, Option.bind_some, St.apply, Option.map_some]
 have hvw : ∀ (s : St) (o : Oper), ziE M k o = true → zd3 M k s = s := by
  intro s o hpu
  match k, hpu with
  | 0, _ => rfl
  | 1, _ => rfl
  | 2, _ => rfl
  | m + 4, hpu =>
    have hpu : M.isNone = true := hpu
    simp only [Option.isNone_iff_eq_none] at hpu
    subst hpu
    rfl
 refine ⟨hpure, fun s o s' h hk => by rw [Nat.eq_of_beq_eq_true hk]; exact h, hvw, fun s o hk => by rw [Nat.eq_of_beq_eq_true hk]; rfl, fun s o rs f args fl h hpl hfl hc => ?_, fun s o r q h hc s' hr => ?_⟩
 · have hk5 : (k = 0 ∨ k = 1 ∨ k = 3) ∨ k = 2 ∨ ∃ m, k = m + 4 := by
    match k with
    | 0 => exact .inl (.inl rfl)
    | 1 => exact .inl (.inr (.inl rfl))
    | 2 => exact .inr (.inl rfl)
    | 3 => exact .inl (.inr (.inr rfl))
    | m + 4 => exact .inr (.inr ⟨m, rfl⟩)
   rcases hk5 with hk | rfl | ⟨m, rfl⟩
   · rw [hno s o (rs, [], []) (hcall _ _ _ h) hk, hno s o (rs, [], []) (hcall _ _ _ h) hk]
   · exact step_ok.ev s o rs f args fl h hpl hfl hc
   · show zaz E M s o = zaz (E.with (rs, [], [])) M s o
     unfold zaz
     cases M with
     | none =>
       obtain ⟨h1, h2⟩ := zfr (s := s) h hpl hfl hc
       simp only [h1, h2]
     | some M =>
       have h' := step_ok.ev (s.hid M) o rs f args fl h hpl hfl hc
       simp only [h']
 · have hk5 : (k = 0 ∨ k = 1 ∨ k = 3) ∨ k = 2 ∨ ∃ m, k = m + 4 := by
    match k with
    | 0 => exact .inl (.inl rfl)
    | 1 => exact .inl (.inr (.inl rfl))
    | 2 => exact .inr (.inl rfl)
    | 3 => exact .inl (.inr (.inr rfl))
    | m + 4 => exact .inr (.inr ⟨m, rfl⟩)
   rcases hk5 with hk | rfl | ⟨m, rfl⟩
   · rw [hno s o q (hcall2 _ _ _ h) hk] at hr
     cases hr
   · exact step_ok.go s o r q h hc s' hr
   · have hr' : zaz (E.with q) M s o = some s' := hr
     show zaz E M s o = some s'
     unfold zaz at hr' ⊢
     cases M with
     | none =>
       simp only at hr'
       rw [hev s o r h (E.with q) rfl (fun zs ts => zc6 zs ts)] at hr'
       cases hr'
     | some M =>
       have h' := zfu (s := s.hid M) h hc
       simp only [h']
       exact hr'
theorem zbk {α β : Type} {run : Env → St → Oper → Option St} {view : St → St} {pu ap : Oper → Bool} (hrun : RunOK E run view pu ap) {s : St} {o : Oper} {k : St → Option (List Prop × α)} {q : List Prop × α} {k' : St → Option β} {b : β}
 (h : hop E hs run view pu ap s o k = some q) (hq : Obs q.1) (hk : ∀ s ps, k s = some (ps, q.2) → Obs ps → k' s = some b) : (run E s o).bind k' = some b := by
 unfold hop at h
 split at h
 · obtain ⟨ps, h1, h2⟩ := zaM h
   rw [h2] at hq
   rw [hq.1]
   exact hk _ ps h1 hq.2
 · obtain ⟨ps, h1, h2⟩ := zaM h
   rw [h2] at hq
   rw [hq.1]
   exact hk _ ps h1 hq.2
 · split at h
   · rename_i p d hask
     split at h
     · rename_i n hdn hpu
       obtain ⟨ps, h1, h2⟩ := zaM h
       rw [h2] at hq
       rw [hrun.pure s o _ _ (zfC hask hq.1) hdn hpu]
       exact hk _ ps h1 hq.2
     · cases h
   · split at h
     · rename_i p s' hask hap
       obtain ⟨ps, h1, h2⟩ := zaM h
       rw [h2] at hq
       rw [hrun.app s o _ (zi9 hask hq.1) hap]
       exact hk _ ps h1 hq.2
     · cases h
 · split at h
   · rename_i p d hask
     split at h
     · rename_i n hdn hpu
       obtain ⟨ps, h1, h2⟩ := zaM h
       rw [h2] at hq
       rw [hrun.pure s o _ _ (zfC hask hq.1) hdn hpu]
       exact hk _ ps h1 hq.2
     · cases h
   · split at h
     · rename_i p s' hask hap
       obtain ⟨ps, h1, h2⟩ := zaM h
       rw [h2] at hq
       rw [hrun.app s o _ (zh2 hask hq.1) hap]
       exact hk _ ps h1 hq.2
     · cases h
 · rename_i rs hhint
   split at h
   · rename_i f args fl hpl hcv
     have hkey : ∃ ps, hadd (E.call f args [] [] = some (rs, [], [])) (match pu o, o.dst with | true, some n => k (s.put n (retD rs)) | _, _ => (run (E.with (rs, [], [])) s o).bind k) = some (ps, q.2) ∧ Obs ps ∧ (fl = true → D.cleans rs = true) := by
      cases fl with
      | false => exact ⟨q.1, h, hq, fun e => by cases e⟩
      | true =>
        obtain ⟨ps, h1, h2⟩ := zaM h
        rw [h2] at hq
        exact ⟨ps, h1, hq.2, fun _ => hq.1⟩
     obtain ⟨ps0, h0, hq0, hfl⟩ := hkey
     obtain ⟨ps, h1, h2⟩ := zaM h0
     simp only at h2
     rw [h2] at hq0
     split at h1
     · rename_i n hpu hdn
       have hv := hrun.vw s o hpu
       rw [hv] at hcv
       rw [hrun.pure s o _ _ (zfr hcv hpl hfl hq0.1).1 hdn hpu]
       exact hk _ ps h1 hq0.2
     · rw [hrun.ev s o _ _ _ _ hcv hpl hfl hq0.1]
       simp only [Option.bind_eq_some_iff] at h1
       obtain ⟨s', hr, h1⟩ := h1
       rw [hr]
       exact hk s' ps h1 hq0.2
   · cases h
 · split at h
   · rename_i f args us ls hcv
     obtain ⟨ps, h1, h2⟩ := zaM h
     rw [h2] at hq
     split at h1
     · rename_i hap
       split at h1
       · rename_i p s' hch
         obtain ⟨ps2, h3, h4⟩ := zaM h1
         simp only at h4
         rw [h4] at hq
         have hv : view s = s := hrun.vw2 s o hap
         rw [hv] at hcv
         rw [hrun.app s o _ (zjh hcv hq.1 hch hq.2.1) hap]
         exact hk s' ps2 h3 hq.2.2
       · cases h1
     · simp only [Option.bind_eq_some_iff] at h1
       obtain ⟨s', hr, h1⟩ := h1
       rw [hrun.go s o _ _ hcv hq.1 s' hr]
       exact hk s' ps h1 hq.2
   · split at h
     · rename_i f args cs hcv hpl hap hkey
       obtain ⟨ps, h1, h2⟩ := zaM h
       rw [h2] at hq
       have hv : view s = s := hrun.vw2 s o hap
       rw [hv] at hcv
       simp only [Option.bind_eq_some_iff] at h1
       obtain ⟨s', hs', h1⟩ := h1
       have hst : step E s o = some s' := by
        unfold step
        rw [zmB hcv hpl hq.1]
        exact hs'
       rw [hrun.app s o s' hst hap]
       exact hk s' ps h1 hq.2
     · cases h
 · cases hr : run E s o with
   | none => rw [hr] at h; cases h
   | some s' => rw [hr] at h; exact hk s' q.1 h hq
theorem zem : ∀ (l : List Oper) (s : St) (q : List Prop × St), hops E hs ops l s = some q → Obs q.1 → zdE E ops l s = some q.2
 | [], s, q, h, hq => by cases h; rfl
 | o :: l, s, q, h, hq => by
   unfold hops at h
   unfold zdE
   exact zeE h hq (fun s ps h1 h2 => zbk step_ok h1 h2 fun s ps h3 h4 => zem l s (ps, q.2) h3 h4) (fun s ps h1 h2 => zem l _ (ps, q.2) h1 h2)
theorem zaI {M : Option (List Nat)} : ∀ (l : List PRow) (first : Bool) (s : St) (q : List Prop × St), zeK E hs ops M first l s = some q → Obs q.1 → zaO E ops M first l s = some q.2
 | [], first, s, q, h, hq => by cases h; rfl
 | (i, k, ds) :: l, first, s, q, h, hq => by
   unfold zeK at h
   unfold zaO
   split at h
   · cases h
   · rename_i hj
     simp only [hj]
     split at h
     · cases h
     · rename_i o ho
       simp only [ho]
       refine zeE h hq (fun s ps h1 h2 => ?_) (fun s ps h1 h2 => zaI l _ _ (ps, q.2) h1 h2)
       split at h1
       · split at h1
         · rename_i hgr
           have := zbk (hs := hs) step_ok h1 h2 fun s ps h3 h4 => zaI l _ s (ps, q.2) h3 h4
           simp only [zaH, hgr]
           exact this
         · cases h1
       · exact zbk (hs := hs) (zc0 (M := none) (first := first) (k := 4)) h1 h2 fun s ps h3 h4 => zaI l _ s (ps, q.2) h3 h4
       · exact zbk (hs := hs) (zc0 (M := none) (first := first) (k := 4)) h1 h2 fun s ps h3 h4 => zaI l _ s (ps, q.2) h3 h4
       · exact zbk (hs := hs) (zc0 (M := none) (first := first) (k := 4)) h1 h2 fun s ps h3 h4 => zaI l _ s (ps, q.2) h3 h4
       · split at h1
         · rename_i hcv
           have := zbk (hs := hs) step_ok h1 h2 fun s ps h3 h4 => zaI l _ s (ps, q.2) h3 h4
           simp only [zaH, hcv]
           exact this
         · cases h1
       · split at h1
         · rename_i hcv
           have := zbk (hs := hs) step_ok h1 h2 fun s ps h3 h4 => zaI l _ s (ps, q.2) h3 h4
           simp only [zaH, hcv]
           exact this
         · cases h1
       · split at h1
         · rename_i hcv
           have := zbk (hs := hs) step_ok h1 h2 fun s ps h3 h4 => zaI l _ s (ps, q.2) h3 h4
           simp only [zaH, hcv]
           exact this
         · cases h1
       · rename_i n5 n6 n7 n8 n9 n10 n11
         have e : ∀ s, zaH E M first k s o = zaQ E M first k s o := fun s => by
          unfold zaH
          split
          · exact absurd rfl n5
          · exact absurd rfl n6
          · exact absurd rfl n7
          · exact absurd rfl n8
          · exact absurd rfl n9
          · exact absurd rfl n10
          · exact absurd rfl n11
          · rfl
         rw [e]
         exact zbk zc0 h1 h2 fun s ps h3 h4 => zaI l _ s (ps, q.2) h3 h4
theorem zgQ {id : Nat} {draw : Bool} {s : St} {q : List Prop × St} (h : zjg E hs id ops draw s = some q) (hq : Obs q.1) : zb9 E id ops draw s = some q.2 := by
 unfold zjg at h
 unfold zb9
 cases draw with
 | false => exact zem _ _ _ h hq
 | true =>
   simp only at h ⊢
   split at h
   · rename_i p hp
     simp only [hp]
     unfold zpy at h
     unfold zi3
     split at h
     · rename_i e
       simp only [e]
       cases h; rfl
     · rename_i i k ds l e
       simp only [e]
       split at h
       · rename_i hn
         simp only [hn]
         exact zaI _ _ _ _ h hq
       · cases h
   · cases h
theorem zgK {r : Option (List Prop × X × St)} {k : X → St → Option (List Prop × X × St)} {q : List Prop × X × St} (h : znc r k = some q) (hq : Obs q.1) : ∃ ps x s qs, r = some (ps, x, s) ∧ k x s = some (qs, q.2) ∧ Obs ps ∧ Obs qs := by
 unfold znc at h
 split at h
 · rename_i ps x s
   split at h
   · rename_i q' hk
     cases h
     obtain ⟨h1, h2⟩ := zgi hq
     exact ⟨ps, x, s, q'.1, rfl, hk, h1, h2⟩
   · cases h
 · cases h
theorem zaZ {n : Nat} : ∀ (c : Code) (s : St) (q : List Prop × X × St), zcr E n hs c s = some q → Obs q.1 → exec E n c s = some q.2
 | .skip, s, q, h, hq => by cases h; rfl
 | .region id ops draw, s, q, h, hq => by
   simp only [zcr] at h
   split at h
   · rename_i r hr
     cases h
     simp only [exec]
     rw [zgQ hr hq]
     rfl
   · cases h
 | .seq a b, s, q, h, hq => by
   obtain ⟨pq, r⟩ := q
   simp only [zcr] at h
   obtain ⟨ps, x, s1, qs, h1, h2, h3, h4⟩ := zgK h hq
   have := zaZ a s _ h1 h3
   simp only [exec, this]
   cases x with
   | normal => exact zaZ b s1 (qs, r) h2 h4
   | exit i => cases h2; rfl
   | ret => cases h2; rfl
 | .cond c a b, s, q, h, hq => by
   simp only [zcr] at h
   simp only [exec]
   exact ziT h hq (fun s ps h1 h2 => zaZ a s (ps, q.2) h1 h2) (fun s ps h1 h2 => zaZ b s (ps, q.2) h1 h2)
 | .block id c, s, q, h, hq => by
   obtain ⟨pq, r⟩ := q
   simp only [zcr] at h
   obtain ⟨ps, x, s1, qs, h1, h2, h3, h4⟩ := zgK h hq
   have := zaZ c s _ h1 h3
   simp only [exec, this]
   cases x with
   | normal => cases h2; rfl
   | exit i =>
     simp only at h2 ⊢
     split at h2
     · rename_i hb; simp only [hb]; cases h2; rfl
     · rename_i hb; simp only [hb]; cases h2; rfl
   | ret => cases h2; rfl
 | .loop c, s, q, h, hq => by
   simp only [zcr] at h
   split at h
   · cases h; exact hq.2.1 s ((ziL _ s).trans hq.1)
   · cases h
 | .exit id, s, q, h, hq => by cases h; rfl
 | .ret, s, q, h, hq => by cases h; rfl
 | .label _, s, q, h, hq => by cases h
 | .goto _, s, q, h, hq => by cases h
 | .rangeFunc _ _ _ _, s, q, h, hq => by cases h
 | .scope _, s, q, h, hq => by cases h
 | .refuse _, s, q, h, hq => by cases h
end
end Go.Den
namespace Go.Den
open Go
set_option linter.unusedVariables false
abbrev Res := List D × List (List D) × List (Option Row)
def hrun (C : Cfg) (n : Nat) (call : Nat → List D → List (List D) → List (Option Row) → Option Res) (hs : zcL) (f : Nat) (fn : Func) (args : List D) (u : List (List D)) (l : List (Option Row)) : Option (List Prop × Res) :=
 match fn.body with
 | none => none
 | some c => match zcr ⟨C.ty, C.mode, fn.ntmps, C.live f, C.out f, C.plan f, call⟩ n hs c (start args u l) with
   | some (_, .exit _, _) => none
   | some (ps, _, s) => (zop C.ty (C.liv f) fn.results.toList u l s).map fun r => (ps, r)
   | none => none
theorem zkI {C : Cfg} {n : Nat} {call : Nat → List D → List (List D) → List (Option Row) → Option Res} (hs : zcL) {f : Nat} {fn : Func} {args : List D} {u : List (List D)} {l : List (Option Row)} {q : List Prop × Res} (h : hrun C n call hs f fn args u l = some q) (hq : Obs q.1) : zan C n call f fn args u l = some q.2 := by
 unfold hrun at h
 unfold zan
 split at h
 · cases h
 · rename_i c hc
   rw [hc]
   simp only
   split at h
   · cases h
   · rename_i ps x s hne he
     simp only [Option.map_eq_some_iff] at h
     obtain ⟨r, hr, h⟩ := h
     cases h
     have := zaZ _ _ _ he hq
     rw [this]
     cases x with
     | exit i => exact (hne _ rfl).elim
     | normal => simp only [hr]
     | ret => simp only [hr]
   · cases h
theorem zab {C : Cfg} {n : Nat} {call : Nat → List D → List (List D) → List (Option Row) → Option Res} (hs : zcL) {f : Nat} {fn : Func} {args : List D} {u : List (List D)} {l : List (Option Row)} {ps : List Prop} {r : Res} (hq : Obs ps) (h : hrun C n call hs f fn args u l = some (ps, r)) : zan C n call f fn args u l = some r := zkI hs h hq
theorem ob0 : Obs [] := trivial
theorem ob {p : Prop} {l : List Prop} (h : p) (hl : Obs l) : Obs (p :: l) := ⟨h, hl⟩
theorem obT {p : Prop} (h : p) : true = true ∧ p := ⟨rfl, h⟩
def zfk (r : Nat) : Code → Option Code
 | .seq a b => match zfk r a with | some c => some c | none => zfk r b
 | .cond _ a b => match zfk r a with | some c => some c | none => zfk r b
 | .block _ a => zfk r a
 | .loop a => match Nat.beq (zaa a) r with | true => some a | false => zfk r a
 | _ => none
def lp (fn : Func) (r : Nat) : Code := match fn.body with | some c => (zfk r c).getD .skip | none => .skip
def zaf (C : Cfg) (k f : Nat) (fn : Func) : Env := ⟨C.ty, C.mode, fn.ntmps, C.live f, C.out f, C.plan f, den C k⟩
def za7 (C : Cfg) (k f : Nat) (fn : Func) (r : Nat) (s0 : St) (x : X) (s' : St) : Prop := zmc (zaf C k f fn) k (lp fn r) s0 x s'
section
variable {E : Env} {n m : Nat} {c : Code} {L : List Nat} {s s0 s1 s2 : St} {ps : List Prop} {hs : zcL}
def stOf (r : Option (List Prop × X × St)) : St := match r with | some q => q.2.2 | none => start [] [] []
def zm5 (r : Option (List Prop × X × St)) : Option (List Prop × X) := match r with | some q => some (q.1, q.2.1) | none => none
def zag (E : Env) (n : Nat) (c : Code) (m : Nat) (s : St) (K : X → St → Prop) : Prop := ∃ x s1, iter (exec E n c) (St.norm (E.live (zaa c))) m s = some (x, s1) ∧ K x (s1.norm (E.out (zaa c)))
theorem zgn {r : Option (List Prop × X × St)} {p : List Prop × X} (h : zm5 r = some p) : r = some (p.1, p.2, stOf r) := by
 unfold zm5 at h
 split at h
 · cases h; rfl
 · cases h
theorem zal {K : X → St → Prop} (hs : zcL) (hL : s.norm (E.live (zaa c)) = s0) (h : zm5 (zcr E n hs c s0) = some (ps, .normal)) (ho : Obs ps) (hst : nmOf (E.live (zaa c)) (stOf (zcr E n hs c s0)) = s2) (hn : ∀ s, s.norm (E.live (zaa c)) = s2 → zag E n c m s K) : zag E n c (m + 1) s K := by
 obtain ⟨x, s1, h1, h2⟩ := hn (stOf (zcr E n hs c s0)) ((ziL _ _).trans hst)
 have := zaZ _ _ _ (zgn h) ho
 refine ⟨x, s1, ?_, h2⟩
 simp only [iter, hL, this]
 exact h1
theorem zam {K : X → St → Prop} {x : X} (hs : zcL) (hL : s.norm (E.live (zaa c)) = s0) (h : zm5 (zcr E n hs c s0) = some (ps, x)) (hx : (match x with | .normal => false | _ => true) = true) (ho : Obs ps) (hst : nmOf (E.out (zaa c)) (stOf (zcr E n hs c s0)) = s2) (hK : K x s2) : zag E n c (m + 1) s K := by
 have := zaZ _ _ _ (zgn h) ho
 refine ⟨x, stOf (zcr E n hs c s0), ?_, by rw [ziL, hst]; exact hK⟩
 simp only [iter, hL, this]
 cases x with
 | normal => cases hx
 | _ => rfl
theorem ziK {K : X → St → Prop} (h : zag E n c n s K) : ∃ x s', exec E n (.loop c) s = some (x, s') ∧ K x s' := by
 obtain ⟨x, s1, h1, h2⟩ := h
 exact ⟨x, _, by simp only [exec, h1, Option.map_some], h2⟩
theorem zcu {x : X} (h : ∀ s : St, s.norm (E.live (zaa c)) = s0 → zag E n c n s (fun x' s' => x' = x ∧ s' = s1)) : zmc E n c s0 x s1 := fun s hL => by
 obtain ⟨x', s', h1, rfl, rfl⟩ := ziK (h s hL)
 exact h1
end
end Go.Den
namespace Go.Den
open Go
abbrev I (n : Int) : Dat := .val (.int .i64 n)
abbrev B (b : Bool) : Dat := .val (.bool b)
abbrev S (s : ByteArray) : Dat := .val (.string s)
abbrev w64 (n : Int) : Int := IntKind.i64.wrap n
abbrev T (k n : Int) (ds : List Dat) : Dat := .agg [I k, I n, .lst false ds]
abbrev N3 (a b c : Int) : Dat := .agg [I a, I b, I c]
end Go.Den
namespace Go.Den
open Go
set_option linter.unusedVariables false
set_option maxRecDepth 100000
theorem zjX {α : Type} {f : Nat} : ∀ {l : List (Nat × α)}, memN f (l.map (·.1)) = false → zdd l f = none
 | [], _ => rfl
 | (a, x) :: l, h => by
   simp only [List.map_cons, memN] at h
   unfold zdd
   split at h
   · cases h
   · rename_i hb
     have hab : Nat.beq a f = false := by
      cases hc : Nat.beq a f with
      | false => rfl
      | true =>
        have := Nat.eq_of_beq_eq_true hc
        subst this
        have hr : Nat.beq a a = true := Nat.beq_refl a
        rw [hr] at hb
        cases hb
     rw [hab]
     exact zjX h
theorem zm4 : extsOf.map (·.1) = zmh := by rfl
theorem noExt {f : Nat} {fn : Func} (h : cfg.fn f = some fn) (hb : memN f zhk = false) : cfg.ext f = none := by
 unfold cfg at h ⊢
 simp only at h ⊢
 split at h
 · rename_i hbb
   simp only [Bool.and_eq_true, Bool.or_eq_true, Bool.not_eq_true', hb, Bool.false_eq_true, or_false] at hbb
   exact zjX (by rw [zm4]; exact hbb.2)
 · cases h
def EvN (N f : Nat) (args : List D) (u : List (List D)) (l : List (Option Row)) (r : Res) : Prop := ∀ k, N ≤ k → den cfg k f args u l = some r
theorem zaY {f : Nat} (fn : Func) {args : List D} {u : List (List D)} {l : List (Option Row)} {r : Res} (N : Nat) (hf : cfg.fn f = some fn) (hl : Nat.ble args.length fn.ntmps = true) (h : ∀ kk, N ≤ kk → zan cfg kk (den cfg kk) f fn args u l = some r) (hb : memN f zhk = false := by kernel_rfl) : EvN (N + 1) f args u l r := fun k hk => by
 obtain ⟨m, rfl⟩ : ∃ m, k = m + 1 := ⟨k - 1, by omega⟩
 simp only [den, noExt hf hb, Option.bind_none, hf, hl]
 exact h m (by omega)
theorem zca {n : Int} (h : -9223372036854775808 ≤ n ∧ n ≤ 9223372036854775807) : w64 n = n := by show IntKind.i64.wrap n = n; rw [IntKind.wrap_i64]; omega
theorem zew {E : Env} {kk : Nat} {c : Code} {K : X → St → Prop} (st : Nat → St) (n : Nat)
 (hgo : ∀ i, i < n → ∀ (m : Nat) (s : St), s.norm (E.live (zaa c)) = st i → (∀ s : St, s.norm (E.live (zaa c)) = st (i + 1) → zag E kk c m s K) → zag E kk c (m + 1) s K)
 (hend : ∀ (m : Nat) (s : St), s.norm (E.live (zaa c)) = st n → zag E kk c (m + 1) s K) : ∀ (d i m : Nat), i + d = n → d < m → ∀ s : St, s.norm (E.live (zaa c)) = st i → zag E kk c m s K
 | 0, i, m, hi, hm, s, hs => by
   obtain ⟨m, rfl⟩ : ∃ k, m = k + 1 := ⟨m - 1, by omega⟩
   have : i = n := by omega
   subst this
   exact hend m s hs
 | d + 1, i, m, hi, hm, s, hs => by
   obtain ⟨m, rfl⟩ : ∃ k, m = k + 1 := ⟨m - 1, by omega⟩
   exact hgo i (by omega) m s hs fun s' hs' => zew st n hgo hend d (i + 1) m (by omega) (by omega) s' hs'
theorem zbi {kk f : Nat} {fn : Func} {r : Nat} {x : X} {s' : St} (st : Nat → St) (n : Nat) (hk : n < kk)
 (hgo : ∀ i, i < n → ∀ (m : Nat) (s : St) (K : X → St → Prop), s.norm ((zaf cfg kk f fn).live (zaa (lp fn r))) = st i → (∀ s : St, s.norm ((zaf cfg kk f fn).live (zaa (lp fn r))) = st (i + 1) → zag (zaf cfg kk f fn) kk (lp fn r) m s K) → zag (zaf cfg kk f fn) kk (lp fn r) (m + 1) s K)
 (hend : ∀ (m : Nat) (s : St) (K : X → St → Prop), s.norm ((zaf cfg kk f fn).live (zaa (lp fn r))) = st n → K x s' → zag (zaf cfg kk f fn) kk (lp fn r) (m + 1) s K) {s0 : St} (h0 : s0 = st 0) : za7 cfg kk f fn r s0 x s' :=
 zcu fun s hs => zew st n (fun i hi m s hs hn => hgo i hi m s _ hs hn) (fun m s hs => hend m s _ hs ⟨rfl, rfl⟩) n 0 kk (by omega) hk s (by rw [hs, h0])
theorem zoh {α : Type} (a : List α) (z x : α) (i : Nat) (hi : i < a.length) (hx : a[i]? = some x) : (a.take i ++ List.replicate (a.length - i) z).set i x = a.take (i + 1) ++ List.replicate (a.length - (i + 1)) z := by
 have h1 : (a.take i).length = i := by simp; omega
 obtain ⟨m, hm⟩ : ∃ m, a.length - i = m + 1 := ⟨a.length - i - 1, by omega⟩
 rw [hm, show a.length - (i + 1) = m by omega, List.replicate_succ, List.set_append_right _ _ (by omega), h1, Nat.sub_self, List.set_cons_zero, List.take_add_one, hx]
 simp
theorem zoR {α : Type} (a : List α) (z : α) (i : Nat) (hi : i < a.length) : (a.take i ++ List.replicate (a.length - i) z)[i]? = some z := by
 have h1 : (a.take i).length = i := by simp; omega
 rw [List.getElem?_append_right (by omega), h1, Nat.sub_self, List.getElem?_replicate, if_pos (by omega)]
theorem zpY {n : Nat} {d : Dat} {i : TI} {k : IntKind} (h : WT cfg.ty n d) (ht : cfg.ty n = some i) (hk : i.kind = .int k) : ∃ x : Int, d = .val (.int k x) ∧ (Lit.int k x).wf = true := by
 cases h with
 | @int _ i' k' x ht' hk' hw => rw [ht] at ht'; cases ht'; rw [hk] at hk'; cases hk'; exact ⟨x, rfl, hw⟩
 | bool ht' hk' => rw [ht] at ht'; cases ht'; rw [hk] at hk'; cases hk'
 | str ht' hk' => rw [ht] at ht'; cases ht'; rw [hk] at hk'; cases hk'
 | lst ht' hk' => rw [ht] at ht'; cases ht'; rw [hk] at hk'; cases hk'
 | agg ht' hk' => rw [ht] at ht'; cases ht'; rw [hk] at hk'; cases hk'
theorem zp5 {n e : Nat} {d : Dat} {i : TI} (h : WT cfg.ty n d) (ht : cfg.ty n = some i) (hk : i.kind = .slice e) : ∃ es : List Dat, d = .lst false es ∧ es.length ≤ maxLen ∧ ∀ x ∈ es, WT cfg.ty e x := by
 cases h with
 | int ht' hk' => rw [ht] at ht'; cases ht'; rw [hk] at hk'; cases hk'
 | bool ht' hk' => rw [ht] at ht'; cases ht'; rw [hk] at hk'; cases hk'
 | str ht' hk' => rw [ht] at ht'; cases ht'; rw [hk] at hk'; cases hk'
 | @lst _ i' e' es ht' hk' hl hx => rw [ht] at ht'; cases ht'; rw [hk] at hk'; cases hk'; exact ⟨es, rfl, hl, hx⟩
 | agg ht' hk' => rw [ht] at ht'; cases ht'; rw [hk] at hk'; cases hk'
theorem zpw {n : Nat} {d : Dat} {i : TI} (h : WT cfg.ty n d) (ht : cfg.ty n = some i) (hk : i.kind = .struct) : ∃ cs : List Dat, d = .agg cs ∧ cs.length = i.fs.length ∧ ∀ (j : Nat) (f : Nat × Nat) (x : Dat), i.fs[j]? = some f → cs[j]? = some x → WT cfg.ty f.2 x := by
 cases h with
 | int ht' hk' => rw [ht] at ht'; cases ht'; rw [hk] at hk'; cases hk'
 | bool ht' hk' => rw [ht] at ht'; cases ht'; rw [hk] at hk'; cases hk'
 | str ht' hk' => rw [ht] at ht'; cases ht'; rw [hk] at hk'; cases hk'
 | lst ht' hk' => rw [ht] at ht'; cases ht'; rw [hk] at hk'; cases hk'
 | @agg _ i' cs ht' hk' hl hx => rw [ht] at ht'; cases ht'; exact ⟨cs, rfl, hl, hx⟩
end Go.Den
namespace Go.Den
open Go
set_option linter.unusedVariables false
set_option maxRecDepth 100000
structure Cl where
 l : Bool
 n : Int
 a : Int
 b : Int
abbrev Cl.d (x : Cl) : Dat := .agg [B x.l, I x.n, I x.a, I x.b]
abbrev Yd (b : Bool) (o : Int) (cs rs ns : List Dat) : Dat := .agg [I o, .lst b cs, .lst b rs, .lst b ns]
theorem zok (kk : Nat) (x lo hi : Int) (h1 : decide (lo ≤ x) = true) : zan cfg kk (den cfg kk) 39 Go.Proofs.Tryd.f39 [.dat (I x), .dat (I lo), .dat (I hi)] [] [] = some ([D.dat (B (decide (x ≤ hi)))], [], []) :=
 zab [(200010, .yes)] (ob h1 (ob (rfl : true = true) (ob (rfl : true = true) ob0))) (by kernel_rfl)
theorem zo8 (kk : Nat) (x lo hi : Int) (h1 : decide (lo ≤ x) = false) : zan cfg kk (den cfg kk) 39 Go.Proofs.Tryd.f39 [.dat (I x), .dat (I lo), .dat (I hi)] [] [] = some ([D.dat (B false)], [], []) :=
 zab [(200010, .no)] (ob h1 (ob (rfl : false = false) (ob (rfl : false = false) ob0))) (by kernel_rfl)
theorem l1In (kk : Nat) (x lo hi : Int) {r : Res} (q1 : (decide (lo ≤ x) = true) → r = ([D.dat (B (decide (x ≤ hi)))], [], [])) (q2 : (decide (lo ≤ x) = false) → r = ([D.dat (B false)], [], [])) : zan cfg kk (den cfg kk) 39 Go.Proofs.Tryd.f39 [.dat (I x), .dat (I lo), .dat (I hi)] [] [] = some r := by
 rcases Bool.eq_false_or_eq_true (decide (lo ≤ x)) with d1 | d1
 · have oz := q1 d1
   subst oz; exact zok kk x lo hi d1
 · have oz := q2 d1
   subst oz; exact zo8 kk x lo hi d1
theorem zkz (kk : Nat) (x hi : Int) (h1 : decide (0 ≤ x) = true) : zan cfg kk (den cfg kk) 43 Go.Proofs.Tryd.f43 [.dat (I x), .dat (I hi)] [] [] = some ([D.dat (B (decide (x < hi)))], [], []) :=
 zab [(200007, .yes)] (ob h1 (ob (rfl : true = true) (ob (rfl : true = true) ob0))) (by kernel_rfl)
theorem zk0 (kk : Nat) (x hi : Int) (h1 : decide (0 ≤ x) = false) : zan cfg kk (den cfg kk) 43 Go.Proofs.Tryd.f43 [.dat (I x), .dat (I hi)] [] [] = some ([D.dat (B false)], [], []) :=
 zab [(200007, .no)] (ob h1 (ob (rfl : false = false) (ob (rfl : false = false) ob0))) (by kernel_rfl)
theorem zog (kk : Nat) (x hi : Int) {r : Res} (q1 : (decide (0 ≤ x) = true) → r = ([D.dat (B (decide (x < hi)))], [], [])) (q2 : (decide (0 ≤ x) = false) → r = ([D.dat (B false)], [], [])) : zan cfg kk (den cfg kk) 43 Go.Proofs.Tryd.f43 [.dat (I x), .dat (I hi)] [] [] = some r := by
 rcases Bool.eq_false_or_eq_true (decide (0 ≤ x)) with d1 | d1
 · have oz := q1 d1
   subst oz; exact zkz kk x hi d1
 · have oz := q2 d1
   subst oz; exact zk0 kk x hi d1
theorem znt (kk : Nat) (b : Bool) (o : Int) (cs rs ns : List Dat) (c : Cl) (h1 : (!c.l) = true) (h7 : decide (o ≤ c.a) = true) : zan cfg kk (den cfg kk) 66 Go.Proofs.Tryd.f66 [.dat (Yd b o cs rs ns), .dat (c.d)] [] [] = some ([D.dat (B true)], [], []) :=
 zab [(200008, .yes), (200014, .yes)] (ob h1 (ob (rfl : true = true) (ob (rfl : true = true) (ob (rfl : true = true) (ob (rfl : true = true) (ob (rfl : true = true) (ob h7 (ob (rfl : true = true) (ob (rfl : true = true) (ob (rfl : true = true) (ob (rfl : true = true) (ob (rfl : true = true) ob0)))))))))))) (by kernel_rfl)
theorem znJ (kk : Nat) (b : Bool) (o : Int) (cs rs ns : List Dat) (c : Cl) (h1 : (!c.l) = true) (h7 : decide (o ≤ c.a) = false) : zan cfg kk (den cfg kk) 66 Go.Proofs.Tryd.f66 [.dat (Yd b o cs rs ns), .dat (c.d)] [] [] = some ([D.dat (B (decide (o ≤ c.b)))], [], []) :=
 zab [(200008, .yes), (200014, .no)] (ob h1 (ob (rfl : true = true) (ob (rfl : true = true) (ob (rfl : true = true) (ob (rfl : true = true) (ob (rfl : true = true) (ob h7 (ob (rfl : false = false) (ob (rfl : false = false) (ob (rfl : false = false) (ob (rfl : false = false) (ob (rfl : true = true) ob0)))))))))))) (by kernel_rfl)
theorem znI (kk : Nat) (b : Bool) (o : Int) (cs rs ns : List Dat) (c : Cl) (h1 : (!c.l) = false) : zan cfg kk (den cfg kk) 66 Go.Proofs.Tryd.f66 [.dat (Yd b o cs rs ns), .dat (c.d)] [] [] = some ([D.dat (B false)], [], []) :=
 zab [(200008, .no)] (ob h1 (ob (rfl : false = false) (ob (rfl : false = false) (ob (rfl : false = false) (ob (rfl : false = false) (ob (rfl : false = false) (ob (rfl : false = false) ob0))))))) (by kernel_rfl)
theorem names (kk : Nat) (b : Bool) (o : Int) (cs rs ns : List Dat) (c : Cl) {r : Res} (q1 : ((!c.l) = true) → (decide (o ≤ c.a) = true) → r = ([D.dat (B true)], [], [])) (q2 : ((!c.l) = true) → (decide (o ≤ c.a) = false) → r = ([D.dat (B (decide (o ≤ c.b)))], [], [])) (q3 : ((!c.l) = false) → r = ([D.dat (B false)], [], [])) : zan cfg kk (den cfg kk) 66 Go.Proofs.Tryd.f66 [.dat (Yd b o cs rs ns), .dat (c.d)] [] [] = some r := by
 rcases Bool.eq_false_or_eq_true ((!c.l)) with d1 | d1
 · rcases Bool.eq_false_or_eq_true (decide (o ≤ c.a)) with d7 | d7
   · have oz := q1 d1 d7
     subst oz; exact znt kk b o cs rs ns c d1 d7
   · have oz := q2 d1 d7
     subst oz; exact znJ kk b o cs rs ns c d1 d7
 · have oz := q3 d1
   subst oz; exact znI kk b o cs rs ns c d1
theorem ziJ (kk : Nat) (b : Bool) (es : List Dat) (x : Int) (x7 : Int) (h1 : den cfg kk 89 [D.dat (Dat.lst b es), D.dat (I x)] [] [] = some ([D.dat (I x7)], [], [])) : zan cfg kk (den cfg kk) 67 Go.Proofs.Tryd.f67 [.dat (Dat.lst b es), .dat (I x)] [] [] = some ([D.dat (B (decide (0 ≤ x7)))], [], []) :=
 zab [(7, .ret [.dat (I x7)])] (ob h1 ob0) (by kernel_rfl)
theorem contains (kk : Nat) (b : Bool) (es : List Dat) (x : Int) (x7 : Int) {r : Res} (q1 : (den cfg kk 89 [D.dat (Dat.lst b es), D.dat (I x)] [] [] = some ([D.dat (I x7)], [], [])) ∧ r = ([D.dat (B (decide (0 ≤ x7)))], [], [])) : zan cfg kk (den cfg kk) 67 Go.Proofs.Tryd.f67 [.dat (Dat.lst b es), .dat (I x)] [] [] = some r := by
 obtain ⟨o1, oz⟩ := q1
 subst oz; exact ziJ kk b es x x7 o1
end Go.Den
namespace Go.Den
open Go
set_option linter.unusedVariables false
set_option maxRecDepth 100000
def ziN (b : Bool) (cs out opn : List Dat) : St := Nm [0, 2, 7, 8] [.dat (.lst b cs), .fn 63 [], .own 4 out, .own 3 opn] [none, none, none, none] [] []
theorem zeT (kk m : Nat) {s : St} {K : X → St → Prop} (b : Bool) (cs out opn : List Dat) (g47 : Bool) (x24 : Int) (g33 : Bool) (g100036 : Bool) (c39 : Cl) (hs : s.norm ((zaf cfg kk 62 Go.Proofs.Tryd.f62).live (zaa (lp Go.Proofs.Tryd.f62 2))) = ziN b cs out opn) (q1 : (decide (0 < (opn.length : Int)) = true) → (g33 = true) → (0 ≤ w64 ((opn.length : Int) - 1) ∧ w64 ((opn.length : Int) - 1) < (opn.length : Int)) ∧ (opn[(w64 ((opn.length : Int) - 1)).toNat]? = some (I x24)) ∧ (0 ≤ w64 ((opn.length : Int) - 1) ∧ w64 ((opn.length : Int) - 1) ≤ (opn.length : Int)) ∧ (0 ≤ x24 ∧ x24 < (out.length : Int)) ∧ (out[x24.toNat]? = some (B g33)) ∧ (∀ s : St, s.norm ((zaf cfg kk 62 Go.Proofs.Tryd.f62).live (zaa (lp Go.Proofs.Tryd.f62 2))) = Nm [0, 2, 7, 8] [D.dat (Dat.lst b cs), D.fn 63 [], D.own 4 out, D.own 3 (List.take (w64 ((opn.length : Int) - 1)).toNat opn)] [none, none, none, none] [] [] → zag (zaf cfg kk 62 Go.Proofs.Tryd.f62) kk (lp Go.Proofs.Tryd.f62 2) m s K)) (q2 : (decide (0 < (opn.length : Int)) = true) → (g33 = false) → ((!c39.l) = true) → (g47 = true) → (0 ≤ w64 ((opn.length : Int) - 1) ∧ w64 ((opn.length : Int) - 1) < (opn.length : Int)) ∧ (opn[(w64 ((opn.length : Int) - 1)).toNat]? = some (I x24)) ∧ (0 ≤ w64 ((opn.length : Int) - 1) ∧ w64 ((opn.length : Int) - 1) ≤ (opn.length : Int)) ∧ (0 ≤ x24 ∧ x24 < (out.length : Int)) ∧ (out[x24.toNat]? = some (B g33)) ∧ (0 ≤ x24 ∧ x24 < (out.length : Int)) ∧ (out[x24.toNat]? = some (B g100036)) ∧ ((0 ≤ x24 ∧ x24 < (cs.length : Int)) ∧ cs[x24.toNat]? = some (Dat.agg [B c39.l, I c39.n, I c39.a, I c39.b])) ∧ (den cfg kk 63 [D.dat (I x24)] [] [] = some ([D.dat (B g47)], [], [])) ∧ ((List.take (w64 ((opn.length : Int) - 1)).toNat opn).length + 2 ≤ 2147483648) ∧ (∀ s : St, s.norm ((zaf cfg kk 62 Go.Proofs.Tryd.f62).live (zaa (lp Go.Proofs.Tryd.f62 2))) = Nm [0, 2, 7, 8] [D.dat (Dat.lst b cs), D.fn 63 [], D.own 4 (out.set x24.toNat (B true)), D.own 3 (List.take (w64 ((opn.length : Int) - 1)).toNat opn ++ [I c39.a, I c39.b])] [none, none, none, none] [] [] → zag (zaf cfg kk 62 Go.Proofs.Tryd.f62) kk (lp Go.Proofs.Tryd.f62 2) m s K)) (q3 : (decide (0 < (opn.length : Int)) = true) → (g33 = false) → ((!c39.l) = true) → (g47 = false) → (0 ≤ w64 ((opn.length : Int) - 1) ∧ w64 ((opn.length : Int) - 1) < (opn.length : Int)) ∧ (opn[(w64 ((opn.length : Int) - 1)).toNat]? = some (I x24)) ∧ (0 ≤ w64 ((opn.length : Int) - 1) ∧ w64 ((opn.length : Int) - 1) ≤ (opn.length : Int)) ∧ (0 ≤ x24 ∧ x24 < (out.length : Int)) ∧ (out[x24.toNat]? = some (B g33)) ∧ (0 ≤ x24 ∧ x24 < (out.length : Int)) ∧ (out[x24.toNat]? = some (B g100036)) ∧ ((0 ≤ x24 ∧ x24 < (cs.length : Int)) ∧ cs[x24.toNat]? = some (Dat.agg [B c39.l, I c39.n, I c39.a, I c39.b])) ∧ (den cfg kk 63 [D.dat (I x24)] [] [] = some ([D.dat (B g47)], [], [])) ∧ (∀ s : St, s.norm ((zaf cfg kk 62 Go.Proofs.Tryd.f62).live (zaa (lp Go.Proofs.Tryd.f62 2))) = Nm [0, 2, 7, 8] [D.dat (Dat.lst b cs), D.fn 63 [], D.own 4 (out.set x24.toNat (B true)), D.own 3 (List.take (w64 ((opn.length : Int) - 1)).toNat opn)] [none, none, none, none] [] [] → zag (zaf cfg kk 62 Go.Proofs.Tryd.f62) kk (lp Go.Proofs.Tryd.f62 2) m s K)) (q4 : (decide (0 < (opn.length : Int)) = true) → (g33 = false) → ((!c39.l) = false) → (0 ≤ w64 ((opn.length : Int) - 1) ∧ w64 ((opn.length : Int) - 1) < (opn.length : Int)) ∧ (opn[(w64 ((opn.length : Int) - 1)).toNat]? = some (I x24)) ∧ (0 ≤ w64 ((opn.length : Int) - 1) ∧ w64 ((opn.length : Int) - 1) ≤ (opn.length : Int)) ∧ (0 ≤ x24 ∧ x24 < (out.length : Int)) ∧ (out[x24.toNat]? = some (B g33)) ∧ (0 ≤ x24 ∧ x24 < (out.length : Int)) ∧ (out[x24.toNat]? = some (B g100036)) ∧ ((0 ≤ x24 ∧ x24 < (cs.length : Int)) ∧ cs[x24.toNat]? = some (Dat.agg [B c39.l, I c39.n, I c39.a, I c39.b])) ∧ (∀ s : St, s.norm ((zaf cfg kk 62 Go.Proofs.Tryd.f62).live (zaa (lp Go.Proofs.Tryd.f62 2))) = Nm [0, 2, 7, 8] [D.dat (Dat.lst b cs), D.fn 63 [], D.own 4 (out.set x24.toNat (B true)), D.own 3 (List.take (w64 ((opn.length : Int) - 1)).toNat opn)] [none, none, none, none] [] [] → zag (zaf cfg kk 62 Go.Proofs.Tryd.f62) kk (lp Go.Proofs.Tryd.f62 2) m s K)) (q5 : (decide (0 < (opn.length : Int)) = false) → K (X.exit 0) (Nm [7] [D.own 4 out] [none] [] [])) : zag (zaf cfg kk 62 Go.Proofs.Tryd.f62) kk (lp Go.Proofs.Tryd.f62 2) (m + 1) s K := by
 rcases Bool.eq_false_or_eq_true (decide (0 < (opn.length : Int))) with d1 | d1
 · rcases Bool.eq_false_or_eq_true (g33) with d7 | d7
   · obtain ⟨hz1, hz2, hz3, hz4, hz5, oz⟩ := q1 d1 d7
     exact zal [(47, .ret [.dat (B g47)]), (23, .ok), (24, .at (I x24)), (29, .ok), (32, .ok), (33, .at (B g33)), (36, .ok), (100036, .at (B g100036)), (39, .at (c39.d)), (55, .ok), (200018, .yes), (200033, .yes)] hs (by kernel_rfl) (ob d1 (ob hz1 (ob hz2 (ob hz3 (ob hz4 (ob hz5 (ob d7 ob0))))))) (by kernel_rfl) oz
   · rcases Bool.eq_false_or_eq_true ((!c39.l)) with d11 | d11
     · rcases Bool.eq_false_or_eq_true (g47) with d15 | d15
       · obtain ⟨hz1, hz2, hz3, hz4, hz5, hz6, hz7, hz8, hz9, hz10, oz⟩ := q2 d1 d7 d11 d15
         exact zal [(47, .ret [.dat (B g47)]), (23, .ok), (24, .at (I x24)), (29, .ok), (32, .ok), (33, .at (B g33)), (36, .ok), (100036, .at (B g100036)), (39, .at (c39.d)), (55, .ok), (200018, .yes), (200033, .no), (200044, .yes), (200048, .yes)] hs (by kernel_rfl) (ob d1 (ob hz1 (ob hz2 (ob hz3 (ob hz4 (ob hz5 (ob d7 (ob hz6 (ob hz7 (ob hz8 (ob d11 (ob (rfl : true = true) (ob (rfl : true = true) (ob hz9 (ob d15 (ob (obT hz10) ob0)))))))))))))))) (by kernel_rfl) oz
       · obtain ⟨hz1, hz2, hz3, hz4, hz5, hz6, hz7, hz8, hz9, oz⟩ := q3 d1 d7 d11 d15
         exact zal [(47, .ret [.dat (B g47)]), (23, .ok), (24, .at (I x24)), (29, .ok), (32, .ok), (33, .at (B g33)), (36, .ok), (100036, .at (B g100036)), (39, .at (c39.d)), (55, .ok), (200018, .yes), (200033, .no), (200044, .yes), (200048, .no)] hs (by kernel_rfl) (ob d1 (ob hz1 (ob hz2 (ob hz3 (ob hz4 (ob hz5 (ob d7 (ob hz6 (ob hz7 (ob hz8 (ob d11 (ob (rfl : true = true) (ob (rfl : true = true) (ob hz9 (ob d15 ob0))))))))))))))) (by kernel_rfl) oz
     · obtain ⟨hz1, hz2, hz3, hz4, hz5, hz6, hz7, hz8, oz⟩ := q4 d1 d7 d11
       exact zal [(47, .ret [.dat (B g47)]), (23, .ok), (24, .at (I x24)), (29, .ok), (32, .ok), (33, .at (B g33)), (36, .ok), (100036, .at (B g100036)), (39, .at (c39.d)), (55, .ok), (200018, .yes), (200033, .no), (200044, .no)] hs (by kernel_rfl) (ob d1 (ob hz1 (ob hz2 (ob hz3 (ob hz4 (ob hz5 (ob d7 (ob hz6 (ob hz7 (ob hz8 (ob d11 (ob (rfl : false = false) (ob (rfl : false = false) ob0))))))))))))) (by kernel_rfl) oz
 · have oz := q5 d1
   exact zam [(47, .ret [.dat (B g47)]), (23, .ok), (24, .at (I x24)), (29, .ok), (32, .ok), (33, .at (B g33)), (36, .ok), (100036, .at (B g100036)), (39, .at (c39.d)), (55, .ok), (200018, .no)] hs (by kernel_rfl) rfl (ob d1 ob0) (by kernel_rfl) oz
theorem zp0 (kk : Nat) (b b1 : Bool) (cs fr opn out : List Dat) {r : Res} (q1 : (den cfg kk 82 [D.dat (Dat.lst b1 fr)] [] [] = some ([D.own 3 opn], [], [])) ∧ (0 ≤ (cs.length : Int) ∧ (cs.length : Int) ≤ (cs.length : Int) ∧ (cs.length : Int) ≤ 2147483648) ∧ (za7 cfg kk 62 Go.Proofs.Tryd.f62 2 (ziN b cs (List.replicate cs.length (B false)) opn) (X.exit 0) (Nm [7] [D.own 4 out] [none] [] [])) ∧ r = ([D.own 4 out], [], [])) : zan cfg kk (den cfg kk) 62 Go.Proofs.Tryd.f62 [.dat (Dat.lst b cs), .dat (Dat.lst b1 fr), .fn 63 []] [] [] = some r := by
 obtain ⟨hz1, hz2, hz3, oz⟩ := q1
 subst oz; exact zab [(15, .ret [.own 3 opn]), (300002, .loop (ziN b cs (List.replicate cs.length (B false)) opn) (.exit 0) (Nm [7] [.own 4 out] [none] [] [])), (13, .ok)] (ob hz1 (ob hz2 (ob (rfl : _ = ziN b cs (List.replicate cs.length (B false)) opn) (ob hz3 ob0)))) (by kernel_rfl)
theorem zpE (kk : Nat) (x : Int) {r : Res} (q1 : r = ([D.dat (B true)], [], [])) : zan cfg kk (den cfg kk) 63 Go.Proofs.Tryd.f63 [.dat (I x)] [] [] = some r := by
 have oz := q1
 subst oz; exact zab [] ob0 (by kernel_rfl)
def zf6 (b kb rb : Bool) (cs rs ks : List Dat) (to : List Dat) (n i : Int) : St := Nm [0, 1, 2, 8, 9, 10, 11, 23, 24, 25] [.dat (.lst b cs), .dat (.lst rb rs), .dat (.lst kb ks), .own 3 to, .own 97 [], .own 3 [], .dat (I n), .dat (.lst kb ks), .dat (I ks.length), .dat (I i)] [none, none, none, none, none, none, none, none, none, none] [] []
theorem zmu (kk m : Nat) {s : St} {K : X → St → Prop} (b kb rb : Bool) (cs rs ks : List Dat) (to : List Dat) (n i : Int) (g28 : Bool) (x100033 : Int) (hs : s.norm ((zaf cfg kk 118 Go.Proofs.Tryd.f118).live (zaa (lp Go.Proofs.Tryd.f118 4))) = zf6 b kb rb cs rs ks to n i) (q1 : (decide (i < (ks.length : Int)) = true) → (g28 = true) → ((0 ≤ i ∧ i < (ks.length : Int)) ∧ ks[i.toNat]? = some (B g28)) ∧ (0 ≤ i ∧ i < (to.length : Int)) ∧ (to[i.toNat]? = some (I x100033)) ∧ (∀ s : St, s.norm ((zaf cfg kk 118 Go.Proofs.Tryd.f118).live (zaa (lp Go.Proofs.Tryd.f118 4))) = Nm [0, 1, 2, 8, 9, 10, 11, 23, 24, 25] [D.dat (Dat.lst b cs), D.dat (Dat.lst rb rs), D.dat (Dat.lst kb ks), D.own 3 (to.set i.toNat (I n)), D.own 97 [], D.own 3 [], D.dat (I (w64 (n + 1))), D.dat (Dat.lst kb ks), D.dat (I (ks.length : Int)), D.dat (I (w64 (i + 1)))] [none, none, none, none, none, none, none, none, none, none] [] [] → zag (zaf cfg kk 118 Go.Proofs.Tryd.f118) kk (lp Go.Proofs.Tryd.f118 4) m s K)) (q2 : (decide (i < (ks.length : Int)) = true) → (g28 = false) → ((0 ≤ i ∧ i < (ks.length : Int)) ∧ ks[i.toNat]? = some (B g28)) ∧ (0 ≤ i ∧ i < (to.length : Int)) ∧ (to[i.toNat]? = some (I x100033)) ∧ (∀ s : St, s.norm ((zaf cfg kk 118 Go.Proofs.Tryd.f118).live (zaa (lp Go.Proofs.Tryd.f118 4))) = Nm [0, 1, 2, 8, 9, 10, 11, 23, 24, 25] [D.dat (Dat.lst b cs), D.dat (Dat.lst rb rs), D.dat (Dat.lst kb ks), D.own 3 (to.set i.toNat (I n)), D.own 97 [], D.own 3 [], D.dat (I n), D.dat (Dat.lst kb ks), D.dat (I (ks.length : Int)), D.dat (I (w64 (i + 1)))] [none, none, none, none, none, none, none, none, none, none] [] [] → zag (zaf cfg kk 118 Go.Proofs.Tryd.f118) kk (lp Go.Proofs.Tryd.f118 4) m s K)) (q3 : (decide (i < (ks.length : Int)) = false) → K (X.exit 0) (Nm [0, 1, 2, 8, 9, 10] [D.dat (Dat.lst b cs), D.dat (Dat.lst rb rs), D.dat (Dat.lst kb ks), D.own 3 to, D.own 97 [], D.own 3 []] [none, none, none, none, none, none] [] [])) : zag (zaf cfg kk 118 Go.Proofs.Tryd.f118) kk (lp Go.Proofs.Tryd.f118 4) (m + 1) s K := by
 rcases Bool.eq_false_or_eq_true (decide (i < (ks.length : Int))) with d1 | d1
 · rcases Bool.eq_false_or_eq_true (g28) with d5 | d5
   · obtain ⟨hz1, hz2, hz3, oz⟩ := q1 d1 d5
     exact zal [(28, .at (B g28)), (33, .ok), (100033, .at (I x100033)), (200026, .yes), (200034, .yes)] hs (by kernel_rfl) (ob d1 (ob hz1 (ob hz2 (ob hz3 (ob d5 ob0))))) (by kernel_rfl) oz
   · obtain ⟨hz1, hz2, hz3, oz⟩ := q2 d1 d5
     exact zal [(28, .at (B g28)), (33, .ok), (100033, .at (I x100033)), (200026, .yes), (200034, .no)] hs (by kernel_rfl) (ob d1 (ob hz1 (ob hz2 (ob hz3 (ob d5 ob0))))) (by kernel_rfl) oz
 · have oz := q3 d1
   exact zam [(28, .at (B g28)), (33, .ok), (100033, .at (I x100033)), (200026, .no)] hs (by kernel_rfl) rfl (ob d1 ob0) (by kernel_rfl) oz
def zgs (b kb rb : Bool) (cs rs ks : List Dat) (to acc : List Dat) (i : Int) : St := Nm [1, 2, 8, 9, 10, 38, 39, 40] [.dat (.lst rb rs), .dat (.lst kb ks), .own 3 to, .own 97 acc, .own 3 [], .dat (.lst b cs), .dat (I cs.length), .dat (I i)] [none, none, none, none, none, none, none, none] [] []
theorem zj2 (kk m : Nat) {s : St} {K : X → St → Prop} (b kb rb : Bool) (cs rs ks : List Dat) (to acc : List Dat) (i : Int) (c43 : Cl) (g47 : Bool) (x57 : Int) (x62 : Int) (hs : s.norm ((zaf cfg kk 118 Go.Proofs.Tryd.f118).live (zaa (lp Go.Proofs.Tryd.f118 11))) = zgs b kb rb cs rs ks to acc i) (q1 : (decide (i < (cs.length : Int)) = true) → ((!g47) = true) → ((0 ≤ i ∧ i < (cs.length : Int)) ∧ cs[i.toNat]? = some (Dat.agg [B c43.l, I c43.n, I c43.a, I c43.b])) ∧ ((0 ≤ i ∧ i < (ks.length : Int)) ∧ ks[i.toNat]? = some (B g47)) ∧ (∀ s : St, s.norm ((zaf cfg kk 118 Go.Proofs.Tryd.f118).live (zaa (lp Go.Proofs.Tryd.f118 11))) = Nm [1, 2, 8, 9, 10, 38, 39, 40] [D.dat (Dat.lst rb rs), D.dat (Dat.lst kb ks), D.own 3 to, D.own 97 acc, D.own 3 [], D.dat (Dat.lst b cs), D.dat (I (cs.length : Int)), D.dat (I (w64 (i + 1)))] [none, none, none, none, none, none, none, none] [] [] → zag (zaf cfg kk 118 Go.Proofs.Tryd.f118) kk (lp Go.Proofs.Tryd.f118 11) m s K)) (q2 : (decide (i < (cs.length : Int)) = true) → ((!g47) = false) → ((!c43.l) = true) → ((0 ≤ i ∧ i < (cs.length : Int)) ∧ cs[i.toNat]? = some (Dat.agg [B c43.l, I c43.n, I c43.a, I c43.b])) ∧ ((0 ≤ i ∧ i < (ks.length : Int)) ∧ ks[i.toNat]? = some (B g47)) ∧ (0 ≤ c43.a ∧ c43.a < (to.length : Int)) ∧ (to[c43.a.toNat]? = some (I x57)) ∧ (0 ≤ c43.b ∧ c43.b < (to.length : Int)) ∧ (to[c43.b.toNat]? = some (I x62)) ∧ (acc.length + 1 ≤ 2147483648) ∧ (∀ s : St, s.norm ((zaf cfg kk 118 Go.Proofs.Tryd.f118).live (zaa (lp Go.Proofs.Tryd.f118 11))) = Nm [1, 2, 8, 9, 10, 38, 39, 40] [D.dat (Dat.lst rb rs), D.dat (Dat.lst kb ks), D.own 3 to, D.own 97 (acc ++ [Dat.agg [B c43.l, I c43.n, I x57, I x62]]), D.own 3 [], D.dat (Dat.lst b cs), D.dat (I (cs.length : Int)), D.dat (I (w64 (i + 1)))] [none, none, none, none, none, none, none, none] [] [] → zag (zaf cfg kk 118 Go.Proofs.Tryd.f118) kk (lp Go.Proofs.Tryd.f118 11) m s K)) (q3 : (decide (i < (cs.length : Int)) = true) → ((!g47) = false) → ((!c43.l) = false) → ((0 ≤ i ∧ i < (cs.length : Int)) ∧ cs[i.toNat]? = some (Dat.agg [B c43.l, I c43.n, I c43.a, I c43.b])) ∧ ((0 ≤ i ∧ i < (ks.length : Int)) ∧ ks[i.toNat]? = some (B g47)) ∧ (acc.length + 1 ≤ 2147483648) ∧ (∀ s : St, s.norm ((zaf cfg kk 118 Go.Proofs.Tryd.f118).live (zaa (lp Go.Proofs.Tryd.f118 11))) = Nm [1, 2, 8, 9, 10, 38, 39, 40] [D.dat (Dat.lst rb rs), D.dat (Dat.lst kb ks), D.own 3 to, D.own 97 (acc ++ [Dat.agg [B c43.l, I c43.n, I c43.a, I c43.b]]), D.own 3 [], D.dat (Dat.lst b cs), D.dat (I (cs.length : Int)), D.dat (I (w64 (i + 1)))] [none, none, none, none, none, none, none, none] [] [] → zag (zaf cfg kk 118 Go.Proofs.Tryd.f118) kk (lp Go.Proofs.Tryd.f118 11) m s K)) (q4 : (decide (i < (cs.length : Int)) = false) → K (X.exit 2) (Nm [1, 8, 9, 10] [D.dat (Dat.lst rb rs), D.own 3 to, D.own 97 acc, D.own 3 []] [none, none, none, none] [] [])) : zag (zaf cfg kk 118 Go.Proofs.Tryd.f118) kk (lp Go.Proofs.Tryd.f118 11) (m + 1) s K := by
 rcases Bool.eq_false_or_eq_true (decide (i < (cs.length : Int))) with d1 | d1
 · rcases Bool.eq_false_or_eq_true ((!g47)) with d4 | d4
   · obtain ⟨hz1, hz2, oz⟩ := q1 d1 d4
     exact zal [(43, .at (c43.d)), (47, .at (B g47)), (68, .ok), (56, .ok), (57, .at (I x57)), (61, .ok), (62, .at (I x62)), (200041, .yes), (200049, .yes)] hs (by kernel_rfl) (ob d1 (ob hz1 (ob hz2 (ob d4 ob0)))) (by kernel_rfl) oz
   · rcases Bool.eq_false_or_eq_true ((!c43.l)) with d5 | d5
     · obtain ⟨hz1, hz2, hz3, hz4, hz5, hz6, hz7, oz⟩ := q2 d1 d4 d5
       exact zal [(43, .at (c43.d)), (47, .at (B g47)), (68, .ok), (56, .ok), (57, .at (I x57)), (61, .ok), (62, .at (I x62)), (200041, .yes), (200049, .no), (200052, .yes)] hs (by kernel_rfl) (ob d1 (ob hz1 (ob hz2 (ob d4 (ob d5 (ob hz3 (ob hz4 (ob hz5 (ob hz6 (ob (obT hz7) ob0)))))))))) (by kernel_rfl) oz
     · obtain ⟨hz1, hz2, hz3, oz⟩ := q3 d1 d4 d5
       exact zal [(43, .at (c43.d)), (47, .at (B g47)), (68, .ok), (56, .ok), (57, .at (I x57)), (61, .ok), (62, .at (I x62)), (200041, .yes), (200049, .no), (200052, .no)] hs (by kernel_rfl) (ob d1 (ob hz1 (ob hz2 (ob d4 (ob d5 (ob (obT hz3) ob0)))))) (by kernel_rfl) oz
 · have oz := q4 d1
   exact zam [(43, .at (c43.d)), (47, .at (B g47)), (68, .ok), (56, .ok), (57, .at (I x57)), (61, .ok), (62, .at (I x62)), (200041, .no)] hs (by kernel_rfl) rfl (ob d1 ob0) (by kernel_rfl) oz
def zgH (rb : Bool) (rs to acc qs : List Dat) (i : Int) : St := Nm [8, 9, 10, 70, 71, 72] [.own 3 to, .own 97 acc, .own 3 qs, .dat (.lst rb rs), .dat (I rs.length), .dat (I i)] [none, none, none, none, none, none] [] []
theorem znW (kk m : Nat) {s : St} {K : X → St → Prop} (rb : Bool) (rs to acc qs : List Dat) (i : Int) (x74 : Int) (x80 : Int) (hs : s.norm ((zaf cfg kk 118 Go.Proofs.Tryd.f118).live (zaa (lp Go.Proofs.Tryd.f118 19))) = zgH rb rs to acc qs i) (q1 : (decide (i < (rs.length : Int)) = true) → ((0 ≤ i ∧ i < (rs.length : Int)) ∧ rs[i.toNat]? = some (I x74)) ∧ (0 ≤ x74 ∧ x74 < (to.length : Int)) ∧ (to[x74.toNat]? = some (I x80)) ∧ (qs.length + 1 ≤ 2147483648) ∧ (∀ s : St, s.norm ((zaf cfg kk 118 Go.Proofs.Tryd.f118).live (zaa (lp Go.Proofs.Tryd.f118 19))) = Nm [8, 9, 10, 70, 71, 72] [D.own 3 to, D.own 97 acc, D.own 3 (qs ++ [I x80]), D.dat (Dat.lst rb rs), D.dat (I (rs.length : Int)), D.dat (I (w64 (i + 1)))] [none, none, none, none, none, none] [] [] → zag (zaf cfg kk 118 Go.Proofs.Tryd.f118) kk (lp Go.Proofs.Tryd.f118 19) m s K)) (q2 : (decide (i < (rs.length : Int)) = false) → K (X.exit 4) (Nm [9, 10] [D.own 97 acc, D.own 3 qs] [none, none] [] [])) : zag (zaf cfg kk 118 Go.Proofs.Tryd.f118) kk (lp Go.Proofs.Tryd.f118 19) (m + 1) s K := by
 rcases Bool.eq_false_or_eq_true (decide (i < (rs.length : Int))) with d1 | d1
 · obtain ⟨hz1, hz2, hz3, hz4, oz⟩ := q1 d1
   exact zal [(74, .at (I x74)), (79, .ok), (80, .at (I x80)), (82, .ok), (200073, .yes)] hs (by kernel_rfl) (ob d1 (ob hz1 (ob hz2 (ob hz3 (ob (obT hz4) ob0))))) (by kernel_rfl) oz
 · have oz := q2 d1
   exact zam [(74, .at (I x74)), (79, .ok), (80, .at (I x80)), (82, .ok), (200073, .no)] hs (by kernel_rfl) rfl (ob d1 ob0) (by kernel_rfl) oz
theorem kept (kk : Nat) (b kb rb : Bool) (cs rs ks : List Dat) (to acc qs : List Dat) (n : Int) {r : Res} (q1 : (0 ≤ (cs.length : Int) ∧ (cs.length : Int) ≤ (cs.length : Int) ∧ (cs.length : Int) ≤ 2147483648) ∧ (za7 cfg kk 118 Go.Proofs.Tryd.f118 4 (zf6 b kb rb cs rs ks (List.replicate cs.length (I 0)) 0 0) (X.exit 0) (Nm [0, 1, 2, 8, 9, 10] [D.dat (Dat.lst b cs), D.dat (Dat.lst rb rs), D.dat (Dat.lst kb ks), D.own 3 to, D.own 97 [], D.own 3 []] [none, none, none, none, none, none] [] [])) ∧ (za7 cfg kk 118 Go.Proofs.Tryd.f118 11 (zgs b kb rb cs rs ks to [] 0) (X.exit 2) (Nm [1, 8, 9, 10] [D.dat (Dat.lst rb rs), D.own 3 to, D.own 97 acc, D.own 3 []] [none, none, none, none] [] [])) ∧ (za7 cfg kk 118 Go.Proofs.Tryd.f118 19 (zgH rb rs to acc [] 0) (X.exit 4) (Nm [9, 10] [D.own 97 acc, D.own 3 qs] [none, none] [] [])) ∧ r = ([D.own 97 acc, D.own 3 qs], [], [])) : zan cfg kk (den cfg kk) 118 Go.Proofs.Tryd.f118 [.dat (Dat.lst b cs), .dat (Dat.lst rb rs), .dat (Dat.lst kb ks)] [] [] = some r := by
 obtain ⟨hz1, hz2, hz3, hz4, oz⟩ := q1
 subst oz; exact zab [(300004, .loop (zf6 b kb rb cs rs ks (List.replicate cs.length (I 0)) 0 0) (.exit 0) (Nm [0, 1, 2, 8, 9, 10] [.dat (.lst b cs), .dat (.lst rb rs), .dat (.lst kb ks), .own 3 to, .own 97 [], .own 3 []] [none, none, none, none, none, none] [] [])), (300011, .loop (zgs b kb rb cs rs ks to [] 0) (.exit 2) (Nm [1, 8, 9, 10] [.dat (.lst rb rs), .own 3 to, .own 97 acc, .own 3 []] [none, none, none, none] [] [])), (300019, .loop (zgH rb rs to acc [] 0) (.exit 4) (Nm [9, 10] [.own 97 acc, .own 3 qs] [none, none] [] [])), (20, .ok)] (ob hz1 (ob (rfl : _ = zf6 b kb rb cs rs ks (List.replicate cs.length (I 0)) 0 0) (ob hz2 (ob (rfl : _ = zgs b kb rb cs rs ks to [] 0) (ob hz3 (ob (rfl : _ = zgH rb rs to acc [] 0) (ob hz4 ob0))))))) (by kernel_rfl)
end Go.Den
namespace Go.Den
open Go
set_option linter.unusedVariables false
set_option maxRecDepth 100000
abbrev Hd (b : Bool) (o : Int) (cs rs : List Dat) : Dat := .agg [I o, .lst b cs, .lst b rs]
abbrev Hb (b : Bool) (o : Int) (cs rs : List Dat) : Option (List D) := some [.dat (I o), .dat (.lst b cs), .dat (.lst b rs)]
abbrev Ho (o : Int) (cs rs : List Dat) : List D := [.dat (I o), .own 97 cs, .own 3 rs]
def zf7 (b : Bool) (o : Int) (cs rs : List Dat) (ks : List Dat) (i : Int) : St := Nm [1, 2, 10, 11, 12] [.own 4 ks, .ptr (.loc 2) 0, .dat (.lst b rs), .dat (I rs.length), .dat (I i)] [none, Hb b o cs rs, none, none, none] [] []
theorem zlR (kk m : Nat) {s : St} {K : X → St → Prop} (b : Bool) (o : Int) (cs rs : List Dat) (ks : List Dat) (i : Int) (x14 : Int) (g100018 : Bool) (hs : s.norm ((zaf cfg kk 128 Go.Proofs.Tryd.f128).live (zaa (lp Go.Proofs.Tryd.f128 2))) = zf7 b o cs rs ks i) (q1 : (decide (i < (rs.length : Int)) = true) → ((0 ≤ i ∧ i < (rs.length : Int)) ∧ rs[i.toNat]? = some (I x14)) ∧ (0 ≤ x14 ∧ x14 < (ks.length : Int)) ∧ (ks[x14.toNat]? = some (B g100018)) ∧ (∀ s : St, s.norm ((zaf cfg kk 128 Go.Proofs.Tryd.f128).live (zaa (lp Go.Proofs.Tryd.f128 2))) = Nm [1, 2, 10, 11, 12] [D.own 4 (ks.set x14.toNat (B true)), D.ptr (Ref.loc 2) 0, D.dat (Dat.lst b rs), D.dat (I (rs.length : Int)), D.dat (I (w64 (i + 1)))] [none, some [D.dat (I o), D.dat (Dat.lst b cs), D.dat (Dat.lst b rs)], none, none, none] [] [] → zag (zaf cfg kk 128 Go.Proofs.Tryd.f128) kk (lp Go.Proofs.Tryd.f128 2) m s K)) (q2 : (decide (i < (rs.length : Int)) = false) → K (X.exit 0) (Nm [1, 2] [D.own 4 ks, D.ptr (Ref.loc 2) 0] [none, some [D.dat (I o), D.dat (Dat.lst b cs), D.dat (Dat.lst b rs)]] [] [])) : zag (zaf cfg kk 128 Go.Proofs.Tryd.f128) kk (lp Go.Proofs.Tryd.f128 2) (m + 1) s K := by
 rcases Bool.eq_false_or_eq_true (decide (i < (rs.length : Int))) with d1 | d1
 · obtain ⟨hz1, hz2, hz3, oz⟩ := q1 d1
   exact zal [(14, .at (I x14)), (18, .ok), (100018, .at (B g100018)), (200013, .yes)] hs (by kernel_rfl) (ob d1 (ob hz1 (ob hz2 (ob hz3 ob0)))) (by kernel_rfl) oz
 · have oz := q2 d1
   exact zam [(14, .at (I x14)), (18, .ok), (100018, .at (B g100018)), (200013, .no)] hs (by kernel_rfl) rfl (ob d1 ob0) (by kernel_rfl) oz
def zgD (b : Bool) (o : Int) (cs rs : List Dat) (ks : List Dat) (i : Int) : St := Nm [1, 2, 7] [.own 4 ks, .ptr (.loc 2) 0, .dat (I i)] [none, Hb b o cs rs, none] [] []
theorem zg5 (kk m : Nat) {s : St} {K : X → St → Prop} (b : Bool) (o : Int) (cs rs : List Dat) (ks : List Dat) (i : Int) (c31 : Cl) (g36 : Bool) (g100045 : Bool) (g100049 : Bool) (hs : s.norm ((zaf cfg kk 128 Go.Proofs.Tryd.f128).live (zaa (lp Go.Proofs.Tryd.f128 7))) = zgD b o cs rs ks i) (q1 : (decide (0 ≤ i) = true) → (g36 = true) → ((!c31.l) = true) → ((0 ≤ i ∧ i < (cs.length : Int)) ∧ cs[i.toNat]? = some (Dat.agg [B c31.l, I c31.n, I c31.a, I c31.b])) ∧ (0 ≤ i ∧ i < (ks.length : Int)) ∧ (ks[i.toNat]? = some (B g36)) ∧ (0 ≤ c31.a ∧ c31.a < (ks.length : Int)) ∧ (ks[c31.a.toNat]? = some (B g100045)) ∧ (0 ≤ c31.b ∧ c31.b < ((ks.set c31.a.toNat (B true)).length : Int)) ∧ ((ks.set c31.a.toNat (B true))[c31.b.toNat]? = some (B g100049)) ∧ (∀ s : St, s.norm ((zaf cfg kk 128 Go.Proofs.Tryd.f128).live (zaa (lp Go.Proofs.Tryd.f128 7))) = Nm [1, 2, 7] [D.own 4 ((ks.set c31.a.toNat (B true)).set c31.b.toNat (B true)), D.ptr (Ref.loc 2) 0, D.dat (I (w64 (i - 1)))] [none, some [D.dat (I o), D.dat (Dat.lst b cs), D.dat (Dat.lst b rs)], none] [] [] → zag (zaf cfg kk 128 Go.Proofs.Tryd.f128) kk (lp Go.Proofs.Tryd.f128 7) m s K)) (q2 : (decide (0 ≤ i) = true) → (g36 = true) → ((!c31.l) = false) → ((0 ≤ i ∧ i < (cs.length : Int)) ∧ cs[i.toNat]? = some (Dat.agg [B c31.l, I c31.n, I c31.a, I c31.b])) ∧ (0 ≤ i ∧ i < (ks.length : Int)) ∧ (ks[i.toNat]? = some (B g36)) ∧ (∀ s : St, s.norm ((zaf cfg kk 128 Go.Proofs.Tryd.f128).live (zaa (lp Go.Proofs.Tryd.f128 7))) = Nm [1, 2, 7] [D.own 4 ks, D.ptr (Ref.loc 2) 0, D.dat (I (w64 (i - 1)))] [none, some [D.dat (I o), D.dat (Dat.lst b cs), D.dat (Dat.lst b rs)], none] [] [] → zag (zaf cfg kk 128 Go.Proofs.Tryd.f128) kk (lp Go.Proofs.Tryd.f128 7) m s K)) (q3 : (decide (0 ≤ i) = true) → (g36 = false) → ((0 ≤ i ∧ i < (cs.length : Int)) ∧ cs[i.toNat]? = some (Dat.agg [B c31.l, I c31.n, I c31.a, I c31.b])) ∧ (0 ≤ i ∧ i < (ks.length : Int)) ∧ (ks[i.toNat]? = some (B g36)) ∧ (∀ s : St, s.norm ((zaf cfg kk 128 Go.Proofs.Tryd.f128).live (zaa (lp Go.Proofs.Tryd.f128 7))) = Nm [1, 2, 7] [D.own 4 ks, D.ptr (Ref.loc 2) 0, D.dat (I (w64 (i - 1)))] [none, some [D.dat (I o), D.dat (Dat.lst b cs), D.dat (Dat.lst b rs)], none] [] [] → zag (zaf cfg kk 128 Go.Proofs.Tryd.f128) kk (lp Go.Proofs.Tryd.f128 7) m s K)) (q4 : (decide (0 ≤ i) = false) → K (X.exit 2) (Nm [1] [D.own 4 ks] [none] [] [])) : zag (zaf cfg kk 128 Go.Proofs.Tryd.f128) kk (lp Go.Proofs.Tryd.f128 7) (m + 1) s K := by
 rcases Bool.eq_false_or_eq_true (decide (0 ≤ i)) with d1 | d1
 · rcases Bool.eq_false_or_eq_true (g36) with d5 | d5
   · rcases Bool.eq_false_or_eq_true ((!c31.l)) with d8 | d8
     · obtain ⟨hz1, hz2, hz3, hz4, hz5, hz6, hz7, oz⟩ := q1 d1 d5 d8
       exact zal [(31, .at (c31.d)), (35, .ok), (36, .at (B g36)), (45, .ok), (100045, .at (B g100045)), (49, .ok), (100049, .at (B g100049)), (200025, .yes), (200037, .yes), (200041, .yes)] hs (by kernel_rfl) (ob d1 (ob hz1 (ob hz2 (ob hz3 (ob d5 (ob (rfl : true = true) (ob (rfl : true = true) (ob d8 (ob hz4 (ob hz5 (ob hz6 (ob hz7 ob0)))))))))))) (by kernel_rfl) oz
     · obtain ⟨hz1, hz2, hz3, oz⟩ := q2 d1 d5 d8
       exact zal [(31, .at (c31.d)), (35, .ok), (36, .at (B g36)), (45, .ok), (100045, .at (B g100045)), (49, .ok), (100049, .at (B g100049)), (200025, .yes), (200037, .yes), (200041, .no)] hs (by kernel_rfl) (ob d1 (ob hz1 (ob hz2 (ob hz3 (ob d5 (ob (rfl : true = true) (ob (rfl : true = true) (ob d8 ob0)))))))) (by kernel_rfl) oz
   · obtain ⟨hz1, hz2, hz3, oz⟩ := q3 d1 d5
     exact zal [(31, .at (c31.d)), (35, .ok), (36, .at (B g36)), (45, .ok), (100045, .at (B g100045)), (49, .ok), (100049, .at (B g100049)), (200025, .yes), (200037, .no)] hs (by kernel_rfl) (ob d1 (ob hz1 (ob hz2 (ob hz3 (ob d5 (ob (rfl : false = false) (ob (rfl : false = false) ob0))))))) (by kernel_rfl) oz
 · have oz := q4 d1
   exact zam [(31, .at (c31.d)), (35, .ok), (36, .at (B g36)), (45, .ok), (100045, .at (B g100045)), (49, .ok), (100049, .at (B g100049)), (200025, .no)] hs (by kernel_rfl) rfl (ob d1 ob0) (by kernel_rfl) oz
theorem keepS (kk : Nat) (b : Bool) (o : Int) (cs rs : List Dat) (ks ks1 ks2 : List Dat) {r : Res} (q1 : (za7 cfg kk 128 Go.Proofs.Tryd.f128 2 (zf7 b o cs rs ks 0) (X.exit 0) (Nm [1, 2] [D.own 4 ks1, D.ptr (Ref.loc 2) 0] [none, some [D.dat (I o), D.dat (Dat.lst b cs), D.dat (Dat.lst b rs)]] [] [])) ∧ (za7 cfg kk 128 Go.Proofs.Tryd.f128 7 (zgD b o cs rs ks1 (w64 ((cs.length : Int) - 1))) (X.exit 2) (Nm [1] [D.own 4 ks2] [none] [] [])) ∧ r = ([D.own 4 ks2], [], [])) : zan cfg kk (den cfg kk) 128 Go.Proofs.Tryd.f128 [.dat (Hd b o cs rs), .own 4 ks] [] [] = some r := by
 obtain ⟨hz1, hz2, oz⟩ := q1
 subst oz; exact zab [(300002, .loop (zf7 b o cs rs ks 0) (.exit 0) (Nm [1, 2] [.own 4 ks1, .ptr (.loc 2) 0] [none, Hb b o cs rs] [] [])), (300007, .loop (zgD b o cs rs ks1 (IntKind.i64.wrap ((cs.length : Int) - 1))) (.exit 2) (Nm [1] [.own 4 ks2] [none] [] []))] (ob (rfl : _ = zf7 b o cs rs ks 0) (ob hz1 (ob (rfl : _ = zgD b o cs rs ks1 (w64 ((cs.length : Int) - 1))) (ob hz2 ob0)))) (by kernel_rfl)
def zgF (b : Bool) (o : Int) (cs rs : List Dat) (kb : Bool) (ks : List Dat) (to acc : List Dat) (i : Int) : St := Nm [1, 2, 4, 5, 6, 17, 18, 19] [.dat (.lst kb ks), .ptr (.loc 2) 0, .ptr (.loc 4) 0, .own 3 to, .ptr (.loc 6) 0, .dat (.lst b cs), .dat (I cs.length), .dat (I i)] [none, Hb b o cs rs, some (Ho 0 [] []), none, some (Ho 0 acc []), none, none, none] [] []
theorem zg4 (kk m : Nat) {s : St} {K : X → St → Prop} (b : Bool) (o : Int) (cs rs : List Dat) (kb : Bool) (ks : List Dat) (to acc : List Dat) (i : Int) (c22 : Cl) (g26 : Bool) (x36 : Int) (x100049 : Int) (x42 : Int) (hs : s.norm ((zaf cfg kk 127 Go.Proofs.Tryd.f127).live (zaa (lp Go.Proofs.Tryd.f127 4))) = zgF b o cs rs kb ks to acc i) (q1 : (decide (i < (cs.length : Int)) = true) → ((!g26) = true) → ((0 ≤ i ∧ i < (cs.length : Int)) ∧ cs[i.toNat]? = some (Dat.agg [B c22.l, I c22.n, I c22.a, I c22.b])) ∧ ((0 ≤ i ∧ i < (ks.length : Int)) ∧ ks[i.toNat]? = some (B g26)) ∧ (∀ s : St, s.norm ((zaf cfg kk 127 Go.Proofs.Tryd.f127).live (zaa (lp Go.Proofs.Tryd.f127 4))) = Nm [1, 2, 4, 5, 6, 17, 18, 19] [D.dat (Dat.lst kb ks), D.ptr (Ref.loc 2) 0, D.ptr (Ref.loc 4) 0, D.own 3 to, D.ptr (Ref.loc 6) 0, D.dat (Dat.lst b cs), D.dat (I (cs.length : Int)), D.dat (I (w64 (i + 1)))] [none, some [D.dat (I o), D.dat (Dat.lst b cs), D.dat (Dat.lst b rs)], some [D.dat (I 0), D.own 97 [], D.own 3 []], none, some [D.dat (I 0), D.own 97 acc, D.own 3 []], none, none, none] [] [] → zag (zaf cfg kk 127 Go.Proofs.Tryd.f127) kk (lp Go.Proofs.Tryd.f127 4) m s K)) (q2 : (decide (i < (cs.length : Int)) = true) → ((!g26) = false) → ((!c22.l) = true) → ((0 ≤ i ∧ i < (cs.length : Int)) ∧ cs[i.toNat]? = some (Dat.agg [B c22.l, I c22.n, I c22.a, I c22.b])) ∧ ((0 ≤ i ∧ i < (ks.length : Int)) ∧ ks[i.toNat]? = some (B g26)) ∧ (0 ≤ c22.a ∧ c22.a < (to.length : Int)) ∧ (to[c22.a.toNat]? = some (I x36)) ∧ (0 ≤ c22.b ∧ c22.b < (to.length : Int)) ∧ (to[c22.b.toNat]? = some (I x42)) ∧ (0 ≤ i ∧ i < (to.length : Int)) ∧ (to[i.toNat]? = some (I x100049)) ∧ (acc.length + 1 ≤ 2147483648) ∧ (∀ s : St, s.norm ((zaf cfg kk 127 Go.Proofs.Tryd.f127).live (zaa (lp Go.Proofs.Tryd.f127 4))) = Nm [1, 2, 4, 5, 6, 17, 18, 19] [D.dat (Dat.lst kb ks), D.ptr (Ref.loc 2) 0, D.ptr (Ref.loc 4) 0, D.own 3 (to.set i.toNat (I (acc.length : Int))), D.ptr (Ref.loc 6) 0, D.dat (Dat.lst b cs), D.dat (I (cs.length : Int)), D.dat (I (w64 (i + 1)))] [none, some [D.dat (I o), D.dat (Dat.lst b cs), D.dat (Dat.lst b rs)], some [D.dat (I 0), D.own 97 [], D.own 3 []], none, some [D.dat (I 0), D.own 97 (acc ++ [Dat.agg [B c22.l, I c22.n, I x36, I x42]]), D.own 3 []], none, none, none] [] [] → zag (zaf cfg kk 127 Go.Proofs.Tryd.f127) kk (lp Go.Proofs.Tryd.f127 4) m s K)) (q3 : (decide (i < (cs.length : Int)) = true) → ((!g26) = false) → ((!c22.l) = false) → ((0 ≤ i ∧ i < (cs.length : Int)) ∧ cs[i.toNat]? = some (Dat.agg [B c22.l, I c22.n, I c22.a, I c22.b])) ∧ ((0 ≤ i ∧ i < (ks.length : Int)) ∧ ks[i.toNat]? = some (B g26)) ∧ (0 ≤ i ∧ i < (to.length : Int)) ∧ (to[i.toNat]? = some (I x100049)) ∧ (acc.length + 1 ≤ 2147483648) ∧ (∀ s : St, s.norm ((zaf cfg kk 127 Go.Proofs.Tryd.f127).live (zaa (lp Go.Proofs.Tryd.f127 4))) = Nm [1, 2, 4, 5, 6, 17, 18, 19] [D.dat (Dat.lst kb ks), D.ptr (Ref.loc 2) 0, D.ptr (Ref.loc 4) 0, D.own 3 (to.set i.toNat (I (acc.length : Int))), D.ptr (Ref.loc 6) 0, D.dat (Dat.lst b cs), D.dat (I (cs.length : Int)), D.dat (I (w64 (i + 1)))] [none, some [D.dat (I o), D.dat (Dat.lst b cs), D.dat (Dat.lst b rs)], some [D.dat (I 0), D.own 97 [], D.own 3 []], none, some [D.dat (I 0), D.own 97 (acc ++ [Dat.agg [B c22.l, I c22.n, I c22.a, I c22.b]]), D.own 3 []], none, none, none] [] [] → zag (zaf cfg kk 127 Go.Proofs.Tryd.f127) kk (lp Go.Proofs.Tryd.f127 4) m s K)) (q4 : (decide (i < (cs.length : Int)) = false) → K (X.exit 0) (Nm [2, 4, 5, 6] [D.ptr (Ref.loc 2) 0, D.ptr (Ref.loc 4) 0, D.own 3 to, D.ptr (Ref.loc 6) 0] [some [D.dat (I o), D.dat (Dat.lst b cs), D.dat (Dat.lst b rs)], some [D.dat (I 0), D.own 97 [], D.own 3 []], none, some [D.dat (I 0), D.own 97 acc, D.own 3 []]] [] [])) : zag (zaf cfg kk 127 Go.Proofs.Tryd.f127) kk (lp Go.Proofs.Tryd.f127 4) (m + 1) s K := by
 rcases Bool.eq_false_or_eq_true (decide (i < (cs.length : Int))) with d1 | d1
 · rcases Bool.eq_false_or_eq_true ((!g26)) with d4 | d4
   · obtain ⟨hz1, hz2, oz⟩ := q1 d1 d4
     exact zal [(22, .at (c22.d)), (26, .at (B g26)), (35, .ok), (49, .ok), (36, .at (I x36)), (100049, .at (I x100049)), (41, .ok), (54, .ok), (42, .at (I x42)), (200020, .yes), (200028, .yes)] hs (by kernel_rfl) (ob d1 (ob hz1 (ob hz2 (ob d4 ob0)))) (by kernel_rfl) oz
   · rcases Bool.eq_false_or_eq_true ((!c22.l)) with d5 | d5
     · obtain ⟨hz1, hz2, hz3, hz4, hz5, hz6, hz7, hz8, hz9, oz⟩ := q2 d1 d4 d5
       exact zal [(22, .at (c22.d)), (26, .at (B g26)), (35, .ok), (49, .ok), (36, .at (I x36)), (100049, .at (I x100049)), (41, .ok), (54, .ok), (42, .at (I x42)), (200020, .yes), (200028, .no), (200031, .yes)] hs (by kernel_rfl) (ob d1 (ob hz1 (ob hz2 (ob d4 (ob d5 (ob hz3 (ob hz4 (ob hz5 (ob hz6 (ob hz7 (ob hz8 (ob (obT hz9) ob0)))))))))))) (by kernel_rfl) oz
     · obtain ⟨hz1, hz2, hz3, hz4, hz5, oz⟩ := q3 d1 d4 d5
       exact zal [(22, .at (c22.d)), (26, .at (B g26)), (35, .ok), (49, .ok), (36, .at (I x36)), (100049, .at (I x100049)), (41, .ok), (54, .ok), (42, .at (I x42)), (200020, .yes), (200028, .no), (200031, .no)] hs (by kernel_rfl) (ob d1 (ob hz1 (ob hz2 (ob d4 (ob d5 (ob hz3 (ob hz4 (ob (obT hz5) ob0)))))))) (by kernel_rfl) oz
 · have oz := q4 d1
   exact zam [(22, .at (c22.d)), (26, .at (B g26)), (35, .ok), (49, .ok), (36, .at (I x36)), (100049, .at (I x100049)), (41, .ok), (54, .ok), (42, .at (I x42)), (200020, .no)] hs (by kernel_rfl) rfl (ob d1 ob0) (by kernel_rfl) oz
def zgG (b : Bool) (o : Int) (cs rs : List Dat) (to acc qs : List Dat) (i : Int) : St := Nm [4, 5, 6, 58, 59, 60] [.ptr (.loc 4) 0, .own 3 to, .ptr (.loc 6) 0, .dat (.lst b rs), .dat (I rs.length), .dat (I i)] [some (Ho 0 [] []), none, some (Ho 0 acc qs), none, none, none] [] []
theorem zlT (kk m : Nat) {s : St} {K : X → St → Prop} (b : Bool) (o : Int) (cs rs : List Dat) (to acc qs : List Dat) (i : Int) (x62 : Int) (x69 : Int) (hs : s.norm ((zaf cfg kk 127 Go.Proofs.Tryd.f127).live (zaa (lp Go.Proofs.Tryd.f127 14))) = zgG b o cs rs to acc qs i) (q1 : (decide (i < (rs.length : Int)) = true) → ((0 ≤ i ∧ i < (rs.length : Int)) ∧ rs[i.toNat]? = some (I x62)) ∧ (0 ≤ x62 ∧ x62 < (to.length : Int)) ∧ (to[x62.toNat]? = some (I x69)) ∧ (qs.length + 1 ≤ 2147483648) ∧ (∀ s : St, s.norm ((zaf cfg kk 127 Go.Proofs.Tryd.f127).live (zaa (lp Go.Proofs.Tryd.f127 14))) = Nm [4, 5, 6, 58, 59, 60] [D.ptr (Ref.loc 4) 0, D.own 3 to, D.ptr (Ref.loc 6) 0, D.dat (Dat.lst b rs), D.dat (I (rs.length : Int)), D.dat (I (w64 (i + 1)))] [some [D.dat (I 0), D.own 97 [], D.own 3 []], none, some [D.dat (I 0), D.own 97 acc, D.own 3 (qs ++ [I x69])], none, none, none] [] [] → zag (zaf cfg kk 127 Go.Proofs.Tryd.f127) kk (lp Go.Proofs.Tryd.f127 14) m s K)) (q2 : (decide (i < (rs.length : Int)) = false) → K (X.exit 2) (Nm [4, 6] [D.ptr (Ref.loc 4) 0, D.ptr (Ref.loc 6) 0] [some [D.dat (I 0), D.own 97 [], D.own 3 []], some [D.dat (I 0), D.own 97 acc, D.own 3 qs]] [] [])) : zag (zaf cfg kk 127 Go.Proofs.Tryd.f127) kk (lp Go.Proofs.Tryd.f127 14) (m + 1) s K := by
 rcases Bool.eq_false_or_eq_true (decide (i < (rs.length : Int))) with d1 | d1
 · obtain ⟨hz1, hz2, hz3, hz4, oz⟩ := q1 d1
   exact zal [(62, .at (I x62)), (68, .ok), (69, .at (I x69)), (71, .ok), (200061, .yes)] hs (by kernel_rfl) (ob d1 (ob hz1 (ob hz2 (ob hz3 (ob (obT hz4) ob0))))) (by kernel_rfl) oz
 · have oz := q2 d1
   exact zam [(62, .at (I x62)), (68, .ok), (69, .at (I x69)), (71, .ok), (200061, .no)] hs (by kernel_rfl) rfl (ob d1 ob0) (by kernel_rfl) oz
theorem move7 (kk : Nat) (b : Bool) (o : Int) (cs rs : List Dat) (kb : Bool) (ks : List Dat) (to acc qs : List Dat) {r : Res} (q1 : (0 ≤ (cs.length : Int) ∧ (cs.length : Int) ≤ (cs.length : Int) ∧ (cs.length : Int) ≤ 2147483648) ∧ (za7 cfg kk 127 Go.Proofs.Tryd.f127 4 (zgF b o cs rs kb ks (List.replicate cs.length (I 0)) [] 0) (X.exit 0) (Nm [2, 4, 5, 6] [D.ptr (Ref.loc 2) 0, D.ptr (Ref.loc 4) 0, D.own 3 to, D.ptr (Ref.loc 6) 0] [some [D.dat (I o), D.dat (Dat.lst b cs), D.dat (Dat.lst b rs)], some [D.dat (I 0), D.own 97 [], D.own 3 []], none, some [D.dat (I 0), D.own 97 acc, D.own 3 []]] [] [])) ∧ (za7 cfg kk 127 Go.Proofs.Tryd.f127 14 (zgG b o cs rs to acc [] 0) (X.exit 2) (Nm [4, 6] [D.ptr (Ref.loc 4) 0, D.ptr (Ref.loc 6) 0] [some [D.dat (I 0), D.own 97 [], D.own 3 []], some [D.dat (I 0), D.own 97 acc, D.own 3 qs]] [] [])) ∧ r = ([D.seq false [D.dat (I (acc.length : Int)), D.own 97 acc, D.own 3 qs]], [], [])) : zan cfg kk (den cfg kk) 127 Go.Proofs.Tryd.f127 [.dat (Hd b o cs rs), .dat (Dat.lst kb ks)] [] [] = some r := by
 obtain ⟨hz1, hz2, hz3, oz⟩ := q1
 subst oz; exact zab [(300004, .loop (zgF b o cs rs kb ks (List.replicate cs.length (I 0)) [] 0) (.exit 0) (Nm [2, 4, 5, 6] [.ptr (.loc 2) 0, .ptr (.loc 4) 0, .own 3 to, .ptr (.loc 6) 0] [Hb b o cs rs, some (Ho 0 [] []), none, some (Ho 0 acc [])] [] [])), (300014, .loop (zgG b o cs rs to acc [] 0) (.exit 2) (Nm [4, 6] [.ptr (.loc 4) 0, .ptr (.loc 6) 0] [some (Ho 0 [] []), some (Ho 0 acc qs)] [] [])), (14, .ok)] (ob hz1 (ob (rfl : _ = zgF b o cs rs kb ks (List.replicate cs.length (I 0)) [] 0) (ob hz2 (ob (rfl : _ = zgG b o cs rs to acc [] 0) (ob hz3 ob0))))) (by kernel_rfl)
theorem coll7 (kk : Nat) (b : Bool) (o : Int) (cs rs : List Dat) (ks : List Dat) (o1 : Int) (cs1 rs1 : List Dat) {r : Res} (q1 : (0 ≤ (cs.length : Int) ∧ (cs.length : Int) ≤ (cs.length : Int) ∧ (cs.length : Int) ≤ 2147483648) ∧ (den cfg kk 128 [D.dat (Dat.agg [I o, Dat.lst b cs, Dat.lst b rs]), D.own 4 (List.replicate ((cs.length : Int)).toNat (B false))] [] [] = some ([D.own 4 ks], [], [])) ∧ (D.cleans [D.seq false [D.dat (I o1), D.own 97 cs1, D.own 3 rs1]] = true) ∧ (den cfg kk 127 [D.dat (Dat.agg [I o, Dat.lst b cs, Dat.lst b rs]), D.dat (Dat.lst true ks)] [] [] = some ([D.seq false [D.dat (I o1), D.own 97 cs1, D.own 3 rs1]], [], [])) ∧ r = ([D.seq false [D.dat (I o1), D.own 97 cs1, D.own 3 rs1]], [], [])) : zan cfg kk (den cfg kk) 101 Go.Proofs.Tryd.f101 [.dat (Hd b o cs rs)] [] [] = some r := by
 obtain ⟨hz1, hz2, hz3, hz4, oz⟩ := q1
 subst oz; exact zab [(9, .back [.own 4 ks] [] []), (10, .ret [.seq false [.dat (I o1), .own 97 cs1, .own 3 rs1]]), (8, .ok)] (ob hz1 (ob hz2 (ob hz3 (ob hz4 ob0)))) (by kernel_rfl)
def zkY (b : Bool) (o : Int) (cs rs : List Dat) (ks : List Dat) (i : Int) : St := Nm [1, 2, 3, 4] [.ptr (.loc 1) 0, .ptr (.loc 2) 0, .own 4 ks, .dat (I i)] [Hb b o cs rs, some (Ho 0 [] []), none, none] [] []
theorem zkf (kk m : Nat) {s : St} {K : X → St → Prop} (b : Bool) (o : Int) (cs rs : List Dat) (ks : List Dat) (i : Int) (g100017 : Bool) (hs : s.norm ((zaf cfg kk 102 Go.Proofs.Tryd.f102).live (zaa (lp Go.Proofs.Tryd.f102 3))) = zkY b o cs rs ks i) (q1 : (decide (i < o) = true) → (0 ≤ i ∧ i < (ks.length : Int)) ∧ (ks[i.toNat]? = some (B g100017)) ∧ (∀ s : St, s.norm ((zaf cfg kk 102 Go.Proofs.Tryd.f102).live (zaa (lp Go.Proofs.Tryd.f102 3))) = Nm [1, 2, 3, 4] [D.ptr (Ref.loc 1) 0, D.ptr (Ref.loc 2) 0, D.own 4 (ks.set i.toNat (B true)), D.dat (I (w64 (i + 1)))] [some [D.dat (I o), D.dat (Dat.lst b cs), D.dat (Dat.lst b rs)], some [D.dat (I 0), D.own 97 [], D.own 3 []], none, none] [] [] → zag (zaf cfg kk 102 Go.Proofs.Tryd.f102) kk (lp Go.Proofs.Tryd.f102 3) m s K)) (q2 : (decide (i < o) = false) → K (X.exit 0) (Nm [1, 2, 3] [D.ptr (Ref.loc 1) 0, D.ptr (Ref.loc 2) 0, D.own 4 ks] [some [D.dat (I o), D.dat (Dat.lst b cs), D.dat (Dat.lst b rs)], some [D.dat (I 0), D.own 97 [], D.own 3 []], none] [] [])) : zag (zaf cfg kk 102 Go.Proofs.Tryd.f102) kk (lp Go.Proofs.Tryd.f102 3) (m + 1) s K := by
 rcases Bool.eq_false_or_eq_true (decide (i < o)) with d1 | d1
 · obtain ⟨hz1, hz2, oz⟩ := q1 d1
   exact zal [(17, .ok), (100017, .at (B g100017)), (200012, .yes)] hs (by kernel_rfl) (ob d1 (ob hz1 (ob hz2 ob0))) (by kernel_rfl) oz
 · have oz := q2 d1
   exact zam [(17, .ok), (100017, .at (B g100017)), (200012, .no)] hs (by kernel_rfl) rfl (ob d1 ob0) (by kernel_rfl) oz
theorem zpv (kk : Nat) (b : Bool) (o : Int) (cs rs : List Dat) (ka ks : List Dat) (o1 : Int) (cs1 rs1 : List Dat) {r : Res} (q1 : (0 ≤ (cs.length : Int) ∧ (cs.length : Int) ≤ (cs.length : Int) ∧ (cs.length : Int) ≤ 2147483648) ∧ (za7 cfg kk 102 Go.Proofs.Tryd.f102 3 (zkY b o cs rs (List.replicate cs.length (B false)) 0) (X.exit 0) (Nm [1, 2, 3] [D.ptr (Ref.loc 1) 0, D.ptr (Ref.loc 2) 0, D.own 4 ka] [some [D.dat (I o), D.dat (Dat.lst b cs), D.dat (Dat.lst b rs)], some [D.dat (I 0), D.own 97 [], D.own 3 []], none] [] [])) ∧ (den cfg kk 128 [D.dat (Dat.agg [I o, Dat.lst b cs, Dat.lst b rs]), D.own 4 ka] [] [] = some ([D.own 4 ks], [], [])) ∧ (D.cleans [D.seq false [D.dat (I o1), D.own 97 cs1, D.own 3 rs1]] = true) ∧ (den cfg kk 127 [D.dat (Dat.agg [I o, Dat.lst b cs, Dat.lst b rs]), D.dat (Dat.lst true ks)] [] [] = some ([D.seq false [D.dat (I o1), D.own 97 cs1, D.own 3 rs1]], [], [])) ∧ r = ([D.seq false [D.dat (I o1), D.own 97 cs1, D.own 3 rs1]], [], [])) : zan cfg kk (den cfg kk) 102 Go.Proofs.Tryd.f102 [.dat (Hd b o cs rs)] [] [] = some r := by
 obtain ⟨hz1, hz2, hz3, hz4, hz5, oz⟩ := q1
 subst oz; exact zab [(300003, .loop (zkY b o cs rs (List.replicate cs.length (B false)) 0) (.exit 0) (Nm [1, 2, 3] [.ptr (.loc 1) 0, .ptr (.loc 2) 0, .own 4 ka] [Hb b o cs rs, some (Ho 0 [] []), none] [] [])), (21, .back [.own 4 ks] [] []), (22, .ret [.seq false [.dat (I o1), .own 97 cs1, .own 3 rs1]]), (8, .ok)] (ob hz1 (ob (rfl : _ = zkY b o cs rs (List.replicate cs.length (B false)) 0) (ob hz2 (ob hz3 (ob hz4 (ob hz5 ob0)))))) (by kernel_rfl)
theorem zpV (kk : Nat) (b : Bool) (o : Int) (cs rs : List Dat) (ks cs1 rs1 : List Dat) {r : Res} (q1 : (den cfg kk 62 [D.dat (Dat.lst b cs), D.dat (Dat.lst b rs), D.fn 63 []] [] [] = some ([D.own 4 ks], [], [])) ∧ (D.cleans [D.own 97 cs1, D.own 3 rs1] = true) ∧ (den cfg kk 118 [D.dat (Dat.lst b cs), D.dat (Dat.lst b rs), D.dat (Dat.lst true ks)] [] [] = some ([D.own 97 cs1, D.own 3 rs1], [], [])) ∧ r = ([D.seq false [D.dat (I (cs1.length : Int)), D.own 97 cs1, D.own 3 rs1]], [], [])) : zan cfg kk (den cfg kk) 112 Go.Proofs.Tryd.f112 [.dat (Hd b o cs rs)] [] [] = some r := by
 obtain ⟨hz1, hz2, hz3, oz⟩ := q1
 subst oz; exact zab [(14, .back [.own 4 ks] [] []), (15, .ret [.own 97 cs1, .own 3 rs1])] (ob hz1 (ob hz2 (ob hz3 ob0))) (by kernel_rfl)
def zkS (b : Bool) (o : Int) (cs rs : List Dat) (fr : List Dat) (i : Int) : St := Nm [1, 2, 3, 11, 12] [.ptr (.loc 1) 0, .ptr (.loc 2) 0, .own 3 fr, .dat (I o), .dat (I i)] [Hb b o cs rs, some (Ho 0 [] []), none, none, none] [] []
theorem zhV (kk m : Nat) {s : St} {K : X → St → Prop} (b : Bool) (o : Int) (cs rs : List Dat) (fr : List Dat) (i : Int) (hs : s.norm ((zaf cfg kk 113 Go.Proofs.Tryd.f113).live (zaa (lp Go.Proofs.Tryd.f113 3))) = zkS b o cs rs fr i) (q1 : (decide (i < o) = true) → (fr.length + 1 ≤ 2147483648) ∧ (∀ s : St, s.norm ((zaf cfg kk 113 Go.Proofs.Tryd.f113).live (zaa (lp Go.Proofs.Tryd.f113 3))) = Nm [1, 2, 3, 11, 12] [D.ptr (Ref.loc 1) 0, D.ptr (Ref.loc 2) 0, D.own 3 (fr ++ [I i]), D.dat (I o), D.dat (I (w64 (i + 1)))] [some [D.dat (I o), D.dat (Dat.lst b cs), D.dat (Dat.lst b rs)], some [D.dat (I 0), D.own 97 [], D.own 3 []], none, none, none] [] [] → zag (zaf cfg kk 113 Go.Proofs.Tryd.f113) kk (lp Go.Proofs.Tryd.f113 3) m s K)) (q2 : (decide (i < o) = false) → K (X.exit 0) (Nm [1, 2, 3] [D.ptr (Ref.loc 1) 0, D.ptr (Ref.loc 2) 0, D.own 3 fr] [some [D.dat (I o), D.dat (Dat.lst b cs), D.dat (Dat.lst b rs)], some [D.dat (I 0), D.own 97 [], D.own 3 []], none] [] [])) : zag (zaf cfg kk 113 Go.Proofs.Tryd.f113) kk (lp Go.Proofs.Tryd.f113 3) (m + 1) s K := by
 rcases Bool.eq_false_or_eq_true (decide (i < o)) with d1 | d1
 · obtain ⟨hz1, oz⟩ := q1 d1
   exact zal [(18, .ok), (200013, .yes)] hs (by kernel_rfl) (ob d1 (ob (obT hz1) ob0)) (by kernel_rfl) oz
 · have oz := q2 d1
   exact zam [(18, .ok), (200013, .no)] hs (by kernel_rfl) rfl (ob d1 ob0) (by kernel_rfl) oz
theorem zoC (kk : Nat) (b : Bool) (o : Int) (cs rs : List Dat) (f0 fr ks cs1 rs1 : List Dat) {r : Res} (q1 : (den cfg kk 82 [D.dat (Dat.lst b rs)] [] [] = some ([D.own 3 f0], [], [])) ∧ (za7 cfg kk 113 Go.Proofs.Tryd.f113 3 (zkS b o cs rs f0 0) (X.exit 0) (Nm [1, 2, 3] [D.ptr (Ref.loc 1) 0, D.ptr (Ref.loc 2) 0, D.own 3 fr] [some [D.dat (I o), D.dat (Dat.lst b cs), D.dat (Dat.lst b rs)], some [D.dat (I 0), D.own 97 [], D.own 3 []], none] [] [])) ∧ (den cfg kk 62 [D.dat (Dat.lst b cs), D.dat (Dat.lst false fr), D.fn 63 []] [] [] = some ([D.own 4 ks], [], [])) ∧ (D.cleans [D.own 97 cs1, D.own 3 rs1] = true) ∧ (den cfg kk 118 [D.dat (Dat.lst b cs), D.dat (Dat.lst b rs), D.dat (Dat.lst true ks)] [] [] = some ([D.own 97 cs1, D.own 3 rs1], [], [])) ∧ r = ([D.seq false [D.dat (I (cs1.length : Int)), D.own 97 cs1, D.own 3 rs1]], [], [])) : zan cfg kk (den cfg kk) 113 Go.Proofs.Tryd.f113 [.dat (Hd b o cs rs)] [] [] = some r := by
 obtain ⟨hz1, hz2, hz3, hz4, hz5, oz⟩ := q1
 subst oz; exact zab [(9, .ret [.own 3 f0]), (300003, .loop (zkS b o cs rs f0 0) (.exit 0) (Nm [1, 2, 3] [.ptr (.loc 1) 0, .ptr (.loc 2) 0, .own 3 fr] [Hb b o cs rs, some (Ho 0 [] []), none] [] [])), (28, .back [.own 4 ks] [] []), (29, .ret [.own 97 cs1, .own 3 rs1])] (ob hz1 (ob (rfl : _ = zkS b o cs rs f0 0) (ob hz2 (ob hz3 (ob hz4 (ob hz5 ob0)))))) (by kernel_rfl)
end Go.Den
