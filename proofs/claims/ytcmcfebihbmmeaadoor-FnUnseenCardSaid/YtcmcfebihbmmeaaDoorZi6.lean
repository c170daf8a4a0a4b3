/- Merged out of: D33 D34 Dt E0 UA UB E1 E2 E3 E4 EA EB EC EE EF (prune.py, a program of this work's). -/
import Derived.Test.YtcmcfebihbmmeaaDoorZi1
import Derived.Test.YtcmcfebihbmmeaaDoorZi5
import Derived.KernelRfl
import Derived.IntWalk
set_option linter.unusedVariables false
set_option linter.unusedSimpArgs false
set_option linter.unnecessarySimpa false
namespace Go.Den
open Go
set_option linter.unusedVariables false
inductive Hint where
 | yes
 | no
 | put (d : D)
 | to (f : St → St)
 | at (d : Dat)
 | ok
 | ret (rs : List D)
 | back (rs : List D) (u : List (List D)) (l : List (Option Row))
 | loop (s0 : St) (x : X) (s : St)
def Obs : List Prop → Prop
 | [] => True
 | p :: l => p ∧ Obs l
theorem zgs : ∀ {a b : List Prop}, Obs (a ++ b) → Obs a ∧ Obs b
 | [], b, h => ⟨trivial, h⟩
 | p :: a, b, h => by
   have h' : p ∧ Obs (a ++ b) := h
   obtain ⟨h1, h2⟩ := zgs h'.2
   exact ⟨⟨h'.1, h1⟩, h2⟩
abbrev zcD := List (Nat × Hint)
def zj6 : zcD → Nat → Option Hint
 | [], _ => none
 | (a, x) :: l, n => match Nat.beq a n with | true => some x | false => zj6 l n
def keyOf (o : Oper) : Option Nat :=
 match o.dst, o.op with
 | some n, _ => some n
 | none, .store _ (.tmp a) _ => some (100000 + a)
 | _, _ => none
def hadd {α : Type} (p : Prop) : Option (List Prop × α) → Option (List Prop × α)
 | some r => some (p :: r.1, r.2)
 | none => none
def zmR {α : Type} (hs : zcD) (s : St) (x : Nat) (yes no : St → Option (List Prop × α)) (und : Option (List Prop × α)) : Option (List Prop × α) :=
 match s.t x with
 | .dat (.val (.bool b)) => match zj6 hs (200000 + x) with
   | some .yes => hadd (b = true) (yes (s.force x true))
   | some .no => hadd (b = false) (no (s.force x false))
   | _ => match b with | true => yes (s.force x true) | false => no (s.force x false)
 | .undef => und
 | _ => none
def hcond {α : Type} (hs : zcD) (s : St) (c : Operand) (yes no : St → Option (List Prop × α)) : Option (List Prop × α) :=
 match c with
 | .tmp x => zmR hs s x yes no none
 | .const (.bool v) => match v with | true => yes s | false => no s
 | _ => none
def zjX {α : Type} (hs : zcD) (ops : Array Oper) (s : St) (g : Option (Nat × Bool)) (k z : St → Option (List Prop × α)) : Option (List Prop × α) :=
 match g with
 | none => k s
 | some (j, want) => match (ops[j]?).bind (·.dst) with
   | none => none
   | some x => match want with
     | true => zmR hs s x k z (z s)
     | false => zmR hs s x z k (z s)
def Env.with (E : Env) (q : List D × List (List D) × List (Option Row)) : Env := { E with call := fun _ _ _ _ => some q }
def zdU (E : Env) (s : St) (o : Oper) : Option (Nat × List D × Bool) :=
 match o.op with
 | .call ca => match ca.callee with
   | .value z => match s.look z with
     | .fn f [] => match zcS (E.mode f) with
       | true => (match zgf s.get (zaZ E s.look ca.args.toList ca.argTypes.toList) with
         | some r => some (f, r.1.map .dat, r.2)
         | none => none)
       | false => none
     | _ => none
   | _ => none
 | _ => none
def zmY (E : Env) (s : St) (f : Nat) (cap : List Ref) (args : List D) : Option (List D × List (List D) × List (Option Row)) :=
 (zaE (E.mode f) args s).bind fun a =>
 (zbg a.2.get (E.mode f) a.1).bind fun ls =>
 match zaW ls with
 | false => none
 | true => match cap.isEmpty && a.1.all zjn with
   | true => (zaG (hide ls false a.2.get) 0 [] (E.mode f) 0 a.1).map fun v => (v.1, [], ls.map fun p => some p.2)
   | false => match ls.all fun p => !p.1.ofCell with
     | false => none
     | true =>
       let keys := a.2.sent E.nt cap a.1; let m := a.2.u.length
       (zaG (hide ls true a.2.get) m keys (E.mode f) 0 a.1).bind fun v =>
       (zbZ m keys cap).bind fun caps =>
       (zf8 a.2 keys).bind fun bs => (zcN m keys (a.2.u ++ bs)).map fun us => (v.1 ++ caps.map (fun r => D.ptr r 0), us, ls.map fun p => some p.2)
def zdq (E : Env) (s : St) (o : Oper) : Option (Nat × List D × List (List D) × List (Option Row)) :=
 match o.op with
 | .call ca => match ca.callee with
   | .value z => match s.look z with
     | .fn f cap => match cap.isEmpty && (zcS (E.mode f) && (zgf s.get (zaZ E s.look ca.args.toList ca.argTypes.toList)).isSome) with
       | true => none
       | false => (zmY E s f cap (zaZ E s.look ca.args.toList ca.argTypes.toList)).map fun r => (f, r)
     | _ => none
   | _ => none
 | _ => none
theorem zfI {E : Env} {s : St} {o : Oper} {rs : List D} {f : Nat} {args : List D} {fl : Bool} (h : zdU E s o = some (f, args, fl)) (hpl : D.plains rs = true) (hfl : fl = true → D.cleans rs = true) (hc : E.call f args [] [] = some (rs, [], [])) : evOp E s.look s.get s.box o.type o.op = some (.pure (retD rs)) ∧ evOp (E.with (rs, [], [])) s.look s.get s.box o.type o.op = some (.pure (retD rs)) := by
 unfold zdU at h
 split at h
 · rename_i ca ho
   split at h
   · rename_i z hz
     split at h
     · rename_i f' hf
       split at h
       · rename_i hm
         split at h
         · rename_i r hr
           · cases h
             have hcl : (r.2 && !D.cleans rs) = false := by
              cases hr2 : r.2 with
              | false => rfl
              | true => rw [hfl hr2]; rfl
             rw [ho]
             refine ⟨?_, ?_⟩
             · simp only [evOp, hz, hf, zea, hm, hr, Option.bind_some, hc, zmN, hpl, hcl]
             · have hm' : zcS ((E.with (rs, [], [])).mode f) = true := hm
               have hr' : zgf s.get (zaZ (E.with (rs, [], [])) s.look ca.args.toList ca.argTypes.toList) = some r := by
                rw [← hr]
                congr 1
                generalize ca.args.toList = zs
                generalize ca.argTypes.toList = ts
                induction zs generalizing ts with
                | nil => rfl
                | cons z zs ih => simp only [zaZ, ih]; rfl
               have hcc : (E.with (rs, [], [])).call f (r.1.map .dat) [] [] = some (rs, [], []) := rfl
               simp only [evOp, hz, hf, zea, hm', hr', Option.bind_some, hcc, zmN, hpl, hcl]
         · cases h
       · cases h
     · cases h
   · cases h
 · cases h
theorem zmk {E : Env} {s : St} {o : Oper} {rs : List D} {f : Nat} {args : List D} {cs : List D} {l : List (Option Row)} (h : zdU E s o = some (f, args, false)) (hpl : D.plains rs = false) (hc : E.call f args [] [] = some (rs, [cs], l)) : evOp E s.look s.get s.box o.type o.op = some (.made cs) := by
 unfold zdU at h
 split at h
 · rename_i ca ho
   split at h
   · rename_i z hz
     split at h
     · rename_i f' hf
       split at h
       · rename_i hm
         split at h
         · rename_i r hr
           have h1 : r.2 = false := by injection h with h; injection h with _ h; injection h with _ h
           have h2 : f' = f ∧ r.1.map D.dat = args := by injection h with h; injection h with h3 h; injection h with h4 _; exact ⟨h3, h4⟩
           obtain ⟨rfl, rfl⟩ := h2
           rw [ho]
           simp only [evOp, hz, hf, zea, hm, hr, Option.bind_some, hc, zmN, hpl, h1]
         · cases h
       · cases h
     · cases h
   · cases h
 · cases h
theorem zdb {E : Env} {q : List D × List (List D) × List (Option Row)} {lk : Operand → D} : ∀ (zs : List Operand) (ts : List Nat), zaZ (E.with q) lk zs ts = zaZ E lk zs ts
 | [], ts => rfl
 | z :: zs, ts => by simp only [zaZ, zdb zs]; rfl
theorem zfd {E : Env} {s : St} {o : Oper} {q : List D × List (List D) × List (Option Row)} {r : Nat × List D × List (List D) × List (Option Row)} (h : zdq E s o = some r) (hc : E.call r.1 r.2.1 r.2.2.1 r.2.2.2 = some q) : step E s o = step (E.with q) s o := by
 unfold zdq at h
 split at h
 · rename_i ca ho
   split at h
   · rename_i z hz
     split at h
     · rename_i f cap hf
       split at h
       · cases h
       · rename_i hdead
         simp only [Option.map_eq_some_iff] at h
         obtain ⟨⟨a, u, l⟩, hdo, rfl⟩ := h
         simp only at hc
         have hev : ∀ E', E'.mode = E.mode → zaZ E' s.look ca.args.toList ca.argTypes.toList = zaZ E s.look ca.args.toList ca.argTypes.toList → evOp E' s.look s.get s.box o.type o.op = none := by
          intro E' hm ha
          rw [ho]
          simp only [evOp, hz, hf]
          cases cap with
          | cons r rs => rfl
          | nil =>
            simp only [List.isEmpty_nil, Bool.true_and] at hdead
            simp only [zea, hm, ha]
            cases hz : zcS (E.mode f) with
            | false => rfl
            | true =>
              rw [hz, Bool.true_and] at hdead
              cases hv : zgf s.get (zaZ E s.look ca.args.toList ca.argTypes.toList) with
              | none => rfl
              | some r => rw [hv] at hdead; cases hdead
         unfold step
         rw [hev E rfl rfl, hev (E.with q) rfl (zdb _ _)]
         simp only [ho, doOp, hz, hf, zdb]
         unfold zmY at hdo
         unfold zh8
         simp only [Option.bind_eq_some_iff] at hdo
         obtain ⟨a1, h1, ls, h2, hdo⟩ := hdo
         have h1' : zaE ((E.with q).mode f) (zaZ E s.look ca.args.toList ca.argTypes.toList) s = some a1 := h1
         have h2' : zbg a1.2.get ((E.with q).mode f) a1.1 = some ls := h2
         simp only [h1, h1', h2, h2', Option.bind_some]
         split at hdo
         · cases hdo
         · rename_i hdis
           simp only [hdis]
           split at hdo
           · rename_i hcl
             simp only [hcl]
             simp only [Option.map_eq_some_iff, Prod.mk.injEq] at hdo
             obtain ⟨v, hv, rfl, rfl, rfl⟩ := hdo
             have hv' : zaG (hide ls false a1.2.get) 0 [] ((E.with q).mode f) 0 a1.1 = some v := hv
             simp only [hv, hv', Option.bind_some, hc]
             rfl
           · rename_i hcl
             simp only [hcl]
             split at hdo
             · cases hdo
             · rename_i hnc
               simp only [hnc]
               simp only [Option.bind_eq_some_iff, Option.map_eq_some_iff, Prod.mk.injEq] at hdo
               obtain ⟨v, hv, caps, hcaps, bs, hbs, us, hus, rfl, rfl, rfl⟩ := hdo
               have hv' : zaG (hide ls true a1.2.get) a1.2.u.length (a1.2.sent (E.with q).nt cap a1.1) ((E.with q).mode f) 0 a1.1 = some v := hv
               have e2 : (E.with q).nt = E.nt := rfl
               simp only [e2] at hv' ⊢
               simp only [hv, hv', Option.bind_some, hcaps, hbs, hus, hc]
               rfl
     · cases h
   · cases h
 · cases h
def znB (E : Env) (s : St) (hd : Option Dat) : Op → Option (Prop × D)
 | .indexAddr t x i => (E.ty t).bind fun k => match k.kind with
   | .slice e => (E.ty e).bind fun j => (intOf (s.look i)).bind fun n => match s.look x, hd with
     | .dat (.lst b es), some d => (match Nat.beq d.cells.length j.sz with | true => some ((0 ≤ n ∧ n < es.length) ∧ es[n.toNat]? = some d, .ep b d.cells) | false => none)
     | .bor p m, none => (s.get p).bind fun r => match Nat.beq r.1 e with | true => some (0 ≤ n ∧ n < (zaK m r.2).length, .bp p n.toNat 0) | false => none
     | _, _ => none
   | _ => none
 | .load t x => (E.ty t).bind fun i => match s.look x, hd with
   | .bp p j o, some d => (s.get p).bind fun r => (zc2 i (d.cells.drop o)).map fun x => (r.2[j]? = some d, .dat x)
   | _, _ => none
 | .slice t x lo hi mx => match mx with
   | none => (zcV E.ty t).bind fun st => (zcw s.look lo).bind fun l => (zcw s.look hi).bind fun h => match st, s.look x with
     | none, .dat (.val (.string b)) => some (0 ≤ l.getD 0 ∧ l.getD 0 ≤ h.getD b.size ∧ h.getD b.size ≤ b.size, .dat (.val (.string (b.extract (l.getD 0).toNat (h.getD b.size).toNat))))
     | some n, .dat (.lst b es) => some ((0 ≤ l.getD 0 ∧ l.getD 0 ≤ h.getD es.length ∧ h.getD es.length ≤ es.length) ∧ wid n es = true, .dat (.lst b ((es.take (h.getD es.length).toNat).drop (l.getD 0).toNat)))
     | some n, .bor p m => (match l, h with
       | none, some h => (s.get p).bind fun r => some (0 ≤ h ∧ h ≤ (zaK m r.2).length, .bor p (some h.toNat))
       | some l, none => (match m with | none => (s.get p).bind fun r => (E.ty r.1).bind fun i => (match Nat.beq i.sz n with | true => some (0 ≤ l ∧ l ≤ r.2.length, .sb p l.toNat n) | false => none) | some _ => none)
       | _, _ => none)
     | _, _ => none
   | some _ => none
 | .index t x i => (E.ty t).bind fun k => (intOf (s.look i)).bind fun n => match s.look x, k.kind with
   | .dat (.val (.string s)), .str => some (0 ≤ n ∧ n < s.size, .dat (.val (.int .u8 ((s[n.toNat]?).getD 0).toNat)))
   | _, _ => none
 | .binOp op t x y _ => match op, s.look x, s.look y, hd with
   | .rem, .dat (.val (.int k a)), .dat (.val (.int k' b)), none => match decide (k = k') with
     | true => some (b ≠ 0, .dat (.val (.int k (a.tmod b))))
     | false => none
   | .quo, .dat (.val (.int k a)), .dat (.val (.int k' b)), none => match decide (k = k') with
     | true => some (b ≠ 0, .dat (.val (.int k (k.wrap (a.tdiv b)))))
     | false => none
   | .add, .dat (.val (.string a)), .dat (.val (.string b)), none => some (a.size + b.size ≤ 9223372036854775807, .dat (.val (.string (a ++ b))))
   | _, _, _, _ => none
 | .makeSlice t l c => (E.ty t).bind fun i => match i.kind with
   | .slice e => (E.ty e).bind fun j => j.zeroD.bind fun z => (intOf (s.look l)).bind fun n => (intOf (s.look c)).bind fun m =>
     match Nat.ble j.bytes 65536 with
     | true => some (0 ≤ n ∧ n ≤ m ∧ m ≤ 2147483648, .own e (List.replicate n.toNat z))
     | false => none
   | _ => none
 | .lookup t m k ok => (E.ty t).bind fun i => match i.kind with
   | .map kt et => (E.ty kt).bind fun kj => (E.ty et).bind fun ej => match zlk kj.kind, s.look m, s.look k, hd, ok with
     | true, .etc (.map r), .dat (.val kv), some (.val b), false => (s.box r).bind fun cs => match isM cs with
       | true => some (zdm kj.kind kv cs.tail = some (some b), .dat (.val b))
       | false => none
     | _, _, _, _, _ => none
   | _ => none
 | _ => none
theorem zfH {E : Env} {s : St} {hd : Option Dat} {op : Op} {ty : Nat} {p : Prop} {d : D} (h : znB E s hd op = some (p, d)) (hp : p) : evOp E s.look s.get s.box ty op = some (.pure d) := by
 unfold znB at h
 split at h
 · rename_i t x i
   simp only [Option.bind_eq_some_iff] at h
   obtain ⟨k, hk, h⟩ := h
   simp only [evOp, hk, Option.bind_some]
   split at h
   · rename_i e hke
     simp only [Option.bind_eq_some_iff] at h
     obtain ⟨j, hj, n, hn, h⟩ := h
     simp only [hke, hj, Option.bind_some, hn]
     split at h
     · rename_i b es dd hx
       split at h
       · rename_i hb
         cases h
         obtain ⟨h1, h2⟩ := hp
         simp only [hx, zbO, h1, h2, and_self, if_true, Option.bind_some, hb, Option.map_some]
       · cases h
     · rename_i pl m hx
       simp only [Option.bind_eq_some_iff] at h
       obtain ⟨r, hr, h⟩ := h
       split at h
       · rename_i hb
         cases h
         simp only [hx, zbO, hr, Option.bind_some, hb, hp, and_self, if_true, Option.map_some]
       · cases h
     · cases h
   · cases h
 · rename_i t x
   simp only [Option.bind_eq_some_iff] at h
   obtain ⟨i, hi, h⟩ := h
   simp only [evOp, hi, Option.bind_some]
   split at h
   · rename_i pl j o dd hx
     simp only [Option.bind_eq_some_iff, Option.map_eq_some_iff, Prod.mk.injEq] at h
     obtain ⟨r, hr, y, hy, rfl, rfl⟩ := h
     simp only [hx, zdn, hr, Option.bind_some, hp, hy, Option.map_some]
   · cases h
 · rename_i t x lo hi mx
   split at h
   · simp only [Option.bind_eq_some_iff] at h
     obtain ⟨st, hst, l, hl, hh, hhi, h⟩ := h
     simp only [evOp, hst, hl, hhi, Option.bind_some]
     split at h
     · rename_i b hx
       cases h
       simp only [hx, zhN, zb3, hp, and_self, if_true, Option.map_some]
     · rename_i n b es hx
       cases h
       obtain ⟨h1, h2⟩ := hp
       simp only [hx, zhN, zb3, h1, h2, and_self, if_true, Option.map_some]
     · rename_i n pl m hx
       split at h
       · rename_i hhv
         simp only [Option.bind_eq_some_iff] at h
         obtain ⟨r, hr, h⟩ := h
         cases h
         simp only [hx, zhN, hr, Option.bind_some, hp, and_self, if_true, Option.map_some]
       · cases m with
         | none =>
           simp only [Option.bind_eq_some_iff] at h
           obtain ⟨r, hr, ii, hii, h⟩ := h
           split at h
           · rename_i hb
             cases h
             simp only [hx, zhN, hr, Option.bind_some, hii, hb, hp, and_self, if_true, Option.map_some]
           · cases h
         | some m => cases h
       · cases h
     · cases h
   · cases h
 · rename_i t x i
   simp only [Option.bind_eq_some_iff] at h
   obtain ⟨k, hk, n, hn, h⟩ := h
   simp only [evOp, hk, hn, Option.bind_some]
   split at h
   · rename_i b hx hkk
     cases h
     simp only [hx, hkk]
     rw [dif_pos hp]
     have : b[n.toNat]? = some (b[n.toNat]'(by omega)) := getElem?_pos b n.toNat (by omega)
     rw [this]
     rfl
   · cases h
 · rename_i op t x y ky
   split at h
   · rename_i k a k' b hx hy
     split at h
     · rename_i hk
       cases h
       simp [evOp, hx, hy, zgS, binD, binV, ziS, hk, hp]
     · cases h
   · rename_i k a k' b hx hy
     split at h
     · rename_i hk
       cases h
       simp [evOp, hx, hy, zgS, binD, binV, ziS, hk, hp]
     · cases h
   · rename_i a b hx hy
     cases h
     simp only [evOp, hx, hy, zgS, binD, binV, ziS]
     rw [if_pos hp]
     rfl
   · cases h
 · rename_i t l c
   simp only [Option.bind_eq_some_iff] at h
   obtain ⟨i, hi, h⟩ := h
   simp only [evOp, hi, Option.bind_some]
   split at h
   · rename_i e hk
     simp only [Option.bind_eq_some_iff] at h
     obtain ⟨j, hj, z, hz, n, hn, m, hm, h⟩ := h
     split at h
     · rename_i hb
       cases h
       simp only [hk, hj, hz, hn, hm, Option.bind_some, hp, and_self, if_true, hb]
     · cases h
   · cases h
 · rename_i t m k ok
   simp only [Option.bind_eq_some_iff] at h
   obtain ⟨i, hi, h⟩ := h
   split at h
   · rename_i kt et hk
     simp only [Option.bind_eq_some_iff] at h
     obtain ⟨kj, hkj, ej, hej, h⟩ := h
     split at h
     · rename_i r kv b hkt hm hkk
       simp only [Option.bind_eq_some_iff] at h
       obtain ⟨cs, hcs, h⟩ := h
       split at h
       · rename_i hM
         cases h
         simp only [evOp, hi, Option.bind_some, hk, hkj, hej, hkt, hm, hkk, hcs, hM, hp, zka, Option.map_some]
       · cases h
     · cases h
   · cases h
 · cases h
def zlE (E : Env) (s : St) (x : Option Nat) : Op → Option (Prop × St)
 | .call c => match c.callee with
   | .builtin .append => match c.args.toList, c.argTypes.toList with
     | [a, b], [t, u] => (E.ty t).bind fun i => match i.kind with
       | .slice e => match Nat.beq t u with
         | true => (zfq s.get (s.look b)).bind fun es2 => (zbk s e a).bind fun r => (E.ty e).bind fun i =>
           match Nat.beq r.1.1 e && Nat.ble i.bytes 65536 && Nat.blt 0 i.sz with
           | true => some (es2.all (fun d => Nat.beq d.cells.length i.sz) = true ∧ r.1.2.length + es2.length ≤ 2147483648, r.2.putO x (.own e (r.1.2 ++ es2)))
           | false => none
         | false => (E.ty e).bind fun j => (E.ty u).bind fun k => match ziD j, k.kind, s.look b with
           | true, .str, .dat (.val (.string w)) => (zbk s e a).bind fun r => match Nat.beq r.1.1 e && Nat.ble j.bytes 65536 && Nat.blt 0 j.sz with
             | true => some ((zah w).all (fun d => Nat.beq d.cells.length j.sz) = true ∧ r.1.2.length + (zah w).length ≤ 2147483648, r.2.putO x (.own e (r.1.2 ++ zah w)))
             | false => none
           | _, .int _, .dat (.val (.int .i64 n)) => (zbk s e a).bind fun r => j.zeroD.bind fun z => match Nat.beq r.1.1 e && Nat.ble j.bytes 65536 && Nat.blt 0 j.sz && decide (0 ≤ n) with
             | true => some (r.1.2.length + n.toNat ≤ 2147483648, r.2.putO x (.own e (r.1.2 ++ List.replicate n.toNat z)))
             | false => none
           | _, _, _ => none
       | _ => none
     | _, _ => none
   | _ => none
 | .convert t u y => (E.ty t).bind fun i => match i.kind with
   | .slice e => (E.ty e).bind fun j => (E.ty u).bind fun k => match j.kind, k.kind with
     | .int .u8, .str => (zfq s.get (s.look y)).bind fun es => x.map fun n => (zcl es ≠ none, s.put n (.dat (.val ((zcl es).getD (.string ByteArray.empty)))))
     | _, _ => none
   | _ => none
 | _ => none
theorem zhI {E : Env} {s : St} {o : Oper} {p : Prop} {s' : St} (h : zlE E s o.dst o.op = some (p, s')) (hp : p) : step E s o = some s' := by
 unfold zlE at h
 split at h
 · rename_i c ho
   split at h
   · rename_i hc
     split at h
     · rename_i a b t u ha hat
       simp only [Option.bind_eq_some_iff] at h
       obtain ⟨i, hi, h⟩ := h
       split at h
       · rename_i e hk
         split at h
         · rename_i htu
           simp only [Option.bind_eq_some_iff] at h
           obtain ⟨es2, hes, r, hr, i2, hi2, h⟩ := h
           split at h
           · rename_i hcond
             cases h
             have hev : evOp E s.look s.get s.box o.type o.op = none := by rw [ho]; simp only [evOp, hc]
             unfold step
             rw [hev]
             have hes' : zit s.get false (s.look b) = some es2 := by
              unfold zit
              split
              · rename_i he
                rw [he] at hes
                cases hes
              · exact hes
             simp only [ho, doOp, hc, ha, hat, hi, Option.bind_some, hk, htu, zcr, hes', hr, hi2, hcond, hp.1, Bool.and_self, hp.2, if_true]
           · cases h
         · rename_i htu
           simp only [Option.bind_eq_some_iff] at h
           obtain ⟨j, hj, k, hkj, h⟩ := h
           split at h
           · rename_i w hib huk hw
             simp only [Option.bind_eq_some_iff] at h
             obtain ⟨r, hr, h⟩ := h
             split at h
             · rename_i hcond
               cases h
               have hev : evOp E s.look s.get s.box o.type o.op = none := by rw [ho]; simp only [evOp, hc]
               unfold step
               rw [hev]
               have hes' : zit s.get true (s.look b) = some (zah w) := by rw [hw]; rfl
               simp only [ho, doOp, hc, ha, hat, hi, Option.bind_some, hk, htu, hj, hkj, hib, huk, zcr, hes', hr, hcond, hp.1, Bool.and_self, hp.2, if_true]
             · cases h
           · rename_i nn huk hw
             simp only [Option.bind_eq_some_iff] at h
             obtain ⟨r, hr, z, hz, h⟩ := h
             split at h
             · rename_i hcond
               cases h
               have hev : evOp E s.look s.get s.box o.type o.op = none := by rw [ho]; simp only [evOp, hc]
               unfold step
               rw [hev]
               have hes' : intOf (s.look b) = some nn := by rw [hw]; exact rfl
               simp only [ho, doOp, hc, ha, hat, hi, Option.bind_some, hk, htu, hj, hkj, huk]
               simp only [zfs, hes', hr, hz, hj, Option.bind_some, hcond, hp, if_true]
             · cases h
           · cases h
       · cases h
     · cases h
   · cases h
 · rename_i t u y ho
   simp only [Option.bind_eq_some_iff] at h
   obtain ⟨i, hi, h⟩ := h
   split at h
   · rename_i e hk
     simp only [Option.bind_eq_some_iff] at h
     obtain ⟨j, hj, k, hkk, h⟩ := h
     split at h
     · rename_i hjk hku
       simp only [Option.bind_eq_some_iff, Option.map_eq_some_iff, Prod.mk.injEq] at h
       obtain ⟨es, hes, n, hn, rfl, rfl⟩ := h
       obtain ⟨v, hv⟩ := Option.ne_none_iff_exists'.1 hp
       have hconv : znX (some i) (some k) (s.look y) = none := by
        cases hy : s.look y with
        | dat d => cases d with
          | val w => rw [hy] at hes; cases hes
          | agg cs => rfl
          | lst b l => rfl
        | _ => rfl
       have hev : evOp E s.look s.get s.box o.type o.op = none := by rw [ho]; simp only [evOp, hi, hkk, Option.bind_some, hconv, Option.map_none]
       unfold step
       rw [hev]
       simp only [ho, doOp, zcA, hi, hj, hkk, Option.bind_some, hk, hjk, hku, hes, hv, hn, Option.map_some, Option.getD_some]
     · cases h
   · cases h
 · cases h
def zpa (E : Env) (s : St) (hd : Dat) : Op → Option (Prop × St)
 | .store t a y => match zfG y with
   | true => none
   | false => (E.ty t).bind fun i => match s.look a with
     | .bp p j o => (s.datD (s.look y)).bind fun q => match Nat.beq q.1.cells.length i.sz with
       | false => none
       | true => (q.2.get p).bind fun r => (zff hd o q.1.cells).map fun d' => (r.2[j]? = some hd, q.2.setPl p (.own r.1 (r.2.set j d')))
     | _ => none
 | _ => none
theorem zjF {E : Env} {s : St} {hd : Dat} {o : Oper} {p : Prop} {s' : St} (h : zpa E s hd o.op = some (p, s')) (hp : p) : step E s o = some s' := by
 unfold zpa at h
 split at h
 · rename_i t a y ho
   split at h
   · cases h
   · rename_i hn
     simp only [Option.bind_eq_some_iff] at h
     obtain ⟨i, hi, h⟩ := h
     split at h
     · rename_i pl j off ha
       simp only [Option.bind_eq_some_iff] at h
       obtain ⟨q, hq, h⟩ := h
       split at h
       · cases h
       · rename_i hb
         simp only [Option.bind_eq_some_iff, Option.map_eq_some_iff, Prod.mk.injEq] at h
         obtain ⟨r, hr, d', hd', rfl, rfl⟩ := h
         have hev : evOp E s.look s.get s.box o.type o.op = none := by rw [ho]; simp only [evOp]
         unfold step
         rw [hev]
         simp only [ho, doOp, hn, zco, hi, Option.bind_some, ha, hq, hb, hr, hp, hd', Option.map_some]
     · cases h
 · cases h
def zp2 {α : Type} (b : Bool) (p : Prop) (r : Option (List Prop × α)) : Option (List Prop × α) := match b with | true => hadd p r | false => r
def znc (E : Env) (s : St) (x : Option Nat) (f : Nat) (cap : List Ref) (args : List D) (q : List D × List (List D) × List (Option Row)) : Option (Prop × St) :=
 (zaE (E.mode f) args s).bind fun a =>
 (zbg a.2.get (E.mode f) a.1).bind fun ls =>
 match zaW ls with
 | false => none
 | true => match cap.isEmpty && a.1.all zjn with
   | true => (zaG (hide ls false a.2.get) 0 [] (E.mode f) 0 a.1).bind fun v =>
     (zbu a.2 ls q.2.2).map fun s => (((v.2 && !(D.cleans q.1 && zbc q.2.2)) || !D.plains q.1) = false, s.putO x (retD q.1))
   | false => match ls.all fun p => !p.1.ofCell with
     | false => none
     | true =>
       let keys := a.2.sent E.nt cap a.1; let m := a.2.u.length
       (zaG (hide ls true a.2.get) m keys (E.mode f) 0 a.1).bind fun v =>
       (zbu (a.2.regain m keys q.2.1) ls q.2.2).map fun s => (((v.2 && !(D.cleans q.1 && (zbc q.2.2 && zav q.2.1))) || !D.plains q.1) = false, s.putO x (retD q.1))
def zpK (E : Env) (s : St) (o : Oper) (q : List D × List (List D) × List (Option Row)) : Option (Prop × St) :=
 match o.op with
 | .call ca => match ca.callee with
   | .value z => match s.look z with
     | .fn f cap => znc E s o.dst f cap (zaZ E s.look ca.args.toList ca.argTypes.toList) q
     | _ => none
   | _ => none
 | _ => none
theorem zjN {E : Env} {s : St} {o : Oper} {q : List D × List (List D) × List (Option Row)} {r : Nat × List D × List (List D) × List (Option Row)} {p : Prop} {s' : St} (h : zdq E s o = some r) (hc : E.call r.1 r.2.1 r.2.2.1 r.2.2.2 = some q) (hh : zpK E s o q = some (p, s')) (hp : p) : step E s o = some s' := by
 unfold zdq at h
 unfold zpK at hh
 split at h
 · rename_i ca ho
   simp only [ho] at hh
   split at h
   · rename_i z hz
     simp only [hz] at hh
     split at h
     · rename_i f cap hf
       simp only [hf] at hh
       split at h
       · cases h
       · rename_i hdead
         simp only [Option.map_eq_some_iff] at h
         obtain ⟨⟨a, u, l⟩, hdo, rfl⟩ := h
         simp only at hc
         have hev : evOp E s.look s.get s.box o.type o.op = none := by
          rw [ho]
          simp only [evOp, hz, hf]
          cases cap with
          | cons r rs => rfl
          | nil =>
            simp only [List.isEmpty_nil, Bool.true_and] at hdead
            simp only [zea]
            cases hz : zcS (E.mode f) with
            | false => rfl
            | true =>
              rw [hz, Bool.true_and] at hdead
              cases hv : zgf s.get (zaZ E s.look ca.args.toList ca.argTypes.toList) with
              | none => rfl
              | some r => rw [hv] at hdead; cases hdead
         unfold step
         rw [hev]
         simp only [ho, doOp, hz, hf]
         unfold zmY at hdo
         unfold zh8
         unfold znc at hh
         simp only [Option.bind_eq_some_iff] at hdo
         obtain ⟨a1, h1, ls, h2, hdo⟩ := hdo
         simp only [h1, h2, Option.bind_some] at hh ⊢
         split at hdo
         · cases hdo
         · rename_i hdis
           simp only [hdis] at hh ⊢
           split at hdo
           · rename_i hcl
             simp only [hcl] at hh ⊢
             simp only [Option.map_eq_some_iff, Prod.mk.injEq] at hdo
             obtain ⟨v, hv, rfl, rfl, rfl⟩ := hdo
             simp only [hv, Option.bind_some, Option.map_eq_some_iff, Prod.mk.injEq] at hh ⊢
             obtain ⟨s3, hg, rfl, rfl⟩ := hh
             simp only [hc, Option.bind_some, hp, hg, Option.map_some]
           · rename_i hcl
             simp only [hcl] at hh ⊢
             split at hdo
             · cases hdo
             · rename_i hnc
               simp only [hnc] at hh ⊢
               simp only [Option.bind_eq_some_iff, Option.map_eq_some_iff, Prod.mk.injEq] at hdo
               obtain ⟨v, hv, caps, hcaps, bs, hbs, us, hus, rfl, rfl, rfl⟩ := hdo
               simp only [hv, Option.bind_some, Option.map_eq_some_iff, Prod.mk.injEq] at hh ⊢
               obtain ⟨s3, hg, rfl, rfl⟩ := hh
               simp only [hcaps, hbs, hus, Option.bind_some, hc, hp, hg, Option.map_some]
     · cases h
   · cases h
 · cases h
def hop {α : Type} (E : Env) (hs : zcD) (run : Env → St → Oper → Option St) (view : St → St) (pu ap : Oper → Bool) (s : St) (o : Oper) (k : St → Option (List Prop × α)) : Option (List Prop × α) :=
 match (keyOf o).bind (zj6 hs) with
 | some (.put d) => hadd (run E s o = some (s.putO o.dst d)) (k (s.putO o.dst d))
 | some (.to f) => hadd (run E s o = some (f s)) (k (f s))
 | some (.at d) => match znB E s (some d) o.op with
   | some (p, d) => (match o.dst, pu o with | some n, true => hadd p (k (s.put n d)) | _, _ => none)
   | none => (match zpa E s d o.op, ap o with | some (p, s'), true => hadd p (k s') | _, _ => none)
 | some .ok => match znB E s none o.op with
   | some (p, d) => (match o.dst, pu o with | some n, true => hadd p (k (s.put n d)) | _, _ => none)
   | none => (match zlE E s o.dst o.op, ap o with | some (p, s'), true => hadd p (k s') | _, _ => none)
 | some (.ret rs) => match D.plains rs, zdU E (view s) o with
   | true, some (f, args, fl) => zp2 fl (D.cleans rs = true) (hadd (E.call f args [] [] = some (rs, [], [])) (match pu o, o.dst with | true, some n => k (s.put n (retD rs)) | _, _ => (run (E.with (rs, [], [])) s o).bind k))
   | _, _ => none
 | some (.back rs u l) => match zdq E (view s) o with
   | some (f, args, us, ls) => hadd (E.call f args us ls = some (rs, u, l)) (match ap o with
     | true => (match zpK E s o (rs, u, l) with | some (p, s') => hadd p (k s') | none => none)
     | false => (run (E.with (rs, u, l)) s o).bind k)
   | none => match zdU E (view s) o, D.plains rs, u, ap o with
     | some (f, args, false), false, [cs], true => hadd (E.call f args [] [] = some (rs, [cs], l)) ((s.apply o.dst (.made cs)).bind k)
     | _, _, _, _ => none
 | _ => (run E s o).bind k
def hops (E : Env) (hs : zcD) (ops : Array Oper) : List Oper → St → Option (List Prop × St)
 | [], s => some ([], s)
 | o :: l, s => zjX hs ops s o.guard (fun s => hop E hs step (fun s => s) (fun _ => true) (fun _ => true) s o (hops E hs ops l)) (fun s => hops E hs ops l (s.putO o.dst .undef))
def zel (M : Option (List Nat)) (k : Nat) (s : St) : St :=
 match k with
 | 0 => s
 | 1 => s
 | 2 => s
 | 3 => s
 | _ => match M with | none => s | some M => s.hid M
def zmP : Op → Bool
 | .load _ _ => true
 | _ => false
def zjh (M : Option (List Nat)) (k : Nat) (o : Oper) : Bool :=
 match k with
 | 0 => zgA o.op
 | 1 => zmP o.op && M.isNone
 | 2 => true
 | 3 => false
 | _ => M.isNone
def zeR (E : Env) (hs : zcD) (ops : Array Oper) (M : Option (List Nat)) : Bool → List PRow → St → Option (List Prop × St)
 | _, [], s => some ([], s)
 | first, (i, k, ds) :: l, s => match zfz s ds with
   | false => none
   | true => match ops[i]? with
     | none => none
     | some o => zjX hs ops s o.guard (fun s => match k with
       | 5 => (match zmf M s o with | true => hop E hs step (fun s => s) (fun _ => true) (fun _ => true) s o (zeR E hs ops M (first && zbT k) l) | false => none)
       | 6 => hop E hs (fun E => zaT E none first 4) (zel none 4) (zjh none 4) (fun _ => false) s o (zeR E hs ops M (first && zbT k) l)
       | 7 => hop E hs (fun E => zaT E none first 4) (zel none 4) (zjh none 4) (fun _ => false) s o (zeR E hs ops M (first && zbT k) l)
       | 8 => hop E hs (fun E => zaT E none first 4) (zel none 4) (zjh none 4) (fun _ => false) s o (zeR E hs ops M (first && zbT k) l)
       | 9 => (match zlJ o.op with | true => hop E hs step (fun s => s) (fun _ => true) (fun _ => true) s o (zeR E hs ops M (first && zbT k) l) | false => none)
       | 10 => (match zbK s o with | true => hop E hs step (fun s => s) (fun _ => true) (fun _ => true) s o (zeR E hs ops M (first && zbT k) l) | false => none)
       | 11 => (match zbI s o with | true => hop E hs step (fun s => s) (fun _ => true) (fun _ => true) s o (zeR E hs ops M (first && zbT k) l) | false => none)
       | k => hop E hs (fun E => zaT E M first k) (zel M k) (zjh M k) (fun _ => Nat.beq k 2) s o (zeR E hs ops M (first && zbT k) l)) (fun s => zeR E hs ops M (first && zbT k) l (s.putO o.dst .undef))
def zqg (E : Env) (hs : zcD) (ops : Array Oper) (p : Plan) (s : St) : Option (List Prop × St) :=
 match p.2 with
 | [] => some ([], s)
 | (i, k, ds) :: l => match zgZ s ds with
   | true => zeR E hs ops p.1 true ((i, k, ds) :: l) (s.junks ds)
   | false => none
def zi4 (E : Env) (hs : zcD) (id : Nat) (ops : Array Oper) (draw : Bool) (s : St) : Option (List Prop × St) :=
 match draw with
 | false => hops E hs ops ops.toList s
 | true => match E.plan id with
   | some p => zqg E hs ops p s
   | none => none
def zos (r : Option (List Prop × X × St)) (k : X → St → Option (List Prop × X × St)) : Option (List Prop × X × St) :=
 match r with
 | some (ps, x, s) => match k x s with
   | some q => some (ps ++ q.1, q.2)
   | none => none
 | none => none
def zn0 : List Nat → List D → Nat → D
 | a :: L, d :: ds, x => match Nat.beq a x with | true => d | false => zn0 L ds x
 | _, _, _ => .junk
def znO : List Nat → List (Option (List D)) → Nat → Option (List D)
 | a :: L, d :: ds, x => match Nat.beq a x with | true => d | false => znO L ds x
 | _, _, _ => none
def Nm (L : List Nat) (ds : List D) (bs : List (Option (List D))) (u : List (List D)) (l : List (Option Row)) : St := ⟨zn0 L ds, znO L bs, u, l⟩
def nmOf (L : List Nat) (s : St) : St := Nm L (L.map fun x => (s.t x).kill (Kill.but L)) (L.map fun x => (s.b x).map (D.kills (Kill.but L))) (s.u.map (D.kills (Kill.but L))) s.l
def zly (E : Env) (n : Nat) (c : Code) (s0 : St) (x : X) (s' : St) : Prop := ∀ s : St, s.norm (E.live (zaa c)) = s0 → exec E n (.loop c) s = some (x, s')
def zcz (E : Env) (n : Nat) (hs : zcD) : Code → St → Option (List Prop × X × St)
 | .skip, s => some ([], .normal, s)
 | .region id ops draw, s => match zi4 E hs id ops draw s with | some r => some (r.1, .normal, r.2) | none => none
 | .seq a b, s => zos (zcz E n hs a s) fun x s' => match x with
   | .normal => zcz E n hs b s'
   | x => some ([], x, s')
 | .cond c a b, s => hcond hs s c (zcz E n hs a) (zcz E n hs b)
 | .block id c, s => zos (zcz E n hs c s) fun x s' => match x with
   | .exit i => (match Nat.beq i id with | true => some ([], .normal, s') | false => some ([], .exit i, s'))
   | x => some ([], x, s')
 | .loop c, s => match zj6 hs (300000 + zaa c) with
   | some (.loop s0 x s') => some ([nmOf (E.live (zaa c)) s = s0, zly E n c s0 x s'], x, s')
   | _ => none
 | .exit id, s => some ([], .exit id, s)
 | .ret, s => some ([], .ret, s)
 | _, _ => none
theorem nbeq_eq {a b : Nat} : Nat.beq a b = true ↔ a = b := ⟨Nat.eq_of_beq_eq_true, fun h => by rw [h]; exact Nat.beq_refl b⟩
theorem nbeq_ne {a b : Nat} : Nat.beq a b = false ↔ a ≠ b := ⟨Nat.ne_of_beq_eq_false, fun h => by
 cases hb : Nat.beq a b with
 | false => rfl
 | true => exact (h (Nat.eq_of_beq_eq_true hb)).elim⟩
theorem zda {a x : Nat} {l : List Nat} : memN x (a :: l) = (Nat.beq x a || memN x l) := by
 show (match Nat.beq x a with | true => true | false => memN x l) = _
 cases Nat.beq x a <;> rfl
theorem zih {f : Nat → D} {x : Nat} : ∀ {L : List Nat}, zn0 L (L.map f) x = match memN x L with | true => f x | false => .junk
 | [] => rfl
 | a :: L => by
   simp only [List.map_cons, zn0]
   cases h : Nat.beq a x with
   | true => rw [nbeq_eq.1 h, zda]; simp
   | false =>
     have h2 : Nat.beq x a = false := nbeq_ne.2 (fun e => nbeq_ne.1 h e.symm)
     simp only [zih (L := L), zda, h2, Bool.false_or]
theorem zhR {f : Nat → Option (List D)} {x : Nat} : ∀ {L : List Nat}, znO L (L.map f) x = match memN x L with | true => f x | false => none
 | [] => rfl
 | a :: L => by
   simp only [List.map_cons, znO]
   cases h : Nat.beq a x with
   | true => rw [nbeq_eq.1 h, zda]; simp
   | false =>
     have h2 : Nat.beq x a = false := nbeq_ne.2 (fun e => nbeq_ne.1 h e.symm)
     simp only [zhR (L := L), zda, h2, Bool.false_or]
theorem zjD (L : List Nat) (s : St) : s.norm L = nmOf L s := by
 simp only [St.norm, nmOf, Nm, St.mk.injEq, and_true]
 refine ⟨funext fun x => ?_, funext fun x => ?_⟩
 · rw [zih]; cases memN x L <;> rfl
 · rw [zhR]; cases memN x L <;> rfl
theorem zaR {α : Type} {p : Prop} {r : Option (List Prop × α)} {q : List Prop × α} (h : hadd p r = some q) : ∃ ps, r = some (ps, q.2) ∧ q.1 = p :: ps := by
 unfold hadd at h
 split at h
 · rename_i r'
   cases h
   exact ⟨r'.1, rfl, rfl⟩
 · cases h
section
variable {E : Env} {hs : zcD} {ops : Array Oper}
theorem zdu {α β : Type} {s : St} {x : Nat} {yes no : St → Option (List Prop × α)} {und : Option (List Prop × α)} {q : List Prop × α} {yes' no' : St → Option β} {und' : Option β} {b : β}
 (h : zmR hs s x yes no und = some q) (hq : Obs q.1) (hy : ∀ s ps, yes s = some (ps, q.2) → Obs ps → yes' s = some b) (hn : ∀ s ps, no s = some (ps, q.2) → Obs ps → no' s = some b) (hu : ∀ ps, und = some (ps, q.2) → Obs ps → und' = some b) :
 (match s.t x with
  | .dat (.val (.bool v)) => match v with | true => yes' (s.force x true) | false => no' (s.force x false)
  | .undef => und'
  | _ => none) = some b := by
 unfold zmR at h
 cases hx : s.t x with
 | undef => rw [hx] at h; exact hu q.1 h hq
 | dat d =>
   rw [hx] at h
   cases d with
   | val v =>
     cases v with
     | bool v =>
       simp only at h ⊢
       split at h
       · obtain ⟨ps, h1, h2⟩ := zaR h
         rw [h2] at hq
         have hv : v = true := hq.1
         rw [hv]
         exact hy _ ps h1 hq.2
       · obtain ⟨ps, h1, h2⟩ := zaR h
         rw [h2] at hq
         have hv : v = false := hq.1
         rw [hv]
         exact hn _ ps h1 hq.2
       · cases v with
         | true => exact hy _ q.1 h hq
         | false => exact hn _ q.1 h hq
     | _ => cases h
   | _ => cases h
 | _ => rw [hx] at h; cases h
theorem zjm {α β : Type} {s : St} {c : Operand} {yes no : St → Option (List Prop × α)} {q : List Prop × α} {yes' no' : St → Option β} {b : β}
 (h : hcond hs s c yes no = some q) (hq : Obs q.1) (hy : ∀ s ps, yes s = some (ps, q.2) → Obs ps → yes' s = some b) (hn : ∀ s ps, no s = some (ps, q.2) → Obs ps → no' s = some b) : znV s c yes' no' = some b := by
 unfold hcond at h
 unfold znV
 split at h
 · rename_i x
   have := zdu (und' := (none : Option β)) h hq hy hn (fun ps h => by cases h)
   simp only
   revert this
   cases s.t x with
   | dat d =>
     cases d with
     | val v => cases v <;> exact id
     | _ => exact id
   | _ => intro h; first | exact h | cases h
 · rename_i v
   cases v with
   | true => exact hy _ q.1 h hq
   | false => exact hn _ q.1 h hq
 · cases h
theorem zeE {α β : Type} {s : St} {g : Option (Nat × Bool)} {k z : St → Option (List Prop × α)} {q : List Prop × α} {k' z' : St → Option β} {b : β}
 (h : zjX hs ops s g k z = some q) (hq : Obs q.1) (hk : ∀ s ps, k s = some (ps, q.2) → Obs ps → k' s = some b) (hz : ∀ s ps, z s = some (ps, q.2) → Obs ps → z' s = some b) : zb7 ops s g k' z' = some b := by
 unfold zjX at h
 unfold zb7
 split at h
 · exact hk _ q.1 h hq
 · rename_i j want
   simp only
   split at h
   · cases h
   · rename_i x hx
     rw [hx]
     simp only
     split at h
     · have := zdu (und' := z' s) h hq hk hz (fun ps h h2 => hz _ ps h h2)
       revert this
       cases s.t x with
       | dat d =>
         cases d with
         | val v =>
           cases v with
           | bool v => cases v <;> exact id
           | _ => exact id
         | _ => exact id
       | _ => exact id
     · have := zdu (und' := z' s) h hq hz hk (fun ps h h2 => hz _ ps h h2)
       revert this
       cases s.t x with
       | dat d =>
         cases d with
         | val v =>
           cases v with
           | bool v => cases v <;> exact id
           | _ => exact id
         | _ => exact id
       | _ => exact id
structure RunOK (E : Env) (run : Env → St → Oper → Option St) (view : St → St) (pu ap : Oper → Bool) : Prop where
 pure : ∀ s o n d, evOp E s.look s.get s.box o.type o.op = some (.pure d) → o.dst = some n → pu o = true → run E s o = some (s.put n d)
 app : ∀ s o s', step E s o = some s' → ap o = true → run E s o = some s'
 vw : ∀ s o, pu o = true → view s = s
 vw2 : ∀ s o, ap o = true → view s = s
 ev : ∀ s o rs f args fl, zdU E (view s) o = some (f, args, fl) → D.plains rs = true → (fl = true → D.cleans rs = true) → E.call f args [] [] = some (rs, [], []) → run E s o = run (E.with (rs, [], [])) s o
 go : ∀ s o r q, zdq E (view s) o = some r → E.call r.1 r.2.1 r.2.2.1 r.2.2.2 = some q → ∀ s', run (E.with q) s o = some s' → run E s o = some s'
theorem step_ok : RunOK E step (fun s => s) (fun _ => true) (fun _ => true) :=
 ⟨fun s o n d h hd _ => by
  unfold step
  rw [h, hd]
  rfl, fun s o s' h _ => h, fun _ _ _ => rfl, fun _ _ _ => rfl, fun s o rs f args fl h hpl hfl hc => by
  obtain ⟨h1, h2⟩ := zfI h hpl hfl hc
  unfold step
  rw [h1, h2], fun s o r q h hc s' hr => by rw [zfd h hc]; exact hr⟩
theorem zc8 {M : Option (List Nat)} {first : Bool} {k : Nat} : RunOK E (fun E => zaT E M first k) (zel M k) (zjh M k) (fun _ => Nat.beq k 2) := by
 have hcall : ∀ (s : St) (o : Oper) r, zdU E s o = some r → ∃ ca z, o.op = .call ca ∧ ca.callee = .value z := fun s o r h => by
  unfold zdU at h
  split at h
  · rename_i ca ho
    split at h
    · rename_i z hz; exact ⟨ca, z, ho, hz⟩
    · cases h
  · cases h
 have hcall2 : ∀ (s : St) (o : Oper) r, zdq E s o = some r → ∃ ca z, o.op = .call ca ∧ ca.callee = .value z := fun s o r h => by
  unfold zdq at h
  split at h
  · rename_i ca ho
    split at h
    · rename_i z hz; exact ⟨ca, z, ho, hz⟩
    · cases h
  · cases h
 have hno : ∀ (s : St) (o : Oper) (q : List D × List (List D) × List (Option Row)), (∃ ca z, o.op = .call ca ∧ ca.callee = .value z) → (k = 0 ∨ k = 1 ∨ k = 3) → ∀ E, zaT E M first k s o = none := by
  rintro s o q ⟨ca, z, ho, hz⟩ hk E
  rcases hk with rfl | rfl | rfl
  · simp only [zaT, ze7, ho, zgA, hz]
  · simp only [zaT, ze1, ho]
  · simp only [zaT, zfR, ho]
 have hev : ∀ (s : St) (o : Oper) (r : Nat × List D × List (List D) × List (Option Row)), zdq E s o = some r → ∀ E', E'.mode = E.mode → (∀ zs ts, zaZ E' s.look zs ts = zaZ E s.look zs ts) → evOp E' s.look s.get s.box o.type o.op = none := by
  intro s o r h E' hm ha
  unfold zdq at h
  split at h
  · rename_i ca ho
    split at h
    · rename_i z hz
      split at h
      · rename_i f cap hf
        split at h
        · cases h
        · rename_i hdead
          rw [ho]
          simp only [evOp, hz, hf]
          cases cap with
          | cons r rs => rfl
          | nil =>
            simp only [List.isEmpty_nil, Bool.true_and] at hdead
            simp only [zea, hm, ha]
            cases hzz : zcS (E.mode f) with
            | false => rfl
            | true =>
              rw [hzz, Bool.true_and] at hdead
              cases hv : zgf s.get (zaZ E s.look ca.args.toList ca.argTypes.toList) with
              | none => rfl
              | some r => rw [hv] at hdead; cases hdead
      · cases h
    · cases h
  · cases h
 have hpure : ∀ s o n d, evOp E s.look s.get s.box o.type o.op = some (.pure d) → o.dst = some n → zjh M k o = true → zaT E M first k s o = some (s.put n d) := by
  intro s o n d h hd hpu
  match k, hpu with
  | 0, hpu =>
    have hpu : zgA o.op = true := hpu
    simp only [zaT, ze7, hpu, hd, h]
  | 1, hpu =>
    have hpu : (zmP o.op && M.isNone) = true := hpu
    simp only [Bool.and_eq_true, Option.isNone_iff_eq_none] at hpu
    obtain ⟨h1, rfl⟩ := hpu
    unfold zmP at h1
    split at h1
    · rename_i t x ho
      rw [ho] at h
      simp only [evOp, Option.bind_eq_some_iff, Option.map_eq_some_iff] at h
      obtain ⟨i, hi, y, hy, he⟩ := h
      cases he
      simp only [zaT, ze1, ho, hd, hi, Option.bind_some, hy, Option.map_some]
    · cases h1
  | 2, hpu => exact step_ok.pure s o n d h hd rfl
  | m + 4, hpu =>
    have hpu : M.isNone = true := hpu
    simp only [Option.isNone_iff_eq_none] at hpu
    subst hpu
    simp only [zaT, zaB, h, hd, Option.bind_some, St.apply, Option.map_some]
 have hvw : ∀ (s : St) (o : Oper), zjh M k o = true → zel M k s = s := by
  intro s o hpu
  match k, hpu with
  | 0, _ => rfl
  | 1, _ => rfl
  | 2, _ => rfl
  | m + 4, hpu =>
    have hpu : M.isNone = true := hpu
    simp only [Option.isNone_iff_eq_none] at hpu
    subst hpu
    rfl
 refine ⟨hpure, fun s o s' h hk => by rw [Nat.eq_of_beq_eq_true hk]; exact h, hvw, fun s o hk => by rw [Nat.eq_of_beq_eq_true hk]; rfl, fun s o rs f args fl h hpl hfl hc => ?_, fun s o r q h hc s' hr => ?_⟩
 · have hk5 : (k = 0 ∨ k = 1 ∨ k = 3) ∨ k = 2 ∨ ∃ m, k = m + 4 := by
    match k with
    | 0 => exact .inl (.inl rfl)
    | 1 => exact .inl (.inr (.inl rfl))
    | 2 => exact .inr (.inl rfl)
    | 3 => exact .inl (.inr (.inr rfl))
    | m + 4 => exact .inr (.inr ⟨m, rfl⟩)
   rcases hk5 with hk | rfl | ⟨m, rfl⟩
   · rw [hno s o (rs, [], []) (hcall _ _ _ h) hk, hno s o (rs, [], []) (hcall _ _ _ h) hk]
   · exact step_ok.ev s o rs f args fl h hpl hfl hc
   · show zaB E M s o = zaB (E.with (rs, [], [])) M s o
     unfold zaB
     cases M with
     | none =>
       obtain ⟨h1, h2⟩ := zfI (s := s) h hpl hfl hc
       simp only [h1, h2]
     | some M =>
       have h' := step_ok.ev (s.hid M) o rs f args fl h hpl hfl hc
       simp only [h']
 · have hk5 : (k = 0 ∨ k = 1 ∨ k = 3) ∨ k = 2 ∨ ∃ m, k = m + 4 := by
    match k with
    | 0 => exact .inl (.inl rfl)
    | 1 => exact .inl (.inr (.inl rfl))
    | 2 => exact .inr (.inl rfl)
    | 3 => exact .inl (.inr (.inr rfl))
    | m + 4 => exact .inr (.inr ⟨m, rfl⟩)
   rcases hk5 with hk | rfl | ⟨m, rfl⟩
   · rw [hno s o q (hcall2 _ _ _ h) hk] at hr
     cases hr
   · exact step_ok.go s o r q h hc s' hr
   · have hr' : zaB (E.with q) M s o = some s' := hr
     show zaB E M s o = some s'
     unfold zaB at hr' ⊢
     cases M with
     | none =>
       simp only at hr'
       rw [hev s o r h (E.with q) rfl (fun zs ts => zdb zs ts)] at hr'
       cases hr'
     | some M =>
       have h' := zfd (s := s.hid M) h hc
       simp only [h']
       exact hr'
theorem zbj {α β : Type} {run : Env → St → Oper → Option St} {view : St → St} {pu ap : Oper → Bool} (hrun : RunOK E run view pu ap) {s : St} {o : Oper} {k : St → Option (List Prop × α)} {q : List Prop × α} {k' : St → Option β} {b : β}
 (h : hop E hs run view pu ap s o k = some q) (hq : Obs q.1) (hk : ∀ s ps, k s = some (ps, q.2) → Obs ps → k' s = some b) : (run E s o).bind k' = some b := by
 unfold hop at h
 split at h
 · obtain ⟨ps, h1, h2⟩ := zaR h
   rw [h2] at hq
   rw [hq.1]
   exact hk _ ps h1 hq.2
 · obtain ⟨ps, h1, h2⟩ := zaR h
   rw [h2] at hq
   rw [hq.1]
   exact hk _ ps h1 hq.2
 · split at h
   · rename_i p d hask
     split at h
     · rename_i n hdn hpu
       obtain ⟨ps, h1, h2⟩ := zaR h
       rw [h2] at hq
       rw [hrun.pure s o _ _ (zfH hask hq.1) hdn hpu]
       exact hk _ ps h1 hq.2
     · cases h
   · split at h
     · rename_i p s' hask hap
       obtain ⟨ps, h1, h2⟩ := zaR h
       rw [h2] at hq
       rw [hrun.app s o _ (zjF hask hq.1) hap]
       exact hk _ ps h1 hq.2
     · cases h
 · split at h
   · rename_i p d hask
     split at h
     · rename_i n hdn hpu
       obtain ⟨ps, h1, h2⟩ := zaR h
       rw [h2] at hq
       rw [hrun.pure s o _ _ (zfH hask hq.1) hdn hpu]
       exact hk _ ps h1 hq.2
     · cases h
   · split at h
     · rename_i p s' hask hap
       obtain ⟨ps, h1, h2⟩ := zaR h
       rw [h2] at hq
       rw [hrun.app s o _ (zhI hask hq.1) hap]
       exact hk _ ps h1 hq.2
     · cases h
 · rename_i rs hhint
   split at h
   · rename_i f args fl hpl hcv
     have hkey : ∃ ps, hadd (E.call f args [] [] = some (rs, [], [])) (match pu o, o.dst with | true, some n => k (s.put n (retD rs)) | _, _ => (run (E.with (rs, [], [])) s o).bind k) = some (ps, q.2) ∧ Obs ps ∧ (fl = true → D.cleans rs = true) := by
      cases fl with
      | false => exact ⟨q.1, h, hq, fun e => by cases e⟩
      | true =>
        obtain ⟨ps, h1, h2⟩ := zaR h
        rw [h2] at hq
        exact ⟨ps, h1, hq.2, fun _ => hq.1⟩
     obtain ⟨ps0, h0, hq0, hfl⟩ := hkey
     obtain ⟨ps, h1, h2⟩ := zaR h0
     simp only at h2
     rw [h2] at hq0
     split at h1
     · rename_i n hpu hdn
       have hv := hrun.vw s o hpu
       rw [hv] at hcv
       rw [hrun.pure s o _ _ (zfI hcv hpl hfl hq0.1).1 hdn hpu]
       exact hk _ ps h1 hq0.2
     · rw [hrun.ev s o _ _ _ _ hcv hpl hfl hq0.1]
       simp only [Option.bind_eq_some_iff] at h1
       obtain ⟨s', hr, h1⟩ := h1
       rw [hr]
       exact hk s' ps h1 hq0.2
   · cases h
 · split at h
   · rename_i f args us ls hcv
     obtain ⟨ps, h1, h2⟩ := zaR h
     rw [h2] at hq
     split at h1
     · rename_i hap
       split at h1
       · rename_i p s' hch
         obtain ⟨ps2, h3, h4⟩ := zaR h1
         simp only at h4
         rw [h4] at hq
         have hv : view s = s := hrun.vw2 s o hap
         rw [hv] at hcv
         rw [hrun.app s o _ (zjN hcv hq.1 hch hq.2.1) hap]
         exact hk s' ps2 h3 hq.2.2
       · cases h1
     · simp only [Option.bind_eq_some_iff] at h1
       obtain ⟨s', hr, h1⟩ := h1
       rw [hrun.go s o _ _ hcv hq.1 s' hr]
       exact hk s' ps h1 hq.2
   · split at h
     · rename_i f args cs hcv hpl hap hkey
       obtain ⟨ps, h1, h2⟩ := zaR h
       rw [h2] at hq
       have hv : view s = s := hrun.vw2 s o hap
       rw [hv] at hcv
       simp only [Option.bind_eq_some_iff] at h1
       obtain ⟨s', hs', h1⟩ := h1
       have hst : step E s o = some s' := by
        unfold step
        rw [zmk hcv hpl hq.1]
        exact hs'
       rw [hrun.app s o s' hst hap]
       exact hk s' ps h1 hq.2
     · cases h
 · cases hr : run E s o with
   | none => rw [hr] at h; cases h
   | some s' => rw [hr] at h; exact hk s' q.1 h hq
theorem zeq : ∀ (l : List Oper) (s : St) (q : List Prop × St), hops E hs ops l s = some q → Obs q.1 → zdZ E ops l s = some q.2
 | [], s, q, h, hq => by cases h; rfl
 | o :: l, s, q, h, hq => by
   unfold hops at h
   unfold zdZ
   exact zeE h hq (fun s ps h1 h2 => zbj step_ok h1 h2 fun s ps h3 h4 => zeq l s (ps, q.2) h3 h4) (fun s ps h1 h2 => zeq l _ (ps, q.2) h1 h2)
theorem zaM {M : Option (List Nat)} : ∀ (l : List PRow) (first : Bool) (s : St) (q : List Prop × St), zeR E hs ops M first l s = some q → Obs q.1 → zaP E ops M first l s = some q.2
 | [], first, s, q, h, hq => by cases h; rfl
 | (i, k, ds) :: l, first, s, q, h, hq => by
   unfold zeR at h
   unfold zaP
   split at h
   · cases h
   · rename_i hj
     simp only [hj]
     split at h
     · cases h
     · rename_i o ho
       simp only [ho]
       refine zeE h hq (fun s ps h1 h2 => ?_) (fun s ps h1 h2 => zaM l _ _ (ps, q.2) h1 h2)
       split at h1
       · split at h1
         · rename_i hgr
           have := zbj (hs := hs) step_ok h1 h2 fun s ps h3 h4 => zaM l _ s (ps, q.2) h3 h4
           simp only [zaI, hgr]
           exact this
         · cases h1
       · exact zbj (hs := hs) (zc8 (M := none) (first := first) (k := 4)) h1 h2 fun s ps h3 h4 => zaM l _ s (ps, q.2) h3 h4
       · exact zbj (hs := hs) (zc8 (M := none) (first := first) (k := 4)) h1 h2 fun s ps h3 h4 => zaM l _ s (ps, q.2) h3 h4
       · exact zbj (hs := hs) (zc8 (M := none) (first := first) (k := 4)) h1 h2 fun s ps h3 h4 => zaM l _ s (ps, q.2) h3 h4
       · split at h1
         · rename_i hcv
           have := zbj (hs := hs) step_ok h1 h2 fun s ps h3 h4 => zaM l _ s (ps, q.2) h3 h4
           simp only [zaI, hcv]
           exact this
         · cases h1
       · split at h1
         · rename_i hcv
           have := zbj (hs := hs) step_ok h1 h2 fun s ps h3 h4 => zaM l _ s (ps, q.2) h3 h4
           simp only [zaI, hcv]
           exact this
         · cases h1
       · split at h1
         · rename_i hcv
           have := zbj (hs := hs) step_ok h1 h2 fun s ps h3 h4 => zaM l _ s (ps, q.2) h3 h4
           simp only [zaI, hcv]
           exact this
         · cases h1
       · rename_i n5 n6 n7 n8 n9 n10 n11
         have e : ∀ s, zaI E M first k s o = zaT E M first k s o := fun s => by
          unfold zaI
          split
          · exact absurd rfl n5
          · exact absurd rfl n6
          · exact absurd rfl n7
          · exact absurd rfl n8
          · exact absurd rfl n9
          · exact absurd rfl n10
          · exact absurd rfl n11
          · rfl
         rw [e]
         exact zbj zc8 h1 h2 fun s ps h3 h4 => zaM l _ s (ps, q.2) h3 h4
theorem zhs {id : Nat} {draw : Bool} {s : St} {q : List Prop × St} (h : zi4 E hs id ops draw s = some q) (hq : Obs q.1) : zck E id ops draw s = some q.2 := by
 unfold zi4 at h
 unfold zck
 cases draw with
 | false => exact zeq _ _ _ h hq
 | true =>
   simp only at h ⊢
   split at h
   · rename_i p hp
     simp only [hp]
     unfold zqg at h
     unfold zjj
     split at h
     · rename_i e
       simp only [e]
       cases h; rfl
     · rename_i i k ds l e
       simp only [e]
       split at h
       · rename_i hn
         simp only [hn]
         exact zaM _ _ _ _ h hq
       · cases h
   · cases h
theorem zgD {r : Option (List Prop × X × St)} {k : X → St → Option (List Prop × X × St)} {q : List Prop × X × St} (h : zos r k = some q) (hq : Obs q.1) : ∃ ps x s qs, r = some (ps, x, s) ∧ k x s = some (qs, q.2) ∧ Obs ps ∧ Obs qs := by
 unfold zos at h
 split at h
 · rename_i ps x s
   split at h
   · rename_i q' hk
     cases h
     obtain ⟨h1, h2⟩ := zgs hq
     exact ⟨ps, x, s, q'.1, rfl, hk, h1, h2⟩
   · cases h
 · cases h
theorem za5 {n : Nat} : ∀ (c : Code) (s : St) (q : List Prop × X × St), zcz E n hs c s = some q → Obs q.1 → exec E n c s = some q.2
 | .skip, s, q, h, hq => by cases h; rfl
 | .region id ops draw, s, q, h, hq => by
   simp only [zcz] at h
   split at h
   · rename_i r hr
     cases h
     simp only [exec]
     rw [zhs hr hq]
     rfl
   · cases h
 | .seq a b, s, q, h, hq => by
   obtain ⟨pq, r⟩ := q
   simp only [zcz] at h
   obtain ⟨ps, x, s1, qs, h1, h2, h3, h4⟩ := zgD h hq
   have := za5 a s _ h1 h3
   simp only [exec, this]
   cases x with
   | normal => exact za5 b s1 (qs, r) h2 h4
   | exit i => cases h2; rfl
   | ret => cases h2; rfl
 | .cond c a b, s, q, h, hq => by
   simp only [zcz] at h
   simp only [exec]
   exact zjm h hq (fun s ps h1 h2 => za5 a s (ps, q.2) h1 h2) (fun s ps h1 h2 => za5 b s (ps, q.2) h1 h2)
 | .block id c, s, q, h, hq => by
   obtain ⟨pq, r⟩ := q
   simp only [zcz] at h
   obtain ⟨ps, x, s1, qs, h1, h2, h3, h4⟩ := zgD h hq
   have := za5 c s _ h1 h3
   simp only [exec, this]
   cases x with
   | normal => cases h2; rfl
   | exit i =>
     simp only at h2 ⊢
     split at h2
     · rename_i hb; simp only [hb]; cases h2; rfl
     · rename_i hb; simp only [hb]; cases h2; rfl
   | ret => cases h2; rfl
 | .loop c, s, q, h, hq => by
   simp only [zcz] at h
   split at h
   · cases h; exact hq.2.1 s ((zjD _ s).trans hq.1)
   · cases h
 | .exit id, s, q, h, hq => by cases h; rfl
 | .ret, s, q, h, hq => by cases h; rfl
 | .label _, s, q, h, hq => by cases h
 | .goto _, s, q, h, hq => by cases h
 | .rangeFunc _ _ _ _, s, q, h, hq => by cases h
 | .scope _, s, q, h, hq => by cases h
 | .refuse _, s, q, h, hq => by cases h
end
end Go.Den
namespace Go.Den
open Go
set_option linter.unusedVariables false
abbrev Res := List D × List (List D) × List (Option Row)
def hrun (C : Cfg) (n : Nat) (call : Nat → List D → List (List D) → List (Option Row) → Option Res) (hs : zcD) (f : Nat) (fn : Func) (args : List D) (u : List (List D)) (l : List (Option Row)) : Option (List Prop × Res) :=
 match fn.body with
 | none => none
 | some c => match zcz ⟨C.ty, C.mode, fn.ntmps, C.live f, C.out f, C.plan f, call⟩ n hs c (start args u l) with
   | some (_, .exit _, _) => none
   | some (ps, _, s) => (zpd C.ty (C.liv f) fn.results.toList u l s).map fun r => (ps, r)
   | none => none
theorem zle {C : Cfg} {n : Nat} {call : Nat → List D → List (List D) → List (Option Row) → Option Res} (hs : zcD) {f : Nat} {fn : Func} {args : List D} {u : List (List D)} {l : List (Option Row)} {q : List Prop × Res} (h : hrun C n call hs f fn args u l = some q) (hq : Obs q.1) : zam C n call f fn args u l = some q.2 := by
 unfold hrun at h
 unfold zam
 split at h
 · cases h
 · rename_i c hc
   rw [hc]
   simp only
   split at h
   · cases h
   · rename_i ps x s hne he
     simp only [Option.map_eq_some_iff] at h
     obtain ⟨r, hr, h⟩ := h
     cases h
     have := za5 _ _ _ he hq
     rw [this]
     cases x with
     | exit i => exact (hne _ rfl).elim
     | normal => simp only [hr]
     | ret => simp only [hr]
   · cases h
theorem zab {C : Cfg} {n : Nat} {call : Nat → List D → List (List D) → List (Option Row) → Option Res} (hs : zcD) {f : Nat} {fn : Func} {args : List D} {u : List (List D)} {l : List (Option Row)} {ps : List Prop} {r : Res} (hq : Obs ps) (h : hrun C n call hs f fn args u l = some (ps, r)) : zam C n call f fn args u l = some r := zle hs h hq
theorem ob0 : Obs [] := trivial
theorem ob {p : Prop} {l : List Prop} (h : p) (hl : Obs l) : Obs (p :: l) := ⟨h, hl⟩
theorem obT {p : Prop} (h : p) : true = true ∧ p := ⟨rfl, h⟩
def zf2 (r : Nat) : Code → Option Code
 | .seq a b => match zf2 r a with | some c => some c | none => zf2 r b
 | .cond _ a b => match zf2 r a with | some c => some c | none => zf2 r b
 | .block _ a => zf2 r a
 | .loop a => match Nat.beq (zaa a) r with | true => some a | false => zf2 r a
 | _ => none
def lp (fn : Func) (r : Nat) : Code := match fn.body with | some c => (zf2 r c).getD .skip | none => .skip
def zae (C : Cfg) (k f : Nat) (fn : Func) : Env := ⟨C.ty, C.mode, fn.ntmps, C.live f, C.out f, C.plan f, den C k⟩
def zaS (C : Cfg) (k f : Nat) (fn : Func) (r : Nat) (s0 : St) (x : X) (s' : St) : Prop := zly (zae C k f fn) k (lp fn r) s0 x s'
section
variable {E : Env} {n m : Nat} {c : Code} {L : List Nat} {s s0 s1 s2 : St} {ps : List Prop} {hs : zcD}
def stOf (r : Option (List Prop × X × St)) : St := match r with | some q => q.2.2 | none => start [] [] []
def znA (r : Option (List Prop × X × St)) : Option (List Prop × X) := match r with | some q => some (q.1, q.2.1) | none => none
def zad (E : Env) (n : Nat) (c : Code) (m : Nat) (s : St) (K : X → St → Prop) : Prop := ∃ x s1, iter (exec E n c) (St.norm (E.live (zaa c))) m s = some (x, s1) ∧ K x (s1.norm (E.out (zaa c)))
theorem zgB {r : Option (List Prop × X × St)} {p : List Prop × X} (h : znA r = some p) : r = some (p.1, p.2, stOf r) := by
 unfold znA at h
 split at h
 · cases h; rfl
 · cases h
theorem zal {K : X → St → Prop} (hs : zcD) (hL : s.norm (E.live (zaa c)) = s0) (h : znA (zcz E n hs c s0) = some (ps, .normal)) (ho : Obs ps) (hst : nmOf (E.live (zaa c)) (stOf (zcz E n hs c s0)) = s2) (hn : ∀ s, s.norm (E.live (zaa c)) = s2 → zad E n c m s K) : zad E n c (m + 1) s K := by
 obtain ⟨x, s1, h1, h2⟩ := hn (stOf (zcz E n hs c s0)) ((zjD _ _).trans hst)
 have := za5 _ _ _ (zgB h) ho
 refine ⟨x, s1, ?_, h2⟩
 simp only [iter, hL, this]
 exact h1
theorem zao {K : X → St → Prop} {x : X} (hs : zcD) (hL : s.norm (E.live (zaa c)) = s0) (h : znA (zcz E n hs c s0) = some (ps, x)) (hx : (match x with | .normal => false | _ => true) = true) (ho : Obs ps) (hst : nmOf (E.out (zaa c)) (stOf (zcz E n hs c s0)) = s2) (hK : K x s2) : zad E n c (m + 1) s K := by
 have := za5 _ _ _ (zgB h) ho
 refine ⟨x, stOf (zcz E n hs c s0), ?_, by rw [zjD, hst]; exact hK⟩
 simp only [iter, hL, this]
 cases x with
 | normal => cases hx
 | _ => rfl
theorem zju {K : X → St → Prop} (h : zad E n c n s K) : ∃ x s', exec E n (.loop c) s = some (x, s') ∧ K x s' := by
 obtain ⟨x, s1, h1, h2⟩ := h
 exact ⟨x, _, by simp only [exec, h1, Option.map_some], h2⟩
theorem zcg {x : X} (h : ∀ s : St, s.norm (E.live (zaa c)) = s0 → zad E n c n s (fun x' s' => x' = x ∧ s' = s1)) : zly E n c s0 x s1 := fun s hL => by
 obtain ⟨x', s', h1, rfl, rfl⟩ := zju (h s hL)
 exact h1
end
end Go.Den
namespace Go.Den
open Go
abbrev I (n : Int) : Dat := .val (.int .i64 n)
abbrev B (b : Bool) : Dat := .val (.bool b)
abbrev S (s : ByteArray) : Dat := .val (.string s)
abbrev U64 (n : Int) : Dat := .val (.int .u64 n)
abbrev Y8 (n : Int) : Dat := .val (.int .u8 n)
abbrev w64 (n : Int) : Int := IntKind.i64.wrap n
abbrev T (k n : Int) (ds : List Dat) : Dat := .agg [I k, I n, .lst false ds]
abbrev N3 (a b c : Int) : Dat := .agg [I a, I b, I c]
end Go.Den
namespace Go.Den
open Go
set_option linter.unusedVariables false
set_option maxRecDepth 100000
theorem zkq {α : Type} {f : Nat} : ∀ {l : List (Nat × α)}, memN f (l.map (·.1)) = false → zdi l f = none
 | [], _ => rfl
 | (a, x) :: l, h => by
   simp only [List.map_cons, memN] at h
   unfold zdi
   split at h
   · cases h
   · rename_i hb
     have hab : Nat.beq a f = false := by
      cases hc : Nat.beq a f with
      | false => rfl
      | true =>
        have := Nat.eq_of_beq_eq_true hc
        subst this
        have hr : Nat.beq a a = true := Nat.beq_refl a
        rw [hr] at hb
        cases hb
     rw [hab]
     exact zkq h
theorem znx : extsOf.map (·.1) = zmi := by rfl
theorem noExt {f : Nat} {fn : Func} (h : cfg.fn f = some fn) (hb : memN f zhx = false) : cfg.ext f = none := by
 unfold cfg at h ⊢
 simp only at h ⊢
 split at h
 · rename_i hbb
   simp only [Bool.and_eq_true, Bool.or_eq_true, Bool.not_eq_true', hb, Bool.false_eq_true, or_false] at hbb
   exact zkq (by rw [znx]; exact hbb.2)
 · cases h
def EvN (N f : Nat) (args : List D) (u : List (List D)) (l : List (Option Row)) (r : Res) : Prop := ∀ k, N ≤ k → den cfg k f args u l = some r
theorem zaO {f : Nat} (fn : Func) {args : List D} {u : List (List D)} {l : List (Option Row)} {r : Res} (N : Nat) (hf : cfg.fn f = some fn) (hl : Nat.ble args.length fn.ntmps = true) (h : ∀ kk, N ≤ kk → zam cfg kk (den cfg kk) f fn args u l = some r) (hb : memN f zhx = false := by kernel_rfl) : EvN (N + 1) f args u l r := fun k hk => by
 obtain ⟨m, rfl⟩ : ∃ m, k = m + 1 := ⟨k - 1, by omega⟩
 simp only [den, noExt hf hb, Option.bind_none, hf, hl]
 exact h m (by omega)
theorem zbn {n : Int} (h : -9223372036854775808 ≤ n ∧ n ≤ 9223372036854775807) : w64 n = n := by show IntKind.i64.wrap n = n; rw [IntKind.wrap_i64]; omega
theorem zeA {E : Env} {kk : Nat} {c : Code} {K : X → St → Prop} (st : Nat → St) (n : Nat)
 (hgo : ∀ i, i < n → ∀ (m : Nat) (s : St), s.norm (E.live (zaa c)) = st i → (∀ s : St, s.norm (E.live (zaa c)) = st (i + 1) → zad E kk c m s K) → zad E kk c (m + 1) s K)
 (hend : ∀ (m : Nat) (s : St), s.norm (E.live (zaa c)) = st n → zad E kk c (m + 1) s K) : ∀ (d i m : Nat), i + d = n → d < m → ∀ s : St, s.norm (E.live (zaa c)) = st i → zad E kk c m s K
 | 0, i, m, hi, hm, s, hs => by
   obtain ⟨m, rfl⟩ : ∃ k, m = k + 1 := ⟨m - 1, by omega⟩
   have : i = n := by omega
   subst this
   exact hend m s hs
 | d + 1, i, m, hi, hm, s, hs => by
   obtain ⟨m, rfl⟩ : ∃ k, m = k + 1 := ⟨m - 1, by omega⟩
   exact hgo i (by omega) m s hs fun s' hs' => zeA st n hgo hend d (i + 1) m (by omega) (by omega) s' hs'
theorem zb2 {kk f : Nat} {fn : Func} {r : Nat} {x : X} {s' : St} (st : Nat → St) (n : Nat) (hk : n < kk)
 (hgo : ∀ i, i < n → ∀ (m : Nat) (s : St) (K : X → St → Prop), s.norm ((zae cfg kk f fn).live (zaa (lp fn r))) = st i → (∀ s : St, s.norm ((zae cfg kk f fn).live (zaa (lp fn r))) = st (i + 1) → zad (zae cfg kk f fn) kk (lp fn r) m s K) → zad (zae cfg kk f fn) kk (lp fn r) (m + 1) s K)
 (hend : ∀ (m : Nat) (s : St) (K : X → St → Prop), s.norm ((zae cfg kk f fn).live (zaa (lp fn r))) = st n → K x s' → zad (zae cfg kk f fn) kk (lp fn r) (m + 1) s K) {s0 : St} (h0 : s0 = st 0) : zaS cfg kk f fn r s0 x s' :=
 zcg fun s hs => zeA st n (fun i hi m s hs hn => hgo i hi m s _ hs hn) (fun m s hs => hend m s _ hs ⟨rfl, rfl⟩) n 0 kk (by omega) hk s (by rw [hs, h0])
theorem zp1 {n : Nat} {d : Dat} {i : TI} {k : IntKind} (h : WT cfg.ty n d) (ht : cfg.ty n = some i) (hk : i.kind = .int k) : ∃ x : Int, d = .val (.int k x) ∧ (Lit.int k x).wf = true := by
 cases h with
 | @int _ i' k' x ht' hk' hw => rw [ht] at ht'; cases ht'; rw [hk] at hk'; cases hk'; exact ⟨x, rfl, hw⟩
 | bool ht' hk' => rw [ht] at ht'; cases ht'; rw [hk] at hk'; cases hk'
 | str ht' hk' => rw [ht] at ht'; cases ht'; rw [hk] at hk'; cases hk'
 | lst ht' hk' => rw [ht] at ht'; cases ht'; rw [hk] at hk'; cases hk'
 | agg ht' hk' => rw [ht] at ht'; cases ht'; rw [hk] at hk'; cases hk'
theorem zqK {n e : Nat} {d : Dat} {i : TI} (h : WT cfg.ty n d) (ht : cfg.ty n = some i) (hk : i.kind = .slice e) : ∃ es : List Dat, d = .lst false es ∧ es.length ≤ maxLen ∧ ∀ x ∈ es, WT cfg.ty e x := by
 cases h with
 | int ht' hk' => rw [ht] at ht'; cases ht'; rw [hk] at hk'; cases hk'
 | bool ht' hk' => rw [ht] at ht'; cases ht'; rw [hk] at hk'; cases hk'
 | str ht' hk' => rw [ht] at ht'; cases ht'; rw [hk] at hk'; cases hk'
 | @lst _ i' e' es ht' hk' hl hx => rw [ht] at ht'; cases ht'; rw [hk] at hk'; cases hk'; exact ⟨es, rfl, hl, hx⟩
 | agg ht' hk' => rw [ht] at ht'; cases ht'; rw [hk] at hk'; cases hk'
end Go.Den
namespace Go.Den
open Go
set_option linter.unusedVariables false
set_option maxRecDepth 100000
theorem zpG (kk : Nat) (cs : List Dat) (p u : Int) (x : Int) (h1 : decide (p < (cs.length : Int)) = true) (h2 : (0 ≤ p ∧ p < (cs.length : Int)) ∧ cs[p.toNat]? = some (Dat.val (Value.int IntKind.u8 x))) (h3 : decide (w64 (p + 1) ≤ (cs.length : Int)) = true) : zam cfg kk (den cfg kk) 80 Go.Proofs.Tryd.f80 [.ptr (.up 0) 0] [[.dat (.lst false cs), .dat (I p), .dat (U64 u)]] [] = some ([D.dat (I (w64 x))], [[D.dat (Dat.lst false cs), D.dat (I (w64 (p + 1))), D.dat (Dat.val (Value.int IntKind.u64 (IntKind.u64.wrap (IntKind.u64.wrap (IntKind.u64.wrap (u * 6364136223846793005) + IntKind.u64.wrap (w64 x)) + 1442695040888963407))))]], []) :=
 zab [(200013, .yes), (22, .at (Y8 x)), (200053, .yes)] (ob h1 (ob h2 (ob h3 ob0))) (by kernel_rfl)
theorem znr (kk : Nat) (cs : List Dat) (p u : Int) (h1 : decide (p < (cs.length : Int)) = false) (h2 : decide (w64 (p + 1) ≤ (cs.length : Int)) = false) : zam cfg kk (den cfg kk) 80 Go.Proofs.Tryd.f80 [.ptr (.up 0) 0] [[.dat (.lst false cs), .dat (I p), .dat (U64 u)]] [] = some ([D.dat (Dat.val (Value.int IntKind.i64 (w64 (IntKind.u64.wrap ((BitVec.ofInt IntKind.u64.bits ((IntKind.u64.wrap (IntKind.u64.wrap (IntKind.u64.wrap (u * 6364136223846793005) + IntKind.u64.wrap 0) + 1442695040888963407)).fdiv (2 ^ min (Int.toNat 40) IntKind.u64.bits)) &&& BitVec.ofInt IntKind.u64.bits 255).toNat : Int)))))], [[D.dat (Dat.lst false cs), D.dat (I (w64 (p + 1))), D.dat (Dat.val (Value.int IntKind.u64 (IntKind.u64.wrap (IntKind.u64.wrap (IntKind.u64.wrap (u * 6364136223846793005) + IntKind.u64.wrap 0) + 1442695040888963407))))]], []) :=
 zab [(200013, .no), (200053, .no)] (ob h1 (ob h2 ob0)) (by kernel_rfl)
theorem zqo (kk : Nat) (cs : List Dat) (p u : Int) (n : Int) (h1 : decide (n ≤ 1) = true) : zam cfg kk (den cfg kk) 54 Go.Proofs.Tryd.f54 [.ptr (.up 0) 0, .dat (I n)] [[.dat (.lst false cs), .dat (I p), .dat (U64 u)]] [] = some ([D.dat (I 0)], [[D.dat (Dat.lst false cs), D.dat (I p), D.dat (Dat.val (Value.int IntKind.u64 u))]], []) :=
 zab [(200007, .yes)] (ob h1 ob0) (by kernel_rfl)
theorem zqy (kk : Nat) (cs : List Dat) (p u : Int) (p1 u1 : Int) (n z : Int) (h1 : decide (n ≤ 1) = false) (h2 : den cfg kk 80 [D.ptr (Ref.up 0) 0] [[D.dat (Dat.lst false cs), D.dat (I p), D.dat (Dat.val (Value.int IntKind.u64 u))]] [] = some ([D.dat (I z)], [[D.dat (Dat.lst false cs), D.dat (I p1), D.dat (Dat.val (Value.int IntKind.u64 u1))]], [])) (h4 : decide (200 < n) = false) (h5 : n ≠ 0) : zam cfg kk (den cfg kk) 54 Go.Proofs.Tryd.f54 [.ptr (.up 0) 0, .dat (I n)] [[.dat (.lst false cs), .dat (I p), .dat (U64 u)]] [] = some ([D.dat (I (z.tmod n))], [[D.dat (Dat.lst false cs), D.dat (I p1), D.dat (Dat.val (Value.int IntKind.u64 u1))]], []) :=
 zab [(200007, .no), (9, .back [.dat (I z)] [[.dat (.lst false cs), .dat (I p1), .dat (U64 u1)]] []), (200011, .no), (19, .ok)] (ob h1 (ob h2 (ob (rfl : false = false) (ob h4 (ob h5 ob0))))) (by kernel_rfl)
theorem zqz (kk : Nat) (cs : List Dat) (p u : Int) (p1 u1 : Int) (p2 u2 : Int) (n z w : Int) (h1 : decide (n ≤ 1) = false) (h2 : den cfg kk 80 [D.ptr (Ref.up 0) 0] [[D.dat (Dat.lst false cs), D.dat (I p), D.dat (Dat.val (Value.int IntKind.u64 u))]] [] = some ([D.dat (I z)], [[D.dat (Dat.lst false cs), D.dat (I p1), D.dat (Dat.val (Value.int IntKind.u64 u1))]], [])) (h4 : decide (200 < n) = true) (h5 : den cfg kk 80 [D.ptr (Ref.up 0) 0] [[D.dat (Dat.lst false cs), D.dat (I p1), D.dat (Dat.val (Value.int IntKind.u64 u1))]] [] = some ([D.dat (I w)], [[D.dat (Dat.lst false cs), D.dat (I p2), D.dat (Dat.val (Value.int IntKind.u64 u2))]], [])) (h7 : n ≠ 0) : zam cfg kk (den cfg kk) 54 Go.Proofs.Tryd.f54 [.ptr (.up 0) 0, .dat (I n)] [[.dat (.lst false cs), .dat (I p), .dat (U64 u)]] [] = some ([D.dat (Dat.val (Value.int IntKind.i64 ((w64 (w64 (z * 256) + w)).tmod n)))], [[D.dat (Dat.lst false cs), D.dat (I p2), D.dat (Dat.val (Value.int IntKind.u64 u2))]], []) :=
 zab [(200007, .no), (9, .back [.dat (I z)] [[.dat (.lst false cs), .dat (I p1), .dat (U64 u1)]] []), (200011, .yes), (15, .back [.dat (I w)] [[.dat (.lst false cs), .dat (I p2), .dat (U64 u2)]] []), (19, .ok)] (ob h1 (ob h2 (ob (rfl : false = false) (ob h4 (ob h5 (ob (rfl : false = false) (ob h7 ob0))))))) (by kernel_rfl)
theorem one_ (kk : Nat) (cs : List Dat) (p u : Int) (p1 u1 : Int) (n z : Int) (h1 : den cfg kk 54 [D.ptr (Ref.up 0) 0, D.dat (I n)] [[D.dat (Dat.lst false cs), D.dat (I p), D.dat (Dat.val (Value.int IntKind.u64 u))]] [] = some ([D.dat (I z)], [[D.dat (Dat.lst false cs), D.dat (I p1), D.dat (Dat.val (Value.int IntKind.u64 u1))]], [])) : zam cfg kk (den cfg kk) 55 Go.Proofs.Tryd.f55 [.ptr (.up 0) 0, .dat (I n)] [[.dat (.lst false cs), .dat (I p), .dat (U64 u)]] [] = some ([D.dat (B (decide (z = 0)))], [[D.dat (Dat.lst false cs), D.dat (I p1), D.dat (Dat.val (Value.int IntKind.u64 u1))]], []) :=
 zab [(7, .back [.dat (I z)] [[.dat (.lst false cs), .dat (I p1), .dat (U64 u1)]] [])] (ob h1 (ob (rfl : false = false) ob0)) (by kernel_rfl)
theorem among (kk : Nat) (cs : List Dat) (p u : Int) (p1 u1 : Int) (b : Bool) (es : List Dat) (z v : Int) (h1 : den cfg kk 54 [D.ptr (Ref.up 0) 0, D.dat (I (es.length : Int))] [[D.dat (Dat.lst false cs), D.dat (I p), D.dat (Dat.val (Value.int IntKind.u64 u))]] [] = some ([D.dat (I z)], [[D.dat (Dat.lst false cs), D.dat (I p1), D.dat (Dat.val (Value.int IntKind.u64 u1))]], [])) (h3 : (0 ≤ z ∧ z < (es.length : Int)) ∧ es[z.toNat]? = some (I v)) : zam cfg kk (den cfg kk) 69 Go.Proofs.Tryd.f69 [.ptr (.up 0) 0, .dat (Dat.lst b es)] [[.dat (.lst false cs), .dat (I p), .dat (U64 u)]] [] = some ([D.dat (I v)], [[D.dat (Dat.lst false cs), D.dat (I p1), D.dat (Dat.val (Value.int IntKind.u64 u1))]], []) :=
 zab [(9, .back [.dat (I z)] [[.dat (.lst false cs), .dat (I p1), .dat (U64 u1)]] []), (10, .at (I v))] (ob h1 (ob (rfl : false = false) (ob h3 ob0))) (by kernel_rfl)
def hd70 (cs : List Dat) (out : List Dat) (n p u i : Int) : St := Nm [0, 3, 4, 5] [.ptr (.up 0) 0, .own 72 out, .dat (I n), .dat (I i)] [none, none, none, none] [[.dat (.lst false cs), .dat (I p), .dat (U64 u)]] []
theorem zhn (kk m : Nat) {s : St} {K : X → St → Prop} (cs : List Dat) (out : List Dat) (n i k a b k2 a2 b2 : Int) (g : Bool) (p u : Int) (p1 u1 : Int) (p2 u2 : Int) (p3 u3 : Int) (p4 u4 : Int) (p5 u5 : Int) (p6 u6 : Int) (p7 u7 : Int) (hs : s.norm ((zae cfg kk 70 Go.Proofs.Tryd.f70).live (zaa (lp Go.Proofs.Tryd.f70 6))) = hd70 cs out n p u i) (q1 : (decide (i < n) = true) → (g = true) → (den cfg kk 69 [D.ptr (Ref.up 0) 0, D.dat (Dat.lst true [I 1, I 1, I 2, I 2, I 2, I 3, I 4, I 5, I 5, I 6, I 6, I 7, I 8, I 9])] [[D.dat (Dat.lst false cs), D.dat (I p), D.dat (Dat.val (Value.int IntKind.u64 u))]] [] = some ([D.dat (I k)], [[D.dat (Dat.lst false cs), D.dat (I p1), D.dat (Dat.val (Value.int IntKind.u64 u1))]], [])) ∧ ((true && !(true && (true && zav [[D.dat (Dat.lst false cs), D.dat (I p1), D.dat (Dat.val (Value.int IntKind.u64 u1))]])) || false) = false) ∧ (den cfg kk 54 [D.ptr (Ref.up 0) 0, D.dat (I 6)] [[D.dat (Dat.lst false cs), D.dat (I p1), D.dat (Dat.val (Value.int IntKind.u64 u1))]] [] = some ([D.dat (I a)], [[D.dat (Dat.lst false cs), D.dat (I p2), D.dat (Dat.val (Value.int IntKind.u64 u2))]], [])) ∧ (den cfg kk 54 [D.ptr (Ref.up 0) 0, D.dat (I 6)] [[D.dat (Dat.lst false cs), D.dat (I p2), D.dat (Dat.val (Value.int IntKind.u64 u2))]] [] = some ([D.dat (I b)], [[D.dat (Dat.lst false cs), D.dat (I p3), D.dat (Dat.val (Value.int IntKind.u64 u3))]], [])) ∧ (den cfg kk 55 [D.ptr (Ref.up 0) 0, D.dat (I 40)] [[D.dat (Dat.lst false cs), D.dat (I p3), D.dat (Dat.val (Value.int IntKind.u64 u3))]] [] = some ([D.dat (B g)], [[D.dat (Dat.lst false cs), D.dat (I p4), D.dat (Dat.val (Value.int IntKind.u64 u4))]], [])) ∧ (den cfg kk 54 [D.ptr (Ref.up 0) 0, D.dat (I 12)] [[D.dat (Dat.lst false cs), D.dat (I p4), D.dat (Dat.val (Value.int IntKind.u64 u4))]] [] = some ([D.dat (I k2)], [[D.dat (Dat.lst false cs), D.dat (I p5), D.dat (Dat.val (Value.int IntKind.u64 u5))]], [])) ∧ (den cfg kk 69 [D.ptr (Ref.up 0) 0, D.dat (Dat.lst true [I (-1), I 60, I 5])] [[D.dat (Dat.lst false cs), D.dat (I p5), D.dat (Dat.val (Value.int IntKind.u64 u5))]] [] = some ([D.dat (I a2)], [[D.dat (Dat.lst false cs), D.dat (I p6), D.dat (Dat.val (Value.int IntKind.u64 u6))]], [])) ∧ ((true && !(true && (true && zav [[D.dat (Dat.lst false cs), D.dat (I p6), D.dat (Dat.val (Value.int IntKind.u64 u6))]])) || false) = false) ∧ (den cfg kk 54 [D.ptr (Ref.up 0) 0, D.dat (I 3)] [[D.dat (Dat.lst false cs), D.dat (I p6), D.dat (Dat.val (Value.int IntKind.u64 u6))]] [] = some ([D.dat (I b2)], [[D.dat (Dat.lst false cs), D.dat (I p7), D.dat (Dat.val (Value.int IntKind.u64 u7))]], [])) ∧ (out.length + 1 ≤ 2147483648) ∧ (∀ s : St, s.norm ((zae cfg kk 70 Go.Proofs.Tryd.f70).live (zaa (lp Go.Proofs.Tryd.f70 6))) = Nm [0, 3, 4, 5] [D.ptr (Ref.up 0) 0, D.own 72 (out ++ [N3 k2 a2 b2]), D.dat (I n), D.dat (I (w64 (i + 1)))] [none, none, none, none] [[D.dat (Dat.lst false cs), D.dat (I p7), D.dat (Dat.val (Value.int IntKind.u64 u7))]] [] → zad (zae cfg kk 70 Go.Proofs.Tryd.f70) kk (lp Go.Proofs.Tryd.f70 6) m s K)) (q2 : (decide (i < n) = true) → (g = false) → (den cfg kk 69 [D.ptr (Ref.up 0) 0, D.dat (Dat.lst true [I 1, I 1, I 2, I 2, I 2, I 3, I 4, I 5, I 5, I 6, I 6, I 7, I 8, I 9])] [[D.dat (Dat.lst false cs), D.dat (I p), D.dat (Dat.val (Value.int IntKind.u64 u))]] [] = some ([D.dat (I k)], [[D.dat (Dat.lst false cs), D.dat (I p1), D.dat (Dat.val (Value.int IntKind.u64 u1))]], [])) ∧ ((true && !(true && (true && zav [[D.dat (Dat.lst false cs), D.dat (I p1), D.dat (Dat.val (Value.int IntKind.u64 u1))]])) || false) = false) ∧ (den cfg kk 54 [D.ptr (Ref.up 0) 0, D.dat (I 6)] [[D.dat (Dat.lst false cs), D.dat (I p1), D.dat (Dat.val (Value.int IntKind.u64 u1))]] [] = some ([D.dat (I a)], [[D.dat (Dat.lst false cs), D.dat (I p2), D.dat (Dat.val (Value.int IntKind.u64 u2))]], [])) ∧ (den cfg kk 54 [D.ptr (Ref.up 0) 0, D.dat (I 6)] [[D.dat (Dat.lst false cs), D.dat (I p2), D.dat (Dat.val (Value.int IntKind.u64 u2))]] [] = some ([D.dat (I b)], [[D.dat (Dat.lst false cs), D.dat (I p3), D.dat (Dat.val (Value.int IntKind.u64 u3))]], [])) ∧ (den cfg kk 55 [D.ptr (Ref.up 0) 0, D.dat (I 40)] [[D.dat (Dat.lst false cs), D.dat (I p3), D.dat (Dat.val (Value.int IntKind.u64 u3))]] [] = some ([D.dat (B g)], [[D.dat (Dat.lst false cs), D.dat (I p4), D.dat (Dat.val (Value.int IntKind.u64 u4))]], [])) ∧ (out.length + 1 ≤ 2147483648) ∧ (∀ s : St, s.norm ((zae cfg kk 70 Go.Proofs.Tryd.f70).live (zaa (lp Go.Proofs.Tryd.f70 6))) = Nm [0, 3, 4, 5] [D.ptr (Ref.up 0) 0, D.own 72 (out ++ [N3 k a b]), D.dat (I n), D.dat (I (w64 (i + 1)))] [none, none, none, none] [[D.dat (Dat.lst false cs), D.dat (I p4), D.dat (Dat.val (Value.int IntKind.u64 u4))]] [] → zad (zae cfg kk 70 Go.Proofs.Tryd.f70) kk (lp Go.Proofs.Tryd.f70 6) m s K)) (q3 : (decide (i < n) = false) → K (X.exit 0) (Nm [0, 3] [D.ptr (Ref.up 0) 0, D.own 72 out] [none, none] [[D.dat (Dat.lst false cs), D.dat (I p), D.dat (Dat.val (Value.int IntKind.u64 u))]] [])) : zad (zae cfg kk 70 Go.Proofs.Tryd.f70) kk (lp Go.Proofs.Tryd.f70 6) (m + 1) s K := by
 rcases Bool.eq_false_or_eq_true (decide (i < n)) with d1 | d1
 · rcases Bool.eq_false_or_eq_true (g) with d10 | d10
   · obtain ⟨hz1, hz2, hz3, hz4, hz5, hz6, hz7, hz8, hz9, hz10, oz⟩ := q1 d1 d10
     exact zal [(21, .back [.dat (I k)] [[.dat (.lst false cs), .dat (I p1), .dat (U64 u1)]] []), (23, .back [.dat (I a)] [[.dat (.lst false cs), .dat (I p2), .dat (U64 u2)]] []), (25, .back [.dat (I b)] [[.dat (.lst false cs), .dat (I p3), .dat (U64 u3)]] []), (28, .back [.dat (B g)] [[.dat (.lst false cs), .dat (I p4), .dat (U64 u4)]] []), (30, .back [.dat (I k2)] [[.dat (.lst false cs), .dat (I p5), .dat (U64 u5)]] []), (33, .back [.dat (I a2)] [[.dat (.lst false cs), .dat (I p6), .dat (U64 u6)]] []), (35, .back [.dat (I b2)] [[.dat (.lst false cs), .dat (I p7), .dat (U64 u7)]] []), (40, .ok), (200016, .yes), (200028, .yes)] hs (by kernel_rfl) (ob d1 (ob hz1 (ob hz2 (ob hz3 (ob (rfl : false = false) (ob hz4 (ob (rfl : false = false) (ob hz5 (ob (rfl : false = false) (ob d10 (ob hz6 (ob (rfl : false = false) (ob hz7 (ob hz8 (ob hz9 (ob (rfl : false = false) (ob (obT hz10) ob0))))))))))))))))) (by kernel_rfl) oz
   · obtain ⟨hz1, hz2, hz3, hz4, hz5, hz6, oz⟩ := q2 d1 d10
     exact zal [(21, .back [.dat (I k)] [[.dat (.lst false cs), .dat (I p1), .dat (U64 u1)]] []), (23, .back [.dat (I a)] [[.dat (.lst false cs), .dat (I p2), .dat (U64 u2)]] []), (25, .back [.dat (I b)] [[.dat (.lst false cs), .dat (I p3), .dat (U64 u3)]] []), (28, .back [.dat (B g)] [[.dat (.lst false cs), .dat (I p4), .dat (U64 u4)]] []), (30, .back [.dat (I k2)] [[.dat (.lst false cs), .dat (I p5), .dat (U64 u5)]] []), (33, .back [.dat (I a2)] [[.dat (.lst false cs), .dat (I p6), .dat (U64 u6)]] []), (35, .back [.dat (I b2)] [[.dat (.lst false cs), .dat (I p7), .dat (U64 u7)]] []), (40, .ok), (200016, .yes), (200028, .no)] hs (by kernel_rfl) (ob d1 (ob hz1 (ob hz2 (ob hz3 (ob (rfl : false = false) (ob hz4 (ob (rfl : false = false) (ob hz5 (ob (rfl : false = false) (ob d10 (ob (obT hz6) ob0))))))))))) (by kernel_rfl) oz
 · have oz := q3 d1
   exact zao [(21, .back [.dat (I k)] [[.dat (.lst false cs), .dat (I p1), .dat (U64 u1)]] []), (23, .back [.dat (I a)] [[.dat (.lst false cs), .dat (I p2), .dat (U64 u2)]] []), (25, .back [.dat (I b)] [[.dat (.lst false cs), .dat (I p3), .dat (U64 u3)]] []), (28, .back [.dat (B g)] [[.dat (.lst false cs), .dat (I p4), .dat (U64 u4)]] []), (30, .back [.dat (I k2)] [[.dat (.lst false cs), .dat (I p5), .dat (U64 u5)]] []), (33, .back [.dat (I a2)] [[.dat (.lst false cs), .dat (I p6), .dat (U64 u6)]] []), (35, .back [.dat (I b2)] [[.dat (.lst false cs), .dat (I p7), .dat (U64 u7)]] []), (40, .ok), (200016, .no)] hs (by kernel_rfl) rfl (ob d1 ob0) (by kernel_rfl) oz
theorem zqC (kk : Nat) (cs : List Dat) (out : List Dat) (z z12 n : Int) (g g42 : Bool) (p u : Int) (p1 u1 : Int) (p2 u2 : Int) (p3 u3 : Int) (p4 u4 : Int) (p5 u5 : Int) (p6 u6 : Int) {r : Res} (q1 : (g = true) → (g42 = true) → (den cfg kk 54 [D.ptr (Ref.up 0) 0, D.dat (I 40)] [[D.dat (Dat.lst false cs), D.dat (I p), D.dat (Dat.val (Value.int IntKind.u64 u))]] [] = some ([D.dat (I z)], [[D.dat (Dat.lst false cs), D.dat (I p1), D.dat (Dat.val (Value.int IntKind.u64 u1))]], [])) ∧ (den cfg kk 55 [D.ptr (Ref.up 0) 0, D.dat (I 8)] [[D.dat (Dat.lst false cs), D.dat (I p1), D.dat (Dat.val (Value.int IntKind.u64 u1))]] [] = some ([D.dat (B g)], [[D.dat (Dat.lst false cs), D.dat (I p2), D.dat (Dat.val (Value.int IntKind.u64 u2))]], [])) ∧ (den cfg kk 54 [D.ptr (Ref.up 0) 0, D.dat (I 61)] [[D.dat (Dat.lst false cs), D.dat (I p2), D.dat (Dat.val (Value.int IntKind.u64 u2))]] [] = some ([D.dat (I z12)], [[D.dat (Dat.lst false cs), D.dat (I p3), D.dat (Dat.val (Value.int IntKind.u64 u3))]], [])) ∧ (Nm [0, 3, 4, 5] [D.ptr (Ref.up 0) 0, D.own 72 [], D.dat (I (w64 (90 + z12))), D.dat (I 0)] [none, none, none, none] [[D.dat (Dat.lst false cs), D.dat (I p3), D.dat (Dat.val (Value.int IntKind.u64 u3))]] [] = hd70 cs [] n p4 u4 0) ∧ (zaS cfg kk 70 Go.Proofs.Tryd.f70 6 (hd70 cs [] n p4 u4 0) (X.exit 0) (Nm [0, 3] [D.ptr (Ref.up 0) 0, D.own 72 out] [none, none] [[D.dat (Dat.lst false cs), D.dat (I p5), D.dat (Dat.val (Value.int IntKind.u64 u5))]] [])) ∧ (den cfg kk 55 [D.ptr (Ref.up 0) 0, D.dat (I 60)] [[D.dat (Dat.lst false cs), D.dat (I p5), D.dat (Dat.val (Value.int IntKind.u64 u5))]] [] = some ([D.dat (B g42)], [[D.dat (Dat.lst false cs), D.dat (I p6), D.dat (Dat.val (Value.int IntKind.u64 u6))]], [])) ∧ (out.length + 150 ≤ 2147483648) ∧ r = ([D.own 72 (out ++ [N3 0 0 0, N3 0 0 0, N3 0 0 0, N3 0 0 0, N3 0 0 0, N3 0 0 0, N3 0 0 0, N3 0 0 0, N3 0 0 0, N3 0 0 0, N3 0 0 0, N3 0 0 0, N3 0 0 0, N3 0 0 0, N3 0 0 0, N3 0 0 0, N3 0 0 0, N3 0 0 0, N3 0 0 0, N3 0 0 0, N3 0 0 0, N3 0 0 0, N3 0 0 0, N3 0 0 0, N3 0 0 0, N3 0 0 0, N3 0 0 0, N3 0 0 0, N3 0 0 0, N3 0 0 0, N3 0 0 0, N3 0 0 0, N3 0 0 0, N3 0 0 0, N3 0 0 0, N3 0 0 0, N3 0 0 0, N3 0 0 0, N3 0 0 0, N3 0 0 0, N3 0 0 0, N3 0 0 0, N3 0 0 0, N3 0 0 0, N3 0 0 0, N3 0 0 0, N3 0 0 0, N3 0 0 0, N3 0 0 0, N3 0 0 0, N3 0 0 0, N3 0 0 0, N3 0 0 0, N3 0 0 0, N3 0 0 0, N3 0 0 0, N3 0 0 0, N3 0 0 0, N3 0 0 0, N3 0 0 0, N3 0 0 0, N3 0 0 0, N3 0 0 0, N3 0 0 0, N3 0 0 0, N3 0 0 0, N3 0 0 0, N3 0 0 0, N3 0 0 0, N3 0 0 0, N3 0 0 0, N3 0 0 0, N3 0 0 0, N3 0 0 0, N3 0 0 0, N3 0 0 0, N3 0 0 0, N3 0 0 0, N3 0 0 0, N3 0 0 0, N3 0 0 0, N3 0 0 0, N3 0 0 0, N3 0 0 0, N3 0 0 0, N3 0 0 0, N3 0 0 0, N3 0 0 0, N3 0 0 0, N3 0 0 0, N3 0 0 0, N3 0 0 0, N3 0 0 0, N3 0 0 0, N3 0 0 0, N3 0 0 0, N3 0 0 0, N3 0 0 0, N3 0 0 0, N3 0 0 0, N3 0 0 0, N3 0 0 0, N3 0 0 0, N3 0 0 0, N3 0 0 0, N3 0 0 0, N3 0 0 0, N3 0 0 0, N3 0 0 0, N3 0 0 0, N3 0 0 0, N3 0 0 0, N3 0 0 0, N3 0 0 0, N3 0 0 0, N3 0 0 0, N3 0 0 0, N3 0 0 0, N3 0 0 0, N3 0 0 0, N3 0 0 0, N3 0 0 0, N3 0 0 0, N3 0 0 0, N3 0 0 0, N3 0 0 0, N3 0 0 0, N3 0 0 0, N3 0 0 0, N3 0 0 0, N3 0 0 0, N3 0 0 0, N3 0 0 0, N3 0 0 0, N3 0 0 0, N3 0 0 0, N3 0 0 0, N3 0 0 0, N3 0 0 0, N3 0 0 0, N3 0 0 0, N3 0 0 0, N3 0 0 0, N3 0 0 0, N3 0 0 0, N3 0 0 0, N3 0 0 0, N3 0 0 0, N3 0 0 0, N3 0 0 0])], [[D.dat (Dat.lst false cs), D.dat (I p6), D.dat (Dat.val (Value.int IntKind.u64 u6))]], [])) (q2 : (g = true) → (g42 = false) → (den cfg kk 54 [D.ptr (Ref.up 0) 0, D.dat (I 40)] [[D.dat (Dat.lst false cs), D.dat (I p), D.dat (Dat.val (Value.int IntKind.u64 u))]] [] = some ([D.dat (I z)], [[D.dat (Dat.lst false cs), D.dat (I p1), D.dat (Dat.val (Value.int IntKind.u64 u1))]], [])) ∧ (den cfg kk 55 [D.ptr (Ref.up 0) 0, D.dat (I 8)] [[D.dat (Dat.lst false cs), D.dat (I p1), D.dat (Dat.val (Value.int IntKind.u64 u1))]] [] = some ([D.dat (B g)], [[D.dat (Dat.lst false cs), D.dat (I p2), D.dat (Dat.val (Value.int IntKind.u64 u2))]], [])) ∧ (den cfg kk 54 [D.ptr (Ref.up 0) 0, D.dat (I 61)] [[D.dat (Dat.lst false cs), D.dat (I p2), D.dat (Dat.val (Value.int IntKind.u64 u2))]] [] = some ([D.dat (I z12)], [[D.dat (Dat.lst false cs), D.dat (I p3), D.dat (Dat.val (Value.int IntKind.u64 u3))]], [])) ∧ (Nm [0, 3, 4, 5] [D.ptr (Ref.up 0) 0, D.own 72 [], D.dat (I (w64 (90 + z12))), D.dat (I 0)] [none, none, none, none] [[D.dat (Dat.lst false cs), D.dat (I p3), D.dat (Dat.val (Value.int IntKind.u64 u3))]] [] = hd70 cs [] n p4 u4 0) ∧ (zaS cfg kk 70 Go.Proofs.Tryd.f70 6 (hd70 cs [] n p4 u4 0) (X.exit 0) (Nm [0, 3] [D.ptr (Ref.up 0) 0, D.own 72 out] [none, none] [[D.dat (Dat.lst false cs), D.dat (I p5), D.dat (Dat.val (Value.int IntKind.u64 u5))]] [])) ∧ (den cfg kk 55 [D.ptr (Ref.up 0) 0, D.dat (I 60)] [[D.dat (Dat.lst false cs), D.dat (I p5), D.dat (Dat.val (Value.int IntKind.u64 u5))]] [] = some ([D.dat (B g42)], [[D.dat (Dat.lst false cs), D.dat (I p6), D.dat (Dat.val (Value.int IntKind.u64 u6))]], [])) ∧ r = ([D.own 72 out], [[D.dat (Dat.lst false cs), D.dat (I p6), D.dat (Dat.val (Value.int IntKind.u64 u6))]], [])) (q3 : (g = false) → (g42 = true) → (den cfg kk 54 [D.ptr (Ref.up 0) 0, D.dat (I 40)] [[D.dat (Dat.lst false cs), D.dat (I p), D.dat (Dat.val (Value.int IntKind.u64 u))]] [] = some ([D.dat (I z)], [[D.dat (Dat.lst false cs), D.dat (I p1), D.dat (Dat.val (Value.int IntKind.u64 u1))]], [])) ∧ (den cfg kk 55 [D.ptr (Ref.up 0) 0, D.dat (I 8)] [[D.dat (Dat.lst false cs), D.dat (I p1), D.dat (Dat.val (Value.int IntKind.u64 u1))]] [] = some ([D.dat (B g)], [[D.dat (Dat.lst false cs), D.dat (I p2), D.dat (Dat.val (Value.int IntKind.u64 u2))]], [])) ∧ (Nm [0, 3, 4, 5] [D.ptr (Ref.up 0) 0, D.own 72 [], D.dat (I z), D.dat (I 0)] [none, none, none, none] [[D.dat (Dat.lst false cs), D.dat (I p2), D.dat (Dat.val (Value.int IntKind.u64 u2))]] [] = hd70 cs [] n p4 u4 0) ∧ (zaS cfg kk 70 Go.Proofs.Tryd.f70 6 (hd70 cs [] n p4 u4 0) (X.exit 0) (Nm [0, 3] [D.ptr (Ref.up 0) 0, D.own 72 out] [none, none] [[D.dat (Dat.lst false cs), D.dat (I p5), D.dat (Dat.val (Value.int IntKind.u64 u5))]] [])) ∧ (den cfg kk 55 [D.ptr (Ref.up 0) 0, D.dat (I 60)] [[D.dat (Dat.lst false cs), D.dat (I p5), D.dat (Dat.val (Value.int IntKind.u64 u5))]] [] = some ([D.dat (B g42)], [[D.dat (Dat.lst false cs), D.dat (I p6), D.dat (Dat.val (Value.int IntKind.u64 u6))]], [])) ∧ (out.length + 150 ≤ 2147483648) ∧ r = ([D.own 72 (out ++ [N3 0 0 0, N3 0 0 0, N3 0 0 0, N3 0 0 0, N3 0 0 0, N3 0 0 0, N3 0 0 0, N3 0 0 0, N3 0 0 0, N3 0 0 0, N3 0 0 0, N3 0 0 0, N3 0 0 0, N3 0 0 0, N3 0 0 0, N3 0 0 0, N3 0 0 0, N3 0 0 0, N3 0 0 0, N3 0 0 0, N3 0 0 0, N3 0 0 0, N3 0 0 0, N3 0 0 0, N3 0 0 0, N3 0 0 0, N3 0 0 0, N3 0 0 0, N3 0 0 0, N3 0 0 0, N3 0 0 0, N3 0 0 0, N3 0 0 0, N3 0 0 0, N3 0 0 0, N3 0 0 0, N3 0 0 0, N3 0 0 0, N3 0 0 0, N3 0 0 0, N3 0 0 0, N3 0 0 0, N3 0 0 0, N3 0 0 0, N3 0 0 0, N3 0 0 0, N3 0 0 0, N3 0 0 0, N3 0 0 0, N3 0 0 0, N3 0 0 0, N3 0 0 0, N3 0 0 0, N3 0 0 0, N3 0 0 0, N3 0 0 0, N3 0 0 0, N3 0 0 0, N3 0 0 0, N3 0 0 0, N3 0 0 0, N3 0 0 0, N3 0 0 0, N3 0 0 0, N3 0 0 0, N3 0 0 0, N3 0 0 0, N3 0 0 0, N3 0 0 0, N3 0 0 0, N3 0 0 0, N3 0 0 0, N3 0 0 0, N3 0 0 0, N3 0 0 0, N3 0 0 0, N3 0 0 0, N3 0 0 0, N3 0 0 0, N3 0 0 0, N3 0 0 0, N3 0 0 0, N3 0 0 0, N3 0 0 0, N3 0 0 0, N3 0 0 0, N3 0 0 0, N3 0 0 0, N3 0 0 0, N3 0 0 0, N3 0 0 0, N3 0 0 0, N3 0 0 0, N3 0 0 0, N3 0 0 0, N3 0 0 0, N3 0 0 0, N3 0 0 0, N3 0 0 0, N3 0 0 0, N3 0 0 0, N3 0 0 0, N3 0 0 0, N3 0 0 0, N3 0 0 0, N3 0 0 0, N3 0 0 0, N3 0 0 0, N3 0 0 0, N3 0 0 0, N3 0 0 0, N3 0 0 0, N3 0 0 0, N3 0 0 0, N3 0 0 0, N3 0 0 0, N3 0 0 0, N3 0 0 0, N3 0 0 0, N3 0 0 0, N3 0 0 0, N3 0 0 0, N3 0 0 0, N3 0 0 0, N3 0 0 0, N3 0 0 0, N3 0 0 0, N3 0 0 0, N3 0 0 0, N3 0 0 0, N3 0 0 0, N3 0 0 0, N3 0 0 0, N3 0 0 0, N3 0 0 0, N3 0 0 0, N3 0 0 0, N3 0 0 0, N3 0 0 0, N3 0 0 0, N3 0 0 0, N3 0 0 0, N3 0 0 0, N3 0 0 0, N3 0 0 0, N3 0 0 0, N3 0 0 0, N3 0 0 0, N3 0 0 0, N3 0 0 0])], [[D.dat (Dat.lst false cs), D.dat (I p6), D.dat (Dat.val (Value.int IntKind.u64 u6))]], [])) (q4 : (g = false) → (g42 = false) → (den cfg kk 54 [D.ptr (Ref.up 0) 0, D.dat (I 40)] [[D.dat (Dat.lst false cs), D.dat (I p), D.dat (Dat.val (Value.int IntKind.u64 u))]] [] = some ([D.dat (I z)], [[D.dat (Dat.lst false cs), D.dat (I p1), D.dat (Dat.val (Value.int IntKind.u64 u1))]], [])) ∧ (den cfg kk 55 [D.ptr (Ref.up 0) 0, D.dat (I 8)] [[D.dat (Dat.lst false cs), D.dat (I p1), D.dat (Dat.val (Value.int IntKind.u64 u1))]] [] = some ([D.dat (B g)], [[D.dat (Dat.lst false cs), D.dat (I p2), D.dat (Dat.val (Value.int IntKind.u64 u2))]], [])) ∧ (Nm [0, 3, 4, 5] [D.ptr (Ref.up 0) 0, D.own 72 [], D.dat (I z), D.dat (I 0)] [none, none, none, none] [[D.dat (Dat.lst false cs), D.dat (I p2), D.dat (Dat.val (Value.int IntKind.u64 u2))]] [] = hd70 cs [] n p4 u4 0) ∧ (zaS cfg kk 70 Go.Proofs.Tryd.f70 6 (hd70 cs [] n p4 u4 0) (X.exit 0) (Nm [0, 3] [D.ptr (Ref.up 0) 0, D.own 72 out] [none, none] [[D.dat (Dat.lst false cs), D.dat (I p5), D.dat (Dat.val (Value.int IntKind.u64 u5))]] [])) ∧ (den cfg kk 55 [D.ptr (Ref.up 0) 0, D.dat (I 60)] [[D.dat (Dat.lst false cs), D.dat (I p5), D.dat (Dat.val (Value.int IntKind.u64 u5))]] [] = some ([D.dat (B g42)], [[D.dat (Dat.lst false cs), D.dat (I p6), D.dat (Dat.val (Value.int IntKind.u64 u6))]], [])) ∧ r = ([D.own 72 out], [[D.dat (Dat.lst false cs), D.dat (I p6), D.dat (Dat.val (Value.int IntKind.u64 u6))]], [])) : zam cfg kk (den cfg kk) 70 Go.Proofs.Tryd.f70 [.ptr (.up 0) 0] [[.dat (.lst false cs), .dat (I p), .dat (U64 u)]] [] = some r := by
 rcases Bool.eq_false_or_eq_true (g) with d5 | d5
 · rcases Bool.eq_false_or_eq_true (g42) with d12 | d12
   · obtain ⟨hz1, hz2, hz3, hz4, hz5, hz6, hz7, oz⟩ := q1 d5 d12
     subst oz; exact zab [(8, .back [.dat (I z)] [[.dat (.lst false cs), .dat (I p1), .dat (U64 u1)]] []), (10, .back [.dat (B g)] [[.dat (.lst false cs), .dat (I p2), .dat (U64 u2)]] []), (12, .back [.dat (I z12)] [[.dat (.lst false cs), .dat (I p3), .dat (U64 u3)]] []), (300006, .loop (hd70 cs [] n p4 u4 0) (.exit 0) (Nm [0, 3] [.ptr (.up 0) 0, .own 72 out] [none, none] [[.dat (.lst false cs), .dat (I p5), .dat (U64 u5)]] [])), (42, .back [.dat (B g42)] [[.dat (.lst false cs), .dat (I p6), .dat (U64 u6)]] []), (44, .ok), (200010, .yes), (200042, .yes)] (ob hz1 (ob (rfl : false = false) (ob hz2 (ob (rfl : false = false) (ob d5 (ob hz3 (ob (rfl : false = false) (ob hz4 (ob hz5 (ob hz6 (ob (rfl : false = false) (ob d12 (ob hz7 ob0))))))))))))) (by kernel_rfl)
   · obtain ⟨hz1, hz2, hz3, hz4, hz5, hz6, oz⟩ := q2 d5 d12
     subst oz; exact zab [(8, .back [.dat (I z)] [[.dat (.lst false cs), .dat (I p1), .dat (U64 u1)]] []), (10, .back [.dat (B g)] [[.dat (.lst false cs), .dat (I p2), .dat (U64 u2)]] []), (12, .back [.dat (I z12)] [[.dat (.lst false cs), .dat (I p3), .dat (U64 u3)]] []), (300006, .loop (hd70 cs [] n p4 u4 0) (.exit 0) (Nm [0, 3] [.ptr (.up 0) 0, .own 72 out] [none, none] [[.dat (.lst false cs), .dat (I p5), .dat (U64 u5)]] [])), (42, .back [.dat (B g42)] [[.dat (.lst false cs), .dat (I p6), .dat (U64 u6)]] []), (44, .ok), (200010, .yes), (200042, .no)] (ob hz1 (ob (rfl : false = false) (ob hz2 (ob (rfl : false = false) (ob d5 (ob hz3 (ob (rfl : false = false) (ob hz4 (ob hz5 (ob hz6 (ob (rfl : false = false) (ob d12 ob0)))))))))))) (by kernel_rfl)
 · rcases Bool.eq_false_or_eq_true (g42) with d10 | d10
   · obtain ⟨hz1, hz2, hz3, hz4, hz5, hz6, oz⟩ := q3 d5 d10
     subst oz; exact zab [(8, .back [.dat (I z)] [[.dat (.lst false cs), .dat (I p1), .dat (U64 u1)]] []), (10, .back [.dat (B g)] [[.dat (.lst false cs), .dat (I p2), .dat (U64 u2)]] []), (12, .back [.dat (I z12)] [[.dat (.lst false cs), .dat (I p3), .dat (U64 u3)]] []), (300006, .loop (hd70 cs [] n p4 u4 0) (.exit 0) (Nm [0, 3] [.ptr (.up 0) 0, .own 72 out] [none, none] [[.dat (.lst false cs), .dat (I p5), .dat (U64 u5)]] [])), (42, .back [.dat (B g42)] [[.dat (.lst false cs), .dat (I p6), .dat (U64 u6)]] []), (44, .ok), (200010, .no), (200042, .yes)] (ob hz1 (ob (rfl : false = false) (ob hz2 (ob (rfl : false = false) (ob d5 (ob hz3 (ob hz4 (ob hz5 (ob (rfl : false = false) (ob d10 (ob hz6 ob0))))))))))) (by kernel_rfl)
   · obtain ⟨hz1, hz2, hz3, hz4, hz5, oz⟩ := q4 d5 d10
     subst oz; exact zab [(8, .back [.dat (I z)] [[.dat (.lst false cs), .dat (I p1), .dat (U64 u1)]] []), (10, .back [.dat (B g)] [[.dat (.lst false cs), .dat (I p2), .dat (U64 u2)]] []), (12, .back [.dat (I z12)] [[.dat (.lst false cs), .dat (I p3), .dat (U64 u3)]] []), (300006, .loop (hd70 cs [] n p4 u4 0) (.exit 0) (Nm [0, 3] [.ptr (.up 0) 0, .own 72 out] [none, none] [[.dat (.lst false cs), .dat (I p5), .dat (U64 u5)]] [])), (42, .back [.dat (B g42)] [[.dat (.lst false cs), .dat (I p6), .dat (U64 u6)]] []), (44, .ok), (200010, .no), (200042, .no)] (ob hz1 (ob (rfl : false = false) (ob hz2 (ob (rfl : false = false) (ob d5 (ob hz3 (ob hz4 (ob hz5 (ob (rfl : false = false) (ob d10 ob0)))))))))) (by kernel_rfl)
theorem zoz (kk : Nat) (cs : List Dat) (out : List Dat) (z15 x21 z23 x29 : Int) (g18 g26 : Bool) (p1 u1 : Int) (p2 u2 : Int) (p3 u3 : Int) (p4 u4 : Int) (p5 u5 : Int) (p6 u6 : Int) (p7 u7 : Int) {r : Res} (q1 : (g18 = true) → (g26 = true) → (den cfg kk 70 [D.ptr (Ref.up 0) 0] [[D.dat (Dat.lst false cs), D.dat (I 0), D.dat (Dat.val (Value.int IntKind.u64 0))]] [] = some ([D.own 72 out], [[D.dat (Dat.lst false cs), D.dat (I p1), D.dat (Dat.val (Value.int IntKind.u64 u1))]], [])) ∧ (den cfg kk 54 [D.ptr (Ref.up 0) 0, D.dat (I 40)] [[D.dat (Dat.lst false cs), D.dat (I p1), D.dat (Dat.val (Value.int IntKind.u64 u1))]] [] = some ([D.dat (I z15)], [[D.dat (Dat.lst false cs), D.dat (I p2), D.dat (Dat.val (Value.int IntKind.u64 u2))]], [])) ∧ (den cfg kk 55 [D.ptr (Ref.up 0) 0, D.dat (I 12)] [[D.dat (Dat.lst false cs), D.dat (I p2), D.dat (Dat.val (Value.int IntKind.u64 u2))]] [] = some ([D.dat (B g18)], [[D.dat (Dat.lst false cs), D.dat (I p3), D.dat (Dat.val (Value.int IntKind.u64 u3))]], [])) ∧ (den cfg kk 69 [D.ptr (Ref.up 0) 0, D.dat (Dat.lst true [I (-1), I 0, I 200, I 201])] [[D.dat (Dat.lst false cs), D.dat (I p3), D.dat (Dat.val (Value.int IntKind.u64 u3))]] [] = some ([D.dat (I x21)], [[D.dat (Dat.lst false cs), D.dat (I p4), D.dat (Dat.val (Value.int IntKind.u64 u4))]], [])) ∧ ((true && !(true && (true && zav [[D.dat (Dat.lst false cs), D.dat (I p4), D.dat (Dat.val (Value.int IntKind.u64 u4))]])) || false) = false) ∧ (den cfg kk 54 [D.ptr (Ref.up 0) 0, D.dat (I 12)] [[D.dat (Dat.lst false cs), D.dat (I p4), D.dat (Dat.val (Value.int IntKind.u64 u4))]] [] = some ([D.dat (I z23)], [[D.dat (Dat.lst false cs), D.dat (I p5), D.dat (Dat.val (Value.int IntKind.u64 u5))]], [])) ∧ (den cfg kk 55 [D.ptr (Ref.up 0) 0, D.dat (I 20)] [[D.dat (Dat.lst false cs), D.dat (I p5), D.dat (Dat.val (Value.int IntKind.u64 u5))]] [] = some ([D.dat (B g26)], [[D.dat (Dat.lst false cs), D.dat (I p6), D.dat (Dat.val (Value.int IntKind.u64 u6))]], [])) ∧ (den cfg kk 69 [D.ptr (Ref.up 0) 0, D.dat (Dat.lst true [I 0, I 200, I 201])] [[D.dat (Dat.lst false cs), D.dat (I p6), D.dat (Dat.val (Value.int IntKind.u64 u6))]] [] = some ([D.dat (I x29)], [[D.dat (Dat.lst false cs), D.dat (I p7), D.dat (Dat.val (Value.int IntKind.u64 u7))]], [])) ∧ ((true && !(true && (true && zav [[D.dat (Dat.lst false cs), D.dat (I p7), D.dat (Dat.val (Value.int IntKind.u64 u7))]])) || false) = false) ∧ r = ([D.own 72 out, D.dat (I x21), D.dat (I x29)], [], [])) (q2 : (g18 = true) → (g26 = false) → (den cfg kk 70 [D.ptr (Ref.up 0) 0] [[D.dat (Dat.lst false cs), D.dat (I 0), D.dat (Dat.val (Value.int IntKind.u64 0))]] [] = some ([D.own 72 out], [[D.dat (Dat.lst false cs), D.dat (I p1), D.dat (Dat.val (Value.int IntKind.u64 u1))]], [])) ∧ (den cfg kk 54 [D.ptr (Ref.up 0) 0, D.dat (I 40)] [[D.dat (Dat.lst false cs), D.dat (I p1), D.dat (Dat.val (Value.int IntKind.u64 u1))]] [] = some ([D.dat (I z15)], [[D.dat (Dat.lst false cs), D.dat (I p2), D.dat (Dat.val (Value.int IntKind.u64 u2))]], [])) ∧ (den cfg kk 55 [D.ptr (Ref.up 0) 0, D.dat (I 12)] [[D.dat (Dat.lst false cs), D.dat (I p2), D.dat (Dat.val (Value.int IntKind.u64 u2))]] [] = some ([D.dat (B g18)], [[D.dat (Dat.lst false cs), D.dat (I p3), D.dat (Dat.val (Value.int IntKind.u64 u3))]], [])) ∧ (den cfg kk 69 [D.ptr (Ref.up 0) 0, D.dat (Dat.lst true [I (-1), I 0, I 200, I 201])] [[D.dat (Dat.lst false cs), D.dat (I p3), D.dat (Dat.val (Value.int IntKind.u64 u3))]] [] = some ([D.dat (I x21)], [[D.dat (Dat.lst false cs), D.dat (I p4), D.dat (Dat.val (Value.int IntKind.u64 u4))]], [])) ∧ ((true && !(true && (true && zav [[D.dat (Dat.lst false cs), D.dat (I p4), D.dat (Dat.val (Value.int IntKind.u64 u4))]])) || false) = false) ∧ (den cfg kk 54 [D.ptr (Ref.up 0) 0, D.dat (I 12)] [[D.dat (Dat.lst false cs), D.dat (I p4), D.dat (Dat.val (Value.int IntKind.u64 u4))]] [] = some ([D.dat (I z23)], [[D.dat (Dat.lst false cs), D.dat (I p5), D.dat (Dat.val (Value.int IntKind.u64 u5))]], [])) ∧ (den cfg kk 55 [D.ptr (Ref.up 0) 0, D.dat (I 20)] [[D.dat (Dat.lst false cs), D.dat (I p5), D.dat (Dat.val (Value.int IntKind.u64 u5))]] [] = some ([D.dat (B g26)], [[D.dat (Dat.lst false cs), D.dat (I p6), D.dat (Dat.val (Value.int IntKind.u64 u6))]], [])) ∧ r = ([D.own 72 out, D.dat (I x21), D.dat (I (w64 (1 + z23)))], [], [])) (q3 : (g18 = false) → (g26 = true) → (den cfg kk 70 [D.ptr (Ref.up 0) 0] [[D.dat (Dat.lst false cs), D.dat (I 0), D.dat (Dat.val (Value.int IntKind.u64 0))]] [] = some ([D.own 72 out], [[D.dat (Dat.lst false cs), D.dat (I p1), D.dat (Dat.val (Value.int IntKind.u64 u1))]], [])) ∧ (den cfg kk 54 [D.ptr (Ref.up 0) 0, D.dat (I 40)] [[D.dat (Dat.lst false cs), D.dat (I p1), D.dat (Dat.val (Value.int IntKind.u64 u1))]] [] = some ([D.dat (I z15)], [[D.dat (Dat.lst false cs), D.dat (I p2), D.dat (Dat.val (Value.int IntKind.u64 u2))]], [])) ∧ (den cfg kk 55 [D.ptr (Ref.up 0) 0, D.dat (I 12)] [[D.dat (Dat.lst false cs), D.dat (I p2), D.dat (Dat.val (Value.int IntKind.u64 u2))]] [] = some ([D.dat (B g18)], [[D.dat (Dat.lst false cs), D.dat (I p3), D.dat (Dat.val (Value.int IntKind.u64 u3))]], [])) ∧ (den cfg kk 54 [D.ptr (Ref.up 0) 0, D.dat (I 12)] [[D.dat (Dat.lst false cs), D.dat (I p3), D.dat (Dat.val (Value.int IntKind.u64 u3))]] [] = some ([D.dat (I z23)], [[D.dat (Dat.lst false cs), D.dat (I p5), D.dat (Dat.val (Value.int IntKind.u64 u5))]], [])) ∧ (den cfg kk 55 [D.ptr (Ref.up 0) 0, D.dat (I 20)] [[D.dat (Dat.lst false cs), D.dat (I p5), D.dat (Dat.val (Value.int IntKind.u64 u5))]] [] = some ([D.dat (B g26)], [[D.dat (Dat.lst false cs), D.dat (I p6), D.dat (Dat.val (Value.int IntKind.u64 u6))]], [])) ∧ (den cfg kk 69 [D.ptr (Ref.up 0) 0, D.dat (Dat.lst true [I 0, I 200, I 201])] [[D.dat (Dat.lst false cs), D.dat (I p6), D.dat (Dat.val (Value.int IntKind.u64 u6))]] [] = some ([D.dat (I x29)], [[D.dat (Dat.lst false cs), D.dat (I p7), D.dat (Dat.val (Value.int IntKind.u64 u7))]], [])) ∧ ((true && !(true && (true && zav [[D.dat (Dat.lst false cs), D.dat (I p7), D.dat (Dat.val (Value.int IntKind.u64 u7))]])) || false) = false) ∧ r = ([D.own 72 out, D.dat (I (w64 (3 + z15))), D.dat (I x29)], [], [])) (q4 : (g18 = false) → (g26 = false) → (den cfg kk 70 [D.ptr (Ref.up 0) 0] [[D.dat (Dat.lst false cs), D.dat (I 0), D.dat (Dat.val (Value.int IntKind.u64 0))]] [] = some ([D.own 72 out], [[D.dat (Dat.lst false cs), D.dat (I p1), D.dat (Dat.val (Value.int IntKind.u64 u1))]], [])) ∧ (den cfg kk 54 [D.ptr (Ref.up 0) 0, D.dat (I 40)] [[D.dat (Dat.lst false cs), D.dat (I p1), D.dat (Dat.val (Value.int IntKind.u64 u1))]] [] = some ([D.dat (I z15)], [[D.dat (Dat.lst false cs), D.dat (I p2), D.dat (Dat.val (Value.int IntKind.u64 u2))]], [])) ∧ (den cfg kk 55 [D.ptr (Ref.up 0) 0, D.dat (I 12)] [[D.dat (Dat.lst false cs), D.dat (I p2), D.dat (Dat.val (Value.int IntKind.u64 u2))]] [] = some ([D.dat (B g18)], [[D.dat (Dat.lst false cs), D.dat (I p3), D.dat (Dat.val (Value.int IntKind.u64 u3))]], [])) ∧ (den cfg kk 54 [D.ptr (Ref.up 0) 0, D.dat (I 12)] [[D.dat (Dat.lst false cs), D.dat (I p3), D.dat (Dat.val (Value.int IntKind.u64 u3))]] [] = some ([D.dat (I z23)], [[D.dat (Dat.lst false cs), D.dat (I p5), D.dat (Dat.val (Value.int IntKind.u64 u5))]], [])) ∧ (den cfg kk 55 [D.ptr (Ref.up 0) 0, D.dat (I 20)] [[D.dat (Dat.lst false cs), D.dat (I p5), D.dat (Dat.val (Value.int IntKind.u64 u5))]] [] = some ([D.dat (B g26)], [[D.dat (Dat.lst false cs), D.dat (I p6), D.dat (Dat.val (Value.int IntKind.u64 u6))]], [])) ∧ r = ([D.own 72 out, D.dat (I (w64 (3 + z15))), D.dat (I (w64 (1 + z23)))], [], [])) : zam cfg kk (den cfg kk) 35 Go.Proofs.Tryd.f35 [.dat (Dat.lst false cs)] [] [] = some r := by
 rcases Bool.eq_false_or_eq_true (g18) with d7 | d7
 · rcases Bool.eq_false_or_eq_true (g26) with d14 | d14
   · obtain ⟨hz1, hz2, hz3, hz4, hz5, hz6, hz7, hz8, hz9, oz⟩ := q1 d7 d14
     subst oz; exact zab [(13, .back [.own 72 out] [[.dat (.lst false cs), .dat (I p1), .dat (U64 u1)]] []), (15, .back [.dat (I z15)] [[.dat (.lst false cs), .dat (I p2), .dat (U64 u2)]] []), (18, .back [.dat (B g18)] [[.dat (.lst false cs), .dat (I p3), .dat (U64 u3)]] []), (21, .back [.dat (I x21)] [[.dat (.lst false cs), .dat (I p4), .dat (U64 u4)]] []), (23, .back [.dat (I z23)] [[.dat (.lst false cs), .dat (I p5), .dat (U64 u5)]] []), (26, .back [.dat (B g26)] [[.dat (.lst false cs), .dat (I p6), .dat (U64 u6)]] []), (29, .back [.dat (I x29)] [[.dat (.lst false cs), .dat (I p7), .dat (U64 u7)]] []), (200018, .yes), (200026, .yes)] (ob hz1 (ob (rfl : false = false) (ob hz2 (ob (rfl : false = false) (ob hz3 (ob (rfl : false = false) (ob d7 (ob hz4 (ob hz5 (ob hz6 (ob (rfl : false = false) (ob hz7 (ob (rfl : false = false) (ob d14 (ob hz8 (ob hz9 ob0)))))))))))))))) (by kernel_rfl)
   · obtain ⟨hz1, hz2, hz3, hz4, hz5, hz6, hz7, oz⟩ := q2 d7 d14
     subst oz; exact zab [(13, .back [.own 72 out] [[.dat (.lst false cs), .dat (I p1), .dat (U64 u1)]] []), (15, .back [.dat (I z15)] [[.dat (.lst false cs), .dat (I p2), .dat (U64 u2)]] []), (18, .back [.dat (B g18)] [[.dat (.lst false cs), .dat (I p3), .dat (U64 u3)]] []), (21, .back [.dat (I x21)] [[.dat (.lst false cs), .dat (I p4), .dat (U64 u4)]] []), (23, .back [.dat (I z23)] [[.dat (.lst false cs), .dat (I p5), .dat (U64 u5)]] []), (26, .back [.dat (B g26)] [[.dat (.lst false cs), .dat (I p6), .dat (U64 u6)]] []), (29, .back [.dat (I x29)] [[.dat (.lst false cs), .dat (I p7), .dat (U64 u7)]] []), (200018, .yes), (200026, .no)] (ob hz1 (ob (rfl : false = false) (ob hz2 (ob (rfl : false = false) (ob hz3 (ob (rfl : false = false) (ob d7 (ob hz4 (ob hz5 (ob hz6 (ob (rfl : false = false) (ob hz7 (ob (rfl : false = false) (ob d14 ob0)))))))))))))) (by kernel_rfl)
 · rcases Bool.eq_false_or_eq_true (g26) with d12 | d12
   · obtain ⟨hz1, hz2, hz3, hz4, hz5, hz6, hz7, oz⟩ := q3 d7 d12
     subst oz; exact zab [(13, .back [.own 72 out] [[.dat (.lst false cs), .dat (I p1), .dat (U64 u1)]] []), (15, .back [.dat (I z15)] [[.dat (.lst false cs), .dat (I p2), .dat (U64 u2)]] []), (18, .back [.dat (B g18)] [[.dat (.lst false cs), .dat (I p3), .dat (U64 u3)]] []), (21, .back [.dat (I x21)] [[.dat (.lst false cs), .dat (I p4), .dat (U64 u4)]] []), (23, .back [.dat (I z23)] [[.dat (.lst false cs), .dat (I p5), .dat (U64 u5)]] []), (26, .back [.dat (B g26)] [[.dat (.lst false cs), .dat (I p6), .dat (U64 u6)]] []), (29, .back [.dat (I x29)] [[.dat (.lst false cs), .dat (I p7), .dat (U64 u7)]] []), (200018, .no), (200026, .yes)] (ob hz1 (ob (rfl : false = false) (ob hz2 (ob (rfl : false = false) (ob hz3 (ob (rfl : false = false) (ob d7 (ob hz4 (ob (rfl : false = false) (ob hz5 (ob (rfl : false = false) (ob d12 (ob hz6 (ob hz7 ob0)))))))))))))) (by kernel_rfl)
   · obtain ⟨hz1, hz2, hz3, hz4, hz5, oz⟩ := q4 d7 d12
     subst oz; exact zab [(13, .back [.own 72 out] [[.dat (.lst false cs), .dat (I p1), .dat (U64 u1)]] []), (15, .back [.dat (I z15)] [[.dat (.lst false cs), .dat (I p2), .dat (U64 u2)]] []), (18, .back [.dat (B g18)] [[.dat (.lst false cs), .dat (I p3), .dat (U64 u3)]] []), (21, .back [.dat (I x21)] [[.dat (.lst false cs), .dat (I p4), .dat (U64 u4)]] []), (23, .back [.dat (I z23)] [[.dat (.lst false cs), .dat (I p5), .dat (U64 u5)]] []), (26, .back [.dat (B g26)] [[.dat (.lst false cs), .dat (I p6), .dat (U64 u6)]] []), (29, .back [.dat (I x29)] [[.dat (.lst false cs), .dat (I p7), .dat (U64 u7)]] []), (200018, .no), (200026, .no)] (ob hz1 (ob (rfl : false = false) (ob hz2 (ob (rfl : false = false) (ob hz3 (ob (rfl : false = false) (ob d7 (ob hz4 (ob (rfl : false = false) (ob hz5 (ob (rfl : false = false) (ob d12 ob0)))))))))))) (by kernel_rfl)
end Go.Den
namespace Go.Den
open Go
set_option linter.unusedVariables false
set_option maxRecDepth 100000
theorem zl6 (kk : Nat) (cs out : List Dat) (room nur : Int) (s w m : ByteArray) (f1 k1 f2 k2 g : Bool) {r : Res} (q1 : (decide (1048576 < (cs.length : Int)) = true) → r = ([D.dat (B true)], [], [])) (q2 : (decide (1048576 < (cs.length : Int)) = false) → ((!k1 == k2) = true) → (den cfg kk 35 [D.dat (Dat.lst false cs)] [] [] = some ([D.own 72 out, D.dat (I room), D.dat (I nur)], [], [])) ∧ (den cfg kk 26 [D.dat (Dat.lst true out), D.dat (I room), D.dat (I nur)] [] [] = some ([D.dat (Dat.val (Value.string s)), D.dat (B f1), D.dat (B k1)], [], [])) ∧ (den cfg kk 25 [D.dat (Dat.lst true out), D.dat (I room), D.dat (I nur)] [] [] = some ([D.dat (Dat.val (Value.string w)), D.dat (B f2), D.dat (B k2)], [], [])) ∧ r = ([D.dat (B false)], [], [])) (q3 : (decide (1048576 < (cs.length : Int)) = false) → ((!k1 == k2) = false) → ((!decide (s = w)) = true) → (den cfg kk 35 [D.dat (Dat.lst false cs)] [] [] = some ([D.own 72 out, D.dat (I room), D.dat (I nur)], [], [])) ∧ (den cfg kk 26 [D.dat (Dat.lst true out), D.dat (I room), D.dat (I nur)] [] [] = some ([D.dat (Dat.val (Value.string s)), D.dat (B f1), D.dat (B k1)], [], [])) ∧ (den cfg kk 25 [D.dat (Dat.lst true out), D.dat (I room), D.dat (I nur)] [] [] = some ([D.dat (Dat.val (Value.string w)), D.dat (B f2), D.dat (B k2)], [], [])) ∧ r = ([D.dat (B false)], [], [])) (q4 : (decide (1048576 < (cs.length : Int)) = false) → ((!k1 == k2) = false) → ((!decide (s = w)) = false) → ((!f1 == f2) = true) → (den cfg kk 35 [D.dat (Dat.lst false cs)] [] [] = some ([D.own 72 out, D.dat (I room), D.dat (I nur)], [], [])) ∧ (den cfg kk 26 [D.dat (Dat.lst true out), D.dat (I room), D.dat (I nur)] [] [] = some ([D.dat (Dat.val (Value.string s)), D.dat (B f1), D.dat (B k1)], [], [])) ∧ (den cfg kk 25 [D.dat (Dat.lst true out), D.dat (I room), D.dat (I nur)] [] [] = some ([D.dat (Dat.val (Value.string w)), D.dat (B f2), D.dat (B k2)], [], [])) ∧ r = ([D.dat (B false)], [], [])) (q5 : (decide (1048576 < (cs.length : Int)) = false) → ((!k1 == k2) = false) → ((!decide (s = w)) = false) → ((!f1 == f2) = false) → ((!k1) = true) → (den cfg kk 35 [D.dat (Dat.lst false cs)] [] [] = some ([D.own 72 out, D.dat (I room), D.dat (I nur)], [], [])) ∧ (den cfg kk 26 [D.dat (Dat.lst true out), D.dat (I room), D.dat (I nur)] [] [] = some ([D.dat (Dat.val (Value.string s)), D.dat (B f1), D.dat (B k1)], [], [])) ∧ (den cfg kk 25 [D.dat (Dat.lst true out), D.dat (I room), D.dat (I nur)] [] [] = some ([D.dat (Dat.val (Value.string w)), D.dat (B f2), D.dat (B k2)], [], [])) ∧ r = ([D.dat (B (decide (s = ByteArray.mk #[])))], [], [])) (q6 : (decide (1048576 < (cs.length : Int)) = false) → ((!k1 == k2) = false) → ((!decide (s = w)) = false) → ((!f1 == f2) = false) → ((!k1) = false) → (g = true) → (decide ((s.size : Int) ≤ (m.size : Int)) = true) → (decide (m.extract 0 ((some (s.size : Int)).getD (m.size : Int)).toNat = s) = true) → (f1 = true) → (den cfg kk 35 [D.dat (Dat.lst false cs)] [] [] = some ([D.own 72 out, D.dat (I room), D.dat (I nur)], [], [])) ∧ (den cfg kk 26 [D.dat (Dat.lst true out), D.dat (I room), D.dat (I nur)] [] [] = some ([D.dat (Dat.val (Value.string s)), D.dat (B f1), D.dat (B k1)], [], [])) ∧ (den cfg kk 25 [D.dat (Dat.lst true out), D.dat (I room), D.dat (I nur)] [] [] = some ([D.dat (Dat.val (Value.string w)), D.dat (B f2), D.dat (B k2)], [], [])) ∧ (den cfg kk 24 [D.dat (Dat.lst true out)] [] [] = some ([D.dat (Dat.val (Value.string m)), D.dat (B g)], [], [])) ∧ (0 ≤ (none : Option Int).getD 0 ∧ (none : Option Int).getD 0 ≤ (some (s.size : Int)).getD (m.size : Int) ∧ (some (s.size : Int)).getD (m.size : Int) ≤ (m.size : Int)) ∧ r = ([D.dat (B true)], [], [])) (q7 : (decide (1048576 < (cs.length : Int)) = false) → ((!k1 == k2) = false) → ((!decide (s = w)) = false) → ((!f1 == f2) = false) → ((!k1) = false) → (g = true) → (decide ((s.size : Int) ≤ (m.size : Int)) = true) → (decide (m.extract 0 ((some (s.size : Int)).getD (m.size : Int)).toNat = s) = true) → (f1 = false) → (den cfg kk 35 [D.dat (Dat.lst false cs)] [] [] = some ([D.own 72 out, D.dat (I room), D.dat (I nur)], [], [])) ∧ (den cfg kk 26 [D.dat (Dat.lst true out), D.dat (I room), D.dat (I nur)] [] [] = some ([D.dat (Dat.val (Value.string s)), D.dat (B f1), D.dat (B k1)], [], [])) ∧ (den cfg kk 25 [D.dat (Dat.lst true out), D.dat (I room), D.dat (I nur)] [] [] = some ([D.dat (Dat.val (Value.string w)), D.dat (B f2), D.dat (B k2)], [], [])) ∧ (den cfg kk 24 [D.dat (Dat.lst true out)] [] [] = some ([D.dat (Dat.val (Value.string m)), D.dat (B g)], [], [])) ∧ (0 ≤ (none : Option Int).getD 0 ∧ (none : Option Int).getD 0 ≤ (some (s.size : Int)).getD (m.size : Int) ∧ (some (s.size : Int)).getD (m.size : Int) ≤ (m.size : Int)) ∧ r = ([D.dat (B (decide (s = m)))], [], [])) (q8 : (decide (1048576 < (cs.length : Int)) = false) → ((!k1 == k2) = false) → ((!decide (s = w)) = false) → ((!f1 == f2) = false) → ((!k1) = false) → (g = true) → (decide ((s.size : Int) ≤ (m.size : Int)) = true) → (decide (m.extract 0 ((some (s.size : Int)).getD (m.size : Int)).toNat = s) = false) → (den cfg kk 35 [D.dat (Dat.lst false cs)] [] [] = some ([D.own 72 out, D.dat (I room), D.dat (I nur)], [], [])) ∧ (den cfg kk 26 [D.dat (Dat.lst true out), D.dat (I room), D.dat (I nur)] [] [] = some ([D.dat (Dat.val (Value.string s)), D.dat (B f1), D.dat (B k1)], [], [])) ∧ (den cfg kk 25 [D.dat (Dat.lst true out), D.dat (I room), D.dat (I nur)] [] [] = some ([D.dat (Dat.val (Value.string w)), D.dat (B f2), D.dat (B k2)], [], [])) ∧ (den cfg kk 24 [D.dat (Dat.lst true out)] [] [] = some ([D.dat (Dat.val (Value.string m)), D.dat (B g)], [], [])) ∧ (0 ≤ (none : Option Int).getD 0 ∧ (none : Option Int).getD 0 ≤ (some (s.size : Int)).getD (m.size : Int) ∧ (some (s.size : Int)).getD (m.size : Int) ≤ (m.size : Int)) ∧ r = ([D.dat (B false)], [], [])) (q9 : (decide (1048576 < (cs.length : Int)) = false) → ((!k1 == k2) = false) → ((!decide (s = w)) = false) → ((!f1 == f2) = false) → ((!k1) = false) → (g = true) → (decide ((s.size : Int) ≤ (m.size : Int)) = false) → (den cfg kk 35 [D.dat (Dat.lst false cs)] [] [] = some ([D.own 72 out, D.dat (I room), D.dat (I nur)], [], [])) ∧ (den cfg kk 26 [D.dat (Dat.lst true out), D.dat (I room), D.dat (I nur)] [] [] = some ([D.dat (Dat.val (Value.string s)), D.dat (B f1), D.dat (B k1)], [], [])) ∧ (den cfg kk 25 [D.dat (Dat.lst true out), D.dat (I room), D.dat (I nur)] [] [] = some ([D.dat (Dat.val (Value.string w)), D.dat (B f2), D.dat (B k2)], [], [])) ∧ (den cfg kk 24 [D.dat (Dat.lst true out)] [] [] = some ([D.dat (Dat.val (Value.string m)), D.dat (B g)], [], [])) ∧ r = ([D.dat (B false)], [], [])) (q10 : (decide (1048576 < (cs.length : Int)) = false) → ((!k1 == k2) = false) → ((!decide (s = w)) = false) → ((!f1 == f2) = false) → ((!k1) = false) → (g = false) → (den cfg kk 35 [D.dat (Dat.lst false cs)] [] [] = some ([D.own 72 out, D.dat (I room), D.dat (I nur)], [], [])) ∧ (den cfg kk 26 [D.dat (Dat.lst true out), D.dat (I room), D.dat (I nur)] [] [] = some ([D.dat (Dat.val (Value.string s)), D.dat (B f1), D.dat (B k1)], [], [])) ∧ (den cfg kk 25 [D.dat (Dat.lst true out), D.dat (I room), D.dat (I nur)] [] [] = some ([D.dat (Dat.val (Value.string w)), D.dat (B f2), D.dat (B k2)], [], [])) ∧ (den cfg kk 24 [D.dat (Dat.lst true out)] [] [] = some ([D.dat (Dat.val (Value.string m)), D.dat (B g)], [], [])) ∧ r = ([D.dat (B false)], [], [])) : zam cfg kk (den cfg kk) 10 Go.Proofs.Tryd.f10 [.dat (Dat.lst false cs)] [] [] = some r := by
 rcases Bool.eq_false_or_eq_true (decide (1048576 < (cs.length : Int))) with d1 | d1
 · have oz := q1 d1
   subst oz; exact zab [(19, .ret [.own 72 out, .dat (I room), .dat (I nur)]), (27, .ret [.dat (S s), .dat (B f1), .dat (B k1)]), (35, .ret [.dat (S w), .dat (B f2), .dat (B k2)]), (58, .ret [.dat (S m), .dat (B g)]), (73, .ok), (200016, .yes)] (ob d1 ob0) (by kernel_rfl)
 · rcases Bool.eq_false_or_eq_true ((!k1 == k2)) with d7 | d7
   · obtain ⟨hz1, hz2, hz3, oz⟩ := q2 d1 d7
     subst oz; exact zab [(19, .ret [.own 72 out, .dat (I room), .dat (I nur)]), (27, .ret [.dat (S s), .dat (B f1), .dat (B k1)]), (35, .ret [.dat (S w), .dat (B f2), .dat (B k2)]), (58, .ret [.dat (S m), .dat (B g)]), (73, .ok), (200016, .no), (200042, .yes)] (ob d1 (ob hz1 (ob (rfl : true = true) (ob hz2 (ob (rfl : true = true) (ob hz3 (ob d7 (ob (rfl : true = true) (ob (rfl : true = true) ob0))))))))) (by kernel_rfl)
   · rcases Bool.eq_false_or_eq_true ((!decide (s = w))) with d10 | d10
     · obtain ⟨hz1, hz2, hz3, oz⟩ := q3 d1 d7 d10
       subst oz; exact zab [(19, .ret [.own 72 out, .dat (I room), .dat (I nur)]), (27, .ret [.dat (S s), .dat (B f1), .dat (B k1)]), (35, .ret [.dat (S w), .dat (B f2), .dat (B k2)]), (58, .ret [.dat (S m), .dat (B g)]), (73, .ok), (200016, .no), (200042, .no), (200047, .yes)] (ob d1 (ob hz1 (ob (rfl : true = true) (ob hz2 (ob (rfl : true = true) (ob hz3 (ob d7 (ob (rfl : false = false) (ob (rfl : false = false) (ob d10 (ob (rfl : true = true) (ob (rfl : true = true) ob0)))))))))))) (by kernel_rfl)
     · rcases Bool.eq_false_or_eq_true ((!f1 == f2)) with d13 | d13
       · obtain ⟨hz1, hz2, hz3, oz⟩ := q4 d1 d7 d10 d13
         subst oz; exact zab [(19, .ret [.own 72 out, .dat (I room), .dat (I nur)]), (27, .ret [.dat (S s), .dat (B f1), .dat (B k1)]), (35, .ret [.dat (S w), .dat (B f2), .dat (B k2)]), (58, .ret [.dat (S m), .dat (B g)]), (73, .ok), (200016, .no), (200042, .no), (200047, .no), (200051, .yes)] (ob d1 (ob hz1 (ob (rfl : true = true) (ob hz2 (ob (rfl : true = true) (ob hz3 (ob d7 (ob (rfl : false = false) (ob (rfl : false = false) (ob d10 (ob (rfl : false = false) (ob (rfl : false = false) (ob d13 ob0))))))))))))) (by kernel_rfl)
       · rcases Bool.eq_false_or_eq_true ((!k1)) with d14 | d14
         · obtain ⟨hz1, hz2, hz3, oz⟩ := q5 d1 d7 d10 d13 d14
           subst oz; exact zab [(19, .ret [.own 72 out, .dat (I room), .dat (I nur)]), (27, .ret [.dat (S s), .dat (B f1), .dat (B k1)]), (35, .ret [.dat (S w), .dat (B f2), .dat (B k2)]), (58, .ret [.dat (S m), .dat (B g)]), (73, .ok), (200016, .no), (200042, .no), (200047, .no), (200051, .no), (200053, .yes)] (ob d1 (ob hz1 (ob (rfl : true = true) (ob hz2 (ob (rfl : true = true) (ob hz3 (ob d7 (ob (rfl : false = false) (ob (rfl : false = false) (ob d10 (ob (rfl : false = false) (ob (rfl : false = false) (ob d13 (ob d14 ob0)))))))))))))) (by kernel_rfl)
         · rcases Bool.eq_false_or_eq_true (g) with d17 | d17
           · rcases Bool.eq_false_or_eq_true (decide ((s.size : Int) ≤ (m.size : Int))) with d22 | d22
             · rcases Bool.eq_false_or_eq_true (decide (m.extract 0 ((some (s.size : Int)).getD (m.size : Int)).toNat = s)) with d29 | d29
               · rcases Bool.eq_false_or_eq_true (f1) with d31 | d31
                 · obtain ⟨hz1, hz2, hz3, hz4, hz5, oz⟩ := q6 d1 d7 d10 d13 d14 d17 d22 d29 d31
                   subst oz; exact zab [(19, .ret [.own 72 out, .dat (I room), .dat (I nur)]), (27, .ret [.dat (S s), .dat (B f1), .dat (B k1)]), (35, .ret [.dat (S w), .dat (B f2), .dat (B k2)]), (58, .ret [.dat (S m), .dat (B g)]), (73, .ok), (200016, .no), (200042, .no), (200047, .no), (200051, .no), (200053, .no), (200062, .yes), (200069, .yes), (200077, .yes), (200079, .yes)] (ob d1 (ob hz1 (ob (rfl : true = true) (ob hz2 (ob (rfl : true = true) (ob hz3 (ob d7 (ob (rfl : false = false) (ob (rfl : false = false) (ob d10 (ob (rfl : false = false) (ob (rfl : false = false) (ob d13 (ob d14 (ob (rfl : true = true) (ob hz4 (ob d17 (ob (rfl : true = true) (ob (rfl : true = true) (ob (rfl : true = true) (ob (rfl : true = true) (ob d22 (ob (rfl : true = true) (ob (rfl : true = true) (ob (rfl : true = true) (ob hz5 (ob (rfl : true = true) (ob (rfl : true = true) (ob d29 (ob (rfl : true = true) (ob d31 (ob (rfl : true = true) (ob (rfl : true = true) (ob (rfl : true = true) ob0)))))))))))))))))))))))))))))))))) (by kernel_rfl)
                 · obtain ⟨hz1, hz2, hz3, hz4, hz5, oz⟩ := q7 d1 d7 d10 d13 d14 d17 d22 d29 d31
                   subst oz; exact zab [(19, .ret [.own 72 out, .dat (I room), .dat (I nur)]), (27, .ret [.dat (S s), .dat (B f1), .dat (B k1)]), (35, .ret [.dat (S w), .dat (B f2), .dat (B k2)]), (58, .ret [.dat (S m), .dat (B g)]), (73, .ok), (200016, .no), (200042, .no), (200047, .no), (200051, .no), (200053, .no), (200062, .yes), (200069, .yes), (200077, .yes), (200079, .no)] (ob d1 (ob hz1 (ob (rfl : true = true) (ob hz2 (ob (rfl : true = true) (ob hz3 (ob d7 (ob (rfl : false = false) (ob (rfl : false = false) (ob d10 (ob (rfl : false = false) (ob (rfl : false = false) (ob d13 (ob d14 (ob (rfl : true = true) (ob hz4 (ob d17 (ob (rfl : true = true) (ob (rfl : true = true) (ob (rfl : true = true) (ob (rfl : true = true) (ob d22 (ob (rfl : true = true) (ob (rfl : true = true) (ob (rfl : true = true) (ob hz5 (ob (rfl : true = true) (ob (rfl : true = true) (ob d29 (ob (rfl : true = true) (ob d31 (ob (rfl : false = false) (ob (rfl : false = false) (ob (rfl : true = true) ob0)))))))))))))))))))))))))))))))))) (by kernel_rfl)
               · obtain ⟨hz1, hz2, hz3, hz4, hz5, oz⟩ := q8 d1 d7 d10 d13 d14 d17 d22 d29
                 subst oz; exact zab [(19, .ret [.own 72 out, .dat (I room), .dat (I nur)]), (27, .ret [.dat (S s), .dat (B f1), .dat (B k1)]), (35, .ret [.dat (S w), .dat (B f2), .dat (B k2)]), (58, .ret [.dat (S m), .dat (B g)]), (73, .ok), (200016, .no), (200042, .no), (200047, .no), (200051, .no), (200053, .no), (200062, .yes), (200069, .yes), (200077, .no)] (ob d1 (ob hz1 (ob (rfl : true = true) (ob hz2 (ob (rfl : true = true) (ob hz3 (ob d7 (ob (rfl : false = false) (ob (rfl : false = false) (ob d10 (ob (rfl : false = false) (ob (rfl : false = false) (ob d13 (ob d14 (ob (rfl : true = true) (ob hz4 (ob d17 (ob (rfl : true = true) (ob (rfl : true = true) (ob (rfl : true = true) (ob (rfl : true = true) (ob d22 (ob (rfl : true = true) (ob (rfl : true = true) (ob (rfl : true = true) (ob hz5 (ob (rfl : true = true) (ob (rfl : true = true) (ob d29 (ob (rfl : false = false) (ob (rfl : false = false) ob0))))))))))))))))))))))))))))))) (by kernel_rfl)
             · obtain ⟨hz1, hz2, hz3, hz4, oz⟩ := q9 d1 d7 d10 d13 d14 d17 d22
               subst oz; exact zab [(19, .ret [.own 72 out, .dat (I room), .dat (I nur)]), (27, .ret [.dat (S s), .dat (B f1), .dat (B k1)]), (35, .ret [.dat (S w), .dat (B f2), .dat (B k2)]), (58, .ret [.dat (S m), .dat (B g)]), (73, .ok), (200016, .no), (200042, .no), (200047, .no), (200051, .no), (200053, .no), (200062, .yes), (200069, .no)] (ob d1 (ob hz1 (ob (rfl : true = true) (ob hz2 (ob (rfl : true = true) (ob hz3 (ob d7 (ob (rfl : false = false) (ob (rfl : false = false) (ob d10 (ob (rfl : false = false) (ob (rfl : false = false) (ob d13 (ob d14 (ob (rfl : true = true) (ob hz4 (ob d17 (ob (rfl : true = true) (ob (rfl : true = true) (ob (rfl : true = true) (ob (rfl : true = true) (ob d22 (ob (rfl : false = false) (ob (rfl : false = false) (ob (rfl : false = false) (ob (rfl : false = false) (ob (rfl : false = false) ob0))))))))))))))))))))))))))) (by kernel_rfl)
           · obtain ⟨hz1, hz2, hz3, hz4, oz⟩ := q10 d1 d7 d10 d13 d14 d17
             subst oz; exact zab [(19, .ret [.own 72 out, .dat (I room), .dat (I nur)]), (27, .ret [.dat (S s), .dat (B f1), .dat (B k1)]), (35, .ret [.dat (S w), .dat (B f2), .dat (B k2)]), (58, .ret [.dat (S m), .dat (B g)]), (73, .ok), (200016, .no), (200042, .no), (200047, .no), (200051, .no), (200053, .no), (200062, .no)] (ob d1 (ob hz1 (ob (rfl : true = true) (ob hz2 (ob (rfl : true = true) (ob hz3 (ob d7 (ob (rfl : false = false) (ob (rfl : false = false) (ob d10 (ob (rfl : false = false) (ob (rfl : false = false) (ob d13 (ob d14 (ob (rfl : true = true) (ob hz4 (ob d17 (ob (rfl : false = false) (ob (rfl : false = false) (ob (rfl : false = false) (ob (rfl : false = false) ob0))))))))))))))))))))) (by kernel_rfl)
end Go.Den
namespace Go.Den
open Go
set_option linter.unusedVariables false
set_option maxRecDepth 100000
structure Cl where
 l : Bool
 n : Int
 a : Int
 b : Int
abbrev Cl.d (x : Cl) : Dat := .agg [B x.l, I x.n, I x.a, I x.b]
abbrev Yd (b : Bool) (o : Int) (cs rs ns : List Dat) : Dat := .agg [I o, .lst b cs, .lst b rs, .lst b ns]
theorem zoX (kk : Nat) (x lo hi : Int) (h1 : decide (lo ≤ x) = true) : zam cfg kk (den cfg kk) 39 Go.Proofs.Tryd.f39 [.dat (I x), .dat (I lo), .dat (I hi)] [] [] = some ([D.dat (B (decide (x ≤ hi)))], [], []) :=
 zab [(200010, .yes)] (ob h1 (ob (rfl : true = true) (ob (rfl : true = true) ob0))) (by kernel_rfl)
theorem zpe (kk : Nat) (x lo hi : Int) (h1 : decide (lo ≤ x) = false) : zam cfg kk (den cfg kk) 39 Go.Proofs.Tryd.f39 [.dat (I x), .dat (I lo), .dat (I hi)] [] [] = some ([D.dat (B false)], [], []) :=
 zab [(200010, .no)] (ob h1 (ob (rfl : false = false) (ob (rfl : false = false) ob0))) (by kernel_rfl)
theorem l1In (kk : Nat) (x lo hi : Int) {r : Res} (q1 : (decide (lo ≤ x) = true) → r = ([D.dat (B (decide (x ≤ hi)))], [], [])) (q2 : (decide (lo ≤ x) = false) → r = ([D.dat (B false)], [], [])) : zam cfg kk (den cfg kk) 39 Go.Proofs.Tryd.f39 [.dat (I x), .dat (I lo), .dat (I hi)] [] [] = some r := by
 rcases Bool.eq_false_or_eq_true (decide (lo ≤ x)) with d1 | d1
 · have oz := q1 d1
   subst oz; exact zoX kk x lo hi d1
 · have oz := q2 d1
   subst oz; exact zpe kk x lo hi d1
theorem zkS (kk : Nat) (x hi : Int) (h1 : decide (0 ≤ x) = true) : zam cfg kk (den cfg kk) 43 Go.Proofs.Tryd.f43 [.dat (I x), .dat (I hi)] [] [] = some ([D.dat (B (decide (x < hi)))], [], []) :=
 zab [(200007, .yes)] (ob h1 (ob (rfl : true = true) (ob (rfl : true = true) ob0))) (by kernel_rfl)
theorem zkZ (kk : Nat) (x hi : Int) (h1 : decide (0 ≤ x) = false) : zam cfg kk (den cfg kk) 43 Go.Proofs.Tryd.f43 [.dat (I x), .dat (I hi)] [] [] = some ([D.dat (B false)], [], []) :=
 zab [(200007, .no)] (ob h1 (ob (rfl : false = false) (ob (rfl : false = false) ob0))) (by kernel_rfl)
theorem zo7 (kk : Nat) (x hi : Int) {r : Res} (q1 : (decide (0 ≤ x) = true) → r = ([D.dat (B (decide (x < hi)))], [], [])) (q2 : (decide (0 ≤ x) = false) → r = ([D.dat (B false)], [], [])) : zam cfg kk (den cfg kk) 43 Go.Proofs.Tryd.f43 [.dat (I x), .dat (I hi)] [] [] = some r := by
 rcases Bool.eq_false_or_eq_true (decide (0 ≤ x)) with d1 | d1
 · have oz := q1 d1
   subst oz; exact zkS kk x hi d1
 · have oz := q2 d1
   subst oz; exact zkZ kk x hi d1
theorem znq (kk : Nat) (b : Bool) (o : Int) (cs rs ns : List Dat) (c : Cl) (h1 : (!c.l) = true) (h7 : decide (o ≤ c.a) = true) : zam cfg kk (den cfg kk) 66 Go.Proofs.Tryd.f66 [.dat (Yd b o cs rs ns), .dat (c.d)] [] [] = some ([D.dat (B true)], [], []) :=
 zab [(200008, .yes), (200014, .yes)] (ob h1 (ob (rfl : true = true) (ob (rfl : true = true) (ob (rfl : true = true) (ob (rfl : true = true) (ob (rfl : true = true) (ob h7 (ob (rfl : true = true) (ob (rfl : true = true) (ob (rfl : true = true) (ob (rfl : true = true) (ob (rfl : true = true) ob0)))))))))))) (by kernel_rfl)
theorem zoe (kk : Nat) (b : Bool) (o : Int) (cs rs ns : List Dat) (c : Cl) (h1 : (!c.l) = true) (h7 : decide (o ≤ c.a) = false) : zam cfg kk (den cfg kk) 66 Go.Proofs.Tryd.f66 [.dat (Yd b o cs rs ns), .dat (c.d)] [] [] = some ([D.dat (B (decide (o ≤ c.b)))], [], []) :=
 zab [(200008, .yes), (200014, .no)] (ob h1 (ob (rfl : true = true) (ob (rfl : true = true) (ob (rfl : true = true) (ob (rfl : true = true) (ob (rfl : true = true) (ob h7 (ob (rfl : false = false) (ob (rfl : false = false) (ob (rfl : false = false) (ob (rfl : false = false) (ob (rfl : true = true) ob0)))))))))))) (by kernel_rfl)
theorem zno (kk : Nat) (b : Bool) (o : Int) (cs rs ns : List Dat) (c : Cl) (h1 : (!c.l) = false) : zam cfg kk (den cfg kk) 66 Go.Proofs.Tryd.f66 [.dat (Yd b o cs rs ns), .dat (c.d)] [] [] = some ([D.dat (B false)], [], []) :=
 zab [(200008, .no)] (ob h1 (ob (rfl : false = false) (ob (rfl : false = false) (ob (rfl : false = false) (ob (rfl : false = false) (ob (rfl : false = false) (ob (rfl : false = false) ob0))))))) (by kernel_rfl)
theorem names (kk : Nat) (b : Bool) (o : Int) (cs rs ns : List Dat) (c : Cl) {r : Res} (q1 : ((!c.l) = true) → (decide (o ≤ c.a) = true) → r = ([D.dat (B true)], [], [])) (q2 : ((!c.l) = true) → (decide (o ≤ c.a) = false) → r = ([D.dat (B (decide (o ≤ c.b)))], [], [])) (q3 : ((!c.l) = false) → r = ([D.dat (B false)], [], [])) : zam cfg kk (den cfg kk) 66 Go.Proofs.Tryd.f66 [.dat (Yd b o cs rs ns), .dat (c.d)] [] [] = some r := by
 rcases Bool.eq_false_or_eq_true ((!c.l)) with d1 | d1
 · rcases Bool.eq_false_or_eq_true (decide (o ≤ c.a)) with d7 | d7
   · have oz := q1 d1 d7
     subst oz; exact znq kk b o cs rs ns c d1 d7
   · have oz := q2 d1 d7
     subst oz; exact zoe kk b o cs rs ns c d1 d7
 · have oz := q3 d1
   subst oz; exact zno kk b o cs rs ns c d1
theorem zjJ (kk : Nat) (b : Bool) (es : List Dat) (x : Int) (x7 : Int) (h1 : den cfg kk 89 [D.dat (Dat.lst b es), D.dat (I x)] [] [] = some ([D.dat (I x7)], [], [])) : zam cfg kk (den cfg kk) 67 Go.Proofs.Tryd.f67 [.dat (Dat.lst b es), .dat (I x)] [] [] = some ([D.dat (B (decide (0 ≤ x7)))], [], []) :=
 zab [(7, .ret [.dat (I x7)])] (ob h1 ob0) (by kernel_rfl)
theorem contains (kk : Nat) (b : Bool) (es : List Dat) (x : Int) (x7 : Int) {r : Res} (q1 : (den cfg kk 89 [D.dat (Dat.lst b es), D.dat (I x)] [] [] = some ([D.dat (I x7)], [], [])) ∧ r = ([D.dat (B (decide (0 ≤ x7)))], [], [])) : zam cfg kk (den cfg kk) 67 Go.Proofs.Tryd.f67 [.dat (Dat.lst b es), .dat (I x)] [] [] = some r := by
 obtain ⟨o1, oz⟩ := q1
 subst oz; exact zjJ kk b es x x7 o1
end Go.Den
namespace Go.Den
open Go
set_option linter.unusedVariables false
set_option maxRecDepth 100000
theorem ih {α : Type} {es : List α} {i : Nat} {d : α} (h : es[i]? = some d) : (0 ≤ (i : Int) ∧ (i : Int) < (es.length : Int)) ∧ es[((i : Int)).toNat]? = some d := by
 have hlt := (List.getElem?_eq_some_iff.1 h).1
 refine ⟨⟨by omega, by omega⟩, ?_⟩
 rw [Int.toNat_natCast]
 exact h
theorem gm {α : Type} {L : List α} {f : α → Dat} {i : Nat} {x : α} (h : L[i]? = some x) : (L.map f)[i]? = some (f x) := by rw [List.getElem?_map, h]; rfl
theorem wi (i : Nat) (h : i ≤ 1048576) : w64 ((i : Int) + 1) = ((i + 1 : Nat) : Int) := by rw [zbn (by omega)]; rfl
theorem zgM {α : Type} {L : List α} {i : Nat} (h : i < L.length) : ∃ x, L[i]? = some x := ⟨_, List.getElem?_eq_getElem h⟩
end Go.Den
namespace Go.Den
open Go
set_option linter.unusedVariables false
set_option maxRecDepth 100000
def inB (x lo hi : Int) : Bool := decide (lo ≤ x) && decide (x ≤ hi)
def zac (x hi : Int) : Bool := decide (0 ≤ x) && decide (x < hi)
theorem zny (x hi : Int) : inB x 0 (hi - 1) = zac x hi := by unfold inB zac; congr 1; rw [decide_eq_decide]; omega
def zcx (n : Int) (c : Cl) : Bool := match c.l with
 | true => decide (c.a = 0) && decide (c.b = 0)
 | false => decide (c.n = 0) && (zac c.a n && zac c.b n)
theorem gd {α : Type} {L : List α} {i : Nat} {x z : α} (h : L[i]? = some x) : L.getD i z = x := by rw [List.getD_eq_getElem?_getD, h]; rfl
theorem zjH (x lo hi : Int) : EvN 1 39 [.dat (I x), .dat (I lo), .dat (I hi)] [] [] ([.dat (B (inB x lo hi))], [], []) :=
 zaO Go.Proofs.Tryd.f39 0 (by kernel_rfl) (by kernel_rfl) fun kk _ => l1In kk x lo hi (fun d => by simp only [decide_eq_true_eq] at d; simp [inB, d]) (fun d => by simp only [decide_eq_false_iff_not] at d; simp [inB, d])
theorem zkN (x hi : Int) : EvN 1 43 [.dat (I x), .dat (I hi)] [] [] ([.dat (B (zac x hi))], [], []) :=
 zaO Go.Proofs.Tryd.f43 0 (by kernel_rfl) (by kernel_rfl) fun kk _ => zo7 kk x hi (fun d => by simp only [decide_eq_true_eq] at d; simp [zac, d]) (fun d => by simp only [decide_eq_false_iff_not] at d; simp [zac, d])
end Go.Den
namespace Go.Den
open Go
set_option linter.unusedVariables false
set_option maxRecDepth 100000
open Go.Proofs.YtcmcfebihbmmeaaDoor (num numV)
theorem zfK {f : Nat} {g : List D → List (List D) → List (Option Row) → Option Res} {args : List D} {u : List (List D)} {l : List (Option Row)} {r : Res} (hx : cfg.ext f = some g) (h : g args u l = some r) : EvN 1 f args u l r := fun k hk => by
 obtain ⟨m, rfl⟩ : ∃ m, k = m + 1 := ⟨k - 1, by omega⟩
 simp only [den, hx, Option.bind_some, h]
def In64 (n : Int) : Prop := -9223372036854775808 ≤ n ∧ n ≤ 9223372036854775807
theorem zl2 {n : Int} (h : In64 n) : zeB numV [.dat (I n)] [] [] = some ([.dat (S (num n))], [], []) := by
 have : numV [.int .i64 n] = some [.string (num n)] := by show (if -9223372036854775808 ≤ n ∧ n ≤ 9223372036854775807 then some [Value.string (num n)] else none) = _; exact if_pos h
 show (ziv [.dat (I n)]).bind (fun vs => (numV vs).map fun rs => (rs.map DV, [], [])) = _
 show (numV [.int .i64 n]).map (fun rs => (rs.map DV, ([] : List (List D)), ([] : List (Option Row)))) = _
 rw [this]
 rfl
theorem znY {n : Int} (h : In64 n) : EvN 1 72 [.dat (I n)] [] [] ([.dat (S (num n))], [], []) := zfK (by kernel_rfl) (zl2 h)
theorem zjL {n : Int} (h : In64 n) : EvN 1 74 [.dat (I n)] [] [] ([.dat (S (num n))], [], []) := zfK (by kernel_rfl) (zl2 h)
theorem zoq {n : Int} (h : In64 n) : (num n).size ≤ 40 := by
 have h0 := h.1
 have h2 := h.2
 have h30 : (10 : Nat) ^ (29 + 1) = 1000000000000000000000000000000 := by decide
 have h1 := Go.Proofs.YtcmcfebihbmmeaaDoor.dec_len 29 n.natAbs (by rw [h30]; omega)
 show (Lib.itoa n).toArray.size ≤ 40
 unfold Lib.itoa
 split
 · simp; omega
 · have : n.toNat = n.natAbs := by omega
   simp
   rw [this]
   omega
def Cl.fine (c : Cl) : Prop := In64 c.n ∧ In64 c.a ∧ In64 c.b
abbrev c0 : Cl := ⟨false, 0, 0, 0⟩
def star : ByteArray := ByteArray.mk #[42]
def zmV (cs : List Cl) : Prop := ∀ (i : Nat) (c : Cl), cs[i]? = some c → c.fine ∧ zcx cs.length c = true
theorem zgg {x n : Int} (h : zac x n = true) : 0 ≤ x ∧ x < n := by simpa [zac] using h
theorem zpf {cs : List Cl} (hc : zmV cs) {i : Nat} {c : Cl} (h : cs[i]? = some c) (hl : c.l = false) : (0 ≤ c.a ∧ c.a < cs.length) ∧ (0 ≤ c.b ∧ c.b < cs.length) := by
 have := (hc i c h).2
 unfold zcx at this
 rw [hl] at this
 simp only [Bool.and_eq_true] at this
 exact ⟨zgg this.2.1, zgg this.2.2⟩
theorem ih2 {cs : List Cl} {at_ : Int} {c : Cl} (h0 : 0 ≤ at_) (h : cs[at_.toNat]? = some c) : (0 ≤ at_ ∧ at_ < ((cs.map Cl.d).length : Int)) ∧ (cs.map Cl.d)[at_.toNat]? = some c.d := by
 have hlt := (List.getElem?_eq_some_iff.1 h).1
 exact ⟨⟨h0, by simp; omega⟩, gm h⟩
end Go.Den
namespace Go.Den
open Go
set_option linter.unusedVariables false
set_option maxRecDepth 100000
def cg (c : List Cl) (i : Int) : Cl := c.getD i.toNat c0
theorem zh5 {c : List Cl} {i : Int} {x : Cl} (h : c[i.toNat]? = some x) : cg c i = x := gd h
theorem zn2 {c : List Cl} {i : Int} (h0 : 0 ≤ i) (h : i < (c.length : Int)) : c[i.toNat]? = some (cg c i) := by
 have : i.toNat < c.length := by omega
 unfold cg
 rw [List.getD_eq_getElem?_getD, List.getElem?_eq_getElem this]
 rfl
def Wf (c : List Cl) : Prop := ∀ i : Int, 0 ≤ i → i < (c.length : Int) → (cg c i).l = false → (0 ≤ (cg c i).a ∧ (cg c i).a < (c.length : Int)) ∧ (0 ≤ (cg c i).b ∧ (cg c i).b < (c.length : Int))
def K (l : List Bool) (i : Int) : Prop := l.getD i.toNat false = true
def lack (l : List Bool) : Nat := (List.range l.length).countP fun i => !(l.getD i false)
theorem zid {α : Type} {p q : α → Bool} : ∀ {l : List α}, (∀ x ∈ l, p x = true → q x = true) → (∃ x ∈ l, q x = true ∧ p x = false) → l.countP p < l.countP q
 | [], _, h => by obtain ⟨x, hx, _⟩ := h; simp at hx
 | y :: l, hpq, h => by
   have hle : l.countP p ≤ l.countP q := List.countP_mono_left (fun x hx => hpq x (List.mem_cons_of_mem _ hx))
   obtain ⟨x, hx, hq, hp⟩ := h
   rcases List.mem_cons.1 hx with rfl | hx
   · have e1 : (x :: l).countP p = l.countP p := List.countP_cons_of_neg (by simp [hp])
     have e2 : (x :: l).countP q = l.countP q + 1 := List.countP_cons_of_pos hq
     omega
   · have ih := zid (fun x hx => hpq x (List.mem_cons_of_mem _ hx)) ⟨x, hx, hq, hp⟩
     by_cases hy : p y = true
     · have e1 : (y :: l).countP p = l.countP p + 1 := List.countP_cons_of_pos hy
       have e2 : (y :: l).countP q = l.countP q + 1 := List.countP_cons_of_pos (hpq y List.mem_cons_self hy)
       omega
     · have e1 : (y :: l).countP p = l.countP p := List.countP_cons_of_neg hy
       have e2 : l.countP q ≤ (y :: l).countP q := by rw [List.countP_cons]; omega
       omega
theorem zmF {l : List Bool} {i : Int} (h0 : 0 ≤ i) (hi : i < (l.length : Int)) (j : Int) (hj : 0 ≤ j) : K (l.set i.toNat true) j ↔ (j = i ∨ K l j) := by
 unfold K
 have hlt : i.toNat < l.length := by omega
 by_cases e : j = i
 · subst e
   simp [List.getD_eq_getElem?_getD, hlt]
 · have : i.toNat ≠ j.toNat := by omega
   simp [List.getD_eq_getElem?_getD, List.getElem?_set_ne this, e]
theorem zn1 {l : List Bool} {i : Int} (h0 : 0 ≤ i) (hi : i < (l.length : Int)) (hk : ¬ K l i) : lack (l.set i.toNat true) < lack l := by
 have hlt : i.toNat < l.length := by omega
 unfold lack
 rw [List.length_set]
 refine zid (fun j _ hj => ?_) ⟨i.toNat, by simpa using hlt, ?_, ?_⟩
 · by_cases e : j = i.toNat
   · subst e
     simp [List.getD_eq_getElem?_getD, hlt] at hj
   · simp only [List.getD_eq_getElem?_getD, List.getElem?_set_ne (Ne.symm e)] at hj ⊢
     exact hj
 · unfold K at hk
   simpa using hk
 · simp [List.getD_eq_getElem?_getD, hlt]
theorem zpp (l : List Bool) : lack l ≤ l.length := by
 unfold lack
 have := List.countP_le_length (p := fun i => !(l.getD i false)) (l := List.range l.length)
 simpa using this
theorem K_lt {l : List Bool} {i : Int} (h0 : 0 ≤ i) (h : K l i) : i < (l.length : Int) := by
 unfold K at h
 by_cases hi : i.toNat < l.length
 · omega
 · rw [List.getD_eq_getElem?_getD, List.getElem?_eq_none (by omega)] at h
   cases h
theorem znz (n : Nat) (i : Int) : ¬ K (List.replicate n false) i := by
 unfold K
 by_cases h : i.toNat < n
 · simp [List.getD_eq_getElem?_getD, h]
 · simp [List.getD_eq_getElem?_getD, h]
theorem zp8 {l l' : List Bool} (hl : l.length = l'.length) (h : ∀ i, 0 ≤ i → (K l i ↔ K l' i)) : l = l' := by
 refine List.ext_getElem hl fun i h1 h2 => ?_
 have := h (i : Int) (by omega)
 unfold K at this
 simp only [Int.toNat_natCast, List.getD_eq_getElem?_getD, List.getElem?_eq_getElem h1, List.getElem?_eq_getElem h2, Option.getD_some] at this
 cases e : l[i] <;> cases e' : l'[i] <;> simp_all
theorem K_get {l : List Bool} {i : Nat} {k : Bool} (h : l[i]? = some k) : K l (i : Int) ↔ k = true := by
 unfold K
 rw [Int.toNat_natCast, gd h]
inductive Rch (c : List Cl) (on : Int → Prop) (src : Int → Prop) : Int → Prop
 | src {i} : src i → Rch c on src i
 | a {i} : Rch c on src i → on i → (cg c i).l = false → Rch c on src (cg c i).a
 | b {i} : Rch c on src i → on i → (cg c i).l = false → Rch c on src (cg c i).b
theorem Rch.in_ {c : List Cl} {on : Int → Prop} {s : Int → Prop} {k : List Bool} (hw : Wf c) (hs : ∀ i, s i → 0 ≤ i ∧ i < (c.length : Int) ∧ K k i)
 (hcl : ∀ i, 0 ≤ i → K k i → on i → (cg c i).l = false → K k (cg c i).a ∧ K k (cg c i).b) {i : Int} (hr : Rch c on s i) : 0 ≤ i ∧ i < (c.length : Int) ∧ K k i := by
 induction hr with
 | src h => exact hs _ h
 | a _ ho hl ih => exact ⟨(hw _ ih.1 ih.2.1 hl).1.1, (hw _ ih.1 ih.2.1 hl).1.2, (hcl _ ih.1 ih.2.2 ho hl).1⟩
 | b _ ho hl ih => exact ⟨(hw _ ih.1 ih.2.1 hl).2.1, (hw _ ih.1 ih.2.1 hl).2.2, (hcl _ ih.1 ih.2.2 ho hl).2⟩
noncomputable def zfk (n : Nat) (P : Int → Prop) : List Bool := (List.range n).map fun (i : Nat) => @decide (P (i : Int)) (Classical.propDecidable _)
theorem zaU (n : Nat) (P : Int → Prop) : (zfk n P).length = n := by simp [zfk]
theorem zb4 {n : Nat} {P : Int → Prop} {i : Int} (h0 : 0 ≤ i) : K (zfk n P) i ↔ i < (n : Int) ∧ P i := by
 unfold K zfk
 rw [List.getD_eq_getElem?_getD, List.getElem?_map]
 by_cases h : i.toNat < n
 · rw [List.getElem?_range h]
   have : ((i.toNat : Nat) : Int) = i := by omega
   simp only [Option.map_some, Option.getD_some, decide_eq_true_eq, this]
   exact ⟨fun h => ⟨by omega, h⟩, fun h => h.2⟩
 · rw [List.getElem?_eq_none (by simpa using h)]
   simp only [Option.map_none, Option.getD_none]
   exact ⟨fun h => by simp at h, fun h1 => by omega⟩
def cnt (m : List Bool) (i : Int) : Int := ((m.take i.toNat).count true : Nat)
theorem znt (m : List Bool) : cnt m 0 = 0 := by simp [cnt]
theorem zmb (m : List Bool) (i : Nat) : 0 ≤ cnt m i ∧ cnt m i ≤ i := by
 unfold cnt
 have h1 : (m.take i).count true ≤ (m.take i).length := List.count_le_length
 have h2 : (m.take i).length ≤ i := by rw [List.length_take]; omega
 simp only [Int.toNat_natCast]
 omega
theorem zj5 (m : List Bool) (i : Nat) (h : i < m.length) (hk : K m (i : Int)) : cnt m ((i + 1 : Nat) : Int) = cnt m i + 1 := by
 unfold cnt
 unfold K at hk
 simp only [Int.toNat_natCast, List.getD_eq_getElem?_getD, List.getElem?_eq_getElem h, Option.getD_some] at hk
 simp only [Int.toNat_natCast, List.take_add_one, List.getElem?_eq_getElem h, List.count_append, hk]
 simp
theorem zoU (m : List Bool) (i : Nat) (h : i < m.length) (hk : ¬ K m (i : Int)) : cnt m ((i + 1 : Nat) : Int) = cnt m i := by
 unfold cnt
 unfold K at hk
 simp only [Int.toNat_natCast, List.getD_eq_getElem?_getD, List.getElem?_eq_getElem h, Option.getD_some, Bool.not_eq_true] at hk
 simp only [Int.toNat_natCast, List.take_add_one, List.getElem?_eq_getElem h, List.count_append, hk]
 simp
def mvC (m : List Bool) (x : Cl) : Cl := if x.l = true then x else ⟨x.l, x.n, cnt m x.a, cnt m x.b⟩
def mvCs (m : List Bool) : List Cl → List Bool → List Cl
 | x :: c, b :: l => if b = true then mvC m x :: mvCs m c l else mvCs m c l
 | _, _ => []
theorem zj7 (m : List Bool) (c : List Cl) (l : List Bool) : (mvCs m c l).length ≤ l.length := by
 induction c generalizing l with
 | nil => simp [mvCs]
 | cons x c ih =>
   cases l with
   | nil => simp [mvCs]
   | cons b l =>
     unfold mvCs
     have := ih l
     split <;> simp <;> omega
theorem zgt (m : List Bool) (c : List Cl) (l : List Bool) (h : l.length = c.length) : (mvCs m c l).length = l.count true := by
 induction c generalizing l with
 | nil =>
   obtain rfl := List.eq_nil_of_length_eq_zero h
   simp [mvCs]
 | cons x c ih =>
   cases l with
   | nil => simp at h
   | cons b l =>
     unfold mvCs
     have := ih l (by simpa using h)
     cases b <;> simp [this]
theorem zhH (m : List Bool) : ∀ (c : List Cl) (l : List Bool) (x : Cl) (b : Bool), c.length = l.length → mvCs m (c ++ [x]) (l ++ [b]) = mvCs m c l ++ (if b = true then [mvC m x] else [])
 | [], [], x, b, _ => by cases b <;> simp [mvCs]
 | y :: c, k :: l, x, b, h => by
   have := zhH m c l x b (by simpa using h)
   cases k <;> simp [mvCs, this]
 | [], _ :: _, _, _, h => by simp at h
 | _ :: _, [], _, _, h => by simp at h
theorem zh9 (m : List Bool) (c : List Cl) (l : List Bool) (i : Nat) (x : Cl) (b : Bool) (hl : c.length = l.length) (hx : c[i]? = some x) (hb : l[i]? = some b) : mvCs m (c.take (i + 1)) (l.take (i + 1)) = mvCs m (c.take i) (l.take i) ++ (if b = true then [mvC m x] else []) := by
 rw [List.take_add_one, List.take_add_one, hx, hb]
 exact zhH m _ _ x b (by simp [List.length_take, hl])
def Shut (m : List Bool) (c : List Cl) : Prop := ∀ i : Nat, K m i → (cg c i).l = false → (0 ≤ (cg c i).a ∧ K m (cg c i).a) ∧ (0 ≤ (cg c i).b ∧ K m (cg c i).b)
def Tb (m : List Bool) (n : Nat) (t : List Int) : Prop := t.length = n ∧ ∀ j : Nat, K m j → t.getD j 0 = cnt m j
theorem Tb.get {m : List Bool} {n : Nat} {t : List Int} (h : Tb m n t) (hm : m.length = n) {j : Int} (h0 : 0 ≤ j) (hk : K m j) : (0 ≤ j ∧ j < (t.length : Int)) ∧ t[j.toNat]? = some (cnt m j) := by
 have hlt := K_lt h0 hk
 have h1 := h.1
 have e : ((j.toNat : Nat) : Int) = j := by omega
 have h2 := h.2 j.toNat (by rw [e]; exact hk)
 rw [e] at h2
 refine ⟨⟨h0, by omega⟩, ?_⟩
 rw [List.getElem?_eq_getElem (by omega)]
 rw [List.getD_eq_getElem?_getD, List.getElem?_eq_getElem (by omega)] at h2
 simpa using h2
end Go.Den
namespace Go.Den
open Go
set_option linter.unusedVariables false
set_option maxRecDepth 100000
open Go.Proofs.YtcmcfebihbmmeaaDoor (num numV)
structure Hp where
 o : Int
 cs : List Cl
 rs : List Int
 ns : List Int
structure Hg (h : Hp) : Prop where
 cells : zmV h.cs
 clen : h.cs.length ≤ 200
 rlen : h.rs.length ≤ 60
 o0 : 0 ≤ h.o
 o1 : h.o ≤ (h.cs.length : Int)
 rin : ∀ x ∈ h.rs, 0 ≤ x ∧ x < (h.cs.length : Int)
 nup : h.ns.Pairwise (· < ·)
 nin : ∀ x ∈ h.ns, 0 ≤ x ∧ x < h.o
 old : ∀ (i : Nat) (c : Cl), h.cs[i]? = some c → (i : Int) < h.o → c.l = false → (h.o ≤ c.a ∨ h.o ≤ c.b) → (i : Int) ∈ h.ns
theorem Hg.wf {h : Hp} (g : Hg h) : Wf h.cs := fun i h0 hi hl => zpf g.cells (zn2 h0 hi) hl
noncomputable def mvH (m : List Bool) (h : Hp) : Hp := ⟨cnt m m.length, mvCs m h.cs m, h.rs.map (cnt m), []⟩
noncomputable def zeQ (h : Hp) : List Bool := zfk h.cs.length (Rch h.cs (fun _ => True) (· ∈ h.rs))
def Src (h : Hp) (i : Int) : Prop := i ∈ h.rs ∨ ∃ x ∈ h.ns, (cg h.cs x).l = false ∧ (i = (cg h.cs x).a ∨ i = (cg h.cs x).b)
noncomputable def keptL (h : Hp) : List Bool := zfk h.cs.length fun i => i < h.o ∨ Rch h.cs (fun i => ¬ i < h.o) (Src h) i
noncomputable def zbo (h : Hp) : Hp := mvH (zeQ h) h
noncomputable def zmZ (h : Hp) : Hp := mvH (keptL h) h
theorem zhg (m : List Bool) {i j : Nat} (h : i ≤ j) : cnt m i ≤ cnt m j := by
 unfold cnt
 simp only [Int.toNat_natCast]
 have := List.Sublist.count_le true (List.take_sublist_take_left h (l := m))
 omega
theorem zkg {m : List Bool} {x : Int} (h0 : 0 ≤ x) (hk : K m x) : 0 ≤ cnt m x ∧ cnt m x < cnt m m.length := by
 have hlt := K_lt h0 hk
 have e : ((x.toNat : Nat) : Int) = x := by omega
 have h1 := zj5 m x.toNat (by omega) (by rw [e]; exact hk)
 have h2 := zhg m (show x.toNat + 1 ≤ m.length by omega)
 rw [e] at h1
 have h3 := (zmb m x.toNat).1
 rw [e] at h3
 omega
theorem zg9 {m : List Bool} {y : Cl} : ∀ {c : List Cl} {l : List Bool}, y ∈ mvCs m c l → ∃ (i : Nat) (x : Cl), c[i]? = some x ∧ l[i]? = some true ∧ y = mvC m x
 | x :: c, b :: l, h => by
   cases b with
   | true =>
     simp only [mvCs, if_true, List.mem_cons] at h
     rcases h with rfl | h
     · exact ⟨0, x, rfl, rfl, rfl⟩
     · obtain ⟨i, x', h1, h2, h3⟩ := zg9 h
       exact ⟨i + 1, x', by simpa using h1, by simpa using h2, h3⟩
   | false =>
     simp only [mvCs, Bool.false_eq_true, if_false] at h
     obtain ⟨i, x', h1, h2, h3⟩ := zg9 h
     exact ⟨i + 1, x', by simpa using h1, by simpa using h2, h3⟩
 | [], _, h => by simp [mvCs] at h
 | _ :: _, [], h => by simp [mvCs] at h
theorem zjV {m : List Bool} {c : List Cl} (h : m.length = c.length) : ((mvCs m c m).length : Int) = cnt m m.length := by
 rw [zgt m c m h]; simp [cnt]
theorem zpL {h : Hp} {m : List Bool} (g : Hg h) (hm : m.length = h.cs.length) (hs : Shut m h.cs) (hr : ∀ x ∈ h.rs, K m x) : Hg (mvH m h) := by
 have hlen := zjV hm
 have hle := zj7 m h.cs m
 have hcl := g.clen
 have hcell : ∀ y ∈ mvCs m h.cs m, y.fine ∧ zcx (mvCs m h.cs m).length y = true := fun y hy => by
  obtain ⟨i, x, h1, h2, rfl⟩ := zg9 hy
  have hf := (g.cells i x h1)
  have hk : K m (i : Int) := (K_get h2).2 rfl
  cases hl : x.l with
  | true =>
    have e : mvC m x = x := by unfold mvC; rw [if_pos hl]
    rw [e]
    refine ⟨hf.1, ?_⟩
    have := hf.2
    unfold zcx at this ⊢
    rw [hl] at this ⊢
    exact this
  | false =>
    have e : mvC m x = ⟨x.l, x.n, cnt m x.a, cnt m x.b⟩ := by unfold mvC; rw [if_neg (by rw [hl]; simp)]
    have hx : cg h.cs (i : Int) = x := zh5 (by rw [Int.toNat_natCast]; exact h1)
    obtain ⟨⟨a0, a1⟩, b0, b1⟩ := hs i hk (by rw [hx]; exact hl)
    rw [hx] at a0 a1 b0 b1
    have ha := zkg a0 a1
    have hb := zkg b0 b1
    rw [e]
    refine ⟨⟨hf.1.1, ⟨by show _ ≤ cnt m x.a; omega, by show cnt m x.a ≤ _; omega⟩, ⟨by show _ ≤ cnt m x.b; omega, by show cnt m x.b ≤ _; omega⟩⟩, ?_⟩
    have := hf.2
    unfold zcx at this ⊢
    rw [hl] at this
    simp only [Bool.and_eq_true] at this
    simp only [hl, this.1, Bool.true_and]
    rw [hlen]
    simp [zac, ha, hb]
 refine ⟨fun i c hc => hcell c (List.mem_of_getElem? hc), by show (mvCs m h.cs m).length ≤ 200; omega, by show (h.rs.map (cnt m)).length ≤ 60; rw [List.length_map]; exact g.rlen, ?_, ?_, fun x hx => ?_, .nil, fun x hx => (by cases hx), fun i c hc hi hl hor => ?_⟩
 · show 0 ≤ cnt m m.length
   exact (zmb m m.length).1
 · show cnt m m.length ≤ ((mvCs m h.cs m).length : Int)
   omega
 · show 0 ≤ x ∧ x < ((mvCs m h.cs m).length : Int)
   obtain ⟨y, hy, rfl⟩ := List.mem_map.1 hx
   have := zkg (g.rin y hy).1 (hr y hy)
   omega
 · have h1 := (hcell c (List.mem_of_getElem? hc)).2
   unfold zcx at h1
   rw [hl] at h1
   simp only [Bool.and_eq_true] at h1
   have ha := zgg h1.2.1
   have hb := zgg h1.2.2
   have ho : (mvH m h).o = cnt m m.length := rfl
   rw [ho] at hor
   omega
theorem zdS {h : Hp} (g : Hg h) : Shut (zeQ h) h.cs := fun i hk hl => by
 obtain ⟨hi, hr⟩ := (zb4 (Int.natCast_nonneg i)).1 hk
 obtain ⟨⟨a0, a1⟩, b0, b1⟩ := g.wf i (by omega) hi hl
 exact ⟨⟨a0, (zb4 a0).2 ⟨a1, .a hr trivial hl⟩⟩, b0, (zb4 b0).2 ⟨b1, .b hr trivial hl⟩⟩
theorem zdJ {h : Hp} (g : Hg h) : ∀ x ∈ h.rs, K (zeQ h) x := fun x hx => (zb4 (g.rin x hx).1).2 ⟨(g.rin x hx).2, .src hx⟩
def addH (h : Hp) (c : Cl) : Hp := ⟨h.o, h.cs ++ [c], h.rs ++ [(h.cs.length : Int)], h.ns⟩
def zmI (h : Hp) (r : Int) : Hp := ⟨h.o, h.cs, h.rs ++ [r], h.ns⟩
def zg8 (h : Hp) (a : Int) : Hp := ⟨h.o, h.cs, h.rs.take a.toNat ++ h.rs.drop (a.toNat + 1), h.ns⟩
theorem zjO {n m : Nat} {c : Cl} (h : zcx n c = true) (hnm : n ≤ m) : zcx m c = true := by
 unfold zcx at h ⊢
 cases hl : c.l with
 | true => rw [hl] at h; exact h
 | false =>
   rw [hl] at h
   simp only [Bool.and_eq_true] at h ⊢
   have ha := zgg h.2.1
   have hb := zgg h.2.2
   refine ⟨h.1, ?_, ?_⟩
   · simp only [zac, Bool.and_eq_true, decide_eq_true_eq]; omega
   · simp only [zac, Bool.and_eq_true, decide_eq_true_eq]; omega
theorem zkh {α : Type} {l : List α} {x y : α} {i : Nat} (h : (l ++ [x])[i]? = some y) : (i < l.length ∧ l[i]? = some y) ∨ (i = l.length ∧ y = x) := by
 by_cases hi : i < l.length
 · rw [List.getElem?_append_left hi] at h; exact .inl ⟨hi, h⟩
 · rw [List.getElem?_append_right (by omega)] at h
   have : i - l.length = 0 := by
    cases hd : i - l.length with
    | zero => rfl
    | succ d => rw [hd] at h; simp at h
   rw [this] at h
   simp at h
   exact .inr ⟨by omega, h.symm⟩
theorem znU {h : Hp} (g : Hg h) {c : Cl} (hc : c.fine) (hok : zcx (h.cs.length + 1) c = true) (h1 : h.cs.length < 200) (h2 : h.rs.length < 60) : Hg (addH h c) := by
 have ho1 := g.o1
 refine ⟨fun i x hx => ?_, by show (h.cs ++ [c]).length ≤ 200; simp; omega, by show (h.rs ++ [(h.cs.length : Int)]).length ≤ 60; simp; omega, g.o0, by show h.o ≤ ((h.cs ++ [c]).length : Int); simp; omega, fun x hx => ?_, g.nup, g.nin, fun i x hx hi hl hor => ?_⟩
 · have e : (addH h c).cs.length = h.cs.length + 1 := by simp [addH]
   rw [e]
   rcases zkh hx with ⟨_, h3⟩ | ⟨_, rfl⟩
   · have := g.cells i x h3
     exact ⟨this.1, zjO this.2 (by omega)⟩
   · exact ⟨hc, hok⟩
 · show 0 ≤ x ∧ x < ((h.cs ++ [c]).length : Int)
   rw [List.length_append]
   rcases List.mem_append.1 hx with hx | hx
   · have := g.rin x hx; simp; omega
   · have : x = (h.cs.length : Int) := by simpa using hx
     simp; omega
 · have hi : (i : Int) < h.o := hi
   rcases zkh hx with ⟨_, h3⟩ | ⟨h3, rfl⟩
   · exact g.old i x h3 hi hl hor
   · omega
theorem zm6 {h : Hp} (g : Hg h) {r : Int} (hr : 0 ≤ r ∧ r < (h.cs.length : Int)) (h2 : h.rs.length < 60) : Hg (zmI h r) :=
 ⟨g.cells, g.clen, by show (h.rs ++ [r]).length ≤ 60; simp; omega, g.o0, g.o1, fun x hx => by
  rcases List.mem_append.1 hx with hx | hx
  · exact g.rin x hx
  · have : x = r := by simpa using hx
    rw [this]; exact hr, g.nup, g.nin, g.old⟩
theorem zmz {h : Hp} (g : Hg h) (a : Int) : Hg (zg8 h a) :=
 ⟨g.cells, g.clen, by
  show (h.rs.take a.toNat ++ h.rs.drop (a.toNat + 1)).length ≤ 60
  have := g.rlen
  simp; omega, g.o0, g.o1, fun x hx => by
  rcases List.mem_append.1 hx with hx | hx
  · exact g.rin x (List.mem_of_mem_take hx)
  · exact g.rin x (List.mem_of_mem_drop hx), g.nup, g.nin, g.old⟩
end Go.Den
namespace Go.Den
open Go
set_option linter.unusedVariables false
set_option maxRecDepth 100000
open Go.Proofs.YtcmcfebihbmmeaaDoor (num numV)
structure Ws where
 h : Hp
 full : Bool
 out : ByteArray
abbrev nlB : ByteArray := ByteArray.mk #[10]
abbrev zqc : ByteArray := ByteArray.mk #[115, 97, 109, 101, 10]
abbrev zoH : ByteArray := ByteArray.mk #[111, 116, 104, 101, 114, 10]
noncomputable def tidyH (fr : Bool) (room nur : Int) (h : Hp) : Hp :=
 match fr with
 | true => h
 | false => match decide (nur ≤ (h.cs.length : Int) - h.o) with
   | true => (match decide (room ≤ ((zmZ h).cs.length : Int)) with | true => zbo (zmZ h) | false => zmZ h)
   | false => (match decide (room ≤ (h.cs.length : Int)) with | true => zbo h | false => h)
def zcT (fr : Bool) (room : Int) (h : Hp) : Bool := !fr && decide (room ≤ (h.cs.length : Int))
def rg (h : Hp) (a : Int) : Int := h.rs.getD a.toNat 0
def zdj (pair : Bool) (a b : Int) (h : Hp) : Cl := match pair with | true => ⟨false, 0, rg h a, rg h b⟩ | false => ⟨true, a, 0, 0⟩
def zlH (w : Ws) (second : Bool) (at_ : Int) : Ws := ⟨zmI w.h (match second with | true => (cg w.h.cs at_).b | false => (cg w.h.cs at_).a), w.full, w.out⟩
structure Op3 where
 k : Int
 a : Int
 b : Int
structure Iv (fr : Bool) (m : Nat) (w : Ws) : Prop where
 g : Hg w.h
 len : fr = true → w.h.cs.length ≤ m
 out : w.out.size ≤ 700 * m
theorem zot {h : Hp} {a : Int} (ha : zac a h.rs.length = true) : (0 ≤ a ∧ a < (h.rs.length : Int)) ∧ h.rs[a.toNat]? = some (rg h a) := by
 have h1 := zgg ha
 refine ⟨h1, ?_⟩
 have : a.toNat < h.rs.length := by omega
 unfold rg
 rw [List.getD_eq_getElem?_getD, List.getElem?_eq_getElem this]
 rfl
theorem zik {h : Hp} (g : Hg h) {a : Int} (ha : zac a h.rs.length = true) : 0 ≤ rg h a ∧ rg h a < (h.cs.length : Int) := g.rin _ (List.mem_of_getElem? (zot ha).2)
end Go.Den
namespace Go.Den
open Go
set_option linter.unusedVariables false
set_option maxRecDepth 100000
def zjz (b : Bool) (cs out opn : List Dat) : St := Nm [0, 2, 7, 8] [.dat (.lst b cs), .fn 63 [], .own 4 out, .own 3 opn] [none, none, none, none] [] []
theorem ze0 (kk m : Nat) {s : St} {K : X → St → Prop} (b : Bool) (cs out opn : List Dat) (g47 : Bool) (x24 : Int) (g33 : Bool) (g100036 : Bool) (c39 : Cl) (hs : s.norm ((zae cfg kk 62 Go.Proofs.Tryd.f62).live (zaa (lp Go.Proofs.Tryd.f62 2))) = zjz b cs out opn) (q1 : (decide (0 < (opn.length : Int)) = true) → (g33 = true) → (0 ≤ w64 ((opn.length : Int) - 1) ∧ w64 ((opn.length : Int) - 1) < (opn.length : Int)) ∧ (opn[(w64 ((opn.length : Int) - 1)).toNat]? = some (I x24)) ∧ (0 ≤ w64 ((opn.length : Int) - 1) ∧ w64 ((opn.length : Int) - 1) ≤ (opn.length : Int)) ∧ (0 ≤ x24 ∧ x24 < (out.length : Int)) ∧ (out[x24.toNat]? = some (B g33)) ∧ (∀ s : St, s.norm ((zae cfg kk 62 Go.Proofs.Tryd.f62).live (zaa (lp Go.Proofs.Tryd.f62 2))) = Nm [0, 2, 7, 8] [D.dat (Dat.lst b cs), D.fn 63 [], D.own 4 out, D.own 3 (List.take (w64 ((opn.length : Int) - 1)).toNat opn)] [none, none, none, none] [] [] → zad (zae cfg kk 62 Go.Proofs.Tryd.f62) kk (lp Go.Proofs.Tryd.f62 2) m s K)) (q2 : (decide (0 < (opn.length : Int)) = true) → (g33 = false) → ((!c39.l) = true) → (g47 = true) → (0 ≤ w64 ((opn.length : Int) - 1) ∧ w64 ((opn.length : Int) - 1) < (opn.length : Int)) ∧ (opn[(w64 ((opn.length : Int) - 1)).toNat]? = some (I x24)) ∧ (0 ≤ w64 ((opn.length : Int) - 1) ∧ w64 ((opn.length : Int) - 1) ≤ (opn.length : Int)) ∧ (0 ≤ x24 ∧ x24 < (out.length : Int)) ∧ (out[x24.toNat]? = some (B g33)) ∧ (0 ≤ x24 ∧ x24 < (out.length : Int)) ∧ (out[x24.toNat]? = some (B g100036)) ∧ ((0 ≤ x24 ∧ x24 < (cs.length : Int)) ∧ cs[x24.toNat]? = some (Dat.agg [B c39.l, I c39.n, I c39.a, I c39.b])) ∧ (den cfg kk 63 [D.dat (I x24)] [] [] = some ([D.dat (B g47)], [], [])) ∧ ((List.take (w64 ((opn.length : Int) - 1)).toNat opn).length + 2 ≤ 2147483648) ∧ (∀ s : St, s.norm ((zae cfg kk 62 Go.Proofs.Tryd.f62).live (zaa (lp Go.Proofs.Tryd.f62 2))) = Nm [0, 2, 7, 8] [D.dat (Dat.lst b cs), D.fn 63 [], D.own 4 (out.set x24.toNat (B true)), D.own 3 (List.take (w64 ((opn.length : Int) - 1)).toNat opn ++ [I c39.a, I c39.b])] [none, none, none, none] [] [] → zad (zae cfg kk 62 Go.Proofs.Tryd.f62) kk (lp Go.Proofs.Tryd.f62 2) m s K)) (q3 : (decide (0 < (opn.length : Int)) = true) → (g33 = false) → ((!c39.l) = true) → (g47 = false) → (0 ≤ w64 ((opn.length : Int) - 1) ∧ w64 ((opn.length : Int) - 1) < (opn.length : Int)) ∧ (opn[(w64 ((opn.length : Int) - 1)).toNat]? = some (I x24)) ∧ (0 ≤ w64 ((opn.length : Int) - 1) ∧ w64 ((opn.length : Int) - 1) ≤ (opn.length : Int)) ∧ (0 ≤ x24 ∧ x24 < (out.length : Int)) ∧ (out[x24.toNat]? = some (B g33)) ∧ (0 ≤ x24 ∧ x24 < (out.length : Int)) ∧ (out[x24.toNat]? = some (B g100036)) ∧ ((0 ≤ x24 ∧ x24 < (cs.length : Int)) ∧ cs[x24.toNat]? = some (Dat.agg [B c39.l, I c39.n, I c39.a, I c39.b])) ∧ (den cfg kk 63 [D.dat (I x24)] [] [] = some ([D.dat (B g47)], [], [])) ∧ (∀ s : St, s.norm ((zae cfg kk 62 Go.Proofs.Tryd.f62).live (zaa (lp Go.Proofs.Tryd.f62 2))) = Nm [0, 2, 7, 8] [D.dat (Dat.lst b cs), D.fn 63 [], D.own 4 (out.set x24.toNat (B true)), D.own 3 (List.take (w64 ((opn.length : Int) - 1)).toNat opn)] [none, none, none, none] [] [] → zad (zae cfg kk 62 Go.Proofs.Tryd.f62) kk (lp Go.Proofs.Tryd.f62 2) m s K)) (q4 : (decide (0 < (opn.length : Int)) = true) → (g33 = false) → ((!c39.l) = false) → (0 ≤ w64 ((opn.length : Int) - 1) ∧ w64 ((opn.length : Int) - 1) < (opn.length : Int)) ∧ (opn[(w64 ((opn.length : Int) - 1)).toNat]? = some (I x24)) ∧ (0 ≤ w64 ((opn.length : Int) - 1) ∧ w64 ((opn.length : Int) - 1) ≤ (opn.length : Int)) ∧ (0 ≤ x24 ∧ x24 < (out.length : Int)) ∧ (out[x24.toNat]? = some (B g33)) ∧ (0 ≤ x24 ∧ x24 < (out.length : Int)) ∧ (out[x24.toNat]? = some (B g100036)) ∧ ((0 ≤ x24 ∧ x24 < (cs.length : Int)) ∧ cs[x24.toNat]? = some (Dat.agg [B c39.l, I c39.n, I c39.a, I c39.b])) ∧ (∀ s : St, s.norm ((zae cfg kk 62 Go.Proofs.Tryd.f62).live (zaa (lp Go.Proofs.Tryd.f62 2))) = Nm [0, 2, 7, 8] [D.dat (Dat.lst b cs), D.fn 63 [], D.own 4 (out.set x24.toNat (B true)), D.own 3 (List.take (w64 ((opn.length : Int) - 1)).toNat opn)] [none, none, none, none] [] [] → zad (zae cfg kk 62 Go.Proofs.Tryd.f62) kk (lp Go.Proofs.Tryd.f62 2) m s K)) (q5 : (decide (0 < (opn.length : Int)) = false) → K (X.exit 0) (Nm [7] [D.own 4 out] [none] [] [])) : zad (zae cfg kk 62 Go.Proofs.Tryd.f62) kk (lp Go.Proofs.Tryd.f62 2) (m + 1) s K := by
 rcases Bool.eq_false_or_eq_true (decide (0 < (opn.length : Int))) with d1 | d1
 · rcases Bool.eq_false_or_eq_true (g33) with d7 | d7
   · obtain ⟨hz1, hz2, hz3, hz4, hz5, oz⟩ := q1 d1 d7
     exact zal [(47, .ret [.dat (B g47)]), (23, .ok), (24, .at (I x24)), (29, .ok), (32, .ok), (33, .at (B g33)), (36, .ok), (100036, .at (B g100036)), (39, .at (c39.d)), (55, .ok), (200018, .yes), (200033, .yes)] hs (by kernel_rfl) (ob d1 (ob hz1 (ob hz2 (ob hz3 (ob hz4 (ob hz5 (ob d7 ob0))))))) (by kernel_rfl) oz
   · rcases Bool.eq_false_or_eq_true ((!c39.l)) with d11 | d11
     · rcases Bool.eq_false_or_eq_true (g47) with d15 | d15
       · obtain ⟨hz1, hz2, hz3, hz4, hz5, hz6, hz7, hz8, hz9, hz10, oz⟩ := q2 d1 d7 d11 d15
         exact zal [(47, .ret [.dat (B g47)]), (23, .ok), (24, .at (I x24)), (29, .ok), (32, .ok), (33, .at (B g33)), (36, .ok), (100036, .at (B g100036)), (39, .at (c39.d)), (55, .ok), (200018, .yes), (200033, .no), (200044, .yes), (200048, .yes)] hs (by kernel_rfl) (ob d1 (ob hz1 (ob hz2 (ob hz3 (ob hz4 (ob hz5 (ob d7 (ob hz6 (ob hz7 (ob hz8 (ob d11 (ob (rfl : true = true) (ob (rfl : true = true) (ob hz9 (ob d15 (ob (obT hz10) ob0)))))))))))))))) (by kernel_rfl) oz
       · obtain ⟨hz1, hz2, hz3, hz4, hz5, hz6, hz7, hz8, hz9, oz⟩ := q3 d1 d7 d11 d15
         exact zal [(47, .ret [.dat (B g47)]), (23, .ok), (24, .at (I x24)), (29, .ok), (32, .ok), (33, .at (B g33)), (36, .ok), (100036, .at (B g100036)), (39, .at (c39.d)), (55, .ok), (200018, .yes), (200033, .no), (200044, .yes), (200048, .no)] hs (by kernel_rfl) (ob d1 (ob hz1 (ob hz2 (ob hz3 (ob hz4 (ob hz5 (ob d7 (ob hz6 (ob hz7 (ob hz8 (ob d11 (ob (rfl : true = true) (ob (rfl : true = true) (ob hz9 (ob d15 ob0))))))))))))))) (by kernel_rfl) oz
     · obtain ⟨hz1, hz2, hz3, hz4, hz5, hz6, hz7, hz8, oz⟩ := q4 d1 d7 d11
       exact zal [(47, .ret [.dat (B g47)]), (23, .ok), (24, .at (I x24)), (29, .ok), (32, .ok), (33, .at (B g33)), (36, .ok), (100036, .at (B g100036)), (39, .at (c39.d)), (55, .ok), (200018, .yes), (200033, .no), (200044, .no)] hs (by kernel_rfl) (ob d1 (ob hz1 (ob hz2 (ob hz3 (ob hz4 (ob hz5 (ob d7 (ob hz6 (ob hz7 (ob hz8 (ob d11 (ob (rfl : false = false) (ob (rfl : false = false) ob0))))))))))))) (by kernel_rfl) oz
 · have oz := q5 d1
   exact zao [(47, .ret [.dat (B g47)]), (23, .ok), (24, .at (I x24)), (29, .ok), (32, .ok), (33, .at (B g33)), (36, .ok), (100036, .at (B g100036)), (39, .at (c39.d)), (55, .ok), (200018, .no)] hs (by kernel_rfl) rfl (ob d1 ob0) (by kernel_rfl) oz
theorem zqu (kk : Nat) (b b1 : Bool) (cs fr opn out : List Dat) {r : Res} (q1 : (den cfg kk 82 [D.dat (Dat.lst b1 fr)] [] [] = some ([D.own 3 opn], [], [])) ∧ (0 ≤ (cs.length : Int) ∧ (cs.length : Int) ≤ (cs.length : Int) ∧ (cs.length : Int) ≤ 2147483648) ∧ (zaS cfg kk 62 Go.Proofs.Tryd.f62 2 (zjz b cs (List.replicate cs.length (B false)) opn) (X.exit 0) (Nm [7] [D.own 4 out] [none] [] [])) ∧ r = ([D.own 4 out], [], [])) : zam cfg kk (den cfg kk) 62 Go.Proofs.Tryd.f62 [.dat (Dat.lst b cs), .dat (Dat.lst b1 fr), .fn 63 []] [] [] = some r := by
 obtain ⟨hz1, hz2, hz3, oz⟩ := q1
 subst oz; exact zab [(15, .ret [.own 3 opn]), (300002, .loop (zjz b cs (List.replicate cs.length (B false)) opn) (.exit 0) (Nm [7] [.own 4 out] [none] [] [])), (13, .ok)] (ob hz1 (ob hz2 (ob (rfl : _ = zjz b cs (List.replicate cs.length (B false)) opn) (ob hz3 ob0)))) (by kernel_rfl)
theorem zqw (kk : Nat) (x : Int) {r : Res} (q1 : r = ([D.dat (B true)], [], [])) : zam cfg kk (den cfg kk) 63 Go.Proofs.Tryd.f63 [.dat (I x)] [] [] = some r := by
 have oz := q1
 subst oz; exact zab [] ob0 (by kernel_rfl)
def zgz (b kb rb : Bool) (cs rs ks : List Dat) (to : List Dat) (n i : Int) : St := Nm [0, 1, 2, 8, 9, 10, 11, 23, 24, 25] [.dat (.lst b cs), .dat (.lst rb rs), .dat (.lst kb ks), .own 3 to, .own 97 [], .own 3 [], .dat (I n), .dat (.lst kb ks), .dat (I ks.length), .dat (I i)] [none, none, none, none, none, none, none, none, none, none] [] []
theorem zl0 (kk m : Nat) {s : St} {K : X → St → Prop} (b kb rb : Bool) (cs rs ks : List Dat) (to : List Dat) (n i : Int) (g28 : Bool) (x100033 : Int) (hs : s.norm ((zae cfg kk 118 Go.Proofs.Tryd.f118).live (zaa (lp Go.Proofs.Tryd.f118 4))) = zgz b kb rb cs rs ks to n i) (q1 : (decide (i < (ks.length : Int)) = true) → (g28 = true) → ((0 ≤ i ∧ i < (ks.length : Int)) ∧ ks[i.toNat]? = some (B g28)) ∧ (0 ≤ i ∧ i < (to.length : Int)) ∧ (to[i.toNat]? = some (I x100033)) ∧ (∀ s : St, s.norm ((zae cfg kk 118 Go.Proofs.Tryd.f118).live (zaa (lp Go.Proofs.Tryd.f118 4))) = Nm [0, 1, 2, 8, 9, 10, 11, 23, 24, 25] [D.dat (Dat.lst b cs), D.dat (Dat.lst rb rs), D.dat (Dat.lst kb ks), D.own 3 (to.set i.toNat (I n)), D.own 97 [], D.own 3 [], D.dat (I (w64 (n + 1))), D.dat (Dat.lst kb ks), D.dat (I (ks.length : Int)), D.dat (I (w64 (i + 1)))] [none, none, none, none, none, none, none, none, none, none] [] [] → zad (zae cfg kk 118 Go.Proofs.Tryd.f118) kk (lp Go.Proofs.Tryd.f118 4) m s K)) (q2 : (decide (i < (ks.length : Int)) = true) → (g28 = false) → ((0 ≤ i ∧ i < (ks.length : Int)) ∧ ks[i.toNat]? = some (B g28)) ∧ (0 ≤ i ∧ i < (to.length : Int)) ∧ (to[i.toNat]? = some (I x100033)) ∧ (∀ s : St, s.norm ((zae cfg kk 118 Go.Proofs.Tryd.f118).live (zaa (lp Go.Proofs.Tryd.f118 4))) = Nm [0, 1, 2, 8, 9, 10, 11, 23, 24, 25] [D.dat (Dat.lst b cs), D.dat (Dat.lst rb rs), D.dat (Dat.lst kb ks), D.own 3 (to.set i.toNat (I n)), D.own 97 [], D.own 3 [], D.dat (I n), D.dat (Dat.lst kb ks), D.dat (I (ks.length : Int)), D.dat (I (w64 (i + 1)))] [none, none, none, none, none, none, none, none, none, none] [] [] → zad (zae cfg kk 118 Go.Proofs.Tryd.f118) kk (lp Go.Proofs.Tryd.f118 4) m s K)) (q3 : (decide (i < (ks.length : Int)) = false) → K (X.exit 0) (Nm [0, 1, 2, 8, 9, 10] [D.dat (Dat.lst b cs), D.dat (Dat.lst rb rs), D.dat (Dat.lst kb ks), D.own 3 to, D.own 97 [], D.own 3 []] [none, none, none, none, none, none] [] [])) : zad (zae cfg kk 118 Go.Proofs.Tryd.f118) kk (lp Go.Proofs.Tryd.f118 4) (m + 1) s K := by
 rcases Bool.eq_false_or_eq_true (decide (i < (ks.length : Int))) with d1 | d1
 · rcases Bool.eq_false_or_eq_true (g28) with d5 | d5
   · obtain ⟨hz1, hz2, hz3, oz⟩ := q1 d1 d5
     exact zal [(28, .at (B g28)), (33, .ok), (100033, .at (I x100033)), (200026, .yes), (200034, .yes)] hs (by kernel_rfl) (ob d1 (ob hz1 (ob hz2 (ob hz3 (ob d5 ob0))))) (by kernel_rfl) oz
   · obtain ⟨hz1, hz2, hz3, oz⟩ := q2 d1 d5
     exact zal [(28, .at (B g28)), (33, .ok), (100033, .at (I x100033)), (200026, .yes), (200034, .no)] hs (by kernel_rfl) (ob d1 (ob hz1 (ob hz2 (ob hz3 (ob d5 ob0))))) (by kernel_rfl) oz
 · have oz := q3 d1
   exact zao [(28, .at (B g28)), (33, .ok), (100033, .at (I x100033)), (200026, .no)] hs (by kernel_rfl) rfl (ob d1 ob0) (by kernel_rfl) oz
def zgX (b kb rb : Bool) (cs rs ks : List Dat) (to acc : List Dat) (i : Int) : St := Nm [1, 2, 8, 9, 10, 38, 39, 40] [.dat (.lst rb rs), .dat (.lst kb ks), .own 3 to, .own 97 acc, .own 3 [], .dat (.lst b cs), .dat (I cs.length), .dat (I i)] [none, none, none, none, none, none, none, none] [] []
theorem zkm (kk m : Nat) {s : St} {K : X → St → Prop} (b kb rb : Bool) (cs rs ks : List Dat) (to acc : List Dat) (i : Int) (c43 : Cl) (g47 : Bool) (x57 : Int) (x62 : Int) (hs : s.norm ((zae cfg kk 118 Go.Proofs.Tryd.f118).live (zaa (lp Go.Proofs.Tryd.f118 11))) = zgX b kb rb cs rs ks to acc i) (q1 : (decide (i < (cs.length : Int)) = true) → ((!g47) = true) → ((0 ≤ i ∧ i < (cs.length : Int)) ∧ cs[i.toNat]? = some (Dat.agg [B c43.l, I c43.n, I c43.a, I c43.b])) ∧ ((0 ≤ i ∧ i < (ks.length : Int)) ∧ ks[i.toNat]? = some (B g47)) ∧ (∀ s : St, s.norm ((zae cfg kk 118 Go.Proofs.Tryd.f118).live (zaa (lp Go.Proofs.Tryd.f118 11))) = Nm [1, 2, 8, 9, 10, 38, 39, 40] [D.dat (Dat.lst rb rs), D.dat (Dat.lst kb ks), D.own 3 to, D.own 97 acc, D.own 3 [], D.dat (Dat.lst b cs), D.dat (I (cs.length : Int)), D.dat (I (w64 (i + 1)))] [none, none, none, none, none, none, none, none] [] [] → zad (zae cfg kk 118 Go.Proofs.Tryd.f118) kk (lp Go.Proofs.Tryd.f118 11) m s K)) (q2 : (decide (i < (cs.length : Int)) = true) → ((!g47) = false) → ((!c43.l) = true) → ((0 ≤ i ∧ i < (cs.length : Int)) ∧ cs[i.toNat]? = some (Dat.agg [B c43.l, I c43.n, I c43.a, I c43.b])) ∧ ((0 ≤ i ∧ i < (ks.length : Int)) ∧ ks[i.toNat]? = some (B g47)) ∧ (0 ≤ c43.a ∧ c43.a < (to.length : Int)) ∧ (to[c43.a.toNat]? = some (I x57)) ∧ (0 ≤ c43.b ∧ c43.b < (to.length : Int)) ∧ (to[c43.b.toNat]? = some (I x62)) ∧ (acc.length + 1 ≤ 2147483648) ∧ (∀ s : St, s.norm ((zae cfg kk 118 Go.Proofs.Tryd.f118).live (zaa (lp Go.Proofs.Tryd.f118 11))) = Nm [1, 2, 8, 9, 10, 38, 39, 40] [D.dat (Dat.lst rb rs), D.dat (Dat.lst kb ks), D.own 3 to, D.own 97 (acc ++ [Dat.agg [B c43.l, I c43.n, I x57, I x62]]), D.own 3 [], D.dat (Dat.lst b cs), D.dat (I (cs.length : Int)), D.dat (I (w64 (i + 1)))] [none, none, none, none, none, none, none, none] [] [] → zad (zae cfg kk 118 Go.Proofs.Tryd.f118) kk (lp Go.Proofs.Tryd.f118 11) m s K)) (q3 : (decide (i < (cs.length : Int)) = true) → ((!g47) = false) → ((!c43.l) = false) → ((0 ≤ i ∧ i < (cs.length : Int)) ∧ cs[i.toNat]? = some (Dat.agg [B c43.l, I c43.n, I c43.a, I c43.b])) ∧ ((0 ≤ i ∧ i < (ks.length : Int)) ∧ ks[i.toNat]? = some (B g47)) ∧ (acc.length + 1 ≤ 2147483648) ∧ (∀ s : St, s.norm ((zae cfg kk 118 Go.Proofs.Tryd.f118).live (zaa (lp Go.Proofs.Tryd.f118 11))) = Nm [1, 2, 8, 9, 10, 38, 39, 40] [D.dat (Dat.lst rb rs), D.dat (Dat.lst kb ks), D.own 3 to, D.own 97 (acc ++ [Dat.agg [B c43.l, I c43.n, I c43.a, I c43.b]]), D.own 3 [], D.dat (Dat.lst b cs), D.dat (I (cs.length : Int)), D.dat (I (w64 (i + 1)))] [none, none, none, none, none, none, none, none] [] [] → zad (zae cfg kk 118 Go.Proofs.Tryd.f118) kk (lp Go.Proofs.Tryd.f118 11) m s K)) (q4 : (decide (i < (cs.length : Int)) = false) → K (X.exit 2) (Nm [1, 8, 9, 10] [D.dat (Dat.lst rb rs), D.own 3 to, D.own 97 acc, D.own 3 []] [none, none, none, none] [] [])) : zad (zae cfg kk 118 Go.Proofs.Tryd.f118) kk (lp Go.Proofs.Tryd.f118 11) (m + 1) s K := by
 rcases Bool.eq_false_or_eq_true (decide (i < (cs.length : Int))) with d1 | d1
 · rcases Bool.eq_false_or_eq_true ((!g47)) with d4 | d4
   · obtain ⟨hz1, hz2, oz⟩ := q1 d1 d4
     exact zal [(43, .at (c43.d)), (47, .at (B g47)), (68, .ok), (56, .ok), (57, .at (I x57)), (61, .ok), (62, .at (I x62)), (200041, .yes), (200049, .yes)] hs (by kernel_rfl) (ob d1 (ob hz1 (ob hz2 (ob d4 ob0)))) (by kernel_rfl) oz
   · rcases Bool.eq_false_or_eq_true ((!c43.l)) with d5 | d5
     · obtain ⟨hz1, hz2, hz3, hz4, hz5, hz6, hz7, oz⟩ := q2 d1 d4 d5
       exact zal [(43, .at (c43.d)), (47, .at (B g47)), (68, .ok), (56, .ok), (57, .at (I x57)), (61, .ok), (62, .at (I x62)), (200041, .yes), (200049, .no), (200052, .yes)] hs (by kernel_rfl) (ob d1 (ob hz1 (ob hz2 (ob d4 (ob d5 (ob hz3 (ob hz4 (ob hz5 (ob hz6 (ob (obT hz7) ob0)))))))))) (by kernel_rfl) oz
     · obtain ⟨hz1, hz2, hz3, oz⟩ := q3 d1 d4 d5
       exact zal [(43, .at (c43.d)), (47, .at (B g47)), (68, .ok), (56, .ok), (57, .at (I x57)), (61, .ok), (62, .at (I x62)), (200041, .yes), (200049, .no), (200052, .no)] hs (by kernel_rfl) (ob d1 (ob hz1 (ob hz2 (ob d4 (ob d5 (ob (obT hz3) ob0)))))) (by kernel_rfl) oz
 · have oz := q4 d1
   exact zao [(43, .at (c43.d)), (47, .at (B g47)), (68, .ok), (56, .ok), (57, .at (I x57)), (61, .ok), (62, .at (I x62)), (200041, .no)] hs (by kernel_rfl) rfl (ob d1 ob0) (by kernel_rfl) oz
def zgr (rb : Bool) (rs to acc qs : List Dat) (i : Int) : St := Nm [8, 9, 10, 70, 71, 72] [.own 3 to, .own 97 acc, .own 3 qs, .dat (.lst rb rs), .dat (I rs.length), .dat (I i)] [none, none, none, none, none, none] [] []
theorem zoO (kk m : Nat) {s : St} {K : X → St → Prop} (rb : Bool) (rs to acc qs : List Dat) (i : Int) (x74 : Int) (x80 : Int) (hs : s.norm ((zae cfg kk 118 Go.Proofs.Tryd.f118).live (zaa (lp Go.Proofs.Tryd.f118 19))) = zgr rb rs to acc qs i) (q1 : (decide (i < (rs.length : Int)) = true) → ((0 ≤ i ∧ i < (rs.length : Int)) ∧ rs[i.toNat]? = some (I x74)) ∧ (0 ≤ x74 ∧ x74 < (to.length : Int)) ∧ (to[x74.toNat]? = some (I x80)) ∧ (qs.length + 1 ≤ 2147483648) ∧ (∀ s : St, s.norm ((zae cfg kk 118 Go.Proofs.Tryd.f118).live (zaa (lp Go.Proofs.Tryd.f118 19))) = Nm [8, 9, 10, 70, 71, 72] [D.own 3 to, D.own 97 acc, D.own 3 (qs ++ [I x80]), D.dat (Dat.lst rb rs), D.dat (I (rs.length : Int)), D.dat (I (w64 (i + 1)))] [none, none, none, none, none, none] [] [] → zad (zae cfg kk 118 Go.Proofs.Tryd.f118) kk (lp Go.Proofs.Tryd.f118 19) m s K)) (q2 : (decide (i < (rs.length : Int)) = false) → K (X.exit 4) (Nm [9, 10] [D.own 97 acc, D.own 3 qs] [none, none] [] [])) : zad (zae cfg kk 118 Go.Proofs.Tryd.f118) kk (lp Go.Proofs.Tryd.f118 19) (m + 1) s K := by
 rcases Bool.eq_false_or_eq_true (decide (i < (rs.length : Int))) with d1 | d1
 · obtain ⟨hz1, hz2, hz3, hz4, oz⟩ := q1 d1
   exact zal [(74, .at (I x74)), (79, .ok), (80, .at (I x80)), (82, .ok), (200073, .yes)] hs (by kernel_rfl) (ob d1 (ob hz1 (ob hz2 (ob hz3 (ob (obT hz4) ob0))))) (by kernel_rfl) oz
 · have oz := q2 d1
   exact zao [(74, .at (I x74)), (79, .ok), (80, .at (I x80)), (82, .ok), (200073, .no)] hs (by kernel_rfl) rfl (ob d1 ob0) (by kernel_rfl) oz
theorem kept (kk : Nat) (b kb rb : Bool) (cs rs ks : List Dat) (to acc qs : List Dat) (n : Int) {r : Res} (q1 : (0 ≤ (cs.length : Int) ∧ (cs.length : Int) ≤ (cs.length : Int) ∧ (cs.length : Int) ≤ 2147483648) ∧ (zaS cfg kk 118 Go.Proofs.Tryd.f118 4 (zgz b kb rb cs rs ks (List.replicate cs.length (I 0)) 0 0) (X.exit 0) (Nm [0, 1, 2, 8, 9, 10] [D.dat (Dat.lst b cs), D.dat (Dat.lst rb rs), D.dat (Dat.lst kb ks), D.own 3 to, D.own 97 [], D.own 3 []] [none, none, none, none, none, none] [] [])) ∧ (zaS cfg kk 118 Go.Proofs.Tryd.f118 11 (zgX b kb rb cs rs ks to [] 0) (X.exit 2) (Nm [1, 8, 9, 10] [D.dat (Dat.lst rb rs), D.own 3 to, D.own 97 acc, D.own 3 []] [none, none, none, none] [] [])) ∧ (zaS cfg kk 118 Go.Proofs.Tryd.f118 19 (zgr rb rs to acc [] 0) (X.exit 4) (Nm [9, 10] [D.own 97 acc, D.own 3 qs] [none, none] [] [])) ∧ r = ([D.own 97 acc, D.own 3 qs], [], [])) : zam cfg kk (den cfg kk) 118 Go.Proofs.Tryd.f118 [.dat (Dat.lst b cs), .dat (Dat.lst rb rs), .dat (Dat.lst kb ks)] [] [] = some r := by
 obtain ⟨hz1, hz2, hz3, hz4, oz⟩ := q1
 subst oz; exact zab [(300004, .loop (zgz b kb rb cs rs ks (List.replicate cs.length (I 0)) 0 0) (.exit 0) (Nm [0, 1, 2, 8, 9, 10] [.dat (.lst b cs), .dat (.lst rb rs), .dat (.lst kb ks), .own 3 to, .own 97 [], .own 3 []] [none, none, none, none, none, none] [] [])), (300011, .loop (zgX b kb rb cs rs ks to [] 0) (.exit 2) (Nm [1, 8, 9, 10] [.dat (.lst rb rs), .own 3 to, .own 97 acc, .own 3 []] [none, none, none, none] [] [])), (300019, .loop (zgr rb rs to acc [] 0) (.exit 4) (Nm [9, 10] [.own 97 acc, .own 3 qs] [none, none] [] [])), (20, .ok)] (ob hz1 (ob (rfl : _ = zgz b kb rb cs rs ks (List.replicate cs.length (I 0)) 0 0) (ob hz2 (ob (rfl : _ = zgX b kb rb cs rs ks to [] 0) (ob hz3 (ob (rfl : _ = zgr rb rs to acc [] 0) (ob hz4 ob0))))))) (by kernel_rfl)
end Go.Den
namespace Go.Den
open Go
set_option linter.unusedVariables false
set_option maxRecDepth 100000
theorem zkY {α : Type} {E : Env} {kk : Nat} {c : Code} (st : Nat → α → St) (P : Nat → α → Prop) (n : Nat)
 (hgo : ∀ i a, i < n → P i a → ∃ a', P (i + 1) a' ∧ ∀ (m : Nat) (s : St) (K : X → St → Prop), s.norm (E.live (zaa c)) = st i a → (∀ s : St, s.norm (E.live (zaa c)) = st (i + 1) a' → zad E kk c m s K) → zad E kk c (m + 1) s K) :
 ∀ (d i : Nat) (a : α), i + d = n → P i a → ∃ a', P n a' ∧ ∀ K : X → St → Prop, (∀ (m : Nat) (s : St), s.norm (E.live (zaa c)) = st n a' → zad E kk c (m + 1) s K) → ∀ m, d < m → ∀ s : St, s.norm (E.live (zaa c)) = st i a → zad E kk c m s K := by
 intro d
 induction d with
 | zero =>
   intro i a hi hP
   have : i = n := by omega
   subst this
   refine ⟨a, hP, fun K hend m hm s hs => ?_⟩
   obtain ⟨m, rfl⟩ : ∃ k, m = k + 1 := ⟨m - 1, by omega⟩
   exact hend m s hs
 | succ d ih =>
   intro i a hi hP
   obtain ⟨a1, hP1, hstep⟩ := hgo i a (by omega) hP
   obtain ⟨a', hP', f⟩ := ih (i + 1) a1 (by omega) hP1
   refine ⟨a', hP', fun K hend m hm s hs => ?_⟩
   obtain ⟨m, rfl⟩ : ∃ k, m = k + 1 := ⟨m - 1, by omega⟩
   exact hstep m s K hs fun s hs => f K hend m (by omega) s hs
theorem zc9 {α : Type} {kk f : Nat} {fn : Func} {r : Nat} {x : X} (st : Nat → α → St) (fin : α → St) (P : Nat → α → Prop) (n : Nat) (hk : n < kk) (a0 : α) (h0 : P 0 a0)
 (hgo : ∀ i a, i < n → P i a → ∃ a', P (i + 1) a' ∧ ∀ (m : Nat) (s : St) (K : X → St → Prop), s.norm ((zae cfg kk f fn).live (zaa (lp fn r))) = st i a → (∀ s : St, s.norm ((zae cfg kk f fn).live (zaa (lp fn r))) = st (i + 1) a' → zad (zae cfg kk f fn) kk (lp fn r) m s K) → zad (zae cfg kk f fn) kk (lp fn r) (m + 1) s K)
 (hend : ∀ a, P n a → ∀ (m : Nat) (s : St) (K : X → St → Prop), s.norm ((zae cfg kk f fn).live (zaa (lp fn r))) = st n a → K x (fin a) → zad (zae cfg kk f fn) kk (lp fn r) (m + 1) s K) {s0 : St} (hs0 : s0 = st 0 a0) :
 ∃ a, P n a ∧ zaS cfg kk f fn r s0 x (fin a) := by
 obtain ⟨a', hP', f⟩ := zkY st P n hgo n 0 a0 (by omega) h0
 exact ⟨a', hP', zcg fun s hs => f _ (fun m s hs => hend a' hP' m s _ hs ⟨rfl, rfl⟩) kk hk s (by rw [hs, hs0])⟩
theorem zje {α : Type} {E : Env} {kk : Nat} {c : Code} (st : α → St) (P fin : α → Prop) (μ : α → Nat)
 (hgo : ∀ a, P a → fin a ∨ ∃ a', P a' ∧ μ a' < μ a ∧ ∀ (m : Nat) (s : St) (K : X → St → Prop), s.norm (E.live (zaa c)) = st a → (∀ s : St, s.norm (E.live (zaa c)) = st a' → zad E kk c m s K) → zad E kk c (m + 1) s K) :
 ∀ (d : Nat) (a : α), μ a ≤ d → P a → ∃ a', P a' ∧ fin a' ∧ ∀ K : X → St → Prop, (∀ (m : Nat) (s : St), s.norm (E.live (zaa c)) = st a' → zad E kk c (m + 1) s K) → ∀ m, d < m → ∀ s : St, s.norm (E.live (zaa c)) = st a → zad E kk c m s K := by
 intro d
 induction d with
 | zero =>
   intro a hd hP
   rcases hgo a hP with hf | ⟨a', _, h, _⟩
   · refine ⟨a, hP, hf, fun K hend m hm s hs => ?_⟩
     obtain ⟨m, rfl⟩ : ∃ k, m = k + 1 := ⟨m - 1, by omega⟩
     exact hend m s hs
   · omega
 | succ d ih =>
   intro a hd hP
   rcases hgo a hP with hf | ⟨a1, hP1, h1, hstep⟩
   · refine ⟨a, hP, hf, fun K hend m hm s hs => ?_⟩
     obtain ⟨m, rfl⟩ : ∃ k, m = k + 1 := ⟨m - 1, by omega⟩
     exact hend m s hs
   · obtain ⟨a', hP', hf, f⟩ := ih a1 (by omega) hP1
     refine ⟨a', hP', hf, fun K hend m hm s hs => ?_⟩
     obtain ⟨m, rfl⟩ : ∃ k, m = k + 1 := ⟨m - 1, by omega⟩
     exact hstep m s K hs fun s hs => f K hend m (by omega) s hs
theorem zdB {α : Type} {kk f : Nat} {fn : Func} {r : Nat} {x : X} (st fst : α → St) (P fin : α → Prop) (μ : α → Nat) (a0 : α) (hk : μ a0 < kk) (h0 : P a0)
 (hgo : ∀ a, P a → fin a ∨ ∃ a', P a' ∧ μ a' < μ a ∧ ∀ (m : Nat) (s : St) (K : X → St → Prop), s.norm ((zae cfg kk f fn).live (zaa (lp fn r))) = st a → (∀ s : St, s.norm ((zae cfg kk f fn).live (zaa (lp fn r))) = st a' → zad (zae cfg kk f fn) kk (lp fn r) m s K) → zad (zae cfg kk f fn) kk (lp fn r) (m + 1) s K)
 (hend : ∀ a, P a → fin a → ∀ (m : Nat) (s : St) (K : X → St → Prop), s.norm ((zae cfg kk f fn).live (zaa (lp fn r))) = st a → K x (fst a) → zad (zae cfg kk f fn) kk (lp fn r) (m + 1) s K) {s0 : St} (hs0 : s0 = st a0) :
 ∃ a, P a ∧ fin a ∧ zaS cfg kk f fn r s0 x (fst a) := by
 obtain ⟨a', hP', hf, f⟩ := zje st P fin μ hgo (μ a0) a0 (Nat.le_refl _) h0
 exact ⟨a', hP', hf, zcg fun s hs => f _ (fun m s hs => hend a' hP' hf m s _ hs ⟨rfl, rfl⟩) kk hk s (by rw [hs, hs0])⟩
abbrev BD (ks : List Bool) : List Dat := ks.map (B ·)
abbrev ID (zs : List Int) : List Dat := zs.map (I ·)
abbrev CD (cs : List Cl) : List Dat := cs.map Cl.d
theorem zfY (ks : List Bool) : (BD ks).length = ks.length := by simp
theorem zfb {ks : List Bool} {i : Int} (h0 : 0 ≤ i) (h : i < (ks.length : Int)) : (0 ≤ i ∧ i < ((BD ks).length : Int)) ∧ (BD ks)[i.toNat]? = some (B (ks.getD i.toNat false)) := by
 have hlt : i.toNat < ks.length := by omega
 refine ⟨⟨h0, by simpa using h⟩, ?_⟩
 rw [List.getElem?_map, List.getD_eq_getElem?_getD, List.getElem?_eq_getElem hlt]
 rfl
theorem zfn (ks : List Bool) (i : Nat) : (BD ks).set i (B true) = BD (ks.set i true) := by simp [BD, List.map_set]
theorem zmS (n : Nat) : List.replicate n (B false) = BD (List.replicate n false) := by simp [BD]
theorem zoG (n : Nat) : List.replicate n (I 0) = ID (List.replicate n 0) := by simp [ID]
theorem zki (zs : List Int) (i : Nat) (x : Int) : (ID zs).set i (I x) = ID (zs.set i x) := by simp [ID, List.map_set]
theorem znd {c : List Cl} {i : Int} (h0 : 0 ≤ i) (h : i < (c.length : Int)) : (0 ≤ i ∧ i < ((CD c).length : Int)) ∧ (CD c)[i.toNat]? = some (cg c i).d := ih2 h0 (zn2 h0 h)
theorem znD {zs : List Int} {i : Nat} {x : Int} (h : zs[i]? = some x) : (0 ≤ (i : Int) ∧ (i : Int) < ((ID zs).length : Int)) ∧ (ID zs)[((i : Int)).toNat]? = some (I x) := ih (gm (f := (I ·)) h)
structure RInv (c : List Cl) (on : Int → Prop) (fr : List Int) (out : List Bool) (op : List Int) : Prop where
 len : out.length = c.length
 rin : ∀ x ∈ op, 0 ≤ x ∧ x < (c.length : Int)
 src : ∀ x ∈ fr, K out x ∨ x ∈ op
 shut : ∀ i, 0 ≤ i → K out i → on i → (cg c i).l = false → (K out (cg c i).a ∨ (cg c i).a ∈ op) ∧ (K out (cg c i).b ∨ (cg c i).b ∈ op)
 sound : ∀ i, 0 ≤ i → K out i → Rch c on (· ∈ fr) i
 soundO : ∀ x ∈ op, Rch c on (· ∈ fr) x
theorem RInv.start {c : List Cl} {on : Int → Prop} {fr : List Int} (h : ∀ x ∈ fr, 0 ≤ x ∧ x < (c.length : Int)) : RInv c on fr (List.replicate c.length false) fr :=
 ⟨by simp, h, fun x hx => .inr hx, fun i _ hk => absurd hk (znz _ _), fun i _ hk => absurd hk (znz _ _), fun x hx => .src hx⟩
theorem RInv.skip {c : List Cl} {on : Int → Prop} {fr l : List Int} {out : List Bool} {x : Int} (h : RInv c on fr out (l ++ [x])) (hk : K out x) : RInv c on fr out l := by
 have hm : ∀ y, y ∈ l ++ [x] → K out y ∨ y ∈ l := fun y hy => by
  rcases List.mem_append.1 hy with hy | hy
  · exact .inr hy
  · have : y = x := by simpa using hy
    rw [this]; exact .inl hk
 exact ⟨h.len, fun y hy => h.rin y (by simp [hy]), fun y hy => (h.src y hy).elim .inl (hm y), fun i hi hki ho hl => ⟨(h.shut i hi hki ho hl).1.elim .inl (hm _), (h.shut i hi hki ho hl).2.elim .inl (hm _)⟩, h.sound, fun y hy => h.soundO y (by simp [hy])⟩
theorem RInv.mark {c : List Cl} {on : Int → Prop} {fr l l' : List Int} {out : List Bool} {x : Int} (hw : Wf c) (h : RInv c on fr out (l ++ [x])) (hl' : ∀ y, y ∈ l' ↔ y ∈ l ∨ (on x ∧ (cg c x).l = false ∧ (y = (cg c x).a ∨ y = (cg c x).b))) : RInv c on fr (out.set x.toNat true) l' := by
 obtain ⟨x0, x1⟩ := h.rin x (by simp)
 have hx : Rch c on (· ∈ fr) x := h.soundO x (by simp)
 have hks : ∀ j, 0 ≤ j → (K (out.set x.toNat true) j ↔ (j = x ∨ K out j)) := fun j hj => zmF x0 (by rw [h.len]; exact x1) j hj
 have hm : ∀ y, 0 ≤ y → y ∈ l ++ [x] → K (out.set x.toNat true) y ∨ y ∈ l' := fun y y0 hy => by
  rcases List.mem_append.1 hy with hy | hy
  · exact .inr ((hl' y).2 (.inl hy))
  · have : y = x := by simpa using hy
    rw [this]; exact .inl ((hks x x0).2 (.inl rfl))
 refine ⟨by simpa using h.len, fun y hy => ?_, fun y hy => ?_, fun i hi hk ho hl => ?_, fun i hi hk => ?_, fun y hy => ?_⟩
 · rcases (hl' y).1 hy with hy | ⟨_, hlf, hy⟩
   · exact h.rin y (by simp [hy])
   · rcases hy with rfl | rfl
     · exact (hw x x0 x1 hlf).1
     · exact (hw x x0 x1 hlf).2
 · rcases h.src y hy with hk | hy
   · by_cases y0 : 0 ≤ y
     · exact .inl ((hks y y0).2 (.inr hk))
     · left
       unfold K at hk ⊢
       have e : y.toNat = 0 := by omega
       rw [e] at hk ⊢
       rw [List.getD_eq_getElem?_getD, List.getElem?_set]
       rw [List.getD_eq_getElem?_getD] at hk
       split
       · split
         · rfl
         · rename_i hlt
           rw [List.getElem?_eq_none (by omega)] at hk
           cases hk
       · exact hk
   · exact hm y (h.rin y hy).1 hy
 · by_cases hix : i = x
   · subst hix
     exact ⟨.inr ((hl' _).2 (.inr ⟨ho, hl, .inl rfl⟩)), .inr ((hl' _).2 (.inr ⟨ho, hl, .inr rfl⟩))⟩
   · have hk0 : K out i := ((hks i hi).1 hk).resolve_left hix
     have hlt := K_lt hi hk0
     obtain ⟨⟨a0, _⟩, b0, _⟩ := hw i hi (by have := h.len; omega) hl
     have := h.shut i hi hk0 ho hl
     exact ⟨this.1.elim (fun h => .inl ((hks _ a0).2 (.inr h))) (hm _ a0), this.2.elim (fun h => .inl ((hks _ b0).2 (.inr h))) (hm _ b0)⟩
 · rcases (hks i hi).1 hk with rfl | hk
   · exact hx
   · exact h.sound i hi hk
 · rcases (hl' y).1 hy with hy | ⟨ho, hlf, hy⟩
   · exact h.soundO y (by simp [hy])
   · rcases hy with rfl | rfl
     · exact .a hx ho hlf
     · exact .b hx ho hlf
theorem RInv.done {c : List Cl} {on : Int → Prop} {fr : List Int} {out : List Bool} (hw : Wf c) (hfr : ∀ x ∈ fr, 0 ≤ x ∧ x < (c.length : Int)) (h : RInv c on fr out []) : out = zfk c.length (Rch c on (· ∈ fr)) := by
 refine zp8 (by rw [h.len, zaU]) fun i hi => ?_
 rw [zb4 hi]
 refine ⟨fun hk => ⟨by have := K_lt hi hk; have := h.len; omega, h.sound i hi hk⟩, fun ⟨_, hr⟩ => ?_⟩
 have no : ∀ y : Int, K out y ∨ y ∈ ([] : List Int) → K out y := fun y hy => hy.elim id fun h => by cases h
 exact (Rch.in_ hw (fun j hj => ⟨(hfr j hj).1, (hfr j hj).2, no j (h.src j hj)⟩) (fun j h0 hj ho hle => ⟨no _ (h.shut j h0 hj ho hle).1, no _ (h.shut j h0 hj ho hle).2⟩) hr).2.2
theorem zpw {op : List Int} (h : 0 < op.length) : ∃ l x, op = l ++ [x] := ⟨op.dropLast, op.getLast (by intro e; rw [e] at h; simp at h), (List.dropLast_concat_getLast _).symm⟩
theorem znu {l : List Int} {x : Int} (hb : l.length ≤ 1000000) : w64 (((ID (l ++ [x])).length : Int) - 1) = (l.length : Int) ∧ (ID (l ++ [x]))[((l.length : Int)).toNat]? = some (I x) ∧ List.take ((l.length : Int)).toNat (ID (l ++ [x])) = ID l := by
 refine ⟨?_, ?_, ?_⟩
 · rw [List.length_map, List.length_append, zbn (by simp; omega)]; simp
 · rw [Int.toNat_natCast, List.getElem?_map, List.getElem?_append_right (Nat.le_refl _)]; simp
 · rw [Int.toNat_natCast]
   show List.take l.length (List.map _ (l ++ [x])) = _
   rw [List.map_append, List.take_append_of_le_length (by simp), List.take_of_length_le (by simp)]
theorem zfm (b : Bool) (zs : List Int) (h : zs.length ≤ 1000000) : EvN 1 82 [.dat (.lst b (ID zs))] [] [] ([.own 3 (ID zs)], [], []) := by
 refine zfK (g := zdc 3 1) (by kernel_rfl) ?_
 have hw : zhS 1 (ID zs) = true := by
  induction zs with
  | nil => rfl
  | cons z zs ih => exact ih (by simp at h; omega)
 have hl : Nat.ble (ID zs).length 1000000 = true := by simpa using h
 unfold zdc
 simp only [hw, hl, Bool.and_self]
theorem zhK (b b1 : Bool) (c : List Cl) (fr : List Int) (hw : Wf c) (hc : c.length ≤ 200) (hfr : ∀ x ∈ fr, 0 ≤ x ∧ x < (c.length : Int)) (hl : fr.length ≤ 1000) :
 EvN 3000 62 [.dat (.lst b (CD c)), .dat (.lst b1 (ID fr)), .fn 63 []] [] [] ([.own 4 (BD (zfk c.length (Rch c (fun _ => True) (· ∈ fr))))], [], []) := by
 refine zaO Go.Proofs.Tryd.f62 2999 (by kernel_rfl) (by kernel_rfl) fun kk hkk => ?_
 have hlc : (CD c).length = c.length := by simp
 have hlack := zpp (List.replicate c.length false)
 rw [List.length_replicate] at hlack
 obtain ⟨⟨out, op⟩, hP, hfin, hloop⟩ := zdB (kk := kk) (f := 62) (fn := Go.Proofs.Tryd.f62) (r := 2) (x := .exit 0) (fun (a : List Bool × List Int) => zjz b (CD c) (BD a.1) (ID a.2)) (fun a => Nm [7] [.own 4 (BD a.1)] [none] [] [])
  (fun a => RInv c (fun _ => True) fr a.1 a.2 ∧ 3 * lack a.1 + a.2.length ≤ 2000) (fun a => a.2 = []) (fun a => 3 * lack a.1 + a.2.length) (List.replicate c.length false, fr) (by simp only; omega) ⟨RInv.start hfr, by simp only; omega⟩
  (fun ⟨out, op⟩ ⟨hP, hb⟩ => by
   simp only at hP hb ⊢
   by_cases h0 : 0 < op.length
   · right
     obtain ⟨l, x, rfl⟩ := zpw h0
     simp only [List.length_append, List.length_cons, List.length_nil] at hb
     obtain ⟨e1, e2, e3⟩ := znu (l := l) (x := x) (by omega)
     obtain ⟨x0, x1⟩ := hP.rin x (by simp)
     obtain ⟨ha, hbb⟩ := zfb (ks := out) x0 (by rw [hP.len]; exact x1)
     have hlen : ((ID (l ++ [x])).length : Int) = (l.length : Int) + 1 := by simp
     have hcx := znd (c := c) x0 x1
     have h63 : EvN 1 63 [.dat (I x)] [] [] ([.dat (B true)], [], []) := zaO Go.Proofs.Tryd.f63 0 (by kernel_rfl) (by kernel_rfl) fun kk _ => zqw kk x rfl
     have o1 : 0 ≤ w64 (((ID (l ++ [x])).length : Int) - 1) ∧ w64 (((ID (l ++ [x])).length : Int) - 1) < ((ID (l ++ [x])).length : Int) := by rw [e1, hlen]; omega
     have o2 : (ID (l ++ [x]))[(w64 (((ID (l ++ [x])).length : Int) - 1)).toNat]? = some (I x) := by rw [e1]; exact e2
     have o3 : 0 ≤ w64 (((ID (l ++ [x])).length : Int) - 1) ∧ w64 (((ID (l ++ [x])).length : Int) - 1) ≤ ((ID (l ++ [x])).length : Int) := ⟨o1.1, by omega⟩
     have e4 : List.take (w64 (((ID (l ++ [x])).length : Int) - 1)).toNat (ID (l ++ [x])) = ID l := by rw [e1]; exact e3
     by_cases hk : K out x
     · have hg : out.getD x.toNat false = true := hk
       rw [hg] at hbb
       refine ⟨(out, l), ⟨hP.skip hk, by simp only; omega⟩, by simp, fun m s K hs hn => ?_⟩
       exact ze0 kk m b _ _ _ true x true true c0 hs (fun _ _ => ⟨o1, o2, o3, ha, hbb, fun s' hs' => hn s' (by rw [hs', e4]; rfl)⟩) (fun _ d => by cases d) (fun _ d => by cases d) (fun _ d => by cases d) (fun d => absurd (of_decide_eq_false d) (by omega))
     · have hg : out.getD x.toNat false = false := by
        cases e : out.getD x.toNat false with
        | false => rfl
        | true => exact absurd e hk
       rw [hg] at hbb
       have hset := zn1 x0 (by rw [hP.len]; exact x1) hk
       have hbs := zfn out x.toNat
       cases hleaf : (cg c x).l with
       | true =>
         refine ⟨(out.set x.toNat true, l), ⟨hP.mark hw (fun y => by simp [hleaf]), by simp only; omega⟩, by simp; omega, fun m s K hs hn => ?_⟩
         exact ze0 kk m b _ _ _ true x false false (cg c x) hs (fun _ d => by cases d) (fun _ _ d => by rw [hleaf] at d; cases d) (fun _ _ d => by rw [hleaf] at d; cases d) (fun _ _ _ => ⟨o1, o2, o3, ha, hbb, ha, hbb, hcx, fun s' hs' => hn s' (by rw [hs', e4, hbs]; rfl)⟩) (fun d => absurd (of_decide_eq_false d) (by omega))
       | false =>
         refine ⟨(out.set x.toNat true, l ++ [(cg c x).a, (cg c x).b]), ⟨hP.mark hw (fun y => by simp [hleaf]), by simp; omega⟩, by simp; omega, fun m s K hs hn => ?_⟩
         exact ze0 kk m b _ _ _ true x false false (cg c x) hs (fun _ d => by cases d) (fun _ _ _ _ => ⟨o1, o2, o3, ha, hbb, ha, hbb, hcx, h63 kk (by omega), by rw [e4]; simp; omega, fun s' hs' => hn s' (by rw [hs', e4, hbs]; simp [zjz, ID])⟩) (fun _ _ _ d => by cases d) (fun _ _ d => by rw [hleaf] at d; cases d) (fun d => absurd (of_decide_eq_false d) (by omega))
   · left
     exact List.eq_nil_of_length_eq_zero (by omega))
  (fun ⟨out, op⟩ _ hf m s K hs hK => by
   simp only at hf
   subst hf
   exact ze0 kk m b _ _ _ true 0 true true c0 hs (fun d => absurd (of_decide_eq_true d) (by simp)) (fun d => absurd (of_decide_eq_true d) (by simp)) (fun d => absurd (of_decide_eq_true d) (by simp)) (fun d => absurd (of_decide_eq_true d) (by simp)) (fun _ => hK)) (s0 := zjz b (CD c) (List.replicate (CD c).length (B false)) (ID fr)) (by rw [hlc, zmS])
 simp only at hfin hP
 subst hfin
 have hout := hP.1.done hw hfr
 subst hout
 exact zqu kk b b1 _ _ (ID fr) _ ⟨zfm b1 fr (by omega) kk (by omega), ⟨by omega, by omega, by omega⟩, hloop, rfl⟩
end Go.Den
