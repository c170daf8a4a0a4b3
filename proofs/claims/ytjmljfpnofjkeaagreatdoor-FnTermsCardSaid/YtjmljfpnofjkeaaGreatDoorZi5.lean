/- Merged out of: D33 D34 Dt W1 W2 W3 W4 W5 (prune.py, a program of this work's). -/
import Derived.Test.YtjmljfpnofjkeaaGreatDoorZi1
import Derived.Test.YtjmljfpnofjkeaaGreatDoorZi4
import Derived.KernelRfl
import Derived.IntWalk
set_option linter.unusedVariables false
set_option linter.unusedSimpArgs false
set_option linter.unnecessarySimpa false
namespace Go.Den
open Go
set_option linter.unusedVariables false
inductive Hint where
  | yes
  | no
  | put (d : D)
  | to (f : St → St)
  | at (d : Dat)
  | ok
  | ret (rs : List D)
  | back (rs : List D) (u : List (List D)) (l : List (Option Row))
  | loop (s0 : St) (x : X) (s : St)
def Obs : List Prop → Prop
  | [] => True
  | p :: l => p ∧ Obs l
theorem obs_append : ∀ {a b : List Prop}, Obs (a ++ b) → Obs a ∧ Obs b
  | [], b, h => ⟨trivial, h⟩
  | p :: a, b, h => by
    have h' : p ∧ Obs (a ++ b) := h
    obtain ⟨h1, h2⟩ := obs_append h'.2
    exact ⟨⟨h'.1, h1⟩, h2⟩
abbrev Hints := List (Nat × Hint)
def hintAt : Hints → Nat → Option Hint
  | [], _ => none
  | (a, x) :: l, n => match Nat.beq a n with | true => some x | false => hintAt l n
/-- keys: an operation's temporary; 100000 + the address' temporary of a store; 200000 + a condition's temporary; 300000 + a loop's first region -/
def keyOf (o : Oper) : Option Nat :=
  match o.dst, o.op with
  | some n, _ => some n
  | none, .store _ (.tmp a) _ => some (100000 + a)
  | _, _ => none
def hadd {α : Type} (p : Prop) : Option (List Prop × α) → Option (List Prop × α)
  | some r => some (p :: r.1, r.2)
  | none => none
/-- A condition's answer. -/
def hbool {α : Type} (hs : Hints) (s : St) (x : Nat) (yes no : St → Option (List Prop × α)) (und : Option (List Prop × α)) : Option (List Prop × α) :=
  match s.t x with
  | .dat (.val (.bool b)) => match hintAt hs (200000 + x) with
    | some .yes => hadd (b = true) (yes (s.force x true))
    | some .no => hadd (b = false) (no (s.force x false))
    | _ => match b with | true => yes (s.force x true) | false => no (s.force x false)
  | .undef => und
  | _ => none
def hcond {α : Type} (hs : Hints) (s : St) (c : Operand) (yes no : St → Option (List Prop × α)) : Option (List Prop × α) :=
  match c with
  | .tmp x => hbool hs s x yes no none
  | .const (.bool v) => match v with | true => yes s | false => no s
  | _ => none
def hguard {α : Type} (hs : Hints) (ops : Array Oper) (s : St) (g : Option (Nat × Bool)) (k z : St → Option (List Prop × α)) : Option (List Prop × α) :=
  match g with
  | none => k s
  | some (j, want) => match (ops[j]?).bind (·.dst) with
    | none => none
    | some x => match want with
      | true => hbool hs s x k z (z s)
      | false => hbool hs s x z k (z s)
def Env.with (E : Env) (q : List D × List (List D) × List (Option Row)) : Env := { E with call := fun _ _ _ _ => some q }
/-- The call that an operation makes on data. -/
def callEv (E : Env) (s : St) (o : Oper) : Option (Nat × List D × Bool) :=
  match o.op with
  | .call ca => match ca.callee with
    | .value z => match s.look z with
      | .fn f [] => match allZero (E.mode f) with
        | true => (match views s.get (argsD E s.look ca.args.toList ca.argTypes.toList) with
          | some r => some (f, r.1.map .dat, r.2)
          | none => none)
        | false => none
      | _ => none
    | _ => none
  | _ => none
/-- The call that it makes otherwise. -/
def callDo (E : Env) (s : St) (f : Nat) (cap : List Ref) (args : List D) : Option (List D × List (List D) × List (Option Row)) :=
  (readyArgs (E.mode f) args s).bind fun a =>
  (lendArgs a.2.get (E.mode f) a.1).bind fun ls =>
  match distinctPl ls with
  | false => none
  | true => match cap.isEmpty && a.1.all noRef with
    | true => (passArgs (hide ls false a.2.get) 0 [] (E.mode f) 0 a.1).map fun v => (v.1, [], ls.map fun p => some p.2)
    | false => match ls.all fun p => !p.1.ofCell with
      | false => none
      | true =>
        let keys := a.2.sent E.nt cap a.1; let m := a.2.u.length
        (passArgs (hide ls true a.2.get) m keys (E.mode f) 0 a.1).bind fun v =>
        (liftRefs m keys cap).bind fun caps =>
        (boxesOf a.2 keys).bind fun bs => (liftBoxes m keys (a.2.u ++ bs)).map fun us => (v.1 ++ caps.map (fun r => D.ptr r 0), us, ls.map fun p => some p.2)
def callOf (E : Env) (s : St) (o : Oper) : Option (Nat × List D × List (List D) × List (Option Row)) :=
  match o.op with
  | .call ca => match ca.callee with
    | .value z => match s.look z with
      | .fn f cap => match cap.isEmpty && (allZero (E.mode f) && (views s.get (argsD E s.look ca.args.toList ca.argTypes.toList)).isSome) with
        | true => none
        | false => (callDo E s f cap (argsD E s.look ca.args.toList ca.argTypes.toList)).map fun r => (f, r)
      | _ => none
    | _ => none
  | _ => none
theorem evOp_with {E : Env} {s : St} {o : Oper} {rs : List D} {f : Nat} {args : List D} {fl : Bool} (h : callEv E s o = some (f, args, fl)) (hfl : fl = true → D.cleans rs = true) (hc : E.call f args [] [] = some (rs, [], [])) : evOp E s.look s.get s.box o.type o.op = some (.pure (retD rs)) ∧ evOp (E.with (rs, [], [])) s.look s.get s.box o.type o.op = some (.pure (retD rs)) := by
  unfold callEv at h
  split at h
  · rename_i ca ho
    split at h
    · rename_i z hz
      split at h
      · rename_i f' hf
        split at h
        · rename_i hm
          split at h
          · rename_i r hr
            · cases h
              have hcl : (r.2 && !D.cleans rs) = false := by
                cases hr2 : r.2 with
                | false => rfl
                | true => rw [hfl hr2]; rfl
              rw [ho]
              refine ⟨?_, ?_⟩
              · simp only [evOp, hz, hf, evCall, hm, hr, Option.bind_some, hc, hcl, Option.map_some]
              · have hm' : allZero ((E.with (rs, [], [])).mode f) = true := hm
                have hr' : views s.get (argsD (E.with (rs, [], [])) s.look ca.args.toList ca.argTypes.toList) = some r := by
                  rw [← hr]
                  congr 1
                  generalize ca.args.toList = zs
                  generalize ca.argTypes.toList = ts
                  induction zs generalizing ts with
                  | nil => rfl
                  | cons z zs ih => simp only [argsD, ih]; rfl
                have hcc : (E.with (rs, [], [])).call f (r.1.map .dat) [] [] = some (rs, [], []) := rfl
                simp only [evOp, hz, hf, evCall, hm', hr', Option.bind_some, hcc, hcl, Option.map_some]
          · cases h
        · cases h
      · cases h
    · cases h
  · cases h
theorem argsD_with {E : Env} {q : List D × List (List D) × List (Option Row)} {lk : Operand → D} : ∀ (zs : List Operand) (ts : List Nat), argsD (E.with q) lk zs ts = argsD E lk zs ts
  | [], ts => rfl
  | z :: zs, ts => by simp only [argsD, argsD_with zs]; rfl
theorem step_callOf {E : Env} {s : St} {o : Oper} {q : List D × List (List D) × List (Option Row)} {r : Nat × List D × List (List D) × List (Option Row)} (h : callOf E s o = some r) (hc : E.call r.1 r.2.1 r.2.2.1 r.2.2.2 = some q) : step E s o = step (E.with q) s o := by
  unfold callOf at h
  split at h
  · rename_i ca ho
    split at h
    · rename_i z hz
      split at h
      · rename_i f cap hf
        split at h
        · cases h
        · rename_i hdead
          simp only [Option.map_eq_some_iff] at h
          obtain ⟨⟨a, u, l⟩, hdo, rfl⟩ := h
          simp only at hc
          have hev : ∀ E', E'.mode = E.mode → argsD E' s.look ca.args.toList ca.argTypes.toList = argsD E s.look ca.args.toList ca.argTypes.toList → evOp E' s.look s.get s.box o.type o.op = none := by
            intro E' hm ha
            rw [ho]
            simp only [evOp, hz, hf]
            cases cap with
            | cons r rs => rfl
            | nil =>
              simp only [List.isEmpty_nil, Bool.true_and] at hdead
              simp only [evCall, hm, ha]
              cases hz : allZero (E.mode f) with
              | false => rfl
              | true =>
                rw [hz, Bool.true_and] at hdead
                cases hv : views s.get (argsD E s.look ca.args.toList ca.argTypes.toList) with
                | none => rfl
                | some r => rw [hv] at hdead; cases hdead
          unfold step
          rw [hev E rfl rfl, hev (E.with q) rfl (argsD_with _ _)]
          simp only [ho, doOp, hz, hf, argsD_with]
          unfold callDo at hdo
          unfold doCall
          simp only [Option.bind_eq_some_iff] at hdo
          obtain ⟨a1, h1, ls, h2, hdo⟩ := hdo
          have h1' : readyArgs ((E.with q).mode f) (argsD E s.look ca.args.toList ca.argTypes.toList) s = some a1 := h1
          have h2' : lendArgs a1.2.get ((E.with q).mode f) a1.1 = some ls := h2
          simp only [h1, h1', h2, h2', Option.bind_some]
          split at hdo
          · cases hdo
          · rename_i hdis
            simp only [hdis]
            split at hdo
            · rename_i hcl
              simp only [hcl]
              simp only [Option.map_eq_some_iff, Prod.mk.injEq] at hdo
              obtain ⟨v, hv, rfl, rfl, rfl⟩ := hdo
              have hv' : passArgs (hide ls false a1.2.get) 0 [] ((E.with q).mode f) 0 a1.1 = some v := hv
              simp only [hv, hv', Option.bind_some, hc]
              rfl
            · rename_i hcl
              simp only [hcl]
              split at hdo
              · cases hdo
              · rename_i hnc
                simp only [hnc]
                simp only [Option.bind_eq_some_iff, Option.map_eq_some_iff, Prod.mk.injEq] at hdo
                obtain ⟨v, hv, caps, hcaps, bs, hbs, us, hus, rfl, rfl, rfl⟩ := hdo
                have hv' : passArgs (hide ls true a1.2.get) a1.2.u.length (a1.2.sent (E.with q).nt cap a1.1) ((E.with q).mode f) 0 a1.1 = some v := hv
                have e2 : (E.with q).nt = E.nt := rfl
                simp only [e2] at hv' ⊢
                simp only [hv, hv', Option.bind_some, hcaps, hbs, hus, hc]
                rfl
      · cases h
    · cases h
  · cases h
/-- What an operation yields, if its conditions hold. -/
def askEv (E : Env) (s : St) (hd : Option Dat) : Op → Option (Prop × D)
  | .indexAddr t x i => (E.ty t).bind fun k => match k.kind with
    | .slice e => (E.ty e).bind fun j => (intOf (s.look i)).bind fun n => match s.look x, hd with
      | .dat (.lst b es), some d => (match Nat.beq d.cells.length j.sz with | true => some ((0 ≤ n ∧ n < es.length) ∧ es[n.toNat]? = some d, .ep b d.cells) | false => none)
      | .bor p m, none => (s.get p).bind fun r => match Nat.beq r.1 e with | true => some (0 ≤ n ∧ n < (cutTo m r.2).length, .bp p n.toNat 0) | false => none
      | _, _ => none
    | _ => none
  | .load t x => (E.ty t).bind fun i => match s.look x, hd with
    | .bp p j o, some d => (s.get p).bind fun r => (loadDat i (d.cells.drop o)).map fun x => (r.2[j]? = some d, .dat x)
    | _, _ => none
  | .slice t x lo hi mx => match mx with
    | none => (sliceTy E.ty t).bind fun st => (optInt s.look lo).bind fun l => (optInt s.look hi).bind fun h => match st, s.look x with
      | none, .dat (.val (.string b)) => some (0 ≤ l.getD 0 ∧ l.getD 0 ≤ h.getD b.size ∧ h.getD b.size ≤ b.size, .dat (.val (.string (b.extract (l.getD 0).toNat (h.getD b.size).toNat))))
      | some n, .dat (.lst b es) => some ((0 ≤ l.getD 0 ∧ l.getD 0 ≤ h.getD es.length ∧ h.getD es.length ≤ es.length) ∧ wid n es = true, .dat (.lst b ((es.take (h.getD es.length).toNat).drop (l.getD 0).toNat)))
      | some n, .bor p m => (match l, h with
        | none, some h => (s.get p).bind fun r => some (0 ≤ h ∧ h ≤ (cutTo m r.2).length, .bor p (some h.toNat))
        | _, _ => none)
      | _, _ => none
    | some _ => none
  | .index t x i => (E.ty t).bind fun k => (intOf (s.look i)).bind fun n => match s.look x, k.kind with
    | .dat (.val (.string s)), .str => some (0 ≤ n ∧ n < s.size, .dat (.val (.int .u8 ((s[n.toNat]?).getD 0).toNat)))
    | _, _ => none
  | .binOp op t x y _ => match op, s.look x, s.look y, hd with
    | .rem, .dat (.val (.int k a)), .dat (.val (.int k' b)), none => match decide (k = k') with
      | true => some (b ≠ 0, .dat (.val (.int k (a.tmod b))))
      | false => none
    | .quo, .dat (.val (.int k a)), .dat (.val (.int k' b)), none => match decide (k = k') with
      | true => some (b ≠ 0, .dat (.val (.int k (k.wrap (a.tdiv b)))))
      | false => none
    | .add, .dat (.val (.string a)), .dat (.val (.string b)), none => some (a.size + b.size ≤ 9223372036854775807, .dat (.val (.string (a ++ b))))
    | _, _, _, _ => none
  | .makeSlice t l c => (E.ty t).bind fun i => match i.kind with
    | .slice e => (E.ty e).bind fun j => j.zeroD.bind fun z => (intOf (s.look l)).bind fun n => (intOf (s.look c)).bind fun m =>
      match Nat.ble j.bytes 65536 with
      | true => some (0 ≤ n ∧ n ≤ m ∧ m ≤ 2147483648, .own e (List.replicate n.toNat z))
      | false => none
    | _ => none
  | _ => none
theorem askEv_sound {E : Env} {s : St} {hd : Option Dat} {op : Op} {ty : Nat} {p : Prop} {d : D} (h : askEv E s hd op = some (p, d)) (hp : p) : evOp E s.look s.get s.box ty op = some (.pure d) := by
  unfold askEv at h
  split at h
  · rename_i t x i
    simp only [Option.bind_eq_some_iff] at h
    obtain ⟨k, hk, h⟩ := h
    simp only [evOp, hk, Option.bind_some]
    split at h
    · rename_i e hke
      simp only [Option.bind_eq_some_iff] at h
      obtain ⟨j, hj, n, hn, h⟩ := h
      simp only [hke, hj, Option.bind_some, hn]
      split at h
      · rename_i b es dd hx
        split at h
        · rename_i hb
          cases h
          obtain ⟨h1, h2⟩ := hp
          simp only [hx, evIndexAddr, h1, h2, and_self, if_true, Option.bind_some, hb, Option.map_some]
        · cases h
      · rename_i pl m hx
        simp only [Option.bind_eq_some_iff] at h
        obtain ⟨r, hr, h⟩ := h
        split at h
        · rename_i hb
          cases h
          simp only [hx, evIndexAddr, hr, Option.bind_some, hb, hp, and_self, if_true, Option.map_some]
        · cases h
      · cases h
    · cases h
  · rename_i t x
    simp only [Option.bind_eq_some_iff] at h
    obtain ⟨i, hi, h⟩ := h
    simp only [evOp, hi, Option.bind_some]
    split at h
    · rename_i pl j o dd hx
      simp only [Option.bind_eq_some_iff, Option.map_eq_some_iff, Prod.mk.injEq] at h
      obtain ⟨r, hr, y, hy, rfl, rfl⟩ := h
      simp only [hx, evLoad, hr, Option.bind_some, hp, hy, Option.map_some]
    · cases h
  · rename_i t x lo hi mx
    split at h
    · simp only [Option.bind_eq_some_iff] at h
      obtain ⟨st, hst, l, hl, hh, hhi, h⟩ := h
      simp only [evOp, hst, hl, hhi, Option.bind_some]
      split at h
      · rename_i b hx
        cases h
        simp only [hx, evCut, evSlice, hp, and_self, if_true, Option.map_some]
      · rename_i n b es hx
        cases h
        obtain ⟨h1, h2⟩ := hp
        simp only [hx, evCut, evSlice, h1, h2, and_self, if_true, Option.map_some]
      · rename_i n pl m hx
        split at h
        · rename_i hhv
          simp only [Option.bind_eq_some_iff] at h
          obtain ⟨r, hr, h⟩ := h
          cases h
          simp only [hx, evCut, hr, Option.bind_some, hp, and_self, if_true, Option.map_some]
        · cases h
      · cases h
    · cases h
  · rename_i t x i
    simp only [Option.bind_eq_some_iff] at h
    obtain ⟨k, hk, n, hn, h⟩ := h
    simp only [evOp, hk, hn, Option.bind_some]
    split at h
    · rename_i b hx hkk
      cases h
      simp only [hx, hkk]
      rw [dif_pos hp]
      have : b[n.toNat]? = some (b[n.toNat]'(by omega)) := getElem?_pos b n.toNat (by omega)
      rw [this]
      rfl
    · cases h
  · rename_i op t x y ky
    split at h
    · rename_i k a k' b hx hy
      split at h
      · rename_i hk
        cases h
        simp [evOp, hx, hy, aggCmp, binD, binV, binV0, hk, hp]
      · cases h
    · rename_i k a k' b hx hy
      split at h
      · rename_i hk
        cases h
        simp [evOp, hx, hy, aggCmp, binD, binV, binV0, hk, hp]
      · cases h
    · rename_i a b hx hy
      cases h
      simp only [evOp, hx, hy, aggCmp, binD, binV, binV0]
      rw [if_pos hp]
      rfl
    · cases h
  · rename_i t l c
    simp only [Option.bind_eq_some_iff] at h
    obtain ⟨i, hi, h⟩ := h
    simp only [evOp, hi, Option.bind_some]
    split at h
    · rename_i e hk
      simp only [Option.bind_eq_some_iff] at h
      obtain ⟨j, hj, z, hz, n, hn, m, hm, h⟩ := h
      split at h
      · rename_i hb
        cases h
        simp only [hk, hj, hz, hn, hm, Option.bind_some, hp, and_self, if_true, hb]
      · cases h
    · cases h
  · cases h
def askApp (E : Env) (s : St) (x : Option Nat) : Op → Option (Prop × St)
  | .call c => match c.callee with
    | .builtin .append => match c.args.toList, c.argTypes.toList with
      | [a, b], [t, u] => (E.ty t).bind fun i => match i.kind with
        | .slice e => match Nat.beq t u with
          | true => (rowOf s.get (s.look b)).bind fun es2 => (takeBase s e a).bind fun r => (E.ty e).bind fun i =>
            match Nat.beq r.1.1 e && Nat.ble i.bytes 65536 && Nat.blt 0 i.sz with
            | true => some (es2.all (fun d => Nat.beq d.cells.length i.sz) = true ∧ r.1.2.length + es2.length ≤ 2147483648, r.2.putO x (.own e (r.1.2 ++ es2)))
            | false => none
          | false => none
        | _ => none
      | _, _ => none
    | _ => none
  | _ => none
theorem askApp_sound {E : Env} {s : St} {o : Oper} {p : Prop} {s' : St} (h : askApp E s o.dst o.op = some (p, s')) (hp : p) : step E s o = some s' := by
  unfold askApp at h
  split at h
  · rename_i c ho
    split at h
    · rename_i hc
      split at h
      · rename_i a b t u ha hat
        simp only [Option.bind_eq_some_iff] at h
        obtain ⟨i, hi, h⟩ := h
        split at h
        · rename_i e hk
          split at h
          · rename_i htu
            simp only [Option.bind_eq_some_iff] at h
            obtain ⟨es2, hes, r, hr, i2, hi2, h⟩ := h
            split at h
            · rename_i hcond
              cases h
              have hev : evOp E s.look s.get s.box o.type o.op = none := by rw [ho]; simp only [evOp, hc]
              unfold step
              rw [hev]
              simp only [ho, doOp, hc, ha, hat, hi, Option.bind_some, hk, htu, doAppend, hes, hr, hi2, hcond, hp.1, Bool.and_self, hp.2, if_true]
            · cases h
          · cases h
        · cases h
      · cases h
    · cases h
  · cases h
/-- A store into an element of a slice that the frame holds. -/
def askSt (E : Env) (s : St) (hd : Dat) : Op → Option (Prop × St)
  | .store t a y => match isNil y with
    | true => none
    | false => (E.ty t).bind fun i => match s.look a with
      | .bp p j o => (s.datD (s.look y)).bind fun q => match Nat.beq q.1.cells.length i.sz with
        | false => none
        | true => (q.2.get p).bind fun r => (elemSet hd o q.1.cells).map fun d' => (r.2[j]? = some hd, q.2.setPl p (.own r.1 (r.2.set j d')))
      | _ => none
  | _ => none
theorem askSt_sound {E : Env} {s : St} {hd : Dat} {o : Oper} {p : Prop} {s' : St} (h : askSt E s hd o.op = some (p, s')) (hp : p) : step E s o = some s' := by
  unfold askSt at h
  split at h
  · rename_i t a y ho
    split at h
    · cases h
    · rename_i hn
      simp only [Option.bind_eq_some_iff] at h
      obtain ⟨i, hi, h⟩ := h
      split at h
      · rename_i pl j off ha
        simp only [Option.bind_eq_some_iff] at h
        obtain ⟨q, hq, h⟩ := h
        split at h
        · cases h
        · rename_i hb
          simp only [Option.bind_eq_some_iff, Option.map_eq_some_iff, Prod.mk.injEq] at h
          obtain ⟨r, hr, d', hd', rfl, rfl⟩ := h
          have hev : evOp E s.look s.get s.box o.type o.op = none := by rw [ho]; simp only [evOp]
          unfold step
          rw [hev]
          simp only [ho, doOp, hn, doStore, hi, Option.bind_some, ha, hq, hb, hr, hp, hd', Option.map_some]
      · cases h
  · cases h
def haddIf {α : Type} (b : Bool) (p : Prop) (r : Option (List Prop × α)) : Option (List Prop × α) := match b with | true => hadd p r | false => r
/-- What a call leads to, with what it answers put in. -/
def doCallH (E : Env) (s : St) (x : Option Nat) (f : Nat) (cap : List Ref) (args : List D) (q : List D × List (List D) × List (Option Row)) : Option (Prop × St) :=
  (readyArgs (E.mode f) args s).bind fun a =>
  (lendArgs a.2.get (E.mode f) a.1).bind fun ls =>
  match distinctPl ls with
  | false => none
  | true => match cap.isEmpty && a.1.all noRef with
    | true => (passArgs (hide ls false a.2.get) 0 [] (E.mode f) 0 a.1).bind fun v =>
      (giveBack a.2 ls q.2.2).map fun s => (((v.2 && !(D.cleans q.1 && cleanRows q.2.2)) || !D.plains q.1) = false, s.putO x (retD q.1))
    | false => match ls.all fun p => !p.1.ofCell with
      | false => none
      | true =>
        let keys := a.2.sent E.nt cap a.1; let m := a.2.u.length
        (passArgs (hide ls true a.2.get) m keys (E.mode f) 0 a.1).bind fun v =>
        (giveBack (a.2.regain m keys q.2.1) ls q.2.2).map fun s => (((v.2 && !(D.cleans q.1 && (cleanRows q.2.2 && cleanBoxes q.2.1))) || !D.plains q.1) = false, s.putO x (retD q.1))
def callH (E : Env) (s : St) (o : Oper) (q : List D × List (List D) × List (Option Row)) : Option (Prop × St) :=
  match o.op with
  | .call ca => match ca.callee with
    | .value z => match s.look z with
      | .fn f cap => doCallH E s o.dst f cap (argsD E s.look ca.args.toList ca.argTypes.toList) q
      | _ => none
    | _ => none
  | _ => none
theorem callH_sound {E : Env} {s : St} {o : Oper} {q : List D × List (List D) × List (Option Row)} {r : Nat × List D × List (List D) × List (Option Row)} {p : Prop} {s' : St} (h : callOf E s o = some r) (hc : E.call r.1 r.2.1 r.2.2.1 r.2.2.2 = some q) (hh : callH E s o q = some (p, s')) (hp : p) : step E s o = some s' := by
  unfold callOf at h
  unfold callH at hh
  split at h
  · rename_i ca ho
    simp only [ho] at hh
    split at h
    · rename_i z hz
      simp only [hz] at hh
      split at h
      · rename_i f cap hf
        simp only [hf] at hh
        split at h
        · cases h
        · rename_i hdead
          simp only [Option.map_eq_some_iff] at h
          obtain ⟨⟨a, u, l⟩, hdo, rfl⟩ := h
          simp only at hc
          have hev : evOp E s.look s.get s.box o.type o.op = none := by
            rw [ho]
            simp only [evOp, hz, hf]
            cases cap with
            | cons r rs => rfl
            | nil =>
              simp only [List.isEmpty_nil, Bool.true_and] at hdead
              simp only [evCall]
              cases hz : allZero (E.mode f) with
              | false => rfl
              | true =>
                rw [hz, Bool.true_and] at hdead
                cases hv : views s.get (argsD E s.look ca.args.toList ca.argTypes.toList) with
                | none => rfl
                | some r => rw [hv] at hdead; cases hdead
          unfold step
          rw [hev]
          simp only [ho, doOp, hz, hf]
          unfold callDo at hdo
          unfold doCall
          unfold doCallH at hh
          simp only [Option.bind_eq_some_iff] at hdo
          obtain ⟨a1, h1, ls, h2, hdo⟩ := hdo
          simp only [h1, h2, Option.bind_some] at hh ⊢
          split at hdo
          · cases hdo
          · rename_i hdis
            simp only [hdis] at hh ⊢
            split at hdo
            · rename_i hcl
              simp only [hcl] at hh ⊢
              simp only [Option.map_eq_some_iff, Prod.mk.injEq] at hdo
              obtain ⟨v, hv, rfl, rfl, rfl⟩ := hdo
              simp only [hv, Option.bind_some, Option.map_eq_some_iff, Prod.mk.injEq] at hh ⊢
              obtain ⟨s3, hg, rfl, rfl⟩ := hh
              simp only [hc, Option.bind_some, hp, hg, Option.map_some]
            · rename_i hcl
              simp only [hcl] at hh ⊢
              split at hdo
              · cases hdo
              · rename_i hnc
                simp only [hnc] at hh ⊢
                simp only [Option.bind_eq_some_iff, Option.map_eq_some_iff, Prod.mk.injEq] at hdo
                obtain ⟨v, hv, caps, hcaps, bs, hbs, us, hus, rfl, rfl, rfl⟩ := hdo
                simp only [hv, Option.bind_some, Option.map_eq_some_iff, Prod.mk.injEq] at hh ⊢
                obtain ⟨s3, hg, rfl, rfl⟩ := hh
                simp only [hcaps, hbs, hus, Option.bind_some, hc, hp, hg, Option.map_some]
      · cases h
    · cases h
  · cases h
/-- One operation: as a hint says, or as it is. -/
def hop {α : Type} (E : Env) (hs : Hints) (run : Env → St → Oper → Option St) (view : St → St) (pu ap : Oper → Bool) (s : St) (o : Oper) (k : St → Option (List Prop × α)) : Option (List Prop × α) :=
  match (keyOf o).bind (hintAt hs) with
  | some (.put d) => hadd (run E s o = some (s.putO o.dst d)) (k (s.putO o.dst d))
  | some (.to f) => hadd (run E s o = some (f s)) (k (f s))
  | some (.at d) => match askEv E s (some d) o.op with
    | some (p, d) => (match o.dst, pu o with | some n, true => hadd p (k (s.put n d)) | _, _ => none)
    | none => (match askSt E s d o.op, ap o with | some (p, s'), true => hadd p (k s') | _, _ => none)
  | some .ok => match askEv E s none o.op with
    | some (p, d) => (match o.dst, pu o with | some n, true => hadd p (k (s.put n d)) | _, _ => none)
    | none => (match askApp E s o.dst o.op, ap o with | some (p, s'), true => hadd p (k s') | _, _ => none)
  | some (.ret rs) => match callEv E (view s) o with
    | some (f, args, fl) => haddIf fl (D.cleans rs = true) (hadd (E.call f args [] [] = some (rs, [], [])) (match pu o, o.dst with | true, some n => k (s.put n (retD rs)) | _, _ => (run (E.with (rs, [], [])) s o).bind k))
    | none => none
  | some (.back rs u l) => match callOf E (view s) o with
    | some (f, args, us, ls) => hadd (E.call f args us ls = some (rs, u, l)) (match ap o with
      | true => (match callH E s o (rs, u, l) with | some (p, s') => hadd p (k s') | none => none)
      | false => (run (E.with (rs, u, l)) s o).bind k)
    | none => none
  | _ => (run E s o).bind k
def hops (E : Env) (hs : Hints) (ops : Array Oper) : List Oper → St → Option (List Prop × St)
  | [], s => some ([], s)
  | o :: l, s => hguard hs ops s o.guard (fun s => hop E hs step (fun s => s) (fun _ => true) (fun _ => true) s o (hops E hs ops l)) (fun s => hops E hs ops l (s.putO o.dst .undef))
def rowView (M : Option (List Nat)) (k : Nat) (s : St) : St :=
  match k with
  | 0 => s
  | 1 => s
  | 2 => s
  | 3 => s
  | _ => match M with | none => s | some M => s.hid M
def isLoad : Op → Bool
  | .load _ _ => true
  | _ => false
def rowPu (M : Option (List Nat)) (k : Nat) (o : Oper) : Bool :=
  match k with
  | 0 => isCalm o.op
  | 1 => isLoad o.op && M.isNone
  | 2 => true
  | 3 => false
  | _ => M.isNone
def hopsD (E : Env) (hs : Hints) (ops : Array Oper) (M : Option (List Nat)) : Bool → List PRow → St → Option (List Prop × St)
  | _, [], s => some ([], s)
  | first, (i, k, ds) :: l, s => match allJunk s ds with
    | false => none
    | true => match ops[i]? with
      | none => none
      | some o => hguard hs ops s o.guard (fun s => hop E hs (fun E => rowStep E M first k) (rowView M k) (rowPu M k) (fun _ => Nat.beq k 2) s o (hopsD E hs ops M (first && stays k) l)) (fun s => hopsD E hs ops M (first && stays k) l (s.putO o.dst .undef))
def hplan (E : Env) (hs : Hints) (ops : Array Oper) (p : Plan) (s : St) : Option (List Prop × St) :=
  match p.2 with
  | [] => some ([], s)
  | (i, k, ds) :: l => match noOwns s ds with
    | true => hopsD E hs ops p.1 true ((i, k, ds) :: l) (s.junks ds)
    | false => none
def hregion (E : Env) (hs : Hints) (id : Nat) (ops : Array Oper) (draw : Bool) (s : St) : Option (List Prop × St) :=
  match draw with
  | false => hops E hs ops ops.toList s
  | true => match E.plan id with
    | some p => hplan E hs ops p s
    | none => none
def hthen (r : Option (List Prop × X × St)) (k : X → St → Option (List Prop × X × St)) : Option (List Prop × X × St) :=
  match r with
  | some (ps, x, s) => match k x s with
    | some q => some (ps ++ q.1, q.2)
    | none => none
  | none => none
def pickD : List Nat → List D → Nat → D
  | a :: L, d :: ds, x => match Nat.beq a x with | true => d | false => pickD L ds x
  | _, _, _ => .junk
def pickB : List Nat → List (Option (List D)) → Nat → Option (List D)
  | a :: L, d :: ds, x => match Nat.beq a x with | true => d | false => pickB L ds x
  | _, _, _ => none
/-- What lives, in a form that is the same whenever its parts are. -/
def Nm (L : List Nat) (ds : List D) (bs : List (Option (List D))) (u : List (List D)) (l : List (Option Row)) : St := ⟨pickD L ds, pickB L bs, u, l⟩
/-- What lives of a state. -/
def nmOf (L : List Nat) (s : St) : St := Nm L (L.map fun x => (s.t x).kill (Kill.but L)) (L.map fun x => (s.b x).map (D.kills (Kill.but L))) (s.u.map (D.kills (Kill.but L))) s.l
def LoopOb (E : Env) (n : Nat) (c : Code) (s0 : St) (x : X) (s' : St) : Prop := ∀ s : St, s.norm (E.live (firstRegion c)) = s0 → exec E n (.loop c) s = some (x, s')
def hexec (E : Env) (n : Nat) (hs : Hints) : Code → St → Option (List Prop × X × St)
  | .skip, s => some ([], .normal, s)
  | .region id ops draw, s => match hregion E hs id ops draw s with | some r => some (r.1, .normal, r.2) | none => none
  | .seq a b, s => hthen (hexec E n hs a s) fun x s' => match x with
    | .normal => hexec E n hs b s'
    | x => some ([], x, s')
  | .cond c a b, s => hcond hs s c (hexec E n hs a) (hexec E n hs b)
  | .block id c, s => hthen (hexec E n hs c s) fun x s' => match x with
    | .exit i => (match Nat.beq i id with | true => some ([], .normal, s') | false => some ([], .exit i, s'))
    | x => some ([], x, s')
  | .loop c, s => match hintAt hs (300000 + firstRegion c) with
    | some (.loop s0 x s') => some ([nmOf (E.live (firstRegion c)) s = s0, LoopOb E n c s0 x s'], x, s')
    | _ => none
  | .exit id, s => some ([], .exit id, s)
  | .ret, s => some ([], .ret, s)
  | _, _ => none
theorem nbeq_eq {a b : Nat} : Nat.beq a b = true ↔ a = b := ⟨Nat.eq_of_beq_eq_true, fun h => by rw [h]; exact Nat.beq_refl b⟩
theorem nbeq_ne {a b : Nat} : Nat.beq a b = false ↔ a ≠ b := ⟨Nat.ne_of_beq_eq_false, fun h => by
  cases hb : Nat.beq a b with
  | false => rfl
  | true => exact (h (Nat.eq_of_beq_eq_true hb)).elim⟩
theorem memN_cons' {a x : Nat} {l : List Nat} : memN x (a :: l) = (Nat.beq x a || memN x l) := by
  show (match Nat.beq x a with | true => true | false => memN x l) = _
  cases Nat.beq x a <;> rfl
theorem pickD_map {f : Nat → D} {x : Nat} : ∀ {L : List Nat}, pickD L (L.map f) x = match memN x L with | true => f x | false => .junk
  | [] => rfl
  | a :: L => by
    simp only [List.map_cons, pickD]
    cases h : Nat.beq a x with
    | true => rw [nbeq_eq.1 h, memN_cons']; simp
    | false =>
      have h2 : Nat.beq x a = false := nbeq_ne.2 (fun e => nbeq_ne.1 h e.symm)
      simp only [pickD_map (L := L), memN_cons', h2, Bool.false_or]
theorem pickB_map {f : Nat → Option (List D)} {x : Nat} : ∀ {L : List Nat}, pickB L (L.map f) x = match memN x L with | true => f x | false => none
  | [] => rfl
  | a :: L => by
    simp only [List.map_cons, pickB]
    cases h : Nat.beq a x with
    | true => rw [nbeq_eq.1 h, memN_cons']; simp
    | false =>
      have h2 : Nat.beq x a = false := nbeq_ne.2 (fun e => nbeq_ne.1 h e.symm)
      simp only [pickB_map (L := L), memN_cons', h2, Bool.false_or]
theorem norm_eq (L : List Nat) (s : St) : s.norm L = nmOf L s := by
  simp only [St.norm, nmOf, Nm, St.mk.injEq, and_true]
  refine ⟨funext fun x => ?_, funext fun x => ?_⟩
  · rw [pickD_map]; cases memN x L <;> rfl
  · rw [pickB_map]; cases memN x L <;> rfl
theorem hadd_some {α : Type} {p : Prop} {r : Option (List Prop × α)} {q : List Prop × α} (h : hadd p r = some q) : ∃ ps, r = some (ps, q.2) ∧ q.1 = p :: ps := by
  unfold hadd at h
  split at h
  · rename_i r'
    cases h
    exact ⟨r'.1, rfl, rfl⟩
  · cases h
section
variable {E : Env} {hs : Hints} {ops : Array Oper}
/-- What follows a condition. -/
theorem hbool_sound {α β : Type} {s : St} {x : Nat} {yes no : St → Option (List Prop × α)} {und : Option (List Prop × α)} {q : List Prop × α} {yes' no' : St → Option β} {und' : Option β} {b : β}
    (h : hbool hs s x yes no und = some q) (hq : Obs q.1) (hy : ∀ s ps, yes s = some (ps, q.2) → Obs ps → yes' s = some b) (hn : ∀ s ps, no s = some (ps, q.2) → Obs ps → no' s = some b) (hu : ∀ ps, und = some (ps, q.2) → Obs ps → und' = some b) :
    (match s.t x with
      | .dat (.val (.bool v)) => match v with | true => yes' (s.force x true) | false => no' (s.force x false)
      | .undef => und'
      | _ => none) = some b := by
  unfold hbool at h
  cases hx : s.t x with
  | undef => rw [hx] at h; exact hu q.1 h hq
  | dat d =>
    rw [hx] at h
    cases d with
    | val v =>
      cases v with
      | bool v =>
        simp only at h ⊢
        split at h
        · obtain ⟨ps, h1, h2⟩ := hadd_some h
          rw [h2] at hq
          have hv : v = true := hq.1
          rw [hv]
          exact hy _ ps h1 hq.2
        · obtain ⟨ps, h1, h2⟩ := hadd_some h
          rw [h2] at hq
          have hv : v = false := hq.1
          rw [hv]
          exact hn _ ps h1 hq.2
        · cases v with
          | true => exact hy _ q.1 h hq
          | false => exact hn _ q.1 h hq
      | _ => cases h
    | _ => cases h
  | _ => rw [hx] at h; cases h
theorem hcond_sound {α β : Type} {s : St} {c : Operand} {yes no : St → Option (List Prop × α)} {q : List Prop × α} {yes' no' : St → Option β} {b : β}
    (h : hcond hs s c yes no = some q) (hq : Obs q.1) (hy : ∀ s ps, yes s = some (ps, q.2) → Obs ps → yes' s = some b) (hn : ∀ s ps, no s = some (ps, q.2) → Obs ps → no' s = some b) : condD s c yes' no' = some b := by
  unfold hcond at h
  unfold condD
  split at h
  · rename_i x
    have := hbool_sound (und' := (none : Option β)) h hq hy hn (fun ps h => by cases h)
    simp only
    revert this
    cases s.t x with
    | dat d =>
      cases d with
      | val v => cases v <;> exact id
      | _ => exact id
    | _ => intro h; first | exact h | cases h
  · rename_i v
    cases v with
    | true => exact hy _ q.1 h hq
    | false => exact hn _ q.1 h hq
  · cases h
theorem hguard_sound {α β : Type} {s : St} {g : Option (Nat × Bool)} {k z : St → Option (List Prop × α)} {q : List Prop × α} {k' z' : St → Option β} {b : β}
    (h : hguard hs ops s g k z = some q) (hq : Obs q.1) (hk : ∀ s ps, k s = some (ps, q.2) → Obs ps → k' s = some b) (hz : ∀ s ps, z s = some (ps, q.2) → Obs ps → z' s = some b) : guarded ops s g k' z' = some b := by
  unfold hguard at h
  unfold guarded
  split at h
  · exact hk _ q.1 h hq
  · rename_i j want
    simp only
    split at h
    · cases h
    · rename_i x hx
      rw [hx]
      simp only
      split at h
      · have := hbool_sound (und' := z' s) h hq hk hz (fun ps h h2 => hz _ ps h h2)
        revert this
        cases s.t x with
        | dat d =>
          cases d with
          | val v =>
            cases v with
            | bool v => cases v <;> exact id
            | _ => exact id
          | _ => exact id
        | _ => exact id
      · have := hbool_sound (und' := z' s) h hq hz hk (fun ps h h2 => hz _ ps h h2)
        revert this
        cases s.t x with
        | dat d =>
          cases d with
          | val v =>
            cases v with
            | bool v => cases v <;> exact id
            | _ => exact id
          | _ => exact id
        | _ => exact id
/-- What a step does, it does with the calls' answers put in. -/
structure RunOK (E : Env) (run : Env → St → Oper → Option St) (view : St → St) (pu ap : Oper → Bool) : Prop where
  pure : ∀ s o n d, evOp E s.look s.get s.box o.type o.op = some (.pure d) → o.dst = some n → pu o = true → run E s o = some (s.put n d)
  app : ∀ s o s', step E s o = some s' → ap o = true → run E s o = some s'
  vw : ∀ s o, pu o = true → view s = s
  vw2 : ∀ s o, ap o = true → view s = s
  ev : ∀ s o rs f args fl, callEv E (view s) o = some (f, args, fl) → (fl = true → D.cleans rs = true) → E.call f args [] [] = some (rs, [], []) → run E s o = run (E.with (rs, [], [])) s o
  go : ∀ s o r q, callOf E (view s) o = some r → E.call r.1 r.2.1 r.2.2.1 r.2.2.2 = some q → ∀ s', run (E.with q) s o = some s' → run E s o = some s'
theorem step_ok : RunOK E step (fun s => s) (fun _ => true) (fun _ => true) :=
  ⟨fun s o n d h hd _ => by
    unfold step
    rw [h, hd]
    rfl, fun s o s' h _ => h, fun _ _ _ => rfl, fun _ _ _ => rfl, fun s o rs f args fl h hfl hc => by
    obtain ⟨h1, h2⟩ := evOp_with h hfl hc
    unfold step
    rw [h1, h2], fun s o r q h hc s' hr => by rw [step_callOf h hc]; exact hr⟩
theorem rowStep_ok {M : Option (List Nat)} {first : Bool} {k : Nat} : RunOK E (fun E => rowStep E M first k) (rowView M k) (rowPu M k) (fun _ => Nat.beq k 2) := by
  have hcall : ∀ (s : St) (o : Oper) r, callEv E s o = some r → ∃ ca z, o.op = .call ca ∧ ca.callee = .value z := fun s o r h => by
    unfold callEv at h
    split at h
    · rename_i ca ho
      split at h
      · rename_i z hz; exact ⟨ca, z, ho, hz⟩
      · cases h
    · cases h
  have hcall2 : ∀ (s : St) (o : Oper) r, callOf E s o = some r → ∃ ca z, o.op = .call ca ∧ ca.callee = .value z := fun s o r h => by
    unfold callOf at h
    split at h
    · rename_i ca ho
      split at h
      · rename_i z hz; exact ⟨ca, z, ho, hz⟩
      · cases h
    · cases h
  have hno : ∀ (s : St) (o : Oper) (q : List D × List (List D) × List (Option Row)), (∃ ca z, o.op = .call ca ∧ ca.callee = .value z) → (k = 0 ∨ k = 1 ∨ k = 3) → ∀ E, rowStep E M first k s o = none := by
    rintro s o q ⟨ca, z, ho, hz⟩ hk E
    rcases hk with rfl | rfl | rfl
    · simp only [rowStep, calmStep, ho, isCalm, hz]
    · simp only [rowStep, loadStep, ho]
    · simp only [rowStep, allocStep, ho]
  have hev : ∀ (s : St) (o : Oper) (r : Nat × List D × List (List D) × List (Option Row)), callOf E s o = some r → ∀ E', E'.mode = E.mode → (∀ zs ts, argsD E' s.look zs ts = argsD E s.look zs ts) → evOp E' s.look s.get s.box o.type o.op = none := by
    intro s o r h E' hm ha
    unfold callOf at h
    split at h
    · rename_i ca ho
      split at h
      · rename_i z hz
        split at h
        · rename_i f cap hf
          split at h
          · cases h
          · rename_i hdead
            rw [ho]
            simp only [evOp, hz, hf]
            cases cap with
            | cons r rs => rfl
            | nil =>
              simp only [List.isEmpty_nil, Bool.true_and] at hdead
              simp only [evCall, hm, ha]
              cases hzz : allZero (E.mode f) with
              | false => rfl
              | true =>
                rw [hzz, Bool.true_and] at hdead
                cases hv : views s.get (argsD E s.look ca.args.toList ca.argTypes.toList) with
                | none => rfl
                | some r => rw [hv] at hdead; cases hdead
        · cases h
      · cases h
    · cases h
  have hpure : ∀ s o n d, evOp E s.look s.get s.box o.type o.op = some (.pure d) → o.dst = some n → rowPu M k o = true → rowStep E M first k s o = some (s.put n d) := by
    intro s o n d h hd hpu
    match k, hpu with
    | 0, hpu =>
      have hpu : isCalm o.op = true := hpu
      simp only [rowStep, calmStep, hpu, hd, h]
    | 1, hpu =>
      have hpu : (isLoad o.op && M.isNone) = true := hpu
      simp only [Bool.and_eq_true, Option.isNone_iff_eq_none] at hpu
      obtain ⟨h1, rfl⟩ := hpu
      unfold isLoad at h1
      split at h1
      · rename_i t x ho
        rw [ho] at h
        simp only [evOp, Option.bind_eq_some_iff, Option.map_eq_some_iff] at h
        obtain ⟨i, hi, y, hy, he⟩ := h
        cases he
        simp only [rowStep, loadStep, ho, hd, hi, Option.bind_some, hy, Option.map_some]
      · cases h1
    | 2, hpu => exact step_ok.pure s o n d h hd rfl
    | m + 4, hpu =>
      have hpu : M.isNone = true := hpu
      simp only [Option.isNone_iff_eq_none] at hpu
      subst hpu
      simp only [rowStep, flagStep, h, hd, Option.bind_some, St.apply, Option.map_some]
  have hvw : ∀ (s : St) (o : Oper), rowPu M k o = true → rowView M k s = s := by
    intro s o hpu
    match k, hpu with
    | 0, _ => rfl
    | 1, _ => rfl
    | 2, _ => rfl
    | m + 4, hpu =>
      have hpu : M.isNone = true := hpu
      simp only [Option.isNone_iff_eq_none] at hpu
      subst hpu
      rfl
  refine ⟨hpure, fun s o s' h hk => by rw [Nat.eq_of_beq_eq_true hk]; exact h, hvw, fun s o hk => by rw [Nat.eq_of_beq_eq_true hk]; rfl, fun s o rs f args fl h hfl hc => ?_, fun s o r q h hc s' hr => ?_⟩
  · have hk5 : (k = 0 ∨ k = 1 ∨ k = 3) ∨ k = 2 ∨ ∃ m, k = m + 4 := by
      match k with
      | 0 => exact .inl (.inl rfl)
      | 1 => exact .inl (.inr (.inl rfl))
      | 2 => exact .inr (.inl rfl)
      | 3 => exact .inl (.inr (.inr rfl))
      | m + 4 => exact .inr (.inr ⟨m, rfl⟩)
    rcases hk5 with hk | rfl | ⟨m, rfl⟩
    · rw [hno s o (rs, [], []) (hcall _ _ _ h) hk, hno s o (rs, [], []) (hcall _ _ _ h) hk]
    · exact step_ok.ev s o rs f args fl h hfl hc
    · show flagStep E M s o = flagStep (E.with (rs, [], [])) M s o
      unfold flagStep
      cases M with
      | none =>
        obtain ⟨h1, h2⟩ := evOp_with (s := s) h hfl hc
        simp only [h1, h2]
      | some M =>
        have h' := step_ok.ev (s.hid M) o rs f args fl h hfl hc
        simp only [h']
  · have hk5 : (k = 0 ∨ k = 1 ∨ k = 3) ∨ k = 2 ∨ ∃ m, k = m + 4 := by
      match k with
      | 0 => exact .inl (.inl rfl)
      | 1 => exact .inl (.inr (.inl rfl))
      | 2 => exact .inr (.inl rfl)
      | 3 => exact .inl (.inr (.inr rfl))
      | m + 4 => exact .inr (.inr ⟨m, rfl⟩)
    rcases hk5 with hk | rfl | ⟨m, rfl⟩
    · rw [hno s o q (hcall2 _ _ _ h) hk] at hr
      cases hr
    · exact step_ok.go s o r q h hc s' hr
    · have hr' : flagStep (E.with q) M s o = some s' := hr
      show flagStep E M s o = some s'
      unfold flagStep at hr' ⊢
      cases M with
      | none =>
        simp only at hr'
        rw [hev s o r h (E.with q) rfl (fun zs ts => argsD_with zs ts)] at hr'
        cases hr'
      | some M =>
        have h' := step_callOf (s := s.hid M) h hc
        simp only [h']
        exact hr'
theorem hop_sound {α β : Type} {run : Env → St → Oper → Option St} {view : St → St} {pu ap : Oper → Bool} (hrun : RunOK E run view pu ap) {s : St} {o : Oper} {k : St → Option (List Prop × α)} {q : List Prop × α} {k' : St → Option β} {b : β}
    (h : hop E hs run view pu ap s o k = some q) (hq : Obs q.1) (hk : ∀ s ps, k s = some (ps, q.2) → Obs ps → k' s = some b) : (run E s o).bind k' = some b := by
  unfold hop at h
  split at h
  · obtain ⟨ps, h1, h2⟩ := hadd_some h
    rw [h2] at hq
    rw [hq.1]
    exact hk _ ps h1 hq.2
  · obtain ⟨ps, h1, h2⟩ := hadd_some h
    rw [h2] at hq
    rw [hq.1]
    exact hk _ ps h1 hq.2
  · split at h
    · rename_i p d hask
      split at h
      · rename_i n hdn hpu
        obtain ⟨ps, h1, h2⟩ := hadd_some h
        rw [h2] at hq
        rw [hrun.pure s o _ _ (askEv_sound hask hq.1) hdn hpu]
        exact hk _ ps h1 hq.2
      · cases h
    · split at h
      · rename_i p s' hask hap
        obtain ⟨ps, h1, h2⟩ := hadd_some h
        rw [h2] at hq
        rw [hrun.app s o _ (askSt_sound hask hq.1) hap]
        exact hk _ ps h1 hq.2
      · cases h
  · split at h
    · rename_i p d hask
      split at h
      · rename_i n hdn hpu
        obtain ⟨ps, h1, h2⟩ := hadd_some h
        rw [h2] at hq
        rw [hrun.pure s o _ _ (askEv_sound hask hq.1) hdn hpu]
        exact hk _ ps h1 hq.2
      · cases h
    · split at h
      · rename_i p s' hask hap
        obtain ⟨ps, h1, h2⟩ := hadd_some h
        rw [h2] at hq
        rw [hrun.app s o _ (askApp_sound hask hq.1) hap]
        exact hk _ ps h1 hq.2
      · cases h
  · rename_i rs hhint
    split at h
    · rename_i f args fl hcv
      have hkey : ∃ ps, hadd (E.call f args [] [] = some (rs, [], [])) (match pu o, o.dst with | true, some n => k (s.put n (retD rs)) | _, _ => (run (E.with (rs, [], [])) s o).bind k) = some (ps, q.2) ∧ Obs ps ∧ (fl = true → D.cleans rs = true) := by
        cases fl with
        | false => exact ⟨q.1, h, hq, fun e => by cases e⟩
        | true =>
          obtain ⟨ps, h1, h2⟩ := hadd_some h
          rw [h2] at hq
          exact ⟨ps, h1, hq.2, fun _ => hq.1⟩
      obtain ⟨ps0, h0, hq0, hfl⟩ := hkey
      obtain ⟨ps, h1, h2⟩ := hadd_some h0
      simp only at h2
      rw [h2] at hq0
      split at h1
      · rename_i n hpu hdn
        have hv := hrun.vw s o hpu
        rw [hv] at hcv
        rw [hrun.pure s o _ _ (evOp_with hcv hfl hq0.1).1 hdn hpu]
        exact hk _ ps h1 hq0.2
      · rw [hrun.ev s o _ _ _ _ hcv hfl hq0.1]
        simp only [Option.bind_eq_some_iff] at h1
        obtain ⟨s', hr, h1⟩ := h1
        rw [hr]
        exact hk s' ps h1 hq0.2
    · cases h
  · split at h
    · rename_i f args us ls hcv
      obtain ⟨ps, h1, h2⟩ := hadd_some h
      rw [h2] at hq
      split at h1
      · rename_i hap
        split at h1
        · rename_i p s' hch
          obtain ⟨ps2, h3, h4⟩ := hadd_some h1
          simp only at h4
          rw [h4] at hq
          have hv : view s = s := hrun.vw2 s o hap
          rw [hv] at hcv
          rw [hrun.app s o _ (callH_sound hcv hq.1 hch hq.2.1) hap]
          exact hk s' ps2 h3 hq.2.2
        · cases h1
      · simp only [Option.bind_eq_some_iff] at h1
        obtain ⟨s', hr, h1⟩ := h1
        rw [hrun.go s o _ _ hcv hq.1 s' hr]
        exact hk s' ps h1 hq.2
    · cases h
  · cases hr : run E s o with
    | none => rw [hr] at h; cases h
    | some s' => rw [hr] at h; exact hk s' q.1 h hq
theorem hops_sound : ∀ (l : List Oper) (s : St) (q : List Prop × St), hops E hs ops l s = some q → Obs q.1 → runOps E ops l s = some q.2
  | [], s, q, h, hq => by cases h; rfl
  | o :: l, s, q, h, hq => by
    unfold hops at h
    unfold runOps
    exact hguard_sound h hq (fun s ps h1 h2 => hop_sound step_ok h1 h2 fun s ps h3 h4 => hops_sound l s (ps, q.2) h3 h4) (fun s ps h1 h2 => hops_sound l _ (ps, q.2) h1 h2)
theorem hopsD_sound {M : Option (List Nat)} : ∀ (l : List PRow) (first : Bool) (s : St) (q : List Prop × St), hopsD E hs ops M first l s = some q → Obs q.1 → runOpsD E ops M first l s = some q.2
  | [], first, s, q, h, hq => by cases h; rfl
  | (i, k, ds) :: l, first, s, q, h, hq => by
    unfold hopsD at h
    unfold runOpsD
    split at h
    · cases h
    · rename_i hj
      simp only [hj]
      split at h
      · cases h
      · rename_i o ho
        simp only [ho]
        exact hguard_sound h hq (fun s ps h1 h2 => hop_sound rowStep_ok h1 h2 fun s ps h3 h4 => hopsD_sound l _ s (ps, q.2) h3 h4) (fun s ps h1 h2 => hopsD_sound l _ _ (ps, q.2) h1 h2)
theorem hregion_sound {id : Nat} {draw : Bool} {s : St} {q : List Prop × St} (h : hregion E hs id ops draw s = some q) (hq : Obs q.1) : runRegion E id ops draw s = some q.2 := by
  unfold hregion at h
  unfold runRegion
  cases draw with
  | false => exact hops_sound _ _ _ h hq
  | true =>
    simp only at h ⊢
    split at h
    · rename_i p hp
      simp only [hp]
      unfold hplan at h
      unfold runPlan
      split at h
      · rename_i e
        simp only [e]
        cases h; rfl
      · rename_i i k ds l e
        simp only [e]
        split at h
        · rename_i hn
          simp only [hn]
          exact hopsD_sound _ _ _ _ h hq
        · cases h
    · cases h
theorem hthen_some {r : Option (List Prop × X × St)} {k : X → St → Option (List Prop × X × St)} {q : List Prop × X × St} (h : hthen r k = some q) (hq : Obs q.1) : ∃ ps x s qs, r = some (ps, x, s) ∧ k x s = some (qs, q.2) ∧ Obs ps ∧ Obs qs := by
  unfold hthen at h
  split at h
  · rename_i ps x s
    split at h
    · rename_i q' hk
      cases h
      obtain ⟨h1, h2⟩ := obs_append hq
      exact ⟨ps, x, s, q'.1, rfl, hk, h1, h2⟩
    · cases h
  · cases h
/-- What the hints lead to is what the code does, if all that they claim holds. -/
theorem hexec_sound {n : Nat} : ∀ (c : Code) (s : St) (q : List Prop × X × St), hexec E n hs c s = some q → Obs q.1 → exec E n c s = some q.2
  | .skip, s, q, h, hq => by cases h; rfl
  | .region id ops draw, s, q, h, hq => by
    simp only [hexec] at h
    split at h
    · rename_i r hr
      cases h
      simp only [exec]
      rw [hregion_sound hr hq]
      rfl
    · cases h
  | .seq a b, s, q, h, hq => by
    obtain ⟨pq, r⟩ := q
    simp only [hexec] at h
    obtain ⟨ps, x, s1, qs, h1, h2, h3, h4⟩ := hthen_some h hq
    have := hexec_sound a s _ h1 h3
    simp only [exec, this]
    cases x with
    | normal => exact hexec_sound b s1 (qs, r) h2 h4
    | exit i => cases h2; rfl
    | ret => cases h2; rfl
  | .cond c a b, s, q, h, hq => by
    simp only [hexec] at h
    simp only [exec]
    exact hcond_sound h hq (fun s ps h1 h2 => hexec_sound a s (ps, q.2) h1 h2) (fun s ps h1 h2 => hexec_sound b s (ps, q.2) h1 h2)
  | .block id c, s, q, h, hq => by
    obtain ⟨pq, r⟩ := q
    simp only [hexec] at h
    obtain ⟨ps, x, s1, qs, h1, h2, h3, h4⟩ := hthen_some h hq
    have := hexec_sound c s _ h1 h3
    simp only [exec, this]
    cases x with
    | normal => cases h2; rfl
    | exit i =>
      simp only at h2 ⊢
      split at h2
      · rename_i hb; simp only [hb]; cases h2; rfl
      · rename_i hb; simp only [hb]; cases h2; rfl
    | ret => cases h2; rfl
  | .loop c, s, q, h, hq => by
    simp only [hexec] at h
    split at h
    · cases h; exact hq.2.1 s ((norm_eq _ s).trans hq.1)
    · cases h
  | .exit id, s, q, h, hq => by cases h; rfl
  | .ret, s, q, h, hq => by cases h; rfl
  | .label _, s, q, h, hq => by cases h
  | .goto _, s, q, h, hq => by cases h
  | .rangeFunc _ _ _ _, s, q, h, hq => by cases h
  | .scope _, s, q, h, hq => by cases h
  | .refuse _, s, q, h, hq => by cases h
end
end Go.Den
namespace Go.Den
open Go
set_option linter.unusedVariables false
abbrev Res := List D × List (List D) × List (Option Row)
def hrun (C : Cfg) (n : Nat) (call : Nat → List D → List (List D) → List (Option Row) → Option Res) (hs : Hints) (f : Nat) (fn : Func) (args : List D) (u : List (List D)) (l : List (Option Row)) : Option (List Prop × Res) :=
  match fn.body with
  | none => none
  | some c => match hexec ⟨C.ty, C.mode, fn.ntmps, C.live f, C.out f, C.plan f, call⟩ n hs c (start args u l) with
    | some (_, .exit _, _) => none
    | some (ps, _, s) => (results C.ty fn.results.toList s).bind fun r => match Nat.beq r.2.u.length u.length with | true => some (ps, r.1, r.2.u.map (D.kills (Kill.but [])), r.2.l) | false => none
    | none => none
theorem hrun_sound {C : Cfg} {n : Nat} {call : Nat → List D → List (List D) → List (Option Row) → Option Res} (hs : Hints) {f : Nat} {fn : Func} {args : List D} {u : List (List D)} {l : List (Option Row)} {q : List Prop × Res} (h : hrun C n call hs f fn args u l = some q) (hq : Obs q.1) : runFn C n call f fn args u l = some q.2 := by
  unfold hrun at h
  unfold runFn
  split at h
  · cases h
  · rename_i c hc
    rw [hc]
    simp only
    split at h
    · cases h
    · rename_i ps x s hne he
      simp only [Option.bind_eq_some_iff] at h
      obtain ⟨r, hr, h⟩ := h
      split at h
      · rename_i hb
        cases h
        have := hexec_sound _ _ _ he hq
        rw [this]
        cases x with
        | exit i => exact (hne _ rfl).elim
        | normal => simp only [hr, Option.bind_some, hb]
        | ret => simp only [hr, Option.bind_some, hb]
      · cases h
    · cases h
theorem hrun_ok {C : Cfg} {n : Nat} {call : Nat → List D → List (List D) → List (Option Row) → Option Res} (hs : Hints) {f : Nat} {fn : Func} {args : List D} {u : List (List D)} {l : List (Option Row)} {ps : List Prop} {r : Res} (hq : Obs ps) (h : hrun C n call hs f fn args u l = some (ps, r)) : runFn C n call f fn args u l = some r := hrun_sound hs h hq
theorem ob0 : Obs [] := trivial
theorem ob {p : Prop} {l : List Prop} (h : p) (hl : Obs l) : Obs (p :: l) := ⟨h, hl⟩
theorem obT {p : Prop} (h : p) : true = true ∧ p := ⟨rfl, h⟩
def loopIn (r : Nat) : Code → Option Code
  | .seq a b => match loopIn r a with | some c => some c | none => loopIn r b
  | .cond _ a b => match loopIn r a with | some c => some c | none => loopIn r b
  | .block _ a => loopIn r a
  | .loop a => match Nat.beq (firstRegion a) r with | true => some a | false => loopIn r a
  | _ => none
/-- The body of a function's loop. -/
def lp (fn : Func) (r : Nat) : Code := match fn.body with | some c => (loopIn r c).getD .skip | none => .skip
def envOf (C : Cfg) (k f : Nat) (fn : Func) : Env := ⟨C.ty, C.mode, fn.ntmps, C.live f, C.out f, C.plan f, den C k⟩
def LoopAt (C : Cfg) (k f : Nat) (fn : Func) (r : Nat) (s0 : St) (x : X) (s' : St) : Prop := LoopOb (envOf C k f fn) k (lp fn r) s0 x s'
section
variable {E : Env} {n m : Nat} {c : Code} {L : List Nat} {s s0 s1 s2 : St} {ps : List Prop} {hs : Hints}
def stOf (r : Option (List Prop × X × St)) : St := match r with | some q => q.2.2 | none => start [] [] []
def wayOf (r : Option (List Prop × X × St)) : Option (List Prop × X) := match r with | some q => some (q.1, q.2.1) | none => none
def Rounds (E : Env) (n : Nat) (c : Code) (m : Nat) (s : St) (K : X → St → Prop) : Prop := ∃ x s1, iter (exec E n c) (St.norm (E.live (firstRegion c))) m s = some (x, s1) ∧ K x (s1.norm (E.out (firstRegion c)))
theorem wayOf_some {r : Option (List Prop × X × St)} {p : List Prop × X} (h : wayOf r = some p) : r = some (p.1, p.2, stOf r) := by
  unfold wayOf at h
  split at h
  · cases h; rfl
  · cases h
theorem rounds_go {K : X → St → Prop} (hs : Hints) (hL : s.norm (E.live (firstRegion c)) = s0) (h : wayOf (hexec E n hs c s0) = some (ps, .normal)) (ho : Obs ps) (hst : nmOf (E.live (firstRegion c)) (stOf (hexec E n hs c s0)) = s2) (hn : ∀ s, s.norm (E.live (firstRegion c)) = s2 → Rounds E n c m s K) : Rounds E n c (m + 1) s K := by
  obtain ⟨x, s1, h1, h2⟩ := hn (stOf (hexec E n hs c s0)) ((norm_eq _ _).trans hst)
  have := hexec_sound _ _ _ (wayOf_some h) ho
  refine ⟨x, s1, ?_, h2⟩
  simp only [iter, hL, this]
  exact h1
theorem rounds_end {K : X → St → Prop} {x : X} (hs : Hints) (hL : s.norm (E.live (firstRegion c)) = s0) (h : wayOf (hexec E n hs c s0) = some (ps, x)) (hx : (match x with | .normal => false | _ => true) = true) (ho : Obs ps) (hst : nmOf (E.out (firstRegion c)) (stOf (hexec E n hs c s0)) = s2) (hK : K x s2) : Rounds E n c (m + 1) s K := by
  have := hexec_sound _ _ _ (wayOf_some h) ho
  refine ⟨x, stOf (hexec E n hs c s0), ?_, by rw [norm_eq, hst]; exact hK⟩
  simp only [iter, hL, this]
  cases x with
  | normal => cases hx
  | _ => rfl
theorem loop_rounds {K : X → St → Prop} (h : Rounds E n c n s K) : ∃ x s', exec E n (.loop c) s = some (x, s') ∧ K x s' := by
  obtain ⟨x, s1, h1, h2⟩ := h
  exact ⟨x, _, by simp only [exec, h1, Option.map_some], h2⟩
theorem loopOb_of {x : X} (h : ∀ s : St, s.norm (E.live (firstRegion c)) = s0 → Rounds E n c n s (fun x' s' => x' = x ∧ s' = s1)) : LoopOb E n c s0 x s1 := fun s hL => by
  obtain ⟨x', s', h1, rfl, rfl⟩ := loop_rounds (h s hL)
  exact h1
end
end Go.Den
namespace Go.Den
open Go
abbrev I (n : Int) : Dat := .val (.int .i64 n)
abbrev B (b : Bool) : Dat := .val (.bool b)
abbrev S (s : ByteArray) : Dat := .val (.string s)
abbrev U64 (n : Int) : Dat := .val (.int .u64 n)
abbrev Y8 (n : Int) : Dat := .val (.int .u8 n)
abbrev w64 (n : Int) : Int := IntKind.i64.wrap n
abbrev T (k n : Int) (ds : List Dat) : Dat := .agg [I k, I n, .lst false ds]
abbrev N3 (a b c : Int) : Dat := .agg [I a, I b, I c]
end Go.Den
namespace Go.Den
open Go
set_option linter.unusedVariables false
set_option maxRecDepth 100000
theorem lcVar (kk : Nat) (n : Int)  : runFn cfg kk (den cfg kk) 64 Go.Proofs.Tryz.f64 [.dat (I n)] [] [] = some ([D.dat (T 1 n [])], [], []) :=
  hrun_ok [] ob0 (by kernel_rfl)
theorem lcLam (kk : Nat) (k n : Int) (ds : List Dat)  : runFn cfg kk (den cfg kk) 65 Go.Proofs.Tryz.f65 [.dat (T k n ds)] [] [] = some ([D.dat (Dat.agg [I 2, I 0, Dat.lst false [T k n ds]])], [], []) :=
  hrun_ok [] ob0 (by kernel_rfl)
theorem lcApp (kk : Nat) (k n k' n' : Int) (ds ds' : List Dat)  : runFn cfg kk (den cfg kk) 35 Go.Proofs.Tryz.f35 [.dat (T k n ds), .dat (T k' n' ds')] [] [] = some ([D.dat (Dat.agg [I 3, I 0, Dat.lst false [T k n ds, Dat.agg [I k', I n', Dat.lst false ds']]])], [], []) :=
  hrun_ok [] ob0 (by kernel_rfl)
theorem l1In_no (kk : Nat) (x lo hi : Int) (h1 : decide (lo ≤ x) = false) : runFn cfg kk (den cfg kk) 30 Go.Proofs.Tryz.f30 [.dat (I x), .dat (I lo), .dat (I hi)] [] [] = some ([D.dat (B false)], [], []) :=
  hrun_ok [(200010, .no)] (ob h1 (ob (rfl : false = false) (ob (rfl : false = false) ob0))) (by kernel_rfl)
theorem l1In_yes (kk : Nat) (x lo hi : Int) (h1 : decide (lo ≤ x) = true) : runFn cfg kk (den cfg kk) 30 Go.Proofs.Tryz.f30 [.dat (I x), .dat (I lo), .dat (I hi)] [] [] = some ([D.dat (B (decide (x ≤ hi)))], [], []) :=
  hrun_ok [(200010, .yes)] (ob h1 (ob (rfl : true = true) (ob (rfl : true = true) ob0))) (by kernel_rfl)
def hd88 (b : Bool) (es : List Dat) (k i : Int) (out : List Dat) : St := Nm [0, 1, 5, 6] [.dat (.lst b es), .dat (I k), .own 3 out, .dat (I i)] [none, none, none, none] [] []
theorem lcParts_in (kk m : Nat) {s : St} {K : X → St → Prop} (b : Bool) (es : List Dat) (k i x y z : Int) (out : List Dat) (hs : s.norm ((envOf cfg kk 50 Go.Proofs.Tryz.f50).live (firstRegion (lp Go.Proofs.Tryz.f50 3))) = hd88 b es k i out) (h1 : decide (i < (es.length : Int)) = true) (h2 : (0 ≤ i ∧ i < (es.length : Int)) ∧ es[i.toNat]? = some (N3 x y z)) (h3 : decide (z = k) = true) (h4 : out.length + 1 ≤ 2147483648) (hn : ∀ s : St, s.norm ((envOf cfg kk 50 Go.Proofs.Tryz.f50).live (firstRegion (lp Go.Proofs.Tryz.f50 3))) = Nm [0, 1, 5, 6] [D.dat (Dat.lst b es), D.dat (I k), D.own 3 (out ++ [I i]), D.dat (I (w64 (i + 1)))] [none, none, none, none] [] [] → Rounds (envOf cfg kk 50 Go.Proofs.Tryz.f50) kk (lp Go.Proofs.Tryz.f50 3) m s K) : Rounds (envOf cfg kk 50 Go.Proofs.Tryz.f50) kk (lp Go.Proofs.Tryz.f50 3) (m + 1) s K :=
  rounds_go [(200012, .yes), (17, .at (N3 x y z)), (200021, .yes), (25, .ok)] hs (by kernel_rfl) (ob h1 (ob h2 (ob h3 (ob (obT h4) ob0)))) (by kernel_rfl) hn
theorem lcParts_no (kk m : Nat) {s : St} {K : X → St → Prop} (b : Bool) (es : List Dat) (k i x y z : Int) (out : List Dat) (hs : s.norm ((envOf cfg kk 50 Go.Proofs.Tryz.f50).live (firstRegion (lp Go.Proofs.Tryz.f50 3))) = hd88 b es k i out) (h1 : decide (i < (es.length : Int)) = true) (h2 : (0 ≤ i ∧ i < (es.length : Int)) ∧ es[i.toNat]? = some (N3 x y z)) (h3 : decide (z = k) = false) (hn : ∀ s : St, s.norm ((envOf cfg kk 50 Go.Proofs.Tryz.f50).live (firstRegion (lp Go.Proofs.Tryz.f50 3))) = Nm [0, 1, 5, 6] [D.dat (Dat.lst b es), D.dat (I k), D.own 3 out, D.dat (I (w64 (i + 1)))] [none, none, none, none] [] [] → Rounds (envOf cfg kk 50 Go.Proofs.Tryz.f50) kk (lp Go.Proofs.Tryz.f50 3) m s K) : Rounds (envOf cfg kk 50 Go.Proofs.Tryz.f50) kk (lp Go.Proofs.Tryz.f50 3) (m + 1) s K :=
  rounds_go [(200012, .yes), (17, .at (N3 x y z)), (200021, .no)] hs (by kernel_rfl) (ob h1 (ob h2 (ob h3 ob0))) (by kernel_rfl) hn
theorem lcParts_end (kk m : Nat) {s : St} {K : X → St → Prop} (b : Bool) (es : List Dat) (k i : Int) (out : List Dat) (hs : s.norm ((envOf cfg kk 50 Go.Proofs.Tryz.f50).live (firstRegion (lp Go.Proofs.Tryz.f50 3))) = hd88 b es k i out) (h1 : decide (i < (es.length : Int)) = false) (hK : K (X.exit 0) (Nm [5] [D.own 3 out] [none] [] [])) : Rounds (envOf cfg kk 50 Go.Proofs.Tryz.f50) kk (lp Go.Proofs.Tryz.f50 3) (m + 1) s K :=
  rounds_end [(200012, .no)] hs (by kernel_rfl) rfl (ob h1 ob0) (by kernel_rfl) hK
theorem lcParts (kk : Nat) (b : Bool) (es : List Dat) (k : Int) (out : List Dat) (h2 : LoopAt cfg kk 50 Go.Proofs.Tryz.f50 3 (hd88 b es k (w64 (k + 1)) []) (X.exit 0) (Nm [5] [D.own 3 out] [none] [] [])) : runFn cfg kk (den cfg kk) 50 Go.Proofs.Tryz.f50 [.dat (Dat.lst b es), .dat (I k)] [] [] = some ([D.own 3 out], [], []) :=
  hrun_ok [(300003, .loop (hd88 b es k (w64 (k + 1)) []) (.exit 0) (Nm [5] [.own 3 out] [none] [] []))] (ob (rfl : _ = hd88 b es k (w64 (k + 1)) []) (ob h2 ob0)) (by kernel_rfl)
def hd48 (b : Bool) (es : List Dat) (k n : Int) (ps : List Dat) (i : Int) (out : List Dat) : St := Nm [0, 4, 5, 21, 22, 23] [.dat (.lst b es), .ptr (.loc 4) 0, .ptr (.loc 5) 0, .own 3 ps, .dat (I ps.length), .dat (I i)] [none, some [.dat (I 0), .dat (I 0), .own 54 []], some [.dat (I k), .dat (I n), .own 54 out], none, none, none] [] []
theorem lcTree_go (kk m : Nat) {s : St} {K : X → St → Prop} (b : Bool) (es : List Dat) (k n : Int) (ps : List Dat) (i p kx nx : Int) (dx out : List Dat) (hs : s.norm ((envOf cfg kk 23 Go.Proofs.Tryz.f23).live (firstRegion (lp Go.Proofs.Tryz.f23 3))) = hd48 b es k n ps i out) (h1 : decide (i < (ps.length : Int)) = true) (h2 : 0 ≤ i ∧ i < (ps.length : Int)) (h3 : ps[i.toNat]? = some (I p)) (h4 : den cfg kk 23 [D.dat (Dat.lst b es), D.dat (I p)] [] [] = some ([D.dat (T kx nx dx)], [], [])) (h5 : out.length + 1 ≤ 2147483648) (hn : ∀ s : St, s.norm ((envOf cfg kk 23 Go.Proofs.Tryz.f23).live (firstRegion (lp Go.Proofs.Tryz.f23 3))) = Nm [0, 4, 5, 21, 22, 23] [D.dat (Dat.lst b es), D.ptr (Ref.loc 4) 0, D.ptr (Ref.loc 5) 0, D.own 3 ps, D.dat (I (ps.length : Int)), D.dat (I (w64 (i + 1)))] [none, some [D.dat (I 0), D.dat (I 0), D.own 54 []], some [D.dat (I k), D.dat (I n), D.own 54 (out ++ [T kx nx dx])], none, none, none] [] [] → Rounds (envOf cfg kk 23 Go.Proofs.Tryz.f23) kk (lp Go.Proofs.Tryz.f23 3) m s K) : Rounds (envOf cfg kk 23 Go.Proofs.Tryz.f23) kk (lp Go.Proofs.Tryz.f23 3) (m + 1) s K :=
  rounds_go [(200024, .yes), (25, .ok), (26, .at (I p)), (31, .ret [.dat (T kx nx dx)]), (33, .ok)] hs (by kernel_rfl) (ob h1 (ob h2 (ob h3 (ob h4 (ob (obT h5) ob0))))) (by kernel_rfl) hn
theorem lcTree_end (kk m : Nat) {s : St} {K : X → St → Prop} (b : Bool) (es : List Dat) (k n : Int) (ps : List Dat) (i : Int) (out : List Dat) (hs : s.norm ((envOf cfg kk 23 Go.Proofs.Tryz.f23).live (firstRegion (lp Go.Proofs.Tryz.f23 3))) = hd48 b es k n ps i out) (h1 : decide (i < (ps.length : Int)) = false) (hK : K (X.exit 0) (Nm [4, 5] [D.ptr (Ref.loc 4) 0, D.ptr (Ref.loc 5) 0] [some [D.dat (I 0), D.dat (I 0), D.own 54 []], some [D.dat (I k), D.dat (I n), D.own 54 out]] [] [])) : Rounds (envOf cfg kk 23 Go.Proofs.Tryz.f23) kk (lp Go.Proofs.Tryz.f23 3) (m + 1) s K :=
  rounds_end [(200024, .no)] hs (by kernel_rfl) rfl (ob h1 ob0) (by kernel_rfl) hK
theorem lcTree (kk : Nat) (b : Bool) (es : List Dat) (a k n u : Int) (ps out : List Dat) (h1 : (0 ≤ a ∧ a < (es.length : Int)) ∧ es[a.toNat]? = some (N3 k n u)) (h2 : (0 ≤ a ∧ a < (es.length : Int)) ∧ es[a.toNat]? = some (N3 k n u)) (h3 : den cfg kk 50 [D.dat (Dat.lst b es), D.dat (I a)] [] [] = some ([D.own 3 ps], [], [])) (h5 : LoopAt cfg kk 23 Go.Proofs.Tryz.f23 3 (hd48 b es k n ps 0 []) (X.exit 0) (Nm [4, 5] [D.ptr (Ref.loc 4) 0, D.ptr (Ref.loc 5) 0] [some [D.dat (I 0), D.dat (I 0), D.own 54 []], some [D.dat (I k), D.dat (I n), D.own 54 out]] [] [])) : runFn cfg kk (den cfg kk) 23 Go.Proofs.Tryz.f23 [.dat (Dat.lst b es), .dat (I a)] [] [] = some ([D.dat (T k n out)], [], []) :=
  hrun_ok [(10, .at (N3 k n u)), (15, .at (N3 k n u)), (21, .ret [.own 3 ps]), (300003, .loop (hd48 b es k n ps 0 []) (.exit 0) (Nm [4, 5] [.ptr (.loc 4) 0, .ptr (.loc 5) 0] [some [.dat (I 0), .dat (I 0), .own 54 []], some [.dat (I k), .dat (I n), .own 54 out]] [] []))] (ob h1 (ob h2 (ob h3 (ob (rfl : _ = hd48 b es k n ps 0 []) (ob h5 ob0))))) (by kernel_rfl)
def hd89 (out : List Dat) (at_ : Int) (ps : List Dat) (i : Int) : St := Nm [0, 7, 22, 23, 24] [.own 60 out, .dat (I at_), .dat (.lst false ps), .dat (I ps.length), .dat (I i)] [none, none, none, none, none] [] []
theorem lcFlat_go (kk m : Nat) {s : St} {K : X → St → Prop} (out : List Dat) (at_ : Int) (ps : List Dat) (i kx nx : Int) (dx out' : List Dat) (hs : s.norm ((envOf cfg kk 37 Go.Proofs.Tryz.f37).live (firstRegion (lp Go.Proofs.Tryz.f37 4))) = hd89 out at_ ps i) (h1 : decide (i < (ps.length : Int)) = true) (h2 : (0 ≤ i ∧ i < (ps.length : Int)) ∧ ps[i.toNat]? = some (T kx nx dx)) (h3 : decide ((out.length : Int) ≤ 150) = true) (h4 : den cfg kk 37 [D.own 60 out, D.dat (T kx nx dx), D.dat (I at_)] [] [] = some ([D.own 60 out'], [], [])) (hn : ∀ s : St, s.norm ((envOf cfg kk 37 Go.Proofs.Tryz.f37).live (firstRegion (lp Go.Proofs.Tryz.f37 4))) = Nm [0, 7, 22, 23, 24] [D.own 60 out', D.dat (I at_), D.dat (Dat.lst false ps), D.dat (I (ps.length : Int)), D.dat (I (w64 (i + 1)))] [none, none, none, none, none] [] [] → Rounds (envOf cfg kk 37 Go.Proofs.Tryz.f37) kk (lp Go.Proofs.Tryz.f37 4) m s K) : Rounds (envOf cfg kk 37 Go.Proofs.Tryz.f37) kk (lp Go.Proofs.Tryz.f37 4) (m + 1) s K :=
  rounds_go [(200025, .yes), (26, .at (T kx nx dx)), (200030, .yes), (34, .back [.own 60 out'] [] [])] hs (by kernel_rfl) (ob h1 (ob h2 (ob h3 (ob h4 (ob (rfl : false = false) ob0))))) (by kernel_rfl) hn
theorem lcFlat_skip (kk m : Nat) {s : St} {K : X → St → Prop} (out : List Dat) (at_ : Int) (ps : List Dat) (i kx nx : Int) (dx : List Dat) (hs : s.norm ((envOf cfg kk 37 Go.Proofs.Tryz.f37).live (firstRegion (lp Go.Proofs.Tryz.f37 4))) = hd89 out at_ ps i) (h1 : decide (i < (ps.length : Int)) = true) (h2 : (0 ≤ i ∧ i < (ps.length : Int)) ∧ ps[i.toNat]? = some (T kx nx dx)) (h3 : decide ((out.length : Int) ≤ 150) = false) (hn : ∀ s : St, s.norm ((envOf cfg kk 37 Go.Proofs.Tryz.f37).live (firstRegion (lp Go.Proofs.Tryz.f37 4))) = Nm [0, 7, 22, 23, 24] [D.own 60 out, D.dat (I at_), D.dat (Dat.lst false ps), D.dat (I (ps.length : Int)), D.dat (I (w64 (i + 1)))] [none, none, none, none, none] [] [] → Rounds (envOf cfg kk 37 Go.Proofs.Tryz.f37) kk (lp Go.Proofs.Tryz.f37 4) m s K) : Rounds (envOf cfg kk 37 Go.Proofs.Tryz.f37) kk (lp Go.Proofs.Tryz.f37 4) (m + 1) s K :=
  rounds_go [(200025, .yes), (26, .at (T kx nx dx)), (200030, .no)] hs (by kernel_rfl) (ob h1 (ob h2 (ob h3 ob0))) (by kernel_rfl) hn
theorem lcFlat_end (kk m : Nat) {s : St} {K : X → St → Prop} (out : List Dat) (at_ : Int) (ps : List Dat) (i : Int) (hs : s.norm ((envOf cfg kk 37 Go.Proofs.Tryz.f37).live (firstRegion (lp Go.Proofs.Tryz.f37 4))) = hd89 out at_ ps i) (h1 : decide (i < (ps.length : Int)) = false) (hK : K (X.exit 0) (Nm [0] [D.own 60 out] [none] [] [])) : Rounds (envOf cfg kk 37 Go.Proofs.Tryz.f37) kk (lp Go.Proofs.Tryz.f37 4) (m + 1) s K :=
  rounds_end [(200025, .no)] hs (by kernel_rfl) rfl (ob h1 ob0) (by kernel_rfl) hK
theorem lcFlat (kk : Nat) (l : List Dat) (k n up : Int) (ps out : List Dat) (h1 : l.length + 1 ≤ 2147483648) (h3 : LoopAt cfg kk 37 Go.Proofs.Tryz.f37 4 (hd89 (l ++ [N3 k n up]) ((l.length : Int)) ps 0) (X.exit 0) (Nm [0] [D.own 60 out] [none] [] [])) : runFn cfg kk (den cfg kk) 37 Go.Proofs.Tryz.f37 [.own 60 l, .dat (T k n ps), .dat (I up)] [] [] = some ([D.own 60 out], [], []) :=
  hrun_ok [(20, .ok), (300004, .loop (hd89 (l ++ [N3 k n up]) l.length ps 0) (.exit 0) (Nm [0] [.own 60 out] [none] [] []))] (ob (obT h1) (ob (rfl : _ = hd89 (l ++ [N3 k n up]) ((l.length : Int)) ps 0) (ob h3 ob0))) (by kernel_rfl)
theorem lcTold_no (kk : Nat) (k n : Int) (ps out : List Dat) (h1 : den cfg kk 37 [D.own 60 [], D.dat (T k n ps), D.dat (I (-1))] [] [] = some ([D.own 60 out], [], [])) (h4 : den cfg kk 21 [D.dat (Dat.lst true out)] [] [] = some ([D.dat (B false)], [], [])) : runFn cfg kk (den cfg kk) 32 Go.Proofs.Tryz.f32 [.dat (T k n ps)] [] [] = some ([D.own 60 [], D.dat (B false)], [], []) :=
  hrun_ok [(6, .back [.own 60 out] [] []), (8, .ret [.dat (B false)])] (ob h1 (ob (rfl : false = false) (ob (rfl : true = true) (ob h4 ob0)))) (by kernel_rfl)
theorem lcTold_yes (kk : Nat) (k n : Int) (ps out : List Dat) (h1 : den cfg kk 37 [D.own 60 [], D.dat (T k n ps), D.dat (I (-1))] [] [] = some ([D.own 60 out], [], [])) (h4 : den cfg kk 21 [D.dat (Dat.lst true out)] [] [] = some ([D.dat (B true)], [], [])) : runFn cfg kk (den cfg kk) 32 Go.Proofs.Tryz.f32 [.dat (T k n ps)] [] [] = some ([D.own 60 out, D.dat (B true)], [], []) :=
  hrun_ok [(6, .back [.own 60 out] [] []), (8, .ret [.dat (B true)])] (ob h1 (ob (rfl : false = false) (ob (rfl : true = true) (ob h4 ob0)))) (by kernel_rfl)
def hd70 (b f k n : Int) (ps out : List Dat) (i : Int) : St := Nm [1, 2, 3, 6, 8, 41, 42, 43] [.dat (I b), .dat (I f), .ptr (.loc 3) 0, .ptr (.loc 6) 0, .ptr (.loc 8) 0, .dat (.lst false ps), .dat (I ps.length), .dat (I i)] [none, none, some [.dat (I k), .dat (I n), .dat (.lst false ps)], some [.dat (I 0), .dat (I 0), .own 54 []], some [.dat (I k), .dat (I 0), .own 54 out], none, none, none] [] []
theorem lcShift_go (kk m : Nat) {s : St} {K : X → St → Prop} (b f k n : Int) (ps out : List Dat) (i : Int) (kx nx ky ny : Int) (px py : List Dat) (hs : s.norm ((envOf cfg kk 31 Go.Proofs.Tryz.f31).live (firstRegion (lp Go.Proofs.Tryz.f31 9))) = hd70 b f k n ps out i) (h1 : decide (i < (ps.length : Int)) = true) (h2 : (0 ≤ i ∧ i < (ps.length : Int)) ∧ ps[i.toNat]? = some (T kx nx px)) (h3 : den cfg kk 31 [D.dat (T kx nx px), D.dat (I b), D.dat (I f)] [] [] = some ([D.dat (T ky ny py), D.dat (B true)], [], [])) (h4 : out.length + 1 ≤ 2147483648) (hn : ∀ s : St, s.norm ((envOf cfg kk 31 Go.Proofs.Tryz.f31).live (firstRegion (lp Go.Proofs.Tryz.f31 9))) = Nm [1, 2, 3, 6, 8, 41, 42, 43] [D.dat (I b), D.dat (I f), D.ptr (Ref.loc 3) 0, D.ptr (Ref.loc 6) 0, D.ptr (Ref.loc 8) 0, D.dat (Dat.lst false ps), D.dat (I (ps.length : Int)), D.dat (I (w64 (i + 1)))] [none, none, some [D.dat (I k), D.dat (I n), D.dat (Dat.lst false ps)], some [D.dat (I 0), D.dat (I 0), D.own 54 []], some [D.dat (I k), D.dat (I 0), D.own 54 (out ++ [T ky ny py])], none, none, none] [] [] → Rounds (envOf cfg kk 31 Go.Proofs.Tryz.f31) kk (lp Go.Proofs.Tryz.f31 9) m s K) : Rounds (envOf cfg kk 31 Go.Proofs.Tryz.f31) kk (lp Go.Proofs.Tryz.f31 9) (m + 1) s K :=
  rounds_go [(200044, .yes), (45, .at (T kx nx px)), (51, .ret [.dat (T ky ny py), .dat (B true)]), (61, .ok)] hs (by kernel_rfl) (ob h1 (ob h2 (ob h3 (ob (obT h4) ob0)))) (by kernel_rfl) hn
theorem lcShift_bad (kk m : Nat) {s : St} {K : X → St → Prop} (b f k n : Int) (ps out : List Dat) (i : Int) (kx nx ky ny : Int) (px py : List Dat) (hs : s.norm ((envOf cfg kk 31 Go.Proofs.Tryz.f31).live (firstRegion (lp Go.Proofs.Tryz.f31 9))) = hd70 b f k n ps out i) (h1 : decide (i < (ps.length : Int)) = true) (h2 : (0 ≤ i ∧ i < (ps.length : Int)) ∧ ps[i.toNat]? = some (T kx nx px)) (h3 : den cfg kk 31 [D.dat (T kx nx px), D.dat (I b), D.dat (I f)] [] [] = some ([D.dat (T ky ny py), D.dat (B false)], [], [])) (hK : K (X.ret) (Nm [6, 7, 8] [D.ptr (Ref.loc 6) 0, D.dat (B false), D.ptr (Ref.loc 8) 0] [some [D.dat (I k), D.dat (I n), D.dat (Dat.lst false ps)], none, some [D.dat (I k), D.dat (I 0), D.own 54 out]] [] [])) : Rounds (envOf cfg kk 31 Go.Proofs.Tryz.f31) kk (lp Go.Proofs.Tryz.f31 9) (m + 1) s K :=
  rounds_end [(200044, .yes), (45, .at (T kx nx px)), (51, .ret [.dat (T ky ny py), .dat (B false)])] hs (by kernel_rfl) rfl (ob h1 (ob h2 (ob h3 ob0))) (by kernel_rfl) hK
theorem lcShift_end (kk m : Nat) {s : St} {K : X → St → Prop} (b f k n : Int) (ps out : List Dat) (i : Int) (hs : s.norm ((envOf cfg kk 31 Go.Proofs.Tryz.f31).live (firstRegion (lp Go.Proofs.Tryz.f31 9))) = hd70 b f k n ps out i) (h1 : decide (i < (ps.length : Int)) = false) (hK : K (X.exit 0) (Nm [6, 7, 8] [D.ptr (Ref.loc 6) 0, D.junk, D.ptr (Ref.loc 8) 0] [some [D.dat (I 0), D.dat (I 0), D.own 54 []], none, some [D.dat (I k), D.dat (I 0), D.own 54 out]] [] [])) : Rounds (envOf cfg kk 31 Go.Proofs.Tryz.f31) kk (lp Go.Proofs.Tryz.f31 9) (m + 1) s K :=
  rounds_end [(200044, .no)] hs (by kernel_rfl) rfl (ob h1 ob0) (by kernel_rfl) hK
theorem lcShift_lo (kk : Nat) (n b f : Int) (ds : List Dat) (h1 : decide (n < f) = true) : runFn cfg kk (den cfg kk) 31 Go.Proofs.Tryz.f31 [.dat (T 1 n ds), .dat (I b), .dat (I f)] [] [] = some ([D.dat (T 1 n ds), D.dat (B true)], [], []) :=
  hrun_ok [(200019, .yes)] (ob h1 ob0) (by kernel_rfl)
theorem lcShift_hi (kk : Nat) (n b f : Int) (ds : List Dat) (h1 : decide (n < f) = false) (h2 : den cfg kk 64 [D.dat (I (w64 (n + b)))] [] [] = some ([D.dat (T 1 (w64 (n + b)) [])], [], [])) : runFn cfg kk (den cfg kk) 31 Go.Proofs.Tryz.f31 [.dat (T 1 n ds), .dat (I b), .dat (I f)] [] [] = some ([D.dat (T 1 (w64 (n + b)) []), D.dat (B (decide (f ≤ w64 (n + b))))], [], []) :=
  hrun_ok [(200019, .no), (25, .ret [.dat (T 1 (w64 (n + b)) [])])] (ob h1 (ob h2 ob0)) (by kernel_rfl)
theorem lcShift_lam_y (kk : Nat) (n b f : Int) (ps out : List Dat) (h2 : LoopAt cfg kk 31 Go.Proofs.Tryz.f31 9 (hd70 b (w64 (f + 1)) 2 n ps [] 0) (X.exit 0) (Nm [6, 7, 8] [D.ptr (Ref.loc 6) 0, D.junk, D.ptr (Ref.loc 8) 0] [some [D.dat (I 0), D.dat (I 0), D.own 54 []], none, some [D.dat (I 2), D.dat (I 0), D.own 54 out]] [] [])) : runFn cfg kk (den cfg kk) 31 Go.Proofs.Tryz.f31 [.dat (T 2 n ps), .dat (I b), .dat (I f)] [] [] = some ([D.dat (T 2 0 out), D.dat (B true)], [], []) :=
  hrun_ok [(300009, .loop (hd70 b (w64 (f + 1)) 2 n ps [] 0) (.exit 0) (Nm [6, 7, 8] [.ptr (.loc 6) 0, .junk, .ptr (.loc 8) 0] [some [.dat (I 0), .dat (I 0), .own 54 []], none, some [.dat (I 2), .dat (I 0), .own 54 out]] [] []))] (ob (rfl : _ = hd70 b (w64 (f + 1)) 2 n ps [] 0) (ob h2 ob0)) (by kernel_rfl)
theorem lcShift_lam_n (kk : Nat) (n b f : Int) (ps out : List Dat) (h2 : LoopAt cfg kk 31 Go.Proofs.Tryz.f31 9 (hd70 b (w64 (f + 1)) 2 n ps [] 0) X.ret (Nm [6, 7, 8] [D.ptr (Ref.loc 6) 0, D.dat (B false), D.ptr (Ref.loc 8) 0] [some [D.dat (I 2), D.dat (I n), D.dat (Dat.lst false ps)], none, some [D.dat (I 2), D.dat (I 0), D.own 54 out]] [] [])) : runFn cfg kk (den cfg kk) 31 Go.Proofs.Tryz.f31 [.dat (T 2 n ps), .dat (I b), .dat (I f)] [] [] = some ([D.dat (T 2 n ps), D.dat (B false)], [], []) :=
  hrun_ok [(300009, .loop (hd70 b (w64 (f + 1)) 2 n ps [] 0) .ret (Nm [6, 7, 8] [.ptr (.loc 6) 0, .dat (B false), .ptr (.loc 8) 0] [some [.dat (I 2), .dat (I n), .dat (.lst false ps)], none, some [.dat (I 2), .dat (I 0), .own 54 out]] [] []))] (ob (rfl : _ = hd70 b (w64 (f + 1)) 2 n ps [] 0) (ob h2 ob0)) (by kernel_rfl)
theorem lcShift_app_y (kk : Nat) (n b f : Int) (ps out : List Dat) (h2 : LoopAt cfg kk 31 Go.Proofs.Tryz.f31 9 (hd70 b f 3 n ps [] 0) (X.exit 0) (Nm [6, 7, 8] [D.ptr (Ref.loc 6) 0, D.junk, D.ptr (Ref.loc 8) 0] [some [D.dat (I 0), D.dat (I 0), D.own 54 []], none, some [D.dat (I 3), D.dat (I 0), D.own 54 out]] [] [])) : runFn cfg kk (den cfg kk) 31 Go.Proofs.Tryz.f31 [.dat (T 3 n ps), .dat (I b), .dat (I f)] [] [] = some ([D.dat (T 3 0 out), D.dat (B true)], [], []) :=
  hrun_ok [(300009, .loop (hd70 b f 3 n ps [] 0) (.exit 0) (Nm [6, 7, 8] [.ptr (.loc 6) 0, .junk, .ptr (.loc 8) 0] [some [.dat (I 0), .dat (I 0), .own 54 []], none, some [.dat (I 3), .dat (I 0), .own 54 out]] [] []))] (ob (rfl : _ = hd70 b f 3 n ps [] 0) (ob h2 ob0)) (by kernel_rfl)
theorem lcShift_app_n (kk : Nat) (n b f : Int) (ps out : List Dat) (h2 : LoopAt cfg kk 31 Go.Proofs.Tryz.f31 9 (hd70 b f 3 n ps [] 0) X.ret (Nm [6, 7, 8] [D.ptr (Ref.loc 6) 0, D.dat (B false), D.ptr (Ref.loc 8) 0] [some [D.dat (I 3), D.dat (I n), D.dat (Dat.lst false ps)], none, some [D.dat (I 3), D.dat (I 0), D.own 54 out]] [] [])) : runFn cfg kk (den cfg kk) 31 Go.Proofs.Tryz.f31 [.dat (T 3 n ps), .dat (I b), .dat (I f)] [] [] = some ([D.dat (T 3 n ps), D.dat (B false)], [], []) :=
  hrun_ok [(300009, .loop (hd70 b f 3 n ps [] 0) .ret (Nm [6, 7, 8] [.ptr (.loc 6) 0, .dat (B false), .ptr (.loc 8) 0] [some [.dat (I 3), .dat (I n), .dat (.lst false ps)], none, some [.dat (I 3), .dat (I 0), .own 54 out]] [] []))] (ob (rfl : _ = hd70 b f 3 n ps [] 0) (ob h2 ob0)) (by kernel_rfl)
theorem variable_ (kk : Nat) (n : Int)  : runFn cfg kk (den cfg kk) 56 Go.Proofs.Tryz.f56 [.dat (I n)] [] [] = some ([D.dat (T 1 n [])], [], []) :=
  hrun_ok [] ob0 (by kernel_rfl)
theorem lam (kk : Nat) (k n : Int) (ds : List Dat)  : runFn cfg kk (den cfg kk) 52 Go.Proofs.Tryz.f52 [.dat (T k n ds)] [] [] = some ([D.dat (Dat.agg [I 2, I 0, Dat.lst false [T k n ds]])], [], []) :=
  hrun_ok [] ob0 (by kernel_rfl)
theorem app (kk : Nat) (k n k' n' : Int) (ds ds' : List Dat)  : runFn cfg kk (den cfg kk) 54 Go.Proofs.Tryz.f54 [.dat (T k n ds), .dat (T k' n' ds')] [] [] = some ([D.dat (Dat.agg [I 3, I 0, Dat.lst false [T k n ds, Dat.agg [I k', I n', Dat.lst false ds']]])], [], []) :=
  hrun_ok [] ob0 (by kernel_rfl)
theorem termAt_end (kk : Nat) (b : Bool) (es : List Dat) (a up : Int) (h1 : decide (a = (es.length : Int)) = true) : runFn cfg kk (den cfg kk) 47 Go.Proofs.Tryz.f47 [.dat (Dat.lst b es), .dat (I a), .dat (I up)] [] [] = some ([D.dat (T 0 0 []), D.dat (I 0), D.dat (B false)], [], []) :=
  hrun_ok [(200018, .yes)] (ob h1 (ob (rfl : true = true) (ob (rfl : true = true) (ob (rfl : true = true) (ob (rfl : true = true) (ob (rfl : true = true) (ob (rfl : true = true) ob0))))))) (by kernel_rfl)
theorem termAt_up (kk : Nat) (b : Bool) (es : List Dat) (a up : Int) (k n u : Int) (h1 : decide (a = (es.length : Int)) = false) (h4 : (0 ≤ a ∧ a < (es.length : Int)) ∧ es[a.toNat]? = some (N3 k n u)) (h9 : (!decide (u = up)) = true) : runFn cfg kk (den cfg kk) 47 Go.Proofs.Tryz.f47 [.dat (Dat.lst b es), .dat (I a), .dat (I up)] [] [] = some ([D.dat (T 0 0 []), D.dat (I 0), D.dat (B false)], [], []) :=
  hrun_ok [(200018, .no), (21, .at (N3 k n u)), (200027, .yes)] (ob h1 (ob (rfl : false = false) (ob (rfl : false = false) (ob h4 (ob (rfl : false = false) (ob (rfl : false = false) (ob (rfl : false = false) (ob (rfl : false = false) (ob h9 (ob (rfl : true = true) (ob (rfl : true = true) (ob (rfl : true = true) (ob (rfl : true = true) (ob (rfl : true = true) ob0)))))))))))))) (by kernel_rfl)
theorem termAt_lo (kk : Nat) (b : Bool) (es : List Dat) (a up : Int) (k n u : Int) (h1 : decide (a = (es.length : Int)) = false) (h4 : (0 ≤ a ∧ a < (es.length : Int)) ∧ es[a.toNat]? = some (N3 k n u)) (h9 : (!decide (u = up)) = false) (h12 : (0 ≤ a ∧ a < (es.length : Int)) ∧ es[a.toNat]? = some (N3 k n u)) (h16 : decide (k < 1) = true) : runFn cfg kk (den cfg kk) 47 Go.Proofs.Tryz.f47 [.dat (Dat.lst b es), .dat (I a), .dat (I up)] [] [] = some ([D.dat (T 0 0 []), D.dat (I 0), D.dat (B false)], [], []) :=
  hrun_ok [(200018, .no), (21, .at (N3 k n u)), (200027, .no), (30, .at (N3 k n u)), (200035, .yes)] (ob h1 (ob (rfl : false = false) (ob (rfl : false = false) (ob h4 (ob (rfl : false = false) (ob (rfl : false = false) (ob (rfl : false = false) (ob (rfl : false = false) (ob h9 (ob (rfl : false = false) (ob (rfl : false = false) (ob h12 (ob (rfl : false = false) (ob (rfl : false = false) (ob (rfl : false = false) (ob h16 (ob (rfl : true = true) (ob (rfl : true = true) (ob (rfl : true = true) (ob (rfl : true = true) (ob (rfl : true = true) ob0))))))))))))))))))))) (by kernel_rfl)
theorem termAt_hi (kk : Nat) (b : Bool) (es : List Dat) (a up : Int) (k n u : Int) (h1 : decide (a = (es.length : Int)) = false) (h4 : (0 ≤ a ∧ a < (es.length : Int)) ∧ es[a.toNat]? = some (N3 k n u)) (h9 : (!decide (u = up)) = false) (h12 : (0 ≤ a ∧ a < (es.length : Int)) ∧ es[a.toNat]? = some (N3 k n u)) (h16 : decide (k < 1) = false) (h19 : (0 ≤ a ∧ a < (es.length : Int)) ∧ es[a.toNat]? = some (N3 k n u)) (h23 : decide (3 < k) = true) : runFn cfg kk (den cfg kk) 47 Go.Proofs.Tryz.f47 [.dat (Dat.lst b es), .dat (I a), .dat (I up)] [] [] = some ([D.dat (T 0 0 []), D.dat (I 0), D.dat (B false)], [], []) :=
  hrun_ok [(200018, .no), (21, .at (N3 k n u)), (200027, .no), (30, .at (N3 k n u)), (200035, .no), (38, .at (N3 k n u)), (200042, .yes)] (ob h1 (ob (rfl : false = false) (ob (rfl : false = false) (ob h4 (ob (rfl : false = false) (ob (rfl : false = false) (ob (rfl : false = false) (ob (rfl : false = false) (ob h9 (ob (rfl : false = false) (ob (rfl : false = false) (ob h12 (ob (rfl : false = false) (ob (rfl : false = false) (ob (rfl : false = false) (ob h16 (ob (rfl : false = false) (ob (rfl : false = false) (ob h19 (ob (rfl : false = false) (ob (rfl : false = false) (ob (rfl : false = false) (ob h23 ob0))))))))))))))))))))))) (by kernel_rfl)
def hd90 (b : Bool) (es : List Dat) (a up : Int) (k n : Int) (out : List Dat) (nx mm i : Int) : St := Nm [0, 1, 6, 9, 10, 59, 60] [.dat (.lst b es), .dat (I a), .ptr (.loc 6) 0, .ptr (.loc 9) 0, .dat (I nx), .dat (I mm), .dat (I i)] [none, none, some [.dat (I 0), .dat (I 0), .own 46 []], some [.dat (I k), .dat (I n), .own 46 out], none, none, none] [] []
theorem termAt_go (kk m : Nat) {s : St} {K : X → St → Prop} (b : Bool) (es : List Dat) (a up : Int) (k n : Int) (out : List Dat) (nx mm i : Int) (kx nnx nx' : Int) (dx : List Dat) (hs : s.norm ((envOf cfg kk 47 Go.Proofs.Tryz.f47).live (firstRegion (lp Go.Proofs.Tryz.f47 5))) = hd90 b es a up k n out nx mm i) (h1 : decide (i < mm) = true) (h2 : den cfg kk 47 [D.dat (Dat.lst b es), D.dat (I nx), D.dat (I a)] [] [] = some ([D.dat (T kx nnx dx), D.dat (I nx'), D.dat (B true)], [], [])) (h3 : out.length + 1 ≤ 2147483648) (hn : ∀ s : St, s.norm ((envOf cfg kk 47 Go.Proofs.Tryz.f47).live (firstRegion (lp Go.Proofs.Tryz.f47 5))) = Nm [0, 1, 6, 9, 10, 59, 60] [D.dat (Dat.lst b es), D.dat (I a), D.ptr (Ref.loc 6) 0, D.ptr (Ref.loc 9) 0, D.dat (I nx'), D.dat (I mm), D.dat (I (w64 (i + 1)))] [none, none, some [D.dat (I 0), D.dat (I 0), D.own 46 []], some [D.dat (I k), D.dat (I n), D.own 46 (out ++ [T kx nnx dx])], none, none, none] [] [] → Rounds (envOf cfg kk 47 Go.Proofs.Tryz.f47) kk (lp Go.Proofs.Tryz.f47 5) m s K) : Rounds (envOf cfg kk 47 Go.Proofs.Tryz.f47) kk (lp Go.Proofs.Tryz.f47 5) (m + 1) s K :=
  rounds_go [(200061, .yes), (66, .ret [.dat (T kx nnx dx), .dat (I nx'), .dat (B true)]), (77, .ok)] hs (by kernel_rfl) (ob h1 (ob h2 (ob (obT h3) ob0))) (by kernel_rfl) hn
theorem termAt_bad (kk m : Nat) {s : St} {K : X → St → Prop} (b : Bool) (es : List Dat) (a up : Int) (k n : Int) (out : List Dat) (nx mm i : Int) (kx nnx nx' : Int) (dx : List Dat) (hs : s.norm ((envOf cfg kk 47 Go.Proofs.Tryz.f47).live (firstRegion (lp Go.Proofs.Tryz.f47 5))) = hd90 b es a up k n out nx mm i) (h1 : decide (i < mm) = true) (h2 : den cfg kk 47 [D.dat (Dat.lst b es), D.dat (I nx), D.dat (I a)] [] [] = some ([D.dat (T kx nnx dx), D.dat (I nx'), D.dat (B false)], [], [])) (hK : K (X.ret) (Nm [6, 7, 8, 9, 10] [D.ptr (Ref.loc 6) 0, D.dat (I 0), D.dat (B false), D.ptr (Ref.loc 9) 0, D.dat (I nx)] [some [D.dat (I 0), D.dat (I 0), D.own 46 []], none, none, some [D.dat (I k), D.dat (I n), D.own 46 out], none] [] [])) : Rounds (envOf cfg kk 47 Go.Proofs.Tryz.f47) kk (lp Go.Proofs.Tryz.f47 5) (m + 1) s K :=
  rounds_end [(200061, .yes), (66, .ret [.dat (T kx nnx dx), .dat (I nx'), .dat (B false)])] hs (by kernel_rfl) rfl (ob h1 (ob h2 ob0)) (by kernel_rfl) hK
theorem termAt_done (kk m : Nat) {s : St} {K : X → St → Prop} (b : Bool) (es : List Dat) (a up : Int) (k n : Int) (out : List Dat) (nx mm i : Int) (hs : s.norm ((envOf cfg kk 47 Go.Proofs.Tryz.f47).live (firstRegion (lp Go.Proofs.Tryz.f47 5))) = hd90 b es a up k n out nx mm i) (h1 : decide (i < mm) = false) (hK : K (X.exit 0) (Nm [6, 7, 8, 9, 10] [D.ptr (Ref.loc 6) 0, D.junk, D.junk, D.ptr (Ref.loc 9) 0, D.dat (I nx)] [some [D.dat (I 0), D.dat (I 0), D.own 46 []], none, none, some [D.dat (I k), D.dat (I n), D.own 46 out], none] [] [])) : Rounds (envOf cfg kk 47 Go.Proofs.Tryz.f47) kk (lp Go.Proofs.Tryz.f47 5) (m + 1) s K :=
  rounds_end [(200061, .no)] hs (by kernel_rfl) rfl (ob h1 ob0) (by kernel_rfl) hK
theorem termAt_y (kk : Nat) (b : Bool) (es : List Dat) (a up : Int) (k n u nx : Int) (out : List Dat) (h1 : decide (a = (es.length : Int)) = false) (h4 : (0 ≤ a ∧ a < (es.length : Int)) ∧ es[a.toNat]? = some (N3 k n u)) (h9 : (!decide (u = up)) = false) (h12 : (0 ≤ a ∧ a < (es.length : Int)) ∧ es[a.toNat]? = some (N3 k n u)) (h16 : decide (k < 1) = false) (h19 : (0 ≤ a ∧ a < (es.length : Int)) ∧ es[a.toNat]? = some (N3 k n u)) (h23 : decide (3 < k) = false) (h24 : (0 ≤ a ∧ a < (es.length : Int)) ∧ es[a.toNat]? = some (N3 k n u)) (h25 : (0 ≤ a ∧ a < (es.length : Int)) ∧ es[a.toNat]? = some (N3 k n u)) (h27 : LoopAt cfg kk 47 Go.Proofs.Tryz.f47 5 (hd90 b es a up k n [] (w64 (a + 1)) (w64 (k - 1)) 0) (X.exit 0) (Nm [6, 7, 8, 9, 10] [D.ptr (Ref.loc 6) 0, D.junk, D.junk, D.ptr (Ref.loc 9) 0, D.dat (I nx)] [some [D.dat (I 0), D.dat (I 0), D.own 46 []], none, none, some [D.dat (I k), D.dat (I n), D.own 46 out], none] [] [])) : runFn cfg kk (den cfg kk) 47 Go.Proofs.Tryz.f47 [.dat (Dat.lst b es), .dat (I a), .dat (I up)] [] [] = some ([D.dat (T k n out), D.dat (I nx), D.dat (B true)], [], []) :=
  hrun_ok [(200018, .no), (21, .at (N3 k n u)), (200027, .no), (30, .at (N3 k n u)), (200035, .no), (38, .at (N3 k n u)), (200042, .no), (46, .at (N3 k n u)), (51, .at (N3 k n u)), (300005, .loop (hd90 b es a up k n [] (w64 (a + 1)) (w64 (k - 1)) 0) (.exit 0) (Nm [6, 7, 8, 9, 10] [.ptr (.loc 6) 0, .junk, .junk, .ptr (.loc 9) 0, .dat (I nx)] [some [.dat (I 0), .dat (I 0), .own 46 []], none, none, some [.dat (I k), .dat (I n), .own 46 out], none] [] []))] (ob h1 (ob (rfl : false = false) (ob (rfl : false = false) (ob h4 (ob (rfl : false = false) (ob (rfl : false = false) (ob (rfl : false = false) (ob (rfl : false = false) (ob h9 (ob (rfl : false = false) (ob (rfl : false = false) (ob h12 (ob (rfl : false = false) (ob (rfl : false = false) (ob (rfl : false = false) (ob h16 (ob (rfl : false = false) (ob (rfl : false = false) (ob h19 (ob (rfl : false = false) (ob (rfl : false = false) (ob (rfl : false = false) (ob h23 (ob h24 (ob h25 (ob (rfl : _ = hd90 b es a up k n [] (w64 (a + 1)) (w64 (k - 1)) 0) (ob h27 ob0))))))))))))))))))))))))))) (by kernel_rfl)
theorem termAt_n (kk : Nat) (b : Bool) (es : List Dat) (a up : Int) (k n u nx : Int) (out : List Dat) (h1 : decide (a = (es.length : Int)) = false) (h4 : (0 ≤ a ∧ a < (es.length : Int)) ∧ es[a.toNat]? = some (N3 k n u)) (h9 : (!decide (u = up)) = false) (h12 : (0 ≤ a ∧ a < (es.length : Int)) ∧ es[a.toNat]? = some (N3 k n u)) (h16 : decide (k < 1) = false) (h19 : (0 ≤ a ∧ a < (es.length : Int)) ∧ es[a.toNat]? = some (N3 k n u)) (h23 : decide (3 < k) = false) (h24 : (0 ≤ a ∧ a < (es.length : Int)) ∧ es[a.toNat]? = some (N3 k n u)) (h25 : (0 ≤ a ∧ a < (es.length : Int)) ∧ es[a.toNat]? = some (N3 k n u)) (h27 : LoopAt cfg kk 47 Go.Proofs.Tryz.f47 5 (hd90 b es a up k n [] (w64 (a + 1)) (w64 (k - 1)) 0) X.ret (Nm [6, 7, 8, 9, 10] [D.ptr (Ref.loc 6) 0, D.dat (I 0), D.dat (B false), D.ptr (Ref.loc 9) 0, D.dat (I nx)] [some [D.dat (I 0), D.dat (I 0), D.own 46 []], none, none, some [D.dat (I k), D.dat (I n), D.own 46 out], none] [] [])) : runFn cfg kk (den cfg kk) 47 Go.Proofs.Tryz.f47 [.dat (Dat.lst b es), .dat (I a), .dat (I up)] [] [] = some ([D.dat (T 0 0 []), D.dat (I 0), D.dat (B false)], [], []) :=
  hrun_ok [(200018, .no), (21, .at (N3 k n u)), (200027, .no), (30, .at (N3 k n u)), (200035, .no), (38, .at (N3 k n u)), (200042, .no), (46, .at (N3 k n u)), (51, .at (N3 k n u)), (300005, .loop (hd90 b es a up k n [] (w64 (a + 1)) (w64 (k - 1)) 0) .ret (Nm [6, 7, 8, 9, 10] [.ptr (.loc 6) 0, .dat (I 0), .dat (B false), .ptr (.loc 9) 0, .dat (I nx)] [some [.dat (I 0), .dat (I 0), .own 46 []], none, none, some [.dat (I k), .dat (I n), .own 46 out], none] [] []))] (ob h1 (ob (rfl : false = false) (ob (rfl : false = false) (ob h4 (ob (rfl : false = false) (ob (rfl : false = false) (ob (rfl : false = false) (ob (rfl : false = false) (ob h9 (ob (rfl : false = false) (ob (rfl : false = false) (ob h12 (ob (rfl : false = false) (ob (rfl : false = false) (ob (rfl : false = false) (ob h16 (ob (rfl : false = false) (ob (rfl : false = false) (ob h19 (ob (rfl : false = false) (ob (rfl : false = false) (ob (rfl : false = false) (ob h23 (ob h24 (ob h25 (ob (rfl : _ = hd90 b es a up k n [] (w64 (a + 1)) (w64 (k - 1)) 0) (ob h27 ob0))))))))))))))))))))))))))) (by kernel_rfl)
theorem termOf_few (kk : Nat) (b : Bool) (es : List Dat) (h1 : decide ((es.length : Int) < 1) = true) : runFn cfg kk (den cfg kk) 19 Go.Proofs.Tryz.f19 [.dat (Dat.lst b es)] [] [] = some ([D.dat (T 0 0 []), D.dat (B false)], [], []) :=
  hrun_ok [(200010, .yes)] (ob h1 (ob (rfl : true = true) (ob (rfl : true = true) ob0))) (by kernel_rfl)
theorem termOf_many (kk : Nat) (b : Bool) (es : List Dat) (h1 : decide ((es.length : Int) < 1) = false) (h4 : decide (150 < (es.length : Int)) = true) : runFn cfg kk (den cfg kk) 19 Go.Proofs.Tryz.f19 [.dat (Dat.lst b es)] [] [] = some ([D.dat (T 0 0 []), D.dat (B false)], [], []) :=
  hrun_ok [(200010, .no), (200014, .yes)] (ob h1 (ob (rfl : false = false) (ob (rfl : false = false) (ob h4 ob0)))) (by kernel_rfl)
theorem termOf_bad (kk : Nat) (b : Bool) (es : List Dat) (k n nx : Int) (ds : List Dat) (h1 : decide ((es.length : Int) < 1) = false) (h4 : decide (150 < (es.length : Int)) = false) (h5 : den cfg kk 47 [D.dat (Dat.lst b es), D.dat (I 0), D.dat (I (-1))] [] [] = some ([D.dat (T k n ds), D.dat (I nx), D.dat (B false)], [], [])) : runFn cfg kk (den cfg kk) 19 Go.Proofs.Tryz.f19 [.dat (Dat.lst b es)] [] [] = some ([D.dat (T k n ds), D.dat (B false)], [], []) :=
  hrun_ok [(200010, .no), (200014, .no), (18, .ret [.dat (T k n ds), .dat (I nx), .dat (B false)])] (ob h1 (ob (rfl : false = false) (ob (rfl : false = false) (ob h4 (ob h5 ob0))))) (by kernel_rfl)
theorem termOf_more (kk : Nat) (b : Bool) (es : List Dat) (k n nx : Int) (ds : List Dat) (h1 : decide ((es.length : Int) < 1) = false) (h4 : decide (150 < (es.length : Int)) = false) (h5 : den cfg kk 47 [D.dat (Dat.lst b es), D.dat (I 0), D.dat (I (-1))] [] [] = some ([D.dat (T k n ds), D.dat (I nx), D.dat (B true)], [], [])) (h6 : decide (nx = (es.length : Int)) = false) : runFn cfg kk (den cfg kk) 19 Go.Proofs.Tryz.f19 [.dat (Dat.lst b es)] [] [] = some ([D.dat (T k n ds), D.dat (B false)], [], []) :=
  hrun_ok [(200010, .no), (200014, .no), (18, .ret [.dat (T k n ds), .dat (I nx), .dat (B true)]), (200030, .no)] (ob h1 (ob (rfl : false = false) (ob (rfl : false = false) (ob h4 (ob h5 (ob h6 (ob (rfl : false = false) ob0))))))) (by kernel_rfl)
theorem termOf_go (kk : Nat) (b : Bool) (es : List Dat) (k n nx : Int) (ds : List Dat) (g : Bool) (h1 : decide ((es.length : Int) < 1) = false) (h4 : decide (150 < (es.length : Int)) = false) (h5 : den cfg kk 47 [D.dat (Dat.lst b es), D.dat (I 0), D.dat (I (-1))] [] [] = some ([D.dat (T k n ds), D.dat (I nx), D.dat (B true)], [], [])) (h6 : decide (nx = (es.length : Int)) = true) (h8 : den cfg kk 48 [D.dat (T k n ds)] [] [] = some ([D.dat (B g)], [], [])) : runFn cfg kk (den cfg kk) 19 Go.Proofs.Tryz.f19 [.dat (Dat.lst b es)] [] [] = some ([D.dat (T k n ds), D.dat (B g)], [], []) :=
  hrun_ok [(200010, .no), (200014, .no), (18, .ret [.dat (T k n ds), .dat (I nx), .dat (B true)]), (200030, .yes), (32, .ret [.dat (B g)])] (ob h1 (ob (rfl : false = false) (ob (rfl : false = false) (ob h4 (ob h5 (ob h6 (ob (rfl : true = true) (ob h8 ob0)))))))) (by kernel_rfl)
theorem isGood_big (kk : Nat) (k n z : Int) (ds : List Dat) (h1 : den cfg kk 78 [D.dat (T k n ds)] [] [] = some ([D.dat (I z)], [], [])) (h2 : decide (z ≤ 150) = false) : runFn cfg kk (den cfg kk) 48 Go.Proofs.Tryz.f48 [.dat (T k n ds)] [] [] = some ([D.dat (B false)], [], []) :=
  hrun_ok [(4, .ret [.dat (I z)]), (200006, .no)] (ob h1 (ob h2 (ob (rfl : false = false) (ob (rfl : false = false) ob0)))) (by kernel_rfl)
theorem isGood_deep (kk : Nat) (k n z d : Int) (ds : List Dat) (h1 : den cfg kk 78 [D.dat (T k n ds)] [] [] = some ([D.dat (I z)], [], [])) (h2 : decide (z ≤ 150) = true) (h4 : den cfg kk 79 [D.dat (T k n ds)] [] [] = some ([D.dat (I d)], [], [])) (h6 : decide (d ≤ 40) = false) : runFn cfg kk (den cfg kk) 48 Go.Proofs.Tryz.f48 [.dat (T k n ds)] [] [] = some ([D.dat (B false)], [], []) :=
  hrun_ok [(4, .ret [.dat (I z)]), (200006, .yes), (8, .ret [.dat (I d)]), (200011, .no)] (ob h1 (ob h2 (ob (rfl : true = true) (ob h4 (ob (rfl : true = true) (ob h6 (ob (rfl : false = false) ob0))))))) (by kernel_rfl)
theorem isGood_go (kk : Nat) (k n z d : Int) (ds : List Dat) (g : Bool) (h1 : den cfg kk 78 [D.dat (T k n ds)] [] [] = some ([D.dat (I z)], [], [])) (h2 : decide (z ≤ 150) = true) (h4 : den cfg kk 79 [D.dat (T k n ds)] [] [] = some ([D.dat (I d)], [], [])) (h6 : decide (d ≤ 40) = true) (h8 : den cfg kk 80 [D.dat (T k n ds)] [] [] = some ([D.dat (B g)], [], [])) : runFn cfg kk (den cfg kk) 48 Go.Proofs.Tryz.f48 [.dat (T k n ds)] [] [] = some ([D.dat (B g)], [], []) :=
  hrun_ok [(4, .ret [.dat (I z)]), (200006, .yes), (8, .ret [.dat (I d)]), (200011, .yes), (13, .ret [.dat (B g)])] (ob h1 (ob h2 (ob (rfl : true = true) (ob h4 (ob (rfl : true = true) (ob h6 (ob (rfl : true = true) (ob h8 ob0)))))))) (by kernel_rfl)
def hd99 (ps : List Dat) (acc i : Int) : St := Nm [3, 7, 8, 9] [.dat (I acc), .dat (.lst false ps), .dat (I ps.length), .dat (I i)] [none, none, none, none] [] []
theorem size_go (kk m : Nat) {s : St} {K : X → St → Prop} (ps : List Dat) (acc i kx nx z : Int) (dx : List Dat) (hs : s.norm ((envOf cfg kk 78 Go.Proofs.Tryz.f78).live (firstRegion (lp Go.Proofs.Tryz.f78 3))) = hd99 ps acc i) (h1 : decide (i < (ps.length : Int)) = true) (h2 : (0 ≤ i ∧ i < (ps.length : Int)) ∧ ps[i.toNat]? = some (T kx nx dx)) (h3 : den cfg kk 78 [D.dat (T kx nx dx)] [] [] = some ([D.dat (I z)], [], [])) (hn : ∀ s : St, s.norm ((envOf cfg kk 78 Go.Proofs.Tryz.f78).live (firstRegion (lp Go.Proofs.Tryz.f78 3))) = Nm [3, 7, 8, 9] [D.dat (I (w64 (acc + z))), D.dat (Dat.lst false ps), D.dat (I (ps.length : Int)), D.dat (I (w64 (i + 1)))] [none, none, none, none] [] [] → Rounds (envOf cfg kk 78 Go.Proofs.Tryz.f78) kk (lp Go.Proofs.Tryz.f78 3) m s K) : Rounds (envOf cfg kk 78 Go.Proofs.Tryz.f78) kk (lp Go.Proofs.Tryz.f78 3) (m + 1) s K :=
  rounds_go [(200010, .yes), (11, .at (T kx nx dx)), (15, .ret [.dat (I z)])] hs (by kernel_rfl) (ob h1 (ob h2 (ob h3 ob0))) (by kernel_rfl) hn
theorem size_end (kk m : Nat) {s : St} {K : X → St → Prop} (ps : List Dat) (acc i : Int) (hs : s.norm ((envOf cfg kk 78 Go.Proofs.Tryz.f78).live (firstRegion (lp Go.Proofs.Tryz.f78 3))) = hd99 ps acc i) (h1 : decide (i < (ps.length : Int)) = false) (hK : K (X.exit 0) (Nm [3] [D.dat (I acc)] [none] [] [])) : Rounds (envOf cfg kk 78 Go.Proofs.Tryz.f78) kk (lp Go.Proofs.Tryz.f78 3) (m + 1) s K :=
  rounds_end [(200010, .no)] hs (by kernel_rfl) rfl (ob h1 ob0) (by kernel_rfl) hK
theorem size (kk : Nat) (k n acc : Int) (ps : List Dat) (h2 : LoopAt cfg kk 78 Go.Proofs.Tryz.f78 3 (hd99 ps 1 0) (X.exit 0) (Nm [3] [D.dat (I acc)] [none] [] [])) : runFn cfg kk (den cfg kk) 78 Go.Proofs.Tryz.f78 [.dat (T k n ps)] [] [] = some ([D.dat (I acc)], [], []) :=
  hrun_ok [(300003, .loop (hd99 ps 1 0) (.exit 0) (Nm [3] [.dat (I acc)] [none] [] []))] (ob (rfl : _ = hd99 ps 1 0) (ob h2 ob0)) (by kernel_rfl)
theorem depth_go (kk m : Nat) {s : St} {K : X → St → Prop} (ps : List Dat) (acc i kx nx z : Int) (dx : List Dat) (hs : s.norm ((envOf cfg kk 79 Go.Proofs.Tryz.f79).live (firstRegion (lp Go.Proofs.Tryz.f79 3))) = hd99 ps acc i) (h1 : decide (i < (ps.length : Int)) = true) (h2 : (0 ≤ i ∧ i < (ps.length : Int)) ∧ ps[i.toNat]? = some (T kx nx dx)) (h3 : den cfg kk 79 [D.dat (T kx nx dx)] [] [] = some ([D.dat (I z)], [], [])) (hn : ∀ s : St, s.norm ((envOf cfg kk 79 Go.Proofs.Tryz.f79).live (firstRegion (lp Go.Proofs.Tryz.f79 3))) = Nm [3, 7, 8, 9] [D.dat (I (if z > acc then z else acc)), D.dat (Dat.lst false ps), D.dat (I (ps.length : Int)), D.dat (I (w64 (i + 1)))] [none, none, none, none] [] [] → Rounds (envOf cfg kk 79 Go.Proofs.Tryz.f79) kk (lp Go.Proofs.Tryz.f79 3) m s K) : Rounds (envOf cfg kk 79 Go.Proofs.Tryz.f79) kk (lp Go.Proofs.Tryz.f79 3) (m + 1) s K :=
  rounds_go [(200010, .yes), (11, .at (T kx nx dx)), (15, .ret [.dat (I z)])] hs (by kernel_rfl) (ob h1 (ob h2 (ob h3 ob0))) (by kernel_rfl) hn
theorem depth_end (kk m : Nat) {s : St} {K : X → St → Prop} (ps : List Dat) (acc i : Int) (hs : s.norm ((envOf cfg kk 79 Go.Proofs.Tryz.f79).live (firstRegion (lp Go.Proofs.Tryz.f79 3))) = hd99 ps acc i) (h1 : decide (i < (ps.length : Int)) = false) (hK : K (X.exit 0) (Nm [3] [D.dat (I acc)] [none] [] [])) : Rounds (envOf cfg kk 79 Go.Proofs.Tryz.f79) kk (lp Go.Proofs.Tryz.f79 3) (m + 1) s K :=
  rounds_end [(200010, .no)] hs (by kernel_rfl) rfl (ob h1 ob0) (by kernel_rfl) hK
theorem depth (kk : Nat) (k n acc : Int) (ps : List Dat) (h2 : LoopAt cfg kk 79 Go.Proofs.Tryz.f79 3 (hd99 ps 0 0) (X.exit 0) (Nm [3] [D.dat (I acc)] [none] [] [])) : runFn cfg kk (den cfg kk) 79 Go.Proofs.Tryz.f79 [.dat (T k n ps)] [] [] = some ([D.dat (I (w64 (acc + 1)))], [], []) :=
  hrun_ok [(300003, .loop (hd99 ps 0 0) (.exit 0) (Nm [3] [.dat (I acc)] [none] [] []))] (ob (rfl : _ = hd99 ps 0 0) (ob h2 ob0)) (by kernel_rfl)
theorem areNumbers_neg (kk : Nat) (k n : Int) (ps : List Dat) (h1 : decide (n < 0) = true) : runFn cfg kk (den cfg kk) 80 Go.Proofs.Tryz.f80 [.dat (T k n ps)] [] [] = some ([D.dat (B false)], [], []) :=
  hrun_ok [(200006, .yes)] (ob h1 (ob (rfl : true = true) (ob (rfl : true = true) ob0))) (by kernel_rfl)
theorem areNumbers_big (kk : Nat) (k n : Int) (ps : List Dat) (h1 : decide (n < 0) = false) (h4 : decide (99 < n) = true) : runFn cfg kk (den cfg kk) 80 Go.Proofs.Tryz.f80 [.dat (T k n ps)] [] [] = some ([D.dat (B false)], [], []) :=
  hrun_ok [(200006, .no), (200011, .yes)] (ob h1 (ob (rfl : false = false) (ob (rfl : false = false) (ob h4 (ob (rfl : true = true) (ob (rfl : true = true) (ob (rfl : true = true) (ob (rfl : true = true) ob0)))))))) (by kernel_rfl)
theorem areNumbers_lam (kk : Nat) (k n : Int) (ps : List Dat) (h1 : decide (n < 0) = false) (h4 : decide (99 < n) = false) (h8 : (!decide (k = 1)) = true) (h12 : (!decide (n = 0)) = true) : runFn cfg kk (den cfg kk) 80 Go.Proofs.Tryz.f80 [.dat (T k n ps)] [] [] = some ([D.dat (B false)], [], []) :=
  hrun_ok [(200006, .no), (200011, .no), (200015, .yes), (200020, .yes)] (ob h1 (ob (rfl : false = false) (ob (rfl : false = false) (ob h4 (ob (rfl : false = false) (ob (rfl : false = false) (ob (rfl : false = false) (ob h8 (ob (rfl : true = true) (ob (rfl : true = true) (ob (rfl : false = false) (ob h12 ob0)))))))))))) (by kernel_rfl)
theorem areNumbers_ok0 (kk : Nat) (k n : Int) (ps : List Dat) (g : Bool) (h1 : decide (n < 0) = false) (h4 : decide (99 < n) = false) (h8 : (!decide (k = 1)) = true) (h12 : (!decide (n = 0)) = false) (h13 : den cfg kk 100 [D.dat (Dat.lst false ps), D.fn 101 []] [] [] = some ([D.dat (B g)], [], [])) : runFn cfg kk (den cfg kk) 80 Go.Proofs.Tryz.f80 [.dat (T k n ps)] [] [] = some ([D.dat (B !g)], [], []) :=
  hrun_ok [(200006, .no), (200011, .no), (200015, .yes), (200020, .no), (23, .back [.dat (B g)] [] [])] (ob h1 (ob (rfl : false = false) (ob (rfl : false = false) (ob h4 (ob (rfl : false = false) (ob (rfl : false = false) (ob (rfl : false = false) (ob h8 (ob (rfl : true = true) (ob (rfl : true = true) (ob (rfl : false = false) (ob h12 (ob h13 (ob (rfl : false = false) ob0)))))))))))))) (by kernel_rfl)
theorem areNumbers_ok1 (kk : Nat) (k n : Int) (ps : List Dat) (g : Bool) (h1 : decide (n < 0) = false) (h4 : decide (99 < n) = false) (h8 : (!decide (k = 1)) = false) (h12 : den cfg kk 100 [D.dat (Dat.lst false ps), D.fn 101 []] [] [] = some ([D.dat (B g)], [], [])) : runFn cfg kk (den cfg kk) 80 Go.Proofs.Tryz.f80 [.dat (T k n ps)] [] [] = some ([D.dat (B !g)], [], []) :=
  hrun_ok [(200006, .no), (200011, .no), (200015, .no), (23, .back [.dat (B g)] [] [])] (ob h1 (ob (rfl : false = false) (ob (rfl : false = false) (ob h4 (ob (rfl : false = false) (ob (rfl : false = false) (ob (rfl : false = false) (ob h8 (ob (rfl : false = false) (ob (rfl : false = false) (ob (rfl : false = false) (ob h12 (ob (rfl : false = false) ob0))))))))))))) (by kernel_rfl)
theorem areNumbers1 (kk : Nat) (k n : Int) (ps : List Dat) (g : Bool) (h1 : den cfg kk 80 [D.dat (T k n ps)] [] [] = some ([D.dat (B g)], [], [])) : runFn cfg kk (den cfg kk) 101 Go.Proofs.Tryz.f101 [.dat (T k n ps)] [] [] = some ([D.dat (B !g)], [], []) :=
  hrun_ok [(4, .ret [.dat (B g)])] (ob h1 ob0) (by kernel_rfl)
theorem contains (kk : Nat) (es : List Dat) (i : Int) (h1 : den cfg kk 124 [D.dat (Dat.lst false es), D.fn 101 []] [] [] = some ([D.dat (I i)], [], [])) : runFn cfg kk (den cfg kk) 100 Go.Proofs.Tryz.f100 [.dat (Dat.lst false es), .fn 101 []] [] [] = some ([D.dat (B (decide (0 ≤ i)))], [], []) :=
  hrun_ok [(7, .back [.dat (I i)] [] [])] (ob h1 (ob (rfl : false = false) ob0)) (by kernel_rfl)
def hd132 (es : List Dat) (i : Int) : St := Nm [0, 1, 7, 8] [.dat (.lst false es), .fn 101 [], .dat (I es.length), .dat (I i)] [none, none, none, none] [] []
theorem index_go (kk m : Nat) {s : St} {K : X → St → Prop} (es : List Dat) (i k n : Int) (ps : List Dat) (hs : s.norm ((envOf cfg kk 124 Go.Proofs.Tryz.f124).live (firstRegion (lp Go.Proofs.Tryz.f124 2))) = hd132 es i) (h1 : decide (i < (es.length : Int)) = true) (h2 : (0 ≤ i ∧ i < (es.length : Int)) ∧ es[i.toNat]? = some (T k n ps)) (h3 : den cfg kk 101 [D.dat (T k n ps)] [] [] = some ([D.dat (B false)], [], [])) (hn : ∀ s : St, s.norm ((envOf cfg kk 124 Go.Proofs.Tryz.f124).live (firstRegion (lp Go.Proofs.Tryz.f124 2))) = Nm [0, 1, 7, 8] [D.dat (Dat.lst false es), D.fn 101 [], D.dat (I (es.length : Int)), D.dat (I (w64 (i + 1)))] [none, none, none, none] [] [] → Rounds (envOf cfg kk 124 Go.Proofs.Tryz.f124) kk (lp Go.Proofs.Tryz.f124 2) m s K) : Rounds (envOf cfg kk 124 Go.Proofs.Tryz.f124) kk (lp Go.Proofs.Tryz.f124 2) (m + 1) s K :=
  rounds_go [(200009, .yes), (14, .at (T k n ps)), (16, .ret [.dat (B false)])] hs (by kernel_rfl) (ob h1 (ob h2 (ob h3 ob0))) (by kernel_rfl) hn
theorem index_hit (kk m : Nat) {s : St} {K : X → St → Prop} (es : List Dat) (i k n : Int) (ps : List Dat) (hs : s.norm ((envOf cfg kk 124 Go.Proofs.Tryz.f124).live (firstRegion (lp Go.Proofs.Tryz.f124 2))) = hd132 es i) (h1 : decide (i < (es.length : Int)) = true) (h2 : (0 ≤ i ∧ i < (es.length : Int)) ∧ es[i.toNat]? = some (T k n ps)) (h3 : den cfg kk 101 [D.dat (T k n ps)] [] [] = some ([D.dat (B true)], [], [])) (hK : K (X.ret) (Nm [4] [D.dat (I i)] [none] [] [])) : Rounds (envOf cfg kk 124 Go.Proofs.Tryz.f124) kk (lp Go.Proofs.Tryz.f124 2) (m + 1) s K :=
  rounds_end [(200009, .yes), (14, .at (T k n ps)), (16, .ret [.dat (B true)])] hs (by kernel_rfl) rfl (ob h1 (ob h2 (ob h3 ob0))) (by kernel_rfl) hK
theorem index_end (kk m : Nat) {s : St} {K : X → St → Prop} (es : List Dat) (i : Int) (hs : s.norm ((envOf cfg kk 124 Go.Proofs.Tryz.f124).live (firstRegion (lp Go.Proofs.Tryz.f124 2))) = hd132 es i) (h1 : decide (i < (es.length : Int)) = false) (hK : K (X.exit 0) (Nm [4] [D.junk] [none] [] [])) : Rounds (envOf cfg kk 124 Go.Proofs.Tryz.f124) kk (lp Go.Proofs.Tryz.f124 2) (m + 1) s K :=
  rounds_end [(200009, .no)] hs (by kernel_rfl) rfl (ob h1 ob0) (by kernel_rfl) hK
theorem index_n (kk : Nat) (es : List Dat) (h2 : LoopAt cfg kk 124 Go.Proofs.Tryz.f124 2 (hd132 es 0) (X.exit 0) (Nm [4] [D.junk] [none] [] [])) : runFn cfg kk (den cfg kk) 124 Go.Proofs.Tryz.f124 [.dat (Dat.lst false es), .fn 101 []] [] [] = some ([D.dat (I (-1))], [], []) :=
  hrun_ok [(300002, .loop (hd132 es 0) (.exit 0) (Nm [4] [.junk] [none] [] []))] (ob (rfl : _ = hd132 es 0) (ob h2 ob0)) (by kernel_rfl)
theorem index_y (kk : Nat) (es : List Dat) (j : Int) (h2 : LoopAt cfg kk 124 Go.Proofs.Tryz.f124 2 (hd132 es 0) X.ret (Nm [4] [D.dat (I j)] [none] [] [])) : runFn cfg kk (den cfg kk) 124 Go.Proofs.Tryz.f124 [.dat (Dat.lst false es), .fn 101 []] [] [] = some ([D.dat (I j)], [], []) :=
  hrun_ok [(300002, .loop (hd132 es 0) .ret (Nm [4] [.dat (I j)] [none] [] []))] (ob (rfl : _ = hd132 es 0) (ob h2 ob0)) (by kernel_rfl)
theorem put_var_h (kk : Nat) (n a kr nr : Int) (ps dr : List Dat) (b f : Int) (h1 : decide (a ≤ n) = true) (h2 : den cfg kk 63 [D.dat (I (w64 (n - a))), D.dat (I a), D.ptr (Ref.up 0) 0, D.ptr (Ref.up 1) 0] [[D.dat (I f)], [D.dat (I b)]] [] = some ([D.dat (T kr nr dr)], [[D.dat (I f)], [D.dat (I b)]], [])) : runFn cfg kk (den cfg kk) 62 Go.Proofs.Tryz.f62 [.dat (T 1 n ps), .dat (I a), .fn 63 [.up 0, .up 1]] [[.dat (I f)], [.dat (I b)]] [] = some ([D.dat (T kr nr dr)], [[D.dat (I f)], [D.dat (I b)]], []) :=
  hrun_ok [(200007, .yes), (23, .back [.dat (T kr nr dr)] [[.dat (I f)], [.dat (I b)]] [])] (ob h1 (ob h2 (ob (rfl : false = false) ob0))) (by kernel_rfl)
theorem put_low_h (kk : Nat) (n a : Int) (ps : List Dat) (b f : Int) (h1 : decide (a ≤ n) = false) : runFn cfg kk (den cfg kk) 62 Go.Proofs.Tryz.f62 [.dat (T 1 n ps), .dat (I a), .fn 63 [.up 0, .up 1]] [[.dat (I f)], [.dat (I b)]] [] = some ([D.dat (T 1 n ps)], [[D.dat (I f)], [D.dat (I b)]], []) :=
  hrun_ok [(200007, .no)] (ob h1 ob0) (by kernel_rfl)
theorem put_lam_h (kk : Nat) (n a ka na kb nb : Int) (ps da db : List Dat) (b f : Int) (h1 : ((0 : Int) ≤ 0 ∧ 0 < ((T ka na da :: ps).length : Int)) ∧ some (T ka na da) = some (T ka na da)) (h2 : den cfg kk 62 [D.dat (T ka na da), D.dat (I (w64 (a + 1))), D.fn 63 [Ref.up 0, Ref.up 1]] [[D.dat (I f)], [D.dat (I b)]] [] = some ([D.dat (T kb nb db)], [[D.dat (I f)], [D.dat (I b)]], [])) (h4 : den cfg kk 52 [D.dat (T kb nb db)] [] [] = some ([D.dat (Dat.agg [I 2, I 0, Dat.lst false [T kb nb db]])], [], [])) : runFn cfg kk (den cfg kk) 62 Go.Proofs.Tryz.f62 [.dat (T 2 n (T ka na da :: ps)), .dat (I a), .fn 63 [.up 0, .up 1]] [[.dat (I f)], [.dat (I b)]] [] = some ([D.dat (Dat.agg [I 2, I 0, Dat.lst false [T kb nb db]])], [[D.dat (I f)], [D.dat (I b)]], []) :=
  hrun_ok [(35, .at (T ka na da)), (40, .back [.dat (T kb nb db)] [[.dat (I f)], [.dat (I b)]] []), (41, .ret [.dat (T 2 0 [T kb nb db])])] (ob h1 (ob h2 (ob (rfl : false = false) (ob h4 ob0)))) (by kernel_rfl)
theorem put_app_h (kk : Nat) (n a ka na kb nb kc nc kd nd : Int) (ps da db dc dd : List Dat) (b f : Int) (h1 : ((0 : Int) ≤ 0 ∧ 0 < ((T ka na da :: T kb nb db :: ps).length : Int)) ∧ some (T ka na da) = some (T ka na da)) (h2 : ((0 : Int) ≤ 1 ∧ 1 < ((T ka na da :: T kb nb db :: ps).length : Int)) ∧ some (T kb nb db) = some (T kb nb db)) (h3 : den cfg kk 62 [D.dat (T ka na da), D.dat (I a), D.fn 63 [Ref.up 0, Ref.up 1]] [[D.dat (I f)], [D.dat (I b)]] [] = some ([D.dat (T kc nc dc)], [[D.dat (I f)], [D.dat (I b)]], [])) (h4 : den cfg kk 62 [D.dat (T kb nb db), D.dat (I a), D.fn 63 [Ref.up 0, Ref.up 1]] [[D.dat (I f)], [D.dat (I b)]] [] = some ([D.dat (T kd nd dd)], [[D.dat (I f)], [D.dat (I b)]], [])) (h6 : den cfg kk 54 [D.dat (T kc nc dc), D.dat (T kd nd dd)] [] [] = some ([D.dat (Dat.agg [I 3, I 0, Dat.lst false [T kc nc dc, T kd nd dd]])], [], [])) : runFn cfg kk (den cfg kk) 62 Go.Proofs.Tryz.f62 [.dat (T 3 n (T ka na da :: T kb nb db :: ps)), .dat (I a), .fn 63 [.up 0, .up 1]] [[.dat (I f)], [.dat (I b)]] [] = some ([D.dat (Dat.agg [I 3, I 0, Dat.lst false [T kc nc dc, T kd nd dd]])], [[D.dat (I f)], [D.dat (I b)]], []) :=
  hrun_ok [(44, .at (T ka na da)), (51, .at (T kb nb db)), (48, .back [.dat (T kc nc dc)] [[.dat (I f)], [.dat (I b)]] []), (55, .back [.dat (T kd nd dd)] [[.dat (I f)], [.dat (I b)]] []), (56, .ret [.dat (T 3 0 [T kc nc dc, T kd nd dd])])] (ob h1 (ob h2 (ob h3 (ob h4 (ob (rfl : false = false) (ob h6 ob0)))))) (by kernel_rfl)
theorem shift1_hi (kk : Nat) (i a b f : Int) (h1 : decide (f ≤ i) = true) (h2 : den cfg kk 56 [D.dat (I (w64 (w64 (i + b) + a)))] [] [] = some ([D.dat (T 1 (w64 (w64 (i + b) + a)) [])], [], [])) : runFn cfg kk (den cfg kk) 63 Go.Proofs.Tryz.f63 [.dat (I i), .dat (I a), .ptr (.up 0) 0, .ptr (.up 1) 0] [[.dat (I f)], [.dat (I b)]] [] = some ([D.dat (T 1 (w64 (w64 (i + b) + a)) [])], [[D.dat (I f)], [D.dat (I b)]], []) :=
  hrun_ok [(200009, .yes), (16, .ret [.dat (T 1 (w64 (w64 (i + b) + a)) [])])] (ob h1 (ob h2 ob0)) (by kernel_rfl)
theorem shift1_lo (kk : Nat) (i a b f : Int) (h1 : decide (f ≤ i) = false) (h2 : den cfg kk 56 [D.dat (I (w64 (i + a)))] [] [] = some ([D.dat (T 1 (w64 (i + a)) [])], [], [])) : runFn cfg kk (den cfg kk) 63 Go.Proofs.Tryz.f63 [.dat (I i), .dat (I a), .ptr (.up 0) 0, .ptr (.up 1) 0] [[.dat (I f)], [.dat (I b)]] [] = some ([D.dat (T 1 (w64 (i + a)) [])], [[D.dat (I f)], [D.dat (I b)]], []) :=
  hrun_ok [(200009, .no), (16, .ret [.dat (T 1 (w64 (i + a)) [])])] (ob h1 (ob h2 ob0)) (by kernel_rfl)
theorem subst (kk : Nat) (k n kq ks ns kr nr : Int) (ps ds dr : List Dat) (h1 : den cfg kk 62 [D.dat (T k n ps), D.dat (I 0), D.fn 99 [Ref.up 1, Ref.up 0]] [[D.dat (I ks), D.dat (I ns), D.dat (Dat.lst false ds)], [D.dat (I kq)]] [] = some ([D.dat (T kr nr dr)], [[D.dat (I ks), D.dat (I ns), D.dat (Dat.lst false ds)], [D.dat (I kq)]], [])) : runFn cfg kk (den cfg kk) 76 Go.Proofs.Tryz.f76 [.dat (T k n ps), .dat (I kq), .dat (T ks ns ds)] [] [] = some ([D.dat (T kr nr dr)], [], []) :=
  hrun_ok [(9, .back [.dat (T kr nr dr)] [[.dat (I ks), .dat (I ns), .dat (.lst false ds)], [.dat (I kq)]] [])] (ob h1 (ob (rfl : false = false) ob0)) (by kernel_rfl)
theorem shift (kk : Nat) (k n b f kr nr : Int) (ps dr : List Dat) (h1 : den cfg kk 62 [D.dat (T k n ps), D.dat (I 0), D.fn 63 [Ref.up 0, Ref.up 1]] [[D.dat (I f)], [D.dat (I b)]] [] = some ([D.dat (T kr nr dr)], [[D.dat (I f)], [D.dat (I b)]], [])) : runFn cfg kk (den cfg kk) 29 Go.Proofs.Tryz.f29 [.dat (T k n ps), .dat (I b), .dat (I f)] [] [] = some ([D.dat (T kr nr dr)], [], []) :=
  hrun_ok [(9, .back [.dat (T kr nr dr)] [[.dat (I f)], [.dat (I b)]] [])] (ob h1 (ob (rfl : false = false) ob0)) (by kernel_rfl)
theorem nodes (kk : Nat) (k n : Int) (ps out : List Dat) (h1 : den cfg kk 77 [D.dat (T k n ps), D.dat (I (-1)), D.ptr (Ref.up 1) 0, D.ptr (Ref.up 0) 0] [[D.fn 77 [Ref.up 1, Ref.up 0]], [D.own 60 []]] [] = some ([], [[D.fn 77 [Ref.up 1, Ref.up 0]], [D.own 60 out]], [])) : runFn cfg kk (den cfg kk) 43 Go.Proofs.Tryz.f43 [.dat (T k n ps)] [] [] = some ([D.own 60 out], [], []) :=
  hrun_ok [(9, .back [] [[.fn 77 [.up 1, .up 0]], [.own 60 (out)]] [])] (ob h1 (ob (rfl : false = false) ob0)) (by kernel_rfl)
def hd97 (out ps : List Dat) (at_ i : Int) : St := Nm [3, 6, 21, 22, 23] [.ptr (.up 0) 0, .dat (I at_), .dat (.lst false ps), .dat (I ps.length), .dat (I i)] [none, none, none, none, none] [[.fn 77 [.up 1, .up 0]], [.own 60 (out)]] []
theorem nodes1_go (kk m : Nat) {s : St} {K : X → St → Prop} (out out' ps : List Dat) (at_ i kx nx : Int) (dx : List Dat) (hs : s.norm ((envOf cfg kk 77 Go.Proofs.Tryz.f77).live (firstRegion (lp Go.Proofs.Tryz.f77 4))) = hd97 out ps at_ i) (h1 : decide (i < (ps.length : Int)) = true) (h2 : (0 ≤ i ∧ i < (ps.length : Int)) ∧ ps[i.toNat]? = some (T kx nx dx)) (h3 : den cfg kk 77 [D.dat (T kx nx dx), D.dat (I at_), D.ptr (Ref.up 1) 0, D.ptr (Ref.up 0) 0] [[D.fn 77 [Ref.up 1, Ref.up 0]], [D.own 60 out]] [] = some ([], [[D.fn 77 [Ref.up 1, Ref.up 0]], [D.own 60 out']], [])) (hn : ∀ s : St, s.norm ((envOf cfg kk 77 Go.Proofs.Tryz.f77).live (firstRegion (lp Go.Proofs.Tryz.f77 4))) = Nm [3, 6, 21, 22, 23] [D.ptr (Ref.up 0) 0, D.dat (I at_), D.dat (Dat.lst false ps), D.dat (I (ps.length : Int)), D.dat (I (w64 (i + 1)))] [none, none, none, none, none] [[D.fn 77 [Ref.up 1, Ref.up 0]], [D.own 60 out']] [] → Rounds (envOf cfg kk 77 Go.Proofs.Tryz.f77) kk (lp Go.Proofs.Tryz.f77 4) m s K) : Rounds (envOf cfg kk 77 Go.Proofs.Tryz.f77) kk (lp Go.Proofs.Tryz.f77 4) (m + 1) s K :=
  rounds_go [(200024, .yes), (25, .at (T kx nx dx)), (30, .back [] [[.fn 77 [.up 1, .up 0]], [.own 60 (out')]] [])] hs (by kernel_rfl) (ob h1 (ob h2 (ob h3 (ob (rfl : false = false) ob0)))) (by kernel_rfl) hn
theorem nodes1_end (kk m : Nat) {s : St} {K : X → St → Prop} (out ps : List Dat) (at_ i : Int) (hs : s.norm ((envOf cfg kk 77 Go.Proofs.Tryz.f77).live (firstRegion (lp Go.Proofs.Tryz.f77 4))) = hd97 out ps at_ i) (h1 : decide (i < (ps.length : Int)) = false) (hK : K (X.exit 0) (Nm [] [] [] [[D.fn 77 [Ref.up 1, Ref.up 0]], [D.own 60 out]] [])) : Rounds (envOf cfg kk 77 Go.Proofs.Tryz.f77) kk (lp Go.Proofs.Tryz.f77 4) (m + 1) s K :=
  rounds_end [(200024, .no)] hs (by kernel_rfl) rfl (ob h1 ob0) (by kernel_rfl) hK
theorem nodes1 (kk : Nat) (k n up : Int) (ps out out' : List Dat) (h1 : out.length + 1 ≤ 2147483648) (h3 : LoopAt cfg kk 77 Go.Proofs.Tryz.f77 4 (hd97 (out ++ [N3 k n up]) ps ((out.length : Int)) 0) (X.exit 0) (Nm [] [] [] [[D.fn 77 [Ref.up 1, Ref.up 0]], [D.own 60 out']] [])) : runFn cfg kk (den cfg kk) 77 Go.Proofs.Tryz.f77 [.dat (T k n ps), .dat (I up), .ptr (.up 1) 0, .ptr (.up 0) 0] [[.fn 77 [.up 1, .up 0]], [.own 60 (out)]] [] = some ([], [[D.fn 77 [Ref.up 1, Ref.up 0]], [D.own 60 out']], []) :=
  hrun_ok [(19, .ok), (300004, .loop (hd97 (out ++ [N3 k n up]) ps out.length 0) (.exit 0) (Nm [] [] [] [[.fn 77 [.up 1, .up 0]], [.own 60 (out')]] []))] (ob (obT h1) (ob (rfl : _ = hd97 (out ++ [N3 k n up]) ps ((out.length : Int)) 0) (ob h3 ob0))) (by kernel_rfl)
theorem goodNodes_no (kk : Nat) (k n : Int) (ps : List Dat) (h1 : den cfg kk 48 [D.dat (T k n ps)] [] [] = some ([D.dat (B false)], [], [])) : runFn cfg kk (den cfg kk) 25 Go.Proofs.Tryz.f25 [.dat (T k n ps)] [] [] = some ([D.own 60 [], D.dat (B false)], [], []) :=
  hrun_ok [(5, .ret [.dat (B false)])] (ob h1 ob0) (by kernel_rfl)
theorem goodNodes_yes (kk : Nat) (k n : Int) (ps out : List Dat) (h1 : den cfg kk 48 [D.dat (T k n ps)] [] [] = some ([D.dat (B true)], [], [])) (h2 : den cfg kk 43 [D.dat (T k n ps)] [] [] = some ([D.own 60 out], [], [])) : runFn cfg kk (den cfg kk) 25 Go.Proofs.Tryz.f25 [.dat (T k n ps)] [] [] = some ([D.own 60 out, D.dat (B true)], [], []) :=
  hrun_ok [(5, .ret [.dat (B true)]), (8, .ret [.own 60 out])] (ob h1 (ob h2 ob0)) (by kernel_rfl)
def hd44 (b : Bool) (es : List Dat) (i : Int) : St := Nm [0, 14, 15, 16] [.dat (.lst b es), .dat (.lst b es), .dat (I es.length), .dat (I i)] [none, none, none, none] [] []
def hd44a (b : Bool) (es : List Dat) (i k n u : Int) (ar : Bool) (at_ : Int) : St := Nm [0, 3, 4, 5, 6, 14, 15, 16] [.dat (.lst b es), .dat (I i), .ptr (.loc 4) 0, .dat (B ar), .dat (I at_), .dat (.lst b es), .dat (I es.length), .dat (I i)] [none, none, some [.dat (I k), .dat (I n), .dat (I u)], none, none, none, none, none] [] []
def out44a (b : Bool) (es : List Dat) (i k n u : Int) (ar : Bool) : St := Nm [0, 3, 4, 5, 14, 15, 16] [.dat (.lst b es), .dat (I i), .ptr (.loc 4) 0, .dat (B ar), .dat (.lst b es), .dat (I es.length), .dat (I i)] [none, none, some [.dat (I k), .dat (I n), .dat (I u)], none, none, none, none] [] []
def hd44b (b : Bool) (es : List Dat) (i k n u : Int) (ar : Bool) (deep at_ : Int) : St := Nm [0, 3, 4, 5, 7, 8, 14, 15, 16] [.dat (.lst b es), .dat (I i), .ptr (.loc 4) 0, .dat (B ar), .dat (I deep), .dat (I at_), .dat (.lst b es), .dat (I es.length), .dat (I i)] [none, none, some [.dat (I k), .dat (I n), .dat (I u)], none, none, none, none, none, none] [] []
def out44b (b : Bool) (es : List Dat) (i k n u : Int) (ar : Bool) (deep : Int) : St := Nm [0, 3, 4, 5, 7, 14, 15, 16] [.dat (.lst b es), .dat (I i), .ptr (.loc 4) 0, .dat (B ar), .dat (I deep), .dat (.lst b es), .dat (I es.length), .dat (I i)] [none, none, some [.dat (I k), .dat (I n), .dat (I u)], none, none, none, none, none] [] []
theorem around_go (kk m : Nat) {s : St} {K : X → St → Prop} (b : Bool) (es : List Dat) (i k n u at_ x y z : Int) (hs : s.norm ((envOf cfg kk 21 Go.Proofs.Tryz.f21).live (firstRegion (lp Go.Proofs.Tryz.f21 10))) = hd44a b es i k n u false at_) (h1 : decide (0 ≤ at_) = true) (h3 : (0 ≤ at_ ∧ at_ < (es.length : Int)) ∧ es[at_.toNat]? = some (N3 x y z)) (hn : ∀ s : St, s.norm ((envOf cfg kk 21 Go.Proofs.Tryz.f21).live (firstRegion (lp Go.Proofs.Tryz.f21 10))) = Nm [0, 3, 4, 5, 6, 14, 15, 16] [D.dat (Dat.lst b es), D.dat (I i), D.ptr (Ref.loc 4) 0, D.dat (B (decide (at_ = u))), D.dat (I z), D.dat (Dat.lst b es), D.dat (I (es.length : Int)), D.dat (I i)] [none, none, some [D.dat (I k), D.dat (I n), D.dat (I u)], none, none, none, none, none] [] [] → Rounds (envOf cfg kk 21 Go.Proofs.Tryz.f21) kk (lp Go.Proofs.Tryz.f21 10) m s K) : Rounds (envOf cfg kk 21 Go.Proofs.Tryz.f21) kk (lp Go.Proofs.Tryz.f21 10) (m + 1) s K :=
  rounds_go [(200041, .yes), (47, .at (N3 x y z))] hs (by kernel_rfl) (ob h1 (ob (rfl : true = true) (ob h3 ob0))) (by kernel_rfl) hn
theorem around_out (kk m : Nat) {s : St} {K : X → St → Prop} (b : Bool) (es : List Dat) (i k n u at_ : Int) (ar : Bool) (hs : s.norm ((envOf cfg kk 21 Go.Proofs.Tryz.f21).live (firstRegion (lp Go.Proofs.Tryz.f21 10))) = hd44a b es i k n u ar at_) (h1 : decide (0 ≤ at_) = false) (hK : K (X.exit 2) (Nm [0, 3, 4, 5, 14, 15, 16] [D.dat (Dat.lst b es), D.dat (I i), D.ptr (Ref.loc 4) 0, D.dat (B ar), D.dat (Dat.lst b es), D.dat (I (es.length : Int)), D.dat (I i)] [none, none, some [D.dat (I k), D.dat (I n), D.dat (I u)], none, none, none, none] [] [])) : Rounds (envOf cfg kk 21 Go.Proofs.Tryz.f21) kk (lp Go.Proofs.Tryz.f21 10) (m + 1) s K :=
  rounds_end [(200041, .no)] hs (by kernel_rfl) rfl (ob h1 (ob (rfl : false = false) ob0)) (by kernel_rfl) hK
theorem around_yes (kk m : Nat) {s : St} {K : X → St → Prop} (b : Bool) (es : List Dat) (i k n u at_ : Int) (hs : s.norm ((envOf cfg kk 21 Go.Proofs.Tryz.f21).live (firstRegion (lp Go.Proofs.Tryz.f21 10))) = hd44a b es i k n u true at_) (h1 : decide (0 ≤ at_) = true) (hK : K (X.exit 2) (Nm [0, 3, 4, 5, 14, 15, 16] [D.dat (Dat.lst b es), D.dat (I i), D.ptr (Ref.loc 4) 0, D.dat (B true), D.dat (Dat.lst b es), D.dat (I (es.length : Int)), D.dat (I i)] [none, none, some [D.dat (I k), D.dat (I n), D.dat (I u)], none, none, none, none] [] [])) : Rounds (envOf cfg kk 21 Go.Proofs.Tryz.f21) kk (lp Go.Proofs.Tryz.f21 10) (m + 1) s K :=
  rounds_end [(200041, .yes)] hs (by kernel_rfl) rfl (ob h1 (ob (rfl : true = true) ob0)) (by kernel_rfl) hK
theorem deep_go (kk m : Nat) {s : St} {K : X → St → Prop} (b : Bool) (es : List Dat) (i k n u : Int) (ar : Bool) (deep at_ : Int) (x y z : Int) (hs : s.norm ((envOf cfg kk 21 Go.Proofs.Tryz.f21).live (firstRegion (lp Go.Proofs.Tryz.f21 15))) = hd44b b es i k n u ar deep at_) (h1 : decide (0 ≤ at_) = true) (h2 : (0 ≤ at_ ∧ at_ < (es.length : Int)) ∧ es[at_.toNat]? = some (N3 x y z)) (hn : ∀ s : St, s.norm ((envOf cfg kk 21 Go.Proofs.Tryz.f21).live (firstRegion (lp Go.Proofs.Tryz.f21 15))) = Nm [0, 3, 4, 5, 7, 8, 14, 15, 16] [D.dat (Dat.lst b es), D.dat (I i), D.ptr (Ref.loc 4) 0, D.dat (B ar), D.dat (I (w64 (deep + 1))), D.dat (I z), D.dat (Dat.lst b es), D.dat (I (es.length : Int)), D.dat (I i)] [none, none, some [D.dat (I k), D.dat (I n), D.dat (I u)], none, none, none, none, none, none] [] [] → Rounds (envOf cfg kk 21 Go.Proofs.Tryz.f21) kk (lp Go.Proofs.Tryz.f21 15) m s K) : Rounds (envOf cfg kk 21 Go.Proofs.Tryz.f21) kk (lp Go.Proofs.Tryz.f21 15) (m + 1) s K :=
  rounds_go [(200056, .yes), (59, .at (N3 x y z))] hs (by kernel_rfl) (ob h1 (ob h2 ob0)) (by kernel_rfl) hn
theorem deep_out (kk m : Nat) {s : St} {K : X → St → Prop} (b : Bool) (es : List Dat) (i k n u : Int) (ar : Bool) (deep at_ : Int) (hs : s.norm ((envOf cfg kk 21 Go.Proofs.Tryz.f21).live (firstRegion (lp Go.Proofs.Tryz.f21 15))) = hd44b b es i k n u ar deep at_) (h1 : decide (0 ≤ at_) = false) (hK : K (X.exit 4) (Nm [0, 3, 4, 5, 7, 14, 15, 16] [D.dat (Dat.lst b es), D.dat (I i), D.ptr (Ref.loc 4) 0, D.dat (B ar), D.dat (I deep), D.dat (Dat.lst b es), D.dat (I (es.length : Int)), D.dat (I i)] [none, none, some [D.dat (I k), D.dat (I n), D.dat (I u)], none, none, none, none, none] [] [])) : Rounds (envOf cfg kk 21 Go.Proofs.Tryz.f21) kk (lp Go.Proofs.Tryz.f21 15) (m + 1) s K :=
  rounds_end [(200056, .no)] hs (by kernel_rfl) rfl (ob h1 ob0) (by kernel_rfl) hK
theorem good_end (kk m : Nat) {s : St} {K : X → St → Prop} (b : Bool) (es : List Dat) (i : Int) (hs : s.norm ((envOf cfg kk 21 Go.Proofs.Tryz.f21).live (firstRegion (lp Go.Proofs.Tryz.f21 4))) = hd44 b es i) (h1 : decide (i < (es.length : Int)) = false) (hK : K (X.exit 0) (Nm [2] [D.junk] [none] [] [])) : Rounds (envOf cfg kk 21 Go.Proofs.Tryz.f21) kk (lp Go.Proofs.Tryz.f21 4) (m + 1) s K :=
  rounds_end [(200017, .no)] hs (by kernel_rfl) rfl (ob h1 ob0) (by kernel_rfl) hK
theorem good_up (kk m : Nat) {s : St} {K : X → St → Prop} (b : Bool) (es : List Dat) (i : Int) (n u : Int) (k : Int) (hs : s.norm ((envOf cfg kk 21 Go.Proofs.Tryz.f21).live (firstRegion (lp Go.Proofs.Tryz.f21 4))) = hd44 b es i) (h1 : decide (i < (es.length : Int)) = true) (h2 : (0 ≤ i ∧ i < (es.length : Int)) ∧ es[i.toNat]? = some (N3 k n u)) (h3 : (!decide (i = 0) == decide (u = -1)) = true) (hK : K (X.ret) (Nm [2] [D.dat (B false)] [none] [] [])) : Rounds (envOf cfg kk 21 Go.Proofs.Tryz.f21) kk (lp Go.Proofs.Tryz.f21 4) (m + 1) s K :=
  rounds_end [(200017, .yes), (19, .at (N3 k n u)), (200027, .yes)] hs (by kernel_rfl) rfl (ob h1 (ob h2 (ob h3 (ob (rfl : true = true) (ob (rfl : true = true) (ob (rfl : true = true) (ob (rfl : true = true) (ob (rfl : true = true) ob0)))))))) (by kernel_rfl) hK
theorem good_in (kk m : Nat) {s : St} {K : X → St → Prop} (b : Bool) (es : List Dat) (i : Int) (n u : Int) (k : Int) (hs : s.norm ((envOf cfg kk 21 Go.Proofs.Tryz.f21).live (firstRegion (lp Go.Proofs.Tryz.f21 4))) = hd44 b es i) (h1 : decide (i < (es.length : Int)) = true) (h2 : (0 ≤ i ∧ i < (es.length : Int)) ∧ es[i.toNat]? = some (N3 k n u)) (h3 : (!decide (i = 0) == decide (u = -1)) = false) (h8 : den cfg kk 30 [D.dat (I u), D.dat (I (-1)), D.dat (I (w64 (i - 1)))] [] [] = some ([D.dat (B false)], [], [])) (hK : K (X.ret) (Nm [2] [D.dat (B false)] [none] [] [])) : Rounds (envOf cfg kk 21 Go.Proofs.Tryz.f21) kk (lp Go.Proofs.Tryz.f21 4) (m + 1) s K :=
  rounds_end [(200017, .yes), (19, .at (N3 k n u)), (200027, .no), (32, .ret [.dat (B false)])] hs (by kernel_rfl) rfl (ob h1 (ob h2 (ob h3 (ob (rfl : false = false) (ob (rfl : false = false) (ob (rfl : false = false) (ob (rfl : false = false) (ob h8 (ob (rfl : false = false) ob0))))))))) (by kernel_rfl) hK
theorem good_kind (kk m : Nat) {s : St} {K : X → St → Prop} (b : Bool) (es : List Dat) (i : Int) (n u : Int) (k deep : Int) (ar : Bool) (hs : s.norm ((envOf cfg kk 21 Go.Proofs.Tryz.f21).live (firstRegion (lp Go.Proofs.Tryz.f21 4))) = hd44 b es i) (h1 : decide (i < (es.length : Int)) = true) (h2 : (0 ≤ i ∧ i < (es.length : Int)) ∧ es[i.toNat]? = some (N3 k n u)) (h3 : (!decide (i = 0) == decide (u = -1)) = false) (h8 : den cfg kk 30 [D.dat (I u), D.dat (I (-1)), D.dat (I (w64 (i - 1)))] [] [] = some ([D.dat (B true)], [], [])) (h11 : LoopAt cfg kk 21 Go.Proofs.Tryz.f21 10 (hd44a b es i k n u (decide (i = 0)) (w64 (i - 1))) (X.exit 2) (out44a b es i k n u ar)) (h13 : LoopAt cfg kk 21 Go.Proofs.Tryz.f21 15 (hd44b b es i k n u ar 0 i) (X.exit 4) (out44b b es i k n u ar deep)) (h14 : decide (k = 1) = false) (h15 : decide (k = 2) = false) (h16 : decide (k = 3) = false) (hK : K (X.ret) (Nm [2] [D.dat (B false)] [none] [] [])) : Rounds (envOf cfg kk 21 Go.Proofs.Tryz.f21) kk (lp Go.Proofs.Tryz.f21 4) (m + 1) s K :=
  rounds_end [(200017, .yes), (19, .at (N3 k n u)), (200027, .no), (32, .ret [.dat (B true)]), (300010, .loop (hd44a b es i k n u (decide (i = 0)) (w64 (i - 1))) (.exit 2) (out44a b es i k n u ar)), (300015, .loop (hd44b b es i k n u ar 0 i) (.exit 4) (out44b b es i k n u ar deep)), (200066, .no), (200068, .no), (200070, .no)] hs (by kernel_rfl) rfl (ob h1 (ob h2 (ob h3 (ob (rfl : false = false) (ob (rfl : false = false) (ob (rfl : false = false) (ob (rfl : false = false) (ob h8 (ob (rfl : false = false) (ob (rfl : _ = hd44a b es i k n u (decide (i = 0)) (w64 (i - 1))) (ob h11 (ob (rfl : _ = hd44b b es i k n u ar 0 i) (ob h13 (ob h14 (ob h15 (ob h16 ob0)))))))))))))))) (by kernel_rfl) hK
theorem good_ar_1 (kk m : Nat) {s : St} {K : X → St → Prop} (b : Bool) (es : List Dat) (i : Int) (n u : Int) (deep : Int) (hs : s.norm ((envOf cfg kk 21 Go.Proofs.Tryz.f21).live (firstRegion (lp Go.Proofs.Tryz.f21 4))) = hd44 b es i) (h1 : decide (i < (es.length : Int)) = true) (h2 : (0 ≤ i ∧ i < (es.length : Int)) ∧ es[i.toNat]? = some (N3 1 n u)) (h3 : (!decide (i = 0) == decide (u = -1)) = false) (h8 : den cfg kk 30 [D.dat (I u), D.dat (I (-1)), D.dat (I (w64 (i - 1)))] [] [] = some ([D.dat (B true)], [], [])) (h11 : LoopAt cfg kk 21 Go.Proofs.Tryz.f21 10 (hd44a b es i 1 n u (decide (i = 0)) (w64 (i - 1))) (X.exit 2) (out44a b es i 1 n u false)) (h13 : LoopAt cfg kk 21 Go.Proofs.Tryz.f21 15 (hd44b b es i 1 n u false 0 i) (X.exit 4) (out44b b es i 1 n u false deep)) (hK : K (X.ret) (Nm [2] [D.dat (B false)] [none] [] [])) : Rounds (envOf cfg kk 21 Go.Proofs.Tryz.f21) kk (lp Go.Proofs.Tryz.f21 4) (m + 1) s K :=
  rounds_end [(200017, .yes), (19, .at (N3 1 n u)), (200027, .no), (32, .ret [.dat (B true)]), (300010, .loop (hd44a b es i 1 n u (decide (i = 0)) (w64 (i - 1))) (.exit 2) (out44a b es i 1 n u false)), (300015, .loop (hd44b b es i 1 n u false 0 i) (.exit 4) (out44b b es i 1 n u false deep))] hs (by kernel_rfl) rfl (ob h1 (ob h2 (ob h3 (ob (rfl : false = false) (ob (rfl : false = false) (ob (rfl : false = false) (ob (rfl : false = false) (ob h8 (ob (rfl : false = false) (ob (rfl : _ = hd44a b es i 1 n u (decide (i = 0)) (w64 (i - 1))) (ob h11 (ob (rfl : _ = hd44b b es i 1 n u false 0 i) (ob h13 ob0))))))))))))) (by kernel_rfl) hK
theorem good_deep_1 (kk m : Nat) {s : St} {K : X → St → Prop} (b : Bool) (es : List Dat) (i : Int) (n u : Int) (deep : Int) (hs : s.norm ((envOf cfg kk 21 Go.Proofs.Tryz.f21).live (firstRegion (lp Go.Proofs.Tryz.f21 4))) = hd44 b es i) (h1 : decide (i < (es.length : Int)) = true) (h2 : (0 ≤ i ∧ i < (es.length : Int)) ∧ es[i.toNat]? = some (N3 1 n u)) (h3 : (!decide (i = 0) == decide (u = -1)) = false) (h8 : den cfg kk 30 [D.dat (I u), D.dat (I (-1)), D.dat (I (w64 (i - 1)))] [] [] = some ([D.dat (B true)], [], [])) (h11 : LoopAt cfg kk 21 Go.Proofs.Tryz.f21 10 (hd44a b es i 1 n u (decide (i = 0)) (w64 (i - 1))) (X.exit 2) (out44a b es i 1 n u true)) (h13 : LoopAt cfg kk 21 Go.Proofs.Tryz.f21 15 (hd44b b es i 1 n u true 0 i) (X.exit 4) (out44b b es i 1 n u true deep)) (h14 : decide (40 < deep) = true) (hK : K (X.ret) (Nm [2] [D.dat (B false)] [none] [] [])) : Rounds (envOf cfg kk 21 Go.Proofs.Tryz.f21) kk (lp Go.Proofs.Tryz.f21 4) (m + 1) s K :=
  rounds_end [(200017, .yes), (19, .at (N3 1 n u)), (200027, .no), (32, .ret [.dat (B true)]), (300010, .loop (hd44a b es i 1 n u (decide (i = 0)) (w64 (i - 1))) (.exit 2) (out44a b es i 1 n u true)), (300015, .loop (hd44b b es i 1 n u true 0 i) (.exit 4) (out44b b es i 1 n u true deep)), (200078, .yes)] hs (by kernel_rfl) rfl (ob h1 (ob h2 (ob h3 (ob (rfl : false = false) (ob (rfl : false = false) (ob (rfl : false = false) (ob (rfl : false = false) (ob h8 (ob (rfl : false = false) (ob (rfl : _ = hd44a b es i 1 n u (decide (i = 0)) (w64 (i - 1))) (ob h11 (ob (rfl : _ = hd44b b es i 1 n u true 0 i) (ob h13 (ob h14 (ob (rfl : true = true) (ob (rfl : true = true) (ob (rfl : true = true) (ob (rfl : true = true) (ob (rfl : true = true) ob0))))))))))))))))))) (by kernel_rfl) hK
theorem good_parts_1 (kk m : Nat) {s : St} {K : X → St → Prop} (b : Bool) (es : List Dat) (i : Int) (n u : Int) (deep : Int) (ps : List Dat) (hs : s.norm ((envOf cfg kk 21 Go.Proofs.Tryz.f21).live (firstRegion (lp Go.Proofs.Tryz.f21 4))) = hd44 b es i) (h1 : decide (i < (es.length : Int)) = true) (h2 : (0 ≤ i ∧ i < (es.length : Int)) ∧ es[i.toNat]? = some (N3 1 n u)) (h3 : (!decide (i = 0) == decide (u = -1)) = false) (h8 : den cfg kk 30 [D.dat (I u), D.dat (I (-1)), D.dat (I (w64 (i - 1)))] [] [] = some ([D.dat (B true)], [], [])) (h11 : LoopAt cfg kk 21 Go.Proofs.Tryz.f21 10 (hd44a b es i 1 n u (decide (i = 0)) (w64 (i - 1))) (X.exit 2) (out44a b es i 1 n u true)) (h13 : LoopAt cfg kk 21 Go.Proofs.Tryz.f21 15 (hd44b b es i 1 n u true 0 i) (X.exit 4) (out44b b es i 1 n u true deep)) (h14 : decide (40 < deep) = false) (h17 : den cfg kk 50 [D.dat (Dat.lst b es), D.dat (I i)] [] [] = some ([D.own 3 ps], [], [])) (h21 : (!decide ((ps.length : Int) = 0)) = true) (hK : K (X.ret) (Nm [2] [D.dat (B false)] [none] [] [])) : Rounds (envOf cfg kk 21 Go.Proofs.Tryz.f21) kk (lp Go.Proofs.Tryz.f21 4) (m + 1) s K :=
  rounds_end [(200017, .yes), (19, .at (N3 1 n u)), (200027, .no), (32, .ret [.dat (B true)]), (300010, .loop (hd44a b es i 1 n u (decide (i = 0)) (w64 (i - 1))) (.exit 2) (out44a b es i 1 n u true)), (300015, .loop (hd44b b es i 1 n u true 0 i) (.exit 4) (out44b b es i 1 n u true deep)), (200078, .no), (81, .ret [.own 3 ps]), (200086, .yes)] hs (by kernel_rfl) rfl (ob h1 (ob h2 (ob h3 (ob (rfl : false = false) (ob (rfl : false = false) (ob (rfl : false = false) (ob (rfl : false = false) (ob h8 (ob (rfl : false = false) (ob (rfl : _ = hd44a b es i 1 n u (decide (i = 0)) (w64 (i - 1))) (ob h11 (ob (rfl : _ = hd44b b es i 1 n u true 0 i) (ob h13 (ob h14 (ob (rfl : false = false) (ob (rfl : false = false) (ob h17 (ob (rfl : false = false) (ob (rfl : false = false) (ob (rfl : false = false) (ob h21 (ob (rfl : true = true) (ob (rfl : true = true) (ob (rfl : true = true) ob0)))))))))))))))))))))))) (by kernel_rfl) hK
theorem good_n_1 (kk m : Nat) {s : St} {K : X → St → Prop} (b : Bool) (es : List Dat) (i : Int) (n u : Int) (deep : Int) (ps : List Dat) (hs : s.norm ((envOf cfg kk 21 Go.Proofs.Tryz.f21).live (firstRegion (lp Go.Proofs.Tryz.f21 4))) = hd44 b es i) (h1 : decide (i < (es.length : Int)) = true) (h2 : (0 ≤ i ∧ i < (es.length : Int)) ∧ es[i.toNat]? = some (N3 1 n u)) (h3 : (!decide (i = 0) == decide (u = -1)) = false) (h8 : den cfg kk 30 [D.dat (I u), D.dat (I (-1)), D.dat (I (w64 (i - 1)))] [] [] = some ([D.dat (B true)], [], [])) (h11 : LoopAt cfg kk 21 Go.Proofs.Tryz.f21 10 (hd44a b es i 1 n u (decide (i = 0)) (w64 (i - 1))) (X.exit 2) (out44a b es i 1 n u true)) (h13 : LoopAt cfg kk 21 Go.Proofs.Tryz.f21 15 (hd44b b es i 1 n u true 0 i) (X.exit 4) (out44b b es i 1 n u true deep)) (h14 : decide (40 < deep) = false) (h17 : den cfg kk 50 [D.dat (Dat.lst b es), D.dat (I i)] [] [] = some ([D.own 3 ps], [], [])) (h21 : (!decide ((ps.length : Int) = 0)) = false) (h24 : den cfg kk 30 [D.dat (I n), D.dat (I 0), D.dat (I 99)] [] [] = some ([D.dat (B false)], [], [])) (hK : K (X.ret) (Nm [2] [D.dat (B false)] [none] [] [])) : Rounds (envOf cfg kk 21 Go.Proofs.Tryz.f21) kk (lp Go.Proofs.Tryz.f21 4) (m + 1) s K :=
  rounds_end [(200017, .yes), (19, .at (N3 1 n u)), (200027, .no), (32, .ret [.dat (B true)]), (300010, .loop (hd44a b es i 1 n u (decide (i = 0)) (w64 (i - 1))) (.exit 2) (out44a b es i 1 n u true)), (300015, .loop (hd44b b es i 1 n u true 0 i) (.exit 4) (out44b b es i 1 n u true deep)), (200078, .no), (81, .ret [.own 3 ps]), (200086, .no), (89, .ret [.dat (B false)])] hs (by kernel_rfl) rfl (ob h1 (ob h2 (ob h3 (ob (rfl : false = false) (ob (rfl : false = false) (ob (rfl : false = false) (ob (rfl : false = false) (ob h8 (ob (rfl : false = false) (ob (rfl : _ = hd44a b es i 1 n u (decide (i = 0)) (w64 (i - 1))) (ob h11 (ob (rfl : _ = hd44b b es i 1 n u true 0 i) (ob h13 (ob h14 (ob (rfl : false = false) (ob (rfl : false = false) (ob h17 (ob (rfl : false = false) (ob (rfl : false = false) (ob (rfl : false = false) (ob h21 (ob (rfl : false = false) (ob (rfl : false = false) (ob h24 (ob (rfl : false = false) ob0))))))))))))))))))))))))) (by kernel_rfl) hK
theorem good_go_1 (kk m : Nat) {s : St} {K : X → St → Prop} (b : Bool) (es : List Dat) (i : Int) (n u : Int) (deep : Int) (ps : List Dat) (hs : s.norm ((envOf cfg kk 21 Go.Proofs.Tryz.f21).live (firstRegion (lp Go.Proofs.Tryz.f21 4))) = hd44 b es i) (h1 : decide (i < (es.length : Int)) = true) (h2 : (0 ≤ i ∧ i < (es.length : Int)) ∧ es[i.toNat]? = some (N3 1 n u)) (h3 : (!decide (i = 0) == decide (u = -1)) = false) (h8 : den cfg kk 30 [D.dat (I u), D.dat (I (-1)), D.dat (I (w64 (i - 1)))] [] [] = some ([D.dat (B true)], [], [])) (h11 : LoopAt cfg kk 21 Go.Proofs.Tryz.f21 10 (hd44a b es i 1 n u (decide (i = 0)) (w64 (i - 1))) (X.exit 2) (out44a b es i 1 n u true)) (h13 : LoopAt cfg kk 21 Go.Proofs.Tryz.f21 15 (hd44b b es i 1 n u true 0 i) (X.exit 4) (out44b b es i 1 n u true deep)) (h14 : decide (40 < deep) = false) (h17 : den cfg kk 50 [D.dat (Dat.lst b es), D.dat (I i)] [] [] = some ([D.own 3 ps], [], [])) (h21 : (!decide ((ps.length : Int) = 0)) = false) (h24 : den cfg kk 30 [D.dat (I n), D.dat (I 0), D.dat (I 99)] [] [] = some ([D.dat (B true)], [], [])) (hn : ∀ s : St, s.norm ((envOf cfg kk 21 Go.Proofs.Tryz.f21).live (firstRegion (lp Go.Proofs.Tryz.f21 4))) = Nm [0, 14, 15, 16] [D.dat (Dat.lst b es), D.dat (Dat.lst b es), D.dat (I (es.length : Int)), D.dat (I (w64 (i + 1)))] [none, none, none, none] [] [] → Rounds (envOf cfg kk 21 Go.Proofs.Tryz.f21) kk (lp Go.Proofs.Tryz.f21 4) m s K) : Rounds (envOf cfg kk 21 Go.Proofs.Tryz.f21) kk (lp Go.Proofs.Tryz.f21 4) (m + 1) s K :=
  rounds_go [(200017, .yes), (19, .at (N3 1 n u)), (200027, .no), (32, .ret [.dat (B true)]), (300010, .loop (hd44a b es i 1 n u (decide (i = 0)) (w64 (i - 1))) (.exit 2) (out44a b es i 1 n u true)), (300015, .loop (hd44b b es i 1 n u true 0 i) (.exit 4) (out44b b es i 1 n u true deep)), (200078, .no), (81, .ret [.own 3 ps]), (200086, .no), (89, .ret [.dat (B true)])] hs (by kernel_rfl) (ob h1 (ob h2 (ob h3 (ob (rfl : false = false) (ob (rfl : false = false) (ob (rfl : false = false) (ob (rfl : false = false) (ob h8 (ob (rfl : false = false) (ob (rfl : _ = hd44a b es i 1 n u (decide (i = 0)) (w64 (i - 1))) (ob h11 (ob (rfl : _ = hd44b b es i 1 n u true 0 i) (ob h13 (ob h14 (ob (rfl : false = false) (ob (rfl : false = false) (ob h17 (ob (rfl : false = false) (ob (rfl : false = false) (ob (rfl : false = false) (ob h21 (ob (rfl : false = false) (ob (rfl : false = false) (ob h24 (ob (rfl : false = false) ob0))))))))))))))))))))))))) (by kernel_rfl) hn
theorem good_ar_2 (kk m : Nat) {s : St} {K : X → St → Prop} (b : Bool) (es : List Dat) (i : Int) (n u : Int) (deep : Int) (hs : s.norm ((envOf cfg kk 21 Go.Proofs.Tryz.f21).live (firstRegion (lp Go.Proofs.Tryz.f21 4))) = hd44 b es i) (h1 : decide (i < (es.length : Int)) = true) (h2 : (0 ≤ i ∧ i < (es.length : Int)) ∧ es[i.toNat]? = some (N3 2 n u)) (h3 : (!decide (i = 0) == decide (u = -1)) = false) (h8 : den cfg kk 30 [D.dat (I u), D.dat (I (-1)), D.dat (I (w64 (i - 1)))] [] [] = some ([D.dat (B true)], [], [])) (h11 : LoopAt cfg kk 21 Go.Proofs.Tryz.f21 10 (hd44a b es i 2 n u (decide (i = 0)) (w64 (i - 1))) (X.exit 2) (out44a b es i 2 n u false)) (h13 : LoopAt cfg kk 21 Go.Proofs.Tryz.f21 15 (hd44b b es i 2 n u false 0 i) (X.exit 4) (out44b b es i 2 n u false deep)) (hK : K (X.ret) (Nm [2] [D.dat (B false)] [none] [] [])) : Rounds (envOf cfg kk 21 Go.Proofs.Tryz.f21) kk (lp Go.Proofs.Tryz.f21 4) (m + 1) s K :=
  rounds_end [(200017, .yes), (19, .at (N3 2 n u)), (200027, .no), (32, .ret [.dat (B true)]), (300010, .loop (hd44a b es i 2 n u (decide (i = 0)) (w64 (i - 1))) (.exit 2) (out44a b es i 2 n u false)), (300015, .loop (hd44b b es i 2 n u false 0 i) (.exit 4) (out44b b es i 2 n u false deep))] hs (by kernel_rfl) rfl (ob h1 (ob h2 (ob h3 (ob (rfl : false = false) (ob (rfl : false = false) (ob (rfl : false = false) (ob (rfl : false = false) (ob h8 (ob (rfl : false = false) (ob (rfl : _ = hd44a b es i 2 n u (decide (i = 0)) (w64 (i - 1))) (ob h11 (ob (rfl : _ = hd44b b es i 2 n u false 0 i) (ob h13 ob0))))))))))))) (by kernel_rfl) hK
theorem good_deep_2 (kk m : Nat) {s : St} {K : X → St → Prop} (b : Bool) (es : List Dat) (i : Int) (n u : Int) (deep : Int) (hs : s.norm ((envOf cfg kk 21 Go.Proofs.Tryz.f21).live (firstRegion (lp Go.Proofs.Tryz.f21 4))) = hd44 b es i) (h1 : decide (i < (es.length : Int)) = true) (h2 : (0 ≤ i ∧ i < (es.length : Int)) ∧ es[i.toNat]? = some (N3 2 n u)) (h3 : (!decide (i = 0) == decide (u = -1)) = false) (h8 : den cfg kk 30 [D.dat (I u), D.dat (I (-1)), D.dat (I (w64 (i - 1)))] [] [] = some ([D.dat (B true)], [], [])) (h11 : LoopAt cfg kk 21 Go.Proofs.Tryz.f21 10 (hd44a b es i 2 n u (decide (i = 0)) (w64 (i - 1))) (X.exit 2) (out44a b es i 2 n u true)) (h13 : LoopAt cfg kk 21 Go.Proofs.Tryz.f21 15 (hd44b b es i 2 n u true 0 i) (X.exit 4) (out44b b es i 2 n u true deep)) (h14 : decide (40 < deep) = true) (hK : K (X.ret) (Nm [2] [D.dat (B false)] [none] [] [])) : Rounds (envOf cfg kk 21 Go.Proofs.Tryz.f21) kk (lp Go.Proofs.Tryz.f21 4) (m + 1) s K :=
  rounds_end [(200017, .yes), (19, .at (N3 2 n u)), (200027, .no), (32, .ret [.dat (B true)]), (300010, .loop (hd44a b es i 2 n u (decide (i = 0)) (w64 (i - 1))) (.exit 2) (out44a b es i 2 n u true)), (300015, .loop (hd44b b es i 2 n u true 0 i) (.exit 4) (out44b b es i 2 n u true deep)), (200078, .yes)] hs (by kernel_rfl) rfl (ob h1 (ob h2 (ob h3 (ob (rfl : false = false) (ob (rfl : false = false) (ob (rfl : false = false) (ob (rfl : false = false) (ob h8 (ob (rfl : false = false) (ob (rfl : _ = hd44a b es i 2 n u (decide (i = 0)) (w64 (i - 1))) (ob h11 (ob (rfl : _ = hd44b b es i 2 n u true 0 i) (ob h13 (ob h14 (ob (rfl : true = true) (ob (rfl : true = true) (ob (rfl : true = true) (ob (rfl : true = true) (ob (rfl : true = true) ob0))))))))))))))))))) (by kernel_rfl) hK
theorem good_parts_2 (kk m : Nat) {s : St} {K : X → St → Prop} (b : Bool) (es : List Dat) (i : Int) (n u : Int) (deep : Int) (ps : List Dat) (hs : s.norm ((envOf cfg kk 21 Go.Proofs.Tryz.f21).live (firstRegion (lp Go.Proofs.Tryz.f21 4))) = hd44 b es i) (h1 : decide (i < (es.length : Int)) = true) (h2 : (0 ≤ i ∧ i < (es.length : Int)) ∧ es[i.toNat]? = some (N3 2 n u)) (h3 : (!decide (i = 0) == decide (u = -1)) = false) (h8 : den cfg kk 30 [D.dat (I u), D.dat (I (-1)), D.dat (I (w64 (i - 1)))] [] [] = some ([D.dat (B true)], [], [])) (h11 : LoopAt cfg kk 21 Go.Proofs.Tryz.f21 10 (hd44a b es i 2 n u (decide (i = 0)) (w64 (i - 1))) (X.exit 2) (out44a b es i 2 n u true)) (h13 : LoopAt cfg kk 21 Go.Proofs.Tryz.f21 15 (hd44b b es i 2 n u true 0 i) (X.exit 4) (out44b b es i 2 n u true deep)) (h14 : decide (40 < deep) = false) (h17 : den cfg kk 50 [D.dat (Dat.lst b es), D.dat (I i)] [] [] = some ([D.own 3 ps], [], [])) (h21 : (!decide ((ps.length : Int) = 1)) = true) (hK : K (X.ret) (Nm [2] [D.dat (B false)] [none] [] [])) : Rounds (envOf cfg kk 21 Go.Proofs.Tryz.f21) kk (lp Go.Proofs.Tryz.f21 4) (m + 1) s K :=
  rounds_end [(200017, .yes), (19, .at (N3 2 n u)), (200027, .no), (32, .ret [.dat (B true)]), (300010, .loop (hd44a b es i 2 n u (decide (i = 0)) (w64 (i - 1))) (.exit 2) (out44a b es i 2 n u true)), (300015, .loop (hd44b b es i 2 n u true 0 i) (.exit 4) (out44b b es i 2 n u true deep)), (200078, .no), (81, .ret [.own 3 ps]), (200086, .yes)] hs (by kernel_rfl) rfl (ob h1 (ob h2 (ob h3 (ob (rfl : false = false) (ob (rfl : false = false) (ob (rfl : false = false) (ob (rfl : false = false) (ob h8 (ob (rfl : false = false) (ob (rfl : _ = hd44a b es i 2 n u (decide (i = 0)) (w64 (i - 1))) (ob h11 (ob (rfl : _ = hd44b b es i 2 n u true 0 i) (ob h13 (ob h14 (ob (rfl : false = false) (ob (rfl : false = false) (ob h17 (ob (rfl : false = false) (ob (rfl : false = false) (ob (rfl : false = false) (ob h21 (ob (rfl : true = true) (ob (rfl : true = true) (ob (rfl : true = true) ob0)))))))))))))))))))))))) (by kernel_rfl) hK
theorem good_n_2 (kk m : Nat) {s : St} {K : X → St → Prop} (b : Bool) (es : List Dat) (i : Int) (n u : Int) (deep : Int) (ps : List Dat) (hs : s.norm ((envOf cfg kk 21 Go.Proofs.Tryz.f21).live (firstRegion (lp Go.Proofs.Tryz.f21 4))) = hd44 b es i) (h1 : decide (i < (es.length : Int)) = true) (h2 : (0 ≤ i ∧ i < (es.length : Int)) ∧ es[i.toNat]? = some (N3 2 n u)) (h3 : (!decide (i = 0) == decide (u = -1)) = false) (h8 : den cfg kk 30 [D.dat (I u), D.dat (I (-1)), D.dat (I (w64 (i - 1)))] [] [] = some ([D.dat (B true)], [], [])) (h11 : LoopAt cfg kk 21 Go.Proofs.Tryz.f21 10 (hd44a b es i 2 n u (decide (i = 0)) (w64 (i - 1))) (X.exit 2) (out44a b es i 2 n u true)) (h13 : LoopAt cfg kk 21 Go.Proofs.Tryz.f21 15 (hd44b b es i 2 n u true 0 i) (X.exit 4) (out44b b es i 2 n u true deep)) (h14 : decide (40 < deep) = false) (h17 : den cfg kk 50 [D.dat (Dat.lst b es), D.dat (I i)] [] [] = some ([D.own 3 ps], [], [])) (h21 : (!decide ((ps.length : Int) = 1)) = false) (h24 : den cfg kk 30 [D.dat (I n), D.dat (I 0), D.dat (I 99)] [] [] = some ([D.dat (B false)], [], [])) (hK : K (X.ret) (Nm [2] [D.dat (B false)] [none] [] [])) : Rounds (envOf cfg kk 21 Go.Proofs.Tryz.f21) kk (lp Go.Proofs.Tryz.f21 4) (m + 1) s K :=
  rounds_end [(200017, .yes), (19, .at (N3 2 n u)), (200027, .no), (32, .ret [.dat (B true)]), (300010, .loop (hd44a b es i 2 n u (decide (i = 0)) (w64 (i - 1))) (.exit 2) (out44a b es i 2 n u true)), (300015, .loop (hd44b b es i 2 n u true 0 i) (.exit 4) (out44b b es i 2 n u true deep)), (200078, .no), (81, .ret [.own 3 ps]), (200086, .no), (89, .ret [.dat (B false)])] hs (by kernel_rfl) rfl (ob h1 (ob h2 (ob h3 (ob (rfl : false = false) (ob (rfl : false = false) (ob (rfl : false = false) (ob (rfl : false = false) (ob h8 (ob (rfl : false = false) (ob (rfl : _ = hd44a b es i 2 n u (decide (i = 0)) (w64 (i - 1))) (ob h11 (ob (rfl : _ = hd44b b es i 2 n u true 0 i) (ob h13 (ob h14 (ob (rfl : false = false) (ob (rfl : false = false) (ob h17 (ob (rfl : false = false) (ob (rfl : false = false) (ob (rfl : false = false) (ob h21 (ob (rfl : false = false) (ob (rfl : false = false) (ob h24 (ob (rfl : false = false) ob0))))))))))))))))))))))))) (by kernel_rfl) hK
theorem good_go_2 (kk m : Nat) {s : St} {K : X → St → Prop} (b : Bool) (es : List Dat) (i : Int) (n u : Int) (deep : Int) (ps : List Dat) (hs : s.norm ((envOf cfg kk 21 Go.Proofs.Tryz.f21).live (firstRegion (lp Go.Proofs.Tryz.f21 4))) = hd44 b es i) (h1 : decide (i < (es.length : Int)) = true) (h2 : (0 ≤ i ∧ i < (es.length : Int)) ∧ es[i.toNat]? = some (N3 2 n u)) (h3 : (!decide (i = 0) == decide (u = -1)) = false) (h8 : den cfg kk 30 [D.dat (I u), D.dat (I (-1)), D.dat (I (w64 (i - 1)))] [] [] = some ([D.dat (B true)], [], [])) (h11 : LoopAt cfg kk 21 Go.Proofs.Tryz.f21 10 (hd44a b es i 2 n u (decide (i = 0)) (w64 (i - 1))) (X.exit 2) (out44a b es i 2 n u true)) (h13 : LoopAt cfg kk 21 Go.Proofs.Tryz.f21 15 (hd44b b es i 2 n u true 0 i) (X.exit 4) (out44b b es i 2 n u true deep)) (h14 : decide (40 < deep) = false) (h17 : den cfg kk 50 [D.dat (Dat.lst b es), D.dat (I i)] [] [] = some ([D.own 3 ps], [], [])) (h21 : (!decide ((ps.length : Int) = 1)) = false) (h24 : den cfg kk 30 [D.dat (I n), D.dat (I 0), D.dat (I 99)] [] [] = some ([D.dat (B true)], [], [])) (h26 : (!decide (n = 0)) = false) (hn : ∀ s : St, s.norm ((envOf cfg kk 21 Go.Proofs.Tryz.f21).live (firstRegion (lp Go.Proofs.Tryz.f21 4))) = Nm [0, 14, 15, 16] [D.dat (Dat.lst b es), D.dat (Dat.lst b es), D.dat (I (es.length : Int)), D.dat (I (w64 (i + 1)))] [none, none, none, none] [] [] → Rounds (envOf cfg kk 21 Go.Proofs.Tryz.f21) kk (lp Go.Proofs.Tryz.f21 4) m s K) : Rounds (envOf cfg kk 21 Go.Proofs.Tryz.f21) kk (lp Go.Proofs.Tryz.f21 4) (m + 1) s K :=
  rounds_go [(200017, .yes), (19, .at (N3 2 n u)), (200027, .no), (32, .ret [.dat (B true)]), (300010, .loop (hd44a b es i 2 n u (decide (i = 0)) (w64 (i - 1))) (.exit 2) (out44a b es i 2 n u true)), (300015, .loop (hd44b b es i 2 n u true 0 i) (.exit 4) (out44b b es i 2 n u true deep)), (200078, .no), (81, .ret [.own 3 ps]), (200086, .no), (89, .ret [.dat (B true)]), (200101, .no)] hs (by kernel_rfl) (ob h1 (ob h2 (ob h3 (ob (rfl : false = false) (ob (rfl : false = false) (ob (rfl : false = false) (ob (rfl : false = false) (ob h8 (ob (rfl : false = false) (ob (rfl : _ = hd44a b es i 2 n u (decide (i = 0)) (w64 (i - 1))) (ob h11 (ob (rfl : _ = hd44b b es i 2 n u true 0 i) (ob h13 (ob h14 (ob (rfl : false = false) (ob (rfl : false = false) (ob h17 (ob (rfl : false = false) (ob (rfl : false = false) (ob (rfl : false = false) (ob h21 (ob (rfl : false = false) (ob (rfl : false = false) (ob h24 (ob (rfl : false = false) (ob h26 ob0)))))))))))))))))))))))))) (by kernel_rfl) hn
theorem good_num_2 (kk m : Nat) {s : St} {K : X → St → Prop} (b : Bool) (es : List Dat) (i : Int) (n u : Int) (deep : Int) (ps : List Dat) (hs : s.norm ((envOf cfg kk 21 Go.Proofs.Tryz.f21).live (firstRegion (lp Go.Proofs.Tryz.f21 4))) = hd44 b es i) (h1 : decide (i < (es.length : Int)) = true) (h2 : (0 ≤ i ∧ i < (es.length : Int)) ∧ es[i.toNat]? = some (N3 2 n u)) (h3 : (!decide (i = 0) == decide (u = -1)) = false) (h8 : den cfg kk 30 [D.dat (I u), D.dat (I (-1)), D.dat (I (w64 (i - 1)))] [] [] = some ([D.dat (B true)], [], [])) (h11 : LoopAt cfg kk 21 Go.Proofs.Tryz.f21 10 (hd44a b es i 2 n u (decide (i = 0)) (w64 (i - 1))) (X.exit 2) (out44a b es i 2 n u true)) (h13 : LoopAt cfg kk 21 Go.Proofs.Tryz.f21 15 (hd44b b es i 2 n u true 0 i) (X.exit 4) (out44b b es i 2 n u true deep)) (h14 : decide (40 < deep) = false) (h17 : den cfg kk 50 [D.dat (Dat.lst b es), D.dat (I i)] [] [] = some ([D.own 3 ps], [], [])) (h21 : (!decide ((ps.length : Int) = 1)) = false) (h24 : den cfg kk 30 [D.dat (I n), D.dat (I 0), D.dat (I 99)] [] [] = some ([D.dat (B true)], [], [])) (h26 : (!decide (n = 0)) = true) (hK : K (X.ret) (Nm [2] [D.dat (B false)] [none] [] [])) : Rounds (envOf cfg kk 21 Go.Proofs.Tryz.f21) kk (lp Go.Proofs.Tryz.f21 4) (m + 1) s K :=
  rounds_end [(200017, .yes), (19, .at (N3 2 n u)), (200027, .no), (32, .ret [.dat (B true)]), (300010, .loop (hd44a b es i 2 n u (decide (i = 0)) (w64 (i - 1))) (.exit 2) (out44a b es i 2 n u true)), (300015, .loop (hd44b b es i 2 n u true 0 i) (.exit 4) (out44b b es i 2 n u true deep)), (200078, .no), (81, .ret [.own 3 ps]), (200086, .no), (89, .ret [.dat (B true)]), (200101, .yes)] hs (by kernel_rfl) rfl (ob h1 (ob h2 (ob h3 (ob (rfl : false = false) (ob (rfl : false = false) (ob (rfl : false = false) (ob (rfl : false = false) (ob h8 (ob (rfl : false = false) (ob (rfl : _ = hd44a b es i 2 n u (decide (i = 0)) (w64 (i - 1))) (ob h11 (ob (rfl : _ = hd44b b es i 2 n u true 0 i) (ob h13 (ob h14 (ob (rfl : false = false) (ob (rfl : false = false) (ob h17 (ob (rfl : false = false) (ob (rfl : false = false) (ob (rfl : false = false) (ob h21 (ob (rfl : false = false) (ob (rfl : false = false) (ob h24 (ob (rfl : false = false) (ob h26 ob0)))))))))))))))))))))))))) (by kernel_rfl) hK
theorem good_ar_3 (kk m : Nat) {s : St} {K : X → St → Prop} (b : Bool) (es : List Dat) (i : Int) (n u : Int) (deep : Int) (hs : s.norm ((envOf cfg kk 21 Go.Proofs.Tryz.f21).live (firstRegion (lp Go.Proofs.Tryz.f21 4))) = hd44 b es i) (h1 : decide (i < (es.length : Int)) = true) (h2 : (0 ≤ i ∧ i < (es.length : Int)) ∧ es[i.toNat]? = some (N3 3 n u)) (h3 : (!decide (i = 0) == decide (u = -1)) = false) (h8 : den cfg kk 30 [D.dat (I u), D.dat (I (-1)), D.dat (I (w64 (i - 1)))] [] [] = some ([D.dat (B true)], [], [])) (h11 : LoopAt cfg kk 21 Go.Proofs.Tryz.f21 10 (hd44a b es i 3 n u (decide (i = 0)) (w64 (i - 1))) (X.exit 2) (out44a b es i 3 n u false)) (h13 : LoopAt cfg kk 21 Go.Proofs.Tryz.f21 15 (hd44b b es i 3 n u false 0 i) (X.exit 4) (out44b b es i 3 n u false deep)) (hK : K (X.ret) (Nm [2] [D.dat (B false)] [none] [] [])) : Rounds (envOf cfg kk 21 Go.Proofs.Tryz.f21) kk (lp Go.Proofs.Tryz.f21 4) (m + 1) s K :=
  rounds_end [(200017, .yes), (19, .at (N3 3 n u)), (200027, .no), (32, .ret [.dat (B true)]), (300010, .loop (hd44a b es i 3 n u (decide (i = 0)) (w64 (i - 1))) (.exit 2) (out44a b es i 3 n u false)), (300015, .loop (hd44b b es i 3 n u false 0 i) (.exit 4) (out44b b es i 3 n u false deep))] hs (by kernel_rfl) rfl (ob h1 (ob h2 (ob h3 (ob (rfl : false = false) (ob (rfl : false = false) (ob (rfl : false = false) (ob (rfl : false = false) (ob h8 (ob (rfl : false = false) (ob (rfl : _ = hd44a b es i 3 n u (decide (i = 0)) (w64 (i - 1))) (ob h11 (ob (rfl : _ = hd44b b es i 3 n u false 0 i) (ob h13 ob0))))))))))))) (by kernel_rfl) hK
theorem good_deep_3 (kk m : Nat) {s : St} {K : X → St → Prop} (b : Bool) (es : List Dat) (i : Int) (n u : Int) (deep : Int) (hs : s.norm ((envOf cfg kk 21 Go.Proofs.Tryz.f21).live (firstRegion (lp Go.Proofs.Tryz.f21 4))) = hd44 b es i) (h1 : decide (i < (es.length : Int)) = true) (h2 : (0 ≤ i ∧ i < (es.length : Int)) ∧ es[i.toNat]? = some (N3 3 n u)) (h3 : (!decide (i = 0) == decide (u = -1)) = false) (h8 : den cfg kk 30 [D.dat (I u), D.dat (I (-1)), D.dat (I (w64 (i - 1)))] [] [] = some ([D.dat (B true)], [], [])) (h11 : LoopAt cfg kk 21 Go.Proofs.Tryz.f21 10 (hd44a b es i 3 n u (decide (i = 0)) (w64 (i - 1))) (X.exit 2) (out44a b es i 3 n u true)) (h13 : LoopAt cfg kk 21 Go.Proofs.Tryz.f21 15 (hd44b b es i 3 n u true 0 i) (X.exit 4) (out44b b es i 3 n u true deep)) (h14 : decide (40 < deep) = true) (hK : K (X.ret) (Nm [2] [D.dat (B false)] [none] [] [])) : Rounds (envOf cfg kk 21 Go.Proofs.Tryz.f21) kk (lp Go.Proofs.Tryz.f21 4) (m + 1) s K :=
  rounds_end [(200017, .yes), (19, .at (N3 3 n u)), (200027, .no), (32, .ret [.dat (B true)]), (300010, .loop (hd44a b es i 3 n u (decide (i = 0)) (w64 (i - 1))) (.exit 2) (out44a b es i 3 n u true)), (300015, .loop (hd44b b es i 3 n u true 0 i) (.exit 4) (out44b b es i 3 n u true deep)), (200078, .yes)] hs (by kernel_rfl) rfl (ob h1 (ob h2 (ob h3 (ob (rfl : false = false) (ob (rfl : false = false) (ob (rfl : false = false) (ob (rfl : false = false) (ob h8 (ob (rfl : false = false) (ob (rfl : _ = hd44a b es i 3 n u (decide (i = 0)) (w64 (i - 1))) (ob h11 (ob (rfl : _ = hd44b b es i 3 n u true 0 i) (ob h13 (ob h14 (ob (rfl : true = true) (ob (rfl : true = true) (ob (rfl : true = true) (ob (rfl : true = true) (ob (rfl : true = true) ob0))))))))))))))))))) (by kernel_rfl) hK
theorem good_parts_3 (kk m : Nat) {s : St} {K : X → St → Prop} (b : Bool) (es : List Dat) (i : Int) (n u : Int) (deep : Int) (ps : List Dat) (hs : s.norm ((envOf cfg kk 21 Go.Proofs.Tryz.f21).live (firstRegion (lp Go.Proofs.Tryz.f21 4))) = hd44 b es i) (h1 : decide (i < (es.length : Int)) = true) (h2 : (0 ≤ i ∧ i < (es.length : Int)) ∧ es[i.toNat]? = some (N3 3 n u)) (h3 : (!decide (i = 0) == decide (u = -1)) = false) (h8 : den cfg kk 30 [D.dat (I u), D.dat (I (-1)), D.dat (I (w64 (i - 1)))] [] [] = some ([D.dat (B true)], [], [])) (h11 : LoopAt cfg kk 21 Go.Proofs.Tryz.f21 10 (hd44a b es i 3 n u (decide (i = 0)) (w64 (i - 1))) (X.exit 2) (out44a b es i 3 n u true)) (h13 : LoopAt cfg kk 21 Go.Proofs.Tryz.f21 15 (hd44b b es i 3 n u true 0 i) (X.exit 4) (out44b b es i 3 n u true deep)) (h14 : decide (40 < deep) = false) (h17 : den cfg kk 50 [D.dat (Dat.lst b es), D.dat (I i)] [] [] = some ([D.own 3 ps], [], [])) (h21 : (!decide ((ps.length : Int) = 2)) = true) (hK : K (X.ret) (Nm [2] [D.dat (B false)] [none] [] [])) : Rounds (envOf cfg kk 21 Go.Proofs.Tryz.f21) kk (lp Go.Proofs.Tryz.f21 4) (m + 1) s K :=
  rounds_end [(200017, .yes), (19, .at (N3 3 n u)), (200027, .no), (32, .ret [.dat (B true)]), (300010, .loop (hd44a b es i 3 n u (decide (i = 0)) (w64 (i - 1))) (.exit 2) (out44a b es i 3 n u true)), (300015, .loop (hd44b b es i 3 n u true 0 i) (.exit 4) (out44b b es i 3 n u true deep)), (200078, .no), (81, .ret [.own 3 ps]), (200086, .yes)] hs (by kernel_rfl) rfl (ob h1 (ob h2 (ob h3 (ob (rfl : false = false) (ob (rfl : false = false) (ob (rfl : false = false) (ob (rfl : false = false) (ob h8 (ob (rfl : false = false) (ob (rfl : _ = hd44a b es i 3 n u (decide (i = 0)) (w64 (i - 1))) (ob h11 (ob (rfl : _ = hd44b b es i 3 n u true 0 i) (ob h13 (ob h14 (ob (rfl : false = false) (ob (rfl : false = false) (ob h17 (ob (rfl : false = false) (ob (rfl : false = false) (ob (rfl : false = false) (ob h21 (ob (rfl : true = true) (ob (rfl : true = true) (ob (rfl : true = true) ob0)))))))))))))))))))))))) (by kernel_rfl) hK
theorem good_n_3 (kk m : Nat) {s : St} {K : X → St → Prop} (b : Bool) (es : List Dat) (i : Int) (n u : Int) (deep : Int) (ps : List Dat) (hs : s.norm ((envOf cfg kk 21 Go.Proofs.Tryz.f21).live (firstRegion (lp Go.Proofs.Tryz.f21 4))) = hd44 b es i) (h1 : decide (i < (es.length : Int)) = true) (h2 : (0 ≤ i ∧ i < (es.length : Int)) ∧ es[i.toNat]? = some (N3 3 n u)) (h3 : (!decide (i = 0) == decide (u = -1)) = false) (h8 : den cfg kk 30 [D.dat (I u), D.dat (I (-1)), D.dat (I (w64 (i - 1)))] [] [] = some ([D.dat (B true)], [], [])) (h11 : LoopAt cfg kk 21 Go.Proofs.Tryz.f21 10 (hd44a b es i 3 n u (decide (i = 0)) (w64 (i - 1))) (X.exit 2) (out44a b es i 3 n u true)) (h13 : LoopAt cfg kk 21 Go.Proofs.Tryz.f21 15 (hd44b b es i 3 n u true 0 i) (X.exit 4) (out44b b es i 3 n u true deep)) (h14 : decide (40 < deep) = false) (h17 : den cfg kk 50 [D.dat (Dat.lst b es), D.dat (I i)] [] [] = some ([D.own 3 ps], [], [])) (h21 : (!decide ((ps.length : Int) = 2)) = false) (h24 : den cfg kk 30 [D.dat (I n), D.dat (I 0), D.dat (I 99)] [] [] = some ([D.dat (B false)], [], [])) (hK : K (X.ret) (Nm [2] [D.dat (B false)] [none] [] [])) : Rounds (envOf cfg kk 21 Go.Proofs.Tryz.f21) kk (lp Go.Proofs.Tryz.f21 4) (m + 1) s K :=
  rounds_end [(200017, .yes), (19, .at (N3 3 n u)), (200027, .no), (32, .ret [.dat (B true)]), (300010, .loop (hd44a b es i 3 n u (decide (i = 0)) (w64 (i - 1))) (.exit 2) (out44a b es i 3 n u true)), (300015, .loop (hd44b b es i 3 n u true 0 i) (.exit 4) (out44b b es i 3 n u true deep)), (200078, .no), (81, .ret [.own 3 ps]), (200086, .no), (89, .ret [.dat (B false)])] hs (by kernel_rfl) rfl (ob h1 (ob h2 (ob h3 (ob (rfl : false = false) (ob (rfl : false = false) (ob (rfl : false = false) (ob (rfl : false = false) (ob h8 (ob (rfl : false = false) (ob (rfl : _ = hd44a b es i 3 n u (decide (i = 0)) (w64 (i - 1))) (ob h11 (ob (rfl : _ = hd44b b es i 3 n u true 0 i) (ob h13 (ob h14 (ob (rfl : false = false) (ob (rfl : false = false) (ob h17 (ob (rfl : false = false) (ob (rfl : false = false) (ob (rfl : false = false) (ob h21 (ob (rfl : false = false) (ob (rfl : false = false) (ob h24 (ob (rfl : false = false) ob0))))))))))))))))))))))))) (by kernel_rfl) hK
theorem good_go_3 (kk m : Nat) {s : St} {K : X → St → Prop} (b : Bool) (es : List Dat) (i : Int) (n u : Int) (deep : Int) (ps : List Dat) (hs : s.norm ((envOf cfg kk 21 Go.Proofs.Tryz.f21).live (firstRegion (lp Go.Proofs.Tryz.f21 4))) = hd44 b es i) (h1 : decide (i < (es.length : Int)) = true) (h2 : (0 ≤ i ∧ i < (es.length : Int)) ∧ es[i.toNat]? = some (N3 3 n u)) (h3 : (!decide (i = 0) == decide (u = -1)) = false) (h8 : den cfg kk 30 [D.dat (I u), D.dat (I (-1)), D.dat (I (w64 (i - 1)))] [] [] = some ([D.dat (B true)], [], [])) (h11 : LoopAt cfg kk 21 Go.Proofs.Tryz.f21 10 (hd44a b es i 3 n u (decide (i = 0)) (w64 (i - 1))) (X.exit 2) (out44a b es i 3 n u true)) (h13 : LoopAt cfg kk 21 Go.Proofs.Tryz.f21 15 (hd44b b es i 3 n u true 0 i) (X.exit 4) (out44b b es i 3 n u true deep)) (h14 : decide (40 < deep) = false) (h17 : den cfg kk 50 [D.dat (Dat.lst b es), D.dat (I i)] [] [] = some ([D.own 3 ps], [], [])) (h21 : (!decide ((ps.length : Int) = 2)) = false) (h24 : den cfg kk 30 [D.dat (I n), D.dat (I 0), D.dat (I 99)] [] [] = some ([D.dat (B true)], [], [])) (h26 : (!decide (n = 0)) = false) (hn : ∀ s : St, s.norm ((envOf cfg kk 21 Go.Proofs.Tryz.f21).live (firstRegion (lp Go.Proofs.Tryz.f21 4))) = Nm [0, 14, 15, 16] [D.dat (Dat.lst b es), D.dat (Dat.lst b es), D.dat (I (es.length : Int)), D.dat (I (w64 (i + 1)))] [none, none, none, none] [] [] → Rounds (envOf cfg kk 21 Go.Proofs.Tryz.f21) kk (lp Go.Proofs.Tryz.f21 4) m s K) : Rounds (envOf cfg kk 21 Go.Proofs.Tryz.f21) kk (lp Go.Proofs.Tryz.f21 4) (m + 1) s K :=
  rounds_go [(200017, .yes), (19, .at (N3 3 n u)), (200027, .no), (32, .ret [.dat (B true)]), (300010, .loop (hd44a b es i 3 n u (decide (i = 0)) (w64 (i - 1))) (.exit 2) (out44a b es i 3 n u true)), (300015, .loop (hd44b b es i 3 n u true 0 i) (.exit 4) (out44b b es i 3 n u true deep)), (200078, .no), (81, .ret [.own 3 ps]), (200086, .no), (89, .ret [.dat (B true)]), (200101, .no)] hs (by kernel_rfl) (ob h1 (ob h2 (ob h3 (ob (rfl : false = false) (ob (rfl : false = false) (ob (rfl : false = false) (ob (rfl : false = false) (ob h8 (ob (rfl : false = false) (ob (rfl : _ = hd44a b es i 3 n u (decide (i = 0)) (w64 (i - 1))) (ob h11 (ob (rfl : _ = hd44b b es i 3 n u true 0 i) (ob h13 (ob h14 (ob (rfl : false = false) (ob (rfl : false = false) (ob h17 (ob (rfl : false = false) (ob (rfl : false = false) (ob (rfl : false = false) (ob h21 (ob (rfl : false = false) (ob (rfl : false = false) (ob h24 (ob (rfl : false = false) (ob h26 ob0)))))))))))))))))))))))))) (by kernel_rfl) hn
theorem good_num_3 (kk m : Nat) {s : St} {K : X → St → Prop} (b : Bool) (es : List Dat) (i : Int) (n u : Int) (deep : Int) (ps : List Dat) (hs : s.norm ((envOf cfg kk 21 Go.Proofs.Tryz.f21).live (firstRegion (lp Go.Proofs.Tryz.f21 4))) = hd44 b es i) (h1 : decide (i < (es.length : Int)) = true) (h2 : (0 ≤ i ∧ i < (es.length : Int)) ∧ es[i.toNat]? = some (N3 3 n u)) (h3 : (!decide (i = 0) == decide (u = -1)) = false) (h8 : den cfg kk 30 [D.dat (I u), D.dat (I (-1)), D.dat (I (w64 (i - 1)))] [] [] = some ([D.dat (B true)], [], [])) (h11 : LoopAt cfg kk 21 Go.Proofs.Tryz.f21 10 (hd44a b es i 3 n u (decide (i = 0)) (w64 (i - 1))) (X.exit 2) (out44a b es i 3 n u true)) (h13 : LoopAt cfg kk 21 Go.Proofs.Tryz.f21 15 (hd44b b es i 3 n u true 0 i) (X.exit 4) (out44b b es i 3 n u true deep)) (h14 : decide (40 < deep) = false) (h17 : den cfg kk 50 [D.dat (Dat.lst b es), D.dat (I i)] [] [] = some ([D.own 3 ps], [], [])) (h21 : (!decide ((ps.length : Int) = 2)) = false) (h24 : den cfg kk 30 [D.dat (I n), D.dat (I 0), D.dat (I 99)] [] [] = some ([D.dat (B true)], [], [])) (h26 : (!decide (n = 0)) = true) (hK : K (X.ret) (Nm [2] [D.dat (B false)] [none] [] [])) : Rounds (envOf cfg kk 21 Go.Proofs.Tryz.f21) kk (lp Go.Proofs.Tryz.f21 4) (m + 1) s K :=
  rounds_end [(200017, .yes), (19, .at (N3 3 n u)), (200027, .no), (32, .ret [.dat (B true)]), (300010, .loop (hd44a b es i 3 n u (decide (i = 0)) (w64 (i - 1))) (.exit 2) (out44a b es i 3 n u true)), (300015, .loop (hd44b b es i 3 n u true 0 i) (.exit 4) (out44b b es i 3 n u true deep)), (200078, .no), (81, .ret [.own 3 ps]), (200086, .no), (89, .ret [.dat (B true)]), (200101, .yes)] hs (by kernel_rfl) rfl (ob h1 (ob h2 (ob h3 (ob (rfl : false = false) (ob (rfl : false = false) (ob (rfl : false = false) (ob (rfl : false = false) (ob h8 (ob (rfl : false = false) (ob (rfl : _ = hd44a b es i 3 n u (decide (i = 0)) (w64 (i - 1))) (ob h11 (ob (rfl : _ = hd44b b es i 3 n u true 0 i) (ob h13 (ob h14 (ob (rfl : false = false) (ob (rfl : false = false) (ob h17 (ob (rfl : false = false) (ob (rfl : false = false) (ob (rfl : false = false) (ob h21 (ob (rfl : false = false) (ob (rfl : false = false) (ob h24 (ob (rfl : false = false) (ob h26 ob0)))))))))))))))))))))))))) (by kernel_rfl) hK
theorem GoodTerm_few (kk : Nat) (b : Bool) (es : List Dat) (h1 : den cfg kk 30 [D.dat (I (es.length : Int)), D.dat (I 1), D.dat (I 150)] [] [] = some ([D.dat (B false)], [], [])) : runFn cfg kk (den cfg kk) 21 Go.Proofs.Tryz.f21 [.dat (Dat.lst b es)] [] [] = some ([D.dat (B false)], [], []) :=
  hrun_ok [(12, .ret [.dat (B false)])] (ob h1 ob0) (by kernel_rfl)
theorem GoodTerm_yes (kk : Nat) (b : Bool) (es : List Dat) (h1 : den cfg kk 30 [D.dat (I (es.length : Int)), D.dat (I 1), D.dat (I 150)] [] [] = some ([D.dat (B true)], [], [])) (h3 : LoopAt cfg kk 21 Go.Proofs.Tryz.f21 4 (hd44 b es 0) (X.exit 0) (Nm [2] [D.junk] [none] [] [])) : runFn cfg kk (den cfg kk) 21 Go.Proofs.Tryz.f21 [.dat (Dat.lst b es)] [] [] = some ([D.dat (B true)], [], []) :=
  hrun_ok [(12, .ret [.dat (B true)]), (300004, .loop (hd44 b es 0) (.exit 0) (Nm [2] [.junk] [none] [] []))] (ob h1 (ob (rfl : _ = hd44 b es 0) (ob h3 ob0))) (by kernel_rfl)
theorem GoodTerm_no (kk : Nat) (b : Bool) (es : List Dat) (h1 : den cfg kk 30 [D.dat (I (es.length : Int)), D.dat (I 1), D.dat (I 150)] [] [] = some ([D.dat (B true)], [], [])) (h3 : LoopAt cfg kk 21 Go.Proofs.Tryz.f21 4 (hd44 b es 0) X.ret (Nm [2] [D.dat (B false)] [none] [] [])) : runFn cfg kk (den cfg kk) 21 Go.Proofs.Tryz.f21 [.dat (Dat.lst b es)] [] [] = some ([D.dat (B false)], [], []) :=
  hrun_ok [(12, .ret [.dat (B true)]), (300004, .loop (hd44 b es 0) .ret (Nm [2] [.dat (B false)] [none] [] []))] (ob h1 (ob (rfl : _ = hd44 b es 0) (ob h3 ob0))) (by kernel_rfl)
end Go.Den
namespace Go.Den
open Go
set_option linter.unusedVariables false
set_option maxRecDepth 100000
theorem assoc_no {α : Type} {f : Nat} : ∀ {l : List (Nat × α)}, memN f (l.map (·.1)) = false → assoc l f = none
  | [], _ => rfl
  | (a, x) :: l, h => by
    simp only [List.map_cons, memN] at h
    unfold assoc
    split at h
    · cases h
    · rename_i hb
      have hab : Nat.beq a f = false := by
        cases hc : Nat.beq a f with
        | false => rfl
        | true =>
          have := Nat.eq_of_beq_eq_true hc
          subst this
          have hr : Nat.beq a a = true := Nat.beq_refl a
          rw [hr] at hb
          cases hb
      rw [hab]
      exact assoc_no h
theorem ext_nums : extsOf.map (·.1) = extNums := by rfl
theorem noExt {f : Nat} {fn : Func} (h : cfg.fn f = some fn) : cfg.ext f = none := by
  unfold cfg at h ⊢
  simp only at h ⊢
  split at h
  · rename_i hb
    simp only [Bool.and_eq_true, Bool.not_eq_true'] at hb
    exact assoc_no (by rw [ext_nums]; exact hb.2)
  · cases h
/-- A call that comes back, with fuel N or more. -/
def EvN (N f : Nat) (args : List D) (u : List (List D)) (l : List (Option Row)) (r : Res) : Prop := ∀ k, N ≤ k → den cfg k f args u l = some r
theorem EvN.mono {N M f : Nat} {args : List D} {u : List (List D)} {l : List (Option Row)} {r : Res} (h : EvN N f args u l r) (hNM : N ≤ M) : EvN M f args u l r := fun k hk => h k (by omega)
theorem ev_fn {f : Nat} (fn : Func) {args : List D} {u : List (List D)} {l : List (Option Row)} {r : Res} (N : Nat) (hf : cfg.fn f = some fn) (hl : Nat.ble args.length fn.ntmps = true) (h : ∀ kk, N ≤ kk → runFn cfg kk (den cfg kk) f fn args u l = some r) : EvN (N + 1) f args u l r := fun k hk => by
  obtain ⟨m, rfl⟩ : ∃ m, k = m + 1 := ⟨k - 1, by omega⟩
  simp only [den, noExt hf, hf, hl]
  exact h m (by omega)
theorem w64_eq {n : Int} (h : -9223372036854775808 ≤ n ∧ n ≤ 9223372036854775807) : w64 n = n := by show IntKind.i64.wrap n = n; rw [IntKind.wrap_i64]; omega
/-- Rounds that count up. -/
theorem range_rounds {E : Env} {kk : Nat} {c : Code} {K : X → St → Prop} (st : Nat → St) (n : Nat)
    (hgo : ∀ i, i < n → ∀ (m : Nat) (s : St), s.norm (E.live (firstRegion c)) = st i → (∀ s : St, s.norm (E.live (firstRegion c)) = st (i + 1) → Rounds E kk c m s K) → Rounds E kk c (m + 1) s K)
    (hend : ∀ (m : Nat) (s : St), s.norm (E.live (firstRegion c)) = st n → Rounds E kk c (m + 1) s K) : ∀ (d i m : Nat), i + d = n → d < m → ∀ s : St, s.norm (E.live (firstRegion c)) = st i → Rounds E kk c m s K
  | 0, i, m, hi, hm, s, hs => by
    obtain ⟨m, rfl⟩ : ∃ k, m = k + 1 := ⟨m - 1, by omega⟩
    have : i = n := by omega
    subst this
    exact hend m s hs
  | d + 1, i, m, hi, hm, s, hs => by
    obtain ⟨m, rfl⟩ : ∃ k, m = k + 1 := ⟨m - 1, by omega⟩
    exact hgo i (by omega) m s hs fun s' hs' => range_rounds st n hgo hend d (i + 1) m (by omega) (by omega) s' hs'
theorem loopAt_range {kk f : Nat} {fn : Func} {r : Nat} {x : X} {s' : St} (st : Nat → St) (n : Nat) (hk : n < kk)
    (hgo : ∀ i, i < n → ∀ (m : Nat) (s : St) (K : X → St → Prop), s.norm ((envOf cfg kk f fn).live (firstRegion (lp fn r))) = st i → (∀ s : St, s.norm ((envOf cfg kk f fn).live (firstRegion (lp fn r))) = st (i + 1) → Rounds (envOf cfg kk f fn) kk (lp fn r) m s K) → Rounds (envOf cfg kk f fn) kk (lp fn r) (m + 1) s K)
    (hend : ∀ (m : Nat) (s : St) (K : X → St → Prop), s.norm ((envOf cfg kk f fn).live (firstRegion (lp fn r))) = st n → K x s' → Rounds (envOf cfg kk f fn) kk (lp fn r) (m + 1) s K) {s0 : St} (h0 : s0 = st 0) : LoopAt cfg kk f fn r s0 x s' :=
  loopOb_of fun s hs => range_rounds st n (fun i hi m s hs hn => hgo i hi m s _ hs hn) (fun m s hs => hend m s _ hs ⟨rfl, rfl⟩) n 0 kk (by omega) hk s (by rw [hs, h0])
structure Nd where
  k : Int
  n : Int
  u : Int
def Nd.d (x : Nd) : Dat := N3 x.k x.n x.u
end Go.Den
namespace Go.Den
open Go
set_option linter.unusedVariables false
set_option maxRecDepth 100000
/-- Terms as nodes tell them (the number stands in each node). -/
inductive Pt where
  | var (n : Int)
  | lam (n : Int) (t : Pt)
  | app (n : Int) (a b : Pt)
def Pt.kd : Pt → Int
  | .var _ => 1
  | .lam _ _ => 2
  | .app _ _ _ => 3
def Pt.num : Pt → Int
  | .var n => n
  | .lam n _ => n
  | .app n _ _ => n
def Pt.kids : Pt → List Pt
  | .var _ => []
  | .lam _ t => [t]
  | .app _ a b => [a, b]
def Pt.d : Pt → Dat
  | .var n => T 1 n []
  | .lam n t => T 2 n [t.d]
  | .app n a b => T 3 n [a.d, b.d]
def Pt.size : Pt → Nat
  | .var _ => 1
  | .lam _ t => 1 + t.size
  | .app _ a b => 1 + a.size + b.size
def Pt.depth : Pt → Nat
  | .var _ => 1
  | .lam _ t => t.depth + 1
  | .app _ a b => max a.depth b.depth + 1
def Pt.nums : Pt → Bool
  | .var n => decide (0 ≤ n) && decide (n ≤ 99)
  | .lam n t => decide (n = 0) && t.nums
  | .app n a b => decide (n = 0) && (a.nums && b.nums)
def Pt.good (t : Pt) : Bool := decide (t.size ≤ 150) && (decide (t.depth ≤ 40) && t.nums)
theorem Pt.d_eq (t : Pt) : t.d = T t.kd t.num (t.kids.map Pt.d) := by cases t <;> rfl
theorem Pt.kids_lt {t x : Pt} (h : x ∈ t.kids) : x.size < t.size ∧ x.depth < t.depth := by
  cases t with
  | var n => cases h
  | lam n t =>
    simp only [Pt.kids, List.mem_singleton] at h
    subst h
    simp only [Pt.size, Pt.depth]
    omega
  | app n a b =>
    simp only [Pt.kids, List.mem_cons, List.not_mem_nil, or_false] at h
    simp only [Pt.size, Pt.depth]
    rcases h with rfl | rfl <;> omega
theorem Pt.kids_le (t : Pt) : t.kids.length ≤ 2 := by cases t <;> simp [Pt.kids]
theorem Pt.size_kids (t : Pt) : t.size = 1 + (t.kids.map Pt.size).sum := by cases t <;> simp [Pt.kids, Pt.size] <;> omega
theorem Pt.depth_pos (t : Pt) : 1 ≤ t.depth := by cases t <;> simp [Pt.depth]
theorem Pt.size_pos (t : Pt) : 1 ≤ t.size := by cases t <;> simp [Pt.size] <;> omega
theorem Pt.depth_le : ∀ t : Pt, t.depth ≤ t.size
  | .var _ => by simp [Pt.depth, Pt.size]
  | .lam _ t => by have := t.depth_le; simp only [Pt.depth, Pt.size]; omega
  | .app _ a b => by have := a.depth_le; have := b.depth_le; simp only [Pt.depth, Pt.size]; omega
theorem kid_at {ks : List Pt} {i : Nat} (h : i < ks.length) : ∃ x, ks[i]? = some x ∧ x ∈ ks ∧ (ks.map Pt.d)[i]? = some (T x.kd x.num (x.kids.map Pt.d)) := by
  have hx := List.getElem?_eq_getElem h
  exact ⟨ks[i], hx, List.getElem_mem h, by rw [List.getElem?_map, hx, ← Pt.d_eq]; rfl⟩
theorem sum_le {ks : List Pt} (i : Nat) : ((ks.take i).map Pt.size).sum ≤ (ks.map Pt.size).sum := by
  conv => rhs; rw [← List.take_append_drop i ks, List.map_append, List.sum_append]
  omega
theorem ev_size : ∀ (d : Nat) (t : Pt), t.depth ≤ d → t.size ≤ 1000000000000 → EvN (d + 5) 78 [.dat t.d] [] [] ([.dat (I t.size)], [], [])
  | 0, t, hd, hz => by have := t.depth_pos; omega
  | d + 1, t, hd, hz => by
    refine ev_fn Go.Proofs.Tryz.f78 (d + 5) (by kernel_rfl) (by kernel_rfl) fun kk hkk => ?_
    rw [Pt.d_eq]
    refine size kk _ _ _ _ ?_
    have hle := t.kids_le
    have hsz := t.size_kids
    let st := fun i : Nat => hd99 (t.kids.map Pt.d) ((1 + ((t.kids.take i).map Pt.size).sum : Nat) : Int) i
    refine loopAt_range st t.kids.length (by omega) (fun i hi m s K hs hn => ?_) (fun m s K hs hK => ?_) (by simp [st])
    · obtain ⟨x, h1, h2, h3⟩ := kid_at hi
      have hx := Pt.kids_lt h2
      have hev := ev_size d x (by omega) (by omega) kk (by omega)
      rw [Pt.d_eq] at hev
      have hto : ((i : Int)).toNat = i := by simp
      refine size_go kk m _ _ _ x.kd x.num x.size _ hs (decide_eq_true (by simp; omega)) ⟨⟨by omega, by simp; omega⟩, by rw [hto]; exact h3⟩ hev fun s' hs' => hn s' ?_
      have hb := sum_le (ks := t.kids) i
      have hb2 := sum_le (ks := t.kids) (i + 1)
      have hstep : ((t.kids.take (i + 1)).map Pt.size).sum = ((t.kids.take i).map Pt.size).sum + x.size := by
        rw [List.take_add_one, h1]
        simp
      rw [hs', w64_eq (n := (i : Int) + 1) (by omega), w64_eq (by omega)]
      simp only [st, hd99, hstep]
      congr 4
      · congr 1; omega
    · have hs' : s.norm _ = hd99 (t.kids.map Pt.d) ((1 + ((t.kids.take t.kids.length).map Pt.size).sum : Nat) : Int) t.kids.length := hs
      rw [List.take_length, ← hsz] at hs'
      exact size_end kk m _ _ _ hs' (decide_eq_false (by simp)) hK
def maxd : List Pt → Nat
  | [] => 0
  | t :: ts => max t.depth (maxd ts)
theorem maxd_append : ∀ a b : List Pt, maxd (a ++ b) = max (maxd a) (maxd b)
  | [], b => by simp [maxd]
  | t :: a, b => by simp only [List.cons_append, maxd, maxd_append a b]; omega
theorem Pt.depth_kids (t : Pt) : t.depth = maxd t.kids + 1 := by cases t <;> simp [Pt.kids, Pt.depth, maxd]
theorem ev_depth : ∀ (d : Nat) (t : Pt), t.depth ≤ d → t.size ≤ 1000000000000 → EvN (d + 5) 79 [.dat t.d] [] [] ([.dat (I t.depth)], [], [])
  | 0, t, hd, hz => by have := t.depth_pos; omega
  | d + 1, t, hd, hz => by
    refine ev_fn Go.Proofs.Tryz.f79 (d + 5) (by kernel_rfl) (by kernel_rfl) fun kk hkk => ?_
    have hdle := t.depth_le
    have hdk := t.depth_kids
    have hfin : w64 ((maxd t.kids : Nat) + 1) = t.depth := (w64_eq (by omega)).trans (by omega)
    rw [← hfin, Pt.d_eq]
    refine depth kk _ _ _ _ ?_
    have hle := t.kids_le
    let st := fun i : Nat => hd99 (t.kids.map Pt.d) (maxd (t.kids.take i) : Nat) i
    refine loopAt_range st t.kids.length (by omega) (fun i hi m s K hs hn => ?_) (fun m s K hs hK => ?_) (by simp [st, maxd])
    · obtain ⟨x, h1, h2, h3⟩ := kid_at hi
      have hx := Pt.kids_lt h2
      have hev := ev_depth d x (by omega) (by omega) kk (by omega)
      rw [Pt.d_eq] at hev
      have hto : ((i : Int)).toNat = i := by simp
      refine depth_go kk m _ _ _ x.kd x.num x.depth _ hs (decide_eq_true (by simp; omega)) ⟨⟨by omega, by simp; omega⟩, by rw [hto]; exact h3⟩ hev fun s' hs' => hn s' ?_
      have hstep : maxd (t.kids.take (i + 1)) = max (maxd (t.kids.take i)) x.depth := by
        rw [List.take_add_one, h1, maxd_append]
        simp [maxd]
      rw [hs', w64_eq (n := (i : Int) + 1) (by omega)]
      simp only [st, hd99, hstep]
      congr 4
      · congr 1
        split <;> omega
    · have hs' : s.norm _ = hd99 (t.kids.map Pt.d) (maxd (t.kids.take t.kids.length) : Nat) t.kids.length := hs
      rw [List.take_length] at hs'
      exact depth_end kk m _ _ _ hs' (decide_eq_false (by simp)) hK
theorem first_bad {α : Type} (p : α → Bool) : ∀ {ks : List α}, ks.all p = false → ∃ (j : Nat) (x : α), ks[j]? = some x ∧ p x = false ∧ ∀ i y, i < j → ks[i]? = some y → p y = true
  | [], h => by cases h
  | y :: ks, h => by
    cases hy : p y with
    | false => exact ⟨0, y, rfl, hy, fun i y hi => by omega⟩
    | true =>
      rw [List.all_cons, hy, Bool.true_and] at h
      obtain ⟨j, x, h1, h2, h3⟩ := first_bad p h
      refine ⟨j + 1, x, by simpa using h1, h2, fun i z hi hz => ?_⟩
      cases i with
      | zero => simp at hz; rw [← hz]; exact hy
      | succ i => exact h3 i z (by omega) (by simpa using hz)
def Pt.own : Pt → Bool
  | .var n => decide (0 ≤ n) && decide (n ≤ 99)
  | .lam n _ => decide (n = 0)
  | .app n _ _ => decide (n = 0)
theorem Pt.nums_kids (t : Pt) : t.nums = (t.own && t.kids.all Pt.nums) := by
  cases t <;> simp [Pt.nums, Pt.kids, Pt.own]
theorem ev_nums : ∀ (d : Nat) (t : Pt), t.depth ≤ d → EvN (4 * d + 5) 80 [.dat t.d] [] [] ([.dat (B t.nums)], [], [])
  | 0, t, hd => by have := t.depth_pos; omega
  | d + 1, t, hd => by
    have hle := t.kids_le
    have hkid : ∀ x ∈ t.kids, EvN (4 * d + 6) 101 [.dat x.d] [] [] ([.dat (B !x.nums)], [], []) := fun x hx => by
      refine ev_fn Go.Proofs.Tryz.f101 (4 * d + 5) (by kernel_rfl) (by kernel_rfl) fun kk hkk => ?_
      have := ev_nums d x (by have := Pt.kids_lt hx; omega) kk (by omega)
      rw [Pt.d_eq] at this ⊢
      exact areNumbers1 kk _ _ _ _ this
    have hidx : ∃ j : Int, EvN (4 * d + 7) 124 [.dat (.lst false (t.kids.map Pt.d)), .fn 101 []] [] [] ([.dat (I j)], [], []) ∧ decide (0 ≤ j) = !(t.kids.all Pt.nums) := by
      cases hall : t.kids.all Pt.nums with
      | true =>
        refine ⟨-1, ev_fn Go.Proofs.Tryz.f124 (4 * d + 6) (by kernel_rfl) (by kernel_rfl) fun kk hkk => ?_, rfl⟩
        refine index_n kk _ ?_
        refine loopAt_range (fun i => hd132 (t.kids.map Pt.d) i) t.kids.length (by omega) (fun i hi m s K hs hn => ?_) (fun m s K hs hK => ?_) rfl
        · obtain ⟨x, h1, h2, h3⟩ := kid_at hi
          have hto : ((i : Int)).toNat = i := by simp
          have hev := hkid x h2 kk (by omega)
          rw [Pt.d_eq, (List.all_eq_true.1 hall) x h2] at hev
          refine index_go kk m _ _ _ _ _ hs (decide_eq_true (by simp; omega)) ⟨⟨by omega, by simp; omega⟩, by rw [hto]; exact h3⟩ hev fun s' hs' => hn s' ?_
          rw [hs', w64_eq (n := (i : Int) + 1) (by omega)]
          rfl
        · exact index_end kk m _ _ hs (decide_eq_false (by simp)) hK
      | false =>
        obtain ⟨j, x, h1, h2, h3⟩ := first_bad Pt.nums hall
        have hj := (List.getElem?_eq_some_iff.1 h1).1
        refine ⟨j, ev_fn Go.Proofs.Tryz.f124 (4 * d + 6) (by kernel_rfl) (by kernel_rfl) fun kk hkk => ?_, by simp⟩
        refine index_y kk _ _ ?_
        refine loopAt_range (fun i => hd132 (t.kids.map Pt.d) i) j (by omega) (fun i hi m s K hs hn => ?_) (fun m s K hs hK => ?_) rfl
        · obtain ⟨y, h4, h5, h6⟩ := kid_at (ks := t.kids) (i := i) (by omega)
          have hto : ((i : Int)).toNat = i := by simp
          have hev := hkid y h5 kk (by omega)
          rw [Pt.d_eq, h3 i y hi h4] at hev
          refine index_go kk m _ _ _ _ _ hs (decide_eq_true (by simp; omega)) ⟨⟨by omega, by simp; omega⟩, by rw [hto]; exact h6⟩ hev fun s' hs' => hn s' ?_
          rw [hs', w64_eq (n := (i : Int) + 1) (by omega)]
          rfl
        · obtain ⟨y, h4, h5, h6⟩ := kid_at (ks := t.kids) (i := j) (by omega)
          rw [h1] at h4
          cases h4
          have hto : ((j : Int)).toNat = j := by simp
          have hev := hkid x h5 kk (by omega)
          rw [Pt.d_eq, h2] at hev
          exact index_hit kk m _ _ _ _ _ hs (decide_eq_true (by simp; omega)) ⟨⟨by omega, by simp; omega⟩, by rw [hto]; exact h6⟩ hev hK
    obtain ⟨j, hj, hjb⟩ := hidx
    have hcon : EvN (4 * d + 8) 100 [.dat (.lst false (t.kids.map Pt.d)), .fn 101 []] [] [] ([.dat (B (!(t.kids.all Pt.nums)))], [], []) := by
      refine ev_fn Go.Proofs.Tryz.f100 (4 * d + 7) (by kernel_rfl) (by kernel_rfl) fun kk hkk => ?_
      rw [← hjb]
      exact contains kk _ j (hj kk (by omega))
    refine ev_fn Go.Proofs.Tryz.f80 (4 * d + 8) (by kernel_rfl) (by kernel_rfl) fun kk hkk => ?_
    have hc := hcon kk (by omega)
    rw [Pt.nums_kids, Pt.d_eq]
    by_cases h1 : t.num < 0
    · rw [areNumbers_neg kk _ _ _ (decide_eq_true h1)]
      have : t.own = false := by
        cases t <;> simp only [Pt.num] at h1 <;> simp [Pt.own] <;> omega
      rw [this, Bool.false_and]
    · by_cases h2 : 99 < t.num
      · rw [areNumbers_big kk _ _ _ (decide_eq_false h1) (decide_eq_true h2)]
        have : t.own = false := by
          cases t <;> simp only [Pt.num] at h2 <;> simp [Pt.own] <;> omega
        rw [this, Bool.false_and]
      · cases t with
        | var n =>
          have h3 : decide (0 ≤ n) = true := decide_eq_true (by simp only [Pt.num] at h1; omega)
          have h4 : decide (n ≤ 99) = true := decide_eq_true (by simp only [Pt.num] at h2; omega)
          rw [areNumbers_ok1 kk _ _ _ _ (decide_eq_false h1) (decide_eq_false h2) rfl hc]
          simp [Pt.own, h3, h4]
        | lam n x =>
          by_cases h5 : n = 0
          · rw [areNumbers_ok0 kk _ _ _ _ (decide_eq_false h1) (decide_eq_false h2) rfl (by simp [Pt.num, h5]) hc]
            simp [Pt.own, h5]
          · rw [areNumbers_lam kk _ _ _ (decide_eq_false h1) (decide_eq_false h2) rfl (by simp [Pt.num, h5])]
            simp [Pt.own, h5]
        | app n x y =>
          by_cases h5 : n = 0
          · rw [areNumbers_ok0 kk _ _ _ _ (decide_eq_false h1) (decide_eq_false h2) rfl (by simp [Pt.num, h5]) hc]
            simp [Pt.own, h5]
          · rw [areNumbers_lam kk _ _ _ (decide_eq_false h1) (decide_eq_false h2) rfl (by simp [Pt.num, h5])]
            simp [Pt.own, h5]
/-- 'isGood'. -/
theorem ev_good (t : Pt) (hz : t.size ≤ 1000000000000) (d : Nat) (hd : t.depth ≤ d) : EvN (4 * d + 7) 48 [.dat t.d] [] [] ([.dat (B t.good)], [], []) := by
  refine ev_fn Go.Proofs.Tryz.f48 (4 * d + 6) (by kernel_rfl) (by kernel_rfl) fun kk hkk => ?_
  have h1 := ev_size d t hd hz kk (by omega)
  have h2 := ev_depth d t hd hz kk (by omega)
  have h3 := ev_nums d t hd kk (by omega)
  rw [Pt.d_eq] at h1 h2 h3 ⊢
  unfold Pt.good
  by_cases a1 : t.size ≤ 150
  · by_cases a2 : t.depth ≤ 40
    · rw [isGood_go kk _ _ _ _ _ _ h1 (decide_eq_true (by omega)) h2 (decide_eq_true (by omega)) h3]
      simp [a1, a2]
    · rw [isGood_deep kk _ _ _ _ _ h1 (decide_eq_true (by omega)) h2 (decide_eq_false (by omega))]
      simp [a1, a2]
  · rw [isGood_big kk _ _ _ _ h1 (decide_eq_false (by omega))]
    simp [a1]
end Go.Den
namespace Go.Den
open Go
set_option linter.unusedVariables false
set_option maxRecDepth 100000
/-- The term whose node stands at a place, and what stands behind it. -/
def parse (L : List Nd) : Nat → Nat → Int → Option (Pt × Nat)
  | 0, _, _ => none
  | f + 1, at_, up => (L[at_]?).bind fun x =>
    if x.u = up then
      if x.k = 1 then some (.var x.n, at_ + 1)
      else if x.k = 2 then (parse L f (at_ + 1) at_).map fun r => (.lam x.n r.1, r.2)
      else if x.k = 3 then (parse L f (at_ + 1) at_).bind fun r => (parse L f r.2 at_).map fun q => (.app x.n r.1 q.1, q.2)
      else none
    else none
/-- The nodes of a term, that stand from a place on. -/
def Pt.flat : Pt → Nat → Int → List Nd
  | .var n, _, up => [⟨1, n, up⟩]
  | .lam n t, at_, up => ⟨2, n, up⟩ :: t.flat (at_ + 1) at_
  | .app n a b, at_, up => ⟨3, n, up⟩ :: (a.flat (at_ + 1) at_ ++ b.flat (at_ + 1 + a.size) at_)
theorem Pt.flat_length : ∀ (t : Pt) (at_ : Nat) (up : Int), (t.flat at_ up).length = t.size
  | .var n, _, up => rfl
  | .lam n t, at_, up => by simp only [Pt.flat, Pt.size, List.length_cons, t.flat_length]; omega
  | .app n a b, at_, up => by simp only [Pt.flat, Pt.size, List.length_cons, List.length_append, a.flat_length, b.flat_length]; omega
theorem drop_cons {α : Type} {L : List α} {i : Nat} {x : α} (h : L[i]? = some x) : L.drop i = x :: L.drop (i + 1) := by
  obtain ⟨hl, rfl⟩ := List.getElem?_eq_some_iff.1 h
  exact List.drop_eq_getElem_cons hl
/-- What is read is what stands there. -/
theorem parse_sound (L : List Nd) : ∀ (f at_ : Nat) (up : Int) (t : Pt) (nx : Nat), parse L f at_ up = some (t, nx) → L.drop at_ = t.flat at_ up ++ L.drop nx ∧ nx = at_ + t.size ∧ nx ≤ L.length
  | 0, at_, up, t, nx, h => by cases h
  | f + 1, at_, up, t, nx, h => by
    simp only [parse, Option.bind_eq_some_iff] at h
    obtain ⟨⟨k, n, u⟩, hx, h⟩ := h
    have hlt := (List.getElem?_eq_some_iff.1 hx).1
    simp only at h
    split at h
    · rename_i hu
      subst hu
      have hd := drop_cons hx
      split at h
      · rename_i hk
        cases h
        subst hk
        exact ⟨by rw [hd]; rfl, rfl, by omega⟩
      · split at h
        · rename_i hk
          simp only [Option.map_eq_some_iff, Prod.mk.injEq] at h
          obtain ⟨⟨t', nx'⟩, hp, rfl, rfl⟩ := h
          obtain ⟨h1, h2, h3⟩ := parse_sound L f _ _ _ _ hp
          subst hk
          exact ⟨by rw [hd, h1]; rfl, by simp only [Pt.size]; omega, h3⟩
        · split at h
          · rename_i hk
            simp only [Option.bind_eq_some_iff, Option.map_eq_some_iff, Prod.mk.injEq] at h
            obtain ⟨⟨a, n1⟩, hp, ⟨b, n2⟩, hq, rfl, rfl⟩ := h
            obtain ⟨h1, h2, h3⟩ := parse_sound L f _ _ _ _ hp
            obtain ⟨h4, h5, h6⟩ := parse_sound L f _ _ _ _ hq
            subst hk
            simp only at h2 h4
            refine ⟨?_, by simp only [Pt.size]; omega, h6⟩
            rw [hd, h1, h4, h2]
            simp [Pt.flat]
          · cases h
    · cases h
theorem get_drop {α : Type} {L : List α} {i : Nat} {x : α} {l : List α} (h : L.drop i = x :: l) : L[i]? = some x ∧ L.drop (i + 1) = l := by
  have h1 : (L.drop i)[0]? = some x := by rw [h]; rfl
  rw [List.getElem?_drop] at h1
  have h1 : L[i]? = some x := h1
  refine ⟨h1, ?_⟩
  have := drop_cons h1
  rw [h] at this
  injection this with _ this
  exact this.symm
theorem drop_add {α : Type} {L a b : List α} {i n : Nat} (h : L.drop i = a ++ b) (hn : a.length = n) : L.drop (i + n) = b := by
  rw [← List.drop_drop, h, ← hn, List.drop_left]
/-- What stands there is read. -/
theorem parse_flat (L : List Nd) : ∀ (t : Pt) (f at_ : Nat) (up : Int) (rest : List Nd), L.drop at_ = t.flat at_ up ++ rest → t.size ≤ f → parse L f at_ up = some (t, at_ + t.size)
  | t, 0, at_, up, rest, h, hf => by have := t.size_pos; omega
  | .var n, f + 1, at_, up, rest, h, hf => by
    obtain ⟨h1, h2⟩ := get_drop h
    simp only [parse, h1, Option.bind_some, if_true]
    rfl
  | .lam n t, f + 1, at_, up, rest, h, hf => by
    obtain ⟨h1, h2⟩ := get_drop h
    have := parse_flat L t f (at_ + 1) at_ rest h2 (by simp only [Pt.size] at hf; omega)
    simp only [parse, h1, Option.bind_some, if_true, this, Option.map_some]
    simp only [Pt.size]
    rw [if_neg (by decide), Nat.add_assoc]
  | .app n a b, f + 1, at_, up, rest, h, hf => by
    have h' : L.drop at_ = ⟨3, n, up⟩ :: (a.flat (at_ + 1) at_ ++ (b.flat (at_ + 1 + a.size) at_ ++ rest)) := by rw [h]; simp [Pt.flat]
    obtain ⟨h1, h2⟩ := get_drop h'
    have e1 := parse_flat L a f (at_ + 1) at_ _ h2 (by simp only [Pt.size] at hf; omega)
    have h3 := drop_add h2 (a.flat_length _ _)
    have e2 := parse_flat L b f (at_ + 1 + a.size) at_ rest h3 (by simp only [Pt.size] at hf; omega)
    simp only [parse, h1, Option.bind_some, if_true, e1, e2, Option.map_some]
    simp only [Pt.size]
    rw [if_neg (by decide), if_neg (by decide)]
    congr 2
    omega
/-- The term that nodes tell, if it is good. -/
def termOfP (L : List Nd) : Option Pt :=
  if 1 ≤ L.length ∧ L.length ≤ 150 then (parse L (L.length + 1) 0 (-1)).bind fun r => if r.2 = L.length ∧ r.1.good = true then some r.1 else none else none
theorem termOfP_iff (L : List Nd) (t : Pt) : termOfP L = some t ↔ t.good = true ∧ L = t.flat 0 (-1) := by
  unfold termOfP
  constructor
  · intro h
    split at h
    · simp only [Option.bind_eq_some_iff] at h
      obtain ⟨⟨t', nx⟩, hp, h⟩ := h
      simp only at h
      split at h
      · rename_i hc
        cases h
        obtain ⟨h1, h2, h3⟩ := parse_sound L _ _ _ _ _ hp
        refine ⟨hc.2, ?_⟩
        rw [hc.1, List.drop_length, List.append_nil] at h1
        exact h1
      · cases h
    · cases h
  · rintro ⟨hg, hL⟩
    have hlen : L.length = t.size := by rw [hL, t.flat_length]
    have hsz : t.size ≤ 150 := by
      unfold Pt.good at hg
      simp only [Bool.and_eq_true, decide_eq_true_eq] at hg
      exact hg.1
    have hpos := t.size_pos
    have := parse_flat L t (L.length + 1) 0 (-1) [] (by rw [List.drop_zero, List.append_nil]; exact hL) (by omega)
    rw [if_pos (by omega), this]
    simp only [Option.bind_some]
    rw [if_pos ⟨by omega, hg⟩]
theorem nd_at {L : List Nd} {i : Nat} {x : Nd} (h : L[i]? = some x) : (0 ≤ (i : Int) ∧ (i : Int) < ((L.map Nd.d).length : Int)) ∧ (L.map Nd.d)[(i : Int).toNat]? = some (N3 x.k x.n x.u) := by
  have hlt := (List.getElem?_eq_some_iff.1 h).1
  refine ⟨⟨by omega, by simp; omega⟩, ?_⟩
  rw [show (i : Int).toNat = i by simp, List.getElem?_map, h]
  rfl
/-- 'termAt'. -/
theorem ev_termAt (L : List Nd) (b : Bool) (hL : L.length ≤ 1000) : ∀ (f at_ : Nat) (up : Int), at_ ≤ L.length → L.length < at_ + f →
    (∀ t nx, parse L f at_ up = some (t, nx) → EvN (f + 10) 47 [.dat (.lst b (L.map Nd.d)), .dat (I at_), .dat (I up)] [] [] ([.dat t.d, .dat (I nx), .dat (B true)], [], [])) ∧
    (parse L f at_ up = none → ∃ (k n v : Int) (ds : List Dat), EvN (f + 10) 47 [.dat (.lst b (L.map Nd.d)), .dat (I at_), .dat (I up)] [] [] ([.dat (T k n ds), .dat (I v), .dat (B false)], [], []))
  | 0, at_, up, h1, h2 => by omega
  | f + 1, at_, up, h1, h2 => by
    have hlen : ((L.map Nd.d).length : Int) = L.length := by simp
    by_cases hend : at_ = L.length
    · refine ⟨fun t nx h => ?_, fun _ => ⟨0, 0, 0, [], ?_⟩⟩
      · simp only [parse, Option.bind_eq_some_iff] at h
        obtain ⟨x, hx, _⟩ := h
        have := (List.getElem?_eq_some_iff.1 hx).1
        omega
      · exact ev_fn Go.Proofs.Tryz.f47 (f + 10) (by kernel_rfl) (by kernel_rfl) fun kk _ => termAt_end kk b _ at_ up (decide_eq_true (by rw [hlen, hend]))
    · obtain ⟨x, hx⟩ : ∃ x, L[at_]? = some x := ⟨_, List.getElem?_eq_getElem (by omega)⟩
      have hx3 := nd_at hx
      have hne : decide ((at_ : Int) = ((L.map Nd.d).length : Int)) = false := decide_eq_false (by omega)
      have hpar : parse L (f + 1) at_ up = (if x.u = up then
          if x.k = 1 then some (.var x.n, at_ + 1)
          else if x.k = 2 then (parse L f (at_ + 1) at_).map fun r => (.lam x.n r.1, r.2)
          else if x.k = 3 then (parse L f (at_ + 1) at_).bind fun r => (parse L f r.2 at_).map fun q => (.app x.n r.1 q.1, q.2)
          else none
        else none) := by simp only [parse, hx, Option.bind_some]
      rw [hpar]
      have hw1 : w64 ((at_ : Int) + 1) = ((at_ + 1 : Nat) : Int) := (w64_eq (by omega)).trans (by omega)
      by_cases hu : x.u = up
      · rw [if_pos hu]
        have hub : (!decide (x.u = up)) = false := by simp [hu]
        by_cases hk1 : x.k < 1
        · rw [if_neg (by omega), if_neg (by omega), if_neg (by omega)]
          refine ⟨fun t nx h => (by cases h), fun _ => ⟨0, 0, 0, [], ?_⟩⟩
          exact ev_fn Go.Proofs.Tryz.f47 (f + 10) (by kernel_rfl) (by kernel_rfl) fun kk _ => termAt_lo kk b _ at_ up x.k x.n x.u hne hx3 hub hx3 (decide_eq_true hk1)
        · by_cases hk3 : 3 < x.k
          · rw [if_neg (by omega), if_neg (by omega), if_neg (by omega)]
            refine ⟨fun t nx h => (by cases h), fun _ => ⟨0, 0, 0, [], ?_⟩⟩
            exact ev_fn Go.Proofs.Tryz.f47 (f + 10) (by kernel_rfl) (by kernel_rfl) fun kk _ => termAt_hi kk b _ at_ up x.k x.n x.u hne hx3 hub hx3 (decide_eq_false hk1) hx3 (decide_eq_true hk3)
          · have hlo := decide_eq_false hk1
            have hhi := decide_eq_false hk3
            have hyes := fun kk nx out => termAt_y kk b (L.map Nd.d) at_ up x.k x.n x.u nx out hne hx3 hub hx3 hlo hx3 hhi hx3 hx3
            have hno := fun kk nx out => termAt_n kk b (L.map Nd.d) at_ up x.k x.n x.u nx out hne hx3 hub hx3 hlo hx3 hhi hx3 hx3
            rw [hw1] at hyes hno
            obtain ⟨hy1, hn1⟩ := ev_termAt L b hL f (at_ + 1) at_ (by omega) (by omega)
            rcases (show x.k = 1 ∨ x.k = 2 ∨ x.k = 3 by omega) with hk | hk | hk
            · -- a variable
              rw [if_pos hk]
              refine ⟨fun t nx h => ?_, fun h => by cases h⟩
              cases h
              refine ev_fn Go.Proofs.Tryz.f47 (f + 10) (by kernel_rfl) (by kernel_rfl) fun kk hkk => ?_
              have := hyes kk ((at_ + 1 : Nat) : Int) [] (loopOb_of fun s hs => by
                obtain ⟨m, rfl⟩ : ∃ m, kk = m + 1 := ⟨kk - 1, by omega⟩
                exact termAt_done _ m b _ at_ up x.k x.n [] _ _ _ hs (decide_eq_false (by rw [hk]; decide)) ⟨rfl, rfl⟩)
              rw [this, hk]
              rfl
            · -- a lambda
              rw [if_neg (by omega), if_pos hk]
              have hm : w64 (x.k - 1) = 1 := by rw [hk]; rfl
              rw [hm] at hyes hno
              cases hp : parse L f (at_ + 1) at_ with
              | none =>
                refine ⟨fun t nx h => (by cases h), fun _ => ⟨0, 0, 0, [], ?_⟩⟩
                obtain ⟨k', n', v', ds', hev⟩ := hn1 hp
                refine ev_fn Go.Proofs.Tryz.f47 (f + 10) (by kernel_rfl) (by kernel_rfl) fun kk hkk => ?_
                refine hno kk ((at_ + 1 : Nat) : Int) [] (loopOb_of fun s hs => ?_)
                obtain ⟨m, hm'⟩ : ∃ m, kk = m + 1 := ⟨kk - 1, by omega⟩
                conv => arg 4; rw [hm']
                exact termAt_bad kk m b _ at_ up x.k x.n [] _ _ _ k' n' v' ds' hs rfl (hev kk (by omega)) ⟨rfl, rfl⟩
              | some r =>
                obtain ⟨a, n1⟩ := r
                refine ⟨fun t nx h => ?_, fun h => by cases h⟩
                cases h
                have hev := hy1 a n1 hp
                refine ev_fn Go.Proofs.Tryz.f47 (f + 10) (by kernel_rfl) (by kernel_rfl) fun kk hkk => ?_
                have := hyes kk n1 [a.d] (loopOb_of fun s hs => by
                  obtain ⟨m, hm'⟩ : ∃ m, kk = m + 2 := ⟨kk - 2, by omega⟩
                  have he := hev kk (by omega)
                  rw [Pt.d_eq] at he
                  conv => arg 4; rw [hm']
                  refine termAt_go kk (m + 1) b _ at_ up x.k x.n [] _ _ _ a.kd a.num n1 _ hs rfl he (by simp) fun s' hs' => ?_
                  refine termAt_done kk m b _ at_ up x.k x.n [a.d] _ 1 1 (by rw [hs', Pt.d_eq a]; rfl) rfl ⟨rfl, rfl⟩)
                rw [this, hk]
                rfl
            · -- an application
              rw [if_neg (by omega), if_neg (by omega), if_pos hk]
              have hm : w64 (x.k - 1) = 2 := by rw [hk]; rfl
              rw [hm] at hyes hno
              cases hp : parse L f (at_ + 1) at_ with
              | none =>
                refine ⟨fun t nx h => (by cases h), fun _ => ⟨0, 0, 0, [], ?_⟩⟩
                obtain ⟨k', n', v', ds', hev⟩ := hn1 hp
                refine ev_fn Go.Proofs.Tryz.f47 (f + 10) (by kernel_rfl) (by kernel_rfl) fun kk hkk => ?_
                refine hno kk ((at_ + 1 : Nat) : Int) [] (loopOb_of fun s hs => ?_)
                obtain ⟨m, hm'⟩ : ∃ m, kk = m + 1 := ⟨kk - 1, by omega⟩
                conv => arg 4; rw [hm']
                exact termAt_bad kk m b _ at_ up x.k x.n [] _ _ _ k' n' v' ds' hs rfl (hev kk (by omega)) ⟨rfl, rfl⟩
              | some r =>
                obtain ⟨a, n1⟩ := r
                obtain ⟨_, hn1e, hn1l⟩ := parse_sound L _ _ _ _ _ hp
                have hpos := a.size_pos
                obtain ⟨hy2, hn2⟩ := ev_termAt L b hL f n1 at_ hn1l (by omega)
                have hev := hy1 a n1 hp
                simp only [Option.bind_some]
                cases hq : parse L f n1 at_ with
                | none =>
                  refine ⟨fun t nx h => (by cases h), fun _ => ⟨0, 0, 0, [], ?_⟩⟩
                  obtain ⟨k', n', v', ds', hev2⟩ := hn2 hq
                  refine ev_fn Go.Proofs.Tryz.f47 (f + 10) (by kernel_rfl) (by kernel_rfl) fun kk hkk => ?_
                  refine hno kk n1 [a.d] (loopOb_of fun s hs => ?_)
                  obtain ⟨m, hm'⟩ : ∃ m, kk = m + 2 := ⟨kk - 2, by omega⟩
                  have he := hev kk (by omega)
                  rw [Pt.d_eq] at he
                  conv => arg 4; rw [hm']
                  refine termAt_go kk (m + 1) b _ at_ up x.k x.n [] _ _ _ a.kd a.num n1 _ hs rfl he (by simp) fun s' hs' => ?_
                  exact termAt_bad kk m b _ at_ up x.k x.n [a.d] n1 2 1 k' n' v' ds' (by rw [hs', Pt.d_eq a]; rfl) rfl (hev2 kk (by omega)) ⟨rfl, rfl⟩
                | some q =>
                  obtain ⟨c, n2⟩ := q
                  refine ⟨fun t nx h => ?_, fun h => by cases h⟩
                  cases h
                  have hev2 := hy2 c n2 hq
                  refine ev_fn Go.Proofs.Tryz.f47 (f + 10) (by kernel_rfl) (by kernel_rfl) fun kk hkk => ?_
                  have := hyes kk n2 [a.d, c.d] (loopOb_of fun s hs => by
                    obtain ⟨m, hm'⟩ : ∃ m, kk = m + 3 := ⟨kk - 3, by omega⟩
                    have he := hev kk (by omega)
                    have he2 := hev2 kk (by omega)
                    rw [Pt.d_eq] at he he2
                    conv => arg 4; rw [hm']
                    refine termAt_go kk (m + 2) b _ at_ up x.k x.n [] _ _ _ a.kd a.num n1 _ hs rfl he (by simp) fun s' hs' => ?_
                    refine termAt_go kk (m + 1) b _ at_ up x.k x.n [a.d] n1 2 1 c.kd c.num n2 _ (by rw [hs', Pt.d_eq a]; rfl) rfl he2 (by simp) fun s2 hs2 => ?_
                    exact termAt_done kk m b _ at_ up x.k x.n [a.d, c.d] n2 2 2 (by rw [hs2, Pt.d_eq c]; rfl) rfl ⟨rfl, rfl⟩)
                  rw [this, hk]
                  rfl
      · rw [if_neg hu]
        refine ⟨fun t nx h => (by cases h), fun _ => ⟨0, 0, 0, [], ?_⟩⟩
        exact ev_fn Go.Proofs.Tryz.f47 (f + 10) (by kernel_rfl) (by kernel_rfl) fun kk _ => termAt_up kk b _ at_ up x.k x.n x.u hne hx3 (by simp [hu])
end Go.Den
namespace Go.Den
open Go
set_option linter.unusedVariables false
set_option maxRecDepth 100000
/-- Free variables from g on, moved. -/
def sh (b : Int) : Int → Pt → Pt
  | g, .var n => if g ≤ n then .var (n + b) else .var n
  | g, .lam _ t => .lam 0 (sh b (g + 1) t)
  | g, .app _ x y => .app 0 (sh b g x) (sh b g y)
/-- A term put in for a variable, under so many lambdas. -/
def sub (k : Int) (s : Pt) : Int → Pt → Pt
  | u, .var n => if n = k + u then sh u 0 s else if k + u < n then .var (n - 1) else .var n
  | u, .lam _ t => .lam 0 (sub k s (u + 1) t)
  | u, .app _ x y => .app 0 (sub k s u x) (sub k s u y)
/-- All indices are small. -/
def Pt.within (M : Int) : Pt → Prop
  | .var n => -M ≤ n ∧ n ≤ M
  | .lam _ t => t.within M
  | .app _ a b => a.within M ∧ b.within M
theorem nums_within : ∀ t : Pt, t.nums = true → t.within 99
  | .var n, h => by
    simp only [Pt.nums, Bool.and_eq_true, decide_eq_true_eq] at h
    exact ⟨by omega, h.2⟩
  | .lam n t, h => by
    simp only [Pt.nums, Bool.and_eq_true] at h
    exact nums_within t h.2
  | .app n a b, h => by
    simp only [Pt.nums, Bool.and_eq_true] at h
    exact ⟨nums_within a h.2.1, nums_within b h.2.2⟩
theorem ev_variable (n : Int) : EvN 1 56 [.dat (I n)] [] [] ([.dat (T 1 n [])], [], []) := ev_fn Go.Proofs.Tryz.f56 0 (by kernel_rfl) (by kernel_rfl) fun kk _ => variable_ kk n
theorem ev_lam (t : Pt) : EvN 1 52 [.dat t.d] [] [] ([.dat (Pt.lam 0 t).d], [], []) := by
  refine ev_fn Go.Proofs.Tryz.f52 0 (by kernel_rfl) (by kernel_rfl) fun kk _ => ?_
  have := lam kk t.kd t.num (t.kids.map Pt.d)
  rw [← Pt.d_eq] at this
  exact this
theorem ev_app (a b : Pt) : EvN 1 54 [.dat a.d, .dat b.d] [] [] ([.dat (Pt.app 0 a b).d], [], []) := by
  refine ev_fn Go.Proofs.Tryz.f54 0 (by kernel_rfl) (by kernel_rfl) fun kk _ => ?_
  rw [show (Pt.app 0 a b).d = T 3 0 [a.d, b.d] from rfl, Pt.d_eq a, Pt.d_eq b]
  exact app kk a.kd a.num b.kd b.num (a.kids.map Pt.d) (b.kids.map Pt.d)
theorem head_ok {x : Dat} {l : List Dat} {y : Dat} {i : Int} {j : Nat} (hi : i = j) (h : (x :: l)[j]? = some y) : ((0 : Int) ≤ i ∧ i < ((x :: l).length : Int)) ∧ some y = some y := by
  have := (List.getElem?_eq_some_iff.1 h).1
  exact ⟨⟨by omega, by omega⟩, rfl⟩
/-- 'put' with shift's function value. -/
theorem ev_putH (b f : Int) (hb : -1000000 ≤ b ∧ b ≤ 1000000) (hf : 0 ≤ f ∧ f ≤ 1000000) : ∀ (t : Pt) (a : Int), 0 ≤ a → a + t.depth ≤ 1000000 → t.within 1000000 →
    EvN (t.depth + 5) 62 [.dat t.d, .dat (I a), .fn 63 [.up 0, .up 1]] [[.dat (I f)], [.dat (I b)]] [] ([.dat (sh b (f + a) t).d], [[.dat (I f)], [.dat (I b)]], [])
  | .var n, a, h0, h1, h2 => by
    have h2 : -1000000 ≤ n ∧ n ≤ 1000000 := h2
    simp only [Pt.depth] at h1
    refine ev_fn Go.Proofs.Tryz.f62 5 (by kernel_rfl) (by kernel_rfl) fun kk hkk => ?_
    by_cases hn : a ≤ n
    · have hw : w64 (n - a) = n - a := w64_eq (by omega)
      have key : ∃ r, den cfg kk 63 [.dat (I (w64 (n - a))), .dat (I a), .ptr (.up 0) 0, .ptr (.up 1) 0] [[.dat (I f)], [.dat (I b)]] [] = some ([.dat (T 1 r [])], [[.dat (I f)], [.dat (I b)]], []) ∧ sh b (f + a) (.var n) = .var r := by
        rw [hw]
        by_cases hi : f ≤ n - a
        · refine ⟨n + b, ?_, by simp only [sh]; rw [if_pos (by omega)]⟩
          have e1 : w64 (n - a + b) = n - a + b := w64_eq (by omega)
          have e2 : w64 (n - a + b + a) = n + b := (w64_eq (by omega)).trans (by omega)
          have := ev_fn Go.Proofs.Tryz.f63 (args := [.dat (I (n - a)), .dat (I a), .ptr (.up 0) 0, .ptr (.up 1) 0]) (u := [[.dat (I f)], [.dat (I b)]]) (l := []) 1 (by kernel_rfl) (by kernel_rfl) fun k hk => shift1_hi k (n - a) a b f (decide_eq_true hi) (ev_variable _ k (by omega))
          rw [e1, e2] at this
          exact this kk (by omega)
        · refine ⟨n, ?_, by simp only [sh]; rw [if_neg (by omega)]⟩
          have e2 : w64 (n - a + a) = n := (w64_eq (by omega)).trans (by omega)
          have := ev_fn Go.Proofs.Tryz.f63 (args := [.dat (I (n - a)), .dat (I a), .ptr (.up 0) 0, .ptr (.up 1) 0]) (u := [[.dat (I f)], [.dat (I b)]]) (l := []) 1 (by kernel_rfl) (by kernel_rfl) fun k hk => shift1_lo k (n - a) a b f (decide_eq_false hi) (ev_variable _ k (by omega))
          rw [e2] at this
          exact this kk (by omega)
      obtain ⟨r, hr, he⟩ := key
      rw [he]
      exact put_var_h kk n a _ _ _ _ b f (decide_eq_true hn) hr
    · have he : sh b (f + a) (.var n) = .var n := by simp only [sh]; rw [if_neg (by omega)]
      rw [he]
      exact put_low_h kk n a _ b f (decide_eq_false hn)
  | .lam n t, a, h0, h1, h2 => by
    simp only [Pt.depth] at h1
    refine ev_fn Go.Proofs.Tryz.f62 (t.depth + 5) (by kernel_rfl) (by kernel_rfl) fun kk hkk => ?_
    have e1 : w64 (a + 1) = a + 1 := w64_eq (by omega)
    have ih := ev_putH b f hb hf t (a + 1) (by omega) (by omega) h2 kk (by omega)
    have hl := ev_lam (sh b (f + (a + 1)) t) kk (by omega)
    have he : sh b (f + a) (.lam n t) = .lam 0 (sh b (f + (a + 1)) t) := by simp only [sh]; rw [Int.add_assoc]
    rw [he]
    have := put_lam_h kk n a t.kd t.num (sh b (f + (a + 1)) t).kd (sh b (f + (a + 1)) t).num [] (t.kids.map Pt.d) ((sh b (f + (a + 1)) t).kids.map Pt.d) b f (head_ok (j := 0) rfl rfl)
    rw [← Pt.d_eq, ← Pt.d_eq, e1] at this
    exact this ih hl
  | .app n x y, a, h0, h1, h2 => by
    have h2 : x.within 1000000 ∧ y.within 1000000 := h2
    simp only [Pt.depth] at h1
    refine ev_fn Go.Proofs.Tryz.f62 (max x.depth y.depth + 5) (by kernel_rfl) (by kernel_rfl) fun kk hkk => ?_
    have ih1 := ev_putH b f hb hf x a h0 (by omega) h2.1 kk (by omega)
    have ih2 := ev_putH b f hb hf y a h0 (by omega) h2.2 kk (by omega)
    have hl := ev_app (sh b (f + a) x) (sh b (f + a) y) kk (by omega)
    have := put_app_h kk n a x.kd x.num y.kd y.num (sh b (f + a) x).kd (sh b (f + a) x).num (sh b (f + a) y).kd (sh b (f + a) y).num [] (x.kids.map Pt.d) (y.kids.map Pt.d) ((sh b (f + a) x).kids.map Pt.d) ((sh b (f + a) y).kids.map Pt.d) b f (head_ok (j := 0) rfl rfl) (head_ok (j := 1) rfl rfl)
    rw [← Pt.d_eq, ← Pt.d_eq, ← Pt.d_eq, ← Pt.d_eq] at this
    exact this ih1 ih2 hl
theorem ev_shift (t : Pt) (b f : Int) (hb : -1000000 ≤ b ∧ b ≤ 1000000) (hf : 0 ≤ f ∧ f ≤ 1000000) (hd : t.depth ≤ 1000000) (hw : t.within 1000000) : EvN (t.depth + 6) 29 [.dat t.d, .dat (I b), .dat (I f)] [] [] ([.dat (sh b f t).d], [], []) := by
  refine ev_fn Go.Proofs.Tryz.f29 (t.depth + 5) (by kernel_rfl) (by kernel_rfl) fun kk hkk => ?_
  have := ev_putH b f hb hf t 0 (by omega) (by omega) hw kk (by omega)
  rw [Int.add_zero] at this
  have h2 := shift kk t.kd t.num b f (sh b f t).kd (sh b f t).num (t.kids.map Pt.d) ((sh b f t).kids.map Pt.d)
  rw [← Pt.d_eq, ← Pt.d_eq] at h2
  exact h2 this
end Go.Den
