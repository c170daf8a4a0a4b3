/- Merged out of: D1 D2 D3 D4 D5 D6 D7 D8 (prune.py, a program of this work's). -/
import Derived.Orders
import Derived.Laws.AppendOwn
import Derived.Below
import Derived.Laws.Entries
import Derived.WalkKit
import Derived.Laws.Slices
import Derived.Laws.Small
import Derived.Laws.Cells
import Derived.Laws.Tables
import Derived.Laws.MakeOwn
set_option linter.unusedVariables false
set_option linter.unusedSimpArgs false
set_option linter.unnecessarySimpa false
namespace Go.Den
open Go
set_option linter.unusedVariables false
inductive Dat where
 | val (v : Value)
 | agg (cs : List Dat)
 | lst (b : Bool) (es : List Dat)
inductive Ref where
 | loc (n : Nat)
 | up (n : Nat)
inductive Pl where
 | slot (x : Nat) (q : List Nat)
 | cell (r : Ref) (o : Nat)
 | lent (j : Nat)
inductive VC where
 | d (x : Dat)
 | b (j : Nat)
def VC.hit (f : Pl → Bool) : VC → Bool
 | .d _ => false
 | .b j => f (.lent j)
inductive Etc where
 | map (r : Ref)
 | mark
 | err
 | vp (cs : List VC) (o : Nat)
inductive D where
 | dat (d : Dat)
 | own (e : Nat) (es : List Dat)
 | bor (p : Pl) (n : Option Nat)
 | bp (p : Pl) (j o : Nat)
 | sb (p : Pl) (lo sz : Nat)
 | ep (b : Bool) (cs : List Dat)
 | ptr (r : Ref) (o : Nat)
 | fn (f : Nat) (cap : List Ref)
 | seq (tup : Bool) (ds : List D)
 | etc (e : Etc)
 | undef
 | junk
def Dat.cells : Dat → List Dat
 | .agg cs => cs
 | d => [d]
mutual
def Dat.clean : Dat → Bool
 | .val _ => true
 | .agg cs => Dat.cleans cs
 | .lst b es => !b && Dat.cleans es
def Dat.cleans : List Dat → Bool
 | [] => true
 | d :: ds => Dat.clean d && Dat.cleans ds
end
def Ref.is : Ref → Ref → Bool
 | .loc a, .loc b => Nat.beq a b
 | .up a, .up b => Nat.beq a b
 | _, _ => false
def ze5 : List Nat → List Nat → Bool
 | [], [] => true
 | a :: p, b :: q => Nat.beq a b && ze5 p q
 | _, _ => false
def Pl.is : Pl → Pl → Bool
 | .slot x p, .slot y q => Nat.beq x y && ze5 p q
 | .cell r o, .cell s n => r.is s && Nat.beq o n
 | .lent i, .lent j => Nat.beq i j
 | _, _ => false
def Pl.sub (p : Pl) (i : Nat) : Pl :=
 match p with
 | .slot x q => .slot x (q ++ [i])
 | p => p
def Pl.ofSlot : Pl → Bool
 | .slot _ _ => true
 | _ => false
def D.at_ : List Nat → D → D
 | [], d => d
 | i :: q, .seq _ ds => D.at_ q (ds.getD i .junk)
 | _ :: _, _ => .junk
def D.set_ : List Nat → D → D → D
 | [], n, _ => n
 | i :: q, n, .seq t ds => .seq t (ds.set i (D.set_ q n (ds.getD i .junk)))
 | _ :: _, _, d => d
structure Kill where
 pl : Pl → Bool
 ref : Ref → Bool
mutual
def D.kill (k : Kill) : D → D
 | .bor p n => match k.pl p with | true => .junk | false => .bor p n
 | .bp p j o => match k.pl p with | true => .junk | false => .bp p j o
 | .sb p l z => match k.pl p with | true => .junk | false => .sb p l z
 | .ptr r o => match k.ref r with | true => .junk | false => .ptr r o
 | .fn f cap => match cap.any k.ref with | true => .junk | false => .fn f cap
 | .seq t ds => .seq t (D.kills k ds)
 | .etc e => match e with
   | .map r => (match k.ref r with | true => .junk | false => .etc (.map r))
   | .mark => .etc .mark
   | .err => .etc .err
   | .vp cs o => (match cs.any (VC.hit k.pl) with | true => .junk | false => .etc (.vp cs o))
 | .dat d => .dat d
 | .own e es => .own e es
 | .ep b cs => .ep b cs
 | .undef => .undef
 | .junk => .junk
def D.kills (k : Kill) : List D → List D
 | [] => []
 | d :: ds => D.kill k d :: D.kills k ds
end
mutual
def D.hasOwn : D → Bool
 | .own _ _ => true
 | .seq _ ds => D.hasOwns ds
 | _ => false
def D.hasOwns : List D → Bool
 | [] => false
 | d :: ds => D.hasOwn d || D.hasOwns ds
end
mutual
def D.alias (p : Pl) : D → D
 | .own _ _ => .bor p none
 | .seq t ds => .seq t (D.aliases p 0 ds)
 | .etc e => .etc e
 | .dat d => .dat d
 | .bor q n => .bor q n
 | .bp q j o => .bp q j o
 | .sb q l z => .sb q l z
 | .ep b cs => .ep b cs
 | .ptr r o => .ptr r o
 | .fn f cap => .fn f cap
 | .undef => .undef
 | .junk => .junk
def D.aliases (p : Pl) : Nat → List D → List D
 | _, [] => []
 | i, d :: ds => D.alias (p.sub i) d :: D.aliases p (i + 1) ds
end
mutual
def D.clean : D → Bool
 | .dat d => d.clean
 | .own _ es => Dat.cleans es
 | .seq _ ds => D.cleans ds
 | .etc .err => true
 | .undef => true
 | _ => false
def D.cleans : List D → Bool
 | [] => true
 | d :: ds => D.clean d && D.cleans ds
end
inductive TK where
 | int (k : IntKind) | bool | str | slice (e : Nat) | struct | map (k e : Nat) | other
structure TI where
 kind : TK
 sz : Nat
 bytes : Nat
 fs : List (Nat × Nat)
 zero : List D
def TI.agg (i : TI) : Bool := match i.kind with | .struct => true | _ => false
abbrev Row := Nat × List Dat
structure St where
 t : Nat → D
 b : Nat → Option (List D)
 u : List (List D)
 l : List (Option Row)
def St.box (s : St) : Ref → Option (List D)
 | .loc n => s.b n
 | .up n => s.u[n]?
def D.row? : D → Option Row
 | .own e es => some (e, es)
 | _ => none
def St.get (s : St) : Pl → Option Row
 | .slot x q => ((s.t x).at_ q).row?
 | .cell r o => (s.box r).bind fun cs => (cs[o]?).bind D.row?
 | .lent j => (s.l[j]?).bind id
def St.killed (k : Kill) (s : St) : St := { s with t := fun x => (s.t x).kill k }
def Kill.slot (x : Nat) : Kill := ⟨fun p => match p with | .slot y _ => Nat.beq y x | _ => false, fun _ => false⟩
def Kill.at (p : Pl) : Kill := ⟨fun q => q.is p, fun _ => false⟩
def Kill.cells (r : Ref) (o n : Nat) : Kill := ⟨fun q => match q with | .cell s m => s.is r && (Nat.ble o m && Nat.blt m (o + n)) | _ => false, fun _ => false⟩
def St.put (x : Nat) (d : D) (s : St) : St :=
 match (s.t x).hasOwn with
 | true => { s with t := fun y => match Nat.beq y x with | true => d.kill (Kill.slot x) | false => (s.t y).kill (Kill.slot x) }
 | false => { s with t := fun y => match Nat.beq y x with | true => d | false => s.t y }
def St.putO (x : Option Nat) (d : D) (s : St) : St := match x with | some x => s.put x d | none => s
def St.setBox (s : St) (r : Ref) (cs : List D) : St :=
 match r with
 | .loc n => { s with b := fun m => match Nat.beq m n with | true => some cs | false => s.b m }
 | .up n => { s with u := s.u.set n cs }
def St.setPl (s : St) (p : Pl) (d : D) : St :=
 match p with
 | .slot x q => { s with t := fun y => match Nat.beq y x with | true => D.set_ q d (s.t x) | false => s.t y }
 | .cell r o => match s.box r with | some cs => s.setBox r (cs.set o d) | none => s
 | .lent j => { s with l := s.l.set j d.row? }
def St.take (s : St) (p : Pl) : Option (Row × St) := (s.get p).map fun r => (r, (s.killed (Kill.at p)).setPl p .junk)
def St.stamp (s : St) (p : Pl) : Option (List Dat × St) :=
 match p with
 | .lent _ => none
 | p => (s.get p).map fun r => (r.2, (s.killed (Kill.at p)).setPl p (.dat (.lst false r.2)))
def zaT (n : Option Nat) (es : List Dat) : List Dat := match n with | none => es | some n => es.take n
mutual
def D.tight (slots : Bool) : D → Bool
 | .bor p _ => slots && !p.ofSlot
 | .bp _ _ _ => false
 | .sb _ _ _ => false
 | .etc (.vp _ _) => false
 | .seq _ ds => D.tights slots ds
 | _ => true
def D.tights (slots : Bool) : List D → Bool
 | [] => true
 | d :: ds => D.tight slots d && D.tights slots ds
end
mutual
def St.takeD (slots : Bool) : D → St → Option (D × St)
 | .bor p n, s => match slots && !p.ofSlot with
   | true => (s.get p).map fun _ => (.bor p n, s)
   | false => (s.take p).map fun r => (.own r.1.1 (zaT n r.1.2), r.2)
 | .seq t ds, s => (St.takeDs slots ds s).map fun r => (.seq t r.1, r.2)
 | .etc e, s => some (.etc e, s)
 | .bp p j o, s => some (.bp p j o, s)
 | .sb p l z, s => some (.sb p l z, s)
 | .dat d, s => some (.dat d, s)
 | .own e es, s => some (.own e es, s)
 | .ep b cs, s => some (.ep b cs, s)
 | .ptr r o, s => some (.ptr r o, s)
 | .fn f cap, s => some (.fn f cap, s)
 | .undef, s => some (.undef, s)
 | .junk, s => some (.junk, s)
def St.takeDs (slots : Bool) : List D → St → Option (List D × St)
 | [], s => some ([], s)
 | d :: ds, s => (St.takeD slots d s).bind fun r => match D.tight slots r.1 with
   | true => (St.takeDs slots ds r.2).map fun q => (r.1 :: q.1, q.2)
   | false => none
end
mutual
def St.datD : D → St → Option (Dat × St)
 | .dat d, s => some (d, s)
 | .bor p n, s => (s.stamp p).map fun r => (.lst false (zaT n r.1), r.2)
 | .seq false ds, s => (St.datDs ds s).map fun r => (.agg r.1, r.2)
 | _, _ => none
def St.datDs : List D → St → Option (List Dat × St)
 | [], s => some ([], s)
 | d :: ds, s => (St.datD d s).bind fun r => (St.datDs ds r.2).map fun q => (r.1 :: q.1, q.2)
end
def scal : Value → Bool
 | .bool _ => true
 | .int _ _ => true
 | .string _ => true
 | .nilFunc => true
 | .nilIface => true
 | .pointer none => true
 | .map none => true
 | _ => false
def zec : Value → D
 | .slice none 0 0 => .dat (.lst false [])
 | v => match scal v with | true => .dat (.val v) | false => .junk
def St.look (s : St) : Operand → D
 | .tmp x => (s.t x).alias (.slot x [])
 | .const v => zec v
 | .func f => .fn f []
 | .global _ => .junk
def isM : List D → Bool
 | .etc .mark :: _ => true
 | _ => false
def zdT : TK → Value → Value → Option Bool
 | .int _, .int k a, .int k' b => match decide (k = k') with | true => some (decide (a = b)) | false => none
 | .str, .string a, .string b => some (decide (a = b))
 | .bool, .bool a, .bool b => some (a == b)
 | _, _, _ => none
def zdo (t : TK) (k : Value) : List D → Option (Option Value)
 | [] => some none
 | .dat (.val a) :: .dat (.val b) :: l => match zdT t k a with
   | some true => some (some b)
   | some false => zdo t k l
   | none => none
 | _ => none
def zgW (t : TK) (k v : Value) : List D → Option (List D)
 | [] => some [.dat (.val k), .dat (.val v)]
 | .dat (.val a) :: .dat (.val b) :: l => match zdT t k a with
   | some true => some (.dat (.val k) :: .dat (.val v) :: l)
   | some false => (zgW t k v l).map fun l' => .dat (.val a) :: .dat (.val b) :: l'
   | none => none
 | _ => none
def ziU : TK → Bool
 | .int _ => true
 | .str => true
 | .bool => true
 | _ => false
inductive Ef where
 | pure (d : D)
 | new (cs : List D)
 | made (cs : List D)
structure Env where
 ty : Nat → Option TI
 mode : Nat → List Nat
 nt : Nat
 live : Nat → List Nat
 out : Nat → List Nat
 plan : Nat → Option (Option (List Nat) × List (Nat × Nat × List Nat))
 call : Nat → List D → List (List D) → List (Option Row) → Option (List D × List (List D) × List (Option Row))
def wid (n : Nat) : List Dat → Bool
 | [] => true
 | d :: _ => Nat.beq d.cells.length n
def zfo (gp : Pl → Option Row) : D → Option (List Dat)
 | .dat (.lst _ es) => some es
 | .bor p n => (gp p).map fun r => zaT n r.2
 | .sb p l z => (gp p).map fun r => r.2.drop l
 | _ => none
def zld : D → Option Dat
 | .dat d => some d
 | _ => none
def zim : List D → Option (List Dat)
 | [] => some []
 | d :: ds => (zld d).bind fun x => (zim ds).map (x :: ·)
def aggD (ds : List D) : D := match zim ds with | some cs => .dat (.agg cs) | none => .seq false ds
def zar : D → List D
 | .dat (.agg cs) => cs.map .dat
 | .seq false ds => ds
 | d => [d]
def zdH : List D → Option (List Dat)
 | [] => some []
 | .dat d :: ds => (zdH ds).map (d :: ·)
 | .own _ [] :: ds => (zdH ds).map (.lst false [] :: ·)
 | _ => none
def TI.zeroD (i : TI) : Option Dat :=
 (zdH i.zero).bind fun cs => match i.agg with | true => some (.agg cs) | false => match cs with | [d] => some d | _ => none
def ziw : D → Option Bool
 | .dat (.val (.bool b)) => some b
 | _ => none
def intOf : D → Option Int
 | .dat (.val (.int .i64 n)) => some n
 | _ => none
def zhj (op : BinOp) : Value → Value → Option Value
 | .int k a, .int k' b =>
   match decide (k = k') with
   | false => none
   | true => match op with
     | .add => some (.int k (k.wrap (a + b)))
     | .sub => some (.int k (k.wrap (a - b)))
     | .mul => some (.int k (k.wrap (a * b)))
     | .quo => if b = 0 then none else some (.int k (k.wrap (a.tdiv b)))
     | .rem => if b = 0 then none else some (.int k (a.tmod b))
     | .eql => some (.bool (decide (a = b)))
     | .neq => some (.bool (!decide (a = b)))
     | .lss => some (.bool (decide (a < b)))
     | .leq => some (.bool (decide (a ≤ b)))
     | .gtr => some (.bool (decide (b < a)))
     | .geq => some (.bool (decide (b ≤ a)))
     | .and => some (.int k (k.wrap ((BitVec.ofInt k.bits a &&& BitVec.ofInt k.bits b).toNat)))
     | .or => some (.int k (k.wrap ((BitVec.ofInt k.bits a ||| BitVec.ofInt k.bits b).toNat)))
     | _ => none
 | .string a, .string b =>
   match op with
   | .add => if a.size + b.size ≤ 9223372036854775807 then some (.string (a ++ b)) else none
   | .eql => some (.bool (decide (a = b)))
   | .neq => some (.bool (!decide (a = b)))
   | .lss => some (.bool (Op.bytesLess a.toList b.toList))
   | .leq => some (.bool (Op.bytesLess a.toList b.toList || decide (a = b)))
   | .gtr => some (.bool (!(Op.bytesLess a.toList b.toList || decide (a = b))))
   | .geq => some (.bool (!Op.bytesLess a.toList b.toList))
   | _ => none
 | .bool a, .bool b =>
   match op with
   | .eql => some (.bool (a == b))
   | .neq => some (.bool (!(a == b)))
   | _ => none
 | _, _ => none
def binV (op : BinOp) (x y : Value) : Option Value :=
 match op with
 | .shr => match x, y with
   | .int k a, .int _ b => if b < 0 then none else some (.int k (a.fdiv (2 ^ (min b.toNat k.bits))))
   | _, _ => none
 | .shl => match x, y with
   | .int k a, .int _ b => if b < 0 then none else some (.int k (k.wrap (a * 2 ^ (min b.toNat k.bits))))
   | _, _ => none
 | op => zhj op x y
def binD (i : Option TI) (op : BinOp) : D → D → Option D
 | .dat (.val (.bool a)), .dat (.val (.bool b)) => match i with
   | some ⟨.bool, _, _, _, _⟩ => (binV op (.bool a) (.bool b)).map fun v => .dat (.val v)
   | _ => none
 | .dat (.val x), .dat (.val y) => (binV op x y).map fun v => .dat (.val v)
 | _, _ => none
def eqFs (ty : Nat → Option TI) : List (Nat × Nat) → List Dat → List Dat → Option Bool
 | [], _, _ => some true
 | (o, ft) :: fs, xs, ys => (ty ft).bind fun j => match j.kind, xs[o]?, ys[o]? with
   | .int _, some (.val (.int k a)), some (.val (.int k' b)) => match decide (k = k') with
     | true => (eqFs ty fs xs ys).map (decide (a = b) && ·)
     | false => none
   | .bool, some (.val (.bool a)), some (.val (.bool b)) => (eqFs ty fs xs ys).map ((a == b) && ·)
   | _, _, _ => none
def isC : Operand → Bool
 | .const _ => true
 | _ => false
def zi0 (i : TI) : Bool := match i.kind, i.zero with | .other, [.dat (.val .nilIface)] => true | _, _ => false
def zfW (ty : Nat → Option TI) (t : Nat) (op : BinOp) (c : Bool) (x y : D) : Option Bool :=
 match op, x, y with
 | .eql, .dat (.val .nilIface), .dat (.val .nilIface) => match c with
   | true => (ty t).bind fun i => (match zi0 i with | true => some true | false => none)
   | false => none
 | .neq, .dat (.val .nilIface), .dat (.val .nilIface) => match c with
   | true => (ty t).bind fun i => (match zi0 i with | true => some false | false => none)
   | false => none
 | .eql, .etc .err, .dat (.val .nilIface) => match c with
   | true => (ty t).bind fun i => (match zi0 i with | true => some false | false => none)
   | false => none
 | .neq, .etc .err, .dat (.val .nilIface) => match c with
   | true => (ty t).bind fun i => (match zi0 i with | true => some true | false => none)
   | false => none
 | .eql, .dat (.lst _ (_ :: _)), .dat (.lst _ []) => match c with
   | true => (ty t).bind fun i => (match i.kind with | .slice _ => some false | _ => none)
   | false => none
 | .neq, .dat (.lst _ (_ :: _)), .dat (.lst _ []) => match c with
   | true => (ty t).bind fun i => (match i.kind with | .slice _ => some true | _ => none)
   | false => none
 | .eql, .dat (.agg xs), .dat (.agg ys) => (ty t).bind fun i => match i.agg with | true => eqFs ty i.fs xs ys | false => none
 | .neq, .dat (.agg xs), .dat (.agg ys) => (ty t).bind fun i => match i.agg with | true => (eqFs ty i.fs xs ys).map (!·) | false => none
 | _, _, _ => none
def unD (op : UnOp) : D → Option D
 | .dat (.val (.bool b)) => match op with | .not => some (.dat (.val (.bool (!b)))) | _ => none
 | .dat (.val (.int k n)) => match op with | .neg => some (.dat (.val (.int k (k.wrap (0 - n))))) | _ => none
 | _ => none
def zaV (s : ByteArray) : List Dat := s.data.toList.map fun b => .val (.int .u8 b.toNat)
def loadCells (i : TI) (p : Nat → Pl) (cs : List D) (o : Nat) : Option D :=
 match i.agg with
 | true => if o + i.sz ≤ cs.length then some (aggD (((cs.drop o).take i.sz).mapIdx fun j d => d.alias (p (o + j)))) else none
 | false => (cs[o]?).map fun d => d.alias (p o)
def zcv (i : TI) (cs : List Dat) : Option Dat :=
 match i.agg with
 | true => if i.sz ≤ cs.length then some (.agg (cs.take i.sz)) else none
 | false => cs[0]?
def zcp (i : TI) (gp : Pl → Option Row) (bx : Ref → Option (List D)) : D → Option D
 | .ptr r o => (bx r).bind fun cs => match isM cs with | true => none | false => loadCells i (Pl.cell r) cs o
 | .ep b cs => (zcv i cs).map .dat
 | .bp p j o => (gp p).bind fun r => (r.2[j]?).bind fun d => (zcv i (d.cells.drop o)).map .dat
 | .etc (.vp cs o) => match i.agg with
   | true => none
   | false => match cs[o]? with
     | some (.d x) => some (.dat x)
     | some (.b j) => (gp (.lent j)).map fun _ => .bor (.lent j) none
     | none => none
 | _ => none
def vcs (gp : Pl → Option Row) : List D → Option (List VC)
 | [] => some []
 | .dat (.agg _) :: _ => none
 | .dat x :: ds => (vcs gp ds).map (.d x :: ·)
 | .bor (.lent j) none :: ds => (gp (.lent j)).bind fun _ => (vcs gp ds).map (.b j :: ·)
 | _ :: _ => none
def isVB : VC → Bool
 | .b _ => true
 | .d _ => false
def vpOf (gp : Pl → Option Row) : D → Option (List VC)
 | .seq false ds => (vcs gp ds).bind fun cs => match cs.any isVB with | true => some cs | false => none
 | _ => none
def zh1 (o : Nat) : D → Option D
 | .ptr r n => some (.ptr r (n + o))
 | .ep b cs => some (.ep b (cs.drop o))
 | .bp p j n => some (.bp p j (n + o))
 | .etc (.vp cs n) => some (.etc (.vp cs (n + o)))
 | _ => none
def zbN (gp : Pl → Option Row) (en : Nat) (e : TI) (i : Int) : D → Option D
 | .dat (.lst b es) => if 0 ≤ i ∧ i < es.length then (es[i.toNat]?).bind fun d => match Nat.beq d.cells.length e.sz with | true => some (.ep b d.cells) | false => none else none
 | .bor p n => (gp p).bind fun r => match Nat.beq r.1 en with | true => if 0 ≤ i ∧ i < (zaT n r.2).length then some (.bp p i.toNat 0) else none | false => none
 | _ => none
def zci (lk : Operand → D) : Option Operand → Option (Option Int)
 | none => some none
 | some x => (intOf (lk x)).map some
def zcr (ty : Nat → Option TI) (t : Nat) : Option (Option Nat) :=
 (ty t).bind fun i => match i.kind with
  | .str => some none
  | .slice e => (ty e).map fun j => some j.sz
  | _ => none
def zb0 (st : Option Nat) (lo hi : Option Int) : D → Option D
 | .dat (.val (.string s)) => match st with
   | none =>
     let l := lo.getD 0; let h := hi.getD s.size
     if 0 ≤ l ∧ l ≤ h ∧ h ≤ s.size then some (.dat (.val (.string (s.extract l.toNat h.toNat)))) else none
   | some _ => none
 | .dat (.lst b es) => match st with
   | some n =>
     let l := lo.getD 0; let h := hi.getD es.length
     if 0 ≤ l ∧ l ≤ h ∧ h ≤ es.length then (match wid n es with | true => some (.dat (.lst b ((es.take h.toNat).drop l.toNat))) | false => none) else none
   | none => none
 | _ => none
def zgJ (ty : Nat → Option TI) (gp : Pl → Option Row) (st : Option Nat) (lo hi : Option Int) : D → Option D
 | .bor p n => match lo, st with
   | none, some _ => (gp p).bind fun r => match hi with
     | none => some (.bor p n)
     | some h => if 0 ≤ h ∧ h ≤ (zaT n r.2).length then some (.bor p (some h.toNat)) else none
   | some l, some z => (match n, hi with
     | none, none => (gp p).bind fun r => (ty r.1).bind fun i => match Nat.beq i.sz z with | true => (if 0 ≤ l ∧ l ≤ r.2.length then some (.sb p l.toNat z) else none) | false => none
     | _, _ => none)
   | _, none => none
 | d => zb0 st lo hi d
def zg8 : List D → Option (List Ref)
 | [] => some []
 | .ptr r 0 :: ds => (zg8 ds).map (r :: ·)
 | _ => none
def lenOf (gp : Pl → Option Row) (k : TK) : D → Option Int
 | .dat (.val (.string s)) => match k with | .str => some s.size | _ => none
 | d => match k with | .slice _ => (zfo gp d).map fun es => es.length | _ => none
def zeq (gp : Pl → Option Row) : D → Option (Dat × Bool)
 | .dat d => some (d, false)
 | .bor p n => (gp p).map fun r => (.lst true (zaT n r.2), true)
 | .own _ [] => some (.lst false [], false)
 | _ => none
def zdl (gp : Pl → Option Row) : List D → Option (List Dat × Bool)
 | [] => some ([], false)
 | d :: ds => (zeq gp d).bind fun x => (zdl gp ds).map fun y => (x.1 :: y.1, x.2 || y.2)
def zi6 (gp : Pl → Option Row) : D → Option (Dat × Bool)
 | .seq false ds => (zdl gp ds).map fun r => (.agg r.1, r.2)
 | d => zeq gp d
def zem (gp : Pl → Option Row) : List D → Option (List Dat × Bool)
 | [] => some ([], false)
 | d :: ds => (zi6 gp d).bind fun x => (zem gp ds).map fun y => (x.1 :: y.1, x.2 || y.2)
def retD : List D → D
 | [] => .undef
 | [d] => d
 | ds => .seq true ds
def zbh : List Nat → Bool
 | [] => true
 | a :: l => Nat.beq a 0 && zbh l
mutual
def D.plain : D → Bool
 | .dat _ => true
 | .own _ _ => true
 | .etc .err => true
 | .undef => true
 | .seq _ ds => D.plains ds
 | _ => false
def D.plains : List D → Bool
 | [] => true
 | d :: ds => D.plain d && D.plains ds
end
def zaO : List D → Bool
 | [] => true
 | .dat d :: ds => d.clean && zaO ds
 | .own _ es :: ds => Dat.cleans es && zaO ds
 | _ :: ds => zaO ds
def zcE : D → Bool
 | .dat (.agg _) => false
 | .dat _ => true
 | .own _ _ => true
 | _ => false
def zkn (fl : Bool) (q : List D × List (List D) × List (Option Row)) : Option Ef :=
 match D.plains q.1 with
 | true => match fl && !D.cleans q.1 with | true => none | false => some (.pure (retD q.1))
 | false => match fl, q.2.1 with
   | false, [cs] => some (.made cs)
   | _, _ => none
def zcW (E : Env) (gp : Pl → Option Row) (f : Nat) (args : List D) : Option Ef :=
 match zbh (E.mode f) with
 | false => none
 | true => (zem gp args).bind fun r => (E.call f (r.1.map .dat) [] []).bind (zkn r.2)
def zd3 (o : Nat) : List D → List D → List D
 | cs, [] => cs
 | cs, d :: ds => zd3 (o + 1) (cs.set o d) ds
def zbX (E : Env) (fs : List (Nat × Nat)) : List D → List (Nat × D) → Option (List D)
 | cs, [] => some cs
 | cs, (j, d) :: ps => (fs[j]?).bind fun f => (E.ty f.2).bind fun i => match Nat.beq (zar d).length i.sz && Nat.ble (f.1 + i.sz) cs.length with | true => zbX E fs (zd3 f.1 cs (zar d)) ps | false => none
mutual
def D.quiet : D → Bool
 | .dat _ => true
 | .own _ _ => true
 | .fn _ _ => true
 | .ptr _ _ => true
 | .etc (.map _) => true
 | .etc .err => true
 | .seq t ds => !t && D.quiets ds
 | _ => false
def D.quiets : List D → Bool
 | [] => true
 | d :: ds => D.quiet d && D.quiets ds
end
mutual
def D.free : D → Bool
 | .bor p _ => !p.ofSlot
 | .seq _ ds => D.frees ds
 | _ => true
def D.frees : List D → Bool
 | [] => true
 | d :: ds => D.free d && D.frees ds
end
def zbs : List Dat → List (Nat × Dat) → List Dat
 | es, [] => es
 | es, (j, d) :: ps => zbs (es.set j d) ps
def zkL (i : Option TI) (j : Option TI) : D → Option D
 | .dat (.val (.int k n)) => match j with
   | some ⟨.int k', _, _, _, _⟩ => some (.dat (.val (.int k' (k'.wrap n))))
   | _ => none
 | .dat (.val (.string s)) => match j with
   | some ⟨.str, _, _, _, _⟩ => some (.dat (.val (.string s)))
   | _ => none
 | _ => none
def ze9 : Operand → Bool
 | .const (.slice none 0 0) => true
 | _ => false
def zaJ (lk : Operand → D) (ps : Array (Nat × Operand)) : List (Nat × D) := ps.toList.map fun p => (p.1, lk p.2)
def zew (lk : Operand → D) : List (Nat × Operand) → Option (List (Nat × Dat))
 | [] => some []
 | (j, x) :: ps => (zld (lk x)).bind fun d => (zew lk ps).map ((j, d) :: ·)
def zay (E : Env) (lk : Operand → D) : List Operand → List Nat → List D
 | [], _ => []
 | x :: xs, ts => (match ze9 x, ts with
   | true, t :: _ => (match E.ty t with | some ⟨.slice e, _, _, _, _⟩ => .own e [] | _ => lk x)
   | _, _ => lk x) :: zay E lk xs ts.tail
def ziC (j : TI) : Option Value → Option Value
 | some b => some b
 | none => match j.zeroD with | some (.val z) => some z | _ => none
def evOp (E : Env) (lk : Operand → D) (gp : Pl → Option Row) (bx : Ref → Option (List D)) (ty : Nat) : Op → Option Ef
 | .move x => some (.pure (lk x))
 | .assign x => match ze9 x with
   | true => (E.ty ty).bind fun i => match i.kind with | .slice e => some (.pure (.own e [])) | _ => none
   | false => match (lk x).free with | true => some (.pure (lk x)) | false => none
 | .pick c a b => (ziw (lk c)).map fun v => .pure (match v with | true => lk a | false => lk b)
 | .alloc t => (E.ty t).map fun i => .new i.zero
 | .box t x => (E.ty t).bind fun i => match (lk x).quiet && Nat.beq (zar (lk x)).length i.sz with
   | true => some (.new (zar (lk x)))
   | false => (vpOf gp (lk x)).map fun cs => .pure (.etc (.vp cs 0))
 | .build t ps => (E.ty t).bind fun i => match i.agg && D.quiets ((zaJ lk ps).map (·.2)) with
   | true => (zbX E i.fs i.zero (zaJ lk ps)).map fun cs => .pure (aggD cs)
   | false => none
 | .buildSlice t n ps => (E.ty t).bind fun i => match i.kind with
   | .slice e => (E.ty e).bind fun j => j.zeroD.bind fun z => (zew lk ps.toList).bind fun ds =>
     match ds.all (fun p => Nat.blt p.1 n && Nat.beq p.2.cells.length j.sz) && (Nat.blt 0 j.sz && Nat.ble (n * j.sz) 16777216) with
     | true => some (.pure (.own e (zbs (List.replicate n z) ds)))
     | false => none
   | _ => none
 | .load t x => (E.ty t).bind fun i => (zcp i gp bx (lk x)).map .pure
 | .nilCheck x => match lk x with | .ptr r o => some (.pure (.ptr r o)) | _ => none
 | .binOp op t x y _ => match zfW E.ty t op (isC x || isC y) (lk x) (lk y) with
   | some b => some (.pure (.dat (.val (.bool b))))
   | none => (binD (E.ty t) op (lk x) (lk y)).map .pure
 | .unOp op _ x => (unD op (lk x)).map .pure
 | .convert s t x => (E.ty s).bind fun _ => (zkL (E.ty s) (E.ty t) (lk x)).map .pure
 | .makeFunc (.func f) first cap => match first.isEmpty with
   | true => (zg8 (cap.toList.map lk)).map fun rs => .pure (.fn f rs)
   | false => none
 | .makeSlice t l c => (E.ty t).bind fun i => match i.kind with
   | .slice e => (E.ty e).bind fun j => j.zeroD.bind fun z => (intOf (lk l)).bind fun n => (intOf (lk c)).bind fun m =>
     if 0 ≤ n ∧ n ≤ m ∧ m ≤ 2147483648 then (match Nat.ble j.bytes 65536 with | true => some (.pure (.own e (List.replicate n.toNat z))) | false => none) else none
   | _ => none
 | .slice t x lo hi mx => match mx with
   | none => (zcr E.ty t).bind fun st => (zci lk lo).bind fun l => (zci lk hi).bind fun h => (zgJ E.ty gp st l h (lk x)).map .pure
   | some _ => none
 | .fieldAddr t x f => (E.ty t).bind fun i => (i.fs[f]?).bind fun p => (E.ty p.2).bind fun j => match Nat.beq j.sz 0 || !i.agg with
   | false => (zh1 p.1 (lk x)).map .pure
   | true => none
 | .field t x f => (E.ty t).bind fun i => (i.fs[f]?).bind fun p => (E.ty p.2).bind fun j => match i.agg with
   | false => none
   | true => match lk x with
     | .dat (.agg cs) => (zcv j (cs.drop p.1)).map fun d => .pure (.dat d)
     | .seq false ds => match j.agg with
       | false => (ds[p.1]?).map .pure
       | true => if p.1 + j.sz ≤ ds.length then some (.pure (aggD ((ds.drop p.1).take j.sz))) else none
     | _ => none
 | .indexAddr t x i => (E.ty t).bind fun k => match k.kind with
   | .slice e => (E.ty e).bind fun j => (intOf (lk i)).bind fun n => (zbN gp e j n (lk x)).map .pure
   | _ => none
 | .index t x i => (E.ty t).bind fun k => (intOf (lk i)).bind fun n => match lk x, k.kind with
   | .dat (.val (.string s)), .str => if h : 0 ≤ n ∧ n < s.size then some (.pure (.dat (.val (.int .u8 (s[n.toNat]'(by omega)).toNat)))) else none
   | _, _ => none
 | .extract x j => match lk x with
   | .seq true ds => (ds[j]?).map .pure
   | _ => none
 | .call c => match c.callee with
   | .builtin .len => match c.args.toList, c.argTypes.toList with
     | [x], [t] => (E.ty t).bind fun i => (lenOf gp i.kind (lk x)).map fun n => .pure (.dat (.val (.int .i64 n)))
     | _, _ => none
   | .builtin .max => match c.args.toList with
     | [x, y] => (intOf (lk x)).bind fun a => (intOf (lk y)).map fun b => .pure (.dat (.val (.int .i64 (if b > a then b else a))))
     | _ => none
   | .builtin .min => match c.args.toList with
     | [x, y] => (intOf (lk x)).bind fun a => (intOf (lk y)).map fun b => .pure (.dat (.val (.int .i64 (if b < a then b else a))))
     | _ => none
   | .value f => match lk f with
     | .fn f [] => zcW E gp f (zay E lk c.args.toList c.argTypes.toList)
     | _ => none
   | _ => none
 | .lookup t m k ok => (E.ty t).bind fun i => match i.kind with
   | .map kt et => (E.ty kt).bind fun kj => (E.ty et).bind fun ej => match ziU kj.kind, lk m, lk k with
     | true, .etc (.map r), .dat (.val kv) => (bx r).bind fun cs => match isM cs with
       | true => (zdo kj.kind kv cs.tail).bind fun o => (ziC ej o).map fun b => .pure (match ok with
        | false => .dat (.val b)
        | true => .seq true [.dat (.val b), .dat (.val (.bool o.isSome))])
       | false => none
     | _, _, _ => none
   | _ => none
 | _ => none
def St.apply (x : Option Nat) (s : St) : Ef → Option St
 | .pure d => x.map fun n => s.put n d
 | .new cs => match x with
   | some n => match s.b n with
     | none => some ((s.setBox (.loc n) cs).put n (.ptr (.loc n) 0))
     | some _ => none
   | none => none
 | .made cs => match x with
   | some n => match s.b n with
     | none => some ((s.setBox (.loc n) cs).put n (.ptr (.loc n) 0))
     | some _ => none
   | none => none
def zfk (d : Dat) (o : Nat) (vs : List Dat) : Option Dat :=
 match d, vs with
 | .agg cs, vs => if o + vs.length ≤ cs.length then some (.agg (cs.take o ++ vs ++ cs.drop (o + vs.length))) else none
 | _, [v] => if o = 0 then some v else none
 | _, _ => none
def za2 : D → Bool
 | .dat (.agg _) => false
 | .dat _ => true
 | .own _ _ => true
 | .fn _ _ => true
 | .ptr _ _ => true
 | .etc (.map _) => true
 | .etc .err => true
 | _ => false
def zcd (E : Env) (s : St) (t : Nat) (addr : D) (v : D) : Option St :=
 (E.ty t).bind fun i =>
 match addr with
 | .ptr r o => (s.takeD false v).bind fun q =>
   let ds := zar q.1; let s1 := q.2
   match Nat.beq ds.length i.sz && ds.all (match r with | .loc _ => za2 | .up _ => zcE) with
   | false => none
   | true => (s1.box r).bind fun cs => match isM cs with
     | true => none
     | false => if o + ds.length ≤ cs.length then some ((s1.killed (Kill.cells r o ds.length)).setBox r (cs.take o ++ ds ++ cs.drop (o + ds.length))) else none
 | .bp p j o => (s.datD v).bind fun q =>
   let s1 := q.2
   match Nat.beq q.1.cells.length i.sz with
   | false => none
   | true => (s1.get p).bind fun r => (r.2[j]?).bind fun d => (zfk d o q.1.cells).map fun d' => s1.setPl p (.own r.1 (r.2.set j d'))
 | _ => none
def zbe (s : St) (el : Nat) (base : Operand) : Option (Row × St) :=
 match ze9 base with
 | true => some ((el, []), s)
 | false => match s.look base with
   | .bor p n => (s.take p).map fun q => ((q.1.1, zaT n q.1.2), q.2)
   | _ => none
def zgY (j : TI) : Bool :=
 match j.kind, j.zero with
 | .int .u8, [.dat (.val (.int .u8 n))] => decide (n = 0) && (Nat.beq j.bytes 1 && Nat.beq j.sz 1)
 | _, _ => false
def zgZ (gp : Pl → Option Row) (str : Bool) : D → Option (List Dat)
 | .dat (.val (.string s)) => match str with | true => some (zaV s) | false => none
 | d => match str with | true => none | false => zfo gp d
def zb9 (E : Env) (s : St) (x : Option Nat) (el : Nat) (str : Bool) (base src : Operand) : Option St :=
 (zgZ s.get str (s.look src)).bind fun es2 =>
 (zbe s el base).bind fun r =>
 (E.ty el).bind fun i =>
 match Nat.beq r.1.1 el && Nat.ble i.bytes 65536 && Nat.blt 0 i.sz && es2.all (fun d => Nat.beq d.cells.length i.sz) with
 | false => none
 | true => if r.1.2.length + es2.length ≤ 2147483648 then some (r.2.putO x (.own el (r.1.2 ++ es2))) else none
def zeW (E : Env) (s : St) (x : Option Nat) (el : Nat) (base src : Operand) : Option St :=
 (intOf (s.look src)).bind fun n =>
 (zbe s el base).bind fun r =>
 (E.ty el).bind fun i => i.zeroD.bind fun z =>
 match Nat.beq r.1.1 el && Nat.ble i.bytes 65536 && Nat.blt 0 i.sz && decide (0 ≤ n) with
 | false => none
 | true => if r.1.2.length + n.toNat ≤ 2147483648 then some (r.2.putO x (.own el (r.1.2 ++ List.replicate n.toNat z))) else none
def zgo : D → Bool
 | .ptr _ _ => false
 | .fn _ _ => false
 | .etc (.vp _ _) => true
 | .etc _ => false
 | _ => true
def Pl.ofCell : Pl → Bool
 | .cell _ _ => true
 | _ => false
def zan : List Nat → List D → St → Option (List D × St)
 | _, [], s => some ([], s)
 | ms, d :: ds, s => match Nat.beq (ms.headD 0) 2 with
   | true => match d with
     | .bor p n => (s.take p).bind fun q => (zan ms.tail ds q.2).map fun r => (.own q.1.1 (zaT n q.1.2) :: r.1, r.2)
     | .own e [] => (zan ms.tail ds s).map fun r => (.own e [] :: r.1, r.2)
     | _ => none
   | false => match Nat.beq (ms.headD 0) 3 with
     | true => (s.datD d).bind fun q => (zan ms.tail ds q.2).map fun r => (.dat q.1 :: r.1, r.2)
     | false => (zan ms.tail ds s).map fun r => (d :: r.1, r.2)
def zbV (gp : Pl → Option Row) : List D → Option (List (Pl × Row))
 | [] => some []
 | .dat _ :: ds => zbV gp ds
 | .bor p none :: ds => (gp p).bind fun r => (zbV gp ds).map ((p, r) :: ·)
 | _ :: _ => none
def zeA : Nat → List D → List D
 | _, [] => []
 | j, .bor _ none :: ds => .bor (.lent j) none :: zeA (j + 1) ds
 | j, d :: ds => d :: zeA j ds
def borN : List D → Nat
 | [] => 0
 | .bor _ none :: ds => borN ds + 1
 | _ :: ds => borN ds
def zaB (gp : Pl → Option Row) : List Nat → List D → Option (List (Pl × Row))
 | _, [] => some []
 | ms, d :: ds => match Nat.beq (ms.headD 0) 1 with
   | true => match d with
     | .bor p none => (gp p).bind fun r => (zaB gp ms.tail ds).map ((p, r) :: ·)
     | _ => none
   | false => match Nat.beq (ms.headD 0) 4 with
     | true => match d with
       | .seq false es => (zbV gp es).bind fun a => (zaB gp ms.tail ds).map (a ++ ·)
       | _ => none
     | false => zaB gp ms.tail ds
def zcl (p : Pl) : List (Pl × Row) → Option Nat
 | [] => none
 | (q, _) :: l => match q.is p with | true => some 0 | false => (zcl p l).map (· + 1)
def zaM : List (Pl × Row) → Bool
 | [] => true
 | (p, _) :: l => (zcl p l).isNone && zaM l
def hide (ls : List (Pl × Row)) (op : Bool) (gp : Pl → Option Row) : Pl → Option Row := fun p => match (zcl p ls).isSome || (op && p.ofCell) with | true => none | false => gp p
def idx (n : Nat) : List Nat → Nat
 | [] => 0
 | a :: l => match Nat.beq a n with | true => 0 | false => idx n l + 1
def memN (x : Nat) : List Nat → Bool
 | [] => false
 | a :: l => match Nat.beq x a with | true => true | false => memN x l
def zad (m : Nat) (keys : List Nat) : Ref → Option Ref
 | .loc n => match memN n keys with | true => some (.up (m + idx n keys)) | false => none
 | .up n => match Nat.blt n m with | true => some (.up n) | false => none
def zbD (m : Nat) (keys : List Nat) : List Ref → Option (List Ref)
 | [] => some []
 | r :: rs => (zad m keys r).bind fun x => (zbD m keys rs).map (x :: ·)
def zag (m : Nat) (keys : List Nat) : Ref → Ref
 | .up n => match Nat.blt n m with | true => .up n | false => match keys[n - m]? with | some k => .loc k | none => .up n
 | r => r
def D.lift (m : Nat) (keys : List Nat) : D → Option D
 | .dat d => some (.dat d)
 | .own e es => some (.own e es)
 | .ptr r o => (zad m keys r).map fun r => .ptr r o
 | .fn f cap => (zbD m keys cap).map fun cap => .fn f cap
 | .etc e => match e with
   | .map r => (zad m keys r).map fun r => .etc (.map r)
   | .mark => some (.etc .mark)
   | .err => some (.etc .err)
   | .vp _ _ => none
 | _ => none
def zfr (m : Nat) (keys : List Nat) : List D → Option (List D)
 | [] => some []
 | .junk :: ds => (zfr m keys ds).map (.junk :: ·)
 | d :: ds => (d.lift m keys).bind fun x => (zfr m keys ds).map (x :: ·)
def D.unlift (m : Nat) (keys : List Nat) : D → D
 | .dat d => .dat d
 | .own e es => .own e es
 | .ptr r o => .ptr (zag m keys r) o
 | .fn f cap => .fn f (cap.map (zag m keys))
 | .etc e => match e with
   | .map r => .etc (.map (zag m keys r))
   | .mark => .etc .mark
   | .err => .etc .err
   | .vp _ _ => .junk
 | _ => .junk
def zas (gp : Pl → Option Row) (m : Nat) (keys : List Nat) : List Nat → Nat → List D → Option (List D × Bool)
 | _, _, [] => some ([], false)
 | ms, j, d :: ds =>
   match ms.headD 0 with
   | 1 => (zas gp m keys ms.tail (j + 1) ds).map fun r => (.bor (.lent j) none :: r.1, r.2)
   | 2 => (zas gp m keys ms.tail j ds).map fun r => (d :: r.1, r.2)
   | 4 => match d with
     | .seq false es => (zas gp m keys ms.tail (j + borN es) ds).map fun r => (.seq false (zeA j es) :: r.1, r.2)
     | _ => none
   | _ => match zgo d with
     | false => (d.lift m keys).bind fun x => (zas gp m keys ms.tail j ds).map fun r => (x :: r.1, r.2)
     | true => (zi6 gp d).bind fun v => (zas gp m keys ms.tail j ds).map fun r => (.dat v.1 :: r.1, v.2 || r.2)
def St.keys (s : St) : Nat → List Nat
 | 0 => []
 | n + 1 => match s.b n with | some _ => n :: s.keys n | none => s.keys n
def zb7 (m : Nat) (keys : List Nat) : List (List D) → Option (List (List D))
 | [] => some []
 | cs :: l => (zfr m keys cs).bind fun x => (zb7 m keys l).map (x :: ·)
def zdQ (s : St) : List Nat → Option (List (List D))
 | [] => some []
 | k :: ks => (s.b k).bind fun cs => (zdQ s ks).map (cs :: ·)
def zbq : St → List (Pl × Row) → List (Option Row) → Option St
 | s, [], _ => some s
 | s, (p, r) :: ps, some q :: rs => match Nat.beq q.1 r.1 with | true => zbq (s.setPl p (.own r.1 q.2)) ps rs | false => none
 | _, _, _ => none
def Kill.sent (m : Nat) (keys : List Nat) : Kill := ⟨fun q => match q with | .cell r _ => (zad m keys r).isSome | _ => false, fun _ => false⟩
def za1 : List (Option Row) → Bool
 | [] => true
 | some r :: l => Dat.cleans r.2 && za1 l
 | none :: l => za1 l
def zbd : List (List D) → Bool
 | [] => true
 | cs :: l => zaO cs && zbd l
def St.regain (s : St) (m : Nat) (keys : List Nat) (u : List (List D)) : St :=
 { t := fun x => (s.t x).kill (Kill.sent m keys)
   b := fun n => match memN n keys with | true => (u[m + idx n keys]?).map fun cs => cs.map (D.unlift m keys) | false => s.b n
   u := ((u.take m).map fun cs => cs.map (D.unlift m keys)) ++ s.u.drop m
   l := s.l }
mutual
def D.locs : D → List Nat
 | .ptr (.loc n) _ => [n]
 | .fn _ cap => cap.filterMap fun r => match r with | .loc n => some n | .up _ => none
 | .etc (.map (.loc n)) => [n]
 | .seq _ ds => D.locss ds
 | _ => []
def D.locss : List D → List Nat
 | [] => []
 | d :: ds => D.locs d ++ D.locss ds
end
mutual
def D.hasUp : D → Bool
 | .ptr (.up _) _ => true
 | .fn _ cap => cap.any fun r => match r with | .up _ => true | .loc _ => false
 | .etc (.map (.up _)) => true
 | .seq _ ds => D.hasUps ds
 | _ => false
def D.hasUps : List D → Bool
 | [] => false
 | d :: ds => D.hasUp d || D.hasUps ds
end
def reach (s : St) : Nat → List Nat → List Nat
 | 0, l => l
 | k + 1, l => reach s k (l ++ l.flatMap fun n => match s.b n with | some cs => D.locss cs | none => [])
def St.sent (s : St) (nt : Nat) (cap : List Ref) (args : List D) : List Nat :=
 (s.keys nt).filter fun n => memN n (reach s 3 (D.locs (.fn 0 cap) ++ D.locss args))
def St.upsSent (s : St) (keys : List Nat) (cap : List Ref) (args : List D) : Nat :=
 match D.hasUp (.fn 0 cap) || D.hasUps args || keys.any (fun k => match s.b k with | some cs => D.hasUps cs | none => false) with
 | true => s.u.length
 | false => 0
def zfC (E : Env) (s : St) (x : Option Nat) (f : Nat) (cap : List Ref) (args : List D) : Option St :=
 (zan (E.mode f) args s).bind fun a =>
 (zaB a.2.get (E.mode f) a.1).bind fun ls =>
 match zaM ls with
 | false => none
 | true => match cap.isEmpty && a.1.all zgo with
   | true => (zas (hide ls false a.2.get) 0 [] (E.mode f) 0 a.1).bind fun v =>
     (E.call f v.1 [] (ls.map fun p => some p.2)).bind fun q =>
     match (v.2 && !(D.cleans q.1 && za1 q.2.2)) || !D.plains q.1 with
     | true => none
     | false => (zbq a.2 ls q.2.2).map fun s => s.putO x (retD q.1)
   | false => match ls.all fun p => !p.1.ofCell with
     | false => none
     | true =>
       let keys := a.2.sent E.nt cap a.1; let m := a.2.upsSent keys cap a.1
       (zas (hide ls true a.2.get) m keys (E.mode f) 0 a.1).bind fun v =>
       (zbD m keys cap).bind fun caps =>
       (zdQ a.2 keys).bind fun bs => (zb7 m keys (a.2.u.take m ++ bs)).bind fun us =>
       (E.call f (v.1 ++ caps.map fun r => .ptr r 0) us (ls.map fun p => some p.2)).bind fun q =>
       match (v.2 && !(D.cleans q.1 && (za1 q.2.2 && zbd q.2.1))) || !D.plains q.1 with
       | true => none
       | false => (zbq (a.2.regain m keys q.2.1) ls q.2.2).map fun s => s.putO x (retD q.1)
def zge : List Dat → Option (List UInt8)
 | [] => some []
 | .val (.int .u8 n) :: l => (zge l).map (UInt8.ofNat n.toNat :: ·)
 | _ => none
def zk0 (es : List Dat) : Option Value := (zge es).map fun l => .string ⟨l.toArray⟩
def zcq (E : Env) (s : St) (x : Option Nat) (t u : Nat) (y : Operand) : Option St :=
 (E.ty t).bind fun i => match i.kind with
  | .slice e => (E.ty e).bind fun j => (E.ty u).bind fun k => match j.kind, k.kind with
    | .int .u8, .str => (zfo s.get (s.look y)).bind fun es => (zk0 es).bind fun v => x.map fun n => s.put n (.dat (.val v))
    | _, _ => none
  | _ => none
def zlk (E : Env) (s : St) (t : Nat) (m k v : Operand) : Option St :=
 (E.ty t).bind fun i => match i.kind with
  | .map kt _ => (E.ty kt).bind fun kj => match ziU kj.kind, s.look m, s.look k, s.look v with
    | true, .etc (.map r), .dat (.val kv), .dat (.val vv) => (s.box r).bind fun cs => match isM cs with
      | true => (zgW kj.kind kv vv cs.tail).map fun ps => (s.killed (Kill.cells r 0 cs.length)).setBox r (.etc .mark :: ps)
      | false => none
    | _, _, _, _ => none
  | _ => none
def zbL (s : St) : List (Nat × D) → Option (List (Nat × Dat) × St)
 | [] => some ([], s)
 | (j, d) :: ps => (s.datD d).bind fun q => (zbL q.2 ps).map fun r => ((j, q.1) :: r.1, r.2)
def keepT (E : Env) (t : Nat) : Bool := match E.mode (1000000 + t) with | [] => false | _ => true
def zen (n : Nat) (d : D) : Bool := d.quiet || (match d with | .bor (.slot y _) _ => !Nat.beq y n | .bor _ _ => true | _ => false)
def zfq (E : Env) (s : St) (n : Nat) (i : TI) (ps : List (Nat × D)) : Option St :=
 match ps.all (fun p => zen n p.2) with
 | true => (zbX E i.fs i.zero ps).map fun cs => s.put n (aggD cs)
 | false => none
def doOp (E : Env) (s : St) (x : Option Nat) (ty : Nat) : Op → Option St
 | .assign y => (s.takeD true (s.look y)).bind fun q => match q.1.tight true with | true => some (q.2.putO x q.1) | false => none
 | .box t y => match x with
   | none => none
   | some n => (E.ty t).bind fun i => (s.takeD false (s.look y)).bind fun q =>
     match (zar q.1).all za2 && Nat.beq (zar q.1).length i.sz, q.2.b n with
     | true, none => some ((q.2.setBox (.loc n) (zar q.1)).put n (.ptr (.loc n) 0))
     | _, _ => none
 | .build t ps => (E.ty t).bind fun i => match i.agg with
   | true => match keepT E t, x with
     | true, some n => zfq E s n i (zaJ s.look ps)
     | _, _ => (zbL s (zaJ s.look ps)).bind fun q => (zbX E i.fs i.zero (q.1.map fun p => (p.1, D.dat p.2))).map fun cs => q.2.putO x (aggD cs)
   | false => none
 | .buildSlice t n ps => (E.ty t).bind fun i => match i.kind with
   | .slice e => (E.ty e).bind fun j => j.zeroD.bind fun z => (zbL s (zaJ s.look ps)).bind fun q =>
     match q.1.all (fun p => Nat.blt p.1 n && Nat.beq p.2.cells.length j.sz) && (Nat.blt 0 j.sz && Nat.ble (n * j.sz) 16777216) with
     | true => some (q.2.putO x (.own e (zbs (List.replicate n z) q.1)))
     | false => none
   | _ => none
 | .store t a y => match ze9 y with
   | true => (E.ty t).bind fun i => match i.kind with | .slice e => zcd E s t (s.look a) (.own e []) | _ => none
   | false => zcd E s t (s.look a) (s.look y)
 | .slice t y lo hi mx => match mx, s.look y with
   | none, .bor p n => (zci s.look lo).bind fun l => (zci s.look hi).bind fun h => (zcr E.ty t).bind fun st => (s.stamp p).bind fun q => (zb0 st l h (.dat (.lst false (zaT n q.1)))).map fun d => q.2.putO x d
   | _, _ => none
 | .convert t u y => zcq E s x t u y
 | .makeMap t r => match x, r with
   | some n, none => (E.ty t).bind fun i => match i.kind, s.b n with
     | .map _ _, none => some ((s.setBox (.loc n) [.etc .mark]).put n (.etc (.map (.loc n))))
     | _, _ => none
   | _, _ => none
 | .mapUpdate t m k v => zlk E s t m k v
 | .insert t m k v => zlk E s t m k v
 | .call c => match c.callee with
   | .builtin .append => match c.args.toList, c.argTypes.toList with
     | [a, b], [t, u] => (E.ty t).bind fun i => match i.kind with
       | .slice e => match Nat.beq t u with
         | true => zb9 E s x e false a b
         | false => (E.ty e).bind fun j => (E.ty u).bind fun k => match zgY j, k.kind with
           | true, .str => zb9 E s x e true a b
           | _, .int _ => zeW E s x e a b
           | _, _ => none
       | _ => none
     | _, _ => none
   | .value f => match s.look f with
     | .fn f cap => zfC E s x f cap (zay E s.look c.args.toList c.argTypes.toList)
     | _ => none
   | _ => none
 | _ => none
def step (E : Env) (s : St) (o : Oper) : Option St :=
 match evOp E s.look s.get s.box o.type o.op with
 | some e => s.apply o.dst e
 | none => doOp E s o.dst o.type o.op
def St.force (s : St) (x : Nat) (b : Bool) : St := { s with t := fun y => match Nat.beq y x with | true => .dat (.val (.bool b)) | false => s.t y }
def zby {α : Type} (ops : Array Oper) (s : St) (g : Option (Nat × Bool)) (k z : St → Option α) : Option α :=
 match g with
 | none => k s
 | some (j, want) => match (ops[j]?).bind (·.dst) with
   | none => none
   | some x => match s.t x with
     | .dat (.val (.bool b)) => match b with
       | true => match want with | true => k (s.force x true) | false => z (s.force x true)
       | false => match want with | true => z (s.force x false) | false => k (s.force x false)
     | .undef => z s
     | _ => none
def zdA (E : Env) (ops : Array Oper) : List Oper → St → Option St
 | [], s => some s
 | o :: l, s => zby ops s o.guard (fun s => (step E s o).bind (zdA E ops l)) (fun s => zdA E ops l (s.putO o.dst .undef))
def zhd : D → Bool
 | .junk => true
 | _ => false
def zdO (s : St) : List Nat → Bool
 | [] => true
 | n :: l => zhd (s.t n) && zdO s l
def zfE : Op → Bool
 | .move _ => true
 | .assign _ => true
 | .pick _ _ _ => true
 | .nilCheck _ => true
 | .binOp _ _ _ _ _ => true
 | .unOp _ _ _ => true
 | .convert _ _ _ => true
 | .makeFunc _ _ _ => true
 | .slice _ _ _ _ _ => true
 | .fieldAddr _ _ _ => true
 | .field _ _ _ => true
 | .indexAddr _ _ _ => true
 | .index _ _ _ => true
 | .extract _ _ => true
 | .build _ _ => true
 | .call c => match c.callee with
   | .builtin .len => true
   | .builtin .max => true
   | .builtin .min => true
   | _ => false
 | _ => false
def zex (E : Env) (s : St) (o : Oper) : Option St :=
 match zfE o.op, o.dst with
 | true, some n => (match evOp E s.look s.get s.box o.type o.op with | some (.pure d) => some (s.put n d) | _ => none)
 | _, _ => none
def zkZ (s : St) (n : Nat) : Bool :=
 match s.t n with
 | .ptr (.loc m) o => Nat.beq m n && Nat.beq o 0
 | _ => false
def zkJ (M : List Nat) (s : St) : Ref → Option (List D)
 | .loc n => match memN n M && zkZ s n with | true => s.b n | false => none
 | .up k => match M.any (fun n => match s.t n with | .ptr (.up j) o => Nat.beq j k && Nat.beq o 0 | _ => false) with | true => s.u[k]? | false => none
def zdF (E : Env) (M : Option (List Nat)) (first : Bool) (s : St) (o : Oper) : Option St :=
 match o.op, o.dst with
 | .load t z, some n => (E.ty t).bind fun i => match M with
   | none => (zcp i s.get s.box (s.look z)).map fun d => s.put n d
   | some M => match first with
     | true => (zcp i (fun _ => none) (zkJ M s) (s.look z)).map fun d => s.put n d
     | false => none
 | _, _ => none
def Kill.hide (M : List Nat) : Kill := ⟨fun q => match q with | .cell (.loc n) _ => memN n M | _ => false, fun r => match r with | .loc n => memN n M | _ => false⟩
def St.hid (M : List Nat) (s : St) : St :=
 { t := fun y => (s.t y).kill (Kill.hide M)
   b := fun n => match memN n M with | true => none | false => (s.b n).map (D.kills (Kill.hide M))
   u := s.u.map (D.kills (Kill.hide M))
   l := s.l }
def zlJ (s : St) (n : Nat) : Bool := match s.b n with | some cs => cs.all (fun d => match d with | .dat _ => true | _ => false) | none => false
def zjI (M : List Nat) (s : St) : Bool := M.all fun n => zkZ s n && zlJ s n
def St.shown (M : List Nat) (dst : Option Nat) (s s0 : St) : St :=
 { s with
   t := fun y => match s0.t y with
    | .ptr (.loc n) o => (match memN n M && zhd (s.t y) && (match dst with | some x => !(Nat.beq x y) | none => true) with | true => .ptr (.loc n) o | false => s.t y)
    | _ => s.t y
   b := fun n => match memN n M with | true => s0.b n | false => s.b n }
def zaA (E : Env) (M : Option (List Nat)) (s : St) (o : Oper) : Option St :=
 match M with
 | none => (evOp E s.look s.get s.box o.type o.op).bind (s.apply o.dst)
 | some M => match zjI M s with
   | false => none
   | true => (step E (s.hid M) o).bind fun s' => match M.all (fun n => (s'.b n).isNone) with | true => some (s'.shown M o.dst s) | false => none
def zeX (E : Env) (s : St) (o : Oper) : Option St :=
 match o.op, o.dst with
 | .alloc t, some n => (E.ty t).bind fun i => match s.b n with
   | none => some ((s.setBox (.loc n) i.zero).put n (.ptr (.loc n) 0))
   | some _ => none
 | _, _ => none
abbrev PRow := Nat × Nat × List Nat
abbrev Plan := Option (List Nat) × List PRow
def zaL (E : Env) (M : Option (List Nat)) (first : Bool) (k : Nat) (s : St) (o : Oper) : Option St :=
 match k with
 | 0 => zex E s o
 | 1 => zdF E M first s o
 | 2 => step E s o
 | 3 => zeX E s o
 | _ => zaA E M s o
def zjP : Op → Bool
 | .call c => match c.callee with
   | .builtin .append => match c.args.toList, c.argTypes.toList with
     | [_, _], [t, u] => Nat.beq t u
     | _, _ => false
   | _ => false
 | _ => false
def zmo (s : St) (n : Nat) : Bool :=
 match s.t n with
 | .ptr r o => Nat.beq o 0 && (s.box r).isSome
 | _ => false
def zj5 (M : Option (List Nat)) (s : St) (o : Oper) : Bool := match M with | some M => zjP o.op && M.all (zmo s) | none => false
def zjw : Op → Bool
 | .convert _ _ _ => true
 | _ => false
def zbG (s : St) (o : Oper) : Bool :=
 match o.op with
 | .load _ z => (match s.look z with | .bp (.slot _ _) _ _ => true | .ep _ _ => true | _ => false)
 | _ => false
def zbE (s : St) (o : Oper) : Bool :=
 match o.op with
 | .store _ a v => (match s.look a, s.look v with | .ptr _ _, .dat (.val _) => true | _, _ => false)
 | _ => false
def zcR : D → Bool
 | .bor (.cell (.loc _) _) none => true
 | _ => false
def zkR : D → Bool
 | .ptr _ _ => true
 | _ => false
def zes (E : Env) (s : St) (o : Oper) : Bool :=
 match o.op with
 | .load t z => (match s.look z, evOp E s.look s.get s.box o.type (.load t z) with | .ptr (.loc _) _, some (.pure d) => zcR d | _, _ => false)
 | _ => false
def zcL (E : Env) (s : St) (o : Oper) : Bool :=
 match o.op with
 | .call c => match c.callee with
   | .value z => match s.look z with
     | .fn f cap => zbh (E.mode f) && ((s.sent E.nt cap (zay E s.look c.args.toList c.argTypes.toList)).isEmpty && (zay E s.look c.args.toList c.argTypes.toList).any zkR)
     | _ => false
   | _ => false
 | _ => false
def zat (E : Env) (M : Option (List Nat)) (first : Bool) (k : Nat) (s : St) (o : Oper) : Option St :=
 match k with
 | 5 => match zj5 M s o with | true => step E s o | false => none
 | 6 => zaA E none s o
 | 7 => zaA E none s o
 | 8 => zaA E none s o
 | 9 => match zjw o.op with | true => step E s o | false => none
 | 10 => match zbG s o with | true => step E s o | false => none
 | 11 => match zbE s o with | true => step E s o | false => none
 | 12 => match M with | none => (match zes E s o with | true => step E s o | false => none) | some _ => none
 | 13 => match zcL E s o with | true => step E s o | false => none
 | k => zaL E M first k s o
def zbt (k : Nat) : Bool := match k with | 0 => true | 1 => true | 3 => true | _ => false
def zaz (E : Env) (ops : Array Oper) (M : Option (List Nat)) : Bool → List PRow → St → Option St
 | _, [], s => some s
 | first, (i, k, ds) :: l, s => match zdO s ds with
   | false => none
   | true => match ops[i]? with
     | none => none
     | some o => zby ops s o.guard (fun s => (zat E M first k s o).bind (zaz E ops M (first && zbt k) l)) (fun s => zaz E ops M (first && zbt k) l (s.putO o.dst .undef))
def St.junks (ds : List Nat) (s : St) : St := { s with t := fun y => match memN y ds with | true => .junk | false => s.t y }
def zfQ (s : St) : List Nat → Bool
 | [] => true
 | n :: l => !(s.t n).hasOwn && zfQ s l
def zhK (E : Env) (ops : Array Oper) (p : Plan) (s : St) : Option St :=
 match p.2 with
 | [] => some s
 | (i, k, ds) :: l => match zfQ s ds with
   | true => zaz E ops p.1 true ((i, k, ds) :: l) (s.junks ds)
   | false => none
def zb6 (E : Env) (id : Nat) (ops : Array Oper) (draw : Bool) (s : St) : Option St :=
 match draw with
 | false => zdA E ops ops.toList s
 | true => match E.plan id with
   | some p => zhK E ops p s
   | none => none
inductive X where
 | normal
 | exit (id : Nat)
 | ret
def zkO {α : Type} (s : St) (c : Operand) (a b : St → Option α) : Option α :=
 match c with
 | .tmp x => match s.t x with
   | .dat (.val (.bool v)) => match v with | true => a (s.force x true) | false => b (s.force x false)
   | _ => none
 | .const (.bool v) => match v with | true => a s | false => b s
 | _ => none
mutual
def D.names : D → List Nat
 | .bor (.slot x _) _ => [x]
 | .bor (.cell (.loc n) _) _ => [n]
 | .bp (.slot x _) _ _ => [x]
 | .bp (.cell (.loc n) _) _ _ => [n]
 | .ptr (.loc n) _ => [n]
 | .fn _ cap => cap.filterMap fun r => match r with | .loc n => some n | .up _ => none
 | .etc (.map (.loc n)) => [n]
 | .seq _ ds => D.namess ds
 | _ => []
def D.namess : List D → List Nat
 | [] => []
 | d :: ds => D.names d ++ D.namess ds
end
def Kill.but (L : List Nat) : Kill := ⟨fun p => match p with | .slot y _ => !memN y L | .cell (.loc n) _ => !memN n L | _ => false, fun r => match r with | .loc n => !memN n L | .up _ => false⟩
def St.norm (L : List Nat) (s : St) : St :=
 { t := fun x => match memN x L with | true => (s.t x).kill (Kill.but L) | false => .junk
   b := fun n => match memN n L with | true => (s.b n).map (D.kills (Kill.but L)) | false => none
   u := s.u.map (D.kills (Kill.but L))
   l := s.l }
def iter (f : St → Option (X × St)) (g : St → St) : Nat → St → Option (X × St)
 | 0, _ => none
 | n + 1, s => match f (g s) with
   | some (.normal, s') => iter f g n s'
   | r => r
def zaa : Code → Nat
 | .region id _ _ => id
 | .seq a _ => zaa a
 | .block _ c => zaa c
 | _ => 0
def exec (E : Env) (k : Nat) : Code → St → Option (X × St)
 | .skip, s => some (.normal, s)
 | .region id ops draw, s => (zb6 E id ops draw s).map fun s' => (.normal, s')
 | .seq a b, s => match exec E k a s with
   | some (.normal, s') => exec E k b s'
   | r => r
 | .cond c a b, s => zkO s c (exec E k a) (exec E k b)
 | .block id c, s => match exec E k c s with
   | some (.exit i, s') => match Nat.beq i id with | true => some (.normal, s') | false => some (.exit i, s')
   | r => r
 | .loop c, s => (iter (exec E k c) (St.norm (E.live (zaa c))) k s).map fun r => (r.1, r.2.norm (E.out (zaa c)))
 | .exit id, s => some (.exit id, s)
 | .ret, s => some (.ret, s)
 | _, _ => none
structure Cfg where
 ty : Nat → Option TI
 fn : Nat → Option Func
 mode : Nat → List Nat
 live : Nat → Nat → List Nat
 out : Nat → Nat → List Nat
 plan : Nat → Nat → Option Plan
 liv : Nat → Bool := fun _ => false
 ext : Nat → Option (List D → List (List D) → List (Option Row) → Option (List D × List (List D) × List (Option Row)))
def expD (lv : Bool) : D → St → Option (D × St)
 | .dat d, s => some (.dat d, s)
 | .bor p n, s => match p with
   | .slot _ _ => (s.take p).map fun q => (.own q.1.1 (zaT n q.1.2), q.2)
   | .cell (.loc _) _ => (s.take p).map fun q => (.own q.1.1 (zaT n q.1.2), q.2)
   | _ => none
 | .seq false ds, s => match lv with
   | false => (St.datD (.seq false ds) s).map fun (q : Dat × St) => (D.dat q.1, q.2)
   | true => (St.takeD false (.seq false ds) s).bind fun q => match q.1.plain && q.1.tight false with | true => some q | false => none
 | .etc .err, s => some (.etc .err, s)
 | _, _ => none
def resD (ty : Nat → Option TI) (s : St) : ResultVar → Option D
 | .tmp x => some ((s.t x).alias (.slot x []))
 | .cell x t => (ty t).bind fun i => match s.t x with
   | .ptr r o => (s.box r).bind fun cs => match isM cs with | true => none | false => loadCells i (Pl.cell r) cs o
   | _ => none
def results (ty : Nat → Option TI) (lv : Bool) : List ResultVar → St → Option (List D × St)
 | [], s => some ([], s)
 | v :: vs, s => (resD ty s v).bind fun d => (expD lv d s).bind fun q => (results ty lv vs q.2).map fun r => (q.1 :: r.1, r.2)
def start (args : List D) (u : List (List D)) (l : List (Option Row)) : St :=
 ⟨fun x => args.getD x .undef, fun _ => none, u, l⟩
def zky (rs : List ResultVar) (s : St) : Option (List D) :=
 match rs with
 | [.tmp x] => match s.t x with
   | .ptr (.loc n) 0 => (s.b n).bind fun cs => match cs.all zcE with | true => some cs | false => none
   | _ => none
 | _ => none
def zkF (ty : Nat → Option TI) (lv : Bool) (rs : List ResultVar) (ul : Nat) (s : St) : Option (List D × List (List D) × List (Option Row)) :=
 (results ty lv rs s).bind fun r => match Nat.beq r.2.u.length ul with | true => some (r.1, r.2.u.map (D.kills (Kill.but [])), r.2.l) | false => none
def zlY (ty : Nat → Option TI) (lv : Bool) (rs : List ResultVar) (u : List (List D)) (l : List (Option Row)) (s : St) : Option (List D × List (List D) × List (Option Row)) :=
 match u, l with
 | [], [] => (match zky rs s with
   | some cs => some ([.ptr (.loc 0) 0], [cs], [])
   | none => zkF ty lv rs 0 s)
 | u, l => zkF ty lv rs u.length s
def zaF (C : Cfg) (k : Nat) (call : Nat → List D → List (List D) → List (Option Row) → Option (List D × List (List D) × List (Option Row))) (f : Nat) (fn : Func)
 (args : List D) (u : List (List D)) (l : List (Option Row)) : Option (List D × List (List D) × List (Option Row)) :=
 match fn.body with
 | none => none
 | some c => match exec ⟨C.ty, C.mode, fn.ntmps, C.live f, C.out f, C.plan f, call⟩ k c (start args u l) with
   | some (.exit _, _) => none
   | some (_, s) => zlY C.ty (C.liv f) fn.results.toList u l s
   | none => none
def den (C : Cfg) : Nat → Nat → List D → List (List D) → List (Option Row) → Option (List D × List (List D) × List (Option Row))
 | 0 => fun _ _ _ _ => none
 | k + 1 => fun f args u l => match (C.ext f).bind fun g => g args u l with
   | some r => some r
   | none => match C.fn f with
     | some fn => match Nat.ble args.length fn.ntmps with | true => zaF C k (den C k) f fn args u l | false => none
     | none => none
end Go.Den
namespace Go.Den
open Go
set_option linter.unusedVariables false
inductive Role where
 | set
 | out
 | oth
 | box (r : Ref)
 | row (p : Pl)
def Rd (ρ : Nat → Role) (b : Bool) (g : Nat) : Prop := ρ g = .set ∨ (b = true ∧ ρ g = .out)
inductive Rep (ρ : Nat → Role) (W : World) : Dat → List Value → Prop where
 | val {v : Value} (h : scal v = true) : Rep ρ W (.val v) [v]
 | agg {cs : List Dat} {vs : List Value} (hl : vs.length = cs.length) (hc : ∀ (j : Nat) (d : Dat) (v : Value), cs[j]? = some d → vs[j]? = some v → d.cells = [d]) (h : ∀ (j : Nat) (d : Dat) (v : Value), cs[j]? = some d → vs[j]? = some v → Rep ρ W d [v]) : Rep ρ W (.agg cs) vs
 | nil {b : Bool} {A : Option Addr} {c : Nat} : Rep ρ W (.lst b []) [.slice A 0 c]
 | lst {b : Bool} {es : List Dat} {g o c sz : Nat} (f : Nat → List Value) (hc : es.length ≤ c) (hm : c ≤ maxLen) (hr : Rd ρ b g) (hg : g < W.heap.size) (hw : ∀ (j : Nat) (d : Dat), es[j]? = some d → (f j).length = sz)
  (hv : ∀ (j : Nat) (d : Dat), es[j]? = some d → ∀ (i : Nat) (u : Value), (f j)[i]? = some u → W.cell? ⟨g, o + j * sz + i, none⟩ = some u)
  (h : ∀ (j : Nat) (d : Dat), es[j]? = some d → Rep ρ W d (f j)) : Rep ρ W (.lst b es) [.slice (some ⟨g, o, none⟩) es.length c]
def IsV (d : Dat) (cv : List Value) (v : Value) : Prop :=
 match d with
 | .agg _ => v = .agg cv.toArray
 | _ => cv = [v]
theorem Rep.width {ρ : Nat → Role} {W : World} {d : Dat} {cv : List Value} (h : Rep ρ W d cv) : cv.length = d.cells.length := by
 cases h with
 | val h => rfl
 | agg hl hc h => exact hl
 | nil => rfl
 | lst f hc hm hr hg hw hv h => rfl
theorem Rep.mono {ρ ρ' : Nat → Role} {W W' : World} (hm : ∀ b g, Rd ρ b g → g < W.heap.size → Rd ρ' b g ∧ W'.heap[g]? = W.heap[g]?) {d : Dat} {cv : List Value} (h : Rep ρ W d cv) : Rep ρ' W' d cv := by
 induction h with
 | val h => exact .val h
 | agg hl hc h ih => exact .agg hl hc ih
 | nil => exact .nil
 | lst f hc hm' hr hg hw hv h ih =>
   obtain ⟨h1, h2⟩ := hm _ _ hr hg
   refine .lst f hc hm' h1 ?_ hw (fun j d hj i u hu => ?_) ih
   · have : ∃ o, W.heap[_]? = some o := ⟨_, Array.getElem?_eq_getElem hg⟩
     obtain ⟨o, ho⟩ := this
     rw [ho] at h2
     exact (Array.getElem?_eq_some_iff.1 h2).1
   · rw [← hv j d hj i u hu]
     exact World.cell?_of_block h2
theorem zde {v : Value} (h : scal v = true) : v.oneCell' = true := by
 cases v <;> first | rfl | (simp [scal] at h)
theorem Rep.one {ρ : Nat → Role} {W : World} {d : Dat} {v : Value} (h : Rep ρ W d [v]) (hd : d.cells = [d]) : v.oneCell' = true := by
 cases h with
 | val h => exact zde h
 | agg hl hc h =>
   rename_i cs
   exfalso
   simp only [Dat.cells] at hd
   have h2 : SizeOf.sizeOf cs = SizeOf.sizeOf [Dat.agg cs] := congrArg SizeOf.sizeOf hd
   simp at h2
   omega
 | nil => rfl
 | lst f hc hm hr hg hw hv h => rfl
theorem Rep.ones {ρ : Nat → Role} {W : World} {d : Dat} {cv : List Value} (h : Rep ρ W d cv) : ∀ u ∈ cv, u.oneCell' = true := by
 intro u hu
 cases h with
 | val h => simp only [List.mem_singleton] at hu; rw [hu]; exact zde h
 | agg hl hc h =>
   obtain ⟨j, hj, rfl⟩ := List.getElem_of_mem hu
   have h1 := List.getElem?_eq_getElem (l := cv) hj
   have h2 := List.getElem?_eq_getElem (show j < _ from hl ▸ hj)
   exact (h j _ _ h2 h1).one (hc j _ _ h2 h1)
 | nil => simp only [List.mem_singleton] at hu; rw [hu]; rfl
 | lst f hc hm hr hg hw hv h => simp only [List.mem_singleton] at hu; rw [hu]; rfl
structure Cx where
 ty : Nat → Option TI
 ρ : Nat → Role
 β : Ref → Nat
 H : Pl → Value
 W : World
 s : St
def Pl.subs (p : Pl) (l : List Nat) : Pl := match p with | .slot x q => .slot x (q ++ l) | p => p
theorem Pl.sub_subs (p : Pl) (i : Nat) (l : List Nat) : (p.sub i).subs l = p.subs (i :: l) := by
 cases p <;> simp [Pl.sub, Pl.subs]
theorem Pl.subs_nil (p : Pl) : p.subs [] = p := by cases p <;> simp [Pl.subs]
structure RepRow (ρ : Nat → Role) (W : World) (sz : Nat) (es : List Dat) (xs : List Value) : Prop where
 len : xs.length = es.length * sz
 rep : ∀ (j : Nat) (d : Dat), es[j]? = some d → Rep ρ W d ((xs.drop (j * sz)).take sz)
 wid : ∀ (j : Nat) (d : Dat), es[j]? = some d → d.cells.length = sz
structure RowOK (c : Cx) (p : Pl) (e : Nat) (es : List Dat) : Prop where mk ::
 out : ∃ i xs, c.ty e = some i ∧ c.W.ownsRow 0 e i.sz (c.H p) es.length xs ∧ RepRow c.ρ c.W i.sz es xs ∧ ∀ g, (c.H p).ownBlock = some g → c.ρ g = .row p
def VCok (c : Cx) : VC → Value → Prop
 | .d x, u => x.cells = [x] ∧ Rep c.ρ c.W x [u]
 | .b j, u => ∃ e es A k, c.s.get (.lent j) = some (e, es) ∧ c.H (.lent j) = .slice A es.length k ∧ u = .slice A es.length k
def EtcV (c : Cx) : Etc → Value → Prop
 | .map r, v => (c.s.box r).isSome = true ∧ v = .map (some (c.β r))
 | .mark, v => v = .bool true
 | .err, v => ∃ t u, v = .iface t u
 | .vp cs o, v => ∃ (g : Nat) (vs : List Value), v = .pointer (some ⟨g, o, none⟩) ∧ Rd c.ρ false g ∧ g < c.W.heap.size ∧ vs.length = cs.length ∧ ∀ (i : Nat) (x : VC) (u : Value), cs[i]? = some x → vs[i]? = some u → c.W.cell? ⟨g, i, none⟩ = some u ∧ VCok c x u
theorem EtcV.one {c : Cx} {e : Etc} {v : Value} (h : EtcV c e v) : v.oneCell' = true ∧ v.cells = #[v] := by
 cases e with
 | map r => rw [h.2]; exact ⟨rfl, rfl⟩
 | mark => rw [show v = .bool true from h]; exact ⟨rfl, rfl⟩
 | err => obtain ⟨t, u, rfl⟩ := h; exact ⟨rfl, rfl⟩
 | vp cs o => obtain ⟨g, vs, rfl, _⟩ := h; exact ⟨rfl, rfl⟩
mutual
def VR (c : Cx) (p : Pl) : D → Value → Prop
 | .dat d, v => ∃ cv, Rep c.ρ c.W d cv ∧ IsV d cv v
 | .own e es, v => v = c.H p ∧ RowOK c p e es
 | .bor q n, v => ∃ e es A k, c.s.get q = some (e, es) ∧ c.H q = .slice A es.length k ∧ match n with
   | none => v = .slice A es.length k
   | some m => m ≤ es.length ∧ v = .slice A m k
 | .sb q l z, v => ∃ e es A k, c.s.get q = some (e, es) ∧ c.H q = .slice A es.length k ∧ l ≤ es.length ∧ (∃ i, c.ty e = some i ∧ i.sz = z) ∧ v = .slice (if k = l then A else A.map (·.add (l * z))) (es.length - l) (k - l)
 | .bp q j o, v => ∃ e es g k i, c.s.get q = some (e, es) ∧ c.H q = .slice (some ⟨g, 0, none⟩) es.length k ∧ j < es.length ∧ c.ty e = some i ∧ v = .pointer (some ⟨g, j * i.sz + o, none⟩)
 | .ep b cs, v => ∃ (g o : Nat) (vs : List Value), v = .pointer (some ⟨g, o, none⟩) ∧ Rd c.ρ b g ∧ g < c.W.heap.size ∧ vs.length = cs.length ∧ ∀ (i : Nat) (d : Dat) (u : Value), cs[i]? = some d → vs[i]? = some u → d.cells = [d] ∧ Rep c.ρ c.W d [u] ∧ c.W.cell? ⟨g, o + i, none⟩ = some u
 | .ptr r o, v => (c.s.box r).isSome = true ∧ v = .pointer (some ⟨c.β r, o, none⟩)
 | .fn f cap, v => (∀ r ∈ cap, (c.s.box r).isSome = true) ∧ v = .func (.func f) #[] (cap.map fun r => Value.pointer (some ⟨c.β r, 0, none⟩)).toArray
 | .seq t ds, v => ∃ vs : List Value, v = (if t = true then .tuple vs.toArray else .agg vs.toArray) ∧ (t = false → ∀ u ∈ vs, u.oneCell' = true) ∧ VRs c p 0 ds vs
 | .etc e, v => EtcV c e v
 | .undef, v => v = undef
 | .junk, _ => True
def VRs (c : Cx) (p : Pl) : Nat → List D → List Value → Prop
 | _, [], vs => vs = []
 | i, d :: ds, vs => ∃ v vs', vs = v :: vs' ∧ VR c (p.sub i) d v ∧ VRs c p (i + 1) ds vs'
end
structure BT where
 t : Nat
 b : Nat → Nat
def zae (b : Nat → Nat) : Nat → List Value → List MapEntry
 | i, k :: v :: l => ⟨k, v, b i⟩ :: zae b (i + 1) l
 | _, _ => []
def zgb (m : Bool) (T : BT) (vs : List Value) : Obj :=
 match m with
 | false => .cells vs.toArray T.t (0, 0)
 | true => .map (zae T.b 0 vs.tail).toArray T.t
def zap : D → Bool
 | .dat _ => true
 | .own _ _ => true
 | .fn _ _ => true
 | .ptr _ _ => true
 | .etc (.vp _ _) => false
 | .etc _ => true
 | .junk => true
 | _ => false
theorem zdX {sl : Bool} {d : D} (h : zap d = true) : d.tight sl = true := by
 cases d with
 | etc e => cases e <;> first | rfl | cases h
 | dat _ => rfl
 | own _ _ => rfl
 | fn _ _ => rfl
 | ptr _ _ => rfl
 | junk => rfl
 | _ => cases h
structure BoxOK (c : Cx) (r : Ref) (cs : List D) : Prop where mk ::
 out : ∃ (vs : List Value) (T : BT), c.W.heap[c.β r]? = some (zgb (isM cs) T vs) ∧ c.ρ (c.β r) = .box r ∧ vs.length = cs.length ∧ ∀ (i : Nat) (d : D) (v : Value), cs[i]? = some d → vs[i]? = some v → VR c (.cell r i) d v ∧ v.oneCell' = true ∧ zap d = true
structure Sim (c : Cx) (tm : Array Value) : Prop where
 slots : ∀ x, VR c (.slot x []) (c.s.t x) (tm.getD x undef)
 boxes : ∀ r cs, c.s.box r = some cs → BoxOK c r cs
 lent : ∀ j r, c.s.get (.lent j) = some r → RowOK c (.lent j) r.1 r.2
structure Mono (c c' : Cx) (k : Kill) (ch : Pl → Prop) : Prop where
 ty : c'.ty = c.ty
 rd : ∀ b g, Rd c.ρ b g → g < c.W.heap.size → Rd c'.ρ b g ∧ c'.W.heap[g]? = c.W.heap[g]?
 pl : ∀ q r, c.s.get q = some r → k.pl q = false → c'.s.get q = some r ∧ c'.H q = c.H q
 ref : ∀ r, (c.s.box r).isSome = true → k.ref r = false → (c'.s.box r).isSome = true ∧ c'.β r = c.β r
 row : ∀ q, ¬ ch q → c'.H q = c.H q ∧ ∀ g, c.ρ g = .row q → g < c.W.heap.size → c'.ρ g = .row q ∧ c'.W.heap[g]? = c.W.heap[g]?
structure MonoW (c c' : Cx) (k : Kill) (ch : Pl → Prop) : Prop where
 ty : c'.ty = c.ty
 rd : ∀ b g, Rd c.ρ b g → g < c.W.heap.size → Rd c'.ρ b g ∧ c'.W.heap[g]? = c.W.heap[g]?
 pl : ∀ q e es, c.s.get q = some (e, es) → k.pl q = false → (∃ es', c'.s.get q = some (e, es') ∧ es'.length = es.length) ∧ c'.H q = c.H q
 ref : ∀ r, (c.s.box r).isSome = true → k.ref r = false → (c'.s.box r).isSome = true ∧ c'.β r = c.β r
 row : ∀ q, ¬ ch q → c'.H q = c.H q ∧ ∀ g, c.ρ g = .row q → g < c.W.heap.size → c'.ρ g = .row q ∧ c'.W.heap[g]? = c.W.heap[g]?
theorem Mono.weak {c c' : Cx} {k : Kill} {ch : Pl → Prop} (m : Mono c c' k ch) : MonoW c c' k ch :=
 ⟨m.ty, m.rd, fun q e es h hk => ⟨⟨es, (m.pl q _ h hk).1, rfl⟩, (m.pl q _ h hk).2⟩, m.ref, m.row⟩
theorem RepRow.mono {ρ ρ' : Nat → Role} {W W' : World} (hm : ∀ b g, Rd ρ b g → g < W.heap.size → Rd ρ' b g ∧ W'.heap[g]? = W.heap[g]?) {sz : Nat} {es : List Dat} {xs : List Value} (h : RepRow ρ W sz es xs) : RepRow ρ' W' sz es xs :=
 ⟨h.len, fun j d hj => (h.rep j d hj).mono hm, h.wid⟩
theorem zd4 {w w' : World} {base : Nat} {e : TypeId} {size n : Nat} {v : Value} {xs : List Value} (h : w.ownsRow base e size v n xs) (hm : ∀ g, v.ownBlock = some g → w'.heap[g]? = w.heap[g]?) : w'.ownsRow base e size v n xs := by
 refine ⟨h.1, ?_⟩
 rcases h.2 with hn | ⟨g, cap, cur, rfl, hb, hg, r⟩
 · exact .inl hn
 · exact .inr ⟨g, cap, cur, rfl, hb, (hm g rfl).trans hg, r⟩
theorem zbm {w : World} {base : Nat} {e : TypeId} {size n : Nat} {v : Value} {xs : List Value} (h : w.ownsRow base e size v n xs) {g : Nat} (hg : v.ownBlock = some g) : g < w.heap.size := (World.ownsRow.lt h g hg).2
theorem RowOK.monoW {c c' : Cx} {k : Kill} {ch : Pl → Prop} (m : MonoW c c' k ch) {p : Pl} {e : Nat} {es : List Dat} (h : RowOK c p e es) (hp : ¬ ch p) : RowOK c' p e es := by
 obtain ⟨i, xs, h1, h2, h3, h4⟩ := h.out
 obtain ⟨hH, hrow⟩ := m.row p hp
 refine ⟨i, xs, by rw [m.ty]; exact h1, ?_, h3.mono m.rd, ?_⟩
 · rw [hH]
   exact zd4 h2 fun g hg => (hrow g (h4 g hg) (zbm h2 hg)).2
 · intro g hg
   rw [hH] at hg
   exact (hrow g (h4 g hg) (zbm h2 hg)).1
mutual
theorem VR.monoW {c c' : Cx} {k : Kill} {ch : Pl → Prop} (m : MonoW c c' k ch) : ∀ (p : Pl) (d : D) (v : Value), (∀ l r, (D.at_ l d).row? = some r → ¬ ch (p.subs l)) → VR c p d v → VR c' p (d.kill k) v
 | p, .dat d, v, hp, ⟨cv, h1, h2⟩ => ⟨cv, h1.mono m.rd, h2⟩
 | p, .own e es, v, hp, ⟨h1, h2⟩ => by
   have hpp : ¬ ch p := by have := hp [] (e, es) rfl; rwa [Pl.subs_nil] at this
   exact ⟨by rw [h1]; exact ((m.row p hpp).1).symm, h2.monoW m hpp⟩
 | p, .bor q n, v, hp, ⟨e, es, A, kk, h1, h2, h3⟩ => by
   simp only [D.kill]
   cases hk : k.pl q with
   | true => trivial
   | false =>
     obtain ⟨⟨es', h4, hl⟩, h5⟩ := m.pl q _ _ h1 hk
     exact ⟨e, es', A, kk, h4, by rw [h5, hl]; exact h2, by rw [hl]; exact h3⟩
 | p, .sb q l z, v, hp, ⟨e, es, A, kk, h1, h2, h3, ⟨i, h8, h9⟩, h4⟩ => by
   simp only [D.kill]
   cases hk : k.pl q with
   | true => trivial
   | false =>
     obtain ⟨⟨es', h6, hl⟩, h7⟩ := m.pl q _ _ h1 hk
     exact ⟨e, es', A, kk, h6, by rw [h7, hl]; exact h2, by rw [hl]; exact h3, ⟨i, by rw [m.ty]; exact h8, h9⟩, by rw [hl]; exact h4⟩
 | p, .bp q j o, v, hp, ⟨e, es, g, kk, i, h1, h2, h3, h4, h5⟩ => by
   simp only [D.kill]
   cases hk : k.pl q with
   | true => trivial
   | false =>
     obtain ⟨⟨es', h6, hl⟩, h7⟩ := m.pl q _ _ h1 hk
     exact ⟨e, es', g, kk, i, h6, by rw [h7, hl]; exact h2, by rw [hl]; exact h3, by rw [m.ty]; exact h4, h5⟩
 | p, .ep b cs, v, hp, ⟨g, o, vs, h1, h2, h3, h4, h5⟩ => by
   obtain ⟨h6, h7⟩ := m.rd b g h2 h3
   refine ⟨g, o, vs, h1, h6, ?_, h4, fun i d u hd hu => ?_⟩
   · obtain ⟨ob, ho⟩ : ∃ ob, c.W.heap[g]? = some ob := ⟨_, Array.getElem?_eq_getElem h3⟩
     rw [ho] at h7
     exact (Array.getElem?_eq_some_iff.1 h7).1
   · obtain ⟨h8, h9, h10⟩ := h5 i d u hd hu
     exact ⟨h8, h9.mono m.rd, by rw [← h10]; exact World.cell?_of_block h7⟩
 | p, .ptr r o, v, hp, ⟨h1, h2⟩ => by
   simp only [D.kill]
   cases hk : k.ref r with
   | true => trivial
   | false =>
     obtain ⟨h3, h4⟩ := m.ref r h1 hk
     exact ⟨h3, by rw [h4]; exact h2⟩
 | p, .fn f cap, v, hp, ⟨h1, h2⟩ => by
   simp only [D.kill]
   cases hk : cap.any k.ref with
   | true => trivial
   | false =>
     have hk' : ∀ r ∈ cap, k.ref r = false := by simpa using hk
     refine ⟨fun r hr => (m.ref r (h1 r hr) (hk' r hr)).1, ?_⟩
     rw [h2]
     congr 2
     exact List.map_congr_left fun r hr => by rw [(m.ref r (h1 r hr) (hk' r hr)).2]
 | p, .seq t ds, v, hp, ⟨vs, h1, h2, h3⟩ => ⟨vs, h1, h2, VRs.monoW m p 0 ds vs (fun i l r h => by rw [Nat.zero_add]; exact hp (i :: l) r h) h3⟩
 | p, .etc (.map r), v, hp, ⟨h1, h2⟩ => by
   simp only [D.kill]
   cases hk : k.ref r with
   | true => trivial
   | false =>
     obtain ⟨h3, h4⟩ := m.ref r h1 hk
     exact ⟨h3, by rw [h4]; exact h2⟩
 | p, .etc .mark, v, hp, h => h
 | p, .etc .err, v, hp, h => h
 | p, .etc (.vp cs o), v, hp, ⟨g, vs, h1, h2, h3, h4, h5⟩ => by
   simp only [D.kill]
   cases hk : cs.any (VC.hit k.pl) with
   | true => trivial
   | false =>
     obtain ⟨h6, h7⟩ := m.rd false g h2 h3
     refine ⟨g, vs, h1, h6, ?_, h4, fun i x u hx hu => ?_⟩
     · obtain ⟨ob, ho⟩ : ∃ ob, c.W.heap[g]? = some ob := ⟨_, Array.getElem?_eq_getElem h3⟩
       rw [ho] at h7
       exact (Array.getElem?_eq_some_iff.1 h7).1
     · obtain ⟨h8, h9⟩ := h5 i x u hx hu
       refine ⟨by rw [← h8]; exact World.cell?_of_block h7, ?_⟩
       have hn := (List.any_eq_false.1 hk) x (List.mem_of_getElem? hx)
       cases x with
       | d x => exact ⟨h9.1, h9.2.mono m.rd⟩
       | b j =>
         obtain ⟨e, es, A, n, h10, h11, h12⟩ := h9
         obtain ⟨⟨es', h13, h14⟩, h15⟩ := m.pl (.lent j) e es h10 (by simpa [VC.hit] using hn)
         exact ⟨e, es', A, n, h13, by rw [h15, h14]; exact h11, by rw [h14]; exact h12⟩
 | p, .undef, v, hp, h => h
 | p, .junk, v, hp, h => trivial
theorem VRs.monoW {c c' : Cx} {k : Kill} {ch : Pl → Prop} (m : MonoW c c' k ch) : ∀ (p : Pl) (i : Nat) (ds : List D) (vs : List Value), (∀ i' l r, (D.at_ l (ds.getD i' .junk)).row? = some r → ¬ ch (p.subs ((i + i') :: l))) → VRs c p i ds vs → VRs c' p i (D.kills k ds) vs
 | p, i, [], vs, hp, h => h
 | p, i, d :: ds, vs, hp, ⟨v, vs', h1, h2, h3⟩ =>
   ⟨v, vs', h1, VR.monoW m (p.sub i) d v (fun l r h => by rw [Pl.sub_subs]; exact hp 0 l r h) h2, VRs.monoW m p (i + 1) ds vs' (fun i' l r h => by rw [show i + 1 + i' = i + (i' + 1) by omega]; exact hp (i' + 1) l r h) h3⟩
end
theorem RowOK.mono {c c' : Cx} {k : Kill} {ch : Pl → Prop} (m : Mono c c' k ch) {p : Pl} {e : Nat} {es : List Dat} (h : RowOK c p e es) (hp : ¬ ch p) : RowOK c' p e es := h.monoW m.weak hp
theorem VR.mono {c c' : Cx} {k : Kill} {ch : Pl → Prop} (m : Mono c c' k ch) (p : Pl) (d : D) (v : Value) (hp : ∀ l r, (D.at_ l d).row? = some r → ¬ ch (p.subs l)) (h : VR c p d v) : VR c' p (d.kill k) v := VR.monoW m.weak p d v hp h
def Kill.none : Kill := ⟨fun _ => false, fun _ => false⟩
mutual
theorem zbb : ∀ d : D, d.kill Kill.none = d
 | .dat d => rfl
 | .own e es => rfl
 | .bor q n => rfl
 | .bp q j o => rfl
 | .sb q l z => rfl
 | .ep b cs => rfl
 | .ptr r o => rfl
 | .fn f cap => by
   have h : cap.any (fun _ => false) = false := by induction cap <;> simp_all
   simp only [D.kill, Kill.none, h]
 | .seq t ds => by rw [D.kill, zd0 ds]
 | .etc (.vp cs o) => by
   have h : cs.any (VC.hit fun _ => false) = false := List.any_eq_false.2 fun x _ => by cases x <;> simp [VC.hit]
   simp only [D.kill, Kill.none, h]
 | .etc (.map _) => rfl
 | .etc .mark => rfl
 | .etc .err => rfl
 | .undef => rfl
 | .junk => rfl
theorem zd0 : ∀ ds : List D, D.kills Kill.none ds = ds
 | [] => rfl
 | d :: ds => by rw [D.kills, zbb d, zd0 ds]
end
theorem VR.same {c c' : Cx} {ch : Pl → Prop} (m : Mono c c' Kill.none ch) {p : Pl} {d : D} {v : Value} (hp : ∀ l r, (D.at_ l d).row? = some r → ¬ ch (p.subs l)) (h : VR c p d v) : VR c' p d v := by
 have := VR.mono m p d v hp h
 rwa [zbb] at this
end Go.Den
namespace Go.Den
open Go
set_option linter.unusedVariables false
theorem beq_eq {a b : Nat} : Nat.beq a b = true ↔ a = b := by simp
theorem beq_ne {a b : Nat} : Nat.beq a b = false ↔ a ≠ b := by
 cases h : Nat.beq a b with
 | true => simp [Nat.eq_of_beq_eq_true h]
 | false => simp [Nat.ne_of_beq_eq_false h]
theorem Ref.is_eq {a b : Ref} : a.is b = true ↔ a = b := by
 cases a <;> cases b <;> simp [Ref.is]
theorem zhu : ∀ {a b : List Nat}, ze5 a b = true ↔ a = b
 | [], [] => by simp [ze5]
 | [], _ :: _ => by simp [ze5]
 | _ :: _, [] => by simp [ze5]
 | a :: p, b :: q => by simp [ze5, zhu (a := p) (b := q)]
theorem Pl.is_eq {a b : Pl} : a.is b = true ↔ a = b := by
 cases a <;> cases b <;> simp [Pl.is, zhu, Ref.is_eq]
theorem Pl.is_ne {a b : Pl} : a.is b = false ↔ a ≠ b := by
 cases h : a.is b with
 | true => simp [Pl.is_eq.1 h]
 | false => simp; intro e; rw [Pl.is_eq.2 e] at h; cases h
theorem VRs.at_ {c : Cx} {p : Pl} : ∀ {ds : List D} {k : Nat} {vs : List Value} {i : Nat} {d : D}, VRs c p k ds vs → ds[i]? = some d → ∃ v, vs[i]? = some v ∧ VR c (p.sub (k + i)) d v
 | [], k, vs, i, d, h, hd => by simp at hd
 | d0 :: ds, k, vs, 0, d, ⟨v, vs', h1, h2, h3⟩, hd => by
   simp at hd
   subst hd
   exact ⟨v, by rw [h1]; rfl, h2⟩
 | d0 :: ds, k, vs, i + 1, d, ⟨v, vs', h1, h2, h3⟩, hd => by
   obtain ⟨u, h4, h5⟩ := VRs.at_ (i := i) h3 (by simpa using hd)
   exact ⟨u, by rw [h1]; simpa using h4, by rwa [show k + (i + 1) = k + 1 + i by omega]⟩
theorem VRs.len {c : Cx} {p : Pl} : ∀ {ds : List D} {k : Nat} {vs : List Value}, VRs c p k ds vs → vs.length = ds.length
 | [], k, vs, h => by cases h; rfl
 | d0 :: ds, k, vs, ⟨v, vs', h1, h2, h3⟩ => by rw [h1]; simp [VRs.len h3]
theorem VRs.mk {c : Cx} {p : Pl} : ∀ {ds : List D} {k : Nat} {vs : List Value}, vs.length = ds.length → (∀ i d v, ds[i]? = some d → vs[i]? = some v → VR c (p.sub (k + i)) d v) → VRs c p k ds vs
 | [], k, vs, hl, h => by simpa [VRs] using hl
 | d0 :: ds, k, [], hl, h => by simp at hl
 | d0 :: ds, k, v :: vs, hl, h =>
   ⟨v, vs, rfl, by simpa using h 0 d0 v rfl rfl, VRs.mk (by simpa using hl) fun i d u h1 h2 => by
    have := h (i + 1) d u (by simpa using h1) (by simpa using h2)
    rwa [show k + 1 + i = k + (i + 1) by omega]⟩
theorem VR.atRow {c : Cx} : ∀ {l : List Nat} {p : Pl} {d : D} {v : Value} {r : Row}, VR c p d v → (D.at_ l d).row? = some r → RowOK c (p.subs l) r.1 r.2
 | [], p, d, v, r, h, hr => by
   rw [Pl.subs_nil]
   cases d <;> simp [D.at_, D.row?] at hr
   subst hr
   exact h.2
 | i :: l, p, d, v, r, h, hr => by
   cases d <;> simp [D.at_, D.row?] at hr
   rename_i t ds
   obtain ⟨vs, _, _, h3⟩ := h
   cases hd : ds[i]? with
   | none =>
     rw [hd] at hr
     exfalso
     revert hr
     have : ∀ l : List Nat, (D.at_ l D.junk).row? = none := fun l => by cases l <;> rfl
     simp [D.row?] at this
     simp [this]
   | some d' =>
     rw [hd] at hr
     obtain ⟨u, _, h4⟩ := h3.at_ hd
     have := VR.atRow (l := l) h4 (by simpa [D.row?] using hr)
     rw [Pl.sub_subs] at this
     simpa using this
theorem Sim.row {c : Cx} {tm : Array Value} (h : Sim c tm) {p : Pl} {r : Row} (hg : c.s.get p = some r) : RowOK c p r.1 r.2 := by
 cases p with
 | slot x q =>
   have := VR.atRow (l := q) (h.slots x) hg
   simpa [Pl.subs] using this
 | cell r0 o =>
   simp only [St.get, Option.bind_eq_some_iff] at hg
   obtain ⟨cs, hb, d, hd, hr⟩ := hg
   obtain ⟨vs, T, h1, h2, h3, h4⟩ := (h.boxes r0 cs hb).out
   have hlt : o < vs.length := by rw [h3]; exact (List.getElem?_eq_some_iff.1 hd).1
   obtain ⟨h5, _, _⟩ := h4 o d _ hd (List.getElem?_eq_getElem hlt)
   cases d <;> simp [D.row?] at hr
   subst hr
   exact h5.2
 | lent j => exact h.lent j r hg
mutual
theorem zbr : ∀ (l : List Nat) (d : D), d.hasOwn = false → (D.at_ l d).row? = none
 | [], d, h => by cases d <;> first | rfl | exact Bool.noConfusion h
 | i :: l, d, h => by
   cases d with
   | seq t ds =>
     exact zhB i l ds h
   | _ => rfl
theorem zhB : ∀ (i : Nat) (l : List Nat) (ds : List D), D.hasOwns ds = false → (D.at_ l (ds.getD i .junk)).row? = none
 | i, l, [], h => by
   simp only [List.getD_nil]
   cases l <;> rfl
 | 0, l, d :: ds, h => by
   have h' : (D.hasOwn d || D.hasOwns ds) = false := h
   exact zbr l d (Bool.or_eq_false_iff.1 h').1
 | i + 1, l, d :: ds, h => by
   have h' : (D.hasOwn d || D.hasOwns ds) = false := h
   exact zhB i l ds (Bool.or_eq_false_iff.1 h').2
end
def zaI (x : Nat) (q : Pl) : Prop := ∃ l, q = .slot x l
theorem Kill.slot_pl {x : Nat} {q : Pl} : (Kill.slot x).pl q = true ↔ zaI x q := by
 cases q with
 | slot y l =>
   constructor
   · intro h; exact ⟨l, by rw [beq_eq.1 h]⟩
   · rintro ⟨l', h⟩; cases h; exact beq_eq.2 rfl
 | _ => simp [Kill.slot, zaI]
theorem Kill.slot_pl' {x : Nat} {q : Pl} (h : (Kill.slot x).pl q = false) : ¬ zaI x q := fun e => by rw [Kill.slot_pl.2 e] at h; cases h
theorem zjZ {x y : Nat} (h : y ≠ x) (l : List Nat) : ¬ zaI x ((Pl.slot y []).subs l) := by
 rintro ⟨l', h'⟩
 simp [Pl.subs] at h'
 exact h h'.1
theorem zfu {x : Nat} (r : Ref) (o : Nat) (l : List Nat) : ¬ zaI x ((Pl.cell r o).subs l) := by
 rintro ⟨l', h'⟩
 simp [Pl.subs] at h'
theorem zlg {tm : Array Value} {x y : Nat} {v : Value} (hx : x < tm.size) : (tm.setIfInBounds x v).getD y undef = if y = x then v else tm.getD y undef := by
 by_cases h : y = x
 · subst h; simp [hx]
 · rw [if_neg h]
   have h' : x ≠ y := fun e => h e.symm
   simp [Array.getD_eq_getD_getElem?, Array.getElem?_setIfInBounds_ne h']
theorem znj {s : St} {x : Nat} {d : D} : (s.put x d).b = s.b ∧ (s.put x d).u = s.u ∧ (s.put x d).l = s.l := by
 unfold St.put; cases (s.t x).hasOwn <;> exact ⟨rfl, rfl, rfl⟩
theorem zc1 {s : St} {x : Nat} {d : D} (r : Ref) : (s.put x d).box r = s.box r := by
 obtain ⟨h1, h2, h3⟩ := znj (s := s) (x := x) (d := d)
 cases r <;> simp [St.box, h1, h2]
def zcB (s : St) (x : Nat) : Kill := match (s.t x).hasOwn with | true => Kill.slot x | false => Kill.none
theorem zlb (s : St) (x : Nat) (d : D) : (s.put x d).t x = d.kill (zcB s x) := by
 have hb : Nat.beq x x = true := beq_eq.2 rfl
 unfold St.put zcB
 cases (s.t x).hasOwn with
 | true => simp only [hb]
 | false => simp only [hb, zbb]
theorem zls (s : St) {x y : Nat} (d : D) (h : y ≠ x) : (s.put x d).t y = (s.t y).kill (zcB s x) := by
 have hb : Nat.beq y x = false := beq_ne.2 h
 unfold St.put zcB
 cases (s.t x).hasOwn with
 | true => simp only [hb]
 | false => simp only [hb, zbb]
theorem zaZ {k : Kill} : ∀ (l : List Nat) (d : D), (D.at_ l (d.kill k)).row? = (D.at_ l d).row?
 | [], d => by
   cases d <;> simp only [D.kill, D.at_] <;> first | rfl | (split <;> rfl) | (split <;> first | rfl | (split <;> rfl))
 | i :: l, d => by
   cases d with
   | seq t ds =>
     simp only [D.kill, D.at_]
     have : (D.kills k ds).getD i .junk = (ds.getD i .junk).kill k := by
      induction ds generalizing i with
      | nil => simp [D.kills, D.kill]
      | cons d0 ds ih => cases i with
        | zero => simp [D.kills]
        | succ i => simpa [D.kills] using ih i
     rw [this]
     exact zaZ l _
   | _ => simp only [D.kill, D.at_] <;> first | rfl | (split <;> rfl) | (split <;> first | rfl | (split <;> rfl))
theorem zhY {s : St} {x : Nat} {d : D} {q : Pl} (hq : ¬ zaI x q) : (s.put x d).get q = s.get q := by
 cases q with
 | slot y l =>
   have hy : y ≠ x := fun e => hq ⟨l, by rw [e]⟩
   have hb : Nat.beq y x = false := beq_ne.2 hy
   simp only [St.get, St.put]
   cases (s.t x).hasOwn with
   | true => simp only [hb]; exact zaZ l _
   | false => simp only [hb]
 | cell r o => simp only [St.get, zc1]
 | lent j => simp only [St.get, (znj (s := s) (x := x) (d := d)).2.2]
theorem Sim.putZ {c c1 : Cx} {tm : Array Value} {x : Nat} {d : D} {v : Value} {Z : Pl → Prop} (hs : Sim c tm) (hx : x < tm.size) (h1 : c1.s = c.s) (hZ : ∀ q r, c.s.get q = some r → ¬ Z q) (m : Mono c c1 (Kill.slot x) (fun q => zaI x q ∨ Z q))
 (hρ : ∀ r, (c.s.box r).isSome = true → c1.β r = c.β r ∧ c1.ρ (c.β r) = c.ρ (c.β r) ∧ c1.W.heap[c.β r]? = c.W.heap[c.β r]?) (hv : VR c1 (.slot x []) d v) :
 Sim { c1 with s := c.s.put x d } (tm.setIfInBounds x v) := by
 have hget : ∀ q r, c.s.get q = some r → (zcB c.s x).pl q = false → ¬ zaI x q := by
  intro q r hq hk
  unfold zcB at hk
  cases ho : (c.s.t x).hasOwn with
  | true => rw [ho] at hk; exact Kill.slot_pl' hk
  | false =>
    rintro ⟨l, rfl⟩
    simp only [St.get] at hq
    rw [zbr l _ ho] at hq
    cases hq
 have m2 : Mono c { c1 with s := c.s.put x d } (zcB c.s x) (fun q => zaI x q ∨ Z q) := by
  refine ⟨m.ty, m.rd, fun q r hq hk => ?_, fun r hr hk => ⟨by simpa [zc1] using hr, (hρ r hr).1⟩, m.row⟩
  have hnu := hget q r hq hk
  refine ⟨(zhY hnu).trans hq, (m.pl q r hq ?_).2⟩
  cases h : (Kill.slot x).pl q with
  | true => exact absurd (Kill.slot_pl.1 h) hnu
  | false => rfl
 have m3 : Mono c1 { c1 with s := c.s.put x d } (zcB c.s x) (fun _ => False) := by
  refine ⟨rfl, fun b g h hg => ⟨h, rfl⟩, fun q r hq hk => ?_, fun r hr hk => ⟨by rw [h1] at hr; simpa [zc1] using hr, rfl⟩, fun q _ => ⟨rfl, fun g h hg => ⟨h, rfl⟩⟩⟩
  rw [h1] at hq
  exact ⟨(zhY (hget q r hq hk)).trans hq, rfl⟩
 refine ⟨fun y => ?_, fun r cs hb => ?_, fun j r hg => ?_⟩
 · rw [zlg hx]
   by_cases hy : y = x
   · subst hy
     rw [if_pos rfl]
     have h4 := VR.mono m3 _ _ _ (fun _ _ _ h => h) hv
     rw [← zlb] at h4
     exact h4
   · rw [if_neg hy]
     have h4 := VR.mono m2 _ _ _ (fun l r hr e => by
      rcases e with e | e
      · exact zjZ hy l e
      · have e0 : (Pl.slot y []).subs l = Pl.slot y l := by simp [Pl.subs]
        rw [e0] at e
        exact hZ (.slot y l) r hr e) (hs.slots y)
     rw [← zls c.s d hy] at h4
     exact h4
 · rw [zc1] at hb
   obtain ⟨vs, T, h5, h6, h7, h8⟩ := (hs.boxes r cs hb).out
   obtain ⟨h9, h10, h11⟩ := hρ r (by rw [hb]; rfl)
   refine ⟨vs, T, by show c1.W.heap[c1.β r]? = _; rw [h9, h11]; exact h5, by show c1.ρ (c1.β r) = _; rw [h9, h10]; exact h6, h7, fun i d' v' hd hv' => ?_⟩
   obtain ⟨h12, h13, h14⟩ := h8 i d' v' hd hv'
   refine ⟨?_, h13, h14⟩
   have h15 := VR.mono m2 _ _ _ (fun l r' hr e => by
    rcases e with e | e
    · exact zfu r i l e
    · cases l with
      | nil =>
        rw [Pl.subs_nil] at e
        refine hZ _ r' ?_ e
        simp only [D.at_] at hr
        simp [St.get, hb, hd, hr]
      | cons j l => cases d' <;> simp [D.at_, D.row?, zap] at hr h14) h12
   cases d' with
   | dat _ => exact h15
   | own _ _ => exact h15
   | junk => exact h15
   | fn f cap =>
     refine ⟨fun r hr => by simpa [zc1] using h12.1 r hr, ?_⟩
     rw [h12.2]
     congr 2
     exact List.map_congr_left fun r hr => by rw [(hρ r (h12.1 r hr)).1]
   | ptr r' o => exact ⟨by simpa [zc1] using h12.1, by rw [h12.2, (hρ r' h12.1).1]⟩
   | etc e => cases e with
     | map r' => exact ⟨by simpa [zc1] using h12.1, by rw [h12.2, (hρ r' h12.1).1]⟩
     | mark => exact h12
     | err => exact h12
     | vp _ _ => simp [zap] at h14
   | _ => simp [zap] at h14
 · have hnu : ¬ zaI x (.lent j) := by rintro ⟨l, h⟩; cases h
   rw [zhY hnu] at hg
   exact (hs.lent j r hg).mono m2 (fun e => by
    rcases e with e | e
    · exact hnu e
    · exact hZ _ r hg e)
theorem Sim.put {c c1 : Cx} {tm : Array Value} {x : Nat} {d : D} {v : Value} (hs : Sim c tm) (hx : x < tm.size) (h1 : c1.s = c.s) (m : Mono c c1 (Kill.slot x) (zaI x))
 (hρ : ∀ r, (c.s.box r).isSome = true → c1.β r = c.β r ∧ c1.ρ (c.β r) = c.ρ (c.β r) ∧ c1.W.heap[c.β r]? = c.W.heap[c.β r]?) (hv : VR c1 (.slot x []) d v) :
 Sim { c1 with s := c.s.put x d } (tm.setIfInBounds x v) :=
 Sim.putZ (Z := fun _ => False) hs hx h1 (fun _ _ _ h => h) ⟨m.ty, m.rd, m.pl, m.ref, fun q hq => m.row q (fun e => hq (.inl e))⟩ hρ hv
end Go.Den
namespace Go.Den
open Go
set_option linter.unusedVariables false
theorem zf1 {k : Kill} : ∀ (i : Nat) (ds : List D), (D.kills k ds).getD i .junk = (ds.getD i .junk).kill k
 | i, [] => by simp [D.kills, D.kill]
 | 0, d :: ds => by simp [D.kills]
 | i + 1, d :: ds => by simpa [D.kills] using zf1 i ds
theorem zcw {k : Kill} : ∀ ds : List D, (D.kills k ds).length = ds.length
 | [] => rfl
 | d :: ds => by simp [D.kills, zcw ds]
theorem zb1 {k : Kill} : ∀ (i : Nat) (ds : List D), (D.kills k ds)[i]? = (ds[i]?).map (D.kill k)
 | i, [] => by simp [D.kills]
 | 0, d :: ds => by simp [D.kills]
 | i + 1, d :: ds => by simpa [D.kills] using zb1 i ds
theorem zer {ds : List D} {i : Nat} (h : ds.length ≤ i) : ds.getD i .junk = .junk := by simp [List.getD_eq_getElem?_getD, h]
theorem zeZ (l : List Nat) : (D.at_ l D.junk).row? = none := by cases l <;> rfl
theorem zgF {n : D} : ∀ {l : List Nat} {l2 : List Nat} {d : D} {r r2 : Row}, (D.at_ l d).row? = some r → (D.at_ l2 d).row? = some r2 → l2 ≠ l → (D.at_ l2 (D.set_ l n d)).row? = some r2
 | [], l2, d, r, r2, h, h2, hne => by
   cases l2 with
   | nil => exact absurd rfl hne
   | cons i l2 => cases d <;> simp [D.at_, D.row?] at h h2
 | i :: l, l2, d, r, r2, h, h2, hne => by
   cases d with
   | seq t ds =>
     cases l2 with
     | nil => simp [D.at_, D.row?] at h2
     | cons j l2 =>
       simp only [D.at_, D.set_] at h h2 ⊢
       by_cases hj : j = i
       · subst hj
         have hlt : j < ds.length := by
          rcases Nat.lt_or_ge j ds.length with h' | h'
          · exact h'
          · rw [zer h', zeZ] at h2; cases h2
         have : (ds.set j (D.set_ l n (ds.getD j .junk))).getD j .junk = D.set_ l n (ds.getD j .junk) := by
          simp [List.getD_eq_getElem?_getD, hlt]
         rw [this]
         exact zgF h h2 (fun e => hne (by rw [e]))
       · have : (ds.set i (D.set_ l n (ds.getD i .junk))).getD j .junk = ds.getD j .junk := by
          simp only [List.getD_eq_getElem?_getD]
          rw [List.getElem?_set_ne (fun e => hj e.symm)]
         rw [this]
         exact h2
   | _ => simp [D.at_, D.row?] at h
theorem zcx {n : D} : ∀ {l : List Nat} {d : D} {r : Row}, (D.at_ l d).row? = some r → D.at_ l (D.set_ l n d) = n
 | [], d, r, h => rfl
 | i :: l, d, r, h => by
   cases d with
   | seq t ds =>
     simp only [D.at_, D.set_] at h ⊢
     have hlt : i < ds.length := by
      rcases Nat.lt_or_ge i ds.length with h' | h'
      · exact h'
      · rw [zer h', zeZ] at h; cases h
     have : (ds.set i (D.set_ l n (ds.getD i .junk))).getD i .junk = D.set_ l n (ds.getD i .junk) := by
      simp [List.getD_eq_getElem?_getD, hlt]
     rw [this]
     exact zcx h
   | _ => simp [D.at_, D.row?] at h
theorem za3 {s : St} {r r' : Ref} {cs : List D} (h : r' ≠ r) : (s.setBox r cs).box r' = s.box r' := by
 cases r with
 | loc n =>
   cases r' with
   | loc m =>
     have : Nat.beq m n = false := beq_ne.2 (fun e => h (by rw [e]))
     simp only [St.setBox, St.box, this]
   | up m => rfl
 | up n =>
   cases r' with
   | loc m => rfl
   | up m =>
     have : m ≠ n := fun e => h (by rw [e])
     simp only [St.setBox, St.box]
     rw [List.getElem?_set_ne (fun e => this e.symm)]
theorem zal {s : St} {r : Ref} {cs cs' : List D} (h : s.box r = some cs') : (s.setBox r cs).box r = some cs := by
 cases r with
 | loc n =>
   simp [St.setBox, St.box]
 | up n =>
   simp only [St.box] at h
   have hlt := (List.getElem?_eq_some_iff.1 h).1
   simp [St.setBox, St.box, hlt]
theorem setBox_tl {s : St} {r : Ref} {cs : List D} : (s.setBox r cs).t = s.t ∧ (s.setBox r cs).l = s.l := by cases r <;> exact ⟨rfl, rfl⟩
theorem zak {k : Kill} {s : St} (r : Ref) : (s.killed k).box r = s.box r := by cases r <;> rfl
theorem zfK {k : Kill} {s : St} (q : Pl) : (s.killed k).get q = s.get q := by
 cases q with
 | slot x l => exact zaZ l _
 | cell r o => simp only [St.get, zak]
 | lent j => rfl
theorem zbT {s : St} {p q : Pl} {n : D} {r r2 : Row} (hp : s.get p = some r) (hq : s.get q = some r2) (hne : q ≠ p) : (s.setPl p n).get q = some r2 := by
 cases p with
 | slot x l =>
   cases q with
   | slot y l2 =>
     simp only [St.get, St.setPl] at hp hq ⊢
     by_cases hy : y = x
     · subst hy
       have hb : Nat.beq y y = true := beq_eq.2 rfl
       simp only [hb]
       exact zgF hp hq (fun e => hne (by rw [e]))
     · have hb : Nat.beq y x = false := beq_ne.2 hy
       simp only [hb]
       exact hq
   | cell r' o' => exact hq
   | lent j => exact hq
 | cell r0 o =>
   simp only [St.get, Option.bind_eq_some_iff] at hp
   obtain ⟨cs, hb, d, hd, hr⟩ := hp
   simp only [St.setPl, hb]
   cases q with
   | slot y l2 => simp only [St.get, setBox_tl.1] at hq ⊢; exact hq
   | cell r' o' =>
     simp only [St.get, Option.bind_eq_some_iff] at hq ⊢
     obtain ⟨cs', hb', d', hd', hr'⟩ := hq
     by_cases he : r' = r0
     · subst he
       rw [hb] at hb'
       cases hb'
       refine ⟨_, zal hb, d', ?_, hr'⟩
       have : o ≠ o' := fun e => hne (by rw [e])
       rw [List.getElem?_set_ne this]
       exact hd'
     · exact ⟨cs', by rw [za3 he]; exact hb', d', hd', hr'⟩
   | lent j => simp only [St.get, setBox_tl.2] at hq ⊢; exact hq
 | lent j =>
   cases q with
   | slot y l2 => exact hq
   | cell r' o' => simp only [St.get, St.setPl] at hq ⊢; cases r' <;> exact hq
   | lent j' =>
     have : j ≠ j' := fun e => hne (by rw [e])
     simp only [St.get, St.setPl] at hq ⊢
     rw [List.getElem?_set_ne this]
     exact hq
theorem zeO {s : St} {p : Pl} {n : D} (r : Ref) (h : ∀ o, p ≠ .cell r o) : (s.setPl p n).box r = s.box r := by
 cases p with
 | slot x l => cases r <;> rfl
 | cell r0 o =>
   simp only [St.setPl]
   cases hb : s.box r0 with
   | none => rfl
   | some cs => exact za3 (fun e => h o (by rw [e]))
 | lent j => cases r <;> rfl
theorem za8 {s : St} {p : Pl} {n : D} (r : Ref) (h : (s.box r).isSome = true) : ((s.setPl p n).box r).isSome = true := by
 by_cases hc : ∃ o, p = .cell r o
 · obtain ⟨o, rfl⟩ := hc
   obtain ⟨cs, hb⟩ := Option.isSome_iff_exists.1 h
   simp only [St.setPl, hb]
   rw [zal hb]
   rfl
 · rw [zeO r (fun o e => hc ⟨o, e⟩)]
   exact h
structure Only (c c' : Cx) (p : Pl) (X : Pl → Prop) : Prop where
 ty : c'.ty = c.ty
 rd : ∀ b g, Rd c.ρ b g → g < c.W.heap.size → Rd c'.ρ b g ∧ c'.W.heap[g]? = c.W.heap[g]?
 none : ∀ q r, c.s.get q = some r → ¬ X q
 row : ∀ q, q ≠ p → ¬ X q → c'.H q = c.H q ∧ ∀ g, c.ρ g = .row q → g < c.W.heap.size → c'.ρ g = .row q ∧ c'.W.heap[g]? = c.W.heap[g]?
 box : ∀ r g, c.ρ g = .box r → g < c.W.heap.size → c'.ρ g = .box r ∧ c'.W.heap[g]? = c.W.heap[g]?
 ref : c'.β = c.β
theorem Only.mono {c c' : Cx} {p : Pl} {X : Pl → Prop} {n : D} {r : Row} (o : Only c c' p X) (hg : c.s.get p = some r) (hs : c'.s = (c.s.killed (Kill.at p)).setPl p n) : Mono c c' (Kill.at p) (fun q => q = p ∨ X q) := by
 refine ⟨o.ty, o.rd, fun q r2 hq hk => ?_, fun r2 hr hk => ⟨?_, by rw [o.ref]⟩, fun q hq => o.row q (fun e => hq (.inl e)) (fun e => hq (.inr e))⟩
 · have hne : q ≠ p := by
    intro e
    subst e
    have : (Kill.at q).pl q = true := Pl.is_eq.2 rfl
    rw [this] at hk; cases hk
   refine ⟨?_, (o.row q hne (o.none q r2 hq)).1⟩
   rw [hs]
   exact zbT (s := c.s.killed (Kill.at p)) (by rw [zfK]; exact hg) (by rw [zfK]; exact hq) hne
 · rw [hs]
   exact za8 r2 (by rw [zak]; exact hr)
theorem VR.setW {c c' : Cx} {k : Kill} {ch : Pl → Prop} (m : MonoW c c' k ch) {n : D} : ∀ (l : List Nat) (p : Pl) (d : D) (v : Value) (r : Row), VR c p d v → (D.at_ l d).row? = some r → (∀ l' r', l' ≠ l → (D.at_ l' d).row? = some r' → ¬ ch (p.subs l')) →
 VR c' (p.subs l) n (c.H (p.subs l)) → VR c' p (D.set_ l n (d.kill k)) v
 | [], p, d, v, r, h, hr, hch, hn => by
   rw [Pl.subs_nil] at hn
   cases d <;> simp [D.at_, D.row?] at hr
   rw [h.1]
   exact hn
 | i :: l, p, d, v, r, h, hr, hch, hn => by
   cases d with
   | seq t ds =>
     obtain ⟨vs, h1, h2, h3⟩ := h
     simp only [D.at_] at hr
     have hlt : i < ds.length := by
      rcases Nat.lt_or_ge i ds.length with h' | h'
      · exact h'
      · rw [zer h', zeZ] at hr; cases hr
     refine ⟨vs, h1, h2, VRs.mk (by simp [zcw, h3.len]) fun j d' v' hd hv => ?_⟩
     rw [Nat.zero_add]
     by_cases hj : j = i
     · subst hj
       rw [List.getElem?_set_self (by rw [zcw]; exact hlt)] at hd
       cases hd
       have hd0 : ds[j]? = some (ds.getD j .junk) := by simp [List.getD_eq_getElem?_getD, hlt]
       obtain ⟨u, hu, h4⟩ := h3.at_ hd0
       obtain rfl := Option.some.inj (hu.symm.trans hv)
       rw [Nat.zero_add] at h4
       rw [zf1]
       refine VR.setW m l (p.sub j) _ u r h4 hr (fun l' r' hl' h' => ?_) (by rw [Pl.sub_subs]; exact hn)
       rw [Pl.sub_subs]
       exact hch _ r' (fun e => hl' (by injection e)) h'
     · rw [List.getElem?_set_ne (fun e => hj e.symm), zb1] at hd
       obtain ⟨d0, hd0, rfl⟩ := Option.map_eq_some_iff.1 hd
       obtain ⟨u, hu, h4⟩ := h3.at_ hd0
       obtain rfl := Option.some.inj (hu.symm.trans hv)
       rw [Nat.zero_add] at h4
       refine VR.monoW m (p.sub j) d0 u (fun l' r' h' => ?_) h4
       rw [Pl.sub_subs]
       refine hch _ r' (fun e => hj (by injection e)) ?_
       simp only [D.at_, List.getD_eq_getElem?_getD, hd0]
       exact h'
   | _ => simp [D.at_, D.row?] at hr
theorem VR.set {c c' : Cx} {k : Kill} {ch : Pl → Prop} (m : Mono c c' k ch) {n : D} (l : List Nat) (p : Pl) (d : D) (v : Value) (r : Row) (h : VR c p d v) (hr : (D.at_ l d).row? = some r) (hch : ∀ l' r', l' ≠ l → (D.at_ l' d).row? = some r' → ¬ ch (p.subs l'))
 (hn : VR c' (p.subs l) n (c.H (p.subs l))) : VR c' p (D.set_ l n (d.kill k)) v := VR.setW m.weak l p d v r h hr hch hn
theorem zcy {k : Kill} (hk : ∀ r, k.ref r = false) {d : D} (h : zap d = true) : d.kill k = d := by
 cases d with
 | fn f cap =>
   have h' : cap.any k.ref = false := by simpa using fun r _ => hk r
   simp only [D.kill, h']
 | ptr r o => simp only [D.kill, hk]
 | dat d => rfl
 | own e es => rfl
 | junk => rfl
 | etc e =>
   cases e with
   | map r => simp only [D.kill, hk]
   | mark => rfl
   | err => rfl
   | vp _ _ => cases h
 | _ => simp [zap] at h
theorem zbi (d : D) (l : List D) : isM (d :: l) = isM [d] := by
 cases d with
 | etc e => cases e <;> rfl
 | _ => rfl
theorem ziP {cs cs' : List D} (hl : cs.length = cs'.length) (h : ∀ d d' : D, cs[0]? = some d → cs'[0]? = some d' → isM [d] = isM [d']) : isM cs = isM cs' := by
 cases cs with
 | nil => cases cs' with
   | nil => rfl
   | cons d' l' => cases hl
 | cons d l => cases cs' with
   | nil => cases hl
   | cons d' l' => rw [zbi, zbi d']; exact h d d' rfl rfl
theorem zgC {k : Kill} (cs : List D) : isM (D.kills k cs) = isM cs := by
 cases cs with
 | nil => rfl
 | cons d l =>
   rw [D.kills, zbi, zbi d]
   cases d with
   | etc e => cases e with
     | map r => simp only [D.kill]; cases k.ref r <;> rfl
     | mark => rfl
     | err => rfl
     | vp cs o => simp only [D.kill]; cases cs.any (VC.hit k.pl) <;> rfl
   | _ => simp only [D.kill] <;> first | rfl | (split <;> rfl)
theorem zaj {x : Nat} {l' : List Nat} : (Pl.slot x []).subs l' = Pl.slot x l' := by simp [Pl.subs]
theorem Sim.setPl {c c' : Cx} {tm : Array Value} {p : Pl} {X : Pl → Prop} {r : Row} {n : D} (hs : Sim c tm) (hg : c.s.get p = some r) (o : Only c c' p X) (hs' : c'.s = (c.s.killed (Kill.at p)).setPl p n)
 (hn : VR c' p n (c.H p)) (hnm : isM [n] = false) (hc : ∀ r o, p = .cell r o → zap n = true) (hl : ∀ j r', p = .lent j → n.row? = some r' → RowOK c' p r'.1 r'.2) : Sim c' tm := by
 have m := o.mono hg hs'
 refine ⟨fun y => ?_, fun r2 cs hb => ?_, fun j r2 hg2 => ?_⟩
 · by_cases hp : ∃ l, p = .slot y l
   · obtain ⟨l, rfl⟩ := hp
     have ht : c'.s.t y = D.set_ l n ((c.s.t y).kill (Kill.at (.slot y l))) := by
      rw [hs']
      have hb : Nat.beq y y = true := beq_eq.2 rfl
      simp [St.setPl, St.killed]
     rw [ht]
     refine VR.set m l (.slot y []) _ _ r (hs.slots y) hg (fun l' r' hl' h' e => ?_) (by rw [zaj]; exact hn)
     rw [zaj] at e
     rcases e with e | e
     · exact hl' (by injection e)
     · exact o.none (.slot y l') r' h' e
   · have ht : c'.s.t y = (c.s.t y).kill (Kill.at p) := by
      rw [hs']
      cases p with
      | slot x l =>
        have hy : y ≠ x := fun e => hp ⟨l, by rw [e]⟩
        have hb : Nat.beq y x = false := beq_ne.2 hy
        simp only [St.setPl, hb, St.killed]
      | cell r0 o' =>
        simp only [St.setPl]
        cases hb : (c.s.killed (Kill.at (.cell r0 o'))).box r0 with
        | none => rfl
        | some cs => simp only [setBox_tl.1, St.killed]
      | lent j => rfl
     rw [ht]
     refine VR.mono m _ _ _ (fun l r' h' e => ?_) (hs.slots y)
     rw [zaj] at e
     rcases e with e | e
     · exact hp ⟨l, e.symm⟩
     · exact o.none (.slot y l) r' h' e
 · have key : ∀ (cs0 : List D), c.s.box r2 = some cs0 → (∀ i d, cs[i]? = some d → cs0[i]? = some d ∨ (p = .cell r2 i ∧ d = n)) → cs.length = cs0.length → BoxOK c' r2 cs := by
    intro cs0 hb0 hi hlen
    have hbb := hb0
    obtain ⟨vs, T, h1, h2, h3, h4⟩ := (hs.boxes r2 cs0 hb0).out
    obtain ⟨h5, h6⟩ := o.box r2 _ h2 (Array.getElem?_eq_some_iff.1 h1).1
    have hM : isM cs = isM cs0 := ziP hlen fun d d' hd hd' => by
     rcases hi 0 d hd with h | ⟨hpc, rfl⟩
     · rw [h] at hd'; cases hd'; rfl
     · rw [hnm]
       have hg' := hg
       rw [hpc] at hg'
       simp only [St.get, hb0, Option.bind_some, hd'] at hg'
       cases d' <;> first | rfl | (simp [D.row?] at hg')
    refine ⟨vs, T, by rw [o.ref, h6, hM]; exact h1, by rw [o.ref]; exact h5, by rw [h3, hlen], fun i d v hd hv => ?_⟩
    by_cases hpc : p = .cell r2 i
    · -- the cell that turns
      have hlt : i < cs0.length := by rw [← h3]; exact (List.getElem?_eq_some_iff.1 hv).1
      have hd0 := List.getElem?_eq_getElem hlt
      obtain ⟨h7, h8, h9⟩ := h4 i _ v hd0 hv
      have hg' := hg
      rw [hpc] at hg'
      simp only [St.get, hb0, Option.bind_some, hd0] at hg'
      cases hx : cs0[i] with
      | own e es =>
        rw [hx] at h7
        rcases hi i d hd with h | ⟨_, rfl⟩
        · rw [hd0, hx] at h
          -- the cell zco holds what it held: it is n
          have hcs : cs[i]? = some n := by
           rw [hs', hpc] at hb
           simp only [St.setPl, zak, hb0] at hb
           rw [zal (by rw [zak]; exact hb0)] at hb
           cases hb
           rw [List.getElem?_set_self hlt]
          rw [hcs] at hd
          cases hd
          refine ⟨?_, h8, hc _ _ hpc⟩
          rw [h7.1, ← hpc]
          exact hn
        · refine ⟨?_, h8, hc _ _ hpc⟩
          rw [h7.1, ← hpc]
          exact hn
      | _ => rw [hx] at hg'; simp [D.row?] at hg'
    · rcases hi i d hd with h | ⟨h, _⟩
      · obtain ⟨h7, h8, h9⟩ := h4 i d v h hv
        refine ⟨?_, h8, h9⟩
        have := VR.mono m (.cell r2 i) d v (fun l r' h' e => by
         rcases e with e | e
         · exact hpc (by simpa [Pl.subs] using e.symm)
         · cases l with
           | nil => cases d <;> simp [D.at_, D.row?] at h'; exact o.none (.cell r2 i) r' (by simp [St.get, hbb, h, D.row?, h']) (by simpa [Pl.subs] using e)
           | cons a l => cases d <;> simp [D.at_, D.row?, zap] at h' h9) h7
        rwa [zcy (fun _ => rfl) h9] at this
      · exact absurd h hpc
   by_cases hpc : ∃ o, p = .cell r2 o
   · obtain ⟨o', rfl⟩ := hpc
     have hg' := hg
     simp only [St.get, Option.bind_eq_some_iff] at hg'
     obtain ⟨cs0, hb0, d0, hd0, _⟩ := hg'
     rw [hs'] at hb
     simp only [St.setPl, zak, hb0] at hb
     rw [zal (by rw [zak]; exact hb0)] at hb
     cases hb
     refine key cs0 hb0 (fun i d hd => ?_) (by simp)
     by_cases hi : i = o'
     · subst hi
       rw [List.getElem?_set_self (List.getElem?_eq_some_iff.1 hd0).1] at hd
       cases hd
       exact .inr ⟨rfl, rfl⟩
     · rw [List.getElem?_set_ne (fun e => hi e.symm)] at hd
       exact .inl hd
   · rw [hs', zeO r2 (fun o' e => hpc ⟨o', e⟩), zak] at hb
     exact key cs hb (fun i d hd => .inl hd) rfl
 · by_cases hpj : p = .lent j
   · subst hpj
     have hg' := hg
     simp only [St.get, Option.bind_eq_some_iff] at hg'
     obtain ⟨o0, ho0, _⟩ := hg'
     have hlt := (List.getElem?_eq_some_iff.1 ho0).1
     rw [hs'] at hg2
     simp only [St.get, St.setPl, St.killed] at hg2
     rw [List.getElem?_set_self hlt] at hg2
     exact hl j r2 rfl hg2
   · have : c.s.get (.lent j) = some r2 := by
      rw [hs'] at hg2
      cases p with
      | slot x l => exact hg2
      | cell r0 o' =>
        simp only [St.setPl] at hg2
        cases hb : (c.s.killed (Kill.at (.cell r0 o'))).box r0 with
        | none => rw [hb] at hg2; exact hg2
        | some cs => rw [hb] at hg2; simp only [St.get, setBox_tl.2] at hg2; exact hg2
      | lent j' =>
        have hne : j' ≠ j := fun e => hpj (by rw [e])
        simp only [St.get, St.setPl, St.killed] at hg2 ⊢
        rw [List.getElem?_set_ne hne] at hg2
        exact hg2
     exact (hs.lent j r2 this).mono m (fun e => by
      rcases e with e | e
      · exact hpj e.symm
      · exact o.none _ r2 this e)
end Go.Den
namespace Go.Den
open Go
set_option linter.unusedVariables false
def stable : Role → Prop
 | .set => True
 | .out => True
 | .oth => True
 | _ => False
structure Ext (c c' : Cx) : Prop where
 os : c'.W.os = c.W.os
 tape : c'.W.tape = c.W.tape
 output : c'.W.output = c.W.output
 size : c.W.heap.size ≤ c'.W.heap.size
 keep : ∀ g, g < c.W.heap.size → stable (c.ρ g) → c'.ρ g = c.ρ g ∧ c'.W.heap[g]? = c.W.heap[g]?
 ty : c'.ty = c.ty
 up : ∀ n, c'.β (.up n) = c.β (.up n)
 lentH : ∀ j, c'.H (.lent j) = c.H (.lent j)
theorem Ext.refl (c : Cx) : Ext c c := ⟨rfl, rfl, rfl, Nat.le_refl _, fun _ _ _ => ⟨rfl, rfl⟩, rfl, fun _ => rfl, fun _ => rfl⟩
theorem Ext.trans {a b c : Cx} (h : Ext a b) (k : Ext b c) : Ext a c :=
 ⟨k.os.trans h.os, k.tape.trans h.tape, k.output.trans h.output, Nat.le_trans h.size k.size, fun g hg hs => by
  obtain ⟨h1, h2⟩ := h.keep g hg hs
  obtain ⟨h3, h4⟩ := k.keep g (Nat.lt_of_lt_of_le hg h.size) (by rw [h1]; exact hs)
  exact ⟨h3.trans h1, h4.trans h2⟩, k.ty.trans h.ty, fun n => (k.up n).trans (h.up n), fun j => (k.lentH j).trans (h.lentH j)⟩
theorem Rd.stable {ρ : Nat → Role} {b : Bool} {g : Nat} (h : Rd ρ b g) : stable (ρ g) := by
 rcases h with h | ⟨_, h⟩ <;> rw [h] <;> trivial
theorem Ext.rd {c c' : Cx} (h : Ext c c') : ∀ b g, Rd c.ρ b g → g < c.W.heap.size → Rd c'.ρ b g ∧ c'.W.heap[g]? = c.W.heap[g]? := fun b g hr hg => by
 obtain ⟨h1, h2⟩ := h.keep g hg hr.stable
 exact ⟨by unfold Rd; rw [h1]; exact hr, h2⟩
def RowAt (c : Cx) (role : Role) (v : Value) (e : Nat) (es : List Dat) : Prop :=
 ∃ i xs, c.ty e = some i ∧ c.W.ownsRow 0 e i.sz v es.length xs ∧ RepRow c.ρ c.W i.sz es xs ∧ ∀ g, v.ownBlock = some g → c.ρ g = role
theorem RowOK.at_ {c : Cx} {p : Pl} {e : Nat} {es : List Dat} (h : RowOK c p e es) : RowAt c (.row p) (c.H p) e es := h.out
theorem RowAt.ok {c : Cx} {p : Pl} {e : Nat} {es : List Dat} (h : RowAt c (.row p) (c.H p) e es) : RowOK c p e es := ⟨h⟩
theorem RowAt.head {c : Cx} {role : Role} {v : Value} {e : Nat} {es : List Dat} (h : RowAt c role v e es) :
 ∃ A k, v = .slice A es.length k ∧ es.length ≤ k ∧ k ≤ maxLen ∧ ((A = none ∧ es = [] ∧ k = 0) ∨ ∃ g, A = some ⟨g, 0, none⟩ ∧ v.ownBlock = some g) := by
 obtain ⟨i, xs, h1, h2, h3, h4⟩ := h
 rcases h2.2 with ⟨rfl, hn⟩ | ⟨g, cap, cur, rfl, hb, hg, hnc, hcm, hcs, ht⟩
 · have : es = [] := List.eq_nil_of_length_eq_zero hn
   subst this
   exact ⟨none, 0, rfl, Nat.le_refl _, Nat.zero_le _, .inl ⟨rfl, rfl, rfl⟩⟩
 · exact ⟨_, cap, rfl, hnc, hcm, .inr ⟨g, rfl, rfl⟩⟩
theorem RepRow.take {ρ : Nat → Role} {W : World} {sz : Nat} {es : List Dat} {xs : List Value} (h : RepRow ρ W sz es xs) (m : Nat) (hm : m ≤ es.length) : RepRow ρ W sz (es.take m) (xs.take (m * sz)) := by
 have hle : m * sz ≤ es.length * sz := Nat.mul_le_mul_right _ hm
 refine ⟨by simp only [List.length_take, h.len]; rw [Nat.min_eq_left hm, Nat.min_eq_left hle], fun j d hj => ?_, fun j d hj => ?_⟩
 · have hlt : j < m := by
    have := (List.getElem?_eq_some_iff.1 hj).1
    simp at this; omega
   rw [List.getElem?_take_of_lt hlt] at hj
   have := h.rep j d hj
   have e : ((xs.take (m * sz)).drop (j * sz)).take sz = (xs.drop (j * sz)).take sz := by
    rw [List.drop_take, List.take_take]
    congr 1
    have h1 : (j + 1) * sz ≤ m * sz := Nat.mul_le_mul_right _ hlt
    rw [Nat.succ_mul] at h1
    omega
   rw [e]
   exact this
 · have hlt : j < m := by
    have := (List.getElem?_eq_some_iff.1 hj).1
    simp at this; omega
   rw [List.getElem?_take_of_lt hlt] at hj
   exact h.wid j d hj
theorem RowAt.cut {c : Cx} {role : Role} {A : Option Addr} {k : Nat} {e : Nat} {es : List Dat} (h : RowAt c role (.slice A es.length k) e es) (m : Nat) (hm : m ≤ es.length) : RowAt c role (.slice A m k) e (es.take m) := by
 obtain ⟨i, xs, h1, h2, h3, h4⟩ := h
 have hl : (es.take m).length = m := by simp; omega
 refine ⟨i, xs.take (m * i.sz), h1, ?_, h3.take m hm, fun g hg => h4 g (by cases A <;> exact hg)⟩
 have hlen : (xs.take (m * i.sz)).length = m * i.sz := by
  have := (h3.take m hm).len
  rwa [hl] at this
 refine ⟨by rw [hl]; exact hlen, ?_⟩
 rcases h2.2 with ⟨hv, hn⟩ | ⟨g, cap, cur, hv, hb, hg, hnc, hcm, hcs, ht⟩
 · injection hv with hv1 hv2 hv3
   subst hv1 hv3
   refine .inl ⟨?_, by rw [hl]; omega⟩
   have : m = 0 := by omega
   rw [this]
 · injection hv with hv1 hv2 hv3
   subst hv1 hv3
   refine .inr ⟨g, k, cur, by rw [hl], hb, hg, by rw [hl]; omega, hcm, hcs, ?_⟩
   rw [hl, ← ht, List.take_take, Nat.min_eq_left (Nat.mul_le_mul_right _ hm)]
theorem RowAt.re {c c' : Cx} {role role' : Role} {v : Value} {e : Nat} {es : List Dat} (h : RowAt c role v e es) (ht : c'.ty = c.ty) (hrd : ∀ b g, Rd c.ρ b g → g < c.W.heap.size → Rd c'.ρ b g ∧ c'.W.heap[g]? = c.W.heap[g]?)
 (hrole : ∀ g, v.ownBlock = some g → c'.ρ g = role' ∧ c'.W.heap[g]? = c.W.heap[g]?) : RowAt c' role' v e es := by
 obtain ⟨i, xs, h1, h2, h3, h4⟩ := h
 exact ⟨i, xs, by rw [ht]; exact h1, zd4 h2 fun g hg => (hrole g hg).2, h3.mono hrd, fun g hg => (hrole g hg).1⟩
structure Ghost (c : Cx) (tm : Array Value) (X : Nat) : Prop where
 out : tm.size ≤ X
 own : (c.s.t X).hasOwn = false
theorem Ghost.get {c : Cx} {tm : Array Value} {X : Nat} (h : Ghost c tm X) {q : Pl} {r : Row} (hq : c.s.get q = some r) : ¬ zaI X q := by
 rintro ⟨l, rfl⟩
 simp only [St.get] at hq
 rw [zbr l _ h.own] at hq
 cases hq
def Cx.move (c : Cx) (p q : Pl) (v : Value) (s : St) : Cx :=
 { c with
   ρ := fun g => match c.ρ g with | .row p' => (match p'.is p with | true => .row q | false => .row p') | r => r
   H := fun q' => match q'.is q with | true => v | false => c.H q'
   s := s }
theorem Cx.move_ρ {c : Cx} {p q : Pl} {v : Value} {s : St} (g : Nat) (h : ∀ p', c.ρ g ≠ .row p') : (c.move p q v s).ρ g = c.ρ g := by
 show (match c.ρ g with | .row p' => (match p'.is p with | true => Role.row q | false => .row p') | r => r) = c.ρ g
 generalize c.ρ g = r at h
 cases r with
 | row p' => exact absurd rfl (h p')
 | _ => rfl
theorem Cx.move_row {c : Cx} {p q p' : Pl} {v : Value} {s : St} {g : Nat} (h : c.ρ g = .row p') (hne : p' ≠ p) : (c.move p q v s).ρ g = .row p' := by
 simp only [Cx.move, h]
 rw [Pl.is_ne.2 hne]
theorem Cx.move_it {c : Cx} {p q : Pl} {v : Value} {s : St} {g : Nat} (h : c.ρ g = .row p) : (c.move p q v s).ρ g = .row q := by
 simp only [Cx.move, h]
 rw [Pl.is_eq.2 rfl]
theorem Cx.move_H {c : Cx} {p q q' : Pl} {v : Value} {s : St} (h : q' ≠ q) : (c.move p q v s).H q' = c.H q' := by
 simp only [Cx.move]
 rw [Pl.is_ne.2 h]
theorem Cx.move_Hq {c : Cx} {p q : Pl} {v : Value} {s : St} : (c.move p q v s).H q = v := by
 simp only [Cx.move]
 rw [Pl.is_eq.2 rfl]
theorem Cx.move_rd {c : Cx} {p q : Pl} {v : Value} {s : St} : ∀ b g, Rd c.ρ b g → g < c.W.heap.size → Rd (c.move p q v s).ρ b g ∧ (c.move p q v s).W.heap[g]? = c.W.heap[g]? := fun b g h hg => by
 refine ⟨?_, rfl⟩
 unfold Rd at *
 rw [Cx.move_ρ g (fun p' e => by rcases h with h | ⟨_, h⟩ <;> rw [h] at e <;> cases e)]
 exact h
theorem Cx.move_ext {c : Cx} {p q : Pl} {v : Value} {s : St} (hq : ∀ j, Pl.lent j ≠ q) : Ext c (c.move p q v s) :=
 ⟨rfl, rfl, rfl, Nat.le_refl _, fun g hg hs => ⟨Cx.move_ρ g (fun p' e => by rw [e] at hs; exact hs), rfl⟩, rfl, fun _ => rfl, fun j => Cx.move_H (hq j)⟩
theorem Sim.take {c : Cx} {tm : Array Value} {p q : Pl} {r : Row} {s' : St} {v : Value} {n : Option Nat} (hs : Sim c tm) (ht : c.s.take p = some (r, s')) (hq : ∀ q' r', c.s.get q' = some r' → q' ≠ q)
 (hv : VR c q (.bor p n) v) :
 Sim (c.move p q v s') tm ∧ VR (c.move p q v s') q (.own r.1 (zaT n r.2)) v ∧ c.s.get p = some r := by
 simp only [St.take, Option.map_eq_some_iff] at ht
 obtain ⟨r0, hg, h⟩ := ht
 cases h
 have hpq : p ≠ q := hq p r hg
 refine ⟨?_, ?_, hg⟩
 · refine Sim.setPl (c' := c.move p q v _) (n := .junk) (X := fun q' => q' = q) hs hg ⟨rfl, Cx.move_rd, hq, fun q' hq' hqq => ?_, fun r' g hr hg' => ⟨?_, rfl⟩, rfl⟩ rfl trivial rfl (fun _ _ _ => rfl) (fun j r' _ h => by cases h)
   · exact ⟨Cx.move_H hqq, fun g hg' _ => ⟨Cx.move_row hg' hq', rfl⟩⟩
   · rw [Cx.move_ρ g (fun p' e => by rw [hr] at e; cases e)]
     exact hr
 · obtain ⟨e, es, A, k, h1, h2, h3⟩ := hv
   rw [hg] at h1
   cases h1
   have hrow := (hs.row hg).at_
   rw [h2] at hrow
   have key : ∀ v' es', RowAt c (.row p) v' e es' → v' = v → RowOK (c.move p q v ((c.s.killed (Kill.at p)).setPl p .junk)) q e es' := by
    rintro v' es' h rfl
    refine RowAt.ok ?_
    rw [Cx.move_Hq]
    exact h.re rfl Cx.move_rd fun g hg' => ⟨Cx.move_it (h.choose_spec.choose_spec.2.2.2 g hg'), rfl⟩
   cases n with
   | none => exact ⟨by rw [Cx.move_Hq], key _ _ hrow (by rw [h3])⟩
   | some m =>
     obtain ⟨hm, h3⟩ := h3
     exact ⟨by rw [Cx.move_Hq], key _ _ (hrow.cut m hm) (by rw [h3])⟩
mutual
theorem zdK {k : Kill} {sl : Bool} (hk : ∀ q, k.pl q = true → sl = true → q.ofSlot = true) (hr : ∀ r, k.ref r = false) : ∀ d : D, d.tight sl = true → d.kill k = d
 | .dat d, h => rfl
 | .own e es, h => rfl
 | .bor q n, h => by
   have h' : (sl && !q.ofSlot) = true := h
   simp only [Bool.and_eq_true] at h'
   simp only [D.kill]
   cases hq : k.pl q with
   | true => rw [hk q hq h'.1] at h'; cases h'.2
   | false => rfl
 | .bp q j o, h => by cases h
 | .sb q l z, h => by cases h
 | .ep b cs, h => rfl
 | .ptr r o, h => by simp only [D.kill, hr]
 | .fn f cap, h => by
   have h' : cap.any k.ref = false := by simpa using fun r _ => hr r
   simp only [D.kill, h']
 | .undef, h => rfl
 | .junk, h => rfl
 | .etc (.map r), h => by simp only [D.kill, hr]
 | .etc .mark, h => rfl
 | .etc .err, h => rfl
 | .etc (.vp _ _), h => by cases h
 | .seq t ds, h => by rw [D.kill, zeE hk hr ds h]
theorem zeE {k : Kill} {sl : Bool} (hk : ∀ q, k.pl q = true → sl = true → q.ofSlot = true) (hr : ∀ r, k.ref r = false) : ∀ ds : List D, D.tights sl ds = true → D.kills k ds = ds
 | [], h => rfl
 | d :: ds, h => by
   have h' : (d.tight sl && D.tights sl ds) = true := h
   simp only [Bool.and_eq_true] at h'
   rw [D.kills, zdK hk hr d h'.1, zeE hk hr ds h'.2]
end
structure Took (c c' : Cx) (sl : Bool) (Z : Pl → Prop) : Prop where
 W : c'.W = c.W
 ext : Ext c c'
 β : c'.β = c.β
 box : ∀ r, (c.s.box r).isSome = true → (c'.s.box r).isSome = true
 bx : ∀ r g, c.ρ g = .box r → c'.ρ g = .box r
 vr : ∀ p d v, VR c p d v → d.tight sl = true → (∀ l r, (D.at_ l d).row? = some r → ¬ Z (p.subs l) ∧ c.s.get (p.subs l) = none) → VR c' p d v
 H : ∀ q, ¬ Z q → c'.H q = c.H q
 get : ∀ q r, c'.s.get q = some r → c.s.get q = some r
theorem Took.refl (c : Cx) (sl : Bool) (Z : Pl → Prop) : Took c c sl Z :=
 ⟨rfl, Ext.refl c, rfl, fun _ h => h, fun _ _ h => h, fun _ _ _ h _ _ => h, fun _ _ => rfl, fun _ _ h => h⟩
theorem Took.trans {a b c : Cx} {sl : Bool} {Z : Pl → Prop} (h : Took a b sl Z) (k : Took b c sl Z) : Took a c sl Z := by
 refine ⟨k.W.trans h.W, h.ext.trans k.ext, k.β.trans h.β, fun r hr => k.box r (h.box r hr), fun r g hr => k.bx r g (h.bx r g hr), fun p d v hv ht hl => ?_, fun q hq => (k.H q hq).trans (h.H q hq), fun q r hq => h.get q r (k.get q r hq)⟩
 refine k.vr p d v (h.vr p d v hv ht hl) ht fun l r hr => ⟨(hl l r hr).1, ?_⟩
 cases hb : b.s.get (p.subs l) with
 | none => rfl
 | some r' =>
   have h2 := (hl l r hr).2
   rw [h.get _ _ hb] at h2
   cases h2
theorem Took.weak {c c' : Cx} {sl : Bool} {Z Z' : Pl → Prop} (h : Took c c' sl Z) (hz : ∀ q, Z q → Z' q) : Took c c' sl Z' :=
 ⟨h.W, h.ext, h.β, h.box, h.bx, fun p d v hv ht hl => h.vr p d v hv ht (fun l r hr => ⟨fun e => (hl l r hr).1 (hz _ e), (hl l r hr).2⟩), fun q hq => h.H q (fun e => hq (hz q e)), h.get⟩
theorem Took.rep {c c' : Cx} {sl : Bool} {Z : Pl → Prop} (h : Took c c' sl Z) {d : Dat} {cv : List Value} (hr : Rep c.ρ c.W d cv) : Rep c'.ρ c'.W d cv := hr.mono h.ext.rd
mutual
def VW (c : Cx) : D → Value → Prop
 | .bor q n, v => ∀ r, c.s.get q = some r → VR c q (.bor q n) v
 | .bp _ _ _, _ => True
 | .sb _ _ _, _ => True
 | .own _ _, _ => False
 | .seq t ds, v => ∃ vs : List Value, v = (if t = true then .tuple vs.toArray else .agg vs.toArray) ∧ (t = false → ∀ u ∈ vs, u.oneCell' = true) ∧ VWs c ds vs
 | .dat d, v => ∃ cv, Rep c.ρ c.W d cv ∧ IsV d cv v
 | .ep b cs, v => VR c (.lent 0) (.ep b cs) v
 | .ptr r o, v => VR c (.lent 0) (.ptr r o) v
 | .fn f cap, v => VR c (.lent 0) (.fn f cap) v
 | .etc (.vp _ _), _ => True
 | .etc (.map r), v => VR c (.lent 0) (.etc (.map r)) v
 | .etc .mark, v => VR c (.lent 0) (.etc .mark) v
 | .etc .err, v => VR c (.lent 0) (.etc .err) v
 | .undef, v => v = undef
 | .junk, _ => True
def VWs (c : Cx) : List D → List Value → Prop
 | [], vs => vs = []
 | d :: ds, vs => ∃ v vs', vs = v :: vs' ∧ VW c d v ∧ VWs c ds vs'
end
mutual
theorem VW.of {c : Cx} : ∀ (p : Pl) (d : D) (v : Value), d.hasOwn = false → VR c p d v → VW c d v
 | p, .dat d, v, ho, h => h
 | p, .own e es, v, ho, h => by cases ho
 | p, .bor q n, v, ho, h => fun _ _ => h
 | p, .bp q j o, v, ho, h => trivial
 | p, .sb q l z, v, ho, h => trivial
 | p, .ep b cs, v, ho, h => h
 | p, .ptr r o, v, ho, h => h
 | p, .fn f cap, v, ho, h => h
 | p, .seq t ds, v, ho, ⟨vs, h1, h2, h3⟩ => ⟨vs, h1, h2, VWs.of p 0 ds vs ho h3⟩
 | p, .etc (.vp _ _), v, ho, h => trivial
 | p, .etc (.map _), v, ho, h => h
 | p, .etc .mark, v, ho, h => h
 | p, .etc .err, v, ho, h => h
 | p, .undef, v, ho, h => h
 | p, .junk, v, ho, h => trivial
theorem VWs.of {c : Cx} : ∀ (p : Pl) (i : Nat) (ds : List D) (vs : List Value), D.hasOwns ds = false → VRs c p i ds vs → VWs c ds vs
 | p, i, [], vs, ho, h => h
 | p, i, d :: ds, vs, ho, ⟨v, vs', h1, h2, h3⟩ => by
   have h' : (D.hasOwn d || D.hasOwns ds) = false := ho
   simp only [Bool.or_eq_false_iff] at h'
   exact ⟨v, vs', h1, VW.of _ d v h'.1 h2, VWs.of p (i + 1) ds vs' h'.2 h3⟩
end
mutual
theorem VW.took {c c' : Cx} {sl : Bool} {Z : Pl → Prop} (k : Took c c' sl Z) (hZ : ∀ q r, c.s.get q = some r → ¬ Z q) : ∀ (d : D) (v : Value), VW c d v → VW c' d v
 | .dat d, v, ⟨cv, h1, h2⟩ => ⟨cv, k.rep h1, h2⟩
 | .own e es, v, h => h.elim
 | .bor q n, v, h => fun r hr => by
   have hq := k.get q r hr
   obtain ⟨e, es, A, kk, h1, h2, h3⟩ := h r hq
   refine ⟨e, es, A, kk, ?_, by rw [k.H q (hZ q r hq)]; exact h2, h3⟩
   rw [hr, ← h1, hq]
 | .bp q j o, v, h => trivial
 | .sb q l z, v, h => trivial
 | .ep b cs, v, h => k.vr (.lent 0) _ v h rfl (fun l r hr => by cases l <;> cases hr)
 | .ptr r o, v, h => k.vr (.lent 0) _ v h rfl (fun l r hr => by cases l <;> cases hr)
 | .fn f cap, v, h => k.vr (.lent 0) _ v h rfl (fun l r hr => by cases l <;> cases hr)
 | .seq t ds, v, ⟨vs, h1, h2, h3⟩ => ⟨vs, h1, h2, VWs.took k hZ ds vs h3⟩
 | .etc (.vp _ _), v, h => trivial
 | .etc (.map _), v, h => k.vr (.lent 0) _ v h rfl (fun l r hr => by cases l <;> cases hr)
 | .etc .mark, v, h => k.vr (.lent 0) _ v h rfl (fun l r hr => by cases l <;> cases hr)
 | .etc .err, v, h => k.vr (.lent 0) _ v h rfl (fun l r hr => by cases l <;> cases hr)
 | .undef, v, h => h
 | .junk, v, h => trivial
theorem VWs.took {c c' : Cx} {sl : Bool} {Z : Pl → Prop} (k : Took c c' sl Z) (hZ : ∀ q r, c.s.get q = some r → ¬ Z q) : ∀ (ds : List D) (vs : List Value), VWs c ds vs → VWs c' ds vs
 | [], vs, h => h
 | d :: ds, vs, ⟨v, vs', h1, h2, h3⟩ => ⟨v, vs', h1, VW.took k hZ d v h2, VWs.took k hZ ds vs' h3⟩
end
mutual
theorem zaw {k : Kill} : ∀ d : D, (d.kill k).hasOwn = d.hasOwn
 | .dat d => rfl
 | .own e es => rfl
 | .bor q n => by simp only [D.kill]; split <;> rfl
 | .bp q j o => by simp only [D.kill]; split <;> rfl
 | .sb q l z => by simp only [D.kill]; split <;> rfl
 | .ep b cs => rfl
 | .ptr r o => by simp only [D.kill]; split <;> rfl
 | .fn f cap => by simp only [D.kill]; split <;> rfl
 | .seq t ds => zei ds
 | .etc (.map r) => by simp only [D.kill]; split <;> rfl
 | .etc .mark => rfl
 | .etc .err => rfl
 | .etc (.vp _ _) => by simp only [D.kill]; split <;> rfl
 | .undef => rfl
 | .junk => rfl
theorem zei {k : Kill} : ∀ ds : List D, D.hasOwns (D.kills k ds) = D.hasOwns ds
 | [] => rfl
 | d :: ds => by
   show (D.hasOwn (d.kill k) || D.hasOwns (D.kills k ds)) = (D.hasOwn d || D.hasOwns ds)
   rw [zaw d, zei ds]
end
theorem zeR {s : St} {p : Pl} {r : Row} {n : D} {k : Kill} {X : Nat} (hg : s.get p = some r) (hx : (s.t X).hasOwn = false) : (((s.killed k).setPl p n).t X).hasOwn = false := by
 cases p with
 | slot x l =>
   have hne : X ≠ x := by
    rintro rfl
    simp only [St.get] at hg
    rw [zbr l _ hx] at hg
    cases hg
   have hb : Nat.beq X x = false := beq_ne.2 hne
   simp only [St.setPl, hb, St.killed]
   rw [zaw]
   exact hx
 | cell r0 o =>
   simp only [St.setPl]
   cases (s.killed k).box r0 with
   | none => simp only [St.killed]; rw [zaw]; exact hx
   | some cs => simp only [setBox_tl.1, St.killed]; rw [zaw]; exact hx
 | lent j => simp only [St.setPl, St.killed]; rw [zaw]; exact hx
theorem zcU {s : St} {p q : Pl} {r r2 : Row} {k : Kill} {n : D} (hn : n.hasOwn = false) (hg : s.get p = some r) (hq : ((s.killed k).setPl p n).get q = some r2) : q ≠ p ∧ s.get q = some r2 := by
 cases p with
 | slot x l =>
   cases q with
   | slot y l2 =>
     simp only [St.get, St.setPl, St.killed] at hq hg ⊢
     by_cases hy : y = x
     · subst hy
       have hb : Nat.beq y y = true := beq_eq.2 rfl
       simp only [hb] at hq
       have hg2 : (D.at_ l ((s.t y).kill k)).row? = some r := by rw [zaZ]; exact hg
       by_cases hl : l2 = l
       · subst hl
         rw [zcx hg2, show n.row? = none from zbr [] n hn] at hq
         cases hq
       · refine ⟨fun e => hl (by injection e), ?_⟩
         rw [← zaZ (k := k)]
         revert hq hg2
         generalize (s.t y).kill k = d
         intro hq hg2
         have key : ∀ (l l2 : List Nat) (d : D) (r r2 : Row), (D.at_ l d).row? = some r → (D.at_ l2 (D.set_ l n d)).row? = some r2 → l2 ≠ l → (D.at_ l2 d).row? = some r2 := by
          intro l
          induction l with
          | nil =>
            intro l2 d r r2 h h2 hne
            simp only [D.set_] at h2
            rw [zbr l2 n hn] at h2
            cases h2
          | cons i l ih =>
            intro l2 d r r2 h h2 hne
            cases d with
            | seq t ds =>
              simp only [D.at_] at h
              have hlt : i < ds.length := by
               rcases Nat.lt_or_ge i ds.length with h' | h'
               · exact h'
               · rw [zer h', zeZ] at h; cases h
              cases l2 with
              | nil => cases h2
              | cons j l2 =>
                simp only [D.set_, D.at_] at h2 ⊢
                by_cases hj : j = i
                · subst hj
                  have e : (ds.set j (D.set_ l n (ds.getD j .junk))).getD j .junk = D.set_ l n (ds.getD j .junk) := by simp [List.getD_eq_getElem?_getD, hlt]
                  rw [e] at h2
                  exact ih l2 _ r r2 h h2 (fun e => hne (by rw [e]))
                · have e : (ds.set i (D.set_ l n (ds.getD i .junk))).getD j .junk = ds.getD j .junk := by
                   simp only [List.getD_eq_getElem?_getD]
                   rw [List.getElem?_set_ne (fun e => hj e.symm)]
                  rw [e] at h2
                  exact h2
            | _ => simp [D.at_, D.row?] at h
         exact key l l2 d r r2 hg2 hq hl
     · have hb : Nat.beq y x = false := beq_ne.2 hy
       simp only [hb] at hq
       rw [zaZ] at hq
       exact ⟨fun e => hy (by injection e), hq⟩
   | cell r' o' => exact ⟨(fun e => by cases e), hq⟩
   | lent j => exact ⟨(fun e => by cases e), hq⟩
 | cell r0 o =>
   simp only [St.get, Option.bind_eq_some_iff] at hg
   obtain ⟨cs, hb, d, hd, hr⟩ := hg
   simp only [St.setPl, zak, hb] at hq
   cases q with
   | slot y l2 =>
     simp only [St.get, setBox_tl.1, St.killed] at hq
     rw [zaZ] at hq
     exact ⟨(fun e => by cases e), hq⟩
   | cell r' o' =>
     simp only [St.get, Option.bind_eq_some_iff] at hq ⊢
     obtain ⟨cs', hb', d', hd', hr'⟩ := hq
     by_cases he : r' = r0
     · subst he
       rw [zal (by rw [zak]; exact hb)] at hb'
       cases hb'
       by_cases ho : o' = o
       · subst ho
         rw [List.getElem?_set_self (List.getElem?_eq_some_iff.1 hd).1] at hd'
         cases hd'
         rw [show n.row? = none from zbr [] n hn] at hr'
         cases hr'
       · rw [List.getElem?_set_ne (fun e => ho e.symm)] at hd'
         exact ⟨fun e => ho (by injection e), cs, hb, d', hd', hr'⟩
     · rw [za3 he, zak] at hb'
       exact ⟨fun e => he (by injection e), cs', hb', d', hd', hr'⟩
   | lent j =>
     simp only [St.get, setBox_tl.2] at hq
     exact ⟨(fun e => by cases e), hq⟩
 | lent j =>
   cases q with
   | slot y l2 =>
     simp only [St.get, St.setPl, St.killed] at hq
     rw [zaZ] at hq
     exact ⟨(fun e => by cases e), hq⟩
   | cell r' o' =>
     refine ⟨(fun e => by cases e), ?_⟩
     simp only [St.get, St.setPl, St.killed] at hq ⊢
     cases r' <;> exact hq
   | lent j' =>
     simp only [St.get, St.setPl, St.killed] at hq hg ⊢
     by_cases hj : j = j'
     · subst hj
       simp only [Option.bind_eq_some_iff] at hg
       obtain ⟨o0, ho0, _⟩ := hg
       rw [List.getElem?_set_self (List.getElem?_eq_some_iff.1 ho0).1, show n.row? = none from zbr [] n hn] at hq
       cases hq
     · rw [List.getElem?_set_ne hj] at hq
       exact ⟨fun e => hj (by injection e with e; exact e.symm), hq⟩
def zju (X : Nat) (π : List Nat) (q : Pl) : Prop := ∃ l, q = .slot X (π ++ l)
theorem zb8 {c : Cx} {tm : Array Value} {X : Nat} {π : List Nat} {p : Pl} {r : Row} {s' : St} {v : Value} {n : Option Nat} {sl : Bool} (hs : Sim c tm) (hX : Ghost c tm X) (ht : c.s.take p = some (r, s'))
 (hsl : sl = true → p.ofSlot = true) (hv : VW c (.bor p n) v) :
 ∃ c', c'.s = s' ∧ Sim c' tm ∧ Ghost c' tm X ∧ VR c' (.slot X π) (.own r.1 (zaT n r.2)) v ∧ Took c c' sl (zju X π) := by
 have hg : c.s.get p = some r := by
  simp only [St.take, Option.map_eq_some_iff] at ht
  obtain ⟨r0, hg, h⟩ := ht
  cases h
  exact hg
 have hs' : s' = (c.s.killed (Kill.at p)).setPl p .junk := by
  simp only [St.take, hg, Option.map_some, Option.some.injEq, Prod.mk.injEq] at ht
  exact ht.2.symm
 have hq : ∀ q' r', c.s.get q' = some r' → q' ≠ .slot X π := fun q' r' h e => hX.get h ⟨π, e⟩
 have hv' : VR c (.slot X π) (.bor p n) v := hv r hg
 obtain ⟨h1, h2, _⟩ := Sim.take hs ht hq hv'
 refine ⟨c.move p (.slot X π) v s', rfl, h1, ⟨hX.out, by subst hs'; exact zeR hg hX.own⟩, h2, ?_⟩
 have ho : Only c (c.move p (.slot X π) v s') p (fun q => q = .slot X π) :=
  ⟨rfl, Cx.move_rd, hq, fun q' hq' hqq => ⟨Cx.move_H hqq, fun g hg' _ => ⟨Cx.move_row hg' hq', rfl⟩⟩, fun r' g hr hg' => ⟨by rw [Cx.move_ρ g (fun p' e => by rw [hr] at e; cases e)]; exact hr, rfl⟩, rfl⟩
 have m := ho.mono (n := .junk) hg hs'
 refine ⟨rfl, Cx.move_ext (fun j e => by cases e), rfl, fun r' hr => by subst hs'; exact za8 r' (by rw [zak]; exact hr), fun r' g hr => by rw [Cx.move_ρ g (fun p' e => by rw [hr] at e; cases e)]; exact hr, fun p0 d u hu htt hl => ?_, fun q hq' => Cx.move_H (fun e => hq' ⟨[], by rw [e]; simp⟩), fun q r' hq' => ?_⟩
 · have h3 := VR.mono m p0 d u (fun l r' hr' e => ?_) hu
   · rwa [zdK (sl := sl) (fun q hk hsl' => ?_) (fun _ => rfl) d htt] at h3
     rw [Pl.is_eq.1 hk]
     exact hsl hsl'
   · obtain ⟨h4, h5⟩ := hl l r' hr'
     rcases e with e | e
     · rw [e, hg] at h5; cases h5
     · exact h4 ⟨[], by rw [e]; simp⟩
 · subst hs'
   exact (zcU (n := .junk) rfl hg hq').2
mutual
theorem zbF {sl : Bool} {X : Nat} {tm : Array Value} : ∀ (d : D) (π : List Nat) (c : Cx) (v : Value) (d' : D) (s' : St), Sim c tm → Ghost c tm X → St.takeD sl d c.s = some (d', s') → VW c d v → d'.tight sl = true →
 ∃ c', c'.s = s' ∧ Sim c' tm ∧ Ghost c' tm X ∧ VR c' (.slot X π) d' v ∧ Took c c' sl (zju X π)
 | .bor p n, π, c, v, d', s', hs, hX, h, hv, htt => by
   simp only [St.takeD] at h
   cases hb : sl && !p.ofSlot with
   | true =>
     rw [hb] at h
     simp only [Option.map_eq_some_iff] at h
     obtain ⟨r, hg, h⟩ := h
     cases h
     exact ⟨c, rfl, hs, hX, hv r hg, Took.refl _ _ _⟩
   | false =>
     rw [hb] at h
     simp only [Option.map_eq_some_iff] at h
     obtain ⟨⟨r, s1⟩, ht, h⟩ := h
     cases h
     exact zb8 hs hX ht (fun h => by rw [h] at hb; simpa using hb) hv
 | .seq t ds, π, c, v, d', s', hs, hX, h, ⟨vs, h1, h2, h3⟩, htt => by
   simp only [St.takeD, Option.map_eq_some_iff] at h
   obtain ⟨⟨ds', s1⟩, ht, h⟩ := h
   cases h
   obtain ⟨c', h4, h5, h6, h7, h8⟩ := zef ds π 0 c vs ds' s1 hs hX ht h3 htt
   exact ⟨c', h4, h5, h6, ⟨vs, h1, h2, h7⟩, h8.weak (fun q ⟨j, l, _, e⟩ => ⟨j :: l, e⟩)⟩
 | .bp p j o, π, c, v, d', s', hs, hX, h, hv, htt => by cases h; cases htt
 | .sb p l z, π, c, v, d', s', hs, hX, h, hv, htt => by cases h; cases htt
 | .dat d, π, c, v, d', s', hs, hX, h, hv, htt => by cases h; exact ⟨c, rfl, hs, hX, hv, Took.refl _ _ _⟩
 | .own e es, π, c, v, d', s', hs, hX, h, hv, htt => hv.elim
 | .ep b cs, π, c, v, d', s', hs, hX, h, hv, htt => by cases h; exact ⟨c, rfl, hs, hX, hv, Took.refl _ _ _⟩
 | .ptr r o, π, c, v, d', s', hs, hX, h, hv, htt => by cases h; exact ⟨c, rfl, hs, hX, hv, Took.refl _ _ _⟩
 | .fn f cap, π, c, v, d', s', hs, hX, h, hv, htt => by cases h; exact ⟨c, rfl, hs, hX, hv, Took.refl _ _ _⟩
 | .etc (.map _), π, c, v, d', s', hs, hX, h, hv, htt => by cases h; exact ⟨c, rfl, hs, hX, hv, Took.refl _ _ _⟩
 | .etc .mark, π, c, v, d', s', hs, hX, h, hv, htt => by cases h; exact ⟨c, rfl, hs, hX, hv, Took.refl _ _ _⟩
 | .etc .err, π, c, v, d', s', hs, hX, h, hv, htt => by cases h; exact ⟨c, rfl, hs, hX, hv, Took.refl _ _ _⟩
 | .etc (.vp _ _), π, c, v, d', s', hs, hX, h, hv, htt => by cases h; cases htt
 | .undef, π, c, v, d', s', hs, hX, h, hv, htt => by cases h; exact ⟨c, rfl, hs, hX, hv, Took.refl _ _ _⟩
 | .junk, π, c, v, d', s', hs, hX, h, hv, htt => by cases h; exact ⟨c, rfl, hs, hX, hv, Took.refl _ _ _⟩
theorem zef {sl : Bool} {X : Nat} {tm : Array Value} : ∀ (ds : List D) (π : List Nat) (i : Nat) (c : Cx) (vs : List Value) (ds' : List D) (s' : St), Sim c tm → Ghost c tm X → St.takeDs sl ds c.s = some (ds', s') → VWs c ds vs → D.tights sl ds' = true →
 ∃ c', c'.s = s' ∧ Sim c' tm ∧ Ghost c' tm X ∧ VRs c' (.slot X π) i ds' vs ∧ Took c c' sl (fun q => ∃ j l, i ≤ j ∧ q = .slot X (π ++ j :: l))
 | [], π, i, c, vs, ds', s', hs, hX, h, hv, htt => by cases h; exact ⟨c, rfl, hs, hX, hv, Took.refl _ _ _⟩
 | d :: ds, π, i, c, vs, ds', s', hs, hX, h, ⟨v, vs', h1, h2, h3⟩, htt => by
   simp only [St.takeDs, Option.bind_eq_some_iff] at h
   obtain ⟨⟨d1, s1⟩, ht, h⟩ := h
   cases hd1 : d1.tight sl with
   | false => rw [hd1] at h; cases h
   | true =>
     rw [hd1] at h
     simp only [Option.map_eq_some_iff] at h
     obtain ⟨⟨ds1, s2⟩, ht2, h⟩ := h
     cases h
     obtain ⟨c1, h4, h5, h6, h7, h8⟩ := zbF d (π ++ [i]) c v d1 s1 hs hX ht h2 hd1
     have hw : VWs c1 ds vs' := VWs.took h8 (fun q r hq ⟨l, e⟩ => hX.get hq ⟨_, e⟩) ds vs' h3
     have htt' : (d1.tight sl && D.tights sl ds1) = true := htt
     simp only [Bool.and_eq_true] at htt'
     obtain ⟨c2, h9, h10, h11, h12, h13⟩ := zef ds π (i + 1) c1 vs' ds1 s2 h5 h6 (by rw [h4]; exact ht2) hw htt'.2
     refine ⟨c2, h9, h10, h11, ⟨v, vs', h1, ?_, h12⟩, ?_⟩
     · refine h13.vr _ _ _ h7 hd1 fun l r hr => ⟨?_, ?_⟩
       · rintro ⟨j, l', hj, e⟩
         have e' : Pl.slot X ((π ++ [i]) ++ l) = Pl.slot X (π ++ j :: l') := e
         injection e' with _ e'
         rw [List.append_assoc] at e'
         have := List.append_cancel_left e'
         simp at this
         omega
       · cases hg : c1.s.get (((Pl.slot X π).sub i).subs l) with
         | none => rfl
         | some r' => exact (h6.get hg ⟨(π ++ [i]) ++ l, rfl⟩).elim
     · exact (h8.weak (fun q ⟨l, e⟩ => ⟨i, l, Nat.le_refl _, by rw [e]; simp⟩)).trans (h13.weak (fun q ⟨j, l, hj, e⟩ => ⟨j, l, by omega, e⟩))
end
end Go.Den
namespace Go.Den
open Go
set_option linter.unusedVariables false
theorem zgu (g j : Nat) : (⟨g, 0, none⟩ : Addr).add j = ⟨g, j, none⟩ := by
 unfold Addr.add
 split
 · subst_vars; rfl
 · simp
theorem RowAt.lt {c : Cx} {role : Role} {v : Value} {e : Nat} {es : List Dat} (h : RowAt c role v e es) {g : Nat} (hg : v.ownBlock = some g) : g < c.W.heap.size := by
 obtain ⟨i, xs, h1, h2, h3, h4⟩ := h
 exact zbm h2 hg
theorem RowAt.rep {c : Cx} {role : Role} {v : Value} {e : Nat} {es : List Dat} (h : RowAt c role v e es) {ρ' : Nat → Role} {b : Bool} (hrd : ∀ b g, Rd c.ρ b g → g < c.W.heap.size → Rd ρ' b g) (hg : ∀ g, v.ownBlock = some g → Rd ρ' b g) : Rep ρ' c.W (.lst b es) [v] := by
 obtain ⟨A, k, hv, hk, hm, hA⟩ := h.head
 subst hv
 cases es with
 | nil => exact .nil
 | cons d0 es =>
   rcases hA with ⟨_, h0, _⟩ | ⟨g, rfl, hown⟩
   · cases h0
   · have hlt := h.lt hown
     obtain ⟨i, xs, h1, h2, h3, h4⟩ := h
     refine .lst (sz := i.sz) (fun j => (xs.drop (j * i.sz)).take i.sz) hk hm (hg g hown) hlt (fun j d hj => ?_) (fun j d hj ii u hu => ?_) (fun j d hj => (h3.rep j d hj).mono fun b g hr hg => ⟨hrd b g hr hg, rfl⟩)
     · rw [(h3.rep j d hj).width]
       exact h3.wid j d hj
     · have hx : xs[j * i.sz + ii]? = some u := by
        rw [List.getElem?_take] at hu
        split at hu
        · rwa [List.getElem?_drop] at hu
        · cases hu
       have := h2.cells hown _ _ hx
       rw [zgu] at this
       rw [Nat.zero_add]
       exact this
def Cx.settle (c : Cx) (p : Pl) (s : St) : Cx :=
 { c with ρ := fun g => match c.ρ g with | .row p' => (match p'.is p with | true => .set | false => .row p') | r => r, s := s }
theorem Cx.settle_ρ {c : Cx} {p : Pl} {s : St} (g : Nat) (h : ∀ p', c.ρ g ≠ .row p') : (c.settle p s).ρ g = c.ρ g := by
 show (match c.ρ g with | .row p' => (match p'.is p with | true => Role.set | false => .row p') | r => r) = c.ρ g
 generalize c.ρ g = r at h
 cases r with
 | row p' => exact absurd rfl (h p')
 | _ => rfl
theorem Cx.settle_row {c : Cx} {p p' : Pl} {s : St} {g : Nat} (h : c.ρ g = .row p') (hne : p' ≠ p) : (c.settle p s).ρ g = .row p' := by
 simp only [Cx.settle, h]
 rw [Pl.is_ne.2 hne]
theorem Cx.settle_it {c : Cx} {p : Pl} {s : St} {g : Nat} (h : c.ρ g = .row p) : (c.settle p s).ρ g = .set := by
 simp only [Cx.settle, h]
 rw [Pl.is_eq.2 rfl]
theorem Cx.settle_rd {c : Cx} {p : Pl} {s : St} : ∀ b g, Rd c.ρ b g → g < c.W.heap.size → Rd (c.settle p s).ρ b g ∧ (c.settle p s).W.heap[g]? = c.W.heap[g]? := fun b g h hg => by
 refine ⟨?_, rfl⟩
 unfold Rd at *
 rw [Cx.settle_ρ g (fun p' e => by rcases h with h | ⟨_, h⟩ <;> rw [h] at e <;> cases e)]
 exact h
theorem Cx.settle_ext {c : Cx} {p : Pl} {s : St} : Ext c (c.settle p s) :=
 ⟨rfl, rfl, rfl, Nat.le_refl _, fun g hg hs => ⟨Cx.settle_ρ g (fun p' e => by rw [e] at hs; exact hs), rfl⟩, rfl, fun _ => rfl, fun _ => rfl⟩
theorem zhl {c : Cx} {tm : Array Value} {p : Pl} {es : List Dat} {s' : St} {v : Value} {n : Option Nat} (hs : Sim c tm) (ht : c.s.stamp p = some (es, s')) (hv : VW c (.bor p n) v) :
 ∃ c', c'.s = s' ∧ Sim c' tm ∧ Rep c'.ρ c'.W (.lst false (zaT n es)) [v] ∧ Took c c' false (fun _ => False) ∧ ∀ X, Ghost c tm X → Ghost c' tm X := by
 have hp : (∀ j, p ≠ .lent j) ∧ ∃ r, c.s.get p = some r ∧ es = r.2 ∧ s' = (c.s.killed (Kill.at p)).setPl p (.dat (.lst false r.2)) := by
  cases p with
  | lent j => cases ht
  | slot x l =>
    simp only [St.stamp, Option.map_eq_some_iff] at ht
    obtain ⟨r, hg, h⟩ := ht
    cases h
    exact ⟨(fun j e => by cases e), r, hg, rfl, rfl⟩
  | cell r0 o =>
    simp only [St.stamp, Option.map_eq_some_iff] at ht
    obtain ⟨r, hg, h⟩ := ht
    cases h
    exact ⟨(fun j e => by cases e), r, hg, rfl, rfl⟩
 obtain ⟨hpl, r, hg, rfl, rfl⟩ := hp
 obtain ⟨e, es', A, k, h1, h2, h3⟩ := hv r hg
 rw [hg] at h1
 cases h1
 have hrow := (hs.row hg).at_
 have hrep : Rep (c.settle p ((c.s.killed (Kill.at p)).setPl p (.dat (.lst false es')))).ρ c.W (.lst false es') [c.H p] :=
  hrow.rep (fun b g hr hg => (Cx.settle_rd (s := (c.s.killed (Kill.at p)).setPl p (.dat (.lst false es'))) b g hr hg).1) (fun g hg' => .inl (Cx.settle_it (hrow.choose_spec.choose_spec.2.2.2 g hg')))
 have ho : Only c (c.settle p ((c.s.killed (Kill.at p)).setPl p (.dat (.lst false es')))) p (fun _ => False) :=
  ⟨rfl, Cx.settle_rd, fun _ _ _ h => h, fun q' hq' _ => ⟨rfl, fun g hg' _ => ⟨Cx.settle_row hg' hq', rfl⟩⟩, fun r' g hr hg' => ⟨by rw [Cx.settle_ρ g (fun p' e => by rw [hr] at e; cases e)]; exact hr, rfl⟩, rfl⟩
 refine ⟨c.settle p ((c.s.killed (Kill.at p)).setPl p (.dat (.lst false es'))), rfl, ?_, ?_, ?_, fun X hX => ⟨hX.out, zeR hg hX.own⟩⟩
 · exact Sim.setPl hs hg ho rfl ⟨_, hrep, rfl⟩ rfl (fun _ _ _ => rfl) (fun j r' e => absurd e (hpl j))
 · rw [h2] at hrow
   cases n with
   | none =>
     rw [h3]
     rw [h2] at hrep
     exact hrep
   | some m =>
     obtain ⟨hm, h3⟩ := h3
     rw [h3]
     exact (hrow.cut m hm).rep (fun b g hr hg => (Cx.settle_rd b g hr hg).1) (fun g hg' => .inl (Cx.settle_it ((hrow.cut m hm).choose_spec.choose_spec.2.2.2 g hg')))
 · have m := ho.mono (n := .dat (.lst false es')) hg rfl
   refine ⟨rfl, Cx.settle_ext, rfl, fun r' hr => za8 r' (by rw [zak]; exact hr), fun r' g hr => by rw [Cx.settle_ρ g (fun p' e => by rw [hr] at e; cases e)]; exact hr, fun p0 d u hu htt hl => ?_, fun q hq' => rfl, fun q r' hq' => (zcU (n := .dat (.lst false es')) rfl hg hq').2⟩
   have h3 := VR.mono m p0 d u (fun l r' hr' e => ?_) hu
   · rwa [zdK (sl := false) (fun q hk hsl' => by cases hsl') (fun _ => rfl) d htt] at h3
   · obtain ⟨h4, h5⟩ := hl l r' hr'
     rcases e with e | e
     · rw [e, hg] at h5; cases h5
     · exact e
mutual
theorem zb2 {tm : Array Value} : ∀ (d : D) (c : Cx) (v : Value) (q : Dat) (s' : St), Sim c tm → St.datD d c.s = some (q, s') → VW c d v →
 ∃ c', c'.s = s' ∧ Sim c' tm ∧ (∃ cv, Rep c'.ρ c'.W q cv ∧ IsV q cv v) ∧ Took c c' false (fun _ => False) ∧ ∀ X, Ghost c tm X → Ghost c' tm X
 | .dat d, c, v, q, s', hs, h, hv => by
   cases h
   exact ⟨c, rfl, hs, hv, Took.refl _ _ _, fun _ h => h⟩
 | .bor p n, c, v, q, s', hs, h, hv => by
   simp only [St.datD, Option.map_eq_some_iff] at h
   obtain ⟨⟨es, s1⟩, ht, h⟩ := h
   cases h
   obtain ⟨c', h1, h2, h3, h4, h5⟩ := zhl hs ht hv
   exact ⟨c', h1, h2, ⟨_, h3, rfl⟩, h4, h5⟩
 | .seq false ds, c, v, q, s', hs, h, ⟨vs, h1, h2, h3⟩ => by
   simp only [St.datD, Option.map_eq_some_iff] at h
   obtain ⟨⟨qs, s1⟩, ht, h⟩ := h
   cases h
   obtain ⟨c', h4, h5, h6, h7, h8, h9⟩ := ze0 ds c vs qs s1 hs ht h3
   refine ⟨c', h4, h5, ⟨vs, .agg h6 (fun j d u hd hu => ?_) (fun j d u hd hu => ?_), h1⟩, h8, h9⟩
   · obtain ⟨cv, h10, h11⟩ := h7 j d u hd hu
     have hone := h2 rfl u (List.mem_of_getElem? hu)
     cases d with
     | agg cs => rw [show u = .agg cv.toArray from h11] at hone; cases hone
     | _ => rfl
   · obtain ⟨cv, h10, h11⟩ := h7 j d u hd hu
     have hone := h2 rfl u (List.mem_of_getElem? hu)
     cases d with
     | agg cs => rw [show u = .agg cv.toArray from h11] at hone; cases hone
     | _ => rw [show cv = [u] from h11] at h10; exact h10
 | .seq true ds, c, v, q, s', hs, h, hv => by cases h
 | .bp p j o, c, v, q, s', hs, h, hv => by cases h
 | .sb p l z, c, v, q, s', hs, h, hv => by cases h
 | .own e es, c, v, q, s', hs, h, hv => by cases h
 | .ep b cs, c, v, q, s', hs, h, hv => by cases h
 | .ptr r o, c, v, q, s', hs, h, hv => by cases h
 | .fn f cap, c, v, q, s', hs, h, hv => by cases h
 | .etc e, c, v, q, s', hs, h, hv => by cases h
 | .undef, c, v, q, s', hs, h, hv => by cases h
 | .junk, c, v, q, s', hs, h, hv => by cases h
theorem ze0 {tm : Array Value} : ∀ (ds : List D) (c : Cx) (vs : List Value) (qs : List Dat) (s' : St), Sim c tm → St.datDs ds c.s = some (qs, s') → VWs c ds vs →
 ∃ c', c'.s = s' ∧ Sim c' tm ∧ vs.length = qs.length ∧ (∀ (j : Nat) (d : Dat) (u : Value), qs[j]? = some d → vs[j]? = some u → ∃ cv, Rep c'.ρ c'.W d cv ∧ IsV d cv u) ∧ Took c c' false (fun _ => False) ∧ ∀ X, Ghost c tm X → Ghost c' tm X
 | [], c, vs, qs, s', hs, h, hv => by
   cases h
   cases hv
   exact ⟨c, rfl, hs, rfl, (fun j d u hd => by simp at hd), Took.refl _ _ _, fun _ h => h⟩
 | d :: ds, c, vs, qs, s', hs, h, ⟨v, vs', h1, h2, h3⟩ => by
   simp only [St.datDs, Option.bind_eq_some_iff] at h
   obtain ⟨⟨q1, s1⟩, ht, h⟩ := h
   simp only [Option.map_eq_some_iff] at h
   obtain ⟨⟨qs1, s2⟩, ht2, h⟩ := h
   cases h
   obtain ⟨c1, h4, h5, ⟨cv, h6, h6'⟩, h7, h8⟩ := zb2 d c v q1 s1 hs ht h2
   have hw : VWs c1 ds vs' := VWs.took h7 (fun _ _ _ h => h) ds vs' h3
   obtain ⟨c2, h9, h10, h11, h12, h13, h14⟩ := ze0 ds c1 vs' qs1 s2 h5 (by rw [h4]; exact ht2) hw
   refine ⟨c2, h9, h10, by rw [h1]; simp [h11], fun j d0 u hd hu => ?_, h7.trans h13, fun X hX => h14 X (h8 X hX)⟩
   rw [h1] at hu
   cases j with
   | zero =>
     simp at hd hu
     subst hd hu
     exact ⟨cv, h13.rep h6, h6'⟩
   | succ j => exact h12 j d0 u (by simpa using hd) (by simpa using hu)
end
end Go.Den
namespace Go.Den
open Go Go.RowKit
set_option linter.unusedVariables false
def zIs (ty : Nat → Option TI) : D → Value → Bool
 | .dat (.val (.int k n)), .int k' m => decide (k = k') && decide (n = m)
 | .dat (.val (.bool a)), .bool b => a == b
 | .dat (.val (.string s)), .string s' => decide (s.size = 0) && decide (s'.size = 0)
 | .dat (.val .nilFunc), .nilFunc => true
 | .dat (.val .nilIface), .nilIface => true
 | .dat (.val (.pointer none)), .pointer none => true
 | .dat (.val (.map none)), .map none => true
 | .own e [], .slice none 0 0 => (ty e).isSome
 | _, _ => false
def zda (ty : Nat → Option TI) : List D → List Value → Bool
 | [], [] => true
 | d :: ds, v :: vs => zIs ty d v && zda ty ds vs
 | _, _ => false
def zaH (ty : Nat → Option TI) (i : TI) : TypeDesc → Bool
 | .int k => match i.kind with | .int k' => decide (k = k') | _ => false
 | .bool => match i.kind with | .bool => true | _ => false
 | .string => match i.kind with | .str => true | _ => false
 | .slice e => match i.kind with | .slice e' => Nat.beq e e' && (ty e).isSome | _ => false
 | .map kt et => match i.kind with | .map kt' et' => Nat.beq kt kt' && Nat.beq et et' | _ => false
 | .struct fs => match i.kind with | .struct => decide (fs.toList.map (fun f => (f.offset, f.type)) = i.fs) && i.fs.all (fun f => (ty f.2).isSome) | _ => false
 | .array _ _ => false
 | _ => match i.kind with | .other => true | _ => false
def zlK (ty : Nat → Option TI) (i : TI) (z : Value) : Bool :=
 Nat.beq i.zero.length i.sz && zda ty i.zero z.cells.toList && (match z with | .agg _ => i.agg | _ => !i.agg)
def eqOK (P : Program) (t : Nat) (i : TI) (d : TypeDesc) : Bool :=
 match i.kind with
 | .struct => !P.stoodInHeld t && !P.eqGuardType P.depth t && (match d with | .struct fs => fs.toList.all fun f => !(f.name == "_") | _ => true)
 | .other => (match i.zero with | [.dat (.val .nilIface)] => (match d with | .interface _ => true | _ => false) | _ => true)
 | _ => true
def tyIs (P : Program) (ty : Nat → Option TI) (t : Nat) (i : TI) : Bool :=
 match P.info? t, P.underlying t with
 | some inf, some d => Nat.beq inf.size i.sz && Nat.beq inf.bytes i.bytes && zaH ty i d && eqOK P t i d && (match inf.zero with | some z => zlK ty i z | none => false)
 | _, _ => false
def TyOk (P : Program) (ty : Nat → Option TI) : Prop := ∀ t i, ty t = some i → tyIs P ty t i = true
structure TyFacts (P : Program) (ty : Nat → Option TI) (t : Nat) (i : TI) (inf : TypeInfo) (d : TypeDesc) (z : Value) : Prop where
 info : P.info? t = some inf
 und : P.underlying t = some d
 size : inf.size = i.sz
 bytes : inf.bytes = i.bytes
 zero : inf.zero = some z
 kind : zaH ty i d = true
 zlen : i.zero.length = i.sz
 zs : zda ty i.zero z.cells.toList = true
 zagg : (∃ cs, z = .agg cs ∧ i.agg = true) ∨ (z.cells = #[z] ∧ i.agg = false)
 eqk : eqOK P t i d = true
theorem TyOk.facts {P : Program} {ty : Nat → Option TI} (h : TyOk P ty) {t : Nat} {i : TI} (ht : ty t = some i) : ∃ inf d z, TyFacts P ty t i inf d z := by
 have h1 := h t i ht
 unfold tyIs at h1
 split at h1
 · rename_i inf d hi hd
   simp only [Bool.and_eq_true] at h1
   obtain ⟨⟨⟨⟨h2, h3⟩, h4⟩, heq⟩, h5⟩ := h1
   split at h5
   · rename_i z hz
     unfold zlK at h5
     simp only [Bool.and_eq_true] at h5
     obtain ⟨⟨h6, h7⟩, h8⟩ := h5
     refine ⟨inf, d, z, hi, hd, beq_eq.1 h2, beq_eq.1 h3, hz, h4, beq_eq.1 h6, h7, ?_, heq⟩
     cases z with
     | agg cs => exact .inl ⟨cs, rfl, h8⟩
     | _ => exact .inr ⟨rfl, by simpa using h8⟩
   · cases h5
 · cases h1
theorem zbM {ty : Nat → Option TI} : ∀ {ds : List D} {vs : List Value}, zda ty ds vs = true → vs.length = ds.length
 | [], [], _ => rfl
 | d :: ds, v :: vs, h => by
   simp only [zda, Bool.and_eq_true] at h
   simp [zbM h.2]
 | [], _ :: _, h => by cases h
 | _ :: _, [], h => by cases h
theorem ziE {ty : Nat → Option TI} : ∀ {ds : List D} {vs : List Value} {i : Nat} {d : D} {v : Value}, zda ty ds vs = true → ds[i]? = some d → vs[i]? = some v → zIs ty d v = true
 | [], [], i, d, v, _, h, _ => by simp at h
 | d :: ds, v :: vs, 0, d', v', h, h1, h2 => by
   simp only [zda, Bool.and_eq_true] at h
   simp at h1 h2
   subst h1 h2
   exact h.1
 | d :: ds, v :: vs, i + 1, d', v', h, h1, h2 => by
   simp only [zda, Bool.and_eq_true] at h
   exact ziE h.2 (by simpa using h1) (by simpa using h2)
 | [], _ :: _, _, _, _, h, _, _ => by cases h
 | _ :: _, [], _, _, _, h, _, _ => by cases h
theorem zel {s : ByteArray} (h : s.size = 0) : s = ByteArray.empty := by
 cases s with
 | mk d =>
   have : d.size = 0 := h
   have : d = #[] := Array.eq_empty_of_size_eq_zero this
   rw [this]; rfl
theorem zcs {ty : Nat → Option TI} {d : D} {v : Value} (h : zIs ty d v = true) : (d = .dat (.val v) ∧ scal v = true) ∨ (∃ e, d = .own e [] ∧ v = .slice none 0 0 ∧ (ty e).isSome = true) := by
 unfold zIs at h
 split at h <;> first
  | (simp at h; obtain ⟨rfl, rfl⟩ := h; exact .inl ⟨rfl, rfl⟩)
  | (simp at h; subst h; exact .inl ⟨rfl, rfl⟩)
  | (exact .inl ⟨rfl, rfl⟩)
  | (exact .inr ⟨_, rfl, rfl, h⟩)
  | (simp at h; rw [zel h.1, zel h.2]; exact .inl ⟨rfl, rfl⟩)
  | cases h
theorem zmh {ty : Nat → Option TI} {d : D} {v : Value} (h : zIs ty d v = true) : v.oneCell' = true ∧ zap d = true := by
 rcases zcs h with ⟨rfl, hs⟩ | ⟨e, rfl, rfl, _⟩
 · exact ⟨zde hs, rfl⟩
 · exact ⟨rfl, rfl⟩
theorem RowAt.nil {c : Cx} {role : Role} {e : Nat} (h : (c.ty e).isSome = true) : RowAt c role (.slice none 0 0) e [] := by
 obtain ⟨i, hi⟩ := Option.isSome_iff_exists.1 h
 exact ⟨i, [], hi, World.ownsRow_nil _ _ _ _, ⟨by simp, fun j d hj => by simp at hj, fun j d hj => by simp at hj⟩, fun g hg => by cases hg⟩
mutual
theorem zgh {c : Cx} : ∀ (p : Pl) (d : D) (v : Value) (p0 : Pl), VR c p d v → (∀ l r, (D.at_ l d).row? = some r → c.s.get (p.subs l) = some r) → VR c p0 (d.alias p) v
 | p, .dat d, v, p0, h, hg => h
 | p, .own e es, v, p0, h, hg => by
   have h1 := hg [] (e, es) rfl
   rw [Pl.subs_nil] at h1
   obtain ⟨A, k, hv, _⟩ := (h.2.at_).head
   exact ⟨e, es, A, k, h1, hv, by rw [h.1]; exact hv⟩
 | p, .bor q n, v, p0, h, hg => h
 | p, .bp q j o, v, p0, h, hg => h
 | p, .sb q l z, v, p0, h, hg => h
 | p, .ep b cs, v, p0, h, hg => h
 | p, .ptr r o, v, p0, h, hg => h
 | p, .fn f cap, v, p0, h, hg => h
 | p, .etc e, v, p0, h, hg => h
 | p, .seq t ds, v, p0, ⟨vs, h1, h2, h3⟩, hg => ⟨vs, h1, h2, zf4 p 0 ds vs p0 h3 (fun i l r h => by rw [Nat.zero_add]; exact hg (i :: l) r h)⟩
 | p, .undef, v, p0, h, hg => h
 | p, .junk, v, p0, h, hg => trivial
theorem zf4 {c : Cx} : ∀ (p : Pl) (i : Nat) (ds : List D) (vs : List Value) (p0 : Pl), VRs c p i ds vs → (∀ i' l r, (D.at_ l (ds.getD i' .junk)).row? = some r → c.s.get (p.subs ((i + i') :: l)) = some r) → VRs c p0 i (D.aliases p i ds) vs
 | p, i, [], vs, p0, h, hg => h
 | p, i, d :: ds, vs, p0, ⟨v, vs', h1, h2, h3⟩, hg =>
   ⟨v, vs', h1, zgh (p.sub i) d v (p0.sub i) h2 (fun l r h => by rw [Pl.sub_subs]; exact hg 0 l r h), zf4 p (i + 1) ds vs' p0 h3 (fun i' l r h => by rw [show i + 1 + i' = i + (i' + 1) by omega]; exact hg (i' + 1) l r h)⟩
end
mutual
theorem zcg {p : Pl} : ∀ d : D, (d.alias p).hasOwn = false
 | .dat d => rfl
 | .own e es => rfl
 | .bor q n => rfl
 | .bp q j o => rfl
 | .sb q l z => rfl
 | .ep b cs => rfl
 | .ptr r o => rfl
 | .fn f cap => rfl
 | .etc e => rfl
 | .seq t ds => zdu 0 ds
 | .undef => rfl
 | .junk => rfl
theorem zdu {p : Pl} : ∀ (i : Nat) (ds : List D), D.hasOwns (D.aliases p i ds) = false
 | i, [] => rfl
 | i, d :: ds => by
   show (D.hasOwn (d.alias (p.sub i)) || D.hasOwns (D.aliases p (i + 1) ds)) = false
   rw [zcg d, zdu (i + 1) ds]; rfl
end
mutual
theorem VR.any {c : Cx} (p q : Pl) : ∀ (d : D) (v : Value), d.hasOwn = false → VR c p d v → VR c q d v
 | .dat d, v, ho, h => h
 | .own e es, v, ho, h => by cases ho
 | .bor _ n, v, ho, h => h
 | .bp _ j o, v, ho, h => h
 | .sb _ l z, v, ho, h => h
 | .ep b cs, v, ho, h => h
 | .ptr r o, v, ho, h => h
 | .fn f cap, v, ho, h => h
 | .etc e, v, ho, h => h
 | .seq t ds, v, ho, ⟨vs, h1, h2, h3⟩ => ⟨vs, h1, h2, VRs.any p q 0 ds vs ho h3⟩
 | .undef, v, ho, h => h
 | .junk, v, ho, h => trivial
theorem VRs.any {c : Cx} (p q : Pl) : ∀ (i : Nat) (ds : List D) (vs : List Value), D.hasOwns ds = false → VRs c p i ds vs → VRs c q i ds vs
 | i, [], vs, ho, h => h
 | i, d :: ds, vs, ho, ⟨v, vs', h1, h2, h3⟩ => by
   have h' : (D.hasOwn d || D.hasOwns ds) = false := ho
   simp only [Bool.or_eq_false_iff] at h'
   exact ⟨v, vs', h1, VR.any (p.sub i) (q.sub i) d v h'.1 h2, VRs.any p q (i + 1) ds vs' h'.2 h3⟩
end
theorem zjq {c : Cx} (p : Pl) (v : Value) : VR c p (zec v) v ∧ (zec v).hasOwn = false := by
 unfold zec
 split
 · exact ⟨⟨_, .nil, rfl⟩, rfl⟩
 · cases h : scal v with
   | true => exact ⟨⟨_, .val h, rfl⟩, rfl⟩
   | false => exact ⟨trivial, rfl⟩
theorem zaf {c : Cx} {a : Act} (hs : Sim c a.tmps) (x : Operand) (p : Pl) : VR c p (c.s.look x) (a.eval x) ∧ (c.s.look x).hasOwn = false := by
 cases x with
 | tmp t =>
   refine ⟨zgh (.slot t []) _ _ p (hs.slots t) fun l r h => ?_, zcg _⟩
   rw [zaj]
   exact h
 | const v => exact zjq p v
 | global g => exact ⟨trivial, rfl⟩
 | func f => exact ⟨⟨(fun r hr => by cases hr), rfl⟩, rfl⟩
structure Grown (c c1 : Cx) (x : Nat) : Prop where
 s : c1.s = c.s
 ty : c1.ty = c.ty
 β : c1.β = c.β
 bel : Below c.W.heap.size c.W c1.W
 ρ : ∀ g, g < c.W.heap.size → c1.ρ g = c.ρ g
 H : ∀ q, ¬ zaI x q → c1.H q = c.H q
theorem Grown.refl (c : Cx) (x : Nat) : Grown c c x := ⟨rfl, rfl, rfl, Below.refl _ _, fun _ _ => rfl, fun _ _ => rfl⟩
theorem Grown.mono {c c1 : Cx} {x : Nat} (g : Grown c c1 x) : Mono c c1 (Kill.slot x) (zaI x) := by
 refine ⟨g.ty, fun b g' hr hg => ⟨by unfold Rd at *; rw [g.ρ g' hg]; exact hr, g.bel.block g' hg⟩, fun q r hq hk => ⟨by rw [g.s]; exact hq, g.H q (Kill.slot_pl' hk)⟩, fun r hr _ => ⟨by rw [g.s]; exact hr, by rw [g.β]⟩, fun q hq => ⟨g.H q hq, fun g' hr hg => ⟨by rw [g.ρ g' hg]; exact hr, g.bel.block g' hg⟩⟩⟩
theorem Grown.ext {c c1 : Cx} {x : Nat} (g : Grown c c1 x) : Ext c c1 :=
 ⟨g.bel.os, g.bel.tape, g.bel.output, g.bel.size, fun g' hg _ => ⟨g.ρ g' hg, g.bel.block g' hg⟩, g.ty, fun n => by rw [g.β], fun j => g.H (.lent j) (fun ⟨l, e⟩ => by cases e)⟩
theorem BoxOK.lt {c : Cx} {r : Ref} {cs : List D} (h : BoxOK c r cs) : c.β r < c.W.heap.size := by
 obtain ⟨vs, T, h1, _⟩ := h.out
 exact (Array.getElem?_eq_some_iff.1 h1).1
theorem Grown.put {c c1 : Cx} {tm : Array Value} {x : Nat} {d : D} {v : Value} (g : Grown c c1 x) (hs : Sim c tm) (hx : x < tm.size) (hv : VR c1 (.slot x []) d v) : Sim { c1 with s := c.s.put x d } (tm.setIfInBounds x v) := by
 refine Sim.put hs hx g.s g.mono (fun r hr => ?_) hv
 obtain ⟨cs, hb⟩ := Option.isSome_iff_exists.1 hr
 have hlt := (hs.boxes r cs hb).lt
 exact ⟨by rw [g.β], g.ρ _ hlt, g.bel.block _ hlt⟩
end Go.Den
namespace Go.Den
open Go Go.RowKit
set_option linter.unusedVariables false
theorem zaq {c : Cx} {p : Pl} {v u : Value} (h : VR c p (.dat (.val v)) u) : u = v ∧ scal v = true := by
 obtain ⟨cv, h1, h2⟩ := h
 cases h1 with
 | val hs =>
   have h3 : [v] = [u] := h2
   exact ⟨by simpa using h3.symm, hs⟩
theorem zd6 {c : Cx} {p : Pl} {b : Bool} {es : List Dat} {u : Value} (h : VR c p (.dat (.lst b es)) u) : Rep c.ρ c.W (.lst b es) [u] := by
 obtain ⟨cv, h1, h2⟩ := h
 have h3 : cv = [u] := h2
 rwa [h3] at h1
theorem zkr {c : Cx} {p : Pl} {cs : List Dat} {u : Value} (h : VR c p (.dat (.agg cs)) u) : ∃ cv : List Value, u = .agg cv.toArray ∧ Rep c.ρ c.W (.agg cs) cv := by
 obtain ⟨cv, h1, h2⟩ := h
 exact ⟨cv, h2, h1⟩
theorem zkp {c : Cx} {p : Pl} {d : Dat} {u : Value} (h : VR c p (.dat d) u) (hu : u.oneCell' = true) : d.cells = [d] ∧ Rep c.ρ c.W d [u] := by
 obtain ⟨cv, h1, h2⟩ := h
 cases d with
 | agg cs =>
   rw [show u = .agg cv.toArray from h2] at hu
   cases hu
 | val v => exact ⟨rfl, by rw [← (show cv = [u] from h2)]; exact h1⟩
 | lst b es => exact ⟨rfl, by rw [← (show cv = [u] from h2)]; exact h1⟩
theorem zbR {d : D} {n : Int} (h : Den.intOf d = some n) : d = .dat (.val (.int .i64 n)) := by
 unfold Den.intOf at h
 split at h
 · cases h; rfl
 · cases h
theorem zj2 {d : D} {b : Bool} (h : ziw d = some b) : d = .dat (.val (.bool b)) := by
 unfold ziw at h
 split at h
 · cases h; rfl
 · cases h
theorem zaE {c : Cx} {p : Pl} {v : Value} (h : scal v = true) : VR c p (.dat (.val v)) v := ⟨[v], .val h, rfl⟩
def Yields (P : Program) (c : Cx) (a : Act) (o : Oper) (x : Nat) (d : D) : Prop :=
 ∃ v c1, (execOp a.eval o).run P c.W = .ok (.value v) c1.W ∧ Grown c c1 x ∧ VR c1 (.slot x []) d v
def Calm (P : Program) (c : Cx) (a : Act) (o : Oper) (x : Nat) (T : World → Prop) (d : D) : Prop :=
 ∃ v c1, c1.W = c.W ∧ (∀ w, T w → (execOp a.eval o).run P w = .ok (.value v) w) ∧ Grown c c1 x ∧ VR c1 (.slot x []) d v
section
variable {P : Program} {c : Cx} {a : Act} {o : Oper} {x : Nat} {T : World → Prop}
theorem Calm.yields {d : D} (h : Calm P c a o x T d) (hT : T c.W) : Yields P c a o x d := by
 obtain ⟨v, c1, h0, h1, h2, h3⟩ := h
 exact ⟨v, c1, by rw [h0]; exact h1 c.W hT, h2, h3⟩
theorem Calm.same {d : D} {v : Value} (h : ∀ w, T w → (execOp a.eval o).run P w = .ok (.value v) w) (hv : VR c (.slot x []) d v) : Calm P c a o x T d := ⟨v, c, rfl, h, Grown.refl c x, hv⟩
theorem Yields.same {d : D} {v : Value} (h : (execOp a.eval o).run P c.W = .ok (.value v) c.W) (hv : VR c (.slot x []) d v) : Yields P c a o x d := ⟨v, c, h, Grown.refl c x, hv⟩
theorem ziQ {z : Operand} (hs : Sim c a.tmps) (ho : o.op = .move z ∨ o.op = .assign z) : Calm P c a o x T (c.s.look z) :=
 Calm.same (v := a.eval z) (fun w _ => by rcases ho with h | h <;> simp [execOp, h]) (zaf hs z _).1
theorem zlu {z u w : Operand} {b : Bool} (hs : Sim c a.tmps) (ho : o.op = .pick z u w) (hb : ziw (c.s.look z) = some b) : Calm P c a o x T (match b with | true => c.s.look u | false => c.s.look w) := by
 have h1 := (zaf hs z (.lent 0)).1
 rw [zj2 hb] at h1
 have h2 := (zaq h1).1
 refine Calm.same (v := if b then a.eval u else a.eval w) (fun w _ => by simp [execOp, ho, asBool, h2]) ?_
 cases b
 · exact (zaf hs w _).1
 · exact (zaf hs u _).1
theorem zfV {z : Operand} {r : Ref} {n : Nat} (hs : Sim c a.tmps) (ho : o.op = .nilCheck z) (hd : c.s.look z = .ptr r n) : Calm P c a o x T (.ptr r n) := by
 have h1 := (zaf hs z (.lent 0)).1
 rw [hd] at h1
 exact Calm.same (fun w _ => by simp [execOp, ho, h1.2]) h1
theorem zdk {t : Bool} {ds : List D} {j : Nat} {d : D} (h : (D.seq t ds).hasOwn = false) (hj : ds[j]? = some d) : d.hasOwn = false := by
 have h' : D.hasOwns ds = false := h
 clear h
 induction ds generalizing j with
 | nil => simp at hj
 | cons e ds ih =>
   have h1 : (D.hasOwn e || D.hasOwns ds) = false := h'
   simp only [Bool.or_eq_false_iff] at h1
   cases j with
   | zero => simp at hj; subst hj; exact h1.1
   | succ j => exact ih (by simpa using hj) h1.2
theorem zg3 {z : Operand} {j : Nat} {ds : List D} {d : D} (hs : Sim c a.tmps) (ho : o.op = .extract z j) (hd : c.s.look z = .seq true ds) (hj : ds[j]? = some d) : Calm P c a o x T d := by
 obtain ⟨h1, h0⟩ := zaf hs z (.lent 0)
 rw [hd] at h1 h0
 obtain ⟨vs, h2, _, h3⟩ := h1
 obtain ⟨u, hu, h4⟩ := h3.at_ hj
 exact Calm.same (v := u) (fun w _ => by simp [execOp, ho, h2, Instr.extract, hu]) (VR.any _ _ d u (zdk h0 hj) h4)
theorem zjv {lk : Operand → D} {cp : List Operand} {rs : List Ref} (hs : Sim c a.tmps) (h : zg8 (cp.map c.s.look) = some rs) :
 (∀ r ∈ rs, (c.s.box r).isSome = true) ∧ cp.map a.eval = rs.map fun r => Value.pointer (some ⟨c.β r, 0, none⟩) := by
 induction cp generalizing rs with
 | nil => cases h; exact ⟨(fun r hr => by cases hr), rfl⟩
 | cons z cp ih =>
   simp only [List.map_cons] at h
   have h1 := (zaf hs z (.lent 0)).1
   generalize hd : c.s.look z = d at h h1
   unfold zg8 at h
   split at h
   · rename_i he; cases he
   · rename_i r ds he
     injection he with he1 he2
     subst he1 he2
     simp only [Option.map_eq_some_iff] at h
     obtain ⟨rs', h2, rfl⟩ := h
     obtain ⟨h3, h4⟩ := ih h2
     refine ⟨fun r' hr => ?_, ?_⟩
     · rcases List.mem_cons.1 hr with rfl | hr
       · exact h1.1
       · exact h3 r' hr
     · simp only [List.map_cons, h4, h1.2]
   · cases h
theorem zfJ {f : FuncId} {first cap : Array Operand} {rs : List Ref} (hs : Sim c a.tmps) (ho : o.op = .makeFunc (.func f) first cap) (hf : first.isEmpty = true) (h : zg8 (cap.toList.map c.s.look) = some rs) : Calm P c a o x T (.fn f rs) := by
 obtain ⟨h1, h2⟩ := zjv (lk := c.s.look) hs h
 have hf' : first = #[] := by simpa using hf
 subst hf'
 refine Calm.same (v := .func (.func f) #[] (cap.map a.eval)) (fun w _ => by simp [execOp, ho, Instr.makeFunc]) ⟨h1, ?_⟩
 rw [← h2]
 congr 1
 apply Array.ext'
 simp
theorem ziZ (x y : ByteArray) : (x.toList == y.toList) = decide (x = y) := by
 rw [ByteArray.toList_eq, ByteArray.toList_eq]
 by_cases h : x = y
 · subst h; simp
 · have : x.data.toList ≠ y.data.toList := fun e => h (by
    cases x; cases y
    simp at e
    rw [e])
   rw [show (x.data.toList == y.data.toList) = false from by simpa using this]
   simp [h]
theorem ziY {t : TypeId} {z u : Operand} {a b : ByteArray} (h : a.size + b.size ≤ 9223372036854775807) (W : World) :
 (do eqGuard .add t z u (.string a) (.string b); binOp .add t (.string a) (.string b) : Sem Value).run P W = .ok (.string (a ++ b)) W := by
 simp [eqGuard, binOp, Op.stringOp]
 omega
theorem zjs {op : BinOp} {t : TypeId} {z u : Operand} {v w r : Value} (h : zhj op v w = some r) (hb : ∀ b, v = .bool b → P.underlying t = some .bool) (W : World) :
 (do eqGuard op t z u v w; binOp op t v w : Sem Value).run P W = .ok r W := by
 unfold zhj at h
 split at h
 · rename_i k a k' b
   split at h
   · cases h
   · rename_i hk
     have hk : k = k' := of_decide_eq_true hk
     subst hk
     split at h <;> first
      | (cases h; done)
      | (split at h
         · cases h
         · rename_i hz; cases h; simp [eqGuard, binOp, Op.intDiv, hz]; done)
      | (cases h; simp [eqGuard, binOp, Op.intArith, Op.intCmp]; done)
      | (cases h; simp [eqGuard, binOp, Op.intBits]; done)
      | (cases h; simp [eqGuard, binOp, Op.intCmp, bne]; rfl)
      | (cases h; simp [eqGuard, binOp, Op.intCmp]; rfl)
 · rename_i a b
   split at h <;> first
    | (cases h; done)
    | (split at h
       · rename_i hz; cases h; exact ziY hz W
       · cases h)
    | (cases h; simp [eqGuard, binOp, Op.stringOp, ziZ]; done)
 · rename_i a b
   have hu := hb a rfl
   split at h <;> first
    | (cases h; done)
    | (cases h; simp [eqGuard, binOp, run_equal_bool W t a b hu]; done)
 · cases h
theorem zlj {op : BinOp} {t : TypeId} {z u : Operand} {v w r : Value} (h : binV op v w = some r) (hb : ∀ b, v = .bool b → P.underlying t = some .bool) (W : World) :
 (do eqGuard op t z u v w; binOp op t v w : Sem Value).run P W = .ok r W := by
 unfold binV at h
 split at h
 · split at h
   · split at h
     · cases h
     · rename_i hn
       cases h
       simp [eqGuard, binOp, Op.shift, hn]
   · cases h
 · split at h
   · split at h
     · cases h
     · rename_i hn
       cases h
       simp [eqGuard, binOp, Op.shift, hn]
   · cases h
 · exact zjs h hb W
theorem zjW {op : BinOp} {v w r : Value} (h : binV op v w = some r) : scal r = true := by
 unfold binV zhj at h
 (repeat' split at h) <;> first
  | (cases h; done)
  | (cases h; rfl)
theorem zku {op : BinOp} {b : Bool} {w r : Value} (h : binV op (.bool b) w = some r) : ∃ b', w = .bool b' := by
 unfold binV at h
 split at h
 · cases h
 · cases h
 unfold zhj at h
 split at h
 · rename_i e; cases e
 · rename_i e; cases e
 · exact ⟨_, rfl⟩
 · cases h
theorem zki {op : BinOp} {t : TypeId} {z u : Operand} {k : TypeId} {d : D} (hty : TyOk P c.ty) (hs : Sim c a.tmps) (ho : o.op = .binOp op t z u k) (h : binD (c.ty t) op (c.s.look z) (c.s.look u) = some d) : Calm P c a o x T d := by
 have h1 := (zaf hs z (.lent 0)).1
 have h2 := (zaf hs u (.lent 0)).1
 have key : ∀ v w r, VR c (.lent 0) (.dat (.val v)) (a.eval z) → VR c (.lent 0) (.dat (.val w)) (a.eval u) → binV op v w = some r → (∀ b, v = .bool b → P.underlying t = some .bool) → Calm P c a o x T (.dat (.val r)) := by
  intro v w r h1 h2 hr hb
  refine Calm.same (v := r) (fun w _ => ?_) (zaE (zjW hr))
  rw [← (zaq h1).1] at hb
  rw [← (zaq h1).1, ← (zaq h2).1] at hr
  simp only [execOp, ho]
  have := zlj (P := P) (t := t) (z := z) (u := u) hr hb w
  simp only [Sem.run_bind, Sem.run_pure] at this ⊢
  rw [this]
  rfl
 generalize c.s.look z = d1 at h h1
 generalize c.s.look u = d2 at h h2
 unfold binD at h
 split at h
 · split at h
   · rename_i hi
     simp only [Option.map_eq_some_iff] at h
     obtain ⟨r, hr, rfl⟩ := h
     obtain ⟨inf, de, ze, hf⟩ := hty.facts hi
     have hk := hf.kind
     refine key _ _ _ h1 h2 hr fun _ _ => ?_
     rw [hf.und]
     cases de <;> simp [zaH] at hk ⊢
   · cases h
 · rename_i v w hne
   simp only [Option.map_eq_some_iff] at h
   obtain ⟨r, hr, rfl⟩ := h
   refine key _ _ _ h1 h2 hr fun b hb => ?_
   subst hb
   obtain ⟨b', rfl⟩ := zku hr
   exact (hne _ _ rfl rfl).elim
 · cases h
theorem zlN {op : UnOp} {t : TypeId} {z : Operand} {d : D} (hs : Sim c a.tmps) (ho : o.op = .unOp op t z) (h : unD op (c.s.look z) = some d) : Calm P c a o x T d := by
 have h1 := (zaf hs z (.lent 0)).1
 generalize c.s.look z = d1 at h h1
 unfold unD at h
 split at h
 · split at h
   · cases h
     have h2 := (zaq h1).1
     exact Calm.same (fun w _ => by simp [execOp, ho, h2, Op.unary]) (zaE rfl)
   · cases h
 · split at h
   · cases h
     have h2 := (zaq h1).1
     exact Calm.same (fun w _ => by simp [execOp, ho, h2, Op.unary, Op.intArith]) (zaE rfl)
   · cases h
 · cases h
theorem zhc {t u : TypeId} {z : Operand} {d : D} (hty : TyOk P c.ty) (hs : Sim c a.tmps) (ho : o.op = .convert t u z) (ht : (c.ty t).isSome = true) (h : zkL (c.ty t) (c.ty u) (c.s.look z) = some d) : Calm P c a o x T d := by
 obtain ⟨i, hi⟩ := Option.isSome_iff_exists.1 ht
 obtain ⟨_, ds, _, hfs⟩ := hty.facts hi
 have h1 := (zaf hs z (.lent 0)).1
 generalize c.s.look z = d1 at h h1
 unfold zkL at h
 split at h
 · split at h
   · rename_i hj
     cases h
     obtain ⟨_, de, _, hf⟩ := hty.facts hj
     have hk := hf.kind
     have h2 := (zaq h1).1
     have hu := hf.und
     cases de <;> simp [zaH] at hk
     subst hk
     exact Calm.same (fun w _ => by simp [execOp, ho, h2, convert, run_underlying hfs.und, run_underlying hu, Conv.intToInt]) (zaE rfl)
   · cases h
 · split at h
   · rename_i hj
     cases h
     obtain ⟨_, de, _, hf⟩ := hty.facts hj
     have hk := hf.kind
     have h2 := (zaq h1).1
     have hu := hf.und
     cases de <;> simp [zaH] at hk
     exact Calm.same (fun w _ => by simp [execOp, ho, h2, convert, run_underlying hfs.und, run_underlying hu]) (zaE rfl)
   · cases h
 · cases h
theorem zkg {t : TypeId} {z u : Operand} {s : ByteArray} {n : Int} {k : TI} (hty : TyOk P c.ty) (hs : Sim c a.tmps) (ho : o.op = .index t z u) (ht : c.ty t = some k) (hk : k.kind = .str) (hn : Den.intOf (c.s.look u) = some n) (hz : c.s.look z = .dat (.val (.string s))) (h : 0 ≤ n ∧ n < s.size) :
 Calm P c a o x T (.dat (.val (.int .u8 (s[n.toNat]'(by omega)).toNat))) := by
 obtain ⟨_, de, _, hf⟩ := hty.facts ht
 have hu : P.underlying t = some .string := by
  have hkk := hf.kind
  rw [hf.und]
  cases de <;> simp [zaH, hk] at hkk ⊢
 have h1 := (zaf hs z (.lent 0)).1
 have h2 := (zaf hs u (.lent 0)).1
 rw [hz] at h1
 rw [zbR hn] at h2
 have h3 := (zaq h1).1
 have h4 := (zaq h2).1
 have h5 : s[n.toNat]? = some (s[n.toNat]'(by omega)) := getElem?_pos s n.toNat (by omega)
 exact Calm.same (fun w _ => by simp [execOp, ho, h3, h4, Instr.index, asIntOf, run_underlying hu, h.1, h5]) (zaE rfl)
theorem zet {mx : Bool} {z u : Operand} {ca : Call} {m n : Int} (hs : Sim c a.tmps) (ho : o.op = .call ca) (hc : ca.callee = .builtin (if mx = true then .max else .min)) (ha : ca.args.toList = [z, u]) (hm : Den.intOf (c.s.look z) = some m) (hn : Den.intOf (c.s.look u) = some n) :
 Calm P c a o x T (.dat (.val (.int .i64 (if mx = true then (if n > m then n else m) else (if n < m then n else m))))) := by
 have h1 := (zaf hs z (.lent 0)).1
 have h2 := (zaf hs u (.lent 0)).1
 rw [zbR hm] at h1
 rw [zbR hn] at h2
 have h3 := (zaq h1).1
 have h4 := (zaq h2).1
 have ha' : ca.args = #[z, u] := by
  apply Array.ext'
  simpa using ha
 cases mx
 · exact Calm.same (fun w _ => by simp [execOp, ho, resolve, hc, ha', invoke, builtin, Builtin.min_, h3, h4, Builtin.min2]) (zaE rfl)
 · exact Calm.same (fun w _ => by simp [execOp, ho, resolve, hc, ha', invoke, builtin, Builtin.max_, h3, h4, Builtin.max2]) (zaE rfl)
end
end Go.Den
