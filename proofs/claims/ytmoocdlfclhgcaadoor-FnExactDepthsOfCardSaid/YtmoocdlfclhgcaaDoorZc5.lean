/- Merged out of: D31 D32 D37 D38 D39 Shelf CNc CB CX D40 D41 D43 CY CR Cf Fa (prune.py, a program of this work's). -/
import Derived.Test.YtmoocdlfclhgcaaDoorZc4
import Derived.Sort.Grow
import Derived.Sort.Row
import Derived.Lib.SlicesCompact
import Derived.Shelf.Strings.Builder1
import Derived.Shelf.Strconv.Itoa0
import Derived.Shelf.Strconv.Itoa1
import Derived.Shelf.LaysM
import Derived.Shelf.Strconv.Itoa2
import Derived.Shelf.Strconv.Itoa3
import Derived.Shelf.Strings.Search1
import Derived.Shelf.Strings.Search2
import Derived.Shelf.Strings.Search3
import Derived.Shelf.Strings.Shaped
import Derived.Shelf.Bits.Mul64
import Derived.Test.YtmoocdlfclhgcaaDoorProg
import Derived.Test.YtmoocdlfclhgcaaDoorChecked
import Derived.WalkKit
import Derived.Deep.RegionWith
import Derived.Laws.IdiomStrings
import Derived.KernelRfl
import Derived.Deep.RegionHeld3
import Derived.Shelf.SlicesE.Clone
import Derived.Shelf.Spec.SlicesInsert
import Derived.Shelf.Spec.SlicesInsertGrow
import Derived.OwnWalk
import Derived.Laws.CopyOwn
import Derived.Deep.RegionLaw
set_option linter.unusedVariables false
set_option linter.unusedSimpArgs false
set_option linter.unnecessarySimpa false
namespace Go.Den
open Go Go.RowKit
set_option linter.unusedVariables false
variable {B : Nat → Option Obj}
def Gd (c0 : Cx) (a0 : Act) : Option (List Nat) → Nat → Prop
 | none, _ => True
 | some M, g => (g < c0.W.heap.size ∧ stable (c0.ρ g)) ∨ ∃ n ∈ M, a0.tmps.getD n undef = .pointer (some ⟨g, 0, none⟩)
def RG (G : Nat → Prop) (w w' : World) : Prop := w.heap.size ≤ w'.heap.size ∧ ∀ g, g < w.heap.size → G g → w'.heap[g]? = w.heap[g]?
theorem RG.refl {G : Nat → Prop} (w : World) : RG G w w := ⟨Nat.le_refl _, fun _ _ _ => rfl⟩
theorem RG.trans {G : Nat → Prop} (a b c : World) (h : RG G a b) (k : RG G b c) : RG G a c :=
 ⟨Nat.le_trans h.1 k.1, fun g hg hG => (k.2 g (Nat.lt_of_lt_of_le hg h.1) hG).trans (h.2 g hg hG)⟩
theorem RG.of_below {G : Nat → Prop} {w w' : World} (h : Below w.heap.size w w') : RG G w w' := ⟨h.size, fun g hg _ => h.block g hg⟩
theorem zgi {a : Act} {x : Option Nat} {v : Value} {y : Nat} (h : x ≠ some y) : (a.put x v).tmps.getD y undef = a.tmps.getD y undef := by
 cases x with
 | none => rfl
 | some x =>
   have hxy : x ≠ y := fun e => h (by rw [e])
   simp [Act.put, Array.getD_eq_getD_getElem?, Array.getElem?_setIfInBounds_ne hxy]
def AllocAt (ops : Array Oper) (c0 c : Cx) (a : Act) (j g : Nat) : Prop :=
 ∃ o t n i vs T, ops[j]? = some o ∧ o.op = .alloc t ∧ o.dst = some n ∧ c.ty t = some i ∧ c0.W.heap.size ≤ g ∧ c.ρ g = .oth ∧ c.W.heap[g]? = some (.cells (List.toArray vs) T (0, 0)) ∧ a.tmps.getD n undef = .pointer (some ⟨g, 0, none⟩) ∧ ∀ c' Y, c'.ty = c.ty → zc8 (Cx.nilH c' Y) Y i.zero vs
theorem AllocAt.step {ops : Array Oper} {c0 c c' : Cx} {a a' : Act} {j g : Nat} {x : Option Nat} {v : Value} (h : AllocAt ops c0 c a j g) (he : Ext c c') (ha : a'.tmps = (a.put x v).tmps) (hx : ∀ o n, ops[j]? = some o → o.dst = some n → x ≠ some n) : AllocAt ops c0 c' a' j g := by
 obtain ⟨o, t, n, i, vs, T, h1, h2, h3, h4, h5, h6, h7, h8, h9⟩ := h
 have hlt := (Array.getElem?_eq_some_iff.1 h7).1
 obtain ⟨h10, h11⟩ := he.keep g hlt (by rw [h6]; trivial)
 refine ⟨o, t, n, i, vs, T, h1, h2, h3, by rw [he.ty]; exact h4, h5, h10.trans h6, h11.trans h7, ?_, fun c' Y e => h9 c' Y (by rw [e, he.ty])⟩
 rw [ha, zgi (hx o n h1 h3)]
 exact h8
structure Inv (P : Program) (B : Nat → Option Obj) (E : Env) (ops : Array Oper) (X : Nat) (Mo : Option (List Nat)) (c0 : Cx) (a0 : Act) (first : Bool) (A : List Nat) (blk : Nat → Nat) (c : Cx) (a : Act) : Prop where
 base : Firm B c0
 fr : Fr X c a
 env : EnvOK P B E c a
 ext : Ext c0 c
 sz : a.tmps.size = a0.tmps.size
 df : a.defers = a0.defers
 mtm : ∀ M, Mo = some M → ∀ n ∈ M, a.tmps.getD n undef = a0.tmps.getD n undef
 fst : first = true → ∀ b g, Rd c.ρ b g → g < c.W.heap.size → g < c0.W.heap.size ∧ stable (c0.ρ g)
 al : ∀ j, memN j A = true → AllocAt ops c0 c a j (blk j)
 dis : ∀ j k, memN j A = true → memN k A = true → j ≠ k → blk j ≠ blk k
theorem zgt {α : Type} {E : Env} {ops : Array Oper} {c : Cx} {a : Act} {o : Oper} {k z : St → Option α} {r : α} (hs : Sim c a.tmps) (hops : ∀ o ∈ ops.toList, za6 E.nt o = true) (hsz : a.tmps.size = E.nt) (h : zby ops c.s o.guard k z = some r) :
 (Region.wanted o (yielded ops a.tmps) = true ∧ k c.s = some r) ∨ (Region.wanted o (yielded ops a.tmps) = false ∧ z c.s = some r) := by
 unfold zby at h
 split at h
 · rename_i hg
   exact .inl ⟨by simp [Region.wanted, hg], h⟩
 · rename_i j want hg
   split at h
   · cases h
   · rename_i n hn
     have hnlt : n < a.tmps.size := by
      cases hj : ops[j]? with
      | none => rw [hj] at hn; cases hn
      | some oj =>
        rw [hj] at hn
        rw [hsz]
        exact zaR (hops oj (by have := Array.mem_of_getElem? hj; exact Array.mem_toList_iff.2 this)) n hn
     obtain ⟨h1, h2⟩ := zhx (ops := ops) (j := j) hs hnlt hn
     split at h
     · rename_i b hb
       have hy := h1 _ hb
       cases b with
       | true =>
         simp only at h
         rw [zcO hb] at h
         cases want with
         | true => exact .inl ⟨by simp [Region.wanted, hg, hy], h⟩
         | false => exact .inr ⟨by simp [Region.wanted, hg, hy], h⟩
       | false =>
         simp only at h
         rw [zcO hb] at h
         cases want with
         | true => exact .inr ⟨by simp [Region.wanted, hg, hy], h⟩
         | false => exact .inl ⟨by simp [Region.wanted, hg, hy], h⟩
     · rename_i hb
       have hy := h2 hb
       exact .inr ⟨by simp [Region.wanted, hg, hy], h⟩
     · cases h
theorem zi2 {c : Cx} {a : Act} {X : Nat} {x : Option Nat} (hf : Fr X c a) (hd : ∀ n : Nat, x = some n → n < a.tmps.size) : Fr X { c with s := c.s.putO x .undef } (a.put x undef) ∧ Ext c { c with s := c.s.putO x .undef } := by
 cases x with
 | none => exact ⟨hf, Ext.refl c⟩
 | some n =>
   have hlt := hd n rfl
   have hne : X ≠ n := Nat.ne_of_gt (Nat.lt_of_lt_of_le hlt hf.ghost.out)
   have hsim := (Grown.refl c n).put hf.sim hlt (show VR c (.slot n []) .undef undef from rfl)
   exact ⟨⟨hsim, by simpa [Act.put] using hf.ghost.out, zaY hne hf.ghost.own⟩, (Ext.refl c).setS _⟩
theorem zk9 {s : St} {n : Nat} (h : zmo s n = true) : ∃ r, s.t n = .ptr r 0 ∧ (s.box r).isSome = true := by
 unfold zmo at h
 split at h
 · rename_i r o ht
   simp only [Bool.and_eq_true] at h
   rw [beq_eq.1 h.1] at ht
   exact ⟨r, ht, h.2⟩
 · cases h
theorem zbp (a : Act) (x : Option Nat) (v : Value) : (a.put x v).tmps.size = a.tmps.size := by cases x <;> simp [Act.put]
theorem za4 (a : Act) (x : Option Nat) (v : Value) : (a.put x v).defers = a.defers := by cases x <;> rfl
theorem zaC {s : St} {x : Nat} {d : D} (h : (s.t x).hasOwn = false) : s.put x d = { s with t := fun y => match Nat.beq y x with | true => d | false => s.t y } := by
 simp only [St.put, h]
 rfl
theorem zhw {s : St} {x : Nat} {d : D} : (s.put x d).box = s.box := by
 funext r
 unfold St.put
 cases h : (s.t x).hasOwn <;> cases r <;> rfl
theorem ze1 {s s' : St} {o : Oper} {y : Nat} {ef : Ef} (hy : o.dst = some y) (h : s.apply o.dst ef = some s') (hj : (s.t y).hasOwn = false) {w : Nat} (hw : w ≠ y) : s'.t w = s.t w := by
 have hb : Nat.beq w y = false := beq_ne.2 hw
 rw [hy] at h
 have hput : ∀ (s : St) (d : D), (s.t y).hasOwn = false → (s.put y d).t w = s.t w := fun s d hs => by
  rw [zaC hs]
  simp only [hb]
 cases ef with
 | pure d =>
   cases h
   exact hput s d hj
 | new cs =>
   simp only [St.apply] at h
   split at h
   · cases h
     have h1 : (s.setBox (.loc y) cs).t = s.t := setBox_tl.1
     rw [hput _ _ (by rw [h1]; exact hj), h1]
   · cases h
 | made cs =>
   simp only [St.apply] at h
   split at h
   · cases h
     have h1 : (s.setBox (.loc y) cs).t = s.t := setBox_tl.1
     rw [hput _ _ (by rw [h1]; exact hj), h1]
   · cases h
theorem zkc {E : Env} {lk : Operand → D} {gp : Pl → Option Row} {bx : Ref → Option (List D)} {ty t : Nat} {zl zc : Operand} {ef : Ef} (h : evOp E lk gp bx ty (.makeSlice t zl zc) = some ef) : ∃ d, ef = .pure d := by
 simp only [evOp, Option.bind_eq_some_iff] at h
 obtain ⟨i, _, h⟩ := h
 split at h
 · simp only [Option.bind_eq_some_iff] at h
   obtain ⟨j, _, z, _, n, _, m, _, h⟩ := h
   split at h
   · split at h
     · exact ⟨_, (Option.some.inj h).symm⟩
     · cases h
   · cases h
 · cases h
theorem zhk {E : Env} {lk lk' : Operand → D} : ∀ {zs : List Operand} {ts : List Nat}, (∀ z ∈ zs, lk z = lk' z) → zay E lk zs ts = zay E lk' zs ts
 | [], _, _ => rfl
 | z :: zs, ts, h => by
   unfold zay
   rw [h z List.mem_cons_self, zhk (fun z hz => h z (List.mem_cons_of_mem _ hz))]
theorem zhn {s : St} {x : Nat} {d : D} (hj : s.t x = .junk) {q : Pl} {r : Row} (h : s.get q = some r) : (s.put x d).get q = some r := by
 have ho : (s.t x).hasOwn = false := by rw [hj]; rfl
 rw [zaC ho]
 cases q with
 | slot y l =>
   have h : (D.at_ l (s.t y)).row? = some r := h
   have hne : y ≠ x := fun e => by
    rw [e, hj] at h
    cases l <;> cases h
   show (D.at_ l (match Nat.beq y x with | true => d | false => s.t y)).row? = some r
   rw [beq_ne.2 hne]
   exact h
 | cell r0 o => cases r0 <;> exact h
 | lent j => exact h
theorem zgf {s : St} {x y : Nat} {d e : D} (hxy : x ≠ y) (hx : (s.t x).hasOwn = false) (hy : (s.t y).hasOwn = false) : (s.put x d).put y e = (s.put y e).put x d := by
 have h1 : ((s.put x d).t y).hasOwn = false := by
  rw [zaC hx]
  show (match Nat.beq y x with | true => d | false => s.t y).hasOwn = false
  rw [beq_ne.2 (fun h => hxy h.symm)]
  exact hy
 have h2 : ((s.put y e).t x).hasOwn = false := by
  rw [zaC hy]
  show (match Nat.beq x y with | true => e | false => s.t x).hasOwn = false
  rw [beq_ne.2 hxy]
  exact hx
 rw [zaC h1, zaC h2, zaC hx, zaC hy]
 simp only [St.mk.injEq, and_true]
 funext w
 by_cases hwx : w = x
 · have hwy : w ≠ y := fun h => hxy (hwx.symm.trans h)
   simp only [beq_eq.2 hwx, beq_ne.2 hwy]
 · by_cases hwy : w = y
   · simp only [beq_ne.2 hwx, beq_eq.2 hwy]
   · simp only [beq_ne.2 hwx, beq_ne.2 hwy]
theorem zfB {s : St} {x : Nat} {d : D} {r : Ref} {cs : List D} (hx : (s.t x).hasOwn = false) : (s.put x d).setBox r cs = (s.setBox r cs).put x d := by
 have h1 : ((s.setBox r cs).t x).hasOwn = false := by rw [setBox_tl.1]; exact hx
 rw [zaC hx, zaC h1]
 cases r <;> rfl
theorem zjh {s s1 : St} {x y : Nat} {d : D} {ef : Ef} (hxy : x ≠ y) (hx : s.t x = .junk) (hy : s.t y = .junk) (h : s.apply (some y) ef = some s1) : (s.put x d).apply (some y) ef = some (s1.put x d) := by
 have hx' : (s.t x).hasOwn = false := by rw [hx]; rfl
 have hy' : (s.t y).hasOwn = false := by rw [hy]; rfl
 have hb : ∀ n, (s.put x d).b n = s.b n := fun n => by rw [zaC hx']
 have hsb : ∀ cs, ((s.put x d).setBox (.loc y) cs).put y (.ptr (.loc y) 0) = ((s.setBox (.loc y) cs).put y (.ptr (.loc y) 0)).put x d := fun cs => by
  rw [zfB hx']
  exact zgf hxy (by rw [setBox_tl.1]; exact hx') (by rw [setBox_tl.1]; exact hy')
 cases ef with
 | pure e =>
   cases h
   show some ((s.put x d).put y e) = some ((s.put y e).put x d)
   rw [zgf hxy hx' hy']
 | new cs =>
   simp only [St.apply] at h ⊢
   rw [hb]
   split at h
   · cases h
     simp only [hsb]
   · cases h
 | made cs =>
   simp only [St.apply] at h ⊢
   rw [hb]
   split at h
   · cases h
     simp only [hsb]
   · cases h
theorem zk8 {E : Env} {s : St} {o : Oper} {ty t : Nat} {z : Operand} (ho : o.op = .load t z) (h : zbG s o = true) (hne : evOp E s.look s.get s.box ty o.op ≠ none) : ∃ x, evOp E s.look s.get s.box ty o.op = some (.pure (.dat x)) := by
 obtain ⟨ef, hef⟩ := Option.ne_none_iff_exists'.1 hne
 refine Exists.imp (fun x hx => hef.trans hx) ?_
 rw [ho] at hef
 simp only [evOp, Option.bind_eq_some_iff, Option.map_eq_some_iff] at hef
 obtain ⟨i, hi, d, hd, rfl⟩ := hef
 unfold zbG at h
 rw [ho] at h
 simp only at h
 split at h
 · rename_i w q j off hz
   rw [hz] at hd
   simp only [zcp, Option.bind_eq_some_iff, Option.map_eq_some_iff] at hd
   obtain ⟨_, _, _, _, x, _, rfl⟩ := hd
   exact ⟨x, rfl⟩
 · rename_i b cs hz
   rw [hz] at hd
   simp only [zcp, Option.map_eq_some_iff] at hd
   obtain ⟨x, _, rfl⟩ := hd
   exact ⟨x, rfl⟩
 · cases h
theorem zdr {s : St} {y : Nat} {d : D} (hj : (s.t y).hasOwn = false) {z : Operand} (hz : zb4 y z = false) : (s.put y d).look z = s.look z := by
 cases z with
 | tmp w =>
   have hw : w ≠ y := fun e => by
    have : zb4 y (.tmp w) = true := beq_eq.2 e.symm
    rw [this] at hz; cases hz
   rw [zaC hj]
   show D.alias _ (match Nat.beq w y with | true => d | false => s.t w) = _
   rw [beq_ne.2 hw]
   rfl
 | _ => rfl
def zl1 : Ref → D → Bool
 | .loc _ => za2
 | .up _ => zcE
theorem zj3 (E : Env) (s : St) (ts : Nat) (r : Ref) (off : Nat) (w : Value) : zcd E s ts (.ptr r off) (.dat (.val w)) = (E.ty ts).bind fun i => match Nat.beq 1 i.sz && ([D.dat (.val w)]).all (zl1 r) with
 | false => none
 | true => (s.box r).bind fun cs => match isM cs with
   | true => none
   | false => if off + 1 ≤ cs.length then some ((s.killed (Kill.cells r off 1)).setBox r (cs.take off ++ [D.dat (.val w)] ++ cs.drop (off + 1))) else none := by
 cases r <;> rfl
theorem zgE {s : St} {y : Nat} {d : D} (hj : (s.t y).hasOwn = false) : (s.put y d).b = s.b ∧ (s.put y d).u = s.u ∧ (s.put y d).l = s.l ∧ ∀ x, (s.put y d).t x = if x = y then d else s.t x := by
 rw [zaC hj]
 refine ⟨rfl, rfl, rfl, fun x => ?_⟩
 show (match Nat.beq x y with | true => d | false => s.t x) = _
 by_cases h : x = y
 · rw [if_pos h, beq_eq.2 h]
 · rw [if_neg h, beq_ne.2 h]
theorem zlA {s s' : St} (h : s.b = s'.b) : ∀ n, s.keys n = s'.keys n
 | 0 => rfl
 | n + 1 => by unfold St.keys; rw [h, zlA h n]
theorem zjT {s s' : St} (h : s.b = s'.b) : ∀ (k : Nat) (l : List Nat), reach s k l = reach s' k l
 | 0, l => rfl
 | k + 1, l => by unfold reach; rw [h, zjT h k]
theorem zmS {s s' : St} (h : s.b = s'.b) (nt : Nat) (cap : List Ref) (args : List D) : s.sent nt cap args = s'.sent nt cap args := by
 unfold St.sent
 rw [zlA h, zjT h]
theorem zjD {s s' : St} (h : s.b = s'.b) (hu : s.u = s'.u) (keys : List Nat) (cap : List Ref) (args : List D) : s.upsSent keys cap args = s'.upsSent keys cap args := by
 unfold St.upsSent
 rw [h, hu]
theorem zhD {s : St} {y : Nat} {d : D} (hy : s.t y = .junk) (hd : zcR d = true) : (s.put y d).get = s.get := by
 have hj : (s.t y).hasOwn = false := by rw [hy]; rfl
 obtain ⟨hb, hu, hl, ht⟩ := zgE (d := d) hj
 have hbox : (s.put y d).box = s.box := by
  funext r
  cases r with
  | loc n => show (s.put y d).b n = s.b n; rw [hb]
  | up n => show (s.put y d).u[n]? = s.u[n]?; rw [hu]
 funext p
 cases p with
 | slot x q =>
   show (((s.put y d).t x).at_ q).row? = ((s.t x).at_ q).row?
   rw [ht]
   split
   · rename_i e
     subst e
     rw [hy]
     cases d with
     | bor p n => cases q <;> rfl
     | _ => cases hd
   · rfl
 | cell r o => simp only [St.get, hbox]
 | lent j => simp only [St.get, hl]
theorem zgQ {E : Env} {s : St} {y : Nat} {d : D} (hj : (s.t y).hasOwn = false) : ∀ (l : List Operand) (ts : List Nat), (∀ z ∈ l, zb4 y z = false) → zay E (s.put y d).look l ts = zay E s.look l ts
 | [], ts, _ => rfl
 | z :: l, ts, h => by
   unfold zay
   rw [zdr hj (h z (by simp)), zgQ hj l ts.tail fun z hz => h z (by simp [hz])]
theorem zdV {s : St} : ∀ (ms : List Nat) (ds : List D), zbh ms = true → zan ms ds s = some (ds, s)
 | _, [], _ => by unfold zan; rfl
 | [], d :: ds, h => by unfold zan; simp [zdV [] ds rfl]
 | m :: ms, d :: ds, h => by
   unfold zbh at h
   simp only [Bool.and_eq_true] at h
   have hm : m = 0 := beq_eq.1 h.1
   subst hm
   unfold zan
   simp [zdV ms ds h.2]
theorem zfa {gp : Pl → Option Row} : ∀ (ms : List Nat) (ds : List D), zbh ms = true → zaB gp ms ds = some []
 | _, [], _ => by unfold zaB; rfl
 | [], d :: ds, h => by unfold zaB; simp [zfa [] ds rfl]
 | m :: ms, d :: ds, h => by
   unfold zbh at h
   simp only [Bool.and_eq_true] at h
   have hm : m = 0 := beq_eq.1 h.1
   subst hm
   unfold zaB
   simp [zfa ms ds h.2]
theorem zgN {gp : Pl → Option Row} : ∀ {ds : List D}, ds.any zkR = true → zem gp ds = none
 | [], h => by cases h
 | d :: ds, h => by
   unfold zem
   simp only [List.any_cons, Bool.or_eq_true] at h
   rcases h with h | h
   · cases d with
     | ptr r o => rfl
     | _ => cases h
   · rw [zgN h]
     cases zi6 gp d <;> rfl
theorem zhf : ∀ {ds : List D}, ds.any zkR = true → ds.all zgo = false
 | [], h => by cases h
 | d :: ds, h => by
   simp only [List.any_cons, Bool.or_eq_true] at h
   simp only [List.all_cons, Bool.and_eq_false_iff]
   rcases h with h | h
   · cases d with
     | ptr r o => exact .inl rfl
     | _ => cases h
   · exact .inr (zhf h)
theorem zhq {E : Env} {s : St} {oj : Oper} {ca : Call} {z : Operand} {f x : Nat} {cap : List Ref} (ho : oj.op = .call ca) (hc : ca.callee = .value z) (hz : s.look z = .fn f cap) (hdst : oj.dst = some x) (hm : zbh (E.mode f) = true) (hk : s.sent E.nt cap (zay E s.look ca.args.toList ca.argTypes.toList) = []) (hp : (zay E s.look ca.args.toList ca.argTypes.toList).any zkR = true) :
 step E s oj = (zas (hide [] true s.get) (s.upsSent [] cap (zay E s.look ca.args.toList ca.argTypes.toList)) [] (E.mode f) 0 (zay E s.look ca.args.toList ca.argTypes.toList)).bind fun v =>
  (zbD (s.upsSent [] cap (zay E s.look ca.args.toList ca.argTypes.toList)) [] cap).bind fun caps =>
  (zb7 (s.upsSent [] cap (zay E s.look ca.args.toList ca.argTypes.toList)) [] (s.u.take (s.upsSent [] cap (zay E s.look ca.args.toList ca.argTypes.toList)) ++ [])).bind fun us =>
  (E.call f (v.1 ++ caps.map fun r => .ptr r 0) us []).bind fun q =>
  match (v.2 && !(D.cleans q.1 && (za1 q.2.2 && zbd q.2.1))) || !D.plains q.1 with
  | true => none
  | false => some ((s.regain (s.upsSent [] cap (zay E s.look ca.args.toList ca.argTypes.toList)) [] q.2.1).put x (retD q.1)) := by
 have hev : evOp E s.look s.get s.box oj.type oj.op = none := by
  rw [ho]
  simp only [evOp, hc, hz]
  cases cap with
  | nil =>
    simp only [zcW, hm, zgN hp, Option.bind_none]
  | cons r l => rfl
 unfold step
 rw [hev, ho]
 simp only [doOp, hc, hz, zfC, zdV _ _ hm, zfa _ _ hm, Option.bind_some, zaM, zhf hp, Bool.and_false, List.all_nil, hk, zdQ, List.map_nil, hdst]
 rfl
theorem zi8 {s : St} {y m : Nat} {d : D} {u : List (List D)} (hy : s.t y = .junk) (hd : zcR d = true) : (s.put y d).regain m [] u = (s.regain m [] u).put y d := by
 have hj : (s.t y).hasOwn = false := by rw [hy]; rfl
 have hj2 : ((s.regain m [] u).t y).hasOwn = false := by
  show ((s.t y).kill _).hasOwn = false
  rw [hy]; rfl
 obtain ⟨hb, hu, hl, ht⟩ := zgE (d := d) hj
 obtain ⟨hb2, hu2, hl2, ht2⟩ := zgE (d := d) hj2
 have hdk : d.kill (Kill.sent m []) = d := by
  unfold zcR at hd
  split at hd
  · rfl
  · cases hd
 have e : ∀ a b : St, a.t = b.t → a.b = b.b → a.u = b.u → a.l = b.l → a = b := fun a b h1 h2 h3 h4 => by
  cases a; cases b; simp only at h1 h2 h3 h4; subst h1 h2 h3 h4; rfl
 refine e _ _ ?_ ?_ ?_ ?_
 · funext x
   rw [ht2]
   show ((s.put y d).t x).kill _ = if x = y then d else (s.t x).kill _
   rw [ht]
   split
   · exact hdk
   · rfl
 · rw [hb2]
   funext n
   exact congrFun hb n
 · rw [hu2]
   show _ ++ (s.put y d).u.drop m = _ ++ s.u.drop m
   rw [hu]
 · rw [hl2]
   exact hl
theorem zks {E : Env} {s s2 : St} {x y : Nat} {d : D} {oj : Oper} {ca : Call} (hy : s.t y = .junk) (hx : s.t x = .junk) (hd : zcR d = true) (ho : oj.op = .call ca) (hdst : oj.dst = some x) (hxy : x ≠ y) (hcal : (match ca.callee with | .value (.func _) => true | _ => false) = true) (hok : zcL E (s.put y d) oj = true) (hna : ∀ z ∈ ca.args.toList, zb4 y z = false) (h : step E (s.put y d) oj = some s2) :
 ∃ t1, step E s oj = some t1 ∧ s2 = t1.put y d ∧ ∀ {ty t : Nat} {z : Operand}, zb4 x z = false → (∃ n off, s.look z = .ptr (.loc n) off) → evOp E s.look s.get s.box ty (.load t z) = some (.pure d) → evOp E t1.look t1.get t1.box ty (.load t z) = some (.pure d) := by
 have hjy : (s.t y).hasOwn = false := by rw [hy]; rfl
 have hjx : (s.t x).hasOwn = false := by rw [hx]; rfl
 obtain ⟨hb, hu, hl, ht⟩ := zgE (d := d) hjy
 unfold zcL at hok
 rw [ho] at hok
 simp only at hok
 split at hok
 · rename_i z hc
   have hnz : zb4 y z = false := by
    rw [hc] at hcal
    split at hcal
    · rename_i heq
      cases heq
      rfl
    · cases hcal
   split at hok
   · rename_i f cap hz
     simp only [Bool.and_eq_true, List.isEmpty_iff] at hok
     obtain ⟨hm, hk, hp⟩ := hok
     rw [zhq ho hc hz hdst hm hk hp] at h
     have hz' : s.look z = .fn f cap := by rw [← zdr hjy hnz]; exact hz
     rw [zgQ hjy _ _ hna] at h hk hp
     rw [zmS hb] at hk
     rw [zhD hy hd, zjD hb hu, hu] at h
     rw [zhq ho hc hz' hdst hm hk hp]
     generalize s.upsSent [] cap (zay E s.look ca.args.toList ca.argTypes.toList) = m at *
     simp only [Option.bind_eq_some_iff] at h
     obtain ⟨v, hv, caps, hcaps, us, hus, q, hq, h⟩ := h
     split at h
     · cases h
     rename_i hcond
     cases h
     have hjx2 : ((s.regain m [] q.2.1).t x).hasOwn = false := by
      show ((s.t x).kill _).hasOwn = false
      rw [hx]; rfl
     have hjy2 : ((s.regain m [] q.2.1).t y).hasOwn = false := by
      show ((s.t y).kill _).hasOwn = false
      rw [hy]; rfl
     refine ⟨(s.regain m [] q.2.1).put x (retD q.1), ?_, ?_, fun {ty t z2} hz2 hloc hl2 => ?_⟩
     · simp only [hv, hcaps, hus, hq, Option.bind_some, hcond]
     · rw [zi8 hy hd, zgf (fun e => hxy e.symm) hjy2 hjx2]
     · simp only [evOp, Option.bind_eq_some_iff, Option.map_eq_some_iff] at hl2 ⊢
       obtain ⟨i, hi, d0, hd0, hpd⟩ := hl2
       cases hpd
       refine ⟨i, hi, d, ?_, rfl⟩
       obtain ⟨n, off, hlk⟩ := hloc
       have hlk1 : ((s.regain m [] q.2.1).put x (retD q.1)).look z2 = .ptr (.loc n) off := by
        rw [zdr hjx2 hz2]
        cases z2 with
        | tmp w =>
          have h1 : (s.t w).alias (.slot w []) = .ptr (.loc n) off := hlk
          show ((s.t w).kill _).alias (.slot w []) = _
          have h2 : s.t w = .ptr (.loc n) off := by
           cases h3 : s.t w <;> rw [h3] at h1 <;> first | exact h1 | cases h1
          rw [h2]
          rfl
        | _ => exact hlk
       rw [hlk] at hd0
       rw [hlk1]
       have hbx : ((s.regain m [] q.2.1).put x (retD q.1)).box (.loc n) = s.box (.loc n) := by
        show ((s.regain m [] q.2.1).put x (retD q.1)).b n = s.b n
        rw [(zgE hjx2).1]
        rfl
       unfold zcp at hd0 ⊢
       simp only at hd0 ⊢
       rw [hbx]
       exact hd0
   · cases hok
 · cases hok
theorem ziT {E : Env} {s s2 : St} {y : Nat} {x : Dat} {oj : Oper} {ts : Nat} {ad vl : Operand} (hj : s.t y = .junk) (ho : oj.op = .store ts ad vl) (hok : zbE (s.put y (.dat x)) oj = true) (hna : zb4 y ad = false) (hnv : zb4 y vl = false) (h : step E (s.put y (.dat x)) oj = some s2) :
 ∃ t1, step E s oj = some t1 ∧ s2 = t1.put y (.dat x) ∧ ∀ {o : Oper} {ty t : Nat} {z : Operand} {ef : Ef}, zbG s o = true → o.op = .load t z → evOp E s.look s.get s.box ty (.load t z) = some ef → evOp E t1.look t1.get t1.box ty (.load t z) = some ef := by
 have hj' : (s.t y).hasOwn = false := by rw [hj]; rfl
 unfold zbE at hok
 rw [ho] at hok
 simp only at hok
 split at hok
 · rename_i r off w ha hv
   have hla : s.look ad = .ptr r off := by rw [← zdr hj' hna]; exact ha
   have hlv : s.look vl = .dat (.val w) := by rw [← zdr hj' hnv]; exact hv
   have hnil : ze9 vl = false := by
    unfold ze9
    split
    · have h0 : (St.put y (.dat x) s).look (.const (.slice none 0 0)) = .dat (.lst false []) := rfl
      rw [h0] at hv
      cases hv
    · rfl
   have hstep : ∀ s : St, s.look ad = .ptr r off → s.look vl = .dat (.val w) → step E s oj = zcd E s ts (.ptr r off) (.dat (.val w)) := fun s h1 h2 => by
    unfold step
    rw [ho]
    simp only [evOp, doOp, hnil, h1, h2]
   rw [hstep _ ha hv] at h
   have hdo := fun s : St => zj3 E s ts r off w
   rw [hdo] at h
   simp only [Option.bind_eq_some_iff] at h
   obtain ⟨i, hi, h⟩ := h
   split at h
   · cases h
   · rename_i hcond
     simp only [Option.bind_eq_some_iff] at h
     obtain ⟨cs, hcs, h⟩ := h
     split at h
     · cases h
     · rename_i hm
       split at h
       · rename_i hle
         cases h
         rw [zhw] at hcs
         refine ⟨(s.killed (Kill.cells r off 1)).setBox r (cs.take off ++ [D.dat (.val w)] ++ cs.drop (off + 1)), ?_, ?_, ?_⟩
         · rw [hstep _ hla hlv, hdo]
           simp only [hi, Option.bind_some, hcond, hcs, hm, hle, if_true]
         · have h1 : ((s.killed (Kill.cells r off 1)).t y).hasOwn = false := by
            show ((s.t y).kill _).hasOwn = false
            rw [zaw]; exact hj'
           rw [← zfB h1]
           congr 1
           rw [zaC h1, zaC hj']
           simp only [St.killed, St.mk.injEq, and_true]
           funext q
           cases hb : Nat.beq q y <;> simp only [D.kill]
         · intro o ty t z ef hrl hol hev
           unfold zbG at hrl
           rw [hol] at hrl
           simp only at hrl
           have hlook : ∀ d, s.look z = d → (∃ w q j off, d = .bp (.slot w q) j off) ∨ (∃ b cs, d = .ep b cs) → ((s.killed (Kill.cells r off 1)).setBox r (cs.take off ++ [D.dat (.val w)] ++ cs.drop (off + 1))).look z = d := by
            intro d hd hor
            cases z with
            | tmp q =>
              show D.alias _ (((s.killed (Kill.cells r off 1)).setBox r _).t q) = d
              rw [setBox_tl.1]
              show D.alias _ ((s.t q).kill _) = d
              have hd' : D.alias (.slot q []) (s.t q) = d := hd
              cases hq : s.t q with
              | bp p j o2 =>
                rw [hq] at hd'
                have e : D.bp p j o2 = d := hd'
                subst e
                rcases hor with ⟨w2, q2, j2, off2, e⟩ | ⟨b, cs2, e⟩
                · cases e; rfl
                · cases e
              | ep b cs2 =>
                rw [hq] at hd'
                exact hd'
              | _ =>
                rw [hq] at hd'
                simp only [D.alias] at hd'
                subst hd'
                rcases hor with ⟨_, _, _, _, e⟩ | ⟨_, _, e⟩ <;> cases e
            | _ => exact hd
           simp only [evOp, Option.bind_eq_some_iff, Option.map_eq_some_iff] at hev ⊢
           obtain ⟨i2, hi2, d, hd, rfl⟩ := hev
           refine ⟨i2, hi2, d, ?_, rfl⟩
           split at hrl
           · rename_i w2 q2 j2 off2 hz
             rw [hlook _ hz (.inl ⟨_, _, _, _, rfl⟩)]
             rw [hz] at hd
             simp only [zcp] at hd ⊢
             have hget : ((s.killed (Kill.cells r off 1)).setBox r (cs.take off ++ [D.dat (.val w)] ++ cs.drop (off + 1))).get (.slot w2 q2) = s.get (.slot w2 q2) := by
              show (D.at_ q2 (((s.killed (Kill.cells r off 1)).setBox r _).t w2)).row? = (D.at_ q2 (s.t w2)).row?
              rw [setBox_tl.1]
              exact zaZ q2 _
             rw [hget]
             exact hd
           · rename_i b2 cs2 hz
             rw [hlook _ hz (.inr ⟨_, _, rfl⟩)]
             rw [hz] at hd
             exact hd
           · cases hrl
       · cases h
 · cases hok
section
variable {P : Program} {E : Env} {ops : Array Oper} {X : Nat} {Mo : Option (List Nat)} {c0 : Cx} {a0 : Act}
theorem Inv.step {first first' : Bool} {A : List Nat} {blk : Nat → Nat} {c c' : Cx} {a a' : Act} {i : Nat} {o : Oper} {v : Value} (h : Inv P B E ops X Mo c0 a0 first A blk c a) (hdst : zii ops = true) (hM : ∀ M, Mo = some M → ∀ o ∈ ops.toList, ∀ n ∈ M, o.dst ≠ some n)
 (hi : ops[i]? = some o) (hA : memN i A = false) (hf : Fr X c' a') (he : Ext c c') (hsz : a'.tmps.size = a.tmps.size) (hdf : a'.defers = a.defers) (ht : a'.tmps = (a.put o.dst v).tmps)
 (hfst : first' = true → ∀ b g, Rd c'.ρ b g → g < c'.W.heap.size → g < c0.W.heap.size ∧ stable (c0.ρ g)) : Inv P B E ops X Mo c0 a0 first' A blk c' a' := by
 refine ⟨h.base, hf, h.env.next he hsz, h.ext.trans he, hsz.trans h.sz, hdf.trans h.df, fun M hMo n hn => ?_, hfst, fun j hj => (h.al j hj).step he ht fun oj n hoj hn => ?_, h.dis⟩
 · rw [ht, zgi (hM M hMo o (Array.mem_toList_iff.2 (Array.mem_of_getElem? hi)) n hn)]
   exact h.mtm M hMo n hn
 · intro e
   have hne : j ≠ i := fun e => by rw [e, hA] at hj; cases hj
   exact zgH hdst hoj hi hne hn e
theorem zin {c c' : Cx} (h : ∀ b g, Rd c.ρ b g → g < c.W.heap.size → g < c0.W.heap.size ∧ stable (c0.ρ g)) (hW : c'.W = c.W) (hρ : ∀ g, g < c.W.heap.size → c'.ρ g = c.ρ g) : ∀ b g, Rd c'.ρ b g → g < c'.W.heap.size → g < c0.W.heap.size ∧ stable (c0.ρ g) := fun b g hr hg => by
 rw [hW] at hg
 refine h b g ?_ hg
 unfold Rd at *
 rw [hρ g hg] at hr
 exact hr
theorem zi1 {fl : Nat → Bool} {Q0 : Exit → Act → World → Prop} {s' : St} (hty : TyOk P c0.ty) (hops : ∀ o ∈ ops.toList, za6 E.nt o = true) (hsel : Region.noSelect ops = true) (hdst : zii ops = true) (hM : ∀ M, Mo = some M → ∀ o ∈ ops.toList, ∀ n ∈ M, o.dst ≠ some n)
 (hQ0 : ∀ ch a w, ¬ Q0 (.panic ch) a w) (hEnd : EndsIn P X c0 a0 s' (Q0 .normal)) : ∀ (rows : List PRow) (fuel : Nat) (first : Bool) (L listed : Array Bool) (A : List Nat) (blk : Nat → Nat) (c : Cx) (a : Act), zb3 E.ty ops fl L rows = true → Sup L listed A → (∀ j, memN j A = true → j ∈ zai rows) →
  zco A rows ≤ fuel → Inv P B E ops X Mo c0 a0 first A blk c a → zaz E ops Mo first rows c.s = some s' → zbQ P .any ops Q0 (RG (Gd c0 a0 Mo)) fl fuel listed a c.W := by
 have hQ : ∀ (x : Option Nat) (v : Value) ch (a : Act) w, Q0 (.panic ch) (a.put x v) w → Q0 (.panic ch) a w := fun x v ch a w h => (hQ0 _ _ _ h).elim
 intro rows
 induction hn : rows.length using Nat.strongRecOn generalizing rows with
 | ind nn ihn =>
 cases rows with
 | nil =>
   intro fuel first L listed A blk c a hgo hsup hA hst hinv h
   cases h
   have hre : Region.ready .any ops listed = [] := by
    rw [List.eq_nil_iff_forall_not_mem]
    intro j hj
    rcases zcf (B := []) hsup (fun k hk => by cases hA k hk) hj with h | h
    · cases h
    · have : (Region.ready .any ops L).isEmpty = true := hgo
      rw [List.isEmpty_iff] at this
      have h : j ∈ Region.ready .any ops L := h
      rw [this] at h
      cases h
   have hq : Q0 .normal a c.W := hEnd a c rfl hinv.fr hinv.ext hinv.sz hinv.df
   cases fuel with
   | zero => exact ⟨hre, hq⟩
   | succ fuel => exact ⟨fun _ => hq, fun i hi => by rw [hre] at hi; cases hi⟩
 | cons r l =>
   have ihl := ihn l.length (by rw [← hn]; simp) l rfl
   have ihl2 := fun (r' : PRow) (l' : List PRow) (e : l = r' :: l') => ihn l'.length (by rw [← hn, e]; simp; omega) l' rfl
   have ihl3 := fun (r' : PRow) (l' : List PRow) (e : l = r' :: l') (r : PRow) => ihn (r :: l').length (by rw [← hn, e]; simp) (r :: l') rfl
   clear ihn hn
   obtain ⟨i, k, ds⟩ := r
   have hadopt : ∀ (fuel : Nat) (first : Bool) (L listed : Array Bool) (A : List Nat) (blk : Nat → Nat) (c : Cx) (a : Act), zb3 E.ty ops fl L ((i, k, ds) :: l) = true → Sup L listed A → (∀ j, memN j A = true → j ∈ zai ((i, k, ds) :: l)) →
    zco A ((i, k, ds) :: l) ≤ fuel → Inv P B E ops X Mo c0 a0 first A blk c a → zaz E ops Mo first ((i, k, ds) :: l) c.s = some s' → memN i A = true → zbQ P .any ops Q0 (RG (Gd c0 a0 Mo)) fl fuel listed a c.W := by
    intro fuel first L listed A blk c a hgo hsup hA hst hinv h hiA
    simp only [zb3, Bool.and_eq_true, Bool.not_eq_true'] at hgo
    obtain ⟨⟨hre, hni, hal⟩, hrow, hgo⟩ := hgo
    have hmem := hA i hiA
    have hnl : i ∉ zai l := fun h => by
     obtain ⟨r, hr, e⟩ := zbS h
     have := (List.any_eq_false.1 hni) r hr
     exact this (beq_eq.2 e)
    have hk3 : k = 3 := by
     unfold zai at hmem
     split at hmem
     · rename_i hb; exact beq_eq.1 hb
     · exact (hnl hmem).elim
    subst hk3
    obtain ⟨o, t, n, i0, vs, T, h1, h2, h3, h4, h5, h6, h7, h8, h9⟩ := hinv.al i hiA
    obtain ⟨o', t', n', i0', h1', h2', h3', hg', hn', _⟩ := zfL ((List.all_eq_true.1 hal) i hmem)
    rw [h1] at h1'
    cases h1'
    simp only [zaz, h1, hg', zby] at h
    split at h
    · cases h
    rename_i hjunk
    simp only [Option.bind_eq_some_iff, zat, zaL] at h
    obtain ⟨s1, hs1, h⟩ := h
    unfold zeX at hs1
    rw [h2, h3] at hs1
    simp only [Option.bind_eq_some_iff] at hs1
    obtain ⟨i1, hi1, hs1⟩ := hs1
    rw [hinv.env.ty, h4] at hi1
    cases hi1
    split at hs1
    · rename_i hb
      cases hs1
      have hlt : n < a.tmps.size := by
       rw [hinv.env.nt]
       exact zaR (hops o (Array.mem_toList_iff.2 (Array.mem_of_getElem? h1))) n h3
      obtain ⟨hl, hv⟩ := h9 c X rfl
      obtain ⟨c1, a1, a2, a3, a4, a5, a6⟩ := zhJ (c := c.nilH X) (X := X) (tm := a.tmps) (n := n) (g := blk i) (cs := i0.zero) (vs := vs) (T := T) (zgw hinv.fr.sim hinv.fr.ghost) hinv.fr.ghost.nilH hlt hb (by obtain ⟨_, _, _, hf0⟩ := hinv.env.tys.facts h4; exact zlt hf0.zs) hl hv h6 h7 h8
      have hext : Ext c0 c1 := a4 c0 (hinv.ext.trans (zga c X)) h5
      have hty1 : c1.ty = c.ty := by rw [hext.ty, hinv.ext.ty]
      have hW1 : c1.W = c.W := a1
      rw [← hW1]
      refine ihl fuel first (L.setIfInBounds i true) listed (A.filter fun j => !Nat.beq j i) blk c1 a hgo (hsup.adopt hiA) (fun j hj => ?_) ?_ ⟨hinv.base, ⟨a3, hinv.fr.ghost.out, ?_⟩, ⟨by rw [hty1]; exact hinv.env.ty, by rw [hty1]; exact hinv.env.tys, hinv.base.ext hext, by rw [hty1]; exact hinv.env.call, hinv.env.nt⟩, hext, hinv.sz, hinv.df, hinv.mtm, fun hf b g hr hg => ?_, fun j hj => ?_, fun j k hj hk hne => ?_⟩ ?_
      · have hjA := (List.mem_filter.1 (memN_iff.1 hj))
        have hm := hA j (memN_iff.2 hjA.1)
        have hm' : j ∈ i :: zai l := hm
        rcases List.mem_cons.1 hm' with e | hm'
        · subst e
          have := hjA.2
          rw [show Nat.beq j j = true from beq_eq.2 rfl] at this
          cases this
        · exact hm'
      · have := zaK (A := A) (i := i) (k := 3) (ds := ds) (l := l)
        rw [hiA] at this
        have h10 := zid (A := A) hni
        simp only at this
        omega
      · rw [a2]
        have hne : X ≠ n := Nat.ne_of_gt (Nat.lt_of_lt_of_le hlt hinv.fr.ghost.out)
        refine zaY hne ?_
        rw [setBox_tl.1]
        exact hinv.fr.ghost.own
      · rw [hW1] at hg
        exact hinv.fst hf b g (a6 b g hr) hg
      · have hjA := (List.mem_filter.1 (memN_iff.1 hj))
        have hji : j ≠ i := fun e => by
         have := hjA.2
         rw [e, show Nat.beq i i = true from beq_eq.2 rfl] at this
         cases this
        have hjA' := memN_iff.2 hjA.1
        obtain ⟨oj, t', n', i', vs', T', b1, b2, b3, b4, b5, b6, b7, b8, b9⟩ := hinv.al j hjA'
        refine ⟨oj, t', n', i', vs', T', b1, b2, b3, by rw [hty1]; exact b4, b5, ?_, by rw [hW1]; exact b7, b8, fun c' Y e => b9 c' Y (by rw [e, hty1])⟩
        exact (a5 (blk j) (hinv.dis j i hjA' hiA hji) (by show stable (c.ρ (blk j)); rw [b6]; trivial)).trans b6
      · exact hinv.dis j k (memN_iff.2 (List.mem_filter.1 (memN_iff.1 hj)).1) (memN_iff.2 (List.mem_filter.1 (memN_iff.1 hk)).1) hne
      · rw [a2]
        have h : zaz E ops Mo (first && zbt 3) l ((c.s.setBox (.loc n) i0.zero).put n (.ptr (.loc n) 0)) = some s' := h
        rw [show (first && zbt 3) = first from Bool.and_true first] at h
        exact h
    · cases hs1
   intro fuel
   induction fuel with
   | zero =>
     intro first L listed A blk c a hgo hsup hA hst hinv h
     cases hiA : memN i A with
     | true => exact hadopt _ first L listed A blk c a hgo hsup hA hst hinv h hiA
     | false =>
       rw [zaK, hiA] at hst
       simp only at hst
       omega
   | succ fuel ihf =>
     intro first L listed A blk c a hgo hsup hA hst hinv h
     cases hiA : memN i A with
     | true => exact hadopt _ first L listed A blk c a hgo hsup hA hst hinv h hiA
     | false =>
     have hgo0 := hgo
     have h0 := h
     simp only [zb3, Bool.and_eq_true, Bool.not_eq_true'] at hgo
     obtain ⟨⟨hre, hni, hal⟩, hrow, hgo⟩ := hgo
     have hreadyL : i ∈ Region.ready .any ops L := by simpa using hre
     have hready := zkB hsup hreadyL hiA
     have hst' : zco A l ≤ fuel := by
      rw [zaK, hiA] at hst
      simp only at hst
      omega
     unfold zaz at h
     split at h
     · cases h
     rename_i hjunk
     split at h
     · cases h
     rename_i o hi
     have hk := hops o (Array.mem_toList_iff.2 (Array.mem_of_getElem? hi))
     have hd : ∀ n : Nat, o.dst = some n → n < a.tmps.size := by rw [hinv.env.nt]; exact zaR hk
     have hg := zgt (E := E) hinv.fr.sim hops hinv.env.nt h
     have hAl : ∀ j, memN j A = true → j ∈ zai l := fun j hj => by
      have hm := hA j hj
      unfold zai at hm
      split at hm
      · rcases List.mem_cons.1 hm with e | hm
        · rw [e, hiA] at hj; cases hj
        · exact hm
      · exact hm
     -- alone
     have halone : zbI ops L i l = true → (k = 3 ∨ ∀ K, (K = fun a' w' => (fl i = true → RG (Gd c0 a0 Mo) c.W w') ∧ zbQ P .any ops Q0 (RG (Gd c0 a0 Mo)) fl fuel (listed.setIfInBounds i true) a' w') → wpOp P ops Q0 i K a c.W) → zbQ P .any ops Q0 (RG (Gd c0 a0 Mo)) fl (fuel + 1) listed a c.W := by
      intro hal1 hself
      refine ⟨fun e => (by rw [e] at hready; cases hready), fun j hj => ?_⟩
      have hjA : memN j A = false := (hsup.un (mem_ready.1 hj).1).2
      have hearly : j ∈ zai ((i, k, ds) :: l) → wpOp P ops Q0 j (fun a' w' => (fl j = true → RG (Gd c0 a0 Mo) c.W w') ∧ zbQ P .any ops Q0 (RG (Gd c0 a0 Mo)) fl fuel (listed.setIfInBounds j true) a' w') a c.W := by
       intro hjm
       obtain ⟨oj, t, n, i0, b1, b2, b3, b4, b5, b6⟩ := zfL ((List.all_eq_true.1 hal) j hjm)
       have hjn : c.s.t n = .junk := zbo hjunk n b5
       have hlt : n < a.tmps.size := by
        rw [hinv.env.nt]
        exact zaR (hops oj (Array.mem_toList_iff.2 (Array.mem_of_getElem? b1))) n b3
       rw [hinv.env.ty] at b6
       obtain ⟨inf, _, z, hfz⟩ := hinv.env.tys.facts b6
       have hrun : (execOp a.eval oj).run P c.W = .ok (.value (.pointer (some ⟨c.W.heap.size, 0, none⟩))) (c.W.alloc (.cells (List.toArray z.cells.toList) t (0, 0))) := by
        simp [execOp, b2, Instr.alloc, zeroValue, typeInfo, hfz.info, hfz.zero, newVar, newRow]
       obtain ⟨c', e1, e2, e3, e4, e5, e6⟩ := zhH (n := n) (ob := .cells (List.toArray z.cells.toList) t (0, 0)) (v := .pointer (some ⟨c.W.heap.size, 0, none⟩)) hinv.fr hlt hjn
       have hbel : Below c.W.heap.size c.W c'.W := by
        rw [e2]
        exact ⟨rfl, rfl, rfl, by show c.W.heap.size ≤ (c.W.alloc _).heap.size; simp, fun k hk => Below.heap_alloc c.W _ k hk⟩
       unfold wpOp
       rw [b1]
       have hw : Region.wanted oj (yielded ops a.tmps) = true := by simp [Region.wanted, b4]
       simp only [hw, if_true]
       refine .inl ?_
       unfold Oper.wp
       rw [hrun]
       show _ ∧ _
       rw [b3, ← e2]
       refine ⟨fun _ => RG.of_below hbel, ?_⟩
       have hlj : listed.getD j true = false := (mem_ready.1 hj).1
       refine ihf first L _ (j :: A) (fun m => if m = j then c.W.heap.size else blk m) c' _ hgo0 (hsup.early j) (fun m hm => ?_) ?_ ⟨hinv.base, e3, hinv.env.next e4 (zbp _ _ _), hinv.ext.trans e4, (zbp _ _ _).trans hinv.sz, (za4 _ _ _).trans hinv.df, fun M hMo m hm => ?_, fun hfst b g hr hgl => ?_, fun m hm => ?_, fun m1 m2 hm1 hm2 hne => ?_⟩ (by rw [e1]; exact h0)
       · rw [zbf, Bool.or_eq_true] at hm
         rcases hm with hm | hm
         · rw [beq_eq.1 hm]; exact hjm
         · exact hA m hm
       · have := zfp hjA (zbS hjm)
         omega
       · rw [zgi (hM M hMo oj (Array.mem_toList_iff.2 (Array.mem_of_getElem? b1)) m hm ∘ fun e => by rw [b3]; exact e)]
         exact hinv.mtm M hMo m hm
       · by_cases hgs : g < c.W.heap.size
         · have hr' : Rd c.ρ b g := by
            unfold Rd at *
            rw [e5 g hgs] at hr
            exact hr
           exact hinv.fst hfst b g hr' hgs
         · have hge : g = c.W.heap.size := by
            rw [e2] at hgl
            have : g < c.W.heap.size + 1 := by simpa using hgl
            omega
           subst hge
           rcases hr with hr | ⟨_, hr⟩ <;> (rw [e6] at hr; cases hr)
       · rw [zbf, Bool.or_eq_true] at hm
         by_cases hmj : m = j
         · subst hmj
           rw [if_pos rfl]
           refine ⟨oj, t, n, i0, z.cells.toList, t, b1, b2, b3, by rw [e4.ty]; exact b6, hinv.ext.size, e6, ?_, ?_, fun c'' Y e => zcS (by rw [e, e4.ty]) hfz.zs⟩
           · rw [e2]
             exact heap_alloc_new c.W _
           · simp [Act.put, Array.getD, hlt]
         · rw [if_neg hmj]
           have hmA : memN m A = true := by
            rcases hm with hm | hm
            · exact (hmj (beq_eq.1 hm)).elim
            · exact hm
           exact (hinv.al m hmA).step e4 rfl fun om nm hom hnm e => zgH hdst hom b1 hmj hnm (by rw [b3]; exact e)
       · have hold : ∀ m, memN m A = true → blk m < c.W.heap.size := fun m hm => by
          obtain ⟨_, _, _, _, _, _, _, _, _, _, _, _, h7, _⟩ := hinv.al m hm
          exact (Array.getElem?_eq_some_iff.1 h7).1
         have hin : ∀ m, memN m (j :: A) = true → m ≠ j → memN m A = true := fun m hm hne => by
          rw [zbf, Bool.or_eq_true] at hm
          rcases hm with hm | hm
          · exact (hne (beq_eq.1 hm)).elim
          · exact hm
         by_cases x1 : m1 = j
         · have x2 : m2 ≠ j := fun e => hne (by rw [x1, e])
           rw [if_pos x1, if_neg x2]
           have := hold m2 (hin m2 hm2 x2)
           omega
         · rw [if_neg x1]
           by_cases x2 : m2 = j
           · rw [if_pos x2]
             have := hold m1 (hin m1 hm1 x1)
             omega
           · rw [if_neg x2]
             exact hinv.dis m1 m2 (hin m1 hm1 x1) (hin m2 hm2 x2) hne
      rcases zcf (B := zai l) hsup (fun m hm => memN_iff.2 (hAl m hm)) hj with hjl | hjr
      · refine hearly ?_
        unfold zai
        split
        · exact List.mem_cons_of_mem _ (memN_iff.1 hjl)
        · exact memN_iff.1 hjl
      · have hji : i = j := beq_eq.1 ((List.all_eq_true.1 hal1) j hjr)
        subst hji
        rcases hself with hk3 | hself
        · refine hearly ?_
          rw [hk3]
          exact List.mem_cons_self
        · exact hself _ rfl
     -- what follows
     have hafter : ∀ (first' : Bool) (s1 : St) (c' : Cx) (a' : Act) (v : Value), c'.s = s1 → Fr X c' a' → Ext c c' → a'.tmps.size = a.tmps.size → a'.defers = a.defers → a'.tmps = (a.put o.dst v).tmps →
      (first' = true → ∀ b g, Rd c'.ρ b g → g < c'.W.heap.size → g < c0.W.heap.size ∧ stable (c0.ρ g)) → zaz E ops Mo first' l s1 = some s' → zbQ P .any ops Q0 (RG (Gd c0 a0 Mo)) fl fuel (listed.setIfInBounds i true) a' c'.W := by
      intro first' s1 c' a' v e1 e2 e3 e4 e5 e6 e7 e8
      exact ihl fuel first' _ _ A blk c' a' hgo (hsup.set i) hAl hst' (hinv.step hdst hM hi hiA e2 e3 e4 e5 e6 e7) (by rw [e1]; exact e8)
     generalize hD : zeh ops i (List.range ops.size) [] = BH at *
     have hfree : zff ops L i (zai l) = true → (∀ j oj, ops[j]? = some oj → memN j BH = true → ∃ e ∈ oj.after, Region.binds .any e = true ∧ (e.on = i ∨ memN e.on BH = true)) ∧ (∀ j oj, ops[j]? = some oj → j ≠ i → listed.getD j true = false → memN j BH = false → o.apart ops oj = true) ∧ (∀ k, listed.getD k false = true → memN k BH = false) := fun hc => by
      unfold zff at hc
      rw [hD] at hc
      simp only [Bool.and_eq_true] at hc
      refine ⟨fun j oj hoj hj => (zeB hc.1 hj).1 oj hoj, fun j oj hj hne hun hno => zj8 hi hc.2 hj hne (hsup.un hun).1 hno, fun m hm => ?_⟩
      cases hmD : memN m BH with
      | false => rfl
      | true =>
        obtain ⟨_, h1, h2⟩ := zeB hc.1 hmD
        rcases hsup.onL hm with h3 | h3
        · rw [h3] at h1; cases h1
        · rw [memN_iff.2 (hAl m h3)] at h2; cases h2
     obtain ⟨hu1, hu2⟩ := zi2 (x := o.dst) hinv.fr hd
     have hk5 : k = 7 ∨ k = 10 ∨ k = 11 ∨ k = 12 ∨ k = 13 ∨ k = 0 ∨ k = 1 ∨ k = 2 ∨ k = 3 ∨ ∃ m, k = m + 4 ∧ m ≠ 3 ∧ m ≠ 6 ∧ m ≠ 7 ∧ m ≠ 8 ∧ m ≠ 9 := by
      match k with
      | 0 => simp
      | 1 => simp
      | 2 => simp
      | 3 => simp
      | m + 4 =>
        by_cases hm : m = 3
        · exact .inl (by omega)
        by_cases hm : m = 6
        · exact .inr (.inl (by omega))
        by_cases hm : m = 7
        · exact .inr (.inr (.inl (by omega)))
        by_cases hm : m = 8
        · exact .inr (.inr (.inr (.inl (by omega))))
        by_cases hm : m = 9
        · exact .inr (.inr (.inr (.inr (.inl (by omega)))))
        exact .inr (.inr (.inr (.inr (.inr (.inr (.inr (.inr (.inr ⟨m, rfl, by omega, by omega, by omega, by omega, by omega⟩))))))))
     rcases hk5 with rfl | rfl | rfl | rfl | rfl | rfl | rfl | rfl | rfl | ⟨m, rfl, hm3, hm6, hm7, hm8, hm9⟩
     · -- a call and a new row, whichever comes first
       have hrow' : zjn ops L i ds l = true := hrow
       cases l with
       | nil => cases hrow'
       | cons r' l' =>
       obtain ⟨j, k', ds'⟩ := r'
       unfold zjn at hrow'
       simp only [Bool.and_eq_true, Bool.not_eq_true', List.isEmpty_iff] at hrow'
       obtain ⟨⟨⟨hk8, hal', hij⟩, hpair⟩, hrd1, hrd2⟩ := hrow'
       have hk8 : k' = 8 := beq_eq.1 hk8
       subst hk8
       have hij : i ≠ j := fun e => by rw [beq_eq.2 e] at hij; cases hij
       have hA0 : ∀ m, memN m A = false := fun m => by
        cases hm : memN m A with
        | false => rfl
        | true =>
          have h1 := hAl m hm
          have h2 : m ∈ zai l' := h1
          rw [hal'] at h2
          cases h2
       rw [hi] at hpair
       cases hj : ops[j]? with
       | none => rw [hj] at hpair; cases hpair
       | some oj =>
       rw [hj] at hpair
       simp only at hpair
       unfold zj4 at hpair
       split at hpair
       · rename_i ca y t zl zc x hoi hyi hgi hoj hxj hgj
         simp only [Bool.and_eq_true, Bool.not_eq_true'] at hpair
         obtain ⟨⟨hcal, hxy, hxd, hyd⟩, ⟨hnl, hnc⟩, hna⟩ := hpair
         split at hcal
         · rename_i f hcal2
           have hxy : x ≠ y := fun e => by rw [beq_eq.2 e] at hxy; cases hxy
           have hjx : c.s.t x = .junk := zbo hjunk x (memN_iff.1 hxd)
           have hjy : c.s.t y = .junk := zbo hjunk y (memN_iff.1 hyd)
           -- the rows in their order
           have hwi : Region.wanted o (yielded ops a.tmps) = true := by simp [Region.wanted, hgi]
           have hg2 : ((zat E Mo first 7 c.s o).bind fun s1 => zaz E ops Mo (first && zbt 7) ((j, 8, ds') :: l') s1) = some s' := by
            rcases hg with ⟨_, hg⟩ | ⟨hw, _⟩
            · exact hg
            · rw [hwi] at hw; cases hw
           rw [show (first && zbt 7) = false from Bool.and_false first] at hg2
           have hg2 : ((zaA E none c.s o).bind fun s1 => zaz E ops Mo false ((j, 8, ds') :: l') s1) = some s' := hg2
           simp only [zaA, Option.bind_eq_some_iff] at hg2
           obtain ⟨s1, ⟨ef, hev, hap⟩, hg2⟩ := hg2
           have hg3 := hg2
           unfold zaz at hg3
           split at hg3
           · cases hg3
           rename_i hjunk2
           rw [hj] at hg3
           simp only [hgj, zby] at hg3
           have hg3 : ((zaA E none s1 oj).bind fun s2 => zaz E ops Mo false l' s2) = some s' := hg3
           simp only [zaA, Option.bind_eq_some_iff] at hg3
           obtain ⟨s2, ⟨ef2, hev2, hap2⟩, hg3⟩ := hg3
           -- the new row first
           have hlook1 : ∀ z, zb4 y z = false → (s1.look z) = c.s.look z := fun z hz => by
            have ht : ∀ w, w ≠ y → s1.t w = c.s.t w := fun w hw => ze1 hyi hap (by rw [hjy]; rfl) hw
            cases z with
            | tmp w =>
              have hw : w ≠ y := fun e => by
               have : zb4 y (.tmp w) = true := beq_eq.2 e.symm
               rw [this] at hz; cases hz
              show ((s1.t w).alias _) = ((c.s.t w).alias _)
              rw [ht w hw]
            | _ => rfl
           have hev2' : evOp E c.s.look c.s.get c.s.box oj.type oj.op = some ef2 := by
            rw [hoj] at hev2 ⊢
            simp only [evOp] at hev2 ⊢
            rw [hlook1 zl hnl, hlook1 zc hnc] at hev2
            exact hev2
           have hpure : ∃ d, ef2 = .pure d := by
            rw [hoj] at hev2'
            exact zkc hev2'
           obtain ⟨d1, rfl⟩ := hpure
           have hs2 : s2 = s1.put x d1 := by
            rw [hxj] at hap2
            exact (Option.some.inj hap2).symm
           subst hs2
           refine ⟨fun e => (by rw [e] at hready; cases hready), fun m hm => ?_⟩
           have hmL : Nat.beq m i = true ∨ Nat.beq m j = true := by
            rcases zcf (B := []) hsup (fun k hk => by rw [hA0 k] at hk; cases hk) hm with h | h
            · cases h
            · have := (List.all_eq_true.1 hrd1) m h
              simpa [Bool.or_eq_true] using this
           by_cases hmi : m = i
           · subst hmi
             unfold wpOp
             rw [hi]
             simp only
             rw [if_pos hwi]
             refine .inl ?_
             have hef := zaQ hinv.env.ty hinv.env.tys hinv.env.inv hinv.env.call hinv.fr.sim (fun _ _ h => h) (fun _ _ h => h) hev
             refine Oper.wp_mono ?_ (zbA (zau hinv.fr hd hef hap (fun a' w' => ∃ c', c'.W = w' ∧ c'.s = s1 ∧ Fr X c' a' ∧ Ext c c' ∧ Below c.W.heap.size c.W c'.W ∧ a'.tmps.size = a.tmps.size ∧ a'.defers = a.defers) Q0 fun a' c' e1 e2 e3 eb e4 e5 => ⟨c', rfl, e1, e2, e3, eb, e4, e5⟩))
             rintro a' w' ⟨⟨c', rfl, e1, e2, e3, eb, e4, e5⟩, v, e6⟩
             exact ⟨fun _ => RG.of_below eb, hafter false s1 c' a' v e1 e2 e3 e4 e5 e6 (fun e => by cases e) hg2⟩
           · have hmj : m = j := by
              rcases hmL with h | h
              · exact (hmi (beq_eq.1 h)).elim
              · exact beq_eq.1 h
             subst hmj
             have hwj : Region.wanted oj (yielded ops a.tmps) = true := by simp [Region.wanted, hgj]
             have hkj := hops oj (Array.mem_toList_iff.2 (Array.mem_of_getElem? hj))
             have hdj : ∀ n : Nat, oj.dst = some n → n < a.tmps.size := by rw [hinv.env.nt]; exact zaR hkj
             unfold wpOp
             rw [hj]
             simp only
             rw [if_pos hwj]
             refine .inl ?_
             have hefj := zaQ hinv.env.ty hinv.env.tys hinv.env.inv hinv.env.call hinv.fr.sim (fun _ _ h => h) (fun _ _ h => h) hev2'
             have hapj : c.s.apply oj.dst (.pure d1) = some (c.s.put x d1) := by rw [hxj]; rfl
             refine Oper.wp_mono ?_ (zbA (zau hinv.fr hdj hefj hapj (fun a' w' => ∃ c', c'.W = w' ∧ c'.s = c.s.put x d1 ∧ Fr X c' a' ∧ Ext c c' ∧ Below c.W.heap.size c.W c'.W ∧ a'.tmps.size = a.tmps.size ∧ a'.defers = a.defers) Q0 fun a' c' e1 e2 e3 eb e4 e5 => ⟨c', rfl, e1, e2, e3, eb, e4, e5⟩))
             rintro a' w' ⟨⟨c', rfl, e1, e2, e3, eb, e4, e5⟩, v, e6⟩
             refine ⟨fun _ => RG.of_below eb, ?_⟩
             have hjA := hA0 m
             have hinv1 := hinv.step (first' := false) hdst hM hj hjA e2 e3 e4 e5 e6 (fun e => by cases e)
             have hsup1 : Sup (L.setIfInBounds m true) (listed.setIfInBounds m true) A := hsup.set m
             have hst2 : 1 ≤ fuel := by
              have h1 := zaK (A := A) (i := m) (k := 8) (ds := ds') (l := l')
              rw [hjA] at h1
              simp only at h1
              omega
             obtain ⟨fuel, rfl⟩ : ∃ f2, fuel = f2 + 1 := ⟨fuel - 1, by omega⟩
             have hnotr : i ∈ Region.ready .any ops (listed.setIfInBounds m true) := ready_mono hready (fun e => hmi e.symm)
             refine ⟨fun e => (by rw [e] at hnotr; cases hnotr), fun q hq => ?_⟩
             have hqi : q = i := by
              rcases zcf (B := []) hsup1 (fun k hk => by rw [hA0 k] at hk; cases hk) hq with h | h
              · cases h
              · exact (beq_eq.1 ((List.all_eq_true.1 hrd2) q h)).symm
             subst hqi
             have hlook2 : ∀ z, zb4 x z = false → ((c.s.put x d1).look z) = c.s.look z := fun z hz => by
              have ht : ∀ w, w ≠ x → (c.s.put x d1).t w = c.s.t w := fun w hw => ze1 (o := oj) hxj hapj (by rw [hjx]; rfl) hw
              cases z with
              | tmp w =>
                have hw : w ≠ x := fun e => by
                 have : zb4 x (.tmp w) = true := beq_eq.2 e.symm
                 rw [this] at hz; cases hz
                show (((c.s.put x d1).t w).alias _) = ((c.s.t w).alias _)
                rw [ht w hw]
              | _ => rfl
             have hevi : evOp E c'.s.look c.s.get c.s.box o.type o.op = some ef := by
              rw [e1]
              rw [hoi] at hev ⊢
              simp only [evOp, hcal2] at hev ⊢
              rw [zhk (fun z hz => hlook2 z (by
               have := (List.all_eq_true.1 hna) z hz
               simpa using this))]
              exact hev
             have hwi' : Region.wanted o (yielded ops a'.tmps) = true := by simp [Region.wanted, hgi]
             have hdi : ∀ n : Nat, o.dst = some n → n < a'.tmps.size := by rw [e4]; exact hd
             have hefi := zaQ (gp := c.s.get) (bx := c.s.box) hinv1.env.ty hinv1.env.tys hinv1.env.inv hinv1.env.call hinv1.fr.sim (fun q r h => by rw [e1]; exact zhn hjx h) (fun r cs h => by rw [e1, zhw]; exact h) hevi
             have hapi : c'.s.apply o.dst ef = some (s1.put x d1) := by
              rw [e1, hyi]
              rw [hyi] at hap
              exact zjh hxy hjx hjy hap
             unfold wpOp
             rw [hi]
             simp only
             rw [if_pos hwi']
             refine .inl ?_
             refine Oper.wp_mono ?_ (zbA (zau hinv1.fr hdi hefi hapi (fun a' w' => ∃ c2, c2.W = w' ∧ c2.s = s1.put x d1 ∧ Fr X c2 a' ∧ Ext c' c2 ∧ Below c'.W.heap.size c'.W c2.W ∧ a'.tmps.size = a.tmps.size ∧ a'.defers = a.defers) Q0 fun a' c' e1 e2 e3 eb e4' e5' => ⟨c', rfl, e1, e2, e3, eb, e4'.trans e4, e5'.trans e5⟩))
             rintro a2 w2 ⟨⟨c2, rfl, g1, g2, g3, gb, g4, g5⟩, v2, g6⟩
             refine ⟨fun _ => RG.of_below gb, ?_⟩
             have hinv2 := hinv1.step (first' := false) hdst hM hi hiA g2 g3 (g4.trans e4.symm) (g5.trans e5.symm) g6 (fun e => by cases e)
             have hgo' := hgo
             unfold zb3 at hgo'
             simp only [Bool.and_eq_true] at hgo'
             refine ihl2 _ l' rfl fuel false _ _ A blk c2 a2 hgo'.2.2 ?_ (fun k hk => by rw [hA0 k] at hk; cases hk) ?_ hinv2 (by rw [g1]; exact hg3)
             · rw [Array.setIfInBounds_comm true true hmi] 
               exact (hsup.set _).set _
             · have h1 := zaK (A := A) (i := m) (k := 8) (ds := ds') (l := l')
               rw [hjA] at h1
               simp only at h1
               omega
         · cases hcal
       · cases hpair
     · -- a load of an element and a store, whichever comes first
       have hrow' : zh2 ops L i ds l = true := hrow
       cases l with
       | nil => cases hrow'
       | cons r' l' =>
       obtain ⟨j, k', ds'⟩ := r'
       unfold zh2 at hrow'
       simp only [Bool.and_eq_true, Bool.not_eq_true', List.isEmpty_iff] at hrow'
       obtain ⟨⟨⟨hk8, hal', hij⟩, hpair⟩, hrd1, hrd2⟩ := hrow'
       have hk8 : k' = 11 := beq_eq.1 hk8
       subst hk8
       have hij : i ≠ j := fun e => by rw [beq_eq.2 e] at hij; cases hij
       have hA0 : ∀ m, memN m A = false := fun m => by
        cases hm : memN m A with
        | false => rfl
        | true =>
          have h1 := hAl m hm
          have h2 : m ∈ zai l' := h1
          rw [hal'] at h2
          cases h2
       rw [hi] at hpair
       cases hj : ops[j]? with
       | none => rw [hj] at hpair; cases hpair
       | some oj =>
       rw [hj] at hpair
       simp only at hpair
       unfold ziN at hpair
       split at hpair
       · rename_i tl z y ts ad vl hoi hyi hgi hoj hxj hgj
         simp only [Bool.and_eq_true, Bool.not_eq_true'] at hpair
         obtain ⟨hyd, hna, hnv⟩ := hpair
         have hjy : c.s.t y = .junk := zbo hjunk y (memN_iff.1 hyd)
         have hwi : Region.wanted o (yielded ops a.tmps) = true := by simp [Region.wanted, hgi]
         rw [show (first && zbt 10) = false from Bool.and_false first] at hg
         have hg2 : ((match zbG c.s o with | true => step E c.s o | false => none).bind fun s1 => zaz E ops Mo false ((j, 11, ds') :: l') s1) = some s' := by
          rcases hg with ⟨_, hg⟩ | ⟨hw, _⟩
          · exact hg
          · rw [hwi] at hw; cases hw
         simp only [Option.bind_eq_some_iff] at hg2
         obtain ⟨s1, hs1, hg2⟩ := hg2
         split at hs1
         · rename_i hrl
           have hev : ∃ x, evOp E c.s.look c.s.get c.s.box o.type o.op = some (.pure (.dat x)) ∧ s1 = c.s.put y (.dat x) := by
            obtain ⟨x, hx⟩ := zk8 (E := E) (ty := o.type) hoi hrl (by
             intro e
             unfold step at hs1
             rw [e, hoi] at hs1
             simp only [doOp] at hs1
             cases hs1)
            refine ⟨x, hx, ?_⟩
            unfold step at hs1
            rw [hx, hyi] at hs1
            exact (Option.some.inj hs1).symm
           obtain ⟨x, hev, rfl⟩ := hev
           have hap : c.s.apply o.dst (.pure (.dat x)) = some (c.s.put y (.dat x)) := by rw [hyi]; rfl
           have hg3 := hg2
           unfold zaz at hg3
           split at hg3
           · cases hg3
           rename_i hjunk2
           rw [hj] at hg3
           simp only [hgj, zby] at hg3
           have hg3 : ((match zbE (c.s.put y (.dat x)) oj with | true => step E (c.s.put y (.dat x)) oj | false => none).bind fun s2 => zaz E ops Mo false l' s2) = some s' := hg3
           simp only [Option.bind_eq_some_iff] at hg3
           obtain ⟨s2, hs2, hg3⟩ := hg3
           split at hs2
           · rename_i hvs
             obtain ⟨t1, hst1, rfl, hld⟩ := ziT hjy hoj hvs hna hnv hs2
             refine ⟨fun e => (by rw [e] at hready; cases hready), fun m hm => ?_⟩
             have hmL : Nat.beq m i = true ∨ Nat.beq m j = true := by
              rcases zcf (B := []) hsup (fun k hk => by rw [hA0 k] at hk; cases hk) hm with h | h
              · cases h
              · have := (List.all_eq_true.1 hrd1) m h
                simpa [Bool.or_eq_true] using this
             by_cases hmi : m = i
             · subst hmi
               unfold wpOp
               rw [hi]
               simp only
               rw [if_pos hwi]
               refine .inl ?_
               have hef := zaQ hinv.env.ty hinv.env.tys hinv.env.inv hinv.env.call hinv.fr.sim (fun _ _ h => h) (fun _ _ h => h) hev
               refine Oper.wp_mono ?_ (zbA (zau hinv.fr hd hef hap (fun a' w' => ∃ c', c'.W = w' ∧ c'.s = c.s.put y (.dat x) ∧ Fr X c' a' ∧ Ext c c' ∧ Below c.W.heap.size c.W c'.W ∧ a'.tmps.size = a.tmps.size ∧ a'.defers = a.defers) Q0 fun a' c' e1 e2 e3 eb e4 e5 => ⟨c', rfl, e1, e2, e3, eb, e4, e5⟩))
               rintro a' w' ⟨⟨c', rfl, e1, e2, e3, eb, e4, e5⟩, v, e6⟩
               exact ⟨fun _ => RG.of_below eb, hafter false _ c' a' v e1 e2 e3 e4 e5 e6 (fun e => by cases e) hg2⟩
             · have hmj : m = j := by
                rcases hmL with h | h
                · exact (hmi (beq_eq.1 h)).elim
                · exact beq_eq.1 h
               subst hmj
               have hflj : fl m = false := by
                have hgo' := hgo
                unfold zb3 at hgo'
                simp only [Bool.and_eq_true] at hgo'
                have h1 : (zbI ops (L.setIfInBounds i true) m l' && !fl m) = true := hgo'.2.1
                simp only [Bool.and_eq_true, Bool.not_eq_true'] at h1
                exact h1.2
               have hwj : Region.wanted oj (yielded ops a.tmps) = true := by simp [Region.wanted, hgj]
               have hkj := hops oj (Array.mem_toList_iff.2 (Array.mem_of_getElem? hj))
               unfold wpOp
               rw [hj]
               simp only
               rw [if_pos hwj]
               refine .inl ?_
               refine Oper.wp_mono ?_ (zbA (zbl hinv.env hinv.fr hkj hst1 (fun a' w' => ∃ c', c'.W = w' ∧ c'.s = t1 ∧ Fr X c' a' ∧ Ext c c' ∧ a'.tmps.size = a.tmps.size ∧ a'.defers = a.defers) Q0 fun a' c' e1 e2 e3 e4 e5 => ⟨c', rfl, e1, e2, e3, e4, e5⟩))
               rintro a' w' ⟨⟨c', rfl, e1, e2, e3, e4, e5⟩, v, e6⟩
               refine ⟨fun e => (by rw [hflj] at e; cases e), ?_⟩
               have hjA := hA0 m
               have hinv1 := hinv.step (first' := false) hdst hM hj hjA e2 e3 e4 e5 e6 (fun e => by cases e)
               have hsup1 : Sup (L.setIfInBounds m true) (listed.setIfInBounds m true) A := hsup.set m
               have hst2 : 1 ≤ fuel := by
                have h1 := zaK (A := A) (i := m) (k := 11) (ds := ds') (l := l')
                rw [hjA] at h1
                simp only at h1
                omega
               obtain ⟨fuel, rfl⟩ : ∃ f2, fuel = f2 + 1 := ⟨fuel - 1, by omega⟩
               have hnotr : i ∈ Region.ready .any ops (listed.setIfInBounds m true) := ready_mono hready (fun e => hmi e.symm)
               refine ⟨fun e => (by rw [e] at hnotr; cases hnotr), fun q hq => ?_⟩
               have hqi : q = i := by
                rcases zcf (B := []) hsup1 (fun k hk => by rw [hA0 k] at hk; cases hk) hq with h | h
                · cases h
                · exact (beq_eq.1 ((List.all_eq_true.1 hrd2) q h)).symm
               subst hqi
               have hevi : evOp E c'.s.look c'.s.get c'.s.box o.type o.op = some (.pure (.dat x)) := by
                rw [e1, hoi]
                rw [hoi] at hev
                exact hld hrl hoi hev
               have hwi' : Region.wanted o (yielded ops a'.tmps) = true := by simp [Region.wanted, hgi]
               have hdi : ∀ n : Nat, o.dst = some n → n < a'.tmps.size := by rw [e4]; exact hd
               have hefi := zaQ hinv1.env.ty hinv1.env.tys hinv1.env.inv hinv1.env.call hinv1.fr.sim (fun _ _ h => h) (fun _ _ h => h) hevi
               have hapi : c'.s.apply o.dst (.pure (.dat x)) = some (t1.put y (.dat x)) := by rw [e1, hyi]; rfl
               unfold wpOp
               rw [hi]
               simp only
               rw [if_pos hwi']
               refine .inl ?_
               refine Oper.wp_mono ?_ (zbA (zau hinv1.fr hdi hefi hapi (fun a' w' => ∃ c2, c2.W = w' ∧ c2.s = t1.put y (.dat x) ∧ Fr X c2 a' ∧ Ext c' c2 ∧ Below c'.W.heap.size c'.W c2.W ∧ a'.tmps.size = a.tmps.size ∧ a'.defers = a.defers) Q0 fun a' c' e1 e2 e3 eb e4' e5' => ⟨c', rfl, e1, e2, e3, eb, e4'.trans e4, e5'.trans e5⟩))
               rintro a2 w2 ⟨⟨c2, rfl, g1, g2, g3, gb, g4, g5⟩, v2, g6⟩
               refine ⟨fun _ => RG.of_below gb, ?_⟩
               have hinv2 := hinv1.step (first' := false) hdst hM hi hiA g2 g3 (g4.trans e4.symm) (g5.trans e5.symm) g6 (fun e => by cases e)
               have hgo' := hgo
               unfold zb3 at hgo'
               simp only [Bool.and_eq_true] at hgo'
               refine ihl2 _ l' rfl fuel false _ _ A blk c2 a2 hgo'.2.2 ?_ (fun k hk => by rw [hA0 k] at hk; cases hk) ?_ hinv2 (by rw [g1]; exact hg3)
               · rw [Array.setIfInBounds_comm true true hmi]
                 exact (hsup.set _).set _
               · have h1 := zaK (A := A) (i := m) (k := 11) (ds := ds') (l := l')
                 rw [hjA] at h1
                 simp only at h1
                 omega
           · cases hs2
         · cases hs1
       · cases hpair
     · -- a store of a scalar into a variable, alone
       have hrow' : (zbI ops L i l && !fl i) = true := hrow
       simp only [Bool.and_eq_true, Bool.not_eq_true'] at hrow'
       refine halone hrow'.1 (.inr fun K hK => ?_)
       subst hK
       rw [show (first && zbt 11) = false from Bool.and_false first] at hg
       unfold wpOp
       rw [hi]
       simp only
       rcases hg with ⟨hw, hg⟩ | ⟨hw, hg⟩
       · rw [if_pos hw]
         refine .inl ?_
         have hg : ((match zbE c.s o with | true => step E c.s o | false => none).bind fun s2 => zaz E ops Mo false l s2) = some s' := hg
         simp only [Option.bind_eq_some_iff] at hg
         obtain ⟨s1, hs1, hg⟩ := hg
         split at hs1
         · refine Oper.wp_mono ?_ (zbA (zbl hinv.env hinv.fr hk hs1 (fun a' w' => ∃ c', c'.W = w' ∧ c'.s = s1 ∧ Fr X c' a' ∧ Ext c c' ∧ a'.tmps.size = a.tmps.size ∧ a'.defers = a.defers) Q0 fun a' c' e1 e2 e3 e4 e5 => ⟨c', rfl, e1, e2, e3, e4, e5⟩))
           rintro a' w' ⟨⟨c', rfl, e1, e2, e3, e4, e5⟩, v, e6⟩
           exact ⟨fun e => by (rw [hrow'.2] at e; cases e), hafter false s1 c' a' v e1 e2 e3 e4 e5 e6 (fun e => by cases e) hg⟩
         · cases hs1
       · rw [if_neg (by rw [hw]; exact fun e => by cases e)]
         exact ⟨fun _ => RG.refl _, hafter false _ { c with s := c.s.putO o.dst .undef } _ undef rfl hu1 hu2 (zbp _ _ _) (za4 _ _ _) rfl (fun e => by cases e) hg⟩
     · -- a load of a row and a call, whichever comes first
       have hrow' : zh8 ops fl L i ds l = true := hrow
       cases l with
       | nil => cases hrow'
       | cons r' l' =>
       obtain ⟨j, k', ds'⟩ := r'
       unfold zh8 at hrow'
       simp only [Bool.and_eq_true, Bool.not_eq_true', List.isEmpty_iff] at hrow'
       obtain ⟨⟨⟨hk8, hal', hij⟩, hpair⟩, hrd1, hrd2, hrd3⟩ := hrow'
       have hk8 : k' = 13 := beq_eq.1 hk8
       subst hk8
       have hij : i ≠ j := fun e => by rw [beq_eq.2 e] at hij; cases hij
       have hA0 : ∀ m, memN m A = false := fun m => by
        cases hm : memN m A with
        | false => rfl
        | true =>
          have h1 := hAl m hm
          have h2 : m ∈ zai l' := h1
          rw [hal'] at h2
          cases h2
       rw [hi] at hpair
       cases hj : ops[j]? with
       | none => rw [hj] at hpair; cases hpair
       | some oj =>
       rw [hj] at hpair
       simp only at hpair
       unfold zix at hpair
       split at hpair
       · rename_i tl z y ca x hoi hyi hgi hoj hxj hgj
         simp only [Bool.and_eq_true, Bool.not_eq_true'] at hpair
         obtain ⟨hcal, ⟨hxy, hxd, hyd⟩, hnz, hna⟩ := hpair
         have hna : ∀ z ∈ ca.args.toList, zb4 y z = false := fun z hz => by simpa using (List.all_eq_true.1 hna) z hz
         have hxy : x ≠ y := fun e => by rw [beq_eq.2 e] at hxy; cases hxy
         have hjx : c.s.t x = .junk := zbo hjunk x (memN_iff.1 hxd)
         have hjy : c.s.t y = .junk := zbo hjunk y (memN_iff.1 hyd)
         have hwi : Region.wanted o (yielded ops a.tmps) = true := by simp [Region.wanted, hgi]
         rw [show (first && zbt 12) = false from Bool.and_false first] at hg
         have hg2 : ((match Mo with | none => (match zes E c.s o with | true => step E c.s o | false => none) | some _ => none).bind fun s1 => zaz E ops Mo false ((j, 13, ds') :: l') s1) = some s' := by
          rcases hg with ⟨_, hg⟩ | ⟨hw, _⟩
          · exact hg
          · rw [hwi] at hw; cases hw
         simp only [Option.bind_eq_some_iff] at hg2
         obtain ⟨s1, hs1, hg2⟩ := hg2
         have hMo : Mo = none := by
          cases Mo with
          | none => rfl
          | some M => cases hs1
         rw [hMo] at hs1
         simp only at hs1
         split at hs1
         · rename_i hrl
           obtain ⟨d, hdb, hev, hloc⟩ : ∃ d, zcR d = true ∧ evOp E c.s.look c.s.get c.s.box o.type o.op = some (.pure d) ∧ ∃ n off, c.s.look z = .ptr (.loc n) off := by
            unfold zes at hrl
            rw [hoi] at hrl ⊢
            simp only at hrl
            split at hrl
            · rename_i n off d hl0 hd0
              exact ⟨d, hrl, hd0, n, off, hl0⟩
            · cases hrl
           have hs1e : s1 = c.s.put y d := by
            unfold step at hs1
            rw [hev, hyi] at hs1
            exact (Option.some.inj hs1).symm
           subst hs1e
           have hap : c.s.apply o.dst (.pure d) = some (c.s.put y d) := by rw [hyi]; rfl
           have hg3 := hg2
           unfold zaz at hg3
           split at hg3
           · cases hg3
           rename_i hjunk2
           rw [hj] at hg3
           simp only [hgj, zby] at hg3
           have hg3 : ((match zcL E (c.s.put y d) oj with | true => step E (c.s.put y d) oj | false => none).bind fun s2 => zaz E ops Mo false l' s2) = some s' := hg3
           simp only [Option.bind_eq_some_iff] at hg3
           obtain ⟨s2, hs2, hg3⟩ := hg3
           split at hs2
           · rename_i hvs
             obtain ⟨t1, hst1, rfl, hld⟩ := zks hjy hjx hdb hoj hxj hxy hcal hvs hna hs2
             refine ⟨fun e => (by rw [e] at hready; cases hready), fun m hm => ?_⟩
             have hmL : Nat.beq m i = true ∨ Nat.beq m j = true := by
              rcases zcf (B := []) hsup (fun k hk => by rw [hA0 k] at hk; cases hk) hm with h | h
              · cases h
              · have := (List.all_eq_true.1 hrd1) m h
                simpa [Bool.or_eq_true] using this
             by_cases hmi : m = i
             · subst hmi
               unfold wpOp
               rw [hi]
               simp only
               rw [if_pos hwi]
               refine .inl ?_
               have hef := zaQ hinv.env.ty hinv.env.tys hinv.env.inv hinv.env.call hinv.fr.sim (fun _ _ h => h) (fun _ _ h => h) hev
               refine Oper.wp_mono ?_ (zbA (zau hinv.fr hd hef hap (fun a' w' => ∃ c', c'.W = w' ∧ c'.s = c.s.put y d ∧ Fr X c' a' ∧ Ext c c' ∧ Below c.W.heap.size c.W c'.W ∧ a'.tmps.size = a.tmps.size ∧ a'.defers = a.defers) Q0 fun a' c' e1 e2 e3 eb e4 e5 => ⟨c', rfl, e1, e2, e3, eb, e4, e5⟩))
               rintro a' w' ⟨⟨c', rfl, e1, e2, e3, eb, e4, e5⟩, v, e6⟩
               exact ⟨fun _ => RG.of_below eb, hafter false _ c' a' v e1 e2 e3 e4 e5 e6 (fun e => by cases e) hg2⟩
             · have hmj : m = j := by
                rcases hmL with h | h
                · exact (hmi (beq_eq.1 h)).elim
                · exact beq_eq.1 h
               subst hmj
               have hflj : fl m = false := by
                have hgo' := hgo
                unfold zb3 at hgo'
                simp only [Bool.and_eq_true] at hgo'
                have h1 : (zbI ops (L.setIfInBounds i true) m l' && !fl m) = true := hgo'.2.1
                simp only [Bool.and_eq_true, Bool.not_eq_true'] at h1
                exact h1.2
               have hwj : Region.wanted oj (yielded ops a.tmps) = true := by simp [Region.wanted, hgj]
               have hkj := hops oj (Array.mem_toList_iff.2 (Array.mem_of_getElem? hj))
               unfold wpOp
               rw [hj]
               simp only
               rw [if_pos hwj]
               refine .inl ?_
               refine Oper.wp_mono ?_ (zbA (zbl hinv.env hinv.fr hkj hst1 (fun a' w' => ∃ c', c'.W = w' ∧ c'.s = t1 ∧ Fr X c' a' ∧ Ext c c' ∧ a'.tmps.size = a.tmps.size ∧ a'.defers = a.defers) Q0 fun a' c' e1 e2 e3 e4 e5 => ⟨c', rfl, e1, e2, e3, e4, e5⟩))
               rintro a' w' ⟨⟨c', rfl, e1, e2, e3, e4, e5⟩, v, e6⟩
               refine ⟨fun e => (by rw [hflj] at e; cases e), ?_⟩
               have hjA := hA0 m
               have hinv1 := hinv.step (first' := false) hdst hM hj hjA e2 e3 e4 e5 e6 (fun e => by cases e)
               have hsup1 : Sup (L.setIfInBounds m true) (listed.setIfInBounds m true) A := hsup.set m
               have hnotr : i ∈ Region.ready .any ops (L.setIfInBounds m true) := by simpa using hrd2
               have hgo' := hgo
               unfold zb3 at hgo'
               simp only [Bool.and_eq_true] at hgo'
               have hgo2 : zb3 E.ty ops fl (L.setIfInBounds m true) ((i, 1, []) :: l') = true := by
                unfold zb3
                simp only [Bool.and_eq_true]
                refine ⟨⟨hrd2, ?_, ?_⟩, (by show (zff _ _ _ _ && zgD _ _ _ _ _) = true; rw [hrd3.1, hrd3.2]; rfl), ?_⟩
                · have h9 := hni
                  simp only [List.any_cons, Bool.or_eq_false_iff] at h9
                  rw [h9.2]; rfl
                · show ((zai l').all _) = true
                  rw [hal']; rfl
                · rw [Array.setIfInBounds_comm true true (fun e => hmi e)]
                  exact hgo'.2.2
               have hevi : evOp E c'.s.look c'.s.get c'.s.box o.type o.op = some (.pure d) := by
                rw [e1, hoi]
                rw [hoi] at hev
                exact hld hnz hloc hev
               refine ihl3 _ l' rfl (i, 1, []) fuel false _ _ A blk c' a' hgo2 hsup1 (fun k hk => by rw [hA0 k] at hk; cases hk) ?_ hinv1 ?_
               · have h1 := zaK (A := A) (i := m) (k := 13) (ds := ds') (l := l')
                 have h2 := zaK (A := A) (i := i) (k := 1) (ds := []) (l := l')
                 rw [hjA] at h1
                 rw [hA0 i] at h2
                 simp only at h1 h2
                 omega
               · unfold zaz
                 simp only [zdO, hi, hgi, zby]
                 rw [hMo] at hg3 ⊢
                 rw [e1]
                 have hl1 : zat E none false 1 t1 o = some (t1.put y d) := by
                  rw [e1, hoi] at hevi
                  simp only [evOp, Option.bind_eq_some_iff, Option.map_eq_some_iff] at hevi
                  obtain ⟨ti, hti, d0, hd0, hpd⟩ := hevi
                  cases hpd
                  simp only [zat, zaL, zdF, hoi, hyi, hti, hd0, Option.bind_some, Option.map_some]
                 rw [hl1]
                 exact hg3
           · cases hs2
         · cases hs1
       · cases hpair
     · -- a call, alone
       have hrow' : (zbI ops L i l && !fl i) = true := hrow
       simp only [Bool.and_eq_true, Bool.not_eq_true'] at hrow'
       refine halone hrow'.1 (.inr fun K hK => ?_)
       subst hK
       rw [show (first && zbt 13) = false from Bool.and_false first] at hg
       unfold wpOp
       rw [hi]
       simp only
       rcases hg with ⟨hw, hg⟩ | ⟨hw, hg⟩
       · rw [if_pos hw]
         refine .inl ?_
         have hg : ((match zcL E c.s o with | true => step E c.s o | false => none).bind fun s2 => zaz E ops Mo false l s2) = some s' := hg
         simp only [Option.bind_eq_some_iff] at hg
         obtain ⟨s1, hs1, hg⟩ := hg
         split at hs1
         · refine Oper.wp_mono ?_ (zbA (zbl hinv.env hinv.fr hk hs1 (fun a' w' => ∃ c', c'.W = w' ∧ c'.s = s1 ∧ Fr X c' a' ∧ Ext c c' ∧ a'.tmps.size = a.tmps.size ∧ a'.defers = a.defers) Q0 fun a' c' e1 e2 e3 e4 e5 => ⟨c', rfl, e1, e2, e3, e4, e5⟩))
           rintro a' w' ⟨⟨c', rfl, e1, e2, e3, e4, e5⟩, v, e6⟩
           exact ⟨fun e => by (rw [hrow'.2] at e; cases e), hafter false s1 c' a' v e1 e2 e3 e4 e5 e6 (fun e => by cases e) hg⟩
         · cases hs1
       · rw [if_neg (by rw [hw]; exact fun e => by cases e)]
         exact ⟨fun _ => RG.refl _, hafter false _ { c with s := c.s.putO o.dst .undef } _ undef rfl hu1 hu2 (zbp _ _ _) (za4 _ _ _) rfl (fun e => by cases e) hg⟩
     · -- calm
       rw [show (first && zbt 0) = first from Bool.and_true first] at hg
       rcases hg with ⟨hw, hg⟩ | ⟨hw, hg⟩
       · simp only [zat, zaL, Option.bind_eq_some_iff] at hg
         obtain ⟨s1, hs1, hg⟩ := hg
         unfold zex at hs1
         split at hs1
         · rename_i n hcm hdn
           split at hs1
           · rename_i d hev
             cases hs1
             have hcalm := zj7 hinv.env.ty hinv.env.tys hinv.fr.sim hcm hev n (fun _ => True)
             obtain ⟨v, c', e1, e2, e3, e4, e5, e6⟩ := zgT hinv.fr (hd n hdn) hcalm
             refine ze6 RG.refl hi (Region.noSelect_spec hsel) (hQ _ _) (hfree hrow).1 fuel listed a c.W (hfree hrow).2.1 (hfree hrow).2.2 hready (.inl ⟨hw, fun w => e6 w trivial⟩) ?_
             rw [← e2]
             exact hafter first _ c' _ v e1 (by rw [hdn]; exact e3) e4 (zbp _ _ _) (za4 _ _ _) rfl (fun hf => zin (hinv.fst hf) e2 e5) hg
           · cases hs1
         · cases hs1
       · refine ze6 RG.refl hi (Region.noSelect_spec hsel) (hQ _ _) (hfree hrow).1 fuel listed a c.W (hfree hrow).2.1 (hfree hrow).2.2 hready (.inr ⟨hw, rfl⟩) ?_
         exact hafter first _ { c with s := c.s.putO o.dst .undef } _ undef rfl hu1 hu2 (zbp _ _ _) (za4 _ _ _) rfl (fun hf => hinv.fst hf) hg
     · -- a load
       rw [show (first && zbt 1) = first from Bool.and_true first] at hg
       have hrow' : (zff ops L i (zai l) && zgD ops fl L i (zeh ops i (List.range ops.size) [])) = true := hrow
       rw [hD] at hrow'
       simp only [Bool.and_eq_true] at hrow'
       obtain ⟨hfr, hlate⟩ := hrow'
       have hfree2 : ∀ j oj, ops[j]? = some oj → j ≠ i → listed.getD j true = false → memN j BH = false → o.apart ops oj = true ∧ fl j = true := fun j oj hj hne hun hno =>
        ⟨(hfree hfr).2.1 j oj hj hne hun hno, zjE hlate hj hne (hsup.un hun).1 hno⟩
       rcases hg with ⟨hw, hg⟩ | ⟨hw, hg⟩
       · simp only [zat, zaL, Option.bind_eq_some_iff] at hg
         obtain ⟨s1, hs1, hg⟩ := hg
         have key : ∀ (n : Nat) (d : D), o.dst = some n → s1 = c.s.put n d → Calm P c a o n (RG (Gd c0 a0 Mo) c.W) d → zbQ P .any ops Q0 (RG (Gd c0 a0 Mo)) fl (fuel + 1) listed a c.W := by
          intro n d hdn he hcalm
          subst he
          obtain ⟨v, c', e1, e2, e3, e4, e5, e6⟩ := zgT hinv.fr (hd n hdn) hcalm
          refine zeG RG.trans RG.refl (w0 := c.W) hi (Region.noSelect_spec hsel) (hQ _ _) (hfree hfr).1 fuel listed a c.W hfree2 (hfree hfr).2.2 hready (.inl ⟨hw, e6⟩) (RG.refl _) ?_
          rw [← e2]
          exact hafter first _ c' _ v e1 (by rw [hdn]; exact e3) e4 (zbp _ _ _) (za4 _ _ _) rfl (fun hf => zin (hinv.fst hf) e2 e5) hg
         unfold zdF at hs1
         split at hs1
         · rename_i t z n ho hdn
           simp only [Option.bind_eq_some_iff] at hs1
           obtain ⟨ti, hti, hs1⟩ := hs1
           rw [hinv.env.ty] at hti
           split at hs1
           · -- all zbt
             simp only [Option.map_eq_some_iff] at hs1
             obtain ⟨d, hld, rfl⟩ := hs1
             refine key n d hdn rfl ?_
             have hT : ∀ g, g < c.W.heap.size → ∀ w, RG (Gd c0 a0 none) c.W w → w.heap[g]? = c.W.heap[g]? := fun g hg w hw => hw.2 g hg trivial
             exact zh7 hinv.env.tys hinv.fr.sim (fun _ _ h => h) (fun _ _ h => h) (fun b g _ hg => hT g hg) (fun r cs hb => hT _ (hinv.fr.sim.boxes r cs hb).lt) (fun _ _ _ g hg => hT g hg) ho hti hld
           · rename_i M
             split at hs1
             · simp only [Option.map_eq_some_iff] at hs1
               obtain ⟨d, hld, rfl⟩ := hs1
               refine key n d hdn rfl ?_
               have hmask : ∀ r cs, zkJ M c.s r = some cs → c.s.box r = some cs ∧ ∃ n ∈ M, c.s.t n = .ptr r 0 := fun r cs hb => by
                unfold zkJ at hb
                split at hb
                · rename_i n
                  split at hb
                  · rename_i hc
                    simp only [Bool.and_eq_true] at hc
                    exact ⟨hb, n, memN_iff.1 hc.1, zil hc.2⟩
                  · cases hb
                · rename_i k
                  split at hb
                  · rename_i hc
                    obtain ⟨n, hn, hc⟩ := List.any_eq_true.1 hc
                    split at hc
                    · rename_i j o' ht
                      simp only [Bool.and_eq_true] at hc
                      rw [beq_eq.1 hc.1, beq_eq.1 hc.2] at ht
                      exact ⟨hb, n, hn, ht⟩
                    · cases hc
                  · cases hb
               refine zh7 hinv.env.tys hinv.fr.sim (gp := fun _ => none) (bx := zkJ M c.s) (fun _ _ h => by cases h) (fun r cs hb => (hmask r cs hb).1) (fun b g hr hg w hw => ?_) (fun r cs hb w hw => ?_) (fun _ _ h => by cases h) ho hti hld
               · obtain ⟨h1, h2⟩ := hinv.fst rfl b g hr hg
                 exact hw.2 g hg (.inl ⟨h1, h2⟩)
               · obtain ⟨h1, n, hn, h2⟩ := hmask r cs hb
                 have hlt := (hinv.fr.sim.boxes _ cs h1).lt
                 have hv := hinv.fr.sim.slots n
                 rw [h2] at hv
                 have hv2 : a0.tmps.getD n undef = .pointer (some ⟨c.β r, 0, none⟩) := by
                  rw [← hinv.mtm M rfl n hn]
                  exact hv.2
                 exact hw.2 _ hlt (.inr ⟨n, hn, hv2⟩)
             · cases hs1
         · cases hs1
       · refine zeG RG.trans RG.refl (w0 := c.W) hi (Region.noSelect_spec hsel) (hQ _ _) (hfree hfr).1 fuel listed a c.W hfree2 (hfree hfr).2.2 hready (.inr ⟨hw, rfl⟩) (RG.refl _) ?_
         exact hafter first _ { c with s := c.s.putO o.dst .undef } _ undef rfl hu1 hu2 (zbp _ _ _) (za4 _ _ _) rfl (fun hf => hinv.fst hf) hg
     · -- alone
       have hrow' : (zbI ops L i l && !fl i) = true := hrow
       simp only [Bool.and_eq_true, Bool.not_eq_true'] at hrow'
       refine halone hrow'.1 (.inr fun K hK => ?_)
       subst hK
       rw [show (first && zbt 2) = false from Bool.and_false first] at hg
       unfold wpOp
       rw [hi]
       simp only
       rcases hg with ⟨hw, hg⟩ | ⟨hw, hg⟩
       · rw [if_pos hw]
         refine .inl ?_
         simp only [zat, zaL, Option.bind_eq_some_iff] at hg
         obtain ⟨s1, hs1, hg⟩ := hg
         refine Oper.wp_mono ?_ (zbA (zbl hinv.env hinv.fr hk hs1 (fun a' w' => ∃ c', c'.W = w' ∧ c'.s = s1 ∧ Fr X c' a' ∧ Ext c c' ∧ a'.tmps.size = a.tmps.size ∧ a'.defers = a.defers) Q0 fun a' c' e1 e2 e3 e4 e5 => ⟨c', rfl, e1, e2, e3, e4, e5⟩))
         rintro a' w' ⟨⟨c', rfl, e1, e2, e3, e4, e5⟩, v, e6⟩
         exact ⟨fun e => by (rw [hrow'.2] at e; cases e), hafter false s1 c' a' v e1 e2 e3 e4 e5 e6 (fun e => by cases e) hg⟩
       · rw [if_neg (by rw [hw]; exact fun e => by cases e)]
         exact ⟨fun _ => RG.refl _, hafter false _ { c with s := c.s.putO o.dst .undef } _ undef rfl hu1 hu2 (zbp _ _ _) (za4 _ _ _) rfl (fun e => by cases e) hg⟩
     · -- a new variable
       exact halone hrow (.inl rfl)
     · -- alone, and loads are about
       have hrow : zbI ops L i l = true := by
        unfold zmW at hrow
        split at hrow <;> first | (exfalso; omega) | exact hrow
       refine halone hrow (.inr fun K hK => ?_)
       subst hK
       rw [show (first && zbt (m + 4)) = false from Bool.and_false first] at hg
       unfold wpOp
       rw [hi]
       simp only
       rcases hg with ⟨hw, hg⟩ | ⟨hw, hg⟩
       · rw [if_pos hw]
         refine .inl ?_
         by_cases hm1 : m = 1
         · -- a row that grows
           subst hm1
           simp only [zat, Option.bind_eq_some_iff] at hg
           obtain ⟨s1, hs1, hg⟩ := hg
           split at hs1
           · rename_i hgr
             unfold zj5 at hgr
             split at hgr
             · rename_i M
               simp only [Bool.and_eq_true] at hgr
               refine Oper.wp_mono ?_ (zbA (zi4 hinv.env hinv.fr hk hgr.1 hs1 (fun a' w' => ∃ c', c'.W = w' ∧ c'.s = s1 ∧ Fr X c' a' ∧ Ext c c' ∧ a'.tmps.size = a.tmps.size ∧ a'.defers = a.defers ∧ ∀ g r, g < c.W.heap.size → c.ρ g = .box r → c'.W.heap[g]? = c.W.heap[g]?) Q0 fun a' c' e1 e2 e3 e4 e5 e6 => ⟨c', rfl, e1, e2, e3, e4, e5, e6⟩))
               rintro a' w' ⟨⟨c', rfl, e1, e2, e3, e4, e5, ef⟩, v, e6⟩
               refine ⟨fun _ => ⟨e3.size, fun g hgl hG => ?_⟩, hafter false s1 c' a' v e1 e2 e3 e4 e5 e6 (fun e => by cases e) hg⟩
               rcases hG with ⟨h0, h1⟩ | ⟨n, hn, h1⟩
               · exact (e3.keep g hgl (by rw [(hinv.ext.keep g h0 h1).1]; exact h1)).2
               · obtain ⟨r, h2, h3⟩ := zk9 ((List.all_eq_true.1 hgr.2) n hn)
                 obtain ⟨cs, hb⟩ := Option.isSome_iff_exists.1 h3
                 obtain ⟨vs, T, _, hbox, _⟩ := (hinv.fr.sim.boxes r cs hb).out
                 have hv := hinv.fr.sim.slots n
                 rw [h2] at hv
                 have h4 : a.tmps.getD n undef = .pointer (some ⟨c.β r, 0, none⟩) := hv.2
                 rw [hinv.mtm M rfl n hn, h1] at h4
                 have h5 : g = c.β r := by
                  injection h4 with h4
                  injection h4 with h4
                  injection h4
                 rw [← h5] at hbox
                 exact ef g r hgl hbox
             · cases hgr
           · cases hs1
         by_cases hm2 : m = 2 ∨ m = 4
         · have hr6 : zat E Mo first (m + 4) c.s o = zaA E none c.s o := by
            rcases hm2 with rfl | rfl <;> rfl
           rw [hr6] at hg
           simp only [Option.bind_eq_some_iff] at hg
           obtain ⟨s1, hs1, hg⟩ := hg
           unfold zaA at hs1
           simp only [Option.bind_eq_some_iff] at hs1
           obtain ⟨ef, hev, hap⟩ := hs1
           have hef := zaQ hinv.env.ty hinv.env.tys hinv.env.inv hinv.env.call hinv.fr.sim (fun _ _ h => h) (fun _ _ h => h) hev
           refine Oper.wp_mono ?_ (zbA (zau hinv.fr hd hef hap (fun a' w' => ∃ c', c'.W = w' ∧ c'.s = s1 ∧ Fr X c' a' ∧ Ext c c' ∧ Below c.W.heap.size c.W c'.W ∧ a'.tmps.size = a.tmps.size ∧ a'.defers = a.defers) Q0 fun a' c' e1 e2 e3 eb e4 e5 => ⟨c', rfl, e1, e2, e3, eb, e4, e5⟩))
           rintro a' w' ⟨⟨c', rfl, e1, e2, e3, eb, e4, e5⟩, v, e6⟩
           exact ⟨fun _ => RG.of_below eb, hafter false s1 c' a' v e1 e2 e3 e4 e5 e6 (fun e => by cases e) hg⟩
         by_cases hm5 : m = 5
         · -- a conversion that reads a row
           subst hm5
           simp only [zat, Option.bind_eq_some_iff] at hg
           obtain ⟨s1, hs1, hg⟩ := hg
           split at hs1
           · rename_i hcv
             have hwp : o.wp P a c.W (fun a' w' => ∃ c', c'.W = w' ∧ c'.s = s1 ∧ Fr X c' a' ∧ Ext c c' ∧ Below c.W.heap.size c.W c'.W ∧ a'.tmps.size = a.tmps.size ∧ a'.defers = a.defers) Q0 := by
              unfold step at hs1
              split at hs1
              · rename_i ef hev
                have hef := zaQ hinv.env.ty hinv.env.tys hinv.env.inv hinv.env.call hinv.fr.sim (fun _ _ h => h) (fun _ _ h => h) hev
                exact zau hinv.fr hd hef hs1 _ Q0 fun a' c' e1 e2 e3 eb e4 e5 => ⟨c', rfl, e1, e2, e3, eb, e4, e5⟩
              · unfold zjw at hcv
                split at hcv
                · rename_i t u z ho
                  rw [ho] at hs1
                  simp only [doOp] at hs1
                  exact zfD hinv.env hinv.fr hd ho hs1 _ Q0 fun a' c' e1 e2 e3 eb e4 e5 => ⟨c', rfl, e1, e2, e3, eb, e4, e5⟩
                · cases hcv
             refine Oper.wp_mono ?_ (zbA hwp)
             rintro a' w' ⟨⟨c', rfl, e1, e2, e3, eb, e4, e5⟩, v, e6⟩
             exact ⟨fun _ => RG.of_below eb, hafter false s1 c' a' v e1 e2 e3 e4 e5 e6 (fun e => by cases e) hg⟩
           · cases hs1
         have hrs : ∀ s, zat E Mo first (m + 4) s o = zaA E Mo s o := fun s => by
          unfold zat
          split
          · exfalso; omega
          · exfalso; omega
          · exfalso; omega
          · exfalso; omega
          · exfalso; omega
          · exfalso; omega
          · exfalso; omega
          · exfalso; omega
          · exfalso; omega
          · rfl
         rw [hrs] at hg
         simp only [Option.bind_eq_some_iff] at hg
         obtain ⟨s1, hs1, hg⟩ := hg
         unfold zaA at hs1
         split at hs1
         · simp only [Option.bind_eq_some_iff] at hs1
           obtain ⟨ef, hev, hap⟩ := hs1
           have hef := zaQ hinv.env.ty hinv.env.tys hinv.env.inv hinv.env.call hinv.fr.sim (fun _ _ h => h) (fun _ _ h => h) hev
           refine Oper.wp_mono ?_ (zbA (zau hinv.fr hd hef hap (fun a' w' => ∃ c', c'.W = w' ∧ c'.s = s1 ∧ Fr X c' a' ∧ Ext c c' ∧ Below c.W.heap.size c.W c'.W ∧ a'.tmps.size = a.tmps.size ∧ a'.defers = a.defers) Q0 fun a' c' e1 e2 e3 eb e4 e5 => ⟨c', rfl, e1, e2, e3, eb, e4, e5⟩))
           rintro a' w' ⟨⟨c', rfl, e1, e2, e3, eb, e4, e5⟩, v, e6⟩
           exact ⟨fun _ => RG.of_below eb, hafter false s1 c' a' v e1 e2 e3 e4 e5 e6 (fun e => by cases e) hg⟩
         · rename_i M
           split at hs1
           · cases hs1
           rename_i hhid
           simp only [Option.bind_eq_some_iff] at hs1
           obtain ⟨s2, hs2, hs1⟩ := hs1
           split at hs1
           · rename_i hno
             cases hs1
             obtain ⟨f1, f2⟩ := zi7 hinv.fr hhid
             have hE2 := hinv.env.next f2 rfl
             refine Oper.wp_mono ?_ (zbA (zbl hE2 f1 hk hs2 (fun a' w' => ∃ c', c'.W = w' ∧ c'.s = s2 ∧ Fr X c' a' ∧ Ext (c.hid M) c' ∧ a'.tmps.size = a.tmps.size ∧ a'.defers = a.defers) Q0 fun a' c' e1 e2 e3 e4 e5 => ⟨c', rfl, e1, e2, e3, e4, e5⟩))
             rintro a' w' ⟨⟨c', rfl, e1, e2, e3, e4, e5⟩, v, e6⟩
             obtain ⟨g1, g2⟩ := zhM hinv.fr hhid e3 e2 e4 e6 (by rw [e1]; exact hno)
             refine ⟨fun _ => ⟨e3.size, fun g hgl hG => ?_⟩, hafter false _ (c.shown c' M o.dst) a' v (by show c'.s.shown M o.dst c.s = _; rw [e1]) g1 g2 e4 e5 e6 (fun e => by cases e) hg⟩
             refine (e3.keep g hgl ?_).2
             show stable (match c.isM M g with | true => Role.oth | false => c.ρ g)
             cases hM2 : c.isM M g with
             | true => trivial
             | false =>
               show stable (c.ρ g)
               rcases hG with ⟨h0, h1⟩ | ⟨n, hn, h1⟩
               · rw [(hinv.ext.keep g h0 h1).1]
                 exact h1
               · exfalso
                 have hv := hinv.fr.sim.slots n
                 rw [(zep hhid hn).1] at hv
                 have h2 : a.tmps.getD n undef = .pointer (some ⟨c.β (.loc n), 0, none⟩) := hv.2
                 rw [hinv.mtm M rfl n hn, h1] at h2
                 have h3 : g = c.β (.loc n) := by
                  injection h2 with h2
                  injection h2 with h2
                  injection h2
                 rw [isM_iff.2 ⟨n, hn, h3.symm⟩] at hM2
                 cases hM2
           · cases hs1
       · rw [if_neg (by rw [hw]; exact fun e => by cases e)]
         exact ⟨fun _ => RG.refl _, hafter false _ { c with s := c.s.putO o.dst .undef } _ undef rfl hu1 hu2 (zbp _ _ _) (za4 _ _ _) rfl (fun e => by cases e) hg⟩
end
end Go.Den
namespace Go.Den
open Go Go.RowKit
set_option linter.unusedVariables false
variable {B : Nat → Option Obj}
theorem zl8 {c : Cx} {a : Act} {X : Nat} (hf : Fr X c a) : Fr X { c with W := { c.W with drawn := c.W.drawn + 1 } } a ∧ Ext c { c with W := { c.W with drawn := c.W.drawn + 1 } } := by
 refine ⟨⟨Sim.same (Z := fun _ => False) hf.sim rfl (fun _ _ _ h => h) ⟨rfl, fun b g h _ => ⟨h, rfl⟩, fun q r hq _ => ⟨hq, rfl⟩, fun r hr _ => ⟨hr, rfl⟩, fun q _ => ⟨rfl, fun g h _ => ⟨h, rfl⟩⟩⟩ fun r hr => ?_, hf.ghost.out, hf.ghost.own⟩, rfl, rfl, rfl, Nat.le_refl _, fun _ _ _ => ⟨rfl, rfl⟩, rfl, fun _ => rfl, fun _ => rfl⟩
 obtain ⟨cs, hb⟩ := Option.isSome_iff_exists.1 hr
 obtain ⟨vs, T, h1, h2, _⟩ := (hf.sim.boxes r cs hb).out
 exact ⟨h2, rfl⟩
theorem zfb {s : St} : ∀ {ds : List Nat}, zfQ s ds = true → ∀ n ∈ ds, (s.t n).hasOwn = false
 | [], h, n, hn => by cases hn
 | m :: ds, h, n, hn => by
   have h' : (!(s.t m).hasOwn && zfQ s ds) = true := h
   simp only [Bool.and_eq_true, Bool.not_eq_true'] at h'
   rcases List.mem_cons.1 hn with rfl | hn
   · exact h'.1
   · exact zfb h'.2 n hn
theorem zlm {c : Cx} {a : Act} {X : Nat} {ds : List Nat} (hf : Fr X c a) (h : zfQ c.s ds = true) : Fr X { c with s := c.s.junks ds } a := by
 refine ⟨zcD (K := Kill.none) hf.sim (fun y => ?_) (fun r cs' h => ⟨cs', by cases r <;> exact h, (zd0 _).symm⟩) rfl (fun q r hq _ => ?_) (fun r hr _ => by cases r <;> exact hr), hf.ghost.out, ?_⟩
 · cases hm : memN y ds with
   | true => left; simp only [St.junks, hm]
   | false => right; simp only [St.junks, hm, zbb, and_self]
 · cases q with
   | slot y l =>
     show (D.at_ l ((c.s.junks ds).t y)).row? = _
     cases hm : memN y ds with
     | true =>
       have hq' : (D.at_ l (c.s.t y)).row? = some r := hq
       rw [zbr l _ (zfb h y (memN_iff.1 hm))] at hq'
       cases hq'
     | false => simp only [St.junks, hm]; exact hq
   | cell r0 o => cases r0 <;> exact hq
   | lent j => exact hq
 · show ((c.s.junks ds).t X).hasOwn = false
   cases hm : memN X ds with
   | true => simp only [St.junks, hm]; rfl
   | false => simp only [St.junks, hm]; exact hf.ghost.own
theorem ziW {P : Program} {E : Env} {X id : Nat} {ops : Array Oper} {p : Plan} (hm : P.follows .mixedOrders = true) (hp : E.plan id = some p) (hok : ziq E.ty ops p = true) (hops : ∀ o ∈ ops.toList, za6 E.nt o = true) : zlD P B E X id ops := by
 intro c a s' Q hE hf h hEnd
 unfold ziq at hok
 simp only [Bool.and_eq_true] at hok
 obtain ⟨⟨hsel, hdst, hlen⟩, hMc, hgo⟩ := hok
 have hlen : p.2.length ≤ ops.size := by simpa using hlen
 have hM : ∀ M, p.1 = some M → ∀ o ∈ ops.toList, ∀ n ∈ M, o.dst ≠ some n := by
  intro M hM o ho n hn e
  rw [hM] at hMc
  simp only at hMc
  have h1 := (Array.all_eq_true_iff_forall_mem.1 hMc) o (Array.mem_toList_iff.1 ho)
  have h2 := (List.all_eq_true.1 h1) n hn
  simp [zkA, e] at h2
 obtain ⟨hf1, he1⟩ := zl8 hf
 let Q0 : Exit → Act → World → Prop := fun x a w => match x with | .normal => Q .normal a w | _ => False
 refine Code.wp_mono (Q := Q0) (fun e a w hq => ?_) (wp_region_any hm (zfF (R := RG (Gd { c with W := { c.W with drawn := c.W.drawn + 1 } } a p.1)) (str := zhS p.2) _ _ _ _ ?_))
 · cases e <;> first | exact hq | exact hq.elim
 · simp only [zb6, hp, zhK] at h
   have hstill : zco [] p.2 ≤ ops.size := by
    unfold zco
    exact Nat.le_trans List.countP_le_length hlen
   have key : ∀ (s0 : St), Fr X { c with W := { c.W with drawn := c.W.drawn + 1 }, s := s0 } a → zaz E ops p.1 true p.2 s0 = some s' →
    zbQ P .any ops Q0 (RG (Gd { c with W := { c.W with drawn := c.W.drawn + 1 } } a p.1)) (zhS p.2) ops.size (Array.replicate ops.size false) a { c.W with drawn := c.W.drawn + 1 } := by
    intro s0 hf0 h0
    have he0 : Ext c { c with W := { c.W with drawn := c.W.drawn + 1 }, s := s0 } := ⟨rfl, rfl, rfl, Nat.le_refl _, fun _ _ _ => ⟨rfl, rfl⟩, rfl, fun _ => rfl, fun _ => rfl⟩
    have hE0 := hE.next he0 rfl
    refine zi1 (E := E) (X := X) (Q0 := Q0) (c0 := { c with W := { c.W with drawn := c.W.drawn + 1 }, s := s0 }) (a0 := a) hE0.tys hops hsel hdst hM (fun _ _ _ h => h) (hEnd.from he0 rfl rfl) p.2 ops.size true (Array.replicate ops.size false) _ [] (fun _ => 0)
     { c with W := { c.W with drawn := c.W.drawn + 1 }, s := s0 } a hgo (Sup.refl _) (fun j hj => by cases hj) hstill ⟨hE0.inv, hf0, hE0, Ext.refl _, rfl, rfl, fun _ _ _ _ => rfl, fun _ b g hr hg => ⟨hg, hr.stable⟩, fun j hj => (by cases hj), fun j k hj => (by cases hj)⟩ h0
   split at h
   · rename_i hnil
     refine key c.s hf1 ?_
     rw [hnil]
     exact h
   · rename_i i k ds l hcons
     split at h
     · rename_i hno
       refine key (c.s.junks ds) (zlm hf1 hno) ?_
       rw [hcons]
       exact h
     · cases h
def zbz (ty : Nat → Option TI) (nt : Nat) (plan : Nat → Option Plan) : Code → Bool
 | .region id ops draw => match draw with
   | true => (match plan id with | some p => ziq ty ops p | none => true)
   | false => true
 | .seq a b => zbz ty nt plan a && zbz ty nt plan b
 | .cond _ a b => zbz ty nt plan a && zbz ty nt plan b
 | .block _ a => zbz ty nt plan a
 | .loop a => zbz ty nt plan a
 | _ => true
theorem zbc {P : Program} {E : Env} {X : Nat} (hm : P.follows .mixedOrders = true) : ∀ (code : Code), zbj E.nt code = true → zbz E.ty E.nt E.plan code = true → zcb P B E X code
 | .region id ops draw, hk, h => fun hd => by
   subst hd
   have hops : ∀ o ∈ ops.toList, za6 E.nt o = true := List.all_eq_true.1 hk
   have h' : (match E.plan id with | some p => ziq E.ty ops p | none => true) = true := h
   cases hp : E.plan id with
   | none =>
     intro c a s' Q hE hf hr
     simp only [zb6, hp] at hr
     cases hr
   | some p =>
     rw [hp] at h'
     exact ziW hm hp h' hops
 | .seq a b, hk, h => by
   have hk' : (zbj E.nt a && zbj E.nt b) = true := hk
   have h' : (zbz E.ty E.nt E.plan a && zbz E.ty E.nt E.plan b) = true := h
   simp only [Bool.and_eq_true] at hk' h'
   exact ⟨zbc hm a hk'.1 h'.1, zbc hm b hk'.2 h'.2⟩
 | .cond _ a b, hk, h => by
   have hk' : (zbj E.nt a && zbj E.nt b) = true := hk
   have h' : (zbz E.ty E.nt E.plan a && zbz E.ty E.nt E.plan b) = true := h
   simp only [Bool.and_eq_true] at hk' h'
   exact ⟨zbc hm a hk'.1 h'.1, zbc hm b hk'.2 h'.2⟩
 | .block _ a, hk, h => zbc hm a hk h
 | .loop a, hk, h => zbc hm a hk h
 | .skip, hk, h => trivial
 | .rangeFunc _ _ _ _, hk, h => trivial
 | .scope _, hk, h => trivial
 | .refuse _, hk, h => trivial
 | .exit _, hk, h => trivial
 | .ret, hk, h => trivial
 | .label _, hk, h => trivial
 | .goto _, hk, h => trivial
end Go.Den
namespace Go.Den
open Go Go.RowKit
set_option linter.unusedVariables false
variable {B : Nat → Option Obj}
theorem zbC {P : Program} {f : Nat} {fn : Func} {vals : Array Value} {W : World} {R : Value → World → Prop} (hf : P.funcs[f]? = some fn) (hn : (fn.name == "runtime.NumGoroutine") = false) (hb : fn.body.isSome = true) (h : Calls P f vals W fun e w' => ∃ v, e = .returned v ∧ R v w') : Reaches P f vals W R := by
 obtain ⟨code, hbd⟩ := Option.isSome_iff_exists.1 hb
 have hent : (callFunc f vals).run P W = .ok (.enter f vals) W := by
  have h1 : fn.name ≠ "runtime.NumGoroutine" := by simpa using hn
  simp [callFunc, hf, h1, hbd, mark]
 unfold Reaches
 rw [hent]
 refine Calls.mono h fun e w' he => ?_
 obtain ⟨v, rfl, hr⟩ := he
 exact hr
end Go.Den
namespace Go.Den
open Go Go.RowKit
set_option linter.unusedVariables false
variable {B : Nat → Option Obj}
structure ExtOK (P : Program) (ty : Nat → Option TI) (B : Nat → Option Obj) (f : Nat) (g : List D → List (List D) → List (Option Row) → Option (List D × List (List D) × List (Option Row))) : Prop where mk ::
 out : zck P ty B fun f' args u l => if f' = f then g args u l else none
theorem zk2 {P : Program} {C : Cfg} (h1 : TyOk P C.ty) (h2 : ∀ f fn, C.fn f = some fn → FnOK P B C f fn) (h3 : ∀ f g, C.ext f = some g → ExtOK P C.ty B f g) : CfgOK P B C := ⟨h1, h2, fun f g h => (h3 f g h).out⟩
def DI (n : Int) : Dat := .val (.int .i64 n)
end Go.Den
namespace Go.Den
open Go Go.RowKit
set_option linter.unusedVariables false
variable {B : Nat → Option Obj}
structure Kept0 (w w' : World) : Prop where
 os : w'.os = w.os
 tape : w'.tape = w.tape
 output : w'.output = w.output
 size : w.heap.size ≤ w'.heap.size
 keep : ∀ g, g < w.heap.size → w'.heap[g]? = w.heap[g]?
theorem Kept0.refl (w : World) : Kept0 w w := ⟨rfl, rfl, rfl, Nat.le_refl _, fun _ _ => rfl⟩
theorem Kept0.trans {a b c : World} (h : Kept0 a b) (k : Kept0 b c) : Kept0 a c :=
 ⟨k.os.trans h.os, k.tape.trans h.tape, k.output.trans h.output, Nat.le_trans h.size k.size, fun g hg => (k.keep g (Nat.lt_of_lt_of_le hg h.size)).trans (h.keep g hg)⟩
theorem Kept0.alloc (w : World) (o : Obj) : Kept0 w (w.alloc o) := ⟨rfl, rfl, rfl, by simp, fun g hg => Below.heap_alloc w o g hg⟩
theorem Kept0.drew (w : World) : Kept0 w w.drew := ⟨rfl, rfl, rfl, Nat.le_refl _, fun _ _ => rfl⟩
def zhy : List D → Option (List Value)
 | [] => some []
 | .dat (.val v) :: ds => (zhy ds).map (v :: ·)
 | _ => none
def DV (v : Value) : D := .dat (.val v)
def zfS (φ : List Value → Option (List Value)) (args : List D) (u : List (List D)) (l : List (Option Row)) : Option (List D × List (List D) × List (Option Row)) :=
 match u, l with
 | [], [] => (zhy args).bind fun vs => (φ vs).map fun rs => (rs.map DV, [], [])
 | _, _ => none
def retV : List Value → Value
 | [v] => v
 | vs => .tuple vs.toArray
theorem zgI {c : Cx} {tm : Array Value} (hs : ∀ x, VR c (.slot x []) (c.s.t x) (tm.getD x undef)) : ∀ {args : List D} {vs : List Value} (k : Nat), zhy args = some vs → (∀ i d, args[i]? = some d → c.s.t (k + i) = d) → vs.length = args.length ∧ ∀ i v, vs[i]? = some v → tm.getD (k + i) undef = v
 | [], vs, k, h, ht => by cases h; exact ⟨rfl, fun i v hv => by simp at hv⟩
 | d :: ds, vs, k, h, ht => by
   unfold zhy at h
   split at h
   · rename_i h0; cases h0
   · rename_i w ds' h0
     cases h0
     obtain ⟨ws, hw, rfl⟩ := Option.map_eq_some_iff.1 h
     obtain ⟨h1, h2⟩ := zgI hs (k + 1) hw (fun i d hd => by rw [show k + 1 + i = k + (i + 1) by omega]; exact ht (i + 1) d (by simpa using hd))
     refine ⟨by simp [h1], fun i v hv => ?_⟩
     cases i with
     | zero =>
       cases hv
       have h3 := hs (k + 0)
       rw [ht 0 _ rfl] at h3
       exact (zaq h3).1
     | succ i => rw [show k + (i + 1) = k + 1 + i by omega]; exact h2 i v (by simpa using hv)
   · cases h
theorem zjH {c : Cx} {p : Pl} : ∀ (rs : List Value) (i : Nat), (∀ r ∈ rs, scal r = true) → VRs c p i (rs.map DV) rs
 | [], i, h => rfl
 | r :: rs, i, h => ⟨r, rs, rfl, zaE (h r (by simp)), zjH rs (i + 1) fun x hx => h x (List.mem_cons_of_mem _ hx)⟩
theorem zeD (b : Bool) : ∀ rs : List Value, D.tights b (rs.map DV) = true
 | [] => rfl
 | r :: rs => by
   show (D.tight b (DV r) && D.tights b (rs.map DV)) = true
   rw [zeD b rs]
   rfl
theorem zfj : ∀ rs : List Value, D.plains (rs.map DV) = true
 | [] => rfl
 | r :: rs => by
   show (D.plain (DV r) && D.plains (rs.map DV)) = true
   rw [zfj rs]
   rfl
theorem zg6 {P : Program} {ty : Nat → Option TI} {f : Nat} {φ : List Value → Option (List Value)}
 (h : ∀ vs rs W, (∀ (g : Nat) (o : Obj), B g = some o → W.heap[g]? = some o) → φ vs = some rs → rs ≠ [] ∧ (∀ r ∈ rs, scal r = true) ∧ Reaches P f vs.toArray W fun r W' => r = retV rs ∧ Kept0 W W') :
 zck P ty B fun f' args u l => if f' = f then zfS φ args u l else none := by
 intro f' args u l rs u' l' hc c vals hcty hI hcs hsz2 hs
 simp only at hc
 split at hc
 · rename_i hff
   subst hff
   unfold zfS at hc
   split at hc
   · simp only [Option.bind_eq_some_iff, Option.map_eq_some_iff] at hc
     obtain ⟨vs, hv, ws, hw, hq⟩ := hc
     cases hq
     obtain ⟨hne, hsc, hr⟩ := h vs ws c.W (fun g o hg => (hI g o hg).2) hw
     obtain ⟨h1, h2⟩ := zgI (c := c) (tm := vals) hs.slots 0 hv (fun i d hd => by
      rw [hcs]
      show args.getD (0 + i) .undef = d
      rw [Nat.zero_add, List.getD_eq_getElem?_getD, hd]
      rfl)
     have hvals : vals = vs.toArray := by
      apply Array.ext
      · simp [hsz2, h1]
      · intro i hi1 hi2
        have hi3 : i < vs.length := by simpa using hi2
        have := h2 i vs[i] (List.getElem?_eq_getElem hi3)
        rw [Nat.zero_add] at this
        simpa [Array.getD, hi1] using this
     rw [hvals]
     refine hr.mono fun r W' hrr => ?_
     obtain ⟨rfl, hk⟩ := hrr
     refine ⟨{ c with W := W', s := ⟨fun x => match Nat.beq x 0 with | true => retD (ws.map DV) | false => .junk, fun _ => none, [], []⟩ }, rfl, Ans.of (zfj ws) ⟨?_, rfl, ?_, ?_, ?_⟩⟩
     · exact ⟨hk.os, hk.tape, hk.output, hk.size, fun g hg _ => ⟨rfl, hk.keep g hg⟩, rfl, fun _ => rfl, fun _ => rfl⟩
     · refine ⟨fun x => ?_, fun r cs hb => ?_, fun j r hgj => ?_⟩
       · show VR _ _ (match Nat.beq x 0 with | true => retD (ws.map DV) | false => .junk) _
         cases hx : Nat.beq x 0 with
         | true =>
           have := Nat.eq_of_beq_eq_true hx
           subst this
           match ws, hne, hsc with
           | [w], _, hsc => exact zaE (hsc w (by simp))
           | w :: w2 :: ws, _, hsc => exact ⟨w :: w2 :: ws, rfl, fun e => (by cases e), zjH (w :: w2 :: ws) 0 hsc⟩
         | false => trivial
       · cases r with
         | loc n => cases hb
         | up n =>
           have hb' : ([] : List (List D))[n]? = some cs := hb
           simp at hb'
       · have hgj' : (([] : List (Option Row))[j]?).bind id = some r := hgj
         simp at hgj'
     · match ws, hne with
       | [w], _ => rfl
       | w :: w2 :: ws, _ => exact zeD false (w :: w2 :: ws)
     · rw [hcs]
       rfl
   · cases hc
 · cases hc
theorem zkq {P : Program} {ty : Nat → Option TI} {f : Nat} {fn : Func} {φ : List Value → Option (List Value)} (hf : P.funcs[f]? = some fn) (hn : (fn.name == "runtime.NumGoroutine") = false) (hb : fn.body.isSome = true)
 (h : ∀ vs rs W, φ vs = some rs → rs ≠ [] ∧ (∀ r ∈ rs, scal r = true) ∧ Calls P f vs.toArray W fun e w' => ∃ v, e = .returned v ∧ (v = retV rs ∧ Kept0 W w')) : ExtOK P ty B f (zfS φ) :=
 ⟨zg6 fun vs rs W _ hv => ⟨(h vs rs W hv).1, (h vs rs W hv).2.1, zbC hf hn hb (h vs rs W hv).2.2⟩⟩
end Go.Den
namespace Go.Proofs
open Go.Shelf
def Tryd.lays169_ren : Go.Shelf.Ren := ⟨fun | 169 => 33 | n => n, fun | 70 => 61 | 9 => 9 | 0 => 0 | 72 => 64 | 37 => 62 | 127 => 75 | 3 => 3 | 5 => 5 | n => n, fun | n => n⟩
theorem Tryd.lays169 : Go.Proofs.Lays.n169 Tryd.prog Tryd.lays169_ren := {
 mixed := by kernel_rfl
 f169 := Tryd.func33.trans (congrArg some (by kernel_rfl))
 t0 := Tryd.underlying0
 a0 := Tryd.isAgg0
 z0 := Tryd.sizeOf0
 v0 := Tryd.zeroValue0
 t3 := Tryd.underlying3
 a3 := Tryd.isAgg3
 z3 := Tryd.sizeOf3
 v3 := Tryd.zeroValue3
 t9 := Tryd.underlying9
 a9 := Tryd.isAgg9
 z9 := Tryd.sizeOf9
 v9 := Tryd.zeroValue9
 t37 := Tryd.underlying62
 a37 := Tryd.isAgg62
 z37 := Tryd.sizeOf62
 v37 := Tryd.zeroValue62
 t70 := Tryd.underlying61
 a70 := Tryd.isAgg61
 z70 := Tryd.sizeOf61
 v70 := Tryd.zeroValue61
 t72 := Tryd.underlying64
 a72 := Tryd.isAgg64
 z72 := Tryd.sizeOf64
 v72 := Tryd.zeroValue64
 t127 := Tryd.underlying75
 a127 := Tryd.isAgg75
 z127 := Tryd.sizeOf75
 v127 := Tryd.zeroValue75 }
theorem Tryd.Builder_Extra_169 : Builder.Extra Tryd.prog Tryd.lays169_ren := {
 sizeBuilder := by kernel_rfl
 liesBuilder := by kernel_rfl
 t5 := Tryd.underlying5
 a5 := Tryd.isAgg5
 z5 := Tryd.sizeOf5
 v5 := Tryd.zeroValue5
 infoByte := by kernel_rfl
 cellsByte := by kernel_rfl
 sizeByte := by kernel_rfl
 neB5 := by decide }
open Go.RowKit in
theorem Tryd.Builder_String_any (B b : Nat) (l : List UInt8) (w : World) (h : Lib.IsBuilder 64 5 B b (Lib.byteCells l) w) (hBw : B ≤ w.heap.size) :
 Calls Tryd.prog 33 #[.pointer (some ⟨b, 0, none⟩)] w fun e w' => e = .returned (.string ⟨l.toArray⟩) ∧ Below B w w' := Any.Builder_String_any Tryd.lays169 Tryd.Builder_Extra_169 B b l w h hBw
def Tryd.laysM246_ren : Go.Shelf.Ren := ⟨fun | 246 => 44 | 283 => 46 | 284 => 47 | 285 => 48 | 286 => 49 | 129 => 55 | 317 => 54 | 318 => 56 | 319 => 57 | 320 => 58 | 337 => 61 | 338 => 62 | n => n, fun | 2 => 2 | 3 => 3 | 9 => 9 | 4 => 4 | 171 => 86 | 0 => 0 | 53 => 79 | 37 => 62 | 5 => 5 | 173 => 89 | 212 => 94 | 51 => 76 | 20 => 20 | 213 => 95 | 46 => 70 | 232 => 100 | 233 => 101 | n => n, fun | 17 => 1 | 18 => 2 | 19 => 3 | n => n⟩
def Tryd.laysM243_ren : Go.Shelf.Ren := ⟨fun | 243 => 39 | 246 => 44 | 283 => 46 | 284 => 47 | 285 => 48 | 286 => 49 | 129 => 55 | 317 => 54 | 318 => 56 | 319 => 57 | 320 => 58 | 337 => 61 | 338 => 62 | n => n, fun | 3 => 3 | 9 => 9 | 2 => 2 | 4 => 4 | 171 => 86 | 0 => 0 | 53 => 79 | 37 => 62 | 5 => 5 | 173 => 89 | 212 => 94 | 51 => 76 | 20 => 20 | 213 => 95 | 46 => 70 | 232 => 100 | 233 => 101 | n => n, fun | 17 => 1 | 18 => 2 | 19 => 3 | n => n⟩
def Tryd.laysM171_ren : Go.Shelf.Ren := ⟨fun | 171 => 32 | 243 => 39 | 246 => 44 | 283 => 46 | 284 => 47 | 285 => 48 | 286 => 49 | 129 => 55 | 317 => 54 | 318 => 56 | 319 => 57 | 320 => 58 | 337 => 61 | 338 => 62 | n => n, fun | 3 => 3 | 9 => 9 | 2 => 2 | 4 => 4 | 171 => 86 | 0 => 0 | 53 => 79 | 37 => 62 | 5 => 5 | 173 => 89 | 212 => 94 | 51 => 76 | 20 => 20 | 213 => 95 | 46 => 70 | 232 => 100 | 233 => 101 | n => n, fun | 17 => 1 | 18 => 2 | 19 => 3 | n => n⟩
theorem Tryd.laysM171 : Go.Proofs.LaysM.n171 Tryd.prog Tryd.laysM171_ren := {
 mixed := by kernel_rfl
 f129 := Tryd.func55.trans (congrArg some (by kernel_rfl))
 f171 := Tryd.func32.trans (congrArg some (by kernel_rfl))
 f243 := Tryd.func39.trans (congrArg some (by kernel_rfl))
 f246 := Tryd.func44.trans (congrArg some (by kernel_rfl))
 f283 := Tryd.func46.trans (congrArg some (by kernel_rfl))
 f284 := Tryd.func47.trans (congrArg some (by kernel_rfl))
 f285 := Tryd.func48.trans (congrArg some (by kernel_rfl))
 f286 := Tryd.func49.trans (congrArg some (by kernel_rfl))
 f317 := Tryd.func54.trans (congrArg some (by kernel_rfl))
 f318 := Tryd.func56.trans (congrArg some (by kernel_rfl))
 f319 := Tryd.func57.trans (congrArg some (by kernel_rfl))
 f320 := Tryd.func58.trans (congrArg some (by kernel_rfl))
 f337 := Tryd.func61.trans (congrArg some (by kernel_rfl))
 f338 := Tryd.func62.trans (congrArg some (by kernel_rfl))
 t0 := Tryd.underlying0
 a0 := Tryd.isAgg0
 z0 := Tryd.sizeOf0
 v0 := Tryd.zeroValue0
 t2 := Tryd.underlying2
 a2 := Tryd.isAgg2
 z2 := Tryd.sizeOf2
 v2 := Tryd.zeroValue2
 t3 := Tryd.underlying3
 a3 := Tryd.isAgg3
 z3 := Tryd.sizeOf3
 v3 := Tryd.zeroValue3
 t4 := Tryd.underlying4
 a4 := Tryd.isAgg4
 z4 := Tryd.sizeOf4
 v4 := Tryd.zeroValue4
 t5 := Tryd.underlying5
 a5 := Tryd.isAgg5
 z5 := Tryd.sizeOf5
 v5 := Tryd.zeroValue5
 t9 := Tryd.underlying9
 a9 := Tryd.isAgg9
 z9 := Tryd.sizeOf9
 v9 := Tryd.zeroValue9
 t20 := Tryd.underlying20
 a20 := Tryd.isAgg20
 z20 := Tryd.sizeOf20
 v20 := Tryd.zeroValue20
 t37 := Tryd.underlying62
 a37 := Tryd.isAgg62
 z37 := Tryd.sizeOf62
 v37 := Tryd.zeroValue62
 t46 := Tryd.underlying70
 a46 := Tryd.isAgg70
 z46 := Tryd.sizeOf70
 v46 := Tryd.zeroValue70
 t51 := Tryd.underlying76
 a51 := Tryd.isAgg76
 z51 := Tryd.sizeOf76
 v51 := Tryd.zeroValue76
 t53 := Tryd.underlying79
 a53 := Tryd.isAgg79
 z53 := Tryd.sizeOf79
 v53 := Tryd.zeroValue79
 t171 := Tryd.underlying86
 a171 := Tryd.isAgg86
 z171 := Tryd.sizeOf86
 v171 := Tryd.zeroValue86
 t173 := Tryd.underlying89
 a173 := Tryd.isAgg89
 z173 := Tryd.sizeOf89
 v173 := Tryd.zeroValue89
 t212 := Tryd.underlying94
 a212 := Tryd.isAgg94
 z212 := Tryd.sizeOf94
 v212 := Tryd.zeroValue94
 t213 := Tryd.underlying95
 a213 := Tryd.isAgg95
 z213 := Tryd.sizeOf95
 t232 := Tryd.underlying100
 a232 := Tryd.isAgg100
 z232 := Tryd.sizeOf100
 v232 := Tryd.zeroValue100
 t233 := Tryd.underlying101
 a233 := Tryd.isAgg101
 z233 := Tryd.sizeOf101
 v233 := Tryd.zeroValue101
 g17 := by kernel_rfl
 g18 := by kernel_rfl
 g19 := by kernel_rfl
 i0 := by kernel_rfl
 i2 := by kernel_rfl
 i3 := by kernel_rfl
 i4 := by kernel_rfl
 i5 := by kernel_rfl
 i9 := by kernel_rfl
 i20 := by kernel_rfl
 i37 := by kernel_rfl
 i46 := by kernel_rfl
 i51 := by kernel_rfl
 i53 := by kernel_rfl
 i171 := by kernel_rfl
 i173 := by kernel_rfl
 i212 := by kernel_rfl
 i232 := by kernel_rfl
 i233 := by kernel_rfl
 m17 := by kernel_rfl
 m18 := by kernel_rfl
 m19 := by kernel_rfl }
open Go.RowKit Go.Sort Go.Lib in
theorem Tryd.strconv_Itoa (n : Int) (h0 : -9223372036854775808 ≤ n) (h1 : n ≤ 9223372036854775807) (w : World) (htab : Lib.TabIs Tryd.prog w "internal/strconv.uint64pow10" .u64 Lib.pow10Tab) :
 Calls Tryd.prog 32 #[.int .i64 n] w fun e w' => e = .returned (.string ⟨(Lib.itoa n).toArray⟩) ∧ ∃ k os, w' = grow (w.drewN k) os := Any.strconv_Itoa Tryd.laysM171 n h0 h1 w htab
def Tryd.lays219_ren : Go.Shelf.Ren := ⟨fun | 219 => 45 | 217 => 50 | 225 => 51 | 224 => 52 | 267 => 53 | 266 => 59 | 314 => 60 | n => n, fun | 9 => 9 | 3 => 3 | 4 => 4 | 5 => 5 | 46 => 70 | 146 => 77 | 51 => 76 | n => n, fun | 1 => 0 | n => n⟩
def Tryd.lays144_ren : Go.Shelf.Ren := ⟨fun | 144 => 37 | 143 => 42 | 219 => 45 | 217 => 50 | 225 => 51 | 224 => 52 | 267 => 53 | 266 => 59 | 314 => 60 | n => n, fun | 9 => 9 | 4 => 4 | 3 => 3 | 5 => 5 | 46 => 70 | 146 => 77 | 51 => 76 | n => n, fun | 1 => 0 | n => n⟩
theorem Tryd.lays144 : Go.Proofs.Lays.n144 Tryd.prog Tryd.lays144_ren := {
 mixed := by kernel_rfl
 f143 := Tryd.func42.trans (congrArg some (by kernel_rfl))
 f144 := Tryd.func37.trans (congrArg some (by kernel_rfl))
 f217 := Tryd.func50.trans (congrArg some (by kernel_rfl))
 f219 := Tryd.func45.trans (congrArg some (by kernel_rfl))
 f224 := Tryd.func52.trans (congrArg some (by kernel_rfl))
 f225 := Tryd.func51.trans (congrArg some (by kernel_rfl))
 f266 := Tryd.func59.trans (congrArg some (by kernel_rfl))
 f267 := Tryd.func53.trans (congrArg some (by kernel_rfl))
 f314 := Tryd.func60.trans (congrArg some (by kernel_rfl))
 t3 := Tryd.underlying3
 a3 := Tryd.isAgg3
 z3 := Tryd.sizeOf3
 v3 := Tryd.zeroValue3
 t4 := Tryd.underlying4
 a4 := Tryd.isAgg4
 z4 := Tryd.sizeOf4
 v4 := Tryd.zeroValue4
 t5 := Tryd.underlying5
 a5 := Tryd.isAgg5
 z5 := Tryd.sizeOf5
 v5 := Tryd.zeroValue5
 t9 := Tryd.underlying9
 a9 := Tryd.isAgg9
 z9 := Tryd.sizeOf9
 v9 := Tryd.zeroValue9
 t46 := Tryd.underlying70
 a46 := Tryd.isAgg70
 z46 := Tryd.sizeOf70
 v46 := Tryd.zeroValue70
 t51 := Tryd.underlying76
 a51 := Tryd.isAgg76
 z51 := Tryd.sizeOf76
 v51 := Tryd.zeroValue76
 t146 := Tryd.underlying77
 a146 := Tryd.isAgg77
 z146 := Tryd.sizeOf77
 v146 := Tryd.zeroValue77
 g1 := by kernel_rfl }
open Go.RowKit Go.Lib in
theorem Tryd.strings_Contains_one (s : ByteArray) (c : UInt8) (w : World) :
 Calls Tryd.prog 37 #[.string s, .string ⟨#[c]⟩] w fun e w' => e = .returned (.bool (decide (0 ≤ Lib.indexByte s.data.toList c))) ∧ w' = w := Any.strings_Contains_one Tryd.lays144 s c w
def Tryd.lays212_ren : Go.Shelf.Ren := ⟨fun | 212 => 34 | 263 => 40 | 264 => 41 | n => n, fun | 46 => 70 | 51 => 76 | 146 => 77 | 53 => 79 | 148 => 80 | n => n, fun | n => n⟩
theorem Tryd.lays212 : Go.Proofs.Lays.n212 Tryd.prog Tryd.lays212_ren := {
 mixed := by kernel_rfl
 f212 := Tryd.func34.trans (congrArg some (by kernel_rfl))
 f263 := Tryd.func40.trans (congrArg some (by kernel_rfl))
 f264 := Tryd.func41.trans (congrArg some (by kernel_rfl))
 t46 := Tryd.underlying70
 a46 := Tryd.isAgg70
 z46 := Tryd.sizeOf70
 v46 := Tryd.zeroValue70
 t51 := Tryd.underlying76
 a51 := Tryd.isAgg76
 z51 := Tryd.sizeOf76
 v51 := Tryd.zeroValue76
 t53 := Tryd.underlying79
 a53 := Tryd.isAgg79
 z53 := Tryd.sizeOf79
 v53 := Tryd.zeroValue79
 t146 := Tryd.underlying77
 a146 := Tryd.isAgg77
 z146 := Tryd.sizeOf77
 v146 := Tryd.zeroValue77
 t148 := Tryd.underlying80
 a148 := Tryd.isAgg80
 z148 := Tryd.sizeOf80
 v148 := Tryd.zeroValue80 }
open Go.RowKit Go.Lib in
theorem Tryd.bits_Mul (x y : Nat) (hx : x < 18446744073709551616) (hy : y < 18446744073709551616) (w : World) :
 Calls Tryd.prog 34 #[.int .u64 x, .int .u64 y] w fun e w' => e = .returned (.tuple #[.int .u64 ((x * y / 18446744073709551616 : Nat) : Int), .int .u64 ((x * y % 18446744073709551616 : Nat) : Int)]) ∧ w' = w := Any.bits_Mul Tryd.lays212 x y hx hy w
end Go.Proofs
namespace Go.Proofs.YtmoocdlfclhgcaaDoor
open Go Go.RowKit Go.Proofs
open Go.Den (Kept0 ExtOK zfS zg6 zbC scal retV)
set_option linter.unusedVariables false
theorem hf35 : Tryd.prog.funcs[35]? = some Tryd.f35 := by kernel_rfl
theorem hn35 : Tryd.f35.ntmps = 28 := by kernel_rfl
theorem u45 : Tryd.prog.underlying 62 = some (.slice 5) := by kernel_rfl
theorem u5 : Tryd.prog.underlying 5 = some (.int .u8) := by kernel_rfl
theorem u9 : Tryd.prog.underlying 9 = some .string := by kernel_rfl
theorem znb (w : World) (b : Int) (h0 : 0 ≤ b) (h1 : b < 256) : (convert 62 9 (.slice (some ⟨w.heap.size, 0, none⟩) 1 1)).run Tryd.prog (w.alloc (.cells #[.int .u8 b] 5)) = .ok (.string ⟨#[UInt8.ofNat b.toNat]⟩) (w.alloc (.cells #[.int .u8 b] 5)) := by
 have := run_convert_bytes_back (P := Tryd.prog) (w.alloc (.cells #[.int .u8 b] 5)) 62 9 5 ⟨w.heap.size, 0, none⟩ 1 [UInt8.ofNat b.toNat] u45 u5 u9 (fun j hj => by
  have : j = 0 := by simpa using hj
  subst this
  have hb : ((UInt8.ofNat b.toNat).toNat : Int) = b := by
   rw [UInt8.toNat_ofNat']
   omega
  show (w.alloc (.cells #[.int .u8 b] 5)).cell? ⟨w.heap.size, 0, none⟩ = some (.int .u8 ((UInt8.ofNat b.toNat).toNat : Int))
  rw [World.cell?_alloc_mark, hb]
  rfl)
 exact this
set_option maxRecDepth 100000 in
set_option maxHeartbeats 2000000 in
theorem ziu (n : Int) (h0 : 0 ≤ n) (h9 : n < 10) (w : World) :
 Calls Tryd.prog 35 #[.int .i64 n] w fun e w' => e = .returned (.string ⟨#[UInt8.ofNat (48 + n).toNat]⟩) ∧ Kept0 w w' := by
 have kc := fun w : World => znb w (48 + n) (by omega) (by omega)
 go_enter hf35, hn35
 unfold Tryd.f35
 go_wp2
 refine bodyPost_ret (v := .string ⟨#[UInt8.ofNat (48 + n).toNat]⟩) (by simp [results, go_sem]) rfl ?_
 exact ⟨rfl, Kept0.alloc w _⟩
theorem zmP (W : World) (g : Nat) (b : Int) (h0 : 0 ≤ b) (h1 : b < 256) (hc : W.cell? ⟨g, 0, none⟩ = some (.int .u8 b)) : (convert 62 9 (.slice (some ⟨g, 0, none⟩) 1 1)).run Tryd.prog W = .ok (.string ⟨#[UInt8.ofNat b.toNat]⟩) W := by
 have := run_convert_bytes_back (P := Tryd.prog) W 62 9 5 ⟨g, 0, none⟩ 1 [UInt8.ofNat b.toNat] u45 u5 u9 (fun j hj => by
  have : j = 0 := by simpa using hj
  subst this
  have hb : ((UInt8.ofNat b.toNat).toNat : Int) = b := by
   rw [UInt8.toNat_ofNat']
   omega
  show W.cell? ⟨g, 0, none⟩ = some (.int .u8 ((UInt8.ofNat b.toNat).toNat : Int))
  rw [hc, hb])
 exact this
theorem zj1 {W w' : World} {g : Nat} {v : Value} (hc : W.cell? ⟨g, 0, none⟩ = some v) (hg : g < W.heap.size) (hk : Kept0 W w') : w'.cell? ⟨g, 0, none⟩ = some v := by
 have h1 := hk.keep g hg
 unfold World.cell? at hc ⊢
 rw [h1]
 exact hc
set_option maxRecDepth 100000 in
set_option maxHeartbeats 2000000 in
theorem zma (n : Int) (h0 : 10 ≤ n) (h9 : n ≤ 9223372036854775807) (q : ByteArray) (hq : ∀ w, Calls Tryd.prog 35 #[.int .i64 (IntKind.i64.wrap (n.tdiv 10))] w fun e w' => e = .returned (.string q) ∧ Kept0 w w') (hsz : q.size ≤ 30) (w : World) :
 Calls Tryd.prog 35 #[.int .i64 n] w fun e w' => e = .returned (.string (q ++ ⟨#[UInt8.ofNat (IntKind.u8.wrap (IntKind.i64.wrap (48 + n.tmod 10))).toNat]⟩)) ∧ Kept0 w w' := by
 have hm0 := Int.tmod_nonneg 10 (show 0 ≤ n by omega)
 have hm1 := Int.tmod_lt_of_pos n (show 0 < 10 by omega)
 have hb : IntKind.u8.wrap (IntKind.i64.wrap (48 + n.tmod 10)) = 48 + n.tmod 10 := by simp [IntKind.wrap, IntKind.bits, IntKind.signed]; omega
 have hb0 : 0 ≤ IntKind.u8.wrap (IntKind.i64.wrap (48 + n.tmod 10)) := by rw [hb]; omega
 have hb1 : IntKind.u8.wrap (IntKind.i64.wrap (48 + n.tmod 10)) < 256 := by rw [hb]; omega
 have kc := fun w : World => znb w (IntKind.u8.wrap (IntKind.i64.wrap (48 + n.tmod 10))) hb0 hb1
 have kc2 : ∀ w : World, (convert 62 9 (.slice (some ⟨w.heap.size, 0, none⟩) 1 1)).run Tryd.prog (w.alloc (.cells #[.int .u8 (IntKind.u8.wrap (IntKind.i64.wrap (48 + n.tmod 10)))] 5)).drew = .ok (.string ⟨#[UInt8.ofNat (IntKind.u8.wrap (IntKind.i64.wrap (48 + n.tmod 10))).toNat]⟩) (w.alloc (.cells #[.int .u8 (IntKind.u8.wrap (IntKind.i64.wrap (48 + n.tmod 10)))] 5)).drew := fun w => zmP _ _ _ hb0 hb1 (by show (World.alloc _ _).cell? _ = _; rw [World.cell?_alloc_mark]; rfl)
 have hs2 : ¬ (9223372036854775807 < (q.size : Int) + 1) := by omega
 have hs3 : ¬ (9223372036854775807 < q.size + 1) := by omega
 clear hb
 go_enter hf35, hn35
 unfold Tryd.f35
 go_wp2
 go_region_with (go_at_call 35; refine (hq _).mono ?_; rintro e w' ⟨rfl, hk⟩; try (have kd : (convert 62 9 (.slice (some ⟨w.heap.size, 0, none⟩) 1 1)).run Tryd.prog w' = .ok (.string ⟨#[UInt8.ofNat (IntKind.u8.wrap (IntKind.i64.wrap (48 + n.tmod 10))).toNat]⟩) w' := zmP _ _ _ hb0 hb1 (zj1 (by first | (rw [World.cell?_alloc_mark]; rfl) | (show (World.alloc _ _).cell? _ = _; rw [World.cell?_alloc_mark]; rfl) | (go_simp; done) | (simp; done)) (by first | (simp; done) | (show _ < (World.alloc _ _).heap.size; simp; done)) hk)))
 all_goals (try go_wp2)
 all_goals (refine bodyPost_ret (v := .string (q ++ ⟨#[UInt8.ofNat (IntKind.u8.wrap (IntKind.i64.wrap (48 + n.tmod 10))).toNat]⟩)) (by first | (simp [results, go_sem]; done) | rfl) rfl ?_)
 all_goals refine ⟨rfl, ?_⟩
 all_goals first
  | exact (Kept0.drew w).trans (hk.trans (Kept0.alloc _ _))
  | exact (Kept0.alloc w _).trans ((Kept0.drew _).trans hk)
  | exact (Kept0.alloc w _).trans hk
  | exact ((Kept0.drew w).trans (Kept0.alloc _ _)).trans hk
  | exact ((Kept0.drew w).trans (Kept0.alloc _ _)).trans ((Kept0.drew _).trans hk)
  | trace_state
theorem zf8 : ∀ (k u : Nat), u < 10 ^ (k + 1) → (Lib.decDigits u).length ≤ k + 1
 | 0, u, h => by
   rw [Lib.decDigits, dif_pos (by simpa using h)]
   simp
 | k + 1, u, h => by
   rw [Lib.decDigits]
   split
   · simp
   · have h2 : u / 10 < 10 ^ (k + 1) := by
      rw [Nat.div_lt_iff_lt_mul (by omega)]
      rw [Nat.pow_succ] at h
      exact h
     have := zf8 k (u / 10) h2
     simp
     omega
theorem zlz : ∀ (m : Nat) (n : Int), 0 ≤ n → n.toNat ≤ m → n ≤ 9223372036854775807 → ∀ w : World, Calls Tryd.prog 35 #[.int .i64 n] w fun e w' => e = .returned (.string ⟨(Lib.decDigits n.toNat).toArray⟩) ∧ Kept0 w w' := by
 intro m
 induction m with
 | zero =>
   intro n h0 hm h1 w
   have : n = 0 := by omega
   subst this
   have := ziu 0 (by omega) (by omega) w
   rw [show (Lib.decDigits (0 : Int).toNat).toArray = #[UInt8.ofNat (48 + 0 : Int).toNat] by rw [Lib.decDigits, dif_pos (by decide)]; rfl]
   exact this
 | succ m ih =>
   intro n h0 hm h1 w
   by_cases h9 : n < 10
   · have := ziu n h0 h9 w
     rw [Lib.decDigits, dif_pos (by omega), show 48 + n.toNat = (48 + n).toNat by omega]
     exact this
   · have hq : IntKind.i64.wrap (n.tdiv 10) = n / 10 := by
      rw [Int.tdiv_eq_ediv_of_nonneg (by omega)]
      simp [IntKind.wrap, IntKind.bits, IntKind.signed]; omega
     have hqn : (n / 10).toNat = n.toNat / 10 := by omega
     have h30 : (10 : Nat) ^ (29 + 1) = 1000000000000000000000000000000 := by decide
     have hl : (Lib.decDigits (n.toNat / 10)).length ≤ 30 := zf8 29 _ (by rw [h30]; omega)
     have := zma n (by omega) h1 ⟨(Lib.decDigits (n.toNat / 10)).toArray⟩ (fun w => by
      rw [hq]
      have := ih (n / 10) (by omega) (by omega) (by omega) w
      rw [hqn] at this
      exact this) (by show (Lib.decDigits (n.toNat / 10)).toArray.size ≤ 30; simpa using hl) w
     have hb : IntKind.u8.wrap (IntKind.i64.wrap (48 + n.tmod 10)) = 48 + n % 10 := by
      rw [Int.tmod_eq_emod_of_nonneg (by omega)]
      simp [IntKind.wrap, IntKind.bits, IntKind.signed]; omega
     have hd : Lib.decDigits n.toNat = Lib.decDigits (n.toNat / 10) ++ [UInt8.ofNat (48 + n.toNat % 10)] := by
      rw [Lib.decDigits, dif_neg (by omega)]
     have e : (⟨(Lib.decDigits (n.toNat / 10)).toArray⟩ : ByteArray) ++ ⟨#[UInt8.ofNat (IntKind.u8.wrap (IntKind.i64.wrap (48 + n.tmod 10))).toNat]⟩ = ⟨(Lib.decDigits n.toNat).toArray⟩ := by
      rw [hb, hd, show (48 + n % 10).toNat = 48 + n.toNat % 10 by omega]
      apply ByteArray.ext
      simp
     rw [e] at this
     exact this
set_option maxRecDepth 100000 in
set_option maxHeartbeats 2000000 in
theorem znt (n : Int) (h0 : n < 0) (h1 : -9223372036854775808 < n) (w : World) : Calls Tryd.prog 35 #[.int .i64 n] w fun e w' => e = .returned (.string (⟨#[45]⟩ ++ ⟨(Lib.decDigits (-n).toNat).toArray⟩)) ∧ Kept0 w w' := by
 have hc := fun w => zlz _ (-n) (by omega) (Nat.le_refl _) (by omega) w
 have h30 : (10 : Nat) ^ (29 + 1) = 1000000000000000000000000000000 := by decide
 have hl : (Lib.decDigits (-n).toNat).length ≤ 30 := zf8 29 _ (by rw [h30]; omega)
 have hs : (⟨(Lib.decDigits (-n).toNat).toArray⟩ : ByteArray).size ≤ 30 := by show (Lib.decDigits (-n).toNat).toArray.size ≤ 30; simpa using hl
 generalize (⟨(Lib.decDigits (-n).toNat).toArray⟩ : ByteArray) = q at *
 have hw : IntKind.i64.wrap (-n) = -n := by simp [IntKind.wrap, IntKind.bits, IntKind.signed]; omega
 have hw2 : IntKind.i64.wrap (0 - n) = -n := by rw [Int.zero_sub]; exact hw
 have hs2 : ¬ (9223372036854775807 < 1 + q.size) := by omega
 have hs3 : ¬ (9223372036854775807 < 1 + (q.size : Int)) := by omega
 go_enter hf35, hn35
 unfold Tryd.f35
 go_wp2_with (go_at_call 35; (try rw [hw2]); (try rw [hw]); refine (hc _).mono ?_; rintro e w' ⟨rfl, hk⟩)
 refine bodyPost_ret (v := .string (⟨#[45]⟩ ++ q)) (by first | (simp [results, go_sem]; done) | rfl) rfl ?_
 exact ⟨rfl, hk⟩
def decF : Nat → Nat → List UInt8
 | 0, u => []
 | k + 1, u => if u < 10 then [UInt8.ofNat (48 + u)] else decF k (u / 10) ++ [UInt8.ofNat (48 + u % 10)]
theorem zlv : ∀ (k u : Nat), u < 10 ^ (k + 1) → Lib.decDigits u = decF (k + 1) u
 | 0, u, h => by
   rw [Lib.decDigits, dif_pos (by simpa using h)]
   simp only [decF]
   rw [if_pos (by simpa using h)]
 | k + 1, u, h => by
   rw [Lib.decDigits]
   unfold decF
   split
   · rfl
   · rename_i h1
     have h2 : u / 10 < 10 ^ (k + 1) := by
      rw [Nat.div_lt_iff_lt_mul (by omega)]
      rw [Nat.pow_succ] at h
      exact h
     rw [zlv k (u / 10) h2]
theorem zmb : (⟨(Lib.itoa (-9223372036854775808)).toArray⟩ : ByteArray) = ⟨#[45, 57, 50, 50, 51, 51, 55, 50, 48, 51, 54, 56, 53, 52, 55, 55, 53, 56, 48, 56]⟩ := by
 have h : Lib.itoa (-9223372036854775808) = 45 :: Lib.decDigits 9223372036854775808 := by
  unfold Lib.itoa
  rw [if_pos (by decide)]
  rfl
 rw [h, zlv 20 9223372036854775808 (by decide)]
 rfl
set_option maxRecDepth 100000 in
set_option maxHeartbeats 2000000 in
theorem zna (w : World) : Calls Tryd.prog 35 #[.int .i64 (-9223372036854775808)] w fun e w' => e = .returned (.string ⟨#[45, 57, 50, 50, 51, 51, 55, 50, 48, 51, 54, 56, 53, 52, 55, 55, 53, 56, 48, 56]⟩) ∧ Kept0 w w' := by
 go_enter hf35, hn35
 unfold Tryd.f35
 go_wp2
 refine bodyPost_ret (v := .string ⟨#[45, 57, 50, 50, 51, 51, 55, 50, 48, 51, 54, 56, 53, 52, 55, 55, 53, 56, 48, 56]⟩) (by first | (simp [results, go_sem]; done) | rfl) rfl ?_
 exact ⟨rfl, Kept0.refl w⟩
def num (n : Int) : ByteArray := ⟨(Lib.itoa n).toArray⟩
def numV : List Value → Option (List Value)
 | [.int .i64 n] => if -9223372036854775808 ≤ n ∧ n ≤ 9223372036854775807 then some [.string (num n)] else none
 | _ => none
theorem zm7 (n : Int) (h0 : -9223372036854775808 ≤ n) (h1 : n ≤ 9223372036854775807) (w : World) : Calls Tryd.prog 35 #[.int .i64 n] w fun e w' => e = .returned (.string (num n)) ∧ Kept0 w w' := by
 by_cases hn : n < 0
 · by_cases hm : n = -9223372036854775808
   · subst hm
     unfold num
     rw [zmb]
     exact zna w
   · have := znt n hn (by omega) w
     have e : (⟨#[45]⟩ : ByteArray) ++ ⟨(Lib.decDigits (-n).toNat).toArray⟩ = num n := by
      unfold num Lib.itoa
      rw [if_pos hn, show n.natAbs = (-n).toNat by omega]
      apply ByteArray.ext
      simp
     rw [e] at this
     exact this
 · have := zlz _ n (by omega) (Nat.le_refl _) h1 w
   unfold num Lib.itoa
   rw [if_neg hn]
   exact this
theorem l1_calls (vs rs : List Value) (W : World) (h : numV vs = some rs) : rs ≠ [] ∧ (∀ r ∈ rs, scal r = true) ∧ Calls Tryd.prog 35 vs.toArray W fun e w' => ∃ v, e = .returned v ∧ (v = retV rs ∧ Kept0 W w') := by
 unfold numV at h
 split at h
 · rename_i n
   split at h
   · rename_i hn
     cases h
     refine ⟨by simp, fun r hr => (by rw [List.mem_singleton] at hr; subst hr; rfl), (zm7 n hn.1 hn.2 W).mono fun e w' he => ?_⟩
     obtain ⟨rfl, hk⟩ := he
     exact ⟨_, rfl, rfl, hk⟩
   · cases h
 · cases h
theorem zjY (w : World) (k : Nat) (os : Array Obj) : Kept0 w (Sort.grow (w.drewN k) os) :=
 ⟨rfl, rfl, rfl, by show (w.drewN k).heap.size ≤ ((w.drewN k).heap ++ os).size; simp, fun g hg => by
  show ((w.drewN k).heap ++ os)[g]? = _
  rw [Array.getElem?_append_left (by exact hg)]
  rfl⟩
def TabAt (B : Nat → Option Obj) : Prop := ∀ W : World, (∀ (g : Nat) (o : Obj), B g = some o → W.heap[g]? = some o) → Lib.TabIs Tryd.prog W "internal/strconv.uint64pow10" .u64 Lib.pow10Tab
noncomputable def ze7 (P : Program) (W : World) (n : String) (g : Nat) : Option Obj := if P.globalNamed n = some g then W.heap[g]? else none
theorem zkT {P : Program} {W : World} {n : String} {g : Nat} {o : Obj} (h : ze7 P W n g = some o) : W.heap[g]? = some o := by
 unfold ze7 at h
 split at h
 · exact h
 · cases h
theorem zkE {W : World} (h : Lib.TabIs Tryd.prog W "internal/strconv.uint64pow10" .u64 Lib.pow10Tab) : TabAt (ze7 Tryd.prog W "internal/strconv.uint64pow10") := fun W' hW => by
 unfold Lib.TabIs World.var? at *
 cases hg : Tryd.prog.globalNamed "internal/strconv.uint64pow10" with
 | none => rw [hg] at h; cases h
 | some g =>
   rw [hg] at h
   simp only [Option.bind_some] at h ⊢
   cases ho : W.heap[g]? with
   | none => rw [ho] at h; cases h
   | some o =>
     have := hW g o (by unfold ze7; rw [if_pos hg]; exact ho)
     rw [this]
     rw [ho] at h
     exact h
end Go.Proofs.YtmoocdlfclhgcaaDoor
namespace Go.Proofs.YtmoocdlfclhgcaaDoor
open Go Go.RowKit Go.Proofs
set_option linter.unusedVariables false
theorem hf38 : Tryd.prog.funcs[38]? = some Tryd.f38 := by kernel_rfl
theorem hn38 : Tryd.f38.ntmps = 20 := by kernel_rfl
theorem hf31 : Tryd.prog.funcs[31]? = some Tryd.f31 := by kernel_rfl
theorem hn31 : Tryd.f31.ntmps = 19 := by kernel_rfl
theorem ub61 : Tryd.prog.underlying 61 = some (.pointer 64) := by kernel_rfl
theorem ub83 : Tryd.prog.underlying 83 = some .unsafePointer := by kernel_rfl
theorem ub62 : Tryd.prog.underlying 62 = some (.slice 5) := by kernel_rfl
theorem ub9 : Tryd.prog.underlying 9 = some .string := by kernel_rfl
theorem zmF : (Tryd.prog.info? 64).map (·.size) = some 2 := by kernel_rfl
theorem liesB : liesAt Tryd.prog Tryd.prog.depth 64 (2 / Tryd.prog.cellsOf 64) 0 64 1 = true := by kernel_rfl
theorem infoY : (Tryd.prog.info? 5).map (fun i => (i.zero, i.size, i.bytes)) = some (some (.int .u8 0), 1, 1) := by kernel_rfl
theorem hf43 : Tryd.prog.funcs[43]? = some Tryd.f43 := by kernel_rfl
set_option maxHeartbeats 1000000 in
set_option maxRecDepth 100000 in
theorem zl7 (b : Nat) (w : World) (h0 : w.cell? ⟨b, 0, none⟩ = some (.pointer (some ⟨b, 0, none⟩))) :
 Calls Tryd.prog 38 #[.pointer (some ⟨b, 0, none⟩)] w fun e w' => e = .returned (.tuple #[]) ∧ w' = w := by
 obtain ⟨j, hj, _⟩ := Option.map_eq_some_iff.1 zmF
 go_enter hf38, hn38
 unfold Tryd.f38
 go_wp2
 rw [Lib.run_neq_ptr_same w _ ub61 hj]
 go_wp2
 go_end0
 exact ⟨rfl, rfl⟩
set_option maxHeartbeats 1000000 in
set_option maxRecDepth 100000 in
theorem zlh (b : Nat) (w : World) (h0 : w.cell? ⟨b, 0, none⟩ = some (.pointer none)) (hsh : w.shape? b = some (64, 2)) (hfz : w.frozen? ⟨b, 0, none⟩ = false) :
 Calls Tryd.prog 38 #[.pointer (some ⟨b, 0, none⟩)] w fun e w' => e = .returned (.tuple #[]) ∧ w' = w.setCell ⟨b, 0, none⟩ (.pointer (some ⟨b, 0, none⟩)) := by
 obtain ⟨j, hj, hjs⟩ := Option.map_eq_some_iff.1 zmF
 go_enter hf38, hn38
 unfold Tryd.f38
 go_wp2
 rw [Lib.run_to_unsafe w ⟨b, 0, none⟩ ub61 ub83 hj (by rw [hjs]; decide) hsh (Nat.zero_lt_succ 1)]
 simp only [Result.andThen]
 rw [Oper.upon_value]
 go_wp2
 rw [run_callFunc_extern hf43 (by kernel_rfl) (by kernel_rfl) (by kernel_rfl) (e := Extern.AbiNoEscape.same) (by kernel_rfl)]
 rw [Lib.run_noEscape]
 simp only [Result.andThen]
 rw [Oper.upon_value]
 go_wp2
 rw [Lib.run_from_unsafe w ⟨b, 0, none⟩ ub83 ub61 hj hsh liesB]
 simp only [Result.andThen]
 rw [Oper.upon_value]
 go_wp2
 go_end0
 exact ⟨rfl, rfl⟩
def Oth (b : Nat) (w w' : World) : Prop := ∀ (g : Nat) (cs : Array Value) (T : TypeId) (fr : Nat × Nat), T ≠ 5 → g ≠ b → w.heap[g]? = some (.cells cs T fr) → w'.heap[g]? = some (.cells cs T fr)
theorem cc (B b : Nat) (bs : List Value) (w : World) (h : Lib.IsBuilder 64 5 B b bs w) :
 Calls Tryd.prog 38 #[.pointer (some ⟨b, 0, none⟩)] w fun e w' => e = .returned (.tuple #[]) ∧ (Lib.BuilderAt 64 5 B b (.pointer (some ⟨b, 0, none⟩)) bs w' ∧ Below B w w' ∧ Oth b w w') := by
 rcases h with h | h
 · refine (zlh b w h.cell0 h.shape h.frozen0).mono ?_
   rintro e w' ⟨rfl, rfl⟩
   exact ⟨rfl, h.used _, (Below.refl B w).setCell (p := ⟨b, 0, none⟩) h.1 _, fun g cs T fr _ hg hc => by rw [Below.heap_setCell _ _ _ _ hg]; exact hc⟩
 · refine (zl7 b w h.cell0).mono ?_
   rintro e w' ⟨rfl, rfl⟩
   exact ⟨rfl, h, Below.refl B _, fun g cs T fr _ _ hc => hc⟩
set_option maxHeartbeats 2000000 in
set_option maxRecDepth 100000 in
theorem ws (B b : Nat) (bs : List Value) (s : ByteArray) (w : World) (h : Lib.IsBuilder 64 5 B b bs w) (hlen : bs.length + s.size ≤ 140737488355328) (hBw : B ≤ w.heap.size) :
 Calls Tryd.prog 31 #[.pointer (some ⟨b, 0, none⟩), .string s] w fun e w' => e = .returned (.tuple #[.int .i64 s.size, .nilIface]) ∧ (Lib.BuilderAt 64 5 B b (.pointer (some ⟨b, 0, none⟩)) (bs ++ Lib.strCells s) w' ∧ Below B w w' ∧ Oth b w w') := by
 obtain ⟨i0, hi, hz0, hz1, hz2⟩ := info_parts infoY
 go_enter hf31, hn31
 unfold Tryd.f31
 go_wp2_with (go_at_call 38; refine (cc B b bs _ h).mono ?_)
 rintro e w1 ⟨rfl, h1, hb1, ho1⟩
 obtain ⟨hB, v, hbk, hown, hne⟩ := h1
 have c0 : w1.cell? ⟨b, 0, none⟩ = some (.pointer (some ⟨b, 0, none⟩)) := by rw [Lib.cell_of_heap hbk]; rfl
 have c1 : w1.cell? ⟨b, 1, none⟩ = some v := by rw [Lib.cell_of_heap hbk]; rfl
 go_wp2_with (at_builtin; refine Lib.wpList_append_own_string _ rfl _ _ 62 9 rfl B 5 i0 ub62 ub9 hi hz0 hz1 hz2 _ _ _ rfl hown s rfl ?c3 ?c4 ?c5 ?_)
 case c3 => unfold maxLen; omega
 case c4 => omega
 case c5 => have := hb1.size; omega
 intro v' w2 hown' hgrow _
 have hlt : b < w1.heap.size := by
  rcases Nat.lt_or_ge b w1.heap.size with h' | h'
  · exact h'
  · simp [Array.getElem?_eq_none h'] at hbk
 have hb2 : w2.heap[b]? = some (.cells #[.pointer (some ⟨b, 0, none⟩), v] 64 (0, 0)) := by
  rw [hgrow.block b hlt (fun e => hne e.symm)]
  exact hbk
 have d0 : w2.cell? ⟨b, 0, none⟩ = some (.pointer (some ⟨b, 0, none⟩)) := by rw [Lib.cell_of_heap hb2]; rfl
 have d1 : w2.cell? ⟨b, 1, none⟩ = some v := by rw [Lib.cell_of_heap hb2]; rfl
 have f1 : w2.frozen? ⟨b, 1, none⟩ = false := Lib.frozen_of_heap hb2 1
 obtain ⟨ao, n', cap, rfl⟩ : ∃ ao n' cap, v' = .slice ao n' cap := by
  rcases hown'.2 with ⟨hv, _⟩ | ⟨g, cap, cur, hv, _⟩
  · exact ⟨_, _, _, hv⟩
  · exact ⟨_, _, _, hv⟩
 go_wp2
 go_ret2
 refine ⟨rfl, ?_, ?_, fun g cs T fr hT hg hc => ?_⟩
 · exact Lib.BuilderAt.put (T := 64) (e := 5) hB hb2 (bs' := bs ++ Lib.strCells s) (by simpa [Lib.strCells_length] using hown') (by decide)
 · exact (hb1.grown hgrow (by have := hb1.size; omega) (fun k hk => (hown.lt k hk).1)).setCell (p := ⟨b, 1, none⟩) hB _
 · have hc1 := ho1 g cs T fr hT hg hc
   have hlt1 : g < w1.heap.size := by
    rcases Nat.lt_or_ge g w1.heap.size with h' | h'
    · exact h'
    · simp [Array.getElem?_eq_none h'] at hc1
   rw [Below.heap_setCell _ _ _ _ hg, hgrow.block g hlt1 (fun e => Lib.ownBlock_ne hown hc1 hT e.symm)]
   exact hc1
end Go.Proofs.YtmoocdlfclhgcaaDoor
namespace Go.Proofs.YtmoocdlfclhgcaaDoor
open Go Go.RowKit Go.Proofs
set_option linter.unusedVariables false
theorem hf30 : Tryd.prog.funcs[30]? = some Tryd.f30 := by kernel_rfl
theorem hn30 : Tryd.f30.ntmps = 33 := by kernel_rfl
theorem hf29 : Tryd.prog.funcs[29]? = some Tryd.f29 := by kernel_rfl
theorem hn29 : Tryd.f29.ntmps = 6 := by kernel_rfl
theorem hf28 : Tryd.prog.funcs[28]? = some Tryd.f28 := by kernel_rfl
theorem hn28 : Tryd.f28.ntmps = 9 := by kernel_rfl
theorem hf36 : Tryd.prog.funcs[36]? = some Tryd.f36 := by kernel_rfl
theorem hn36 : Tryd.f36.ntmps = 19 := by kernel_rfl
theorem hf19 : Tryd.prog.funcs[19]? = some Tryd.f19 := by kernel_rfl
theorem hn19 : Tryd.f19.ntmps = 37 := by kernel_rfl
abbrev vI (op a : Int) (t : ByteArray) : Value := .agg #[.int .i64 op, .int .i64 a, .string t]
def okI (op a : Int) (t : ByteArray) : Bool := decide (1 ≤ op) && (decide (op ≤ 13) && (decide (0 ≤ a) && (decide (a ≤ 100000) && (decide ((t.size : Int) ≤ 1500) && !decide (0 ≤ Lib.indexByte t.data.toList 10)))))
set_option maxHeartbeats 1000000 in
set_option maxRecDepth 100000 in
theorem isI (op a : Int) (t : ByteArray) (w : World) :
 Calls Tryd.prog 30 #[vI op a t] w fun e w' => e = .returned (.bool (okI op a t)) ∧ Below w.heap.size w w' := by
 by_cases c0 : 1 ≤ op
 · have d0 : decide (1 ≤ op) = true := decide_eq_true c0
   by_cases c1 : op ≤ 13
   · have d1 : decide (op ≤ 13) = true := decide_eq_true c1
     by_cases c2 : 0 ≤ a
     · have d2 : decide (0 ≤ a) = true := decide_eq_true c2
       by_cases c3 : a ≤ 100000
       · have d3 : decide (a ≤ 100000) = true := decide_eq_true c3
         by_cases c4 : (t.size : Int) ≤ 1500
         · have d4 : decide ((t.size : Int) ≤ 1500) = true := decide_eq_true c4
           go_enter hf30, hn30
           unfold Tryd.f30
           go_wp2_with (go_at_call 37; refine (Tryd.strings_Contains_one t 10 _).mono ?_; rintro e w' ⟨rfl, rfl⟩)
           try go_wp2
           go_ret
           refine ⟨by simp [okI, d0, d1, d2, d3, d4], (Below.refl _ _).alloc (Nat.le_refl _) _⟩
         · have d4 : decide ((t.size : Int) ≤ 1500) = false := decide_eq_false c4
           go_enter hf30, hn30
           unfold Tryd.f30
           go_wp2_with (go_at_call 37; refine (Tryd.strings_Contains_one t 10 _).mono ?_; rintro e w' ⟨rfl, rfl⟩)
           try go_wp2
           go_ret
           refine ⟨by simp [okI, d0, d1, d2, d3, d4], (Below.refl _ _).alloc (Nat.le_refl _) _⟩
       · have d3 : decide (a ≤ 100000) = false := decide_eq_false c3
         go_enter hf30, hn30
         unfold Tryd.f30
         go_wp2_with (go_at_call 37; refine (Tryd.strings_Contains_one t 10 _).mono ?_; rintro e w' ⟨rfl, rfl⟩)
         try go_wp2
         go_ret
         refine ⟨by simp [okI, d0, d1, d2, d3], (Below.refl _ _).alloc (Nat.le_refl _) _⟩
     · have d2 : decide (0 ≤ a) = false := decide_eq_false c2
       go_enter hf30, hn30
       unfold Tryd.f30
       go_wp2_with (go_at_call 37; refine (Tryd.strings_Contains_one t 10 _).mono ?_; rintro e w' ⟨rfl, rfl⟩)
       try go_wp2
       go_ret
       refine ⟨by simp [okI, d0, d1, d2], (Below.refl _ _).alloc (Nat.le_refl _) _⟩
   · have d1 : decide (op ≤ 13) = false := decide_eq_false c1
     go_enter hf30, hn30
     unfold Tryd.f30
     go_wp2_with (go_at_call 37; refine (Tryd.strings_Contains_one t 10 _).mono ?_; rintro e w' ⟨rfl, rfl⟩)
     try go_wp2
     go_ret
     refine ⟨by simp [okI, d0, d1], (Below.refl _ _).alloc (Nat.le_refl _) _⟩
 · have d0 : decide (1 ≤ op) = false := decide_eq_false c0
   go_enter hf30, hn30
   unfold Tryd.f30
   go_wp2_with (go_at_call 37; refine (Tryd.strings_Contains_one t 10 _).mono ?_; rintro e w' ⟨rfl, rfl⟩)
   try go_wp2
   go_ret
   refine ⟨by simp [okI, d0], (Below.refl _ _).alloc (Nat.le_refl _) _⟩
set_option maxHeartbeats 1000000 in
set_option maxRecDepth 100000 in
theorem notI (op a : Int) (t : ByteArray) (w : World) :
 Calls Tryd.prog 29 #[vI op a t] w fun e w' => e = .returned (.bool (!okI op a t)) ∧ Below w.heap.size w w' := by
 go_enter hf29, hn29
 unfold Tryd.f29
 go_wp2_with (go_at_call 30; refine (isI op a t _).mono ?_; rintro e w' ⟨rfl, hb⟩)
 go_ret
 refine ⟨rfl, ?_⟩
 exact ((Below.refl _ _).alloc (Nat.le_refl _) _).trans (hb.mono (by rw [World.size_alloc]; omega))
structure Ins where
 op : Int
 a : Int
 t : ByteArray
def Ins.ok (x : Ins) : Bool := okI x.op x.a x.t
def RowI (w : World) (b o : Nat) (l : List Ins) : Prop := ∀ (j : Nat) (x : Ins), l[j]? = some x → w.cell? ⟨b, o + j * 3, none⟩ = some (.int .i64 x.op) ∧ w.cell? ⟨b, o + j * 3 + 1, none⟩ = some (.int .i64 x.a) ∧ w.cell? ⟨b, o + j * 3 + 2, none⟩ = some (.string x.t)
theorem RowI.below {w w' : World} {b o : Nat} {l : List Ins} (h : RowI w b o l) (hb : Below w.heap.size w w') (hlt : b < w.heap.size) : RowI w' b o l := fun j x hx => by
 obtain ⟨h1, h2, h3⟩ := h j x hx
 exact ⟨by rw [hb.cell (p := ⟨b, _, none⟩) hlt]; exact h1, by rw [hb.cell (p := ⟨b, _, none⟩) hlt]; exact h2, by rw [hb.cell (p := ⟨b, _, none⟩) hlt]; exact h3⟩
theorem hidI {p : Prop} (h : p) : Hid p := h
set_option maxHeartbeats 4000000 in
set_option maxRecDepth 100000 in
theorem idxF (A : Option Addr) (b o c : Nat) (l : List Ins) (w : World) (hA : l ≠ [] → A = some ⟨b, o, none⟩ ∧ b < w.heap.size) (hr : RowI w b o l) (hl : l.length ≤ c) (hs : l.length ≤ 1000000) :
 Calls Tryd.prog 36 #[.slice A l.length c, .func (.func 29) #[] #[]] w fun e w' => ∃ r : Int, e = .returned (.int .i64 r) ∧ decide (0 ≤ r) = !l.all Ins.ok ∧ Below w.heap.size w w' := by
 have HR := hidI hr
 clear hr
 go_enter hf36, hn36
 unfold Tryd.f36
 go_wp2
 go_loopw [5, 8] (fun v5 i wr => ∃ k : Nat, k ≤ l.length ∧ i = .int .i64 k ∧ Hid ((l.take k).all Ins.ok = true) ∧ Hid (Below w.heap.size w wr)) (fun _ i _ => l.length - (intOf i).toNat)
 case atStart => exact ⟨0, Nat.zero_le _, rfl, hidI (by simp), hidI (Below.refl _ _)⟩
 case round =>
  obtain ⟨k, hk, rfl, HK, HW⟩ := hrel
  by_cases hkn : k < l.length
  · obtain ⟨x, hx⟩ : ∃ x, l[k]? = some x := ⟨l[k], List.getElem?_eq_getElem hkn⟩
    obtain ⟨rfl, hlt⟩ := hA (fun e => by rw [e] at hkn; exact absurd hkn (Nat.not_lt_zero _))
    obtain ⟨h1, h2, h3⟩ := (HR.out.below HW.out hlt) k x hx
    have hN := (notI x.op x.a x.t wr)
    have hbW : w.heap.size ≤ wr.heap.size := HW.out.size
    cases hq : okI x.op x.a x.t with
    | true =>
      rw [hq] at hN
      have HN := hidI hN
      have HQ : Hid ((l.take (k + 1)).all Ins.ok = true) := hidI (by rw [List.take_add_one, hx, List.all_append, HK.out]; simp [Ins.ok, hq])
      clear hN hq hx
      go_wp2_with fail
      refine HN.out.mono ?_
      rintro e w2 ⟨rfl, hb2⟩
      have HB2 := hidI (HW.out.trans (hb2.mono hbW))
      clear hb2
      go_wp2
      exact ⟨⟨k + 1, by omega, by go_num, HQ, HB2⟩, by simp [intOf]; omega⟩
    | false =>
      rw [hq] at hN
      have HN := hidI hN
      have HQ : Hid (l.all Ins.ok = false) := hidI (by
       rw [← Bool.not_eq_true, List.all_eq_true]
       intro h
       have := h x (List.mem_of_getElem? hx)
       unfold Ins.ok at this
       rw [hq] at this
       cases this)
      clear hN hq hx
      go_wp2_with fail
      refine HN.out.mono ?_
      rintro e w2 ⟨rfl, hb2⟩
      have HB2 := hidI (HW.out.trans (hb2.mono hbW))
      clear hb2
      go_wp2
      go_ret
      exact ⟨k, rfl, by rw [HQ.out]; simp, HB2.out⟩
  · have hke : k = l.length := by omega
    subst hke
    have HQ : Hid (l.all Ins.ok = true) := hidI (by have := HK.out; rwa [List.take_length] at this)
    go_wp2
    go_ret
    exact ⟨-1, rfl, by rw [HQ.out]; rfl, HW.out⟩
set_option maxHeartbeats 4000000 in
set_option maxRecDepth 100000 in
theorem hasF (A : Option Addr) (b o c : Nat) (l : List Ins) (w : World) (hA : l ≠ [] → A = some ⟨b, o, none⟩ ∧ b < w.heap.size) (hr : RowI w b o l) (hl : l.length ≤ c) (hs : l.length ≤ 1000000) :
 Calls Tryd.prog 28 #[.slice A l.length c, .func (.func 29) #[] #[]] w fun e w' => e = .returned (.bool (!l.all Ins.ok)) ∧ Below w.heap.size w w' := by
 have HC := hidI (idxF A b o c l w hA hr hl hs)
 clear hr
 go_enter hf28, hn28
 unfold Tryd.f28
 go_wp2_with fail
 refine HC.out.mono ?_
 rintro e w2 ⟨r, rfl, hd, hb⟩
 have HD := hidI hd
 clear hd
 go_wp2
 go_ret
 exact ⟨by rw [← HD.out]; rfl, hb⟩
theorem zm6 {B0 : Nat → Option Obj} (hB : TabAt B0) (n : Int) (h : -9223372036854775808 ≤ n ∧ n ≤ 9223372036854775807) (W : World) (hW : ∀ (g : Nat) (o : Obj), B0 g = some o → W.heap[g]? = some o) :
 Calls Tryd.prog 32 #[.int .i64 n] W fun e w' => e = .returned (.string (num n)) ∧ Go.Den.Kept0 W w' := (Tryd.strconv_Itoa n h.1 h.2 W (hB W hW)).mono fun e w' he => by
 obtain ⟨rfl, k, os, rfl⟩ := he
 exact ⟨rfl, zjY W k os⟩
theorem zio {B b : Nat} {bs : List Value} {w w' : World} (h : Lib.IsBuilder 64 5 B b bs w) (hk : Go.Den.Kept0 w w') : Lib.IsBuilder 64 5 B b bs w' := by
 have key : ∀ p, Lib.BuilderAt 64 5 B b p bs w → Lib.BuilderAt 64 5 B b p bs w' := fun p h => by
  have hlt := h.lt
  obtain ⟨hB, v, hb, hown, hne⟩ := h
  refine ⟨hB, v, by rw [hk.keep b hlt]; exact hb, ?_, hne⟩
  exact hown.kept (row := none) ⟨hk.os, hk.tape, hk.output, hk.size, fun k hk1 _ => hk.keep k hk1⟩ (by cases v.ownBlock <;> simp)
 exact h.elim (fun h => .inl (key _ h)) fun h => .inr (key _ h)
abbrev S4 (w : World) (g : Nat) (x : Ins) (W : World) : Prop := W.cell? ⟨g, 0, none⟩ = some (.int .i64 x.op) ∧ W.cell? ⟨g, 1, none⟩ = some (.int .i64 x.a) ∧ W.cell? ⟨g, 2, none⟩ = some (.string x.t) ∧ Hid (W.heap[g]? = some (.cells #[.int .i64 x.op, .int .i64 x.a, .string x.t] 41 (0, 0)) ∧ Below w.heap.size w W)
theorem S4.mk {w W : World} {g : Nat} {x : Ins} (h1 : W.heap[g]? = some (.cells #[.int .i64 x.op, .int .i64 x.a, .string x.t] 41 (0, 0))) (h2 : Below w.heap.size w W) : S4 w g x W :=
 ⟨by rw [Lib.cell_of_heap h1]; rfl, by rw [Lib.cell_of_heap h1]; rfl, by rw [Lib.cell_of_heap h1]; rfl, hidI ⟨h1, h2⟩⟩
theorem zfT {w : World} {g : Nat} {o : Obj} (h : w.heap[g]? = some o) : g < w.heap.size := by
 rcases Nat.lt_or_ge g w.heap.size with h' | h'
 · exact h'
 · simp [Array.getElem?_eq_none h'] at h
theorem ziX {w W W' : World} (h : Below w.heap.size w W) (hk : Go.Den.Kept0 W W') : Below w.heap.size w W' :=
 h.trans ⟨hk.os, hk.tape, hk.output, hk.size, fun k hk1 => hk.keep k (Nat.lt_of_lt_of_le hk1 h.size)⟩
theorem S4.kept {w W W' : World} {g : Nat} {x : Ins} (h : S4 w g x W) (hk : Go.Den.Kept0 W W') : S4 w g x W' := by
 obtain ⟨_, _, _, hh⟩ := h
 exact S4.mk (by rw [hk.keep g (zfT hh.out.1)]; exact hh.out.1) (ziX hh.out.2 hk)
theorem S4.oth {w W W' : World} {g b B : Nat} {x : Ins} (h : S4 w g x W) (hb : Below B W W') (ho : Oth b W W') (hB : w.heap.size ≤ B) (hg : g ≠ b) : S4 w g x W' := by
 obtain ⟨_, _, _, hh⟩ := h
 exact S4.mk (ho g _ _ _ (by decide) hg hh.out.1) (hh.out.2.trans (hb.mono hB))
theorem S4.bel {w W : World} {g : Nat} {x : Ins} (h : S4 w g x W) : Below w.heap.size w W := by
 obtain ⟨_, _, _, hh⟩ := h
 exact hh.out.2
theorem zc0 {n : Int} (h0 : 0 ≤ n) (h1 : n ≤ 100000) : (num n).size ≤ 6 := by
 have : Lib.itoa n = Lib.decDigits n.toNat := by unfold Lib.itoa; rw [if_neg (by omega)]
 unfold num
 rw [this]
 show (Lib.decDigits n.toNat).toArray.size ≤ 6
 have := zf8 5 n.toNat (by omega)
 simpa using this
def zeS (x : Ins) : ByteArray := ((((num x.op ++ ⟨#[32]⟩) ++ num x.a) ++ ⟨#[32]⟩) ++ x.t) ++ ⟨#[10]⟩
def zbx (l : List Ins) : List UInt8 := l.flatMap fun x => (zeS x).data.toList
theorem zdz {x : Ins} (h : x.ok = true) : (zeS x).size ≤ 1600 := by
 unfold Ins.ok okI at h
 simp only [Bool.and_eq_true, decide_eq_true_eq] at h
 have h1 := zc0 (n := x.op) (by omega) (by omega)
 have h2 := zc0 (n := x.a) (by omega) (by omega)
 have e1 : (⟨#[32]⟩ : ByteArray).size = 1 := rfl
 have e2 : (⟨#[10]⟩ : ByteArray).size = 1 := rfl
 unfold zeS
 simp only [ByteArray.size_append, e1, e2]
 omega
theorem zho : ∀ l : List Ins, l.all Ins.ok = true → (zbx l).length ≤ 1600 * l.length
 | [], _ => by simp [zbx]
 | x :: l, h => by
   rw [List.all_cons, Bool.and_eq_true] at h
   have h1 := zho l h.2
   have h2 := zdz h.1
   have e : (zbx (x :: l)).length = (zeS x).size + (zbx l).length := by unfold zbx; rw [List.flatMap_cons, List.length_append]; rfl
   rw [e, List.length_cons]
   omega
theorem zi3 {l : List Ins} {k : Nat} {x : Ins} (h : l[k]? = some x) : zbx (l.take (k + 1)) = zbx (l.take k) ++ (zeS x).data.toList := by
 unfold zbx
 rw [List.take_add_one, h, List.flatMap_append]
 simp
def okT (l : List Ins) : Bool := decide (l.length ≤ 3000) && l.all Ins.ok
set_option maxHeartbeats 8000000 in
set_option maxRecDepth 100000 in
theorem ct_ok {B0 : Nat → Option Obj} (hB : TabAt B0) (A : Option Addr) (b o c : Nat) (l : List Ins) (w : World) (hA : l ≠ [] → A = some ⟨b, o, none⟩ ∧ b < w.heap.size) (hr : RowI w b o l) (hl : l.length ≤ c) (hs : l.length ≤ 3000) (hok : l.all Ins.ok = true) (hW : ∀ (g : Nat) (o : Obj), B0 g = some o → w.heap[g]? = some o) :
 Calls Tryd.prog 19 #[.slice A l.length c] w fun e w' => e = .returned (.tuple #[.string ⟨(zbx l).toArray⟩, .bool true]) ∧ Below w.heap.size w w' := by
 have HR := hidI hr
 have hC := hasF A b o c l w hA hr hl (by omega)
 rw [hok] at hC
 have HC := hidI hC
 have h3 : ¬ (3000 : Int) < (l.length : Int) := by omega
 have h4 : decide ((3000 : Int) < (l.length : Int)) = false := decide_eq_false h3
 clear hr hC
 go_enter hf19, hn19
 unfold Tryd.f19
 go_wp2_with fail
 refine HC.out.mono ?_
 rintro e w1 ⟨rfl, hb1⟩
 have HB1 := hidI hb1
 clear hb1
 go_wp2_with fail
 go_loopw [17] (fun i wr => ∃ k : Nat, k ≤ l.length ∧ i = .int .i64 k ∧ Hid (Lib.IsBuilder 64 5 w1.heap.size w1.heap.size (Lib.byteCells (zbx (l.take k))) wr) ∧ Hid (Below w1.heap.size w1 wr)) (fun i _ => l.length - (intOf i).toNat)
 case atStart => exact ⟨0, Nat.zero_le _, rfl, hidI (by simpa [zbx, Lib.byteCells] using Lib.fresh_isBuilder 64 5 w1), hidI ((Below.refl _ _).alloc (Nat.le_refl _) _)⟩
 case round =>
  obtain ⟨k, hk, rfl, HK, HV⟩ := hrel
  have HW : Hid (Below w.heap.size w wr) := hidI (HB1.out.trans (HV.out.mono HB1.out.size))
  by_cases hkn : k < l.length
  · obtain ⟨x, hx⟩ : ∃ x, l[k]? = some x := ⟨l[k], List.getElem?_eq_getElem hkn⟩
    obtain ⟨rfl, hlt⟩ := hA (fun e => by rw [e] at hkn; exact absurd hkn (Nat.not_lt_zero _))
    obtain ⟨h1, h2, h3⟩ := (HR.out.below HW.out hlt) k x hx
    have HX := hidI hx
    clear hx
    have hgb : wr.heap.size ≠ w1.heap.size := by
     have := HK.out.elim (fun h => h.lt) (fun h => h.lt)
     omega
    obtain ⟨q1, hq1⟩ : ∃ q, q = num x.op := ⟨_, rfl⟩
    obtain ⟨q2, hq2⟩ : ∃ q, q = num x.a := ⟨_, rfl⟩
    go_wp2_with fail
    have hS : S4 w wr.heap.size x (wr.alloc (Obj.cells #[Value.int IntKind.i64 x.op, Value.int IntKind.i64 x.a, Value.string x.t] 41)) := S4.mk (heap_alloc_new wr _) (HW.out.alloc HW.out.size _)
    have hK2 : Lib.IsBuilder 64 5 w1.heap.size w1.heap.size (Lib.byteCells (zbx (l.take k))) (wr.alloc (Obj.cells #[Value.int IntKind.i64 x.op, Value.int IntKind.i64 x.a, Value.string x.t] 41)) := zio HK.out (Go.Den.Kept0.alloc wr _)
    have hV2 : Below w1.heap.size w1 (wr.alloc (Obj.cells #[Value.int IntKind.i64 x.op, Value.int IntKind.i64 x.a, Value.string x.t] 41)) := HV.out.alloc HV.out.size _
    generalize wr.alloc (Obj.cells #[Value.int IntKind.i64 x.op, Value.int IntKind.i64 x.a, Value.string x.t] 41) = w2 at hS hK2 hV2 ⊢
    have HS := hidI hS
    have hxok : x.ok = true := (List.all_eq_true.1 hok) x (List.mem_of_getElem? HX.out)
    have hxo := hxok
    unfold Ins.ok okI at hxo
    simp only [Bool.and_eq_true, decide_eq_true_eq] at hxo
    have I1 := fun W hW => zm6 hB x.op (by omega) W hW
    have I2 := fun W hW => zm6 hB x.a (by omega) W hW
    rw [← hq1] at I1
    rw [← hq2] at I2
    have hz1 : q1.size ≤ 6 := by rw [hq1]; exact zc0 (by omega) (by omega)
    have hz2 : q2.size ≤ 6 := by rw [hq2]; exact zc0 (by omega) (by omega)
    have hz3 : x.t.size ≤ 1500 := by omega
    have hline : zeS x = ((((q1 ++ ⟨#[32]⟩) ++ q2) ++ ⟨#[32]⟩) ++ x.t) ++ ⟨#[10]⟩ := by rw [hq1, hq2]; rfl
    have hlen : (Lib.byteCells (zbx (l.take k))).length ≤ 4800000 := by
     rw [Lib.byteCells_length]
     have := zho (l.take k) (List.all_eq_true.2 fun y hy => (List.all_eq_true.1 hok) y (List.mem_of_mem_take hy))
     have := List.length_take_le k l
     omega
    have hnext : Lib.byteCells (zbx (l.take k)) ++ Lib.strCells (zeS x) = Lib.byteCells (zbx (l.take (k + 1))) := by
     rw [zi3 HX.out, Lib.strCells_eq, Lib.byteCells_append]
    have hls : (((((q1 ++ ⟨#[32]⟩) ++ q2) ++ ⟨#[32]⟩) ++ x.t) ++ ⟨#[10]⟩ : ByteArray).size ≤ 1600 := by rw [← hline]; exact zdz hxok
    have HZ := hidI hls
    have HN := hidI hnext
    have HL := hidI hline
    have HO := hidI hok
    have hBel : ∀ W, Below w.heap.size w W → ∀ (g : Nat) (o : Obj), B0 g = some o → W.heap[g]? = some o := fun W hb g o hgo => by rw [hb.block g (zfT (hW g o hgo))]; exact hW g o hgo
    have s1 : ¬ (9223372036854775807 < q1.size + 1) := by omega
    have s2 : ¬ (9223372036854775807 < q1.size + 1 + q2.size) := by omega
    have s3 : ¬ (9223372036854775807 < q1.size + 1 + q2.size + 1) := by omega
    have s4 : ¬ (9223372036854775807 < q1.size + 1 + q2.size + 1 + x.t.size) := by omega
    have s5 : ¬ (9223372036854775807 < q1.size + 1 + q2.size + 1 + x.t.size + 1) := by omega
    clear hnext hls hline hxok hxo hok hq1 hq2 hW hS
    go_region_held3 (fun W => W.cell? ⟨wr.heap.size, 0, none⟩ = some (.int .i64 x.op) ∧ W.cell? ⟨wr.heap.size, 1, none⟩ = some (.int .i64 x.a) ∧ W.cell? ⟨wr.heap.size, 2, none⟩ = some (.string x.t) ∧ Hid (W.heap[wr.heap.size]? = some (.cells #[.int .i64 x.op, .int .i64 x.a, .string x.t] 41 (0, 0)) ∧ Below w.heap.size w W)) (first | exact S4.kept HS.out (Go.Den.Kept0.drew _) | exact S4.kept (by assumption) hk1 | exact S4.kept (by assumption) hk2 | exact S4.oth (by assumption) hb5 ho5 HB1.out.size hgb | go_keep)
     (first
      | (go_at_call_of 32 (x.op); refine (I1 _ (hBel _ (S4.bel (by assumption)))).mono ?_; rintro e w3 ⟨rfl, hk1⟩)
      | (go_at_call_of 32 (x.a); refine (I2 _ (hBel _ (S4.bel (by assumption)))).mono ?_; rintro e w4 ⟨rfl, hk2⟩)
      | (go_at_call 31; refine (ws w1.heap.size w1.heap.size _ _ _ (zio hK2 ((Go.Den.Kept0.drew _).trans (hk1.trans hk2))) (by have := HZ.out; omega) (by have := hV2.size; have := hk1.size; have := hk2.size; have : w2.drew.heap.size = w2.heap.size := rfl; omega)).mono ?_; rintro e w5 ⟨rfl, hK5, hb5, ho5⟩))
    rw [← HL.out, HN.out] at hK5
    have HK5 : Hid (Lib.IsBuilder 64 5 w1.heap.size w1.heap.size (Lib.byteCells (zbx (l.take (k + 1)))) w5) := hidI (Or.inr hK5)
    have HV5 := hidI (((hV2.drew).trans ⟨(hk1.trans hk2).os, (hk1.trans hk2).tape, (hk1.trans hk2).output, (hk1.trans hk2).size, fun j hj => (hk1.trans hk2).keep j (Nat.lt_of_lt_of_le hj hV2.size)⟩).trans hb5)
    clear hK5 hb5 ho5 hk1 hk2
    go_wp2
    exact ⟨⟨k + 1, by omega, by go_num, HK5, HV5⟩, by simp [intOf]; omega⟩
  · have hke : k = l.length := by omega
    subst hke
    have hK' := HK.out
    rw [List.take_length] at hK'
    have hBw : w1.heap.size ≤ wr.heap.size := HV.out.size
    go_wp2_with fail
    refine (Tryd.Builder_String_any w1.heap.size w1.heap.size _ wr hK' hBw).mono ?_
    rintro e w6 ⟨rfl, hb6⟩
    have HB6 := hidI (HB1.out.trans ((HV.out.trans hb6).mono HB1.out.size))
    clear hb6 hK'
    go_wp2
    go_ret2
    exact ⟨rfl, HB6.out⟩
set_option maxHeartbeats 2000000 in
set_option maxRecDepth 100000 in
theorem zmK (A : Option Addr) (b o c : Nat) (l : List Ins) (w : World) (hA : l ≠ [] → A = some ⟨b, o, none⟩ ∧ b < w.heap.size) (hr : RowI w b o l) (hl : l.length ≤ c) (hs : l.length ≤ 3000) (hok : l.all Ins.ok = false) :
 Calls Tryd.prog 19 #[.slice A l.length c] w fun e w' => e = .returned (.tuple #[.string ⟨#[]⟩, .bool false]) ∧ Below w.heap.size w w' := by
 have hC := hasF A b o c l w hA hr hl (by omega)
 rw [hok] at hC
 have HC := hidI hC
 have h4 : decide ((3000 : Int) < (l.length : Int)) = false := decide_eq_false (by omega)
 clear hr hC
 go_enter hf19, hn19
 unfold Tryd.f19
 go_wp2_with fail
 refine HC.out.mono ?_
 rintro e w1 ⟨rfl, hb1⟩
 go_wp2
 go_ret2
 exact ⟨rfl, hb1⟩
set_option maxHeartbeats 2000000 in
set_option maxRecDepth 100000 in
theorem zmr (A : Option Addr) (n c : Nat) (w : World) (hs : 3000 < n) :
 Calls Tryd.prog 19 #[.slice A n c] w fun e w' => e = .returned (.tuple #[.string ⟨#[]⟩, .bool false]) ∧ Below w.heap.size w w' := by
 have h4 : decide ((3000 : Int) < (n : Int)) = true := decide_eq_true (by omega)
 go_enter hf19, hn19
 unfold Tryd.f19
 go_wp2
 go_ret2
 exact ⟨rfl, Below.refl _ _⟩
def zdN (l : List Ins) : ByteArray := match okT l with
 | true => ⟨(zbx l).toArray⟩
 | false => ⟨#[]⟩
theorem zlB {B0 : Nat → Option Obj} (hB : TabAt B0) (A : Option Addr) (b o c : Nat) (l : List Ins) (w : World) (hA : l ≠ [] → A = some ⟨b, o, none⟩ ∧ b < w.heap.size) (hr : RowI w b o l) (hl : l.length ≤ c) (hW : ∀ (g : Nat) (o : Obj), B0 g = some o → w.heap[g]? = some o) :
 Calls Tryd.prog 19 #[.slice A l.length c] w fun e w' => e = .returned (.tuple #[.string (zdN l), .bool (okT l)]) ∧ Below w.heap.size w w' := by
 by_cases hs : l.length ≤ 3000
 · cases hok : l.all Ins.ok with
   | true =>
     have e : okT l = true := by unfold okT; rw [hok, decide_eq_true hs]; rfl
     unfold zdN
     rw [e]
     exact ct_ok hB A b o c l w hA hr hl hs hok hW
   | false =>
     have e : okT l = false := by unfold okT; rw [hok, Bool.and_false]
     unfold zdN
     rw [e]
     exact zmK A b o c l w hA hr hl hs hok
 · have e : okT l = false := by unfold okT; rw [decide_eq_false hs]; rfl
   unfold zdN
   rw [e]
   exact zmr _ _ c w (by omega)
end Go.Proofs.YtmoocdlfclhgcaaDoor
namespace Go.Den
open Go Go.RowKit
set_option linter.unusedVariables false
variable {B : Nat → Option Obj}
theorem zmi {c : Cx} {args : List D} {W' : World} {r : Value} {e : Nat} {i : TI} {es' : List Dat} {xs' : List Value} (hcs : c.s = start args [] []) (hos : W'.os = c.W.os) (htape : W'.tape = c.W.tape) (hout : W'.output = c.W.output) (hsize : c.W.heap.size ≤ W'.heap.size)
 (hkeep : ∀ g, g < c.W.heap.size → stable (c.ρ g) → W'.heap[g]? = c.W.heap[g]?) (hob : ∀ g, r.ownBlock = some g → g < c.W.heap.size → ¬ stable (c.ρ g))
 (hi : c.ty e = some i) (hrow : W'.ownsRow 0 e i.sz r es'.length xs') (hrep : ∀ ρ', (∀ b g, Rd c.ρ b g → g < c.W.heap.size → Rd ρ' b g) → RepRow ρ' W' i.sz es' xs') :
 ∃ c', c'.W = W' ∧ Ans c [.own e es'] [] [] r c' := by
 let ρ' : Nat → Role := fun g => if r.ownBlock = some g then .row (.slot 0 []) else if g < c.W.heap.size then c.ρ g else .oth
 have hρ : ∀ g, g < c.W.heap.size → stable (c.ρ g) → ρ' g = c.ρ g := fun g hg hs => by
  show (if r.ownBlock = some g then Role.row (.slot 0 []) else if g < c.W.heap.size then c.ρ g else .oth) = c.ρ g
  rw [if_neg (fun h => hob g h hg hs), if_pos hg]
 refine ⟨{ c with W := W', ρ := ρ', H := fun q => match q with | .slot 0 [] => r | q => c.H q, s := ⟨fun x => match Nat.beq x 0 with | true => .own e es' | false => .junk, fun _ => none, [], []⟩ }, rfl, ?_, rfl, ?_, rfl, ?_⟩
 · exact ⟨hos, htape, hout, hsize, fun g hg hst => ⟨hρ g hg hst, hkeep g hg hst⟩, rfl, fun _ => rfl, fun _ => rfl⟩
 · refine ⟨fun x => ?_, fun r2 cs hb => ?_, fun j r2 hgj => ?_⟩
   · show VR _ (.slot x []) (match Nat.beq x 0 with | true => .own e es' | false => .junk) _
     cases hx : Nat.beq x 0 with
     | true =>
       have := Nat.eq_of_beq_eq_true hx
       subst this
       refine ⟨rfl, ⟨i, xs', hi, hrow, hrep ρ' fun b g hr hg => ?_, fun g hg => if_pos hg⟩⟩
       have := hρ g hg hr.stable
       unfold Rd at *
       rw [this]
       exact hr
     | false => trivial
   · cases r2 with
     | loc n => cases hb
     | up n =>
       have hb' : ([] : List (List D))[n]? = some cs := hb
       simp at hb'
   · have hgj' : (([] : List (Option Row))[j]?).bind id = some r2 := hgj
     simp at hgj'
 · rw [hcs]
   rfl
end Go.Den
namespace Go.Den
open Go Go.RowKit
set_option linter.unusedVariables false
variable {B : Nat → Option Obj}
theorem vals1 {vals : Array Value} (h : vals.size = 1) : vals = #[vals.getD 0 undef] := by
 obtain ⟨l⟩ := vals
 match l, h with
 | [a], _ => rfl
theorem vals2 {vals : Array Value} (h : vals.size = 2) : vals = #[vals.getD 0 undef, vals.getD 1 undef] := by
 obtain ⟨l⟩ := vals
 match l, h with
 | [a, b], _ => rfl
end Go.Den
namespace Go.Den
open Go Go.RowKit
set_option linter.unusedVariables false
variable {B : Nat → Option Obj}
theorem zle {c : Cx} {args : List D} {W' : World} {ws : List Value} (hcs : c.s = start args [] []) (hk : Kept0 c.W W') (hne : ws ≠ []) (hsc : ∀ r ∈ ws, scal r = true) : ∃ c', c'.W = W' ∧ Ans c (ws.map DV) [] [] (retV ws) c' := by
 refine ⟨{ c with W := W', s := ⟨fun x => match Nat.beq x 0 with | true => retD (ws.map DV) | false => .junk, fun _ => none, [], []⟩ }, rfl, Ans.of (zfj ws) ⟨?_, rfl, ?_, ?_, ?_⟩⟩
 · exact ⟨hk.os, hk.tape, hk.output, hk.size, fun g hg _ => ⟨rfl, hk.keep g hg⟩, rfl, fun _ => rfl, fun _ => rfl⟩
 · refine ⟨fun x => ?_, fun r cs hb => ?_, fun j r hgj => ?_⟩
   · show VR _ _ (match Nat.beq x 0 with | true => retD (ws.map DV) | false => .junk) _
     cases hx : Nat.beq x 0 with
     | true =>
       have := Nat.eq_of_beq_eq_true hx
       subst this
       match ws, hne, hsc with
       | [w], _, hsc => exact zaE (hsc w (by simp))
       | w :: w2 :: ws, _, hsc => exact ⟨w :: w2 :: ws, rfl, fun e => (by cases e), zjH (w :: w2 :: ws) 0 hsc⟩
     | false => trivial
   · cases r with
     | loc n => cases hb
     | up n =>
       have hb' : ([] : List (List D))[n]? = some cs := hb
       simp at hb'
   · have hgj' : (([] : List (Option Row))[j]?).bind id = some r := hgj
     simp at hgj'
 · match ws, hne with
   | [w], _ => rfl
   | w :: w2 :: ws, _ => exact zeD false (w :: w2 :: ws)
 · rw [hcs]
   rfl
end Go.Den
namespace Go.Den
open Go.Proofs
open Go Go.RowKit
open Go.Proofs.YtmoocdlfclhgcaaDoor (Ins zdN okT zlB RowI TabAt)
set_option linter.unusedVariables false
variable {B : Nat → Option Obj}
def zl6 : Dat → Option Ins
 | .agg [.val (.int .i64 op), .val (.int .i64 a), .val (.string t)] => some ⟨op, a, t⟩
 | _ => none
def zeH : List Dat → Option (List Ins)
 | [] => some []
 | d :: l => (zl6 d).bind fun x => (zeH l).map (x :: ·)
def DIns (x : Ins) : Dat := .agg [.val (.int .i64 x.op), .val (.int .i64 x.a), .val (.string x.t)]
theorem zi9 {d : Dat} {x : Ins} (h : zl6 d = some x) : d = DIns x := by
 unfold zl6 at h
 split at h
 · cases h; rfl
 · cases h
theorem zeN : ∀ {es : List Dat} {l : List Ins}, zeH es = some l → es = l.map DIns
 | [], l, h => by cases h; rfl
 | d :: es, l, h => by
   simp only [zeH] at h
   obtain ⟨x, hx, h⟩ := Option.bind_eq_some_iff.1 h
   obtain ⟨l', hl, rfl⟩ := Option.map_eq_some_iff.1 h
   rw [zi9 hx, zeN hl]
   rfl
theorem zf7 : ∀ l : List Ins, zeH (l.map DIns) = some l
 | [] => rfl
 | x :: l => by simp only [List.map_cons, zeH, zf7 l]; rfl
def zk1 (args : List D) (u : List (List D)) (l : List (Option Row)) : Option (List D × List (List D) × List (Option Row)) :=
 match args, u, l with
 | [.dat (.lst _ es)], [], [] => (zeH es).bind fun l => some ([.string (zdN l), .bool (okT l)].map DV, [], [])
 | _, _, _ => none
theorem zme {ρ : Nat → Role} {W : World} {x : Ins} {f : List Value} (h : Rep ρ W (DIns x) f) : f = [.int .i64 x.op, .int .i64 x.a, .string x.t] := by
 cases h with
 | agg hl _ hh =>
   match f, hl with
   | [a, b, c], _ =>
     have ha := hh 0 _ a rfl rfl
     have hb := hh 1 _ b rfl rfl
     have hq := hh 2 _ c rfl rfl
     cases ha
     cases hb
     cases hq
     rfl
theorem zmf (hB : TabAt B) (hf : Tryd.prog.funcs[19]? = some Tryd.f19) {ty : Nat → Option TI} : ExtOK Tryd.prog ty B 19 zk1 := by
 have hn : (Tryd.f19.name == "runtime.NumGoroutine") = false := by kernel_rfl
 have hb : Tryd.f19.body.isSome = true := by kernel_rfl
 constructor
 intro f' args u l rs u' l' hc c vals hcty hI hcs hsz2 hs
 simp only at hc
 split at hc
 · rename_i hff
   subst hff
   unfold zk1 at hc
   split at hc
   · rename_i b es
     obtain ⟨zs, hz, hq⟩ := Option.bind_eq_some_iff.1 hc
     clear hc
     have := zeN hz
     subst this
     clear hz
     injection hq with hq
     injection hq with hc1 hc2
     injection hc2 with hc2 hc3
     subst hc1 hc2 hc3
     have s0 := hs.slots 0
     rw [hcs] at s0
     have s0 : VR c (.slot 0 []) (.dat (.lst b (zs.map DIns))) (vals.getD 0 undef) := s0
     have hv1 := vals1 hsz2
     have hne : ([.string (zdN zs), .bool (okT zs)] : List Value) ≠ [] := by simp
     have hsc : ∀ r ∈ ([.string (zdN zs), .bool (okT zs)] : List Value), scal r = true := by
      intro r hr
      rcases List.mem_cons.1 hr with rfl | hr
      · rfl
      · rw [List.mem_singleton] at hr; subst hr; rfl
     have h2 := zd6 s0
     have hex : ∃ A g o k, vals.getD 0 undef = .slice A zs.length k ∧ (zs ≠ [] → A = some ⟨g, o, none⟩ ∧ g < c.W.heap.size) ∧ RowI c.W g o zs ∧ zs.length ≤ k := by
      generalize hd : vals.getD 0 undef = v0 at h2
      generalize he : zs.map DIns = es at h2
      cases h2 with
      | nil =>
        have hz : zs = [] := by simpa using he
        subst hz
        exact ⟨_, 0, 0, _, rfl, fun h => absurd rfl h, fun j x hx => by simp at hx, Nat.zero_le _⟩
      | lst f hc hm hr hg hw hv h =>
        rename_i g o k sz
        have hlen : es.length = zs.length := by rw [← he]; simp
        refine ⟨_, g, o, k, by rw [hlen], fun _ => ⟨rfl, hg⟩, fun j x hx => ?_, by omega⟩
        have hd : es[j]? = some (DIns x) := by rw [← he, List.getElem?_map, hx]; rfl
        have hfj := zme (h j _ hd)
        have hsz : sz = 3 := by rw [← hw j _ hd, hfj]; rfl
        subst hsz
        refine ⟨?_, ?_, ?_⟩
        · have := hv j _ hd 0 _ (by rw [hfj]; rfl)
          simpa using this
        · exact hv j _ hd 1 _ (by rw [hfj]; rfl)
        · exact hv j _ hd 2 _ (by rw [hfj]; rfl)
     obtain ⟨A, g, o, k, hv, hA, hr, hl⟩ := hex
     rw [hv] at hv1
     rw [hv1]
     refine zbC hf hn hb ((zlB hB A g o k zs c.W hA hr hl (fun g o hg => (hI g o hg).2)).mono ?_)
     rintro e' w' ⟨rfl, hb'⟩
     exact ⟨_, rfl, zle hcs ⟨hb'.os, hb'.tape, hb'.output, hb'.size, fun g hg => hb'.block g hg⟩ hne hsc⟩
   · cases hc
 · cases hc
end Go.Den
namespace Go.Proofs.YtmoocdlfclhgcaaDoor
open Go Go.RowKit Go.Proofs
set_option linter.unusedVariables false
theorem hf22 : Tryd.prog.funcs[22]? = some Tryd.f22 := by kernel_rfl
theorem hn22 : Tryd.f22.ntmps = 48 := by kernel_rfl
theorem ub30 : Tryd.prog.underlying 30 = some (.slice 3) := by kernel_rfl
theorem info3 : (Tryd.prog.info? 3).map (fun i => (i.zero, i.size, i.bytes)) = some (some (.int .i64 0), 1, 8) := by kernel_rfl
theorem zlx : (Tryd.prog.info? 3).map (·.size) = some 1 := by kernel_rfl
theorem mul1 (n : Nat) (h : n ≤ 1000000) (w : World) : Calls Tryd.prog 34 #[.int .u64 1, .int .u64 n] w fun e w' => e = .returned (.tuple #[.int .u64 0, .int .u64 n]) ∧ w' = w := by
 have := Tryd.bits_Mul 1 n (by omega) (by omega) w
 rwa [Nat.one_mul, Nat.div_eq_of_lt (by omega), Nat.mod_eq_of_lt (by omega)] at this
theorem add0 (a : Addr) : a.add 0 = a := by unfold Addr.add; split <;> simp_all
theorem addB (b j : Nat) : (⟨b, 0, none⟩ : Addr).add j = ⟨b, j, none⟩ := by unfold Addr.add; split <;> simp_all
theorem zla (n : Nat) : (madeCells (Value.int .i64 0).cells (n * 1)).toList = List.replicate n (Value.int .i64 0) := by
 apply List.ext_getElem?
 intro j
 unfold madeCells
 have e : (Value.int .i64 0).cells = #[Value.int .i64 0] := rfl
 rw [e]
 simp only [Nat.mul_one, Array.toList_map, Array.toList_range, List.getElem?_map, List.getElem?_replicate]
 by_cases h : j < n
 · rw [List.getElem?_range h, if_pos h]
   simp [Nat.mod_one]
 · rw [if_neg h, List.getElem?_eq_none (by simp; omega)]
   rfl
def fill (x : Int) (n k : Nat) : List Value := List.replicate k (.int .i64 x) ++ List.replicate (n - k) (.int .i64 0)
theorem zir {x : Int} {n k : Nat} (h : k ≤ n) : (fill x n k).length = n := by simp [fill]; omega
theorem ze8 {x : Int} {n k m : Nat} (h : k + m ≤ n) : splice (fill x n k) k (List.replicate m (.int .i64 x)) = fill x n (k + m) := by
 unfold splice fill
 rw [List.take_left' (by simp), List.length_replicate, List.drop_append, List.drop_eq_nil_of_le (by simp), List.length_replicate, List.drop_replicate, List.nil_append, ← List.append_assoc, List.replicate_append_replicate, show n - k - (k + m - k) = n - (k + m) by omega]
theorem zkS {x : Int} {n k j : Nat} (h : j < k) : (fill x n k)[j]? = some (.int .i64 x) := by
 unfold fill
 rw [List.getElem?_append_left (by simpa using h), List.getElem?_replicate, if_pos h]
theorem zkH {w w1 : World} {n : Nat} (x : Int) (h : w1.ownsRow w.heap.size 3 1 (.slice (some ⟨w.heap.size, 0, none⟩) n n) n (madeCells (Value.int .i64 0).cells (n * 1)).toList) : w1.heap[w.heap.size]? = some (.cells (fill x n 0).toArray 3 (0, 0)) := by
 obtain ⟨_, h | ⟨g, cap, cur, hv, hb, hg, hn, hc, hsz, ht⟩⟩ := h
 · cases h.1
 · injection hv with h1 h2 h3
   injection h1 with h1
   injection h1 with h1
   subst h1 h3
   rw [zla, Nat.mul_one, List.take_of_length_le (by rw [Array.length_toList]; omega)] at ht
   rw [hg]
   have : cur = (fill x n 0).toArray := by
    rw [← Array.toArray_toList (xs := cur), ht]
    rfl
   rw [this]
set_option maxHeartbeats 4000000 in
set_option maxRecDepth 100000 in
theorem rep_walk (ad : Addr) (c0 : Nat) (x : Int) (n : Nat) (hn : n ≤ 1000000) (w : World) (hx : w.cell? ad = some (.int .i64 x)) (hlt : ad.block < w.heap.size) :
 Calls Tryd.prog 22 #[.slice (some ad) 1 c0, .int .i64 n] w fun e w' => ∃ v, e = .returned v ∧ w'.ownsRow w.heap.size 3 1 v n (List.replicate n (.int .i64 x)) ∧ Below w.heap.size w w' := by
 obtain ⟨i, hi, hz0, hz1, hz2⟩ := info_parts info3
 have hxl := hx
 have HX := hidI hx
 clear hx
 obtain ⟨cs, hcs⟩ : ∃ cs : List Value, cs = List.replicate (min 1 n) (.int .i64 x) := ⟨_, rfl⟩
 obtain ⟨Z, hZ⟩ : ∃ Z : List Value, Z = List.replicate n (.int .i64 0) := ⟨_, rfl⟩
 go_enter hf22, hn22
 unfold Tryd.f22
 have hc1 : cs.length = Nat.min 1 n := by rw [hcs, List.length_replicate]
 have hcv : ∀ (j : Nat) (v : Value), cs[j]? = some v → j = 0 ∧ v = .int .i64 x := fun j v hj => by
  rw [hcs, List.getElem?_replicate] at hj
  split at hj
  · cases hj; exact ⟨by omega, rfl⟩
  · cases hj
 have hone : ∀ v ∈ cs, v.oneCell' = true := fun v hv => by rw [hcs] at hv; rw [List.eq_of_mem_replicate hv]; rfl
 have hfit : 0 + cs.length ≤ (fill x n 0).length := by rw [hc1, zir (Nat.zero_le _), Nat.zero_add]; exact Nat.min_le_right _ _
 go_wp2_with (first | (go_at_call 34; refine (mul1 n (by omega) _).mono ?_; rintro e w9 ⟨rfl, hw9⟩; obtain rfl := hw9.symm) | (at_make; refine wpList_make_full _ rfl _ _ 30 rfl w.heap.size 3 i (.int .i64 0) 1 ub30 hi hz0 hz1 _ _ _ _ n rfl rfl rfl rfl (by rw [hz2]; omega) (by unfold maxLen; omega) (Nat.le_refl _) ?_; intro w1 hown hgrow; have HG := hidI (zkH x hown); have HB := hidI (show Below w.heap.size w w1 from ⟨hgrow.os, hgrow.tape, hgrow.output, hgrow.size, fun k hk => hgrow.block k hk (by simp)⟩); clear hown hgrow) | (refine wpList_copy_splice rfl (.tmp 31) (.tmp 32) 30 30 rfl 3 ub30 zlx (some ⟨w.heap.size, 0, none⟩) (some ad) n n 1 c0 rfl rfl w.heap.size 0 (fill x n 0) 3 HG.out cs hc1 (fun h => ⟨rfl, ad, rfl, fun j v hj => (by obtain ⟨rfl, rfl⟩ := hcv j v hj; rw [show ad.add 0 = ad from add0 ad, HB.out.cell hlt]; exact HX.out)⟩) hfit hone w.heap.size w HB.out (Nat.le_refl _) ?_; intro w2 HG2 hB2; have HB2 := hidI hB2; clear hB2; rw [hc1]))
 have HG3 : Hid (w2.heap[w.heap.size]? = some (.cells (fill x n (min 1 n)).toArray 3 (0, 0))) := hidI (by
  have := ze8 (x := x) (n := n) (k := 0) (m := min 1 n) (by omega)
  rw [← hcs, Nat.zero_add] at this
  rw [← this]
  exact HG2.out)
 clear HG2 HG HB HX hcv hone hfit hc1 hcs
 go_loopw [8] (fun v8 wr => ∃ k : Nat, k ≤ n ∧ (0 < n → 0 < k) ∧ v8 = .int .i64 k ∧ Hid (wr.heap[w.heap.size]? = some (.cells (fill x n k).toArray 3 (0, 0))) ∧ Hid (Below w.heap.size w wr)) (fun v8 _ => n - (intOf v8).toNat)
 case atStart => exact ⟨min 1 n, by omega, by omega, rfl, HG3, HB2⟩
 case round =>
  obtain ⟨k, hk, hk0, rfl, HK, HW⟩ := hrel
  clear HG3 HB2
  by_cases hkn : k < n
  · obtain ⟨m, hm⟩ : ∃ m, m = Nat.min k (n - k) := ⟨_, rfl⟩
    have hmv : ∀ (j : Nat) (v : Value), (List.replicate m (Value.int .i64 x))[j]? = some v → wr.cell? ((⟨w.heap.size, 0, none⟩ : Addr).add j) = some v := fun j v hj => by
     rw [List.getElem?_replicate] at hj
     split at hj
     · cases hj
       have hjm : j < k := by have : m ≤ k := by rw [hm]; exact Nat.min_le_left _ _
                              omega
       rw [addB w.heap.size j]
       unfold World.cell?
       simp only [HK.out]
       simpa using zkS (x := x) (n := n) hjm
     · cases hj
    have hmn : k + m ≤ n := by have : m ≤ n - k := by rw [hm]; exact Nat.min_le_right _ _
                               omega
    have hm0 : 0 < m := by rw [hm]; exact Nat.lt_min.2 ⟨by omega, by omega⟩
    have hnk : ¬ n = k := by omega
    have HM := hidI hmv
    have hml : (List.replicate m (Value.int .i64 x)).length = Nat.min k (n - k) := by rw [List.length_replicate, hm]
    have hone : ∀ v ∈ List.replicate m (Value.int .i64 x), v.oneCell' = true := fun v hv => by rw [List.eq_of_mem_replicate hv]; rfl
    have hfit : k + (List.replicate m (Value.int .i64 x)).length ≤ (fill x n k).length := by rw [zir hk, List.length_replicate]; exact hmn
    obtain ⟨X, hX⟩ : ∃ X, X = List.replicate m (Value.int .i64 x) := ⟨_, rfl⟩
    rw [← hX] at hml hone hfit
    have HX2 := hidI hX
    clear hmv hm hX
    go_wp2_with fail
    have HKd : Hid (wr.drew.heap[w.heap.size]? = some (.cells (fill x n k).toArray 3 (0, 0))) := HK
    have HWd : Hid (Below w.heap.size w wr.drew) := hidI HW.out.drew
    have HMd : Hid (∀ (j : Nat) (v : Value), (List.replicate m (Value.int .i64 x))[j]? = some v → wr.drew.cell? ((⟨w.heap.size, 0, none⟩ : Addr).add j) = some v) := HM
    go_region_law (refine step_copy_splice rfl (.tmp 41) (.tmp 44) 30 30 rfl 3 ub30 zlx (some ⟨w.heap.size, k, none⟩) (some ⟨w.heap.size, 0, none⟩) (n - k) (n - k) k n (by simp [Act.eval, Act.put]) (by simp [Act.eval, Act.put]) w.heap.size k (fill x n k) 3 HKd.out X hml (fun h => ⟨rfl, ⟨w.heap.size, 0, none⟩, rfl, fun j v hj => HMd.out j v (by rw [← HX2.out]; exact hj)⟩) hfit hone w.heap.size w HWd.out (Nat.le_refl _) ?_; intro w3 HG4 hB4; have HB4 := hidI hB4; clear hB4)
    have HK5 : Hid (w3.heap[w.heap.size]? = some (.cells (fill x n (k + m)).toArray 3 (0, 0))) := hidI (by
     have := ze8 (x := x) hmn
     rw [← HX2.out] at this
     rw [← this]
     exact HG4.out)
    have hmk : m = k.min (n - k) := by rw [HX2.out, List.length_replicate] at hml; exact hml
    have hwr : IntKind.i64.wrap ((k : Int) + ((k.min (n - k) : Nat) : Int)) = ((k + m : Nat) : Int) := by rw [← hmk, IntKind.wrap_i64]; omega
    have HV := hidI hwr
    clear HG4 HK HM HKd HWd HMd hml hone hfit HX2 hmk hwr
    simp only [Act.put, List.getElem_toArray, List.getElem_cons_succ, List.getElem_cons_zero]
    go_wp2
    refine ⟨⟨_, _, _, _, _, _, _, _, _, _, _, _, _, _, ⟨k + m, hmn, by omega, congrArg (Value.int .i64) HV.out, HK5, HB4⟩, rfl⟩, ?_⟩
    show n - (IntKind.i64.wrap ((k : Int) + ((k.min (n - k) : Nat) : Int))).toNat < n - ((k : Nat) : Int).toNat
    rw [HV.out]
    omega
  · have hke : k = n := by omega
    subst hke
    go_wp2
    go_ret
    refine ⟨_, rfl, ⟨by simp, .inr ⟨w.heap.size, k, (fill x k k).toArray, rfl, Nat.le_refl _, HK.out, Nat.le_refl _, by unfold maxLen; omega, ?_, ?_⟩⟩, HW.out⟩
    · simp [fill]
    · simp [fill]
end Go.Proofs.YtmoocdlfclhgcaaDoor
namespace Go.Den
open Go Go.RowKit
variable {B : Nat → Option Obj}
def ziS (e : Nat) (args : List D) (u : List (List D)) (l : List (Option Row)) : Option (List D × List (List D) × List (Option Row)) :=
 match args, u, l with
 | [.dat (.lst _ [.val (.int .i64 x)]), .dat (.val (.int .i64 n))], [], [] => match decide (0 ≤ n) && decide (n ≤ 1000000) with
   | true => some ([.own e (List.replicate n.toNat (DI x))], [], [])
   | false => none
 | _, _, _ => none
theorem zkC {ρ : Nat → Role} {W : World} (n : Nat) (x : Int) : RepRow ρ W 1 (List.replicate n (DI x)) (List.replicate n (Value.int .i64 x)) where
 len := by simp
 rep := fun j d hj => by
  rw [List.getElem?_replicate] at hj
  split at hj
  · cases hj
    rw [List.drop_replicate, List.take_replicate, show min 1 (n - j * 1) = 1 by omega]
    exact .val rfl
  · cases hj
 wid := fun j d hj => by
  rw [List.getElem?_replicate] at hj
  split at hj
  · cases hj; rfl
  · cases hj
theorem zmR (hf : Go.Proofs.Tryd.prog.funcs[22]? = some Go.Proofs.Tryd.f22) {ty : Nat → Option TI} (hts : (ty 3).map TI.sz = some 1) : ExtOK Go.Proofs.Tryd.prog ty B 22 (ziS 3) := by
 have hn : (Go.Proofs.Tryd.f22.name == "runtime.NumGoroutine") = false := by kernel_rfl
 have hb : Go.Proofs.Tryd.f22.body.isSome = true := by kernel_rfl
 obtain ⟨ti, hty, hsz1⟩ := Option.map_eq_some_iff.1 hts
 constructor
 intro f' args u l rs u' l' hc c vals hcty hI hcs hsz2 hs
 simp only at hc
 split at hc
 · rename_i hff
   subst hff
   unfold ziS at hc
   split at hc
   · rename_i b x n
     split at hc
     · rename_i hw
       simp only [Bool.and_eq_true, decide_eq_true_eq] at hw
       injection hc with hc
       injection hc with hc1 hc2
       injection hc2 with hc2 hc3
       subst hc1 hc2 hc3
       obtain ⟨m, rfl⟩ : ∃ m : Nat, n = m := ⟨n.toNat, by omega⟩
       have s0 := hs.slots 0
       have s1 := hs.slots 1
       rw [hcs] at s0 s1
       have s0 : VR c (.slot 0 []) (.dat (.lst b [DI x])) (vals.getD 0 undef) := s0
       have s1 : VR c (.slot 1 []) (.dat (.val (.int .i64 m))) (vals.getD 1 undef) := s1
       have hv2 := vals2 hsz2
       rw [(zaq s1).1] at hv2
       have h2 := zd6 s0
       have hex : ∃ ad k, vals.getD 0 undef = .slice (some ad) 1 k ∧ ad.block < c.W.heap.size ∧ c.W.cell? ad = some (.int .i64 x) := by
        generalize hd : vals.getD 0 undef = v0 at h2
        generalize he : [DI x] = es at h2
        cases h2 with
        | nil => cases he
        | lst f hc hm hr hg hw hv h =>
          rename_i g o k sz
          subst he
          have hfj := h 0 _ rfl
          have hf0 : f 0 = [Value.int .i64 x] := by
           generalize f 0 = q at hfj
           cases hfj
           rfl
          refine ⟨⟨g, o, none⟩, k, rfl, hg, ?_⟩
          have := hv 0 _ rfl 0 _ (by rw [hf0]; rfl)
          simpa using this
       obtain ⟨ad, k, hv, hlt, hcell⟩ := hex
       rw [hv] at hv2
       rw [hv2]
       refine zbC hf hn hb ((Go.Proofs.YtmoocdlfclhgcaaDoor.rep_walk ad k x m (by omega) c.W hcell hlt).mono ?_)
       rintro e' w' ⟨v, rfl, hown, hb'⟩
       have hown2 : w'.ownsRow 0 3 ti.sz v (List.replicate m (DI x)).length (List.replicate m (Value.int .i64 x)) := by
        rw [hsz1, List.length_replicate]
        exact zek hown (Nat.zero_le _)
       exact ⟨_, rfl, zmi (i := ti) hcs hb'.os hb'.tape hb'.output hb'.size (fun g hg _ => hb'.block g hg) (fun g hg hlt => absurd hlt (by have := (World.ownsRow.lt hown g hg).1; omega)) (by rw [hcty]; exact hty) hown2 fun ρ' _ => by rw [hsz1]; exact zkC m x⟩
     · cases hc
   · cases hc
 · cases hc
end Go.Den
namespace Go.Den
open Go
def tys : List (Nat × TI) := [(2, ⟨.int .i64, 1, 8, [], [.dat (.val (.int .i64 0))]⟩), (3, ⟨.int .i64, 1, 8, [], [.dat (.val (.int .i64 0))]⟩), (4, ⟨.bool, 1, 1, [], [.dat (.val (.bool false))]⟩), (5, ⟨.int .u8, 1, 1, [], [.dat (.val (.int .u8 0))]⟩), (9, ⟨.str, 1, 16, [], [.dat (.val (.string ByteArray.empty))]⟩), (22, ⟨.slice 38, 1, 24, [], [.own 38 []]⟩), (26, ⟨.slice 41, 1, 24, [], [.own 41 []]⟩), (30, ⟨.slice 3, 1, 24, [], [.own 3 []]⟩), (38, ⟨.struct, 3, 32, [(0, 3), (1, 3), (2, 9)], [.dat (.val (.int .i64 0)), .dat (.val (.int .i64 0)), .dat (.val (.string ByteArray.empty))]⟩), (41, ⟨.struct, 3, 32, [(0, 3), (1, 3), (2, 9)], [.dat (.val (.int .i64 0)), .dat (.val (.int .i64 0)), .dat (.val (.string ByteArray.empty))]⟩), (44, ⟨.other, 1, 8, [], [.dat (.val (.pointer none))]⟩), (46, ⟨.struct, 3, 56, [(0, 26), (1, 30), (2, 4)], [.own 41 [], .own 3 [], .dat (.val (.bool false))]⟩), (50, ⟨.struct, 2, 16, [(0, 3), (1, 3)], [.dat (.val (.int .i64 0)), .dat (.val (.int .i64 0))]⟩), (51, ⟨.slice 50, 1, 24, [], [.own 50 []]⟩), (60, ⟨.other, 1, 8, [], [.dat (.val .nilFunc)]⟩), (61, ⟨.other, 1, 8, [], [.dat (.val (.pointer none))]⟩), (62, ⟨.slice 5, 1, 24, [], [.own 5 []]⟩), (64, ⟨.struct, 2, 32, [(0, 61), (1, 62)], [.dat (.val (.pointer none)), .own 5 []]⟩), (66, ⟨.other, 1, 16, [], [.dat (.val .nilIface)]⟩), (70, ⟨.int .u64, 1, 8, [], [.dat (.val (.int .u64 0))]⟩), (75, ⟨.other, 1, 8, [], [.dat (.val (.pointer none))]⟩), (76, ⟨.int .u32, 1, 4, [], [.dat (.val (.int .u32 0))]⟩), (79, ⟨.int .u64, 1, 8, [], [.dat (.val (.int .u64 0))]⟩), (83, ⟨.other, 1, 8, [], [.dat (.val (.pointer none))]⟩)]
def zcT {α : Type} : List (Nat × α) → Nat → Option α
 | [], _ => none
 | (a, x) :: l, n => match Nat.beq a n with | true => some x | false => zcT l n
def zl2 : List (Nat × List (Nat × List Nat)) := [(5, [(5, [0, 1, 5])]), (7, [(3, [0, 3, 4])]), (9, [(4, [0, 1, 5])]), (10, [(6, [6, 20, 25, 26])]), (11, [(6, [0, 6, 7])]), (12, [(4, [0, 1, 5])]), (13, [(2, [0, 1, 5])]), (14, [(2, [0, 1, 5])]), (15, [(2, [0, 1, 5])]), (17, [(4, [0, 12, 13, 14])]), (19, [(5, [4, 15, 16, 17])]), (21, [(0, [0, 1, 2])]), (22, [(8, [7, 8])]), (24, [(4, [0, 3])]), (25, [(2, [0, 1, 7])]), (27, [(3, [3, 6, 7, 8])]), (36, [(2, [0, 1, 7, 8])]), (45, [(15, [0, 1, 5, 6, 7, 8, 9, 10])]), (48, [(1, [0, 1, 4])]), (49, [(11, [0, 1, 3, 4, 10, 11, 12, 13, 14, 15, 16]), (18, [0, 1, 3, 4, 10, 11, 12, 13, 17])]), (53, [(5, [0, 1, 5, 6, 7, 8, 9]), (11, [0, 1, 5, 6, 7, 8, 10])]), (60, [(3, [0, 4, 5]), (8, [4, 6, 7, 8])])]
def zm0 : List (Nat × List (Nat × List Nat)) := [(5, [(5, [1, 4])]), (7, [(3, [3])]), (9, [(4, [4])]), (10, [(6, [6, 20])]), (11, [(6, [2, 3, 6])]), (12, [(4, [4])]), (13, [(2, [1])]), (14, [(2, [1])]), (15, [(2, [1, 4])]), (17, [(4, [0, 2, 3])]), (19, [(5, [4])]), (21, [(0, [])]), (22, [(8, [7])]), (24, [(4, [3])]), (25, [(2, [0, 4, 5, 6])]), (27, [(3, [3])]), (36, [(2, [4])]), (45, [(15, [4])]), (48, [(1, [0, 1, 4])]), (49, [(11, [0, 1, 3, 4, 10, 11, 12, 13]), (18, [0, 1, 3, 4, 10, 11, 12, 13])]), (53, [(5, [0, 1, 5, 6, 7, 8]), (11, [4])]), (60, [(3, [0, 4]), (8, [4, 6])])]
def zmy : List (Nat × List Nat) := [(13, [1, 0]), (14, [1, 0]), (1000046, [1])]
def zmD : List (Nat × List (Nat × Plan)) := [(9, [(6, (none, [(0, 0, []), (1, 0, []), (2, 0, []), (3, 1, []), (4, 0, []), (5, 0, []), (6, 0, []), (7, 1, []), (8, 2, []), (9, 0, [])]))]), (11, [(9, (none, [(0, 0, []), (1, 1, []), (2, 0, []), (3, 0, []), (4, 0, []), (5, 0, []), (6, 0, []), (7, 0, []), (8, 1, []), (9, 0, []), (10, 1, []), (11, 0, []), (12, 0, []), (13, 0, []), (14, 0, []), (15, 1, []), (16, 0, []), (17, 1, []), (18, 0, []), (19, 1, []), (20, 0, []), (21, 0, []), (22, 0, []), (23, 0, [])])), (13, (none, [(0, 0, []), (1, 0, []), (2, 1, []), (3, 0, []), (4, 1, []), (5, 0, []), (6, 1, []), (7, 0, []), (8, 1, []), (9, 2, []), (10, 0, []), (11, 0, []), (12, 0, []), (13, 2, []), (14, 0, [])]))]), (12, [(6, (none, [(0, 0, []), (1, 0, []), (2, 0, []), (3, 1, []), (4, 0, []), (5, 0, []), (6, 0, []), (7, 1, []), (8, 0, [])]))]), (19, [(7, (none, [(0, 0, []), (1, 1, []), (4, 0, []), (5, 1, []), (9, 0, []), (10, 1, []), (2, 4, []), (3, 0, []), (6, 4, []), (7, 0, []), (8, 0, []), (11, 0, []), (12, 0, []), (13, 2, [])]))]), (22, [(9, (none, [(0, 0, []), (1, 0, []), (2, 0, []), (3, 0, []), (4, 0, []), (5, 0, []), (6, 0, []), (7, 2, []), (8, 0, []), (9, 0, [])]))]), (23, [(18, (some [3], [(0, 0, []), (1, 0, []), (2, 0, []), (3, 1, []), (4, 0, []), (5, 0, []), (7, 0, []), (8, 0, []), (9, 1, []), (10, 0, []), (11, 0, []), (6, 6, []), (12, 4, []), (13, 0, [])])), (20, (none, [(0, 0, []), (1, 0, []), (2, 1, []), (3, 0, []), (4, 0, []), (5, 0, []), (6, 0, [])]))]), (25, [(5, (none, [(0, 0, []), (1, 0, []), (2, 0, []), (3, 0, []), (4, 0, []), (5, 0, []), (6, 0, []), (7, 0, []), (8, 0, []), (9, 0, [])]))]), (27, [(5, (none, [(0, 0, []), (1, 0, []), (2, 1, []), (5, 0, []), (6, 1, []), (10, 0, []), (11, 1, []), (3, 4, []), (4, 0, []), (7, 4, []), (8, 0, []), (9, 0, []), (12, 0, []), (13, 0, []), (14, 0, []), (15, 0, [])]))]), (33, [(1, (some [], [(0, 0, []), (1, 0, []), (2, 0, []), (3, 1, []), (5, 0, []), (6, 0, []), (7, 0, []), (8, 1, []), (9, 0, []), (4, 4, []), (10, 2, []), (11, 0, [])]))]), (48, [(7, (none, [(0, 0, []), (1, 0, []), (2, 0, []), (3, 0, []), (4, 0, []), (5, 0, []), (6, 0, []), (7, 0, []), (8, 0, []), (9, 0, []), (10, 0, []), (11, 0, []), (12, 2, []), (13, 0, []), (14, 2, [])])), (8, (none, [(0, 0, []), (1, 0, []), (2, 0, []), (3, 0, []), (4, 0, []), (5, 0, []), (6, 0, []), (7, 0, []), (8, 0, []), (9, 0, []), (10, 0, []), (11, 0, []), (12, 2, []), (13, 0, []), (14, 2, [])])), (9, (none, [(0, 0, []), (1, 0, []), (2, 0, []), (3, 0, []), (4, 0, []), (5, 0, []), (6, 0, []), (7, 0, []), (8, 0, []), (9, 0, []), (10, 0, []), (11, 0, []), (12, 2, []), (13, 0, []), (14, 2, [])])), (10, (none, [(0, 0, []), (1, 0, []), (2, 0, []), (3, 0, []), (4, 0, []), (5, 0, []), (6, 0, []), (7, 0, []), (8, 0, []), (9, 0, []), (10, 0, []), (11, 0, []), (12, 2, []), (13, 0, []), (14, 2, [])])), (17, (none, [(0, 0, []), (1, 0, []), (2, 0, []), (3, 0, []), (4, 0, []), (5, 0, []), (6, 0, []), (7, 0, []), (8, 0, []), (9, 0, []), (10, 0, []), (11, 0, []), (12, 2, []), (13, 0, []), (14, 2, [])])), (18, (none, [(0, 0, []), (1, 0, []), (2, 0, []), (3, 0, []), (4, 0, []), (5, 0, []), (6, 0, []), (7, 0, []), (8, 0, []), (9, 0, []), (10, 0, []), (11, 0, []), (12, 2, []), (13, 0, []), (14, 2, [])])), (23, (none, [(0, 0, []), (1, 0, []), (2, 0, []), (3, 0, []), (4, 0, []), (5, 0, []), (6, 0, []), (7, 0, []), (8, 0, []), (9, 0, []), (10, 0, []), (11, 0, []), (12, 2, []), (13, 0, []), (14, 2, [])]))])]
def cfgN : Nat := 85
def skips : List Nat := [0, 1, 2, 19, 22, 28, 29, 30, 31, 32, 33, 34, 35, 36, 37, 38, 39, 40, 41, 42, 43, 44, 45, 46, 47, 48, 49, 50, 51, 52, 53, 54, 55, 56, 57, 58, 59, 60, 61, 62, 63, 64, 65, 66, 67, 68, 69, 70, 71, 72, 73, 74, 75, 76, 77, 78, 79, 80, 81, 82, 83, 84]
def extsOf : List (Nat × (List D → List (List D) → List (Option Row) → Option (List D × List (List D) × List (Option Row)))) := [(19, zk1), (22, ziS 3), (35, zfS Go.Proofs.YtmoocdlfclhgcaaDoor.numV)]
def zkh : List Nat := [19, 22, 35]
def zgj : List Nat := []
noncomputable def cfg : Cfg where
 ty := zcT tys
 fn := fun f => match Nat.blt f cfgN && !memN f skips && (!memN f zkh || memN f zgj) with | true => Go.Proofs.Tryd.prog.funcs[f]? | false => none
 mode := fun f => (zcT zmy f).getD []
 live := fun f r => ((zcT zl2 f).bind fun l => zcT l r).getD []
 out := fun f r => ((zcT zm0 f).bind fun l => zcT l r).getD []
 plan := fun f r => (zcT zmD f).bind fun l => zcT l r
 liv := fun f => memN f []
 ext := zcT extsOf
end Go.Den
namespace Go.Den
open Go.Proofs
open Go
set_option linter.unusedVariables false
theorem zeV {α : Type} {n : Nat} {x : α} : ∀ {l : List (Nat × α)}, zcT l n = some x → (n, x) ∈ l
 | [], h => by cases h
 | (a, y) :: l, h => by
   unfold zcT at h
   split at h
   · rename_i hb
     cases h
     rw [beq_eq.1 hb]
     exact List.mem_cons_self
   · exact List.mem_cons_of_mem _ (zeV h)
noncomputable def zl4 : Bool := tys.all fun p => tyIs Tryd.prog (zcT tys) p.1 p.2
theorem zkM : zl4 = true := by kernel_rfl
theorem zlO : TyOk Tryd.prog cfg.ty := fun t i h => (List.all_eq_true.1 zkM) (t, i) (zeV h)
def fnGood (C : Cfg) (f : Nat) : Bool :=
 match C.fn f with
 | some fn => !(fn.name == "runtime.NumGoroutine") && (match fn.body with | some c => zbj fn.ntmps c && zbz C.ty fn.ntmps (C.plan f) c | none => true)
 | none => true
noncomputable def fnsGood : Bool := (List.range cfgN).all (fnGood cfg)
theorem fns_good : fnsGood = true := by kernel_rfl
theorem zhX : Tryd.prog.follows .mixedOrders = true := by kernel_rfl
theorem zlR {B : Nat → Option Obj} {f : Nat} {fn : Func} (h : cfg.fn f = some fn) : FnOK Tryd.prog B cfg f fn := by
 have hlt : f < cfgN ∧ Tryd.prog.funcs[f]? = some fn := by
  unfold cfg at h
  simp only at h
  split at h
  · rename_i hb
    simp only [Bool.and_eq_true] at hb
    have : f + 1 ≤ cfgN := by simpa [Nat.blt] using hb.1.1
    exact ⟨by omega, h⟩
  · cases h
 have hg := (List.all_eq_true.1 fns_good) f (List.mem_range.2 hlt.1)
 unfold fnGood at hg
 rw [h] at hg
 simp only [Bool.and_eq_true, Bool.not_eq_true'] at hg
 refine ⟨hlt.2, hg.1, fun c hc => ?_, fun c hc call _ => ?_⟩
 · have := hg.2
   rw [hc] at this
   simp only [Bool.and_eq_true] at this
   exact this.1
 · have := hg.2
   rw [hc] at this
   simp only [Bool.and_eq_true] at this
   exact zbc (E := ⟨cfg.ty, cfg.mode, fn.ntmps, cfg.live f, cfg.out f, cfg.plan f, call⟩) zhX c this.1 this.2
theorem cfg_e {B : Nat → Option Obj} (hB : Go.Proofs.YtmoocdlfclhgcaaDoor.TabAt B) {f : Nat} {g : List D → List (List D) → List (Option Row) → Option (List D × List (List D) × List (Option Row))} (h : cfg.ext f = some g) : ExtOK Tryd.prog cfg.ty B f g := by
 have hm := zeV (show zcT extsOf f = some g from h)
 simp only [extsOf, List.mem_cons, Prod.mk.injEq, List.not_mem_nil, or_false] at hm
 rcases hm with ⟨rfl, rfl⟩ | ⟨rfl, rfl⟩ | ⟨rfl, rfl⟩
 · exact zmf hB (by kernel_rfl)
 · exact zmR (by kernel_rfl) (by kernel_rfl)
 · exact zkq (fn := Tryd.f35) (by kernel_rfl) (by kernel_rfl) (by kernel_rfl) Go.Proofs.YtmoocdlfclhgcaaDoor.l1_calls
theorem znw {B : Nat → Option Obj} (hB : Go.Proofs.YtmoocdlfclhgcaaDoor.TabAt B) : CfgOK Tryd.prog B cfg := zk2 zlO (fun f fn h => zlR h) (fun f g h => cfg_e hB h)
structure Says (P : Program) (B : Nat → Option Obj) (C : Cfg) : Prop where mk ::
 out : ∀ k, zck P C.ty B (den C k)
theorem zmc {P : Program} {B : Nat → Option Obj} {C : Cfg} (h : CfgOK P B C) : Says P B C := ⟨zdw h⟩
theorem zkI {B : Nat → Option Obj} (hB : Go.Proofs.YtmoocdlfclhgcaaDoor.TabAt B) : Says Tryd.prog B cfg := zmc (znw hB)
end Go.Den
