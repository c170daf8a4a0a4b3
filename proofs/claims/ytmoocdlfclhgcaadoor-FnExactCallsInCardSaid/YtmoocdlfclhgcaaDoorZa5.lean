/- Merged out of: D31 D32 D37 D38 D39 Shelf CNc CB CX D41 D43 CY Cf Fa D35 D36 (prune.py, a program of this work's). -/
import Derived.Test.YtmoocdlfclhgcaaDoorZa4
import Derived.Sort.Grow
import Derived.Sort.Row
import Derived.Lib.SlicesCompact
import Derived.Shelf.Strings.Builder1
import Derived.Shelf.Strconv.Itoa0
import Derived.Shelf.Strconv.Itoa1
import Derived.Shelf.LaysM
import Derived.Shelf.Strconv.Itoa2
import Derived.Shelf.Strconv.Itoa3
import Derived.Shelf.Strings.Search1
import Derived.Shelf.Strings.Search2
import Derived.Shelf.Strings.Search3
import Derived.Shelf.Strings.Shaped
import Derived.Test.YtmoocdlfclhgcaaDoorProg
import Derived.Test.YtmoocdlfclhgcaaDoorChecked
import Derived.WalkKit
import Derived.Deep.RegionWith
import Derived.Laws.IdiomStrings
import Derived.KernelRfl
import Derived.Deep.RegionHeld3
import Derived.Shelf.SlicesE.Clone
import Derived.Shelf.Spec.SlicesInsert
import Derived.Shelf.Spec.SlicesInsertGrow
import Derived.Test.YtmoocdlfclhgcaaDoorZa2
import Derived.Deep.Slices
import Derived.Deep.Fields
import Derived.ChangeSame
import Derived.ProofKit
import Derived.Lib.SmallJoins
import Derived.OpenShut
import Derived.ShutString
import Derived.ChangeOld
import Derived.Below
set_option linter.unusedVariables false
set_option linter.unusedSimpArgs false
set_option linter.unnecessarySimpa false
namespace Go.Den
open Go Go.RowKit
set_option linter.unusedVariables false
variable {B : Nat → Option Obj}
def Gd (c0 : Cx) (a0 : Act) : Option (List Nat) → Nat → Prop
 | none, _ => True
 | some M, g => (g < c0.W.heap.size ∧ stable (c0.ρ g)) ∨ ∃ n ∈ M, a0.tmps.getD n undef = .pointer (some ⟨g, 0, none⟩)
def RG (G : Nat → Prop) (w w' : World) : Prop := w.heap.size ≤ w'.heap.size ∧ ∀ g, g < w.heap.size → G g → w'.heap[g]? = w.heap[g]?
theorem RG.refl {G : Nat → Prop} (w : World) : RG G w w := ⟨Nat.le_refl _, fun _ _ _ => rfl⟩
theorem RG.trans {G : Nat → Prop} (a b c : World) (h : RG G a b) (k : RG G b c) : RG G a c :=
 ⟨Nat.le_trans h.1 k.1, fun g hg hG => (k.2 g (Nat.lt_of_lt_of_le hg h.1) hG).trans (h.2 g hg hG)⟩
theorem RG.of_below {G : Nat → Prop} {w w' : World} (h : Below w.heap.size w w') : RG G w w' := ⟨h.size, fun g hg _ => h.block g hg⟩
theorem zgq {a : Act} {x : Option Nat} {v : Value} {y : Nat} (h : x ≠ some y) : (a.put x v).tmps.getD y undef = a.tmps.getD y undef := by
 cases x with
 | none => rfl
 | some x =>
   have hxy : x ≠ y := fun e => h (by rw [e])
   simp [Act.put, Array.getD_eq_getD_getElem?, Array.getElem?_setIfInBounds_ne hxy]
def AllocAt (ops : Array Oper) (c0 c : Cx) (a : Act) (j g : Nat) : Prop :=
 ∃ o t n i vs T, ops[j]? = some o ∧ o.op = .alloc t ∧ o.dst = some n ∧ c.ty t = some i ∧ c0.W.heap.size ≤ g ∧ c.ρ g = .oth ∧ c.W.heap[g]? = some (.cells (List.toArray vs) T (0, 0)) ∧ a.tmps.getD n undef = .pointer (some ⟨g, 0, none⟩) ∧ ∀ c' Y, c'.ty = c.ty → zc4 (Cx.nilH c' Y) Y i.zero vs
theorem AllocAt.step {ops : Array Oper} {c0 c c' : Cx} {a a' : Act} {j g : Nat} {x : Option Nat} {v : Value} (h : AllocAt ops c0 c a j g) (he : Ext c c') (ha : a'.tmps = (a.put x v).tmps) (hx : ∀ o n, ops[j]? = some o → o.dst = some n → x ≠ some n) : AllocAt ops c0 c' a' j g := by
 obtain ⟨o, t, n, i, vs, T, h1, h2, h3, h4, h5, h6, h7, h8, h9⟩ := h
 have hlt := (Array.getElem?_eq_some_iff.1 h7).1
 obtain ⟨h10, h11⟩ := he.keep g hlt (by rw [h6]; trivial)
 refine ⟨o, t, n, i, vs, T, h1, h2, h3, by rw [he.ty]; exact h4, h5, h10.trans h6, h11.trans h7, ?_, fun c' Y e => h9 c' Y (by rw [e, he.ty])⟩
 rw [ha, zgq (hx o n h1 h3)]
 exact h8
structure Inv (P : Program) (B : Nat → Option Obj) (E : Env) (ops : Array Oper) (X : Nat) (Mo : Option (List Nat)) (c0 : Cx) (a0 : Act) (first : Bool) (A : List Nat) (blk : Nat → Nat) (c : Cx) (a : Act) : Prop where
 base : Firm B c0
 fr : Fr X c a
 env : EnvOK P B E c a
 ext : Ext c0 c
 sz : a.tmps.size = a0.tmps.size
 df : a.defers = a0.defers
 mtm : ∀ M, Mo = some M → ∀ n ∈ M, a.tmps.getD n undef = a0.tmps.getD n undef
 fst : first = true → ∀ b g, Rd c.ρ b g → g < c.W.heap.size → g < c0.W.heap.size ∧ stable (c0.ρ g)
 al : ∀ j, memN j A = true → AllocAt ops c0 c a j (blk j)
 dis : ∀ j k, memN j A = true → memN k A = true → j ≠ k → blk j ≠ blk k
theorem zf2 {α : Type} {E : Env} {ops : Array Oper} {c : Cx} {a : Act} {o : Oper} {k z : St → Option α} {r : α} (hs : Sim c a.tmps) (hops : ∀ o ∈ ops.toList, za1 E.nt o = true) (hsz : a.tmps.size = E.nt) (h : zby ops c.s o.guard k z = some r) :
 (Region.wanted o (yielded ops a.tmps) = true ∧ k c.s = some r) ∨ (Region.wanted o (yielded ops a.tmps) = false ∧ z c.s = some r) := by
 unfold zby at h
 split at h
 · rename_i hg
   exact .inl ⟨by simp [Region.wanted, hg], h⟩
 · rename_i j want hg
   split at h
   · cases h
   · rename_i n hn
     have hnlt : n < a.tmps.size := by
      cases hj : ops[j]? with
      | none => rw [hj] at hn; cases hn
      | some oj =>
        rw [hj] at hn
        rw [hsz]
        exact zaN (hops oj (by have := Array.mem_of_getElem? hj; exact Array.mem_toList_iff.2 this)) n hn
     obtain ⟨h1, h2⟩ := zgG (ops := ops) (j := j) hs hnlt hn
     split at h
     · rename_i b hb
       have hy := h1 _ hb
       cases b with
       | true =>
         simp only at h
         rw [zcS hb] at h
         cases want with
         | true => exact .inl ⟨by simp [Region.wanted, hg, hy], h⟩
         | false => exact .inr ⟨by simp [Region.wanted, hg, hy], h⟩
       | false =>
         simp only at h
         rw [zcS hb] at h
         cases want with
         | true => exact .inr ⟨by simp [Region.wanted, hg, hy], h⟩
         | false => exact .inl ⟨by simp [Region.wanted, hg, hy], h⟩
     · rename_i hb
       have hy := h2 hb
       exact .inr ⟨by simp [Region.wanted, hg, hy], h⟩
     · cases h
theorem zi1 {c : Cx} {a : Act} {X : Nat} {x : Option Nat} (hf : Fr X c a) (hd : ∀ n : Nat, x = some n → n < a.tmps.size) : Fr X { c with s := c.s.putO x .undef } (a.put x undef) ∧ Ext c { c with s := c.s.putO x .undef } := by
 cases x with
 | none => exact ⟨hf, Ext.refl c⟩
 | some n =>
   have hlt := hd n rfl
   have hne : X ≠ n := Nat.ne_of_gt (Nat.lt_of_lt_of_le hlt hf.ghost.out)
   have hsim := (Grown.refl c n).put hf.sim hlt (show VR c (.slot n []) .undef undef from rfl)
   exact ⟨⟨hsim, by simpa [Act.put] using hf.ghost.out, zaT hne hf.ghost.own⟩, (Ext.refl c).setS _⟩
theorem zkN {s : St} {n : Nat} (h : zlX s n = true) : ∃ r, s.t n = .ptr r 0 ∧ (s.box r).isSome = true := by
 unfold zlX at h
 split at h
 · rename_i r o ht
   simp only [Bool.and_eq_true] at h
   rw [beq_eq.1 h.1] at ht
   exact ⟨r, ht, h.2⟩
 · cases h
theorem zbn (a : Act) (x : Option Nat) (v : Value) : (a.put x v).tmps.size = a.tmps.size := by cases x <;> simp [Act.put]
theorem zaZ (a : Act) (x : Option Nat) (v : Value) : (a.put x v).defers = a.defers := by cases x <;> rfl
theorem zaA {s : St} {x : Nat} {d : D} (h : (s.t x).hasOwn = false) : s.put x d = { s with t := fun y => match Nat.beq y x with | true => d | false => s.t y } := by
 simp only [St.put, h]
 rfl
theorem zhb {s : St} {x : Nat} {d : D} : (s.put x d).box = s.box := by
 funext r
 unfold St.put
 cases h : (s.t x).hasOwn <;> cases r <;> rfl
theorem zeR {s s' : St} {o : Oper} {y : Nat} {ef : Ef} (hy : o.dst = some y) (h : s.apply o.dst ef = some s') (hj : (s.t y).hasOwn = false) {w : Nat} (hw : w ≠ y) : s'.t w = s.t w := by
 have hb : Nat.beq w y = false := beq_ne.2 hw
 rw [hy] at h
 have hput : ∀ (s : St) (d : D), (s.t y).hasOwn = false → (s.put y d).t w = s.t w := fun s d hs => by
  rw [zaA hs]
  simp only [hb]
 cases ef with
 | pure d =>
   cases h
   exact hput s d hj
 | new cs =>
   simp only [St.apply] at h
   split at h
   · cases h
     have h1 : (s.setBox (.loc y) cs).t = s.t := setBox_tl.1
     rw [hput _ _ (by rw [h1]; exact hj), h1]
   · cases h
 | made cs =>
   simp only [St.apply] at h
   split at h
   · cases h
     have h1 : (s.setBox (.loc y) cs).t = s.t := setBox_tl.1
     rw [hput _ _ (by rw [h1]; exact hj), h1]
   · cases h
theorem zjO {E : Env} {lk : Operand → D} {gp : Pl → Option Row} {bx : Ref → Option (List D)} {ty t : Nat} {zl zc : Operand} {ef : Ef} (h : evOp E lk gp bx ty (.makeSlice t zl zc) = some ef) : ∃ d, ef = .pure d := by
 simp only [evOp, Option.bind_eq_some_iff] at h
 obtain ⟨i, _, h⟩ := h
 split at h
 · simp only [Option.bind_eq_some_iff] at h
   obtain ⟨j, _, z, _, n, _, m, _, h⟩ := h
   split at h
   · split at h
     · exact ⟨_, (Option.some.inj h).symm⟩
     · cases h
   · cases h
 · cases h
theorem zho {E : Env} {lk lk' : Operand → D} : ∀ {zs : List Operand} {ts : List Nat}, (∀ z ∈ zs, lk z = lk' z) → zau E lk zs ts = zau E lk' zs ts
 | [], _, _ => rfl
 | z :: zs, ts, h => by
   unfold zau
   rw [h z List.mem_cons_self, zho (fun z hz => h z (List.mem_cons_of_mem _ hz))]
theorem zhp {s : St} {x : Nat} {d : D} (hj : s.t x = .junk) {q : Pl} {r : Row} (h : s.get q = some r) : (s.put x d).get q = some r := by
 have ho : (s.t x).hasOwn = false := by rw [hj]; rfl
 rw [zaA ho]
 cases q with
 | slot y l =>
   have h : (D.at_ l (s.t y)).row? = some r := h
   have hne : y ≠ x := fun e => by
    rw [e, hj] at h
    cases l <;> cases h
   show (D.at_ l (match Nat.beq y x with | true => d | false => s.t y)).row? = some r
   rw [beq_ne.2 hne]
   exact h
 | cell r0 o => cases r0 <;> exact h
 | lent j => exact h
theorem zf5 {s : St} {x y : Nat} {d e : D} (hxy : x ≠ y) (hx : (s.t x).hasOwn = false) (hy : (s.t y).hasOwn = false) : (s.put x d).put y e = (s.put y e).put x d := by
 have h1 : ((s.put x d).t y).hasOwn = false := by
  rw [zaA hx]
  show (match Nat.beq y x with | true => d | false => s.t y).hasOwn = false
  rw [beq_ne.2 (fun h => hxy h.symm)]
  exact hy
 have h2 : ((s.put y e).t x).hasOwn = false := by
  rw [zaA hy]
  show (match Nat.beq x y with | true => e | false => s.t x).hasOwn = false
  rw [beq_ne.2 hxy]
  exact hx
 rw [zaA h1, zaA h2, zaA hx, zaA hy]
 simp only [St.mk.injEq, and_true]
 funext w
 by_cases hwx : w = x
 · have hwy : w ≠ y := fun h => hxy (hwx.symm.trans h)
   simp only [beq_eq.2 hwx, beq_ne.2 hwy]
 · by_cases hwy : w = y
   · simp only [beq_ne.2 hwx, beq_eq.2 hwy]
   · simp only [beq_ne.2 hwx, beq_ne.2 hwy]
theorem zfJ {s : St} {x : Nat} {d : D} {r : Ref} {cs : List D} (hx : (s.t x).hasOwn = false) : (s.put x d).setBox r cs = (s.setBox r cs).put x d := by
 have h1 : ((s.setBox r cs).t x).hasOwn = false := by rw [setBox_tl.1]; exact hx
 rw [zaA hx, zaA h1]
 cases r <;> rfl
theorem zi7 {s s1 : St} {x y : Nat} {d : D} {ef : Ef} (hxy : x ≠ y) (hx : s.t x = .junk) (hy : s.t y = .junk) (h : s.apply (some y) ef = some s1) : (s.put x d).apply (some y) ef = some (s1.put x d) := by
 have hx' : (s.t x).hasOwn = false := by rw [hx]; rfl
 have hy' : (s.t y).hasOwn = false := by rw [hy]; rfl
 have hb : ∀ n, (s.put x d).b n = s.b n := fun n => by rw [zaA hx']
 have hsb : ∀ cs, ((s.put x d).setBox (.loc y) cs).put y (.ptr (.loc y) 0) = ((s.setBox (.loc y) cs).put y (.ptr (.loc y) 0)).put x d := fun cs => by
  rw [zfJ hx']
  exact zf5 hxy (by rw [setBox_tl.1]; exact hx') (by rw [setBox_tl.1]; exact hy')
 cases ef with
 | pure e =>
   cases h
   show some ((s.put x d).put y e) = some ((s.put y e).put x d)
   rw [zf5 hxy hx' hy']
 | new cs =>
   simp only [St.apply] at h ⊢
   rw [hb]
   split at h
   · cases h
     simp only [hsb]
   · cases h
 | made cs =>
   simp only [St.apply] at h ⊢
   rw [hb]
   split at h
   · cases h
     simp only [hsb]
   · cases h
theorem zkr {E : Env} {s : St} {o : Oper} {ty t : Nat} {z : Operand} (ho : o.op = .load t z) (h : zbL s o = true) (hne : evOp E s.look s.get s.box ty o.op ≠ none) : ∃ x, evOp E s.look s.get s.box ty o.op = some (.pure (.dat x)) := by
 obtain ⟨ef, hef⟩ := Option.ne_none_iff_exists'.1 hne
 refine Exists.imp (fun x hx => hef.trans hx) ?_
 rw [ho] at hef
 simp only [evOp, Option.bind_eq_some_iff, Option.map_eq_some_iff] at hef
 obtain ⟨i, hi, d, hd, rfl⟩ := hef
 unfold zbL at h
 rw [ho] at h
 simp only at h
 split at h
 · rename_i w q j off hz
   rw [hz] at hd
   simp only [zcx, Option.bind_eq_some_iff, Option.map_eq_some_iff] at hd
   obtain ⟨_, _, _, _, x, _, rfl⟩ := hd
   exact ⟨x, rfl⟩
 · rename_i b cs hz
   rw [hz] at hd
   simp only [zcx, Option.map_eq_some_iff] at hd
   obtain ⟨x, _, rfl⟩ := hd
   exact ⟨x, rfl⟩
 · cases h
theorem zdl {s : St} {y : Nat} {d : D} (hj : (s.t y).hasOwn = false) {z : Operand} (hz : zb7 y z = false) : (s.put y d).look z = s.look z := by
 cases z with
 | tmp w =>
   have hw : w ≠ y := fun e => by
    have : zb7 y (.tmp w) = true := beq_eq.2 e.symm
    rw [this] at hz; cases hz
   rw [zaA hj]
   show D.alias _ (match Nat.beq w y with | true => d | false => s.t w) = _
   rw [beq_ne.2 hw]
   rfl
 | _ => rfl
def zlu : Ref → D → Bool
 | .loc _ => za0
 | .up _ => zcD
theorem zjH (E : Env) (s : St) (ts : Nat) (r : Ref) (off : Nat) (w : Value) : zch E s ts (.ptr r off) (.dat (.val w)) = (E.ty ts).bind fun i => match Nat.beq 1 i.sz && ([D.dat (.val w)]).all (zlu r) with
 | false => none
 | true => (s.box r).bind fun cs => match isM cs with
   | true => none
   | false => if off + 1 ≤ cs.length then some ((s.killed (Kill.cells r off 1)).setBox r (cs.take off ++ [D.dat (.val w)] ++ cs.drop (off + 1))) else none := by
 cases r <;> rfl
theorem zgC {s : St} {y : Nat} {d : D} (hj : (s.t y).hasOwn = false) : (s.put y d).b = s.b ∧ (s.put y d).u = s.u ∧ (s.put y d).l = s.l ∧ ∀ x, (s.put y d).t x = if x = y then d else s.t x := by
 rw [zaA hj]
 refine ⟨rfl, rfl, rfl, fun x => ?_⟩
 show (match Nat.beq x y with | true => d | false => s.t x) = _
 by_cases h : x = y
 · rw [if_pos h, beq_eq.2 h]
 · rw [if_neg h, beq_ne.2 h]
theorem zlg {s s' : St} (h : s.b = s'.b) : ∀ n, s.keys n = s'.keys n
 | 0 => rfl
 | n + 1 => by unfold St.keys; rw [h, zlg h n]
theorem zjz {s s' : St} (h : s.b = s'.b) : ∀ (k : Nat) (l : List Nat), zjV s k l = zjV s' k l
 | 0, l => rfl
 | k + 1, l => by unfold zjV; rw [h, zjz h k]
theorem zmm {s s' : St} (h : s.b = s'.b) (nt : Nat) (cap : List Ref) (args : List D) : s.sent nt cap args = s'.sent nt cap args := by
 unfold St.sent
 rw [zlg h, zjz h]
theorem zjL {s s' : St} (h : s.b = s'.b) (hu : s.u = s'.u) (keys : List Nat) (cap : List Ref) (args : List D) : s.upsSent keys cap args = s'.upsSent keys cap args := by
 unfold St.upsSent
 rw [h, hu]
theorem zhP {s : St} {y : Nat} {d : D} (hy : s.t y = .junk) (hd : zcP d = true) : (s.put y d).get = s.get := by
 have hj : (s.t y).hasOwn = false := by rw [hy]; rfl
 obtain ⟨hb, hu, hl, ht⟩ := zgC (d := d) hj
 have hbox : (s.put y d).box = s.box := by
  funext r
  cases r with
  | loc n => show (s.put y d).b n = s.b n; rw [hb]
  | up n => show (s.put y d).u[n]? = s.u[n]?; rw [hu]
 funext p
 cases p with
 | slot x q =>
   show (((s.put y d).t x).at_ q).row? = ((s.t x).at_ q).row?
   rw [ht]
   split
   · rename_i e
     subst e
     rw [hy]
     cases d with
     | bor p n => cases q <;> rfl
     | _ => cases hd
   · rfl
 | cell r o => simp only [St.get, hbox]
 | lent j => simp only [St.get, hl]
theorem zgQ {E : Env} {s : St} {y : Nat} {d : D} (hj : (s.t y).hasOwn = false) : ∀ (l : List Operand) (ts : List Nat), (∀ z ∈ l, zb7 y z = false) → zau E (s.put y d).look l ts = zau E s.look l ts
 | [], ts, _ => rfl
 | z :: l, ts, h => by
   unfold zau
   rw [zdl hj (h z (by simp)), zgQ hj l ts.tail fun z hz => h z (by simp [hz])]
theorem zdS {s : St} : ∀ (ms : List Nat) (ds : List D), zbb ms = true → zal ms ds s = some (ds, s)
 | _, [], _ => by unfold zal; rfl
 | [], d :: ds, h => by unfold zal; simp [zdS [] ds rfl]
 | m :: ms, d :: ds, h => by
   unfold zbb at h
   simp only [Bool.and_eq_true] at h
   have hm : m = 0 := beq_eq.1 h.1
   subst hm
   unfold zal
   simp [zdS ms ds h.2]
theorem zeU {gp : Pl → Option Row} : ∀ (ms : List Nat) (ds : List D), zbb ms = true → zax gp ms ds = some []
 | _, [], _ => by unfold zax; rfl
 | [], d :: ds, h => by unfold zax; simp [zeU [] ds rfl]
 | m :: ms, d :: ds, h => by
   unfold zbb at h
   simp only [Bool.and_eq_true] at h
   have hm : m = 0 := beq_eq.1 h.1
   subst hm
   unfold zax
   simp [zeU ms ds h.2]
theorem zgM {gp : Pl → Option Row} : ∀ {ds : List D}, ds.any zkB = true → zeh gp ds = none
 | [], h => by cases h
 | d :: ds, h => by
   unfold zeh
   simp only [List.any_cons, Bool.or_eq_true] at h
   rcases h with h | h
   · cases d with
     | ptr r o => rfl
     | _ => cases h
   · rw [zgM h]
     cases ziM gp d <;> rfl
theorem zgT : ∀ {ds : List D}, ds.any zkB = true → ds.all zgj = false
 | [], h => by cases h
 | d :: ds, h => by
   simp only [List.any_cons, Bool.or_eq_true] at h
   simp only [List.all_cons, Bool.and_eq_false_iff]
   rcases h with h | h
   · cases d with
     | ptr r o => exact .inl rfl
     | _ => cases h
   · exact .inr (zgT h)
theorem zhg {E : Env} {s : St} {oj : Oper} {ca : Call} {z : Operand} {f x : Nat} {cap : List Ref} (ho : oj.op = .call ca) (hc : ca.callee = .value z) (hz : s.look z = .fn f cap) (hdst : oj.dst = some x) (hm : zbb (E.mode f) = true) (hk : s.sent E.nt cap (zau E s.look ca.args.toList ca.argTypes.toList) = []) (hp : (zau E s.look ca.args.toList ca.argTypes.toList).any zkB = true) :
 step E s oj = (zaq (hide [] true s.get) (s.upsSent [] cap (zau E s.look ca.args.toList ca.argTypes.toList)) [] (E.mode f) 0 (zau E s.look ca.args.toList ca.argTypes.toList)).bind fun v =>
  (zbB (s.upsSent [] cap (zau E s.look ca.args.toList ca.argTypes.toList)) [] cap).bind fun caps =>
  (zb6 (s.upsSent [] cap (zau E s.look ca.args.toList ca.argTypes.toList)) [] (s.u.take (s.upsSent [] cap (zau E s.look ca.args.toList ca.argTypes.toList)) ++ [])).bind fun us =>
  (E.call f (v.1 ++ caps.map fun r => .ptr r 0) us []).bind fun q =>
  match (v.2 && !(D.cleans q.1 && (zaX q.2.2 && za8 q.2.1))) || !D.plains q.1 with
  | true => none
  | false => some ((s.regain (s.upsSent [] cap (zau E s.look ca.args.toList ca.argTypes.toList)) [] q.2.1).put x (retD q.1)) := by
 have hev : evOp E s.look s.get s.box oj.type oj.op = none := by
  rw [ho]
  simp only [evOp, hc, hz]
  cases cap with
  | nil =>
    simp only [zcY, hm, zgM hp, Option.bind_none]
  | cons r l => rfl
 unfold step
 rw [hev, ho]
 simp only [doOp, hc, hz, zfA, zdS _ _ hm, zeU _ _ hm, Option.bind_some, zaJ, zgT hp, Bool.and_false, List.all_nil, hk, zdF, List.map_nil, hdst]
 rfl
theorem ziX {s : St} {y m : Nat} {d : D} {u : List (List D)} (hy : s.t y = .junk) (hd : zcP d = true) : (s.put y d).regain m [] u = (s.regain m [] u).put y d := by
 have hj : (s.t y).hasOwn = false := by rw [hy]; rfl
 have hj2 : ((s.regain m [] u).t y).hasOwn = false := by
  show ((s.t y).kill _).hasOwn = false
  rw [hy]; rfl
 obtain ⟨hb, hu, hl, ht⟩ := zgC (d := d) hj
 obtain ⟨hb2, hu2, hl2, ht2⟩ := zgC (d := d) hj2
 have hdk : d.kill (Kill.sent m []) = d := by
  unfold zcP at hd
  split at hd
  · rfl
  · cases hd
 have e : ∀ a b : St, a.t = b.t → a.b = b.b → a.u = b.u → a.l = b.l → a = b := fun a b h1 h2 h3 h4 => by
  cases a; cases b; simp only at h1 h2 h3 h4; subst h1 h2 h3 h4; rfl
 refine e _ _ ?_ ?_ ?_ ?_
 · funext x
   rw [ht2]
   show ((s.put y d).t x).kill _ = if x = y then d else (s.t x).kill _
   rw [ht]
   split
   · exact hdk
   · rfl
 · rw [hb2]
   funext n
   exact congrFun hb n
 · rw [hu2]
   show _ ++ (s.put y d).u.drop m = _ ++ s.u.drop m
   rw [hu]
 · rw [hl2]
   exact hl
theorem zjT {E : Env} {s s2 : St} {x y : Nat} {d : D} {oj : Oper} {ca : Call} (hy : s.t y = .junk) (hx : s.t x = .junk) (hd : zcP d = true) (ho : oj.op = .call ca) (hdst : oj.dst = some x) (hxy : x ≠ y) (hcal : (match ca.callee with | .value (.func _) => true | _ => false) = true) (hok : zcM E (s.put y d) oj = true) (hna : ∀ z ∈ ca.args.toList, zb7 y z = false) (h : step E (s.put y d) oj = some s2) :
 ∃ t1, step E s oj = some t1 ∧ s2 = t1.put y d ∧ ∀ {ty t : Nat} {z : Operand}, zb7 x z = false → (∃ n off, s.look z = .ptr (.loc n) off) → evOp E s.look s.get s.box ty (.load t z) = some (.pure d) → evOp E t1.look t1.get t1.box ty (.load t z) = some (.pure d) := by
 have hjy : (s.t y).hasOwn = false := by rw [hy]; rfl
 have hjx : (s.t x).hasOwn = false := by rw [hx]; rfl
 obtain ⟨hb, hu, hl, ht⟩ := zgC (d := d) hjy
 unfold zcM at hok
 rw [ho] at hok
 simp only at hok
 split at hok
 · rename_i z hc
   have hnz : zb7 y z = false := by
    rw [hc] at hcal
    split at hcal
    · rename_i heq
      cases heq
      rfl
    · cases hcal
   split at hok
   · rename_i f cap hz
     simp only [Bool.and_eq_true, List.isEmpty_iff] at hok
     obtain ⟨hm, hk, hp⟩ := hok
     rw [zhg ho hc hz hdst hm hk hp] at h
     have hz' : s.look z = .fn f cap := by rw [← zdl hjy hnz]; exact hz
     rw [zgQ hjy _ _ hna] at h hk hp
     rw [zmm hb] at hk
     rw [zhP hy hd, zjL hb hu, hu] at h
     rw [zhg ho hc hz' hdst hm hk hp]
     generalize s.upsSent [] cap (zau E s.look ca.args.toList ca.argTypes.toList) = m at *
     simp only [Option.bind_eq_some_iff] at h
     obtain ⟨v, hv, caps, hcaps, us, hus, q, hq, h⟩ := h
     split at h
     · cases h
     rename_i hcond
     cases h
     have hjx2 : ((s.regain m [] q.2.1).t x).hasOwn = false := by
      show ((s.t x).kill _).hasOwn = false
      rw [hx]; rfl
     have hjy2 : ((s.regain m [] q.2.1).t y).hasOwn = false := by
      show ((s.t y).kill _).hasOwn = false
      rw [hy]; rfl
     refine ⟨(s.regain m [] q.2.1).put x (retD q.1), ?_, ?_, fun {ty t z2} hz2 hloc hl2 => ?_⟩
     · simp only [hv, hcaps, hus, hq, Option.bind_some, hcond]
     · rw [ziX hy hd, zf5 (fun e => hxy e.symm) hjy2 hjx2]
     · simp only [evOp, Option.bind_eq_some_iff, Option.map_eq_some_iff] at hl2 ⊢
       obtain ⟨i, hi, d0, hd0, hpd⟩ := hl2
       cases hpd
       refine ⟨i, hi, d, ?_, rfl⟩
       obtain ⟨n, off, hlk⟩ := hloc
       have hlk1 : ((s.regain m [] q.2.1).put x (retD q.1)).look z2 = .ptr (.loc n) off := by
        rw [zdl hjx2 hz2]
        cases z2 with
        | tmp w =>
          have h1 : (s.t w).alias (.slot w []) = .ptr (.loc n) off := hlk
          show ((s.t w).kill _).alias (.slot w []) = _
          have h2 : s.t w = .ptr (.loc n) off := by
           cases h3 : s.t w <;> rw [h3] at h1 <;> first | exact h1 | cases h1
          rw [h2]
          rfl
        | _ => exact hlk
       rw [hlk] at hd0
       rw [hlk1]
       have hbx : ((s.regain m [] q.2.1).put x (retD q.1)).box (.loc n) = s.box (.loc n) := by
        show ((s.regain m [] q.2.1).put x (retD q.1)).b n = s.b n
        rw [(zgC hjx2).1]
        rfl
       unfold zcx at hd0 ⊢
       simp only at hd0 ⊢
       rw [hbx]
       exact hd0
   · cases hok
 · cases hok
theorem zi0 {E : Env} {s s2 : St} {y : Nat} {x : Dat} {oj : Oper} {ts : Nat} {ad vl : Operand} (hj : s.t y = .junk) (ho : oj.op = .store ts ad vl) (hok : zbC (s.put y (.dat x)) oj = true) (hna : zb7 y ad = false) (hnv : zb7 y vl = false) (h : step E (s.put y (.dat x)) oj = some s2) :
 ∃ t1, step E s oj = some t1 ∧ s2 = t1.put y (.dat x) ∧ ∀ {o : Oper} {ty t : Nat} {z : Operand} {ef : Ef}, zbL s o = true → o.op = .load t z → evOp E s.look s.get s.box ty (.load t z) = some ef → evOp E t1.look t1.get t1.box ty (.load t z) = some ef := by
 have hj' : (s.t y).hasOwn = false := by rw [hj]; rfl
 unfold zbC at hok
 rw [ho] at hok
 simp only at hok
 split at hok
 · rename_i r off w ha hv
   have hla : s.look ad = .ptr r off := by rw [← zdl hj' hna]; exact ha
   have hlv : s.look vl = .dat (.val w) := by rw [← zdl hj' hnv]; exact hv
   have hnil : zeE vl = false := by
    unfold zeE
    split
    · have h0 : (St.put y (.dat x) s).look (.const (.slice none 0 0)) = .dat (.lst false []) := rfl
      rw [h0] at hv
      cases hv
    · rfl
   have hstep : ∀ s : St, s.look ad = .ptr r off → s.look vl = .dat (.val w) → step E s oj = zch E s ts (.ptr r off) (.dat (.val w)) := fun s h1 h2 => by
    unfold step
    rw [ho]
    simp only [evOp, doOp, hnil, h1, h2]
   rw [hstep _ ha hv] at h
   have hdo := fun s : St => zjH E s ts r off w
   rw [hdo] at h
   simp only [Option.bind_eq_some_iff] at h
   obtain ⟨i, hi, h⟩ := h
   split at h
   · cases h
   · rename_i hcond
     simp only [Option.bind_eq_some_iff] at h
     obtain ⟨cs, hcs, h⟩ := h
     split at h
     · cases h
     · rename_i hm
       split at h
       · rename_i hle
         cases h
         rw [zhb] at hcs
         refine ⟨(s.killed (Kill.cells r off 1)).setBox r (cs.take off ++ [D.dat (.val w)] ++ cs.drop (off + 1)), ?_, ?_, ?_⟩
         · rw [hstep _ hla hlv, hdo]
           simp only [hi, Option.bind_some, hcond, hcs, hm, hle, if_true]
         · have h1 : ((s.killed (Kill.cells r off 1)).t y).hasOwn = false := by
            show ((s.t y).kill _).hasOwn = false
            rw [zav]; exact hj'
           rw [← zfJ h1]
           congr 1
           rw [zaA h1, zaA hj']
           simp only [St.killed, St.mk.injEq, and_true]
           funext q
           cases hb : Nat.beq q y <;> simp only [D.kill]
         · intro o ty t z ef hrl hol hev
           unfold zbL at hrl
           rw [hol] at hrl
           simp only at hrl
           have hlook : ∀ d, s.look z = d → (∃ w q j off, d = .bp (.slot w q) j off) ∨ (∃ b cs, d = .ep b cs) → ((s.killed (Kill.cells r off 1)).setBox r (cs.take off ++ [D.dat (.val w)] ++ cs.drop (off + 1))).look z = d := by
            intro d hd hor
            cases z with
            | tmp q =>
              show D.alias _ (((s.killed (Kill.cells r off 1)).setBox r _).t q) = d
              rw [setBox_tl.1]
              show D.alias _ ((s.t q).kill _) = d
              have hd' : D.alias (.slot q []) (s.t q) = d := hd
              cases hq : s.t q with
              | bp p j o2 =>
                rw [hq] at hd'
                have e : D.bp p j o2 = d := hd'
                subst e
                rcases hor with ⟨w2, q2, j2, off2, e⟩ | ⟨b, cs2, e⟩
                · cases e; rfl
                · cases e
              | ep b cs2 =>
                rw [hq] at hd'
                exact hd'
              | _ =>
                rw [hq] at hd'
                simp only [D.alias] at hd'
                subst hd'
                rcases hor with ⟨_, _, _, _, e⟩ | ⟨_, _, e⟩ <;> cases e
            | _ => exact hd
           simp only [evOp, Option.bind_eq_some_iff, Option.map_eq_some_iff] at hev ⊢
           obtain ⟨i2, hi2, d, hd, rfl⟩ := hev
           refine ⟨i2, hi2, d, ?_, rfl⟩
           split at hrl
           · rename_i w2 q2 j2 off2 hz
             rw [hlook _ hz (.inl ⟨_, _, _, _, rfl⟩)]
             rw [hz] at hd
             simp only [zcx] at hd ⊢
             have hget : ((s.killed (Kill.cells r off 1)).setBox r (cs.take off ++ [D.dat (.val w)] ++ cs.drop (off + 1))).get (.slot w2 q2) = s.get (.slot w2 q2) := by
              show (D.at_ q2 (((s.killed (Kill.cells r off 1)).setBox r _).t w2)).row? = (D.at_ q2 (s.t w2)).row?
              rw [setBox_tl.1]
              exact zaW q2 _
             rw [hget]
             exact hd
           · rename_i b2 cs2 hz
             rw [hlook _ hz (.inr ⟨_, _, rfl⟩)]
             rw [hz] at hd
             exact hd
           · cases hrl
       · cases h
 · cases hok
section
variable {P : Program} {E : Env} {ops : Array Oper} {X : Nat} {Mo : Option (List Nat)} {c0 : Cx} {a0 : Act}
theorem Inv.step {first first' : Bool} {A : List Nat} {blk : Nat → Nat} {c c' : Cx} {a a' : Act} {i : Nat} {o : Oper} {v : Value} (h : Inv P B E ops X Mo c0 a0 first A blk c a) (hdst : zh7 ops = true) (hM : ∀ M, Mo = some M → ∀ o ∈ ops.toList, ∀ n ∈ M, o.dst ≠ some n)
 (hi : ops[i]? = some o) (hA : memN i A = false) (hf : Fr X c' a') (he : Ext c c') (hsz : a'.tmps.size = a.tmps.size) (hdf : a'.defers = a.defers) (ht : a'.tmps = (a.put o.dst v).tmps)
 (hfst : first' = true → ∀ b g, Rd c'.ρ b g → g < c'.W.heap.size → g < c0.W.heap.size ∧ stable (c0.ρ g)) : Inv P B E ops X Mo c0 a0 first' A blk c' a' := by
 refine ⟨h.base, hf, h.env.next he hsz, h.ext.trans he, hsz.trans h.sz, hdf.trans h.df, fun M hMo n hn => ?_, hfst, fun j hj => (h.al j hj).step he ht fun oj n hoj hn => ?_, h.dis⟩
 · rw [ht, zgq (hM M hMo o (Array.mem_toList_iff.2 (Array.mem_of_getElem? hi)) n hn)]
   exact h.mtm M hMo n hn
 · intro e
   have hne : j ≠ i := fun e => by rw [e, hA] at hj; cases hj
   exact zgz hdst hoj hi hne hn e
theorem ziv {c c' : Cx} (h : ∀ b g, Rd c.ρ b g → g < c.W.heap.size → g < c0.W.heap.size ∧ stable (c0.ρ g)) (hW : c'.W = c.W) (hρ : ∀ g, g < c.W.heap.size → c'.ρ g = c.ρ g) : ∀ b g, Rd c'.ρ b g → g < c'.W.heap.size → g < c0.W.heap.size ∧ stable (c0.ρ g) := fun b g hr hg => by
 rw [hW] at hg
 refine h b g ?_ hg
 unfold Rd at *
 rw [hρ g hg] at hr
 exact hr
theorem ziN {fl : Nat → Bool} {Q0 : Exit → Act → World → Prop} {s' : St} (hty : TyOk P c0.ty) (hops : ∀ o ∈ ops.toList, za1 E.nt o = true) (hsel : Region.noSelect ops = true) (hdst : zh7 ops = true) (hM : ∀ M, Mo = some M → ∀ o ∈ ops.toList, ∀ n ∈ M, o.dst ≠ some n)
 (hQ0 : ∀ ch a w, ¬ Q0 (.panic ch) a w) (hEnd : EndsIn P X c0 a0 s' (Q0 .normal)) : ∀ (rows : List PRow) (fuel : Nat) (first : Bool) (L listed : Array Bool) (A : List Nat) (blk : Nat → Nat) (c : Cx) (a : Act), zb3 E.ty ops fl L rows = true → Sup L listed A → (∀ j, memN j A = true → j ∈ zaf rows) →
  zco A rows ≤ fuel → Inv P B E ops X Mo c0 a0 first A blk c a → zat E ops Mo first rows c.s = some s' → zbS P .any ops Q0 (RG (Gd c0 a0 Mo)) fl fuel listed a c.W := by
 have hQ : ∀ (x : Option Nat) (v : Value) ch (a : Act) w, Q0 (.panic ch) (a.put x v) w → Q0 (.panic ch) a w := fun x v ch a w h => (hQ0 _ _ _ h).elim
 intro rows
 induction hn : rows.length using Nat.strongRecOn generalizing rows with
 | ind nn ihn =>
 cases rows with
 | nil =>
   intro fuel first L listed A blk c a hgo hsup hA hst hinv h
   cases h
   have hre : Region.ready .any ops listed = [] := by
    rw [List.eq_nil_iff_forall_not_mem]
    intro j hj
    rcases zcd (B := []) hsup (fun k hk => by cases hA k hk) hj with h | h
    · cases h
    · have : (Region.ready .any ops L).isEmpty = true := hgo
      rw [List.isEmpty_iff] at this
      have h : j ∈ Region.ready .any ops L := h
      rw [this] at h
      cases h
   have hq : Q0 .normal a c.W := hEnd a c rfl hinv.fr hinv.ext hinv.sz hinv.df
   cases fuel with
   | zero => exact ⟨hre, hq⟩
   | succ fuel => exact ⟨fun _ => hq, fun i hi => by rw [hre] at hi; cases hi⟩
 | cons r l =>
   have ihl := ihn l.length (by rw [← hn]; simp) l rfl
   have ihl2 := fun (r' : PRow) (l' : List PRow) (e : l = r' :: l') => ihn l'.length (by rw [← hn, e]; simp; omega) l' rfl
   have ihl3 := fun (r' : PRow) (l' : List PRow) (e : l = r' :: l') (r : PRow) => ihn (r :: l').length (by rw [← hn, e]; simp) (r :: l') rfl
   clear ihn hn
   obtain ⟨i, k, ds⟩ := r
   have hadopt : ∀ (fuel : Nat) (first : Bool) (L listed : Array Bool) (A : List Nat) (blk : Nat → Nat) (c : Cx) (a : Act), zb3 E.ty ops fl L ((i, k, ds) :: l) = true → Sup L listed A → (∀ j, memN j A = true → j ∈ zaf ((i, k, ds) :: l)) →
    zco A ((i, k, ds) :: l) ≤ fuel → Inv P B E ops X Mo c0 a0 first A blk c a → zat E ops Mo first ((i, k, ds) :: l) c.s = some s' → memN i A = true → zbS P .any ops Q0 (RG (Gd c0 a0 Mo)) fl fuel listed a c.W := by
    intro fuel first L listed A blk c a hgo hsup hA hst hinv h hiA
    simp only [zb3, Bool.and_eq_true, Bool.not_eq_true'] at hgo
    obtain ⟨⟨hre, hni, hal⟩, hrow, hgo⟩ := hgo
    have hmem := hA i hiA
    have hnl : i ∉ zaf l := fun h => by
     obtain ⟨r, hr, e⟩ := zbT h
     have := (List.any_eq_false.1 hni) r hr
     exact this (beq_eq.2 e)
    have hk3 : k = 3 := by
     unfold zaf at hmem
     split at hmem
     · rename_i hb; exact beq_eq.1 hb
     · exact (hnl hmem).elim
    subst hk3
    obtain ⟨o, t, n, i0, vs, T, h1, h2, h3, h4, h5, h6, h7, h8, h9⟩ := hinv.al i hiA
    obtain ⟨o', t', n', i0', h1', h2', h3', hg', hn', _⟩ := zfO ((List.all_eq_true.1 hal) i hmem)
    rw [h1] at h1'
    cases h1'
    simp only [zat, h1, hg', zby] at h
    split at h
    · cases h
    rename_i hjunk
    simp only [Option.bind_eq_some_iff, zar, zaF] at h
    obtain ⟨s1, hs1, h⟩ := h
    unfold zeF at hs1
    rw [h2, h3] at hs1
    simp only [Option.bind_eq_some_iff] at hs1
    obtain ⟨i1, hi1, hs1⟩ := hs1
    rw [hinv.env.ty, h4] at hi1
    cases hi1
    split at hs1
    · rename_i hb
      cases hs1
      have hlt : n < a.tmps.size := by
       rw [hinv.env.nt]
       exact zaN (hops o (Array.mem_toList_iff.2 (Array.mem_of_getElem? h1))) n h3
      obtain ⟨hl, hv⟩ := h9 c X rfl
      obtain ⟨c1, a1, a2, a3, a4, a5, a6⟩ := zhK (c := c.nilH X) (X := X) (tm := a.tmps) (n := n) (g := blk i) (cs := i0.zero) (vs := vs) (T := T) (zgd hinv.fr.sim hinv.fr.ghost) hinv.fr.ghost.nilH hlt hb (by obtain ⟨_, _, _, hf0⟩ := hinv.env.tys.facts h4; exact zk8 hf0.zs) hl hv h6 h7 h8
      have hext : Ext c0 c1 := a4 c0 (hinv.ext.trans (zgo c X)) h5
      have hty1 : c1.ty = c.ty := by rw [hext.ty, hinv.ext.ty]
      have hW1 : c1.W = c.W := a1
      rw [← hW1]
      refine ihl fuel first (L.setIfInBounds i true) listed (A.filter fun j => !Nat.beq j i) blk c1 a hgo (hsup.adopt hiA) (fun j hj => ?_) ?_ ⟨hinv.base, ⟨a3, hinv.fr.ghost.out, ?_⟩, ⟨by rw [hty1]; exact hinv.env.ty, by rw [hty1]; exact hinv.env.tys, hinv.base.ext hext, by rw [hty1]; exact hinv.env.call, hinv.env.nt⟩, hext, hinv.sz, hinv.df, hinv.mtm, fun hf b g hr hg => ?_, fun j hj => ?_, fun j k hj hk hne => ?_⟩ ?_
      · have hjA := (List.mem_filter.1 (memN_iff.1 hj))
        have hm := hA j (memN_iff.2 hjA.1)
        have hm' : j ∈ i :: zaf l := hm
        rcases List.mem_cons.1 hm' with e | hm'
        · subst e
          have := hjA.2
          rw [show Nat.beq j j = true from beq_eq.2 rfl] at this
          cases this
        · exact hm'
      · have := zaG (A := A) (i := i) (k := 3) (ds := ds) (l := l)
        rw [hiA] at this
        have h10 := zht (A := A) hni
        simp only at this
        omega
      · rw [a2]
        have hne : X ≠ n := Nat.ne_of_gt (Nat.lt_of_lt_of_le hlt hinv.fr.ghost.out)
        refine zaT hne ?_
        rw [setBox_tl.1]
        exact hinv.fr.ghost.own
      · rw [hW1] at hg
        exact hinv.fst hf b g (a6 b g hr) hg
      · have hjA := (List.mem_filter.1 (memN_iff.1 hj))
        have hji : j ≠ i := fun e => by
         have := hjA.2
         rw [e, show Nat.beq i i = true from beq_eq.2 rfl] at this
         cases this
        have hjA' := memN_iff.2 hjA.1
        obtain ⟨oj, t', n', i', vs', T', b1, b2, b3, b4, b5, b6, b7, b8, b9⟩ := hinv.al j hjA'
        refine ⟨oj, t', n', i', vs', T', b1, b2, b3, by rw [hty1]; exact b4, b5, ?_, by rw [hW1]; exact b7, b8, fun c' Y e => b9 c' Y (by rw [e, hty1])⟩
        exact (a5 (blk j) (hinv.dis j i hjA' hiA hji) (by show stable (c.ρ (blk j)); rw [b6]; trivial)).trans b6
      · exact hinv.dis j k (memN_iff.2 (List.mem_filter.1 (memN_iff.1 hj)).1) (memN_iff.2 (List.mem_filter.1 (memN_iff.1 hk)).1) hne
      · rw [a2]
        have h : zat E ops Mo (first && zbq 3) l ((c.s.setBox (.loc n) i0.zero).put n (.ptr (.loc n) 0)) = some s' := h
        rw [show (first && zbq 3) = first from Bool.and_true first] at h
        exact h
    · cases hs1
   intro fuel
   induction fuel with
   | zero =>
     intro first L listed A blk c a hgo hsup hA hst hinv h
     cases hiA : memN i A with
     | true => exact hadopt _ first L listed A blk c a hgo hsup hA hst hinv h hiA
     | false =>
       rw [zaG, hiA] at hst
       simp only at hst
       omega
   | succ fuel ihf =>
     intro first L listed A blk c a hgo hsup hA hst hinv h
     cases hiA : memN i A with
     | true => exact hadopt _ first L listed A blk c a hgo hsup hA hst hinv h hiA
     | false =>
     have hgo0 := hgo
     have h0 := h
     simp only [zb3, Bool.and_eq_true, Bool.not_eq_true'] at hgo
     obtain ⟨⟨hre, hni, hal⟩, hrow, hgo⟩ := hgo
     have hreadyL : i ∈ Region.ready .any ops L := by simpa using hre
     have hready := zkC hsup hreadyL hiA
     have hst' : zco A l ≤ fuel := by
      rw [zaG, hiA] at hst
      simp only at hst
      omega
     unfold zat at h
     split at h
     · cases h
     rename_i hjunk
     split at h
     · cases h
     rename_i o hi
     have hk := hops o (Array.mem_toList_iff.2 (Array.mem_of_getElem? hi))
     have hd : ∀ n : Nat, o.dst = some n → n < a.tmps.size := by rw [hinv.env.nt]; exact zaN hk
     have hg := zf2 (E := E) hinv.fr.sim hops hinv.env.nt h
     have hAl : ∀ j, memN j A = true → j ∈ zaf l := fun j hj => by
      have hm := hA j hj
      unfold zaf at hm
      split at hm
      · rcases List.mem_cons.1 hm with e | hm
        · rw [e, hiA] at hj; cases hj
        · exact hm
      · exact hm
     -- alone
     have halone : zbG ops L i l = true → (k = 3 ∨ ∀ K, (K = fun a' w' => (fl i = true → RG (Gd c0 a0 Mo) c.W w') ∧ zbS P .any ops Q0 (RG (Gd c0 a0 Mo)) fl fuel (listed.setIfInBounds i true) a' w') → wpOp P ops Q0 i K a c.W) → zbS P .any ops Q0 (RG (Gd c0 a0 Mo)) fl (fuel + 1) listed a c.W := by
      intro hal1 hself
      refine ⟨fun e => (by rw [e] at hready; cases hready), fun j hj => ?_⟩
      have hjA : memN j A = false := (hsup.un (mem_ready.1 hj).1).2
      have hearly : j ∈ zaf ((i, k, ds) :: l) → wpOp P ops Q0 j (fun a' w' => (fl j = true → RG (Gd c0 a0 Mo) c.W w') ∧ zbS P .any ops Q0 (RG (Gd c0 a0 Mo)) fl fuel (listed.setIfInBounds j true) a' w') a c.W := by
       intro hjm
       obtain ⟨oj, t, n, i0, b1, b2, b3, b4, b5, b6⟩ := zfO ((List.all_eq_true.1 hal) j hjm)
       have hjn : c.s.t n = .junk := zbg hjunk n b5
       have hlt : n < a.tmps.size := by
        rw [hinv.env.nt]
        exact zaN (hops oj (Array.mem_toList_iff.2 (Array.mem_of_getElem? b1))) n b3
       rw [hinv.env.ty] at b6
       obtain ⟨inf, _, z, hfz⟩ := hinv.env.tys.facts b6
       have hrun : (execOp a.eval oj).run P c.W = .ok (.value (.pointer (some ⟨c.W.heap.size, 0, none⟩))) (c.W.alloc (.cells (List.toArray z.cells.toList) t (0, 0))) := by
        simp [execOp, b2, Instr.alloc, zeroValue, typeInfo, hfz.info, hfz.zero, newVar, newRow]
       obtain ⟨c', e1, e2, e3, e4, e5, e6⟩ := zhA (n := n) (ob := .cells (List.toArray z.cells.toList) t (0, 0)) (v := .pointer (some ⟨c.W.heap.size, 0, none⟩)) hinv.fr hlt hjn
       have hbel : Below c.W.heap.size c.W c'.W := by
        rw [e2]
        exact ⟨rfl, rfl, rfl, by show c.W.heap.size ≤ (c.W.alloc _).heap.size; simp, fun k hk => Below.heap_alloc c.W _ k hk⟩
       unfold wpOp
       rw [b1]
       have hw : Region.wanted oj (yielded ops a.tmps) = true := by simp [Region.wanted, b4]
       simp only [hw, if_true]
       refine .inl ?_
       unfold Oper.wp
       rw [hrun]
       show _ ∧ _
       rw [b3, ← e2]
       refine ⟨fun _ => RG.of_below hbel, ?_⟩
       have hlj : listed.getD j true = false := (mem_ready.1 hj).1
       refine ihf first L _ (j :: A) (fun m => if m = j then c.W.heap.size else blk m) c' _ hgo0 (hsup.early j) (fun m hm => ?_) ?_ ⟨hinv.base, e3, hinv.env.next e4 (zbn _ _ _), hinv.ext.trans e4, (zbn _ _ _).trans hinv.sz, (zaZ _ _ _).trans hinv.df, fun M hMo m hm => ?_, fun hfst b g hr hgl => ?_, fun m hm => ?_, fun m1 m2 hm1 hm2 hne => ?_⟩ (by rw [e1]; exact h0)
       · rw [zbd, Bool.or_eq_true] at hm
         rcases hm with hm | hm
         · rw [beq_eq.1 hm]; exact hjm
         · exact hA m hm
       · have := zex hjA (zbT hjm)
         omega
       · rw [zgq (hM M hMo oj (Array.mem_toList_iff.2 (Array.mem_of_getElem? b1)) m hm ∘ fun e => by rw [b3]; exact e)]
         exact hinv.mtm M hMo m hm
       · by_cases hgs : g < c.W.heap.size
         · have hr' : Rd c.ρ b g := by
            unfold Rd at *
            rw [e5 g hgs] at hr
            exact hr
           exact hinv.fst hfst b g hr' hgs
         · have hge : g = c.W.heap.size := by
            rw [e2] at hgl
            have : g < c.W.heap.size + 1 := by simpa using hgl
            omega
           subst hge
           rcases hr with hr | ⟨_, hr⟩ <;> (rw [e6] at hr; cases hr)
       · rw [zbd, Bool.or_eq_true] at hm
         by_cases hmj : m = j
         · subst hmj
           rw [if_pos rfl]
           refine ⟨oj, t, n, i0, z.cells.toList, t, b1, b2, b3, by rw [e4.ty]; exact b6, hinv.ext.size, e6, ?_, ?_, fun c'' Y e => zcN (by rw [e, e4.ty]) hfz.zs⟩
           · rw [e2]
             exact heap_alloc_new c.W _
           · simp [Act.put, Array.getD, hlt]
         · rw [if_neg hmj]
           have hmA : memN m A = true := by
            rcases hm with hm | hm
            · exact (hmj (beq_eq.1 hm)).elim
            · exact hm
           exact (hinv.al m hmA).step e4 rfl fun om nm hom hnm e => zgz hdst hom b1 hmj hnm (by rw [b3]; exact e)
       · have hold : ∀ m, memN m A = true → blk m < c.W.heap.size := fun m hm => by
          obtain ⟨_, _, _, _, _, _, _, _, _, _, _, _, h7, _⟩ := hinv.al m hm
          exact (Array.getElem?_eq_some_iff.1 h7).1
         have hin : ∀ m, memN m (j :: A) = true → m ≠ j → memN m A = true := fun m hm hne => by
          rw [zbd, Bool.or_eq_true] at hm
          rcases hm with hm | hm
          · exact (hne (beq_eq.1 hm)).elim
          · exact hm
         by_cases x1 : m1 = j
         · have x2 : m2 ≠ j := fun e => hne (by rw [x1, e])
           rw [if_pos x1, if_neg x2]
           have := hold m2 (hin m2 hm2 x2)
           omega
         · rw [if_neg x1]
           by_cases x2 : m2 = j
           · rw [if_pos x2]
             have := hold m1 (hin m1 hm1 x1)
             omega
           · rw [if_neg x2]
             exact hinv.dis m1 m2 (hin m1 hm1 x1) (hin m2 hm2 x2) hne
      rcases zcd (B := zaf l) hsup (fun m hm => memN_iff.2 (hAl m hm)) hj with hjl | hjr
      · refine hearly ?_
        unfold zaf
        split
        · exact List.mem_cons_of_mem _ (memN_iff.1 hjl)
        · exact memN_iff.1 hjl
      · have hji : i = j := beq_eq.1 ((List.all_eq_true.1 hal1) j hjr)
        subst hji
        rcases hself with hk3 | hself
        · refine hearly ?_
          rw [hk3]
          exact List.mem_cons_self
        · exact hself _ rfl
     -- what follows
     have hafter : ∀ (first' : Bool) (s1 : St) (c' : Cx) (a' : Act) (v : Value), c'.s = s1 → Fr X c' a' → Ext c c' → a'.tmps.size = a.tmps.size → a'.defers = a.defers → a'.tmps = (a.put o.dst v).tmps →
      (first' = true → ∀ b g, Rd c'.ρ b g → g < c'.W.heap.size → g < c0.W.heap.size ∧ stable (c0.ρ g)) → zat E ops Mo first' l s1 = some s' → zbS P .any ops Q0 (RG (Gd c0 a0 Mo)) fl fuel (listed.setIfInBounds i true) a' c'.W := by
      intro first' s1 c' a' v e1 e2 e3 e4 e5 e6 e7 e8
      exact ihl fuel first' _ _ A blk c' a' hgo (hsup.set i) hAl hst' (hinv.step hdst hM hi hiA e2 e3 e4 e5 e6 e7) (by rw [e1]; exact e8)
     generalize hD : zec ops i (List.range ops.size) [] = BH at *
     have hfree : zeB ops L i (zaf l) = true → (∀ j oj, ops[j]? = some oj → memN j BH = true → ∃ e ∈ oj.after, Region.binds .any e = true ∧ (e.on = i ∨ memN e.on BH = true)) ∧ (∀ j oj, ops[j]? = some oj → j ≠ i → listed.getD j true = false → memN j BH = false → o.apart ops oj = true) ∧ (∀ k, listed.getD k false = true → memN k BH = false) := fun hc => by
      unfold zeB at hc
      rw [hD] at hc
      simp only [Bool.and_eq_true] at hc
      refine ⟨fun j oj hoj hj => (zeC hc.1 hj).1 oj hoj, fun j oj hj hne hun hno => zjw hi hc.2 hj hne (hsup.un hun).1 hno, fun m hm => ?_⟩
      cases hmD : memN m BH with
      | false => rfl
      | true =>
        obtain ⟨_, h1, h2⟩ := zeC hc.1 hmD
        rcases hsup.onL hm with h3 | h3
        · rw [h3] at h1; cases h1
        · rw [memN_iff.2 (hAl m h3)] at h2; cases h2
     obtain ⟨hu1, hu2⟩ := zi1 (x := o.dst) hinv.fr hd
     have hk5 : k = 7 ∨ k = 10 ∨ k = 11 ∨ k = 12 ∨ k = 13 ∨ k = 0 ∨ k = 1 ∨ k = 2 ∨ k = 3 ∨ ∃ m, k = m + 4 ∧ m ≠ 3 ∧ m ≠ 6 ∧ m ≠ 7 ∧ m ≠ 8 ∧ m ≠ 9 := by
      match k with
      | 0 => simp
      | 1 => simp
      | 2 => simp
      | 3 => simp
      | m + 4 =>
        by_cases hm : m = 3
        · exact .inl (by omega)
        by_cases hm : m = 6
        · exact .inr (.inl (by omega))
        by_cases hm : m = 7
        · exact .inr (.inr (.inl (by omega)))
        by_cases hm : m = 8
        · exact .inr (.inr (.inr (.inl (by omega))))
        by_cases hm : m = 9
        · exact .inr (.inr (.inr (.inr (.inl (by omega)))))
        exact .inr (.inr (.inr (.inr (.inr (.inr (.inr (.inr (.inr ⟨m, rfl, by omega, by omega, by omega, by omega, by omega⟩))))))))
     rcases hk5 with rfl | rfl | rfl | rfl | rfl | rfl | rfl | rfl | rfl | ⟨m, rfl, hm3, hm6, hm7, hm8, hm9⟩
     · -- a call and a new row, whichever comes first
       have hrow' : zjy ops L i ds l = true := hrow
       cases l with
       | nil => cases hrow'
       | cons r' l' =>
       obtain ⟨j, k', ds'⟩ := r'
       unfold zjy at hrow'
       simp only [Bool.and_eq_true, Bool.not_eq_true', List.isEmpty_iff] at hrow'
       obtain ⟨⟨⟨hk8, hal', hij⟩, hpair⟩, hrd1, hrd2⟩ := hrow'
       have hk8 : k' = 8 := beq_eq.1 hk8
       subst hk8
       have hij : i ≠ j := fun e => by rw [beq_eq.2 e] at hij; cases hij
       have hA0 : ∀ m, memN m A = false := fun m => by
        cases hm : memN m A with
        | false => rfl
        | true =>
          have h1 := hAl m hm
          have h2 : m ∈ zaf l' := h1
          rw [hal'] at h2
          cases h2
       rw [hi] at hpair
       cases hj : ops[j]? with
       | none => rw [hj] at hpair; cases hpair
       | some oj =>
       rw [hj] at hpair
       simp only at hpair
       unfold zjs at hpair
       split at hpair
       · rename_i ca y t zl zc x hoi hyi hgi hoj hxj hgj
         simp only [Bool.and_eq_true, Bool.not_eq_true'] at hpair
         obtain ⟨⟨hcal, hxy, hxd, hyd⟩, ⟨hnl, hnc⟩, hna⟩ := hpair
         split at hcal
         · rename_i f hcal2
           have hxy : x ≠ y := fun e => by rw [beq_eq.2 e] at hxy; cases hxy
           have hjx : c.s.t x = .junk := zbg hjunk x (memN_iff.1 hxd)
           have hjy : c.s.t y = .junk := zbg hjunk y (memN_iff.1 hyd)
           -- the rows in their order
           have hwi : Region.wanted o (yielded ops a.tmps) = true := by simp [Region.wanted, hgi]
           have hg2 : ((zar E Mo first 7 c.s o).bind fun s1 => zat E ops Mo (first && zbq 7) ((j, 8, ds') :: l') s1) = some s' := by
            rcases hg with ⟨_, hg⟩ | ⟨hw, _⟩
            · exact hg
            · rw [hwi] at hw; cases hw
           rw [show (first && zbq 7) = false from Bool.and_false first] at hg2
           have hg2 : ((zay E none c.s o).bind fun s1 => zat E ops Mo false ((j, 8, ds') :: l') s1) = some s' := hg2
           simp only [zay, Option.bind_eq_some_iff] at hg2
           obtain ⟨s1, ⟨ef, hev, hap⟩, hg2⟩ := hg2
           have hg3 := hg2
           unfold zat at hg3
           split at hg3
           · cases hg3
           rename_i hjunk2
           rw [hj] at hg3
           simp only [hgj, zby] at hg3
           have hg3 : ((zay E none s1 oj).bind fun s2 => zat E ops Mo false l' s2) = some s' := hg3
           simp only [zay, Option.bind_eq_some_iff] at hg3
           obtain ⟨s2, ⟨ef2, hev2, hap2⟩, hg3⟩ := hg3
           -- the new row first
           have hlook1 : ∀ z, zb7 y z = false → (s1.look z) = c.s.look z := fun z hz => by
            have ht : ∀ w, w ≠ y → s1.t w = c.s.t w := fun w hw => zeR hyi hap (by rw [hjy]; rfl) hw
            cases z with
            | tmp w =>
              have hw : w ≠ y := fun e => by
               have : zb7 y (.tmp w) = true := beq_eq.2 e.symm
               rw [this] at hz; cases hz
              show ((s1.t w).alias _) = ((c.s.t w).alias _)
              rw [ht w hw]
            | _ => rfl
           have hev2' : evOp E c.s.look c.s.get c.s.box oj.type oj.op = some ef2 := by
            rw [hoj] at hev2 ⊢
            simp only [evOp] at hev2 ⊢
            rw [hlook1 zl hnl, hlook1 zc hnc] at hev2
            exact hev2
           have hpure : ∃ d, ef2 = .pure d := by
            rw [hoj] at hev2'
            exact zjO hev2'
           obtain ⟨d1, rfl⟩ := hpure
           have hs2 : s2 = s1.put x d1 := by
            rw [hxj] at hap2
            exact (Option.some.inj hap2).symm
           subst hs2
           refine ⟨fun e => (by rw [e] at hready; cases hready), fun m hm => ?_⟩
           have hmL : Nat.beq m i = true ∨ Nat.beq m j = true := by
            rcases zcd (B := []) hsup (fun k hk => by rw [hA0 k] at hk; cases hk) hm with h | h
            · cases h
            · have := (List.all_eq_true.1 hrd1) m h
              simpa [Bool.or_eq_true] using this
           by_cases hmi : m = i
           · subst hmi
             unfold wpOp
             rw [hi]
             simp only
             rw [if_pos hwi]
             refine .inl ?_
             have hef := zaM hinv.env.ty hinv.env.tys hinv.env.inv hinv.env.call hinv.fr.sim (fun _ _ h => h) (fun _ _ h => h) hev
             refine Oper.wp_mono ?_ (zbz (zas hinv.fr hd hef hap (fun a' w' => ∃ c', c'.W = w' ∧ c'.s = s1 ∧ Fr X c' a' ∧ Ext c c' ∧ Below c.W.heap.size c.W c'.W ∧ a'.tmps.size = a.tmps.size ∧ a'.defers = a.defers) Q0 fun a' c' e1 e2 e3 eb e4 e5 => ⟨c', rfl, e1, e2, e3, eb, e4, e5⟩))
             rintro a' w' ⟨⟨c', rfl, e1, e2, e3, eb, e4, e5⟩, v, e6⟩
             exact ⟨fun _ => RG.of_below eb, hafter false s1 c' a' v e1 e2 e3 e4 e5 e6 (fun e => by cases e) hg2⟩
           · have hmj : m = j := by
              rcases hmL with h | h
              · exact (hmi (beq_eq.1 h)).elim
              · exact beq_eq.1 h
             subst hmj
             have hwj : Region.wanted oj (yielded ops a.tmps) = true := by simp [Region.wanted, hgj]
             have hkj := hops oj (Array.mem_toList_iff.2 (Array.mem_of_getElem? hj))
             have hdj : ∀ n : Nat, oj.dst = some n → n < a.tmps.size := by rw [hinv.env.nt]; exact zaN hkj
             unfold wpOp
             rw [hj]
             simp only
             rw [if_pos hwj]
             refine .inl ?_
             have hefj := zaM hinv.env.ty hinv.env.tys hinv.env.inv hinv.env.call hinv.fr.sim (fun _ _ h => h) (fun _ _ h => h) hev2'
             have hapj : c.s.apply oj.dst (.pure d1) = some (c.s.put x d1) := by rw [hxj]; rfl
             refine Oper.wp_mono ?_ (zbz (zas hinv.fr hdj hefj hapj (fun a' w' => ∃ c', c'.W = w' ∧ c'.s = c.s.put x d1 ∧ Fr X c' a' ∧ Ext c c' ∧ Below c.W.heap.size c.W c'.W ∧ a'.tmps.size = a.tmps.size ∧ a'.defers = a.defers) Q0 fun a' c' e1 e2 e3 eb e4 e5 => ⟨c', rfl, e1, e2, e3, eb, e4, e5⟩))
             rintro a' w' ⟨⟨c', rfl, e1, e2, e3, eb, e4, e5⟩, v, e6⟩
             refine ⟨fun _ => RG.of_below eb, ?_⟩
             have hjA := hA0 m
             have hinv1 := hinv.step (first' := false) hdst hM hj hjA e2 e3 e4 e5 e6 (fun e => by cases e)
             have hsup1 : Sup (L.setIfInBounds m true) (listed.setIfInBounds m true) A := hsup.set m
             have hst2 : 1 ≤ fuel := by
              have h1 := zaG (A := A) (i := m) (k := 8) (ds := ds') (l := l')
              rw [hjA] at h1
              simp only at h1
              omega
             obtain ⟨fuel, rfl⟩ : ∃ f2, fuel = f2 + 1 := ⟨fuel - 1, by omega⟩
             have hnotr : i ∈ Region.ready .any ops (listed.setIfInBounds m true) := ready_mono hready (fun e => hmi e.symm)
             refine ⟨fun e => (by rw [e] at hnotr; cases hnotr), fun q hq => ?_⟩
             have hqi : q = i := by
              rcases zcd (B := []) hsup1 (fun k hk => by rw [hA0 k] at hk; cases hk) hq with h | h
              · cases h
              · exact (beq_eq.1 ((List.all_eq_true.1 hrd2) q h)).symm
             subst hqi
             have hlook2 : ∀ z, zb7 x z = false → ((c.s.put x d1).look z) = c.s.look z := fun z hz => by
              have ht : ∀ w, w ≠ x → (c.s.put x d1).t w = c.s.t w := fun w hw => zeR (o := oj) hxj hapj (by rw [hjx]; rfl) hw
              cases z with
              | tmp w =>
                have hw : w ≠ x := fun e => by
                 have : zb7 x (.tmp w) = true := beq_eq.2 e.symm
                 rw [this] at hz; cases hz
                show (((c.s.put x d1).t w).alias _) = ((c.s.t w).alias _)
                rw [ht w hw]
              | _ => rfl
             have hevi : evOp E c'.s.look c.s.get c.s.box o.type o.op = some ef := by
              rw [e1]
              rw [hoi] at hev ⊢
              simp only [evOp, hcal2] at hev ⊢
              rw [zho (fun z hz => hlook2 z (by
               have := (List.all_eq_true.1 hna) z hz
               simpa using this))]
              exact hev
             have hwi' : Region.wanted o (yielded ops a'.tmps) = true := by simp [Region.wanted, hgi]
             have hdi : ∀ n : Nat, o.dst = some n → n < a'.tmps.size := by rw [e4]; exact hd
             have hefi := zaM (gp := c.s.get) (bx := c.s.box) hinv1.env.ty hinv1.env.tys hinv1.env.inv hinv1.env.call hinv1.fr.sim (fun q r h => by rw [e1]; exact zhp hjx h) (fun r cs h => by rw [e1, zhb]; exact h) hevi
             have hapi : c'.s.apply o.dst ef = some (s1.put x d1) := by
              rw [e1, hyi]
              rw [hyi] at hap
              exact zi7 hxy hjx hjy hap
             unfold wpOp
             rw [hi]
             simp only
             rw [if_pos hwi']
             refine .inl ?_
             refine Oper.wp_mono ?_ (zbz (zas hinv1.fr hdi hefi hapi (fun a' w' => ∃ c2, c2.W = w' ∧ c2.s = s1.put x d1 ∧ Fr X c2 a' ∧ Ext c' c2 ∧ Below c'.W.heap.size c'.W c2.W ∧ a'.tmps.size = a.tmps.size ∧ a'.defers = a.defers) Q0 fun a' c' e1 e2 e3 eb e4' e5' => ⟨c', rfl, e1, e2, e3, eb, e4'.trans e4, e5'.trans e5⟩))
             rintro a2 w2 ⟨⟨c2, rfl, g1, g2, g3, gb, g4, g5⟩, v2, g6⟩
             refine ⟨fun _ => RG.of_below gb, ?_⟩
             have hinv2 := hinv1.step (first' := false) hdst hM hi hiA g2 g3 (g4.trans e4.symm) (g5.trans e5.symm) g6 (fun e => by cases e)
             have hgo' := hgo
             unfold zb3 at hgo'
             simp only [Bool.and_eq_true] at hgo'
             refine ihl2 _ l' rfl fuel false _ _ A blk c2 a2 hgo'.2.2 ?_ (fun k hk => by rw [hA0 k] at hk; cases hk) ?_ hinv2 (by rw [g1]; exact hg3)
             · rw [Array.setIfInBounds_comm true true hmi] 
               exact (hsup.set _).set _
             · have h1 := zaG (A := A) (i := m) (k := 8) (ds := ds') (l := l')
               rw [hjA] at h1
               simp only at h1
               omega
         · cases hcal
       · cases hpair
     · -- a load of an element and a store, whichever comes first
       have hrow' : zhN ops L i ds l = true := hrow
       cases l with
       | nil => cases hrow'
       | cons r' l' =>
       obtain ⟨j, k', ds'⟩ := r'
       unfold zhN at hrow'
       simp only [Bool.and_eq_true, Bool.not_eq_true', List.isEmpty_iff] at hrow'
       obtain ⟨⟨⟨hk8, hal', hij⟩, hpair⟩, hrd1, hrd2⟩ := hrow'
       have hk8 : k' = 11 := beq_eq.1 hk8
       subst hk8
       have hij : i ≠ j := fun e => by rw [beq_eq.2 e] at hij; cases hij
       have hA0 : ∀ m, memN m A = false := fun m => by
        cases hm : memN m A with
        | false => rfl
        | true =>
          have h1 := hAl m hm
          have h2 : m ∈ zaf l' := h1
          rw [hal'] at h2
          cases h2
       rw [hi] at hpair
       cases hj : ops[j]? with
       | none => rw [hj] at hpair; cases hpair
       | some oj =>
       rw [hj] at hpair
       simp only at hpair
       unfold zie at hpair
       split at hpair
       · rename_i tl z y ts ad vl hoi hyi hgi hoj hxj hgj
         simp only [Bool.and_eq_true, Bool.not_eq_true'] at hpair
         obtain ⟨hyd, hna, hnv⟩ := hpair
         have hjy : c.s.t y = .junk := zbg hjunk y (memN_iff.1 hyd)
         have hwi : Region.wanted o (yielded ops a.tmps) = true := by simp [Region.wanted, hgi]
         rw [show (first && zbq 10) = false from Bool.and_false first] at hg
         have hg2 : ((match zbL c.s o with | true => step E c.s o | false => none).bind fun s1 => zat E ops Mo false ((j, 11, ds') :: l') s1) = some s' := by
          rcases hg with ⟨_, hg⟩ | ⟨hw, _⟩
          · exact hg
          · rw [hwi] at hw; cases hw
         simp only [Option.bind_eq_some_iff] at hg2
         obtain ⟨s1, hs1, hg2⟩ := hg2
         split at hs1
         · rename_i hrl
           have hev : ∃ x, evOp E c.s.look c.s.get c.s.box o.type o.op = some (.pure (.dat x)) ∧ s1 = c.s.put y (.dat x) := by
            obtain ⟨x, hx⟩ := zkr (E := E) (ty := o.type) hoi hrl (by
             intro e
             unfold step at hs1
             rw [e, hoi] at hs1
             simp only [doOp] at hs1
             cases hs1)
            refine ⟨x, hx, ?_⟩
            unfold step at hs1
            rw [hx, hyi] at hs1
            exact (Option.some.inj hs1).symm
           obtain ⟨x, hev, rfl⟩ := hev
           have hap : c.s.apply o.dst (.pure (.dat x)) = some (c.s.put y (.dat x)) := by rw [hyi]; rfl
           have hg3 := hg2
           unfold zat at hg3
           split at hg3
           · cases hg3
           rename_i hjunk2
           rw [hj] at hg3
           simp only [hgj, zby] at hg3
           have hg3 : ((match zbC (c.s.put y (.dat x)) oj with | true => step E (c.s.put y (.dat x)) oj | false => none).bind fun s2 => zat E ops Mo false l' s2) = some s' := hg3
           simp only [Option.bind_eq_some_iff] at hg3
           obtain ⟨s2, hs2, hg3⟩ := hg3
           split at hs2
           · rename_i hvs
             obtain ⟨t1, hst1, rfl, hld⟩ := zi0 hjy hoj hvs hna hnv hs2
             refine ⟨fun e => (by rw [e] at hready; cases hready), fun m hm => ?_⟩
             have hmL : Nat.beq m i = true ∨ Nat.beq m j = true := by
              rcases zcd (B := []) hsup (fun k hk => by rw [hA0 k] at hk; cases hk) hm with h | h
              · cases h
              · have := (List.all_eq_true.1 hrd1) m h
                simpa [Bool.or_eq_true] using this
             by_cases hmi : m = i
             · subst hmi
               unfold wpOp
               rw [hi]
               simp only
               rw [if_pos hwi]
               refine .inl ?_
               have hef := zaM hinv.env.ty hinv.env.tys hinv.env.inv hinv.env.call hinv.fr.sim (fun _ _ h => h) (fun _ _ h => h) hev
               refine Oper.wp_mono ?_ (zbz (zas hinv.fr hd hef hap (fun a' w' => ∃ c', c'.W = w' ∧ c'.s = c.s.put y (.dat x) ∧ Fr X c' a' ∧ Ext c c' ∧ Below c.W.heap.size c.W c'.W ∧ a'.tmps.size = a.tmps.size ∧ a'.defers = a.defers) Q0 fun a' c' e1 e2 e3 eb e4 e5 => ⟨c', rfl, e1, e2, e3, eb, e4, e5⟩))
               rintro a' w' ⟨⟨c', rfl, e1, e2, e3, eb, e4, e5⟩, v, e6⟩
               exact ⟨fun _ => RG.of_below eb, hafter false _ c' a' v e1 e2 e3 e4 e5 e6 (fun e => by cases e) hg2⟩
             · have hmj : m = j := by
                rcases hmL with h | h
                · exact (hmi (beq_eq.1 h)).elim
                · exact beq_eq.1 h
               subst hmj
               have hflj : fl m = false := by
                have hgo' := hgo
                unfold zb3 at hgo'
                simp only [Bool.and_eq_true] at hgo'
                have h1 : (zbG ops (L.setIfInBounds i true) m l' && !fl m) = true := hgo'.2.1
                simp only [Bool.and_eq_true, Bool.not_eq_true'] at h1
                exact h1.2
               have hwj : Region.wanted oj (yielded ops a.tmps) = true := by simp [Region.wanted, hgj]
               have hkj := hops oj (Array.mem_toList_iff.2 (Array.mem_of_getElem? hj))
               unfold wpOp
               rw [hj]
               simp only
               rw [if_pos hwj]
               refine .inl ?_
               refine Oper.wp_mono ?_ (zbz (zbl hinv.env hinv.fr hkj hst1 (fun a' w' => ∃ c', c'.W = w' ∧ c'.s = t1 ∧ Fr X c' a' ∧ Ext c c' ∧ a'.tmps.size = a.tmps.size ∧ a'.defers = a.defers) Q0 fun a' c' e1 e2 e3 e4 e5 => ⟨c', rfl, e1, e2, e3, e4, e5⟩))
               rintro a' w' ⟨⟨c', rfl, e1, e2, e3, e4, e5⟩, v, e6⟩
               refine ⟨fun e => (by rw [hflj] at e; cases e), ?_⟩
               have hjA := hA0 m
               have hinv1 := hinv.step (first' := false) hdst hM hj hjA e2 e3 e4 e5 e6 (fun e => by cases e)
               have hsup1 : Sup (L.setIfInBounds m true) (listed.setIfInBounds m true) A := hsup.set m
               have hst2 : 1 ≤ fuel := by
                have h1 := zaG (A := A) (i := m) (k := 11) (ds := ds') (l := l')
                rw [hjA] at h1
                simp only at h1
                omega
               obtain ⟨fuel, rfl⟩ : ∃ f2, fuel = f2 + 1 := ⟨fuel - 1, by omega⟩
               have hnotr : i ∈ Region.ready .any ops (listed.setIfInBounds m true) := ready_mono hready (fun e => hmi e.symm)
               refine ⟨fun e => (by rw [e] at hnotr; cases hnotr), fun q hq => ?_⟩
               have hqi : q = i := by
                rcases zcd (B := []) hsup1 (fun k hk => by rw [hA0 k] at hk; cases hk) hq with h | h
                · cases h
                · exact (beq_eq.1 ((List.all_eq_true.1 hrd2) q h)).symm
               subst hqi
               have hevi : evOp E c'.s.look c'.s.get c'.s.box o.type o.op = some (.pure (.dat x)) := by
                rw [e1, hoi]
                rw [hoi] at hev
                exact hld hrl hoi hev
               have hwi' : Region.wanted o (yielded ops a'.tmps) = true := by simp [Region.wanted, hgi]
               have hdi : ∀ n : Nat, o.dst = some n → n < a'.tmps.size := by rw [e4]; exact hd
               have hefi := zaM hinv1.env.ty hinv1.env.tys hinv1.env.inv hinv1.env.call hinv1.fr.sim (fun _ _ h => h) (fun _ _ h => h) hevi
               have hapi : c'.s.apply o.dst (.pure (.dat x)) = some (t1.put y (.dat x)) := by rw [e1, hyi]; rfl
               unfold wpOp
               rw [hi]
               simp only
               rw [if_pos hwi']
               refine .inl ?_
               refine Oper.wp_mono ?_ (zbz (zas hinv1.fr hdi hefi hapi (fun a' w' => ∃ c2, c2.W = w' ∧ c2.s = t1.put y (.dat x) ∧ Fr X c2 a' ∧ Ext c' c2 ∧ Below c'.W.heap.size c'.W c2.W ∧ a'.tmps.size = a.tmps.size ∧ a'.defers = a.defers) Q0 fun a' c' e1 e2 e3 eb e4' e5' => ⟨c', rfl, e1, e2, e3, eb, e4'.trans e4, e5'.trans e5⟩))
               rintro a2 w2 ⟨⟨c2, rfl, g1, g2, g3, gb, g4, g5⟩, v2, g6⟩
               refine ⟨fun _ => RG.of_below gb, ?_⟩
               have hinv2 := hinv1.step (first' := false) hdst hM hi hiA g2 g3 (g4.trans e4.symm) (g5.trans e5.symm) g6 (fun e => by cases e)
               have hgo' := hgo
               unfold zb3 at hgo'
               simp only [Bool.and_eq_true] at hgo'
               refine ihl2 _ l' rfl fuel false _ _ A blk c2 a2 hgo'.2.2 ?_ (fun k hk => by rw [hA0 k] at hk; cases hk) ?_ hinv2 (by rw [g1]; exact hg3)
               · rw [Array.setIfInBounds_comm true true hmi]
                 exact (hsup.set _).set _
               · have h1 := zaG (A := A) (i := m) (k := 11) (ds := ds') (l := l')
                 rw [hjA] at h1
                 simp only at h1
                 omega
           · cases hs2
         · cases hs1
       · cases hpair
     · -- a store of a scalar into a variable, alone
       have hrow' : (zbG ops L i l && !fl i) = true := hrow
       simp only [Bool.and_eq_true, Bool.not_eq_true'] at hrow'
       refine halone hrow'.1 (.inr fun K hK => ?_)
       subst hK
       rw [show (first && zbq 11) = false from Bool.and_false first] at hg
       unfold wpOp
       rw [hi]
       simp only
       rcases hg with ⟨hw, hg⟩ | ⟨hw, hg⟩
       · rw [if_pos hw]
         refine .inl ?_
         have hg : ((match zbC c.s o with | true => step E c.s o | false => none).bind fun s2 => zat E ops Mo false l s2) = some s' := hg
         simp only [Option.bind_eq_some_iff] at hg
         obtain ⟨s1, hs1, hg⟩ := hg
         split at hs1
         · refine Oper.wp_mono ?_ (zbz (zbl hinv.env hinv.fr hk hs1 (fun a' w' => ∃ c', c'.W = w' ∧ c'.s = s1 ∧ Fr X c' a' ∧ Ext c c' ∧ a'.tmps.size = a.tmps.size ∧ a'.defers = a.defers) Q0 fun a' c' e1 e2 e3 e4 e5 => ⟨c', rfl, e1, e2, e3, e4, e5⟩))
           rintro a' w' ⟨⟨c', rfl, e1, e2, e3, e4, e5⟩, v, e6⟩
           exact ⟨fun e => by (rw [hrow'.2] at e; cases e), hafter false s1 c' a' v e1 e2 e3 e4 e5 e6 (fun e => by cases e) hg⟩
         · cases hs1
       · rw [if_neg (by rw [hw]; exact fun e => by cases e)]
         exact ⟨fun _ => RG.refl _, hafter false _ { c with s := c.s.putO o.dst .undef } _ undef rfl hu1 hu2 (zbn _ _ _) (zaZ _ _ _) rfl (fun e => by cases e) hg⟩
     · -- a load of a row and a call, whichever comes first
       have hrow' : zhu ops fl L i ds l = true := hrow
       cases l with
       | nil => cases hrow'
       | cons r' l' =>
       obtain ⟨j, k', ds'⟩ := r'
       unfold zhu at hrow'
       simp only [Bool.and_eq_true, Bool.not_eq_true', List.isEmpty_iff] at hrow'
       obtain ⟨⟨⟨hk8, hal', hij⟩, hpair⟩, hrd1, hrd2, hrd3⟩ := hrow'
       have hk8 : k' = 13 := beq_eq.1 hk8
       subst hk8
       have hij : i ≠ j := fun e => by rw [beq_eq.2 e] at hij; cases hij
       have hA0 : ∀ m, memN m A = false := fun m => by
        cases hm : memN m A with
        | false => rfl
        | true =>
          have h1 := hAl m hm
          have h2 : m ∈ zaf l' := h1
          rw [hal'] at h2
          cases h2
       rw [hi] at hpair
       cases hj : ops[j]? with
       | none => rw [hj] at hpair; cases hpair
       | some oj =>
       rw [hj] at hpair
       simp only at hpair
       unfold zh6 at hpair
       split at hpair
       · rename_i tl z y ca x hoi hyi hgi hoj hxj hgj
         simp only [Bool.and_eq_true, Bool.not_eq_true'] at hpair
         obtain ⟨hcal, ⟨hxy, hxd, hyd⟩, hnz, hna⟩ := hpair
         have hna : ∀ z ∈ ca.args.toList, zb7 y z = false := fun z hz => by simpa using (List.all_eq_true.1 hna) z hz
         have hxy : x ≠ y := fun e => by rw [beq_eq.2 e] at hxy; cases hxy
         have hjx : c.s.t x = .junk := zbg hjunk x (memN_iff.1 hxd)
         have hjy : c.s.t y = .junk := zbg hjunk y (memN_iff.1 hyd)
         have hwi : Region.wanted o (yielded ops a.tmps) = true := by simp [Region.wanted, hgi]
         rw [show (first && zbq 12) = false from Bool.and_false first] at hg
         have hg2 : ((match Mo with | none => (match zeo E c.s o with | true => step E c.s o | false => none) | some _ => none).bind fun s1 => zat E ops Mo false ((j, 13, ds') :: l') s1) = some s' := by
          rcases hg with ⟨_, hg⟩ | ⟨hw, _⟩
          · exact hg
          · rw [hwi] at hw; cases hw
         simp only [Option.bind_eq_some_iff] at hg2
         obtain ⟨s1, hs1, hg2⟩ := hg2
         have hMo : Mo = none := by
          cases Mo with
          | none => rfl
          | some M => cases hs1
         rw [hMo] at hs1
         simp only at hs1
         split at hs1
         · rename_i hrl
           obtain ⟨d, hdb, hev, hloc⟩ : ∃ d, zcP d = true ∧ evOp E c.s.look c.s.get c.s.box o.type o.op = some (.pure d) ∧ ∃ n off, c.s.look z = .ptr (.loc n) off := by
            unfold zeo at hrl
            rw [hoi] at hrl ⊢
            simp only at hrl
            split at hrl
            · rename_i n off d hl0 hd0
              exact ⟨d, hrl, hd0, n, off, hl0⟩
            · cases hrl
           have hs1e : s1 = c.s.put y d := by
            unfold step at hs1
            rw [hev, hyi] at hs1
            exact (Option.some.inj hs1).symm
           subst hs1e
           have hap : c.s.apply o.dst (.pure d) = some (c.s.put y d) := by rw [hyi]; rfl
           have hg3 := hg2
           unfold zat at hg3
           split at hg3
           · cases hg3
           rename_i hjunk2
           rw [hj] at hg3
           simp only [hgj, zby] at hg3
           have hg3 : ((match zcM E (c.s.put y d) oj with | true => step E (c.s.put y d) oj | false => none).bind fun s2 => zat E ops Mo false l' s2) = some s' := hg3
           simp only [Option.bind_eq_some_iff] at hg3
           obtain ⟨s2, hs2, hg3⟩ := hg3
           split at hs2
           · rename_i hvs
             obtain ⟨t1, hst1, rfl, hld⟩ := zjT hjy hjx hdb hoj hxj hxy hcal hvs hna hs2
             refine ⟨fun e => (by rw [e] at hready; cases hready), fun m hm => ?_⟩
             have hmL : Nat.beq m i = true ∨ Nat.beq m j = true := by
              rcases zcd (B := []) hsup (fun k hk => by rw [hA0 k] at hk; cases hk) hm with h | h
              · cases h
              · have := (List.all_eq_true.1 hrd1) m h
                simpa [Bool.or_eq_true] using this
             by_cases hmi : m = i
             · subst hmi
               unfold wpOp
               rw [hi]
               simp only
               rw [if_pos hwi]
               refine .inl ?_
               have hef := zaM hinv.env.ty hinv.env.tys hinv.env.inv hinv.env.call hinv.fr.sim (fun _ _ h => h) (fun _ _ h => h) hev
               refine Oper.wp_mono ?_ (zbz (zas hinv.fr hd hef hap (fun a' w' => ∃ c', c'.W = w' ∧ c'.s = c.s.put y d ∧ Fr X c' a' ∧ Ext c c' ∧ Below c.W.heap.size c.W c'.W ∧ a'.tmps.size = a.tmps.size ∧ a'.defers = a.defers) Q0 fun a' c' e1 e2 e3 eb e4 e5 => ⟨c', rfl, e1, e2, e3, eb, e4, e5⟩))
               rintro a' w' ⟨⟨c', rfl, e1, e2, e3, eb, e4, e5⟩, v, e6⟩
               exact ⟨fun _ => RG.of_below eb, hafter false _ c' a' v e1 e2 e3 e4 e5 e6 (fun e => by cases e) hg2⟩
             · have hmj : m = j := by
                rcases hmL with h | h
                · exact (hmi (beq_eq.1 h)).elim
                · exact beq_eq.1 h
               subst hmj
               have hflj : fl m = false := by
                have hgo' := hgo
                unfold zb3 at hgo'
                simp only [Bool.and_eq_true] at hgo'
                have h1 : (zbG ops (L.setIfInBounds i true) m l' && !fl m) = true := hgo'.2.1
                simp only [Bool.and_eq_true, Bool.not_eq_true'] at h1
                exact h1.2
               have hwj : Region.wanted oj (yielded ops a.tmps) = true := by simp [Region.wanted, hgj]
               have hkj := hops oj (Array.mem_toList_iff.2 (Array.mem_of_getElem? hj))
               unfold wpOp
               rw [hj]
               simp only
               rw [if_pos hwj]
               refine .inl ?_
               refine Oper.wp_mono ?_ (zbz (zbl hinv.env hinv.fr hkj hst1 (fun a' w' => ∃ c', c'.W = w' ∧ c'.s = t1 ∧ Fr X c' a' ∧ Ext c c' ∧ a'.tmps.size = a.tmps.size ∧ a'.defers = a.defers) Q0 fun a' c' e1 e2 e3 e4 e5 => ⟨c', rfl, e1, e2, e3, e4, e5⟩))
               rintro a' w' ⟨⟨c', rfl, e1, e2, e3, e4, e5⟩, v, e6⟩
               refine ⟨fun e => (by rw [hflj] at e; cases e), ?_⟩
               have hjA := hA0 m
               have hinv1 := hinv.step (first' := false) hdst hM hj hjA e2 e3 e4 e5 e6 (fun e => by cases e)
               have hsup1 : Sup (L.setIfInBounds m true) (listed.setIfInBounds m true) A := hsup.set m
               have hnotr : i ∈ Region.ready .any ops (L.setIfInBounds m true) := by simpa using hrd2
               have hgo' := hgo
               unfold zb3 at hgo'
               simp only [Bool.and_eq_true] at hgo'
               have hgo2 : zb3 E.ty ops fl (L.setIfInBounds m true) ((i, 1, []) :: l') = true := by
                unfold zb3
                simp only [Bool.and_eq_true]
                refine ⟨⟨hrd2, ?_, ?_⟩, (by show (zeB _ _ _ _ && zgO _ _ _ _ _) = true; rw [hrd3.1, hrd3.2]; rfl), ?_⟩
                · have h9 := hni
                  simp only [List.any_cons, Bool.or_eq_false_iff] at h9
                  rw [h9.2]; rfl
                · show ((zaf l').all _) = true
                  rw [hal']; rfl
                · rw [Array.setIfInBounds_comm true true (fun e => hmi e)]
                  exact hgo'.2.2
               have hevi : evOp E c'.s.look c'.s.get c'.s.box o.type o.op = some (.pure d) := by
                rw [e1, hoi]
                rw [hoi] at hev
                exact hld hnz hloc hev
               refine ihl3 _ l' rfl (i, 1, []) fuel false _ _ A blk c' a' hgo2 hsup1 (fun k hk => by rw [hA0 k] at hk; cases hk) ?_ hinv1 ?_
               · have h1 := zaG (A := A) (i := m) (k := 13) (ds := ds') (l := l')
                 have h2 := zaG (A := A) (i := i) (k := 1) (ds := []) (l := l')
                 rw [hjA] at h1
                 rw [hA0 i] at h2
                 simp only at h1 h2
                 omega
               · unfold zat
                 simp only [zdH, hi, hgi, zby]
                 rw [hMo] at hg3 ⊢
                 rw [e1]
                 have hl1 : zar E none false 1 t1 o = some (t1.put y d) := by
                  rw [e1, hoi] at hevi
                  simp only [evOp, Option.bind_eq_some_iff, Option.map_eq_some_iff] at hevi
                  obtain ⟨ti, hti, d0, hd0, hpd⟩ := hevi
                  cases hpd
                  simp only [zar, zaF, zde, hoi, hyi, hti, hd0, Option.bind_some, Option.map_some]
                 rw [hl1]
                 exact hg3
           · cases hs2
         · cases hs1
       · cases hpair
     · -- a call, alone
       have hrow' : (zbG ops L i l && !fl i) = true := hrow
       simp only [Bool.and_eq_true, Bool.not_eq_true'] at hrow'
       refine halone hrow'.1 (.inr fun K hK => ?_)
       subst hK
       rw [show (first && zbq 13) = false from Bool.and_false first] at hg
       unfold wpOp
       rw [hi]
       simp only
       rcases hg with ⟨hw, hg⟩ | ⟨hw, hg⟩
       · rw [if_pos hw]
         refine .inl ?_
         have hg : ((match zcM E c.s o with | true => step E c.s o | false => none).bind fun s2 => zat E ops Mo false l s2) = some s' := hg
         simp only [Option.bind_eq_some_iff] at hg
         obtain ⟨s1, hs1, hg⟩ := hg
         split at hs1
         · refine Oper.wp_mono ?_ (zbz (zbl hinv.env hinv.fr hk hs1 (fun a' w' => ∃ c', c'.W = w' ∧ c'.s = s1 ∧ Fr X c' a' ∧ Ext c c' ∧ a'.tmps.size = a.tmps.size ∧ a'.defers = a.defers) Q0 fun a' c' e1 e2 e3 e4 e5 => ⟨c', rfl, e1, e2, e3, e4, e5⟩))
           rintro a' w' ⟨⟨c', rfl, e1, e2, e3, e4, e5⟩, v, e6⟩
           exact ⟨fun e => by (rw [hrow'.2] at e; cases e), hafter false s1 c' a' v e1 e2 e3 e4 e5 e6 (fun e => by cases e) hg⟩
         · cases hs1
       · rw [if_neg (by rw [hw]; exact fun e => by cases e)]
         exact ⟨fun _ => RG.refl _, hafter false _ { c with s := c.s.putO o.dst .undef } _ undef rfl hu1 hu2 (zbn _ _ _) (zaZ _ _ _) rfl (fun e => by cases e) hg⟩
     · -- calm
       rw [show (first && zbq 0) = first from Bool.and_true first] at hg
       rcases hg with ⟨hw, hg⟩ | ⟨hw, hg⟩
       · simp only [zar, zaF, Option.bind_eq_some_iff] at hg
         obtain ⟨s1, hs1, hg⟩ := hg
         unfold zep at hs1
         split at hs1
         · rename_i n hcm hdn
           split at hs1
           · rename_i d hev
             cases hs1
             have hcalm := zjC hinv.env.ty hinv.env.tys hinv.fr.sim hcm hev n (fun _ => True)
             obtain ⟨v, c', e1, e2, e3, e4, e5, e6⟩ := zhn hinv.fr (hd n hdn) hcalm
             refine zfb RG.refl hi (Region.noSelect_spec hsel) (hQ _ _) (hfree hrow).1 fuel listed a c.W (hfree hrow).2.1 (hfree hrow).2.2 hready (.inl ⟨hw, fun w => e6 w trivial⟩) ?_
             rw [← e2]
             exact hafter first _ c' _ v e1 (by rw [hdn]; exact e3) e4 (zbn _ _ _) (zaZ _ _ _) rfl (fun hf => ziv (hinv.fst hf) e2 e5) hg
           · cases hs1
         · cases hs1
       · refine zfb RG.refl hi (Region.noSelect_spec hsel) (hQ _ _) (hfree hrow).1 fuel listed a c.W (hfree hrow).2.1 (hfree hrow).2.2 hready (.inr ⟨hw, rfl⟩) ?_
         exact hafter first _ { c with s := c.s.putO o.dst .undef } _ undef rfl hu1 hu2 (zbn _ _ _) (zaZ _ _ _) rfl (fun hf => hinv.fst hf) hg
     · -- a load
       rw [show (first && zbq 1) = first from Bool.and_true first] at hg
       have hrow' : (zeB ops L i (zaf l) && zgO ops fl L i (zec ops i (List.range ops.size) [])) = true := hrow
       rw [hD] at hrow'
       simp only [Bool.and_eq_true] at hrow'
       obtain ⟨hfr, hlate⟩ := hrow'
       have hfree2 : ∀ j oj, ops[j]? = some oj → j ≠ i → listed.getD j true = false → memN j BH = false → o.apart ops oj = true ∧ fl j = true := fun j oj hj hne hun hno =>
        ⟨(hfree hfr).2.1 j oj hj hne hun hno, zi8 hlate hj hne (hsup.un hun).1 hno⟩
       rcases hg with ⟨hw, hg⟩ | ⟨hw, hg⟩
       · simp only [zar, zaF, Option.bind_eq_some_iff] at hg
         obtain ⟨s1, hs1, hg⟩ := hg
         have key : ∀ (n : Nat) (d : D), o.dst = some n → s1 = c.s.put n d → Calm P c a o n (RG (Gd c0 a0 Mo) c.W) d → zbS P .any ops Q0 (RG (Gd c0 a0 Mo)) fl (fuel + 1) listed a c.W := by
          intro n d hdn he hcalm
          subst he
          obtain ⟨v, c', e1, e2, e3, e4, e5, e6⟩ := zhn hinv.fr (hd n hdn) hcalm
          refine ze8 RG.trans RG.refl (w0 := c.W) hi (Region.noSelect_spec hsel) (hQ _ _) (hfree hfr).1 fuel listed a c.W hfree2 (hfree hfr).2.2 hready (.inl ⟨hw, e6⟩) (RG.refl _) ?_
          rw [← e2]
          exact hafter first _ c' _ v e1 (by rw [hdn]; exact e3) e4 (zbn _ _ _) (zaZ _ _ _) rfl (fun hf => ziv (hinv.fst hf) e2 e5) hg
         unfold zde at hs1
         split at hs1
         · rename_i t z n ho hdn
           simp only [Option.bind_eq_some_iff] at hs1
           obtain ⟨ti, hti, hs1⟩ := hs1
           rw [hinv.env.ty] at hti
           split at hs1
           · -- all zbq
             simp only [Option.map_eq_some_iff] at hs1
             obtain ⟨d, hld, rfl⟩ := hs1
             refine key n d hdn rfl ?_
             have hT : ∀ g, g < c.W.heap.size → ∀ w, RG (Gd c0 a0 none) c.W w → w.heap[g]? = c.W.heap[g]? := fun g hg w hw => hw.2 g hg trivial
             exact zhE hinv.env.tys hinv.fr.sim (fun _ _ h => h) (fun _ _ h => h) (fun b g _ hg => hT g hg) (fun r cs hb => hT _ (hinv.fr.sim.boxes r cs hb).lt) (fun _ _ _ g hg => hT g hg) ho hti hld
           · rename_i M
             split at hs1
             · simp only [Option.map_eq_some_iff] at hs1
               obtain ⟨d, hld, rfl⟩ := hs1
               refine key n d hdn rfl ?_
               have hmask : ∀ r cs, zko M c.s r = some cs → c.s.box r = some cs ∧ ∃ n ∈ M, c.s.t n = .ptr r 0 := fun r cs hb => by
                unfold zko at hb
                split at hb
                · rename_i n
                  split at hb
                  · rename_i hc
                    simp only [Bool.and_eq_true] at hc
                    exact ⟨hb, n, memN_iff.1 hc.1, zik hc.2⟩
                  · cases hb
                · rename_i k
                  split at hb
                  · rename_i hc
                    obtain ⟨n, hn, hc⟩ := List.any_eq_true.1 hc
                    split at hc
                    · rename_i j o' ht
                      simp only [Bool.and_eq_true] at hc
                      rw [beq_eq.1 hc.1, beq_eq.1 hc.2] at ht
                      exact ⟨hb, n, hn, ht⟩
                    · cases hc
                  · cases hb
               refine zhE hinv.env.tys hinv.fr.sim (gp := fun _ => none) (bx := zko M c.s) (fun _ _ h => by cases h) (fun r cs hb => (hmask r cs hb).1) (fun b g hr hg w hw => ?_) (fun r cs hb w hw => ?_) (fun _ _ h => by cases h) ho hti hld
               · obtain ⟨h1, h2⟩ := hinv.fst rfl b g hr hg
                 exact hw.2 g hg (.inl ⟨h1, h2⟩)
               · obtain ⟨h1, n, hn, h2⟩ := hmask r cs hb
                 have hlt := (hinv.fr.sim.boxes _ cs h1).lt
                 have hv := hinv.fr.sim.slots n
                 rw [h2] at hv
                 have hv2 : a0.tmps.getD n undef = .pointer (some ⟨c.β r, 0, none⟩) := by
                  rw [← hinv.mtm M rfl n hn]
                  exact hv.2
                 exact hw.2 _ hlt (.inr ⟨n, hn, hv2⟩)
             · cases hs1
         · cases hs1
       · refine ze8 RG.trans RG.refl (w0 := c.W) hi (Region.noSelect_spec hsel) (hQ _ _) (hfree hfr).1 fuel listed a c.W hfree2 (hfree hfr).2.2 hready (.inr ⟨hw, rfl⟩) (RG.refl _) ?_
         exact hafter first _ { c with s := c.s.putO o.dst .undef } _ undef rfl hu1 hu2 (zbn _ _ _) (zaZ _ _ _) rfl (fun hf => hinv.fst hf) hg
     · -- alone
       have hrow' : (zbG ops L i l && !fl i) = true := hrow
       simp only [Bool.and_eq_true, Bool.not_eq_true'] at hrow'
       refine halone hrow'.1 (.inr fun K hK => ?_)
       subst hK
       rw [show (first && zbq 2) = false from Bool.and_false first] at hg
       unfold wpOp
       rw [hi]
       simp only
       rcases hg with ⟨hw, hg⟩ | ⟨hw, hg⟩
       · rw [if_pos hw]
         refine .inl ?_
         simp only [zar, zaF, Option.bind_eq_some_iff] at hg
         obtain ⟨s1, hs1, hg⟩ := hg
         refine Oper.wp_mono ?_ (zbz (zbl hinv.env hinv.fr hk hs1 (fun a' w' => ∃ c', c'.W = w' ∧ c'.s = s1 ∧ Fr X c' a' ∧ Ext c c' ∧ a'.tmps.size = a.tmps.size ∧ a'.defers = a.defers) Q0 fun a' c' e1 e2 e3 e4 e5 => ⟨c', rfl, e1, e2, e3, e4, e5⟩))
         rintro a' w' ⟨⟨c', rfl, e1, e2, e3, e4, e5⟩, v, e6⟩
         exact ⟨fun e => by (rw [hrow'.2] at e; cases e), hafter false s1 c' a' v e1 e2 e3 e4 e5 e6 (fun e => by cases e) hg⟩
       · rw [if_neg (by rw [hw]; exact fun e => by cases e)]
         exact ⟨fun _ => RG.refl _, hafter false _ { c with s := c.s.putO o.dst .undef } _ undef rfl hu1 hu2 (zbn _ _ _) (zaZ _ _ _) rfl (fun e => by cases e) hg⟩
     · -- a new variable
       exact halone hrow (.inl rfl)
     · -- alone, and loads are about
       have hrow : zbG ops L i l = true := by
        unfold zmf at hrow
        split at hrow <;> first | (exfalso; omega) | exact hrow
       refine halone hrow (.inr fun K hK => ?_)
       subst hK
       rw [show (first && zbq (m + 4)) = false from Bool.and_false first] at hg
       unfold wpOp
       rw [hi]
       simp only
       rcases hg with ⟨hw, hg⟩ | ⟨hw, hg⟩
       · rw [if_pos hw]
         refine .inl ?_
         by_cases hm1 : m = 1
         · -- a row that grows
           subst hm1
           simp only [zar, Option.bind_eq_some_iff] at hg
           obtain ⟨s1, hs1, hg⟩ := hg
           split at hs1
           · rename_i hgr
             unfold zkj at hgr
             split at hgr
             · rename_i M
               simp only [Bool.and_eq_true] at hgr
               refine Oper.wp_mono ?_ (zbz (ziT hinv.env hinv.fr hk hgr.1 hs1 (fun a' w' => ∃ c', c'.W = w' ∧ c'.s = s1 ∧ Fr X c' a' ∧ Ext c c' ∧ a'.tmps.size = a.tmps.size ∧ a'.defers = a.defers ∧ ∀ g r, g < c.W.heap.size → c.ρ g = .box r → c'.W.heap[g]? = c.W.heap[g]?) Q0 fun a' c' e1 e2 e3 e4 e5 e6 => ⟨c', rfl, e1, e2, e3, e4, e5, e6⟩))
               rintro a' w' ⟨⟨c', rfl, e1, e2, e3, e4, e5, ef⟩, v, e6⟩
               refine ⟨fun _ => ⟨e3.size, fun g hgl hG => ?_⟩, hafter false s1 c' a' v e1 e2 e3 e4 e5 e6 (fun e => by cases e) hg⟩
               rcases hG with ⟨h0, h1⟩ | ⟨n, hn, h1⟩
               · exact (e3.keep g hgl (by rw [(hinv.ext.keep g h0 h1).1]; exact h1)).2
               · obtain ⟨r, h2, h3⟩ := zkN ((List.all_eq_true.1 hgr.2) n hn)
                 obtain ⟨cs, hb⟩ := Option.isSome_iff_exists.1 h3
                 obtain ⟨vs, T, _, hbox, _⟩ := (hinv.fr.sim.boxes r cs hb).out
                 have hv := hinv.fr.sim.slots n
                 rw [h2] at hv
                 have h4 : a.tmps.getD n undef = .pointer (some ⟨c.β r, 0, none⟩) := hv.2
                 rw [hinv.mtm M rfl n hn, h1] at h4
                 have h5 : g = c.β r := by
                  injection h4 with h4
                  injection h4 with h4
                  injection h4
                 rw [← h5] at hbox
                 exact ef g r hgl hbox
             · cases hgr
           · cases hs1
         by_cases hm2 : m = 2 ∨ m = 4
         · have hr6 : zar E Mo first (m + 4) c.s o = zay E none c.s o := by
            rcases hm2 with rfl | rfl <;> rfl
           rw [hr6] at hg
           simp only [Option.bind_eq_some_iff] at hg
           obtain ⟨s1, hs1, hg⟩ := hg
           unfold zay at hs1
           simp only [Option.bind_eq_some_iff] at hs1
           obtain ⟨ef, hev, hap⟩ := hs1
           have hef := zaM hinv.env.ty hinv.env.tys hinv.env.inv hinv.env.call hinv.fr.sim (fun _ _ h => h) (fun _ _ h => h) hev
           refine Oper.wp_mono ?_ (zbz (zas hinv.fr hd hef hap (fun a' w' => ∃ c', c'.W = w' ∧ c'.s = s1 ∧ Fr X c' a' ∧ Ext c c' ∧ Below c.W.heap.size c.W c'.W ∧ a'.tmps.size = a.tmps.size ∧ a'.defers = a.defers) Q0 fun a' c' e1 e2 e3 eb e4 e5 => ⟨c', rfl, e1, e2, e3, eb, e4, e5⟩))
           rintro a' w' ⟨⟨c', rfl, e1, e2, e3, eb, e4, e5⟩, v, e6⟩
           exact ⟨fun _ => RG.of_below eb, hafter false s1 c' a' v e1 e2 e3 e4 e5 e6 (fun e => by cases e) hg⟩
         by_cases hm5 : m = 5
         · -- a conversion that reads a row
           subst hm5
           simp only [zar, Option.bind_eq_some_iff] at hg
           obtain ⟨s1, hs1, hg⟩ := hg
           split at hs1
           · rename_i hcv
             have hwp : o.wp P a c.W (fun a' w' => ∃ c', c'.W = w' ∧ c'.s = s1 ∧ Fr X c' a' ∧ Ext c c' ∧ Below c.W.heap.size c.W c'.W ∧ a'.tmps.size = a.tmps.size ∧ a'.defers = a.defers) Q0 := by
              unfold step at hs1
              split at hs1
              · rename_i ef hev
                have hef := zaM hinv.env.ty hinv.env.tys hinv.env.inv hinv.env.call hinv.fr.sim (fun _ _ h => h) (fun _ _ h => h) hev
                exact zas hinv.fr hd hef hs1 _ Q0 fun a' c' e1 e2 e3 eb e4 e5 => ⟨c', rfl, e1, e2, e3, eb, e4, e5⟩
              · unfold zjA at hcv
                split at hcv
                · rename_i t u z ho
                  rw [ho] at hs1
                  simp only [doOp] at hs1
                  exact zfB hinv.env hinv.fr hd ho hs1 _ Q0 fun a' c' e1 e2 e3 eb e4 e5 => ⟨c', rfl, e1, e2, e3, eb, e4, e5⟩
                · cases hcv
             refine Oper.wp_mono ?_ (zbz hwp)
             rintro a' w' ⟨⟨c', rfl, e1, e2, e3, eb, e4, e5⟩, v, e6⟩
             exact ⟨fun _ => RG.of_below eb, hafter false s1 c' a' v e1 e2 e3 e4 e5 e6 (fun e => by cases e) hg⟩
           · cases hs1
         have hrs : ∀ s, zar E Mo first (m + 4) s o = zay E Mo s o := fun s => by
          unfold zar
          split
          · exfalso; omega
          · exfalso; omega
          · exfalso; omega
          · exfalso; omega
          · exfalso; omega
          · exfalso; omega
          · exfalso; omega
          · exfalso; omega
          · exfalso; omega
          · rfl
         rw [hrs] at hg
         simp only [Option.bind_eq_some_iff] at hg
         obtain ⟨s1, hs1, hg⟩ := hg
         unfold zay at hs1
         split at hs1
         · simp only [Option.bind_eq_some_iff] at hs1
           obtain ⟨ef, hev, hap⟩ := hs1
           have hef := zaM hinv.env.ty hinv.env.tys hinv.env.inv hinv.env.call hinv.fr.sim (fun _ _ h => h) (fun _ _ h => h) hev
           refine Oper.wp_mono ?_ (zbz (zas hinv.fr hd hef hap (fun a' w' => ∃ c', c'.W = w' ∧ c'.s = s1 ∧ Fr X c' a' ∧ Ext c c' ∧ Below c.W.heap.size c.W c'.W ∧ a'.tmps.size = a.tmps.size ∧ a'.defers = a.defers) Q0 fun a' c' e1 e2 e3 eb e4 e5 => ⟨c', rfl, e1, e2, e3, eb, e4, e5⟩))
           rintro a' w' ⟨⟨c', rfl, e1, e2, e3, eb, e4, e5⟩, v, e6⟩
           exact ⟨fun _ => RG.of_below eb, hafter false s1 c' a' v e1 e2 e3 e4 e5 e6 (fun e => by cases e) hg⟩
         · rename_i M
           split at hs1
           · cases hs1
           rename_i hhid
           simp only [Option.bind_eq_some_iff] at hs1
           obtain ⟨s2, hs2, hs1⟩ := hs1
           split at hs1
           · rename_i hno
             cases hs1
             obtain ⟨f1, f2⟩ := ziH hinv.fr hhid
             have hE2 := hinv.env.next f2 rfl
             refine Oper.wp_mono ?_ (zbz (zbl hE2 f1 hk hs2 (fun a' w' => ∃ c', c'.W = w' ∧ c'.s = s2 ∧ Fr X c' a' ∧ Ext (c.hid M) c' ∧ a'.tmps.size = a.tmps.size ∧ a'.defers = a.defers) Q0 fun a' c' e1 e2 e3 e4 e5 => ⟨c', rfl, e1, e2, e3, e4, e5⟩))
             rintro a' w' ⟨⟨c', rfl, e1, e2, e3, e4, e5⟩, v, e6⟩
             obtain ⟨g1, g2⟩ := zhS hinv.fr hhid e3 e2 e4 e6 (by rw [e1]; exact hno)
             refine ⟨fun _ => ⟨e3.size, fun g hgl hG => ?_⟩, hafter false _ (c.shown c' M o.dst) a' v (by show c'.s.shown M o.dst c.s = _; rw [e1]) g1 g2 e4 e5 e6 (fun e => by cases e) hg⟩
             refine (e3.keep g hgl ?_).2
             show stable (match c.isM M g with | true => Role.oth | false => c.ρ g)
             cases hM2 : c.isM M g with
             | true => trivial
             | false =>
               show stable (c.ρ g)
               rcases hG with ⟨h0, h1⟩ | ⟨n, hn, h1⟩
               · rw [(hinv.ext.keep g h0 h1).1]
                 exact h1
               · exfalso
                 have hv := hinv.fr.sim.slots n
                 rw [(zer hhid hn).1] at hv
                 have h2 : a.tmps.getD n undef = .pointer (some ⟨c.β (.loc n), 0, none⟩) := hv.2
                 rw [hinv.mtm M rfl n hn, h1] at h2
                 have h3 : g = c.β (.loc n) := by
                  injection h2 with h2
                  injection h2 with h2
                  injection h2
                 rw [isM_iff.2 ⟨n, hn, h3.symm⟩] at hM2
                 cases hM2
           · cases hs1
       · rw [if_neg (by rw [hw]; exact fun e => by cases e)]
         exact ⟨fun _ => RG.refl _, hafter false _ { c with s := c.s.putO o.dst .undef } _ undef rfl hu1 hu2 (zbn _ _ _) (zaZ _ _ _) rfl (fun e => by cases e) hg⟩
end
end Go.Den
namespace Go.Den
open Go Go.RowKit
set_option linter.unusedVariables false
variable {B : Nat → Option Obj}
theorem zlE {c : Cx} {a : Act} {X : Nat} (hf : Fr X c a) : Fr X { c with W := { c.W with drawn := c.W.drawn + 1 } } a ∧ Ext c { c with W := { c.W with drawn := c.W.drawn + 1 } } := by
 refine ⟨⟨Sim.same (Z := fun _ => False) hf.sim rfl (fun _ _ _ h => h) ⟨rfl, fun b g h _ => ⟨h, rfl⟩, fun q r hq _ => ⟨hq, rfl⟩, fun r hr _ => ⟨hr, rfl⟩, fun q _ => ⟨rfl, fun g h _ => ⟨h, rfl⟩⟩⟩ fun r hr => ?_, hf.ghost.out, hf.ghost.own⟩, rfl, rfl, rfl, Nat.le_refl _, fun _ _ _ => ⟨rfl, rfl⟩, rfl, fun _ => rfl, fun _ => rfl⟩
 obtain ⟨cs, hb⟩ := Option.isSome_iff_exists.1 hr
 obtain ⟨vs, T, h1, h2, _⟩ := (hf.sim.boxes r cs hb).out
 exact ⟨h2, rfl⟩
theorem zez {s : St} : ∀ {ds : List Nat}, zfU s ds = true → ∀ n ∈ ds, (s.t n).hasOwn = false
 | [], h, n, hn => by cases hn
 | m :: ds, h, n, hn => by
   have h' : (!(s.t m).hasOwn && zfU s ds) = true := h
   simp only [Bool.and_eq_true, Bool.not_eq_true'] at h'
   rcases List.mem_cons.1 hn with rfl | hn
   · exact h'.1
   · exact zez h'.2 n hn
theorem zkV {c : Cx} {a : Act} {X : Nat} {ds : List Nat} (hf : Fr X c a) (h : zfU c.s ds = true) : Fr X { c with s := c.s.junks ds } a := by
 refine ⟨zcI (K := Kill.none) hf.sim (fun y => ?_) (fun r cs' h => ⟨cs', by cases r <;> exact h, (zdW _).symm⟩) rfl (fun q r hq _ => ?_) (fun r hr _ => by cases r <;> exact hr), hf.ghost.out, ?_⟩
 · cases hm : memN y ds with
   | true => left; simp only [St.junks, hm]
   | false => right; simp only [St.junks, hm, za5, and_self]
 · cases q with
   | slot y l =>
     show (D.at_ l ((c.s.junks ds).t y)).row? = _
     cases hm : memN y ds with
     | true =>
       have hq' : (D.at_ l (c.s.t y)).row? = some r := hq
       rw [zbo l _ (zez h y (memN_iff.1 hm))] at hq'
       cases hq'
     | false => simp only [St.junks, hm]; exact hq
   | cell r0 o => cases r0 <;> exact hq
   | lent j => exact hq
 · show ((c.s.junks ds).t X).hasOwn = false
   cases hm : memN X ds with
   | true => simp only [St.junks, hm]; rfl
   | false => simp only [St.junks, hm]; exact hf.ghost.own
theorem ziL {P : Program} {E : Env} {X id : Nat} {ops : Array Oper} {p : Plan} (hm : P.follows .mixedOrders = true) (hp : E.plan id = some p) (hok : ziE E.ty ops p = true) (hops : ∀ o ∈ ops.toList, za1 E.nt o = true) : zk4 P B E X id ops := by
 intro c a s' Q hE hf h hEnd
 unfold ziE at hok
 simp only [Bool.and_eq_true] at hok
 obtain ⟨⟨hsel, hdst, hlen⟩, hMc, hgo⟩ := hok
 have hlen : p.2.length ≤ ops.size := by simpa using hlen
 have hM : ∀ M, p.1 = some M → ∀ o ∈ ops.toList, ∀ n ∈ M, o.dst ≠ some n := by
  intro M hM o ho n hn e
  rw [hM] at hMc
  simp only at hMc
  have h1 := (Array.all_eq_true_iff_forall_mem.1 hMc) o (Array.mem_toList_iff.1 ho)
  have h2 := (List.all_eq_true.1 h1) n hn
  simp [zky, e] at h2
 obtain ⟨hf1, he1⟩ := zlE hf
 let Q0 : Exit → Act → World → Prop := fun x a w => match x with | .normal => Q .normal a w | _ => False
 refine Code.wp_mono (Q := Q0) (fun e a w hq => ?_) (wp_region_any hm (zfW (R := RG (Gd { c with W := { c.W with drawn := c.W.drawn + 1 } } a p.1)) (str := zhR p.2) _ _ _ _ ?_))
 · cases e <;> first | exact hq | exact hq.elim
 · simp only [zb5, hp, zhT] at h
   have hstill : zco [] p.2 ≤ ops.size := by
    unfold zco
    exact Nat.le_trans List.countP_le_length hlen
   have key : ∀ (s0 : St), Fr X { c with W := { c.W with drawn := c.W.drawn + 1 }, s := s0 } a → zat E ops p.1 true p.2 s0 = some s' →
    zbS P .any ops Q0 (RG (Gd { c with W := { c.W with drawn := c.W.drawn + 1 } } a p.1)) (zhR p.2) ops.size (Array.replicate ops.size false) a { c.W with drawn := c.W.drawn + 1 } := by
    intro s0 hf0 h0
    have he0 : Ext c { c with W := { c.W with drawn := c.W.drawn + 1 }, s := s0 } := ⟨rfl, rfl, rfl, Nat.le_refl _, fun _ _ _ => ⟨rfl, rfl⟩, rfl, fun _ => rfl, fun _ => rfl⟩
    have hE0 := hE.next he0 rfl
    refine ziN (E := E) (X := X) (Q0 := Q0) (c0 := { c with W := { c.W with drawn := c.W.drawn + 1 }, s := s0 }) (a0 := a) hE0.tys hops hsel hdst hM (fun _ _ _ h => h) (hEnd.from he0 rfl rfl) p.2 ops.size true (Array.replicate ops.size false) _ [] (fun _ => 0)
     { c with W := { c.W with drawn := c.W.drawn + 1 }, s := s0 } a hgo (Sup.refl _) (fun j hj => by cases hj) hstill ⟨hE0.inv, hf0, hE0, Ext.refl _, rfl, rfl, fun _ _ _ _ => rfl, fun _ b g hr hg => ⟨hg, hr.stable⟩, fun j hj => (by cases hj), fun j k hj => (by cases hj)⟩ h0
   split at h
   · rename_i hnil
     refine key c.s hf1 ?_
     rw [hnil]
     exact h
   · rename_i i k ds l hcons
     split at h
     · rename_i hno
       refine key (c.s.junks ds) (zkV hf1 hno) ?_
       rw [hcons]
       exact h
     · cases h
def zbx (ty : Nat → Option TI) (nt : Nat) (plan : Nat → Option Plan) : Code → Bool
 | .region id ops draw => match draw with
   | true => (match plan id with | some p => ziE ty ops p | none => true)
   | false => true
 | .seq a b => zbx ty nt plan a && zbx ty nt plan b
 | .cond _ a b => zbx ty nt plan a && zbx ty nt plan b
 | .block _ a => zbx ty nt plan a
 | .loop a => zbx ty nt plan a
 | _ => true
theorem za7 {P : Program} {E : Env} {X : Nat} (hm : P.follows .mixedOrders = true) : ∀ (code : Code), zbf E.nt code = true → zbx E.ty E.nt E.plan code = true → zb9 P B E X code
 | .region id ops draw, hk, h => fun hd => by
   subst hd
   have hops : ∀ o ∈ ops.toList, za1 E.nt o = true := List.all_eq_true.1 hk
   have h' : (match E.plan id with | some p => ziE E.ty ops p | none => true) = true := h
   cases hp : E.plan id with
   | none =>
     intro c a s' Q hE hf hr
     simp only [zb5, hp] at hr
     cases hr
   | some p =>
     rw [hp] at h'
     exact ziL hm hp h' hops
 | .seq a b, hk, h => by
   have hk' : (zbf E.nt a && zbf E.nt b) = true := hk
   have h' : (zbx E.ty E.nt E.plan a && zbx E.ty E.nt E.plan b) = true := h
   simp only [Bool.and_eq_true] at hk' h'
   exact ⟨za7 hm a hk'.1 h'.1, za7 hm b hk'.2 h'.2⟩
 | .cond _ a b, hk, h => by
   have hk' : (zbf E.nt a && zbf E.nt b) = true := hk
   have h' : (zbx E.ty E.nt E.plan a && zbx E.ty E.nt E.plan b) = true := h
   simp only [Bool.and_eq_true] at hk' h'
   exact ⟨za7 hm a hk'.1 h'.1, za7 hm b hk'.2 h'.2⟩
 | .block _ a, hk, h => za7 hm a hk h
 | .loop a, hk, h => za7 hm a hk h
 | .skip, hk, h => trivial
 | .rangeFunc _ _ _ _, hk, h => trivial
 | .scope _, hk, h => trivial
 | .refuse _, hk, h => trivial
 | .exit _, hk, h => trivial
 | .ret, hk, h => trivial
 | .label _, hk, h => trivial
 | .goto _, hk, h => trivial
end Go.Den
namespace Go.Den
open Go Go.RowKit
set_option linter.unusedVariables false
variable {B : Nat → Option Obj}
theorem zcb {P : Program} {f : Nat} {fn : Func} {vals : Array Value} {W : World} {R : Value → World → Prop} (hf : P.funcs[f]? = some fn) (hn : (fn.name == "runtime.NumGoroutine") = false) (hb : fn.body.isSome = true) (h : Calls P f vals W fun e w' => ∃ v, e = .returned v ∧ R v w') : Reaches P f vals W R := by
 obtain ⟨code, hbd⟩ := Option.isSome_iff_exists.1 hb
 have hent : (callFunc f vals).run P W = .ok (.enter f vals) W := by
  have h1 : fn.name ≠ "runtime.NumGoroutine" := by simpa using hn
  simp [callFunc, hf, h1, hbd, mark]
 unfold Reaches
 rw [hent]
 refine Calls.mono h fun e w' he => ?_
 obtain ⟨v, rfl, hr⟩ := he
 exact hr
end Go.Den
namespace Go.Den
open Go Go.RowKit
set_option linter.unusedVariables false
variable {B : Nat → Option Obj}
structure ExtOK (P : Program) (ty : Nat → Option TI) (B : Nat → Option Obj) (f : Nat) (g : List D → List (List D) → List (Option Row) → Option (List D × List (List D) × List (Option Row))) : Prop where mk ::
 out : zcB P ty B fun f' args u l => if f' = f then g args u l else none
theorem zkZ {P : Program} {C : Cfg} (h1 : TyOk P C.ty) (h2 : ∀ f fn, C.fn f = some fn → FnOK P B C f fn) (h3 : ∀ f g, C.ext f = some g → ExtOK P C.ty B f g) : CfgOK P B C := ⟨h1, h2, fun f g h => (h3 f g h).out⟩
end Go.Den
namespace Go.Den
open Go Go.RowKit
set_option linter.unusedVariables false
variable {B : Nat → Option Obj}
structure Kept0 (w w' : World) : Prop where
 os : w'.os = w.os
 tape : w'.tape = w.tape
 output : w'.output = w.output
 size : w.heap.size ≤ w'.heap.size
 keep : ∀ g, g < w.heap.size → w'.heap[g]? = w.heap[g]?
theorem Kept0.refl (w : World) : Kept0 w w := ⟨rfl, rfl, rfl, Nat.le_refl _, fun _ _ => rfl⟩
theorem Kept0.trans {a b c : World} (h : Kept0 a b) (k : Kept0 b c) : Kept0 a c :=
 ⟨k.os.trans h.os, k.tape.trans h.tape, k.output.trans h.output, Nat.le_trans h.size k.size, fun g hg => (k.keep g (Nat.lt_of_lt_of_le hg h.size)).trans (h.keep g hg)⟩
theorem Kept0.alloc (w : World) (o : Obj) : Kept0 w (w.alloc o) := ⟨rfl, rfl, rfl, by simp, fun g hg => Below.heap_alloc w o g hg⟩
theorem Kept0.drew (w : World) : Kept0 w w.drew := ⟨rfl, rfl, rfl, Nat.le_refl _, fun _ _ => rfl⟩
def zhe : List D → Option (List Value)
 | [] => some []
 | .dat (.val v) :: ds => (zhe ds).map (v :: ·)
 | _ => none
def DV (v : Value) : D := .dat (.val v)
def zfG (φ : List Value → Option (List Value)) (args : List D) (u : List (List D)) (l : List (Option Row)) : Option (List D × List (List D) × List (Option Row)) :=
 match u, l with
 | [], [] => (zhe args).bind fun vs => (φ vs).map fun rs => (rs.map DV, [], [])
 | _, _ => none
def retV : List Value → Value
 | [v] => v
 | vs => .tuple vs.toArray
theorem zgX {c : Cx} {tm : Array Value} (hs : ∀ x, VR c (.slot x []) (c.s.t x) (tm.getD x undef)) : ∀ {args : List D} {vs : List Value} (k : Nat), zhe args = some vs → (∀ i d, args[i]? = some d → c.s.t (k + i) = d) → vs.length = args.length ∧ ∀ i v, vs[i]? = some v → tm.getD (k + i) undef = v
 | [], vs, k, h, ht => by cases h; exact ⟨rfl, fun i v hv => by simp at hv⟩
 | d :: ds, vs, k, h, ht => by
   unfold zhe at h
   split at h
   · rename_i h0; cases h0
   · rename_i w ds' h0
     cases h0
     obtain ⟨ws, hw, rfl⟩ := Option.map_eq_some_iff.1 h
     obtain ⟨h1, h2⟩ := zgX hs (k + 1) hw (fun i d hd => by rw [show k + 1 + i = k + (i + 1) by omega]; exact ht (i + 1) d (by simpa using hd))
     refine ⟨by simp [h1], fun i v hv => ?_⟩
     cases i with
     | zero =>
       cases hv
       have h3 := hs (k + 0)
       rw [ht 0 _ rfl] at h3
       exact (zap h3).1
     | succ i => rw [show k + (i + 1) = k + 1 + i by omega]; exact h2 i v (by simpa using hv)
   · cases h
theorem zjB {c : Cx} {p : Pl} : ∀ (rs : List Value) (i : Nat), (∀ r ∈ rs, scal r = true) → VRs c p i (rs.map DV) rs
 | [], i, h => rfl
 | r :: rs, i, h => ⟨r, rs, rfl, zaB (h r (by simp)), zjB rs (i + 1) fun x hx => h x (List.mem_cons_of_mem _ hx)⟩
theorem zey (b : Bool) : ∀ rs : List Value, D.tights b (rs.map DV) = true
 | [] => rfl
 | r :: rs => by
   show (D.tight b (DV r) && D.tights b (rs.map DV)) = true
   rw [zey b rs]
   rfl
theorem zeQ : ∀ rs : List Value, D.plains (rs.map DV) = true
 | [] => rfl
 | r :: rs => by
   show (D.plain (DV r) && D.plains (rs.map DV)) = true
   rw [zeQ rs]
   rfl
theorem zhq {P : Program} {ty : Nat → Option TI} {f : Nat} {φ : List Value → Option (List Value)}
 (h : ∀ vs rs W, (∀ (g : Nat) (o : Obj), B g = some o → W.heap[g]? = some o) → φ vs = some rs → rs ≠ [] ∧ (∀ r ∈ rs, scal r = true) ∧ Reaches P f vs.toArray W fun r W' => r = retV rs ∧ Kept0 W W') :
 zcB P ty B fun f' args u l => if f' = f then zfG φ args u l else none := by
 intro f' args u l rs u' l' hc c vals hcty hI hcs hsz2 hs
 simp only at hc
 split at hc
 · rename_i hff
   subst hff
   unfold zfG at hc
   split at hc
   · simp only [Option.bind_eq_some_iff, Option.map_eq_some_iff] at hc
     obtain ⟨vs, hv, ws, hw, hq⟩ := hc
     cases hq
     obtain ⟨hne, hsc, hr⟩ := h vs ws c.W (fun g o hg => (hI g o hg).2) hw
     obtain ⟨h1, h2⟩ := zgX (c := c) (tm := vals) hs.slots 0 hv (fun i d hd => by
      rw [hcs]
      show args.getD (0 + i) .undef = d
      rw [Nat.zero_add, List.getD_eq_getElem?_getD, hd]
      rfl)
     have hvals : vals = vs.toArray := by
      apply Array.ext
      · simp [hsz2, h1]
      · intro i hi1 hi2
        have hi3 : i < vs.length := by simpa using hi2
        have := h2 i vs[i] (List.getElem?_eq_getElem hi3)
        rw [Nat.zero_add] at this
        simpa [Array.getD, hi1] using this
     rw [hvals]
     refine hr.mono fun r W' hrr => ?_
     obtain ⟨rfl, hk⟩ := hrr
     refine ⟨{ c with W := W', s := ⟨fun x => match Nat.beq x 0 with | true => retD (ws.map DV) | false => .junk, fun _ => none, [], []⟩ }, rfl, Ans.of (zeQ ws) ⟨?_, rfl, ?_, ?_, ?_⟩⟩
     · exact ⟨hk.os, hk.tape, hk.output, hk.size, fun g hg _ => ⟨rfl, hk.keep g hg⟩, rfl, fun _ => rfl, fun _ => rfl⟩
     · refine ⟨fun x => ?_, fun r cs hb => ?_, fun j r hgj => ?_⟩
       · show VR _ _ (match Nat.beq x 0 with | true => retD (ws.map DV) | false => .junk) _
         cases hx : Nat.beq x 0 with
         | true =>
           have := Nat.eq_of_beq_eq_true hx
           subst this
           match ws, hne, hsc with
           | [w], _, hsc => exact zaB (hsc w (by simp))
           | w :: w2 :: ws, _, hsc => exact ⟨w :: w2 :: ws, rfl, fun e => (by cases e), zjB (w :: w2 :: ws) 0 hsc⟩
         | false => trivial
       · cases r with
         | loc n => cases hb
         | up n =>
           have hb' : ([] : List (List D))[n]? = some cs := hb
           simp at hb'
       · have hgj' : (([] : List (Option Row))[j]?).bind id = some r := hgj
         simp at hgj'
     · match ws, hne with
       | [w], _ => rfl
       | w :: w2 :: ws, _ => exact zey false (w :: w2 :: ws)
     · rw [hcs]
       rfl
   · cases hc
 · cases hc
theorem zjF {P : Program} {ty : Nat → Option TI} {f : Nat} {fn : Func} {φ : List Value → Option (List Value)} (hf : P.funcs[f]? = some fn) (hn : (fn.name == "runtime.NumGoroutine") = false) (hb : fn.body.isSome = true)
 (h : ∀ vs rs W, φ vs = some rs → rs ≠ [] ∧ (∀ r ∈ rs, scal r = true) ∧ Calls P f vs.toArray W fun e w' => ∃ v, e = .returned v ∧ (v = retV rs ∧ Kept0 W w')) : ExtOK P ty B f (zfG φ) :=
 ⟨zhq fun vs rs W _ hv => ⟨(h vs rs W hv).1, (h vs rs W hv).2.1, zcb hf hn hb (h vs rs W hv).2.2⟩⟩
end Go.Den
namespace Go.Proofs
open Go.Shelf
def Tryd.lays169_ren : Go.Shelf.Ren := ⟨fun | 169 => 33 | n => n, fun | 70 => 61 | 9 => 9 | 0 => 0 | 72 => 64 | 37 => 62 | 127 => 75 | 3 => 3 | 5 => 5 | n => n, fun | n => n⟩
theorem Tryd.lays169 : Go.Proofs.Lays.n169 Tryd.prog Tryd.lays169_ren := {
 mixed := by kernel_rfl
 f169 := Tryd.func33.trans (congrArg some (by kernel_rfl))
 t0 := Tryd.underlying0
 a0 := Tryd.isAgg0
 z0 := Tryd.sizeOf0
 v0 := Tryd.zeroValue0
 t3 := Tryd.underlying3
 a3 := Tryd.isAgg3
 z3 := Tryd.sizeOf3
 v3 := Tryd.zeroValue3
 t9 := Tryd.underlying9
 a9 := Tryd.isAgg9
 z9 := Tryd.sizeOf9
 v9 := Tryd.zeroValue9
 t37 := Tryd.underlying62
 a37 := Tryd.isAgg62
 z37 := Tryd.sizeOf62
 v37 := Tryd.zeroValue62
 t70 := Tryd.underlying61
 a70 := Tryd.isAgg61
 z70 := Tryd.sizeOf61
 v70 := Tryd.zeroValue61
 t72 := Tryd.underlying64
 a72 := Tryd.isAgg64
 z72 := Tryd.sizeOf64
 v72 := Tryd.zeroValue64
 t127 := Tryd.underlying75
 a127 := Tryd.isAgg75
 z127 := Tryd.sizeOf75
 v127 := Tryd.zeroValue75 }
theorem Tryd.Builder_Extra_169 : Builder.Extra Tryd.prog Tryd.lays169_ren := {
 sizeBuilder := by kernel_rfl
 liesBuilder := by kernel_rfl
 t5 := Tryd.underlying5
 a5 := Tryd.isAgg5
 z5 := Tryd.sizeOf5
 v5 := Tryd.zeroValue5
 infoByte := by kernel_rfl
 cellsByte := by kernel_rfl
 sizeByte := by kernel_rfl
 neB5 := by decide }
open Go.RowKit in
theorem Tryd.Builder_String_any (B b : Nat) (l : List UInt8) (w : World) (h : Lib.IsBuilder 64 5 B b (Lib.byteCells l) w) (hBw : B ≤ w.heap.size) :
 Calls Tryd.prog 33 #[.pointer (some ⟨b, 0, none⟩)] w fun e w' => e = .returned (.string ⟨l.toArray⟩) ∧ Below B w w' := Any.Builder_String_any Tryd.lays169 Tryd.Builder_Extra_169 B b l w h hBw
def Tryd.laysM246_ren : Go.Shelf.Ren := ⟨fun | 246 => 44 | 283 => 46 | 284 => 47 | 285 => 48 | 286 => 49 | 129 => 55 | 317 => 54 | 318 => 56 | 319 => 57 | 320 => 58 | 337 => 61 | 338 => 62 | n => n, fun | 2 => 2 | 3 => 3 | 9 => 9 | 4 => 4 | 171 => 86 | 0 => 0 | 53 => 79 | 37 => 62 | 5 => 5 | 173 => 89 | 212 => 94 | 51 => 76 | 20 => 20 | 213 => 95 | 46 => 70 | 232 => 100 | 233 => 101 | n => n, fun | 17 => 1 | 18 => 2 | 19 => 3 | n => n⟩
def Tryd.laysM243_ren : Go.Shelf.Ren := ⟨fun | 243 => 39 | 246 => 44 | 283 => 46 | 284 => 47 | 285 => 48 | 286 => 49 | 129 => 55 | 317 => 54 | 318 => 56 | 319 => 57 | 320 => 58 | 337 => 61 | 338 => 62 | n => n, fun | 3 => 3 | 9 => 9 | 2 => 2 | 4 => 4 | 171 => 86 | 0 => 0 | 53 => 79 | 37 => 62 | 5 => 5 | 173 => 89 | 212 => 94 | 51 => 76 | 20 => 20 | 213 => 95 | 46 => 70 | 232 => 100 | 233 => 101 | n => n, fun | 17 => 1 | 18 => 2 | 19 => 3 | n => n⟩
def Tryd.laysM171_ren : Go.Shelf.Ren := ⟨fun | 171 => 32 | 243 => 39 | 246 => 44 | 283 => 46 | 284 => 47 | 285 => 48 | 286 => 49 | 129 => 55 | 317 => 54 | 318 => 56 | 319 => 57 | 320 => 58 | 337 => 61 | 338 => 62 | n => n, fun | 3 => 3 | 9 => 9 | 2 => 2 | 4 => 4 | 171 => 86 | 0 => 0 | 53 => 79 | 37 => 62 | 5 => 5 | 173 => 89 | 212 => 94 | 51 => 76 | 20 => 20 | 213 => 95 | 46 => 70 | 232 => 100 | 233 => 101 | n => n, fun | 17 => 1 | 18 => 2 | 19 => 3 | n => n⟩
theorem Tryd.laysM171 : Go.Proofs.LaysM.n171 Tryd.prog Tryd.laysM171_ren := {
 mixed := by kernel_rfl
 f129 := Tryd.func55.trans (congrArg some (by kernel_rfl))
 f171 := Tryd.func32.trans (congrArg some (by kernel_rfl))
 f243 := Tryd.func39.trans (congrArg some (by kernel_rfl))
 f246 := Tryd.func44.trans (congrArg some (by kernel_rfl))
 f283 := Tryd.func46.trans (congrArg some (by kernel_rfl))
 f284 := Tryd.func47.trans (congrArg some (by kernel_rfl))
 f285 := Tryd.func48.trans (congrArg some (by kernel_rfl))
 f286 := Tryd.func49.trans (congrArg some (by kernel_rfl))
 f317 := Tryd.func54.trans (congrArg some (by kernel_rfl))
 f318 := Tryd.func56.trans (congrArg some (by kernel_rfl))
 f319 := Tryd.func57.trans (congrArg some (by kernel_rfl))
 f320 := Tryd.func58.trans (congrArg some (by kernel_rfl))
 f337 := Tryd.func61.trans (congrArg some (by kernel_rfl))
 f338 := Tryd.func62.trans (congrArg some (by kernel_rfl))
 t0 := Tryd.underlying0
 a0 := Tryd.isAgg0
 z0 := Tryd.sizeOf0
 v0 := Tryd.zeroValue0
 t2 := Tryd.underlying2
 a2 := Tryd.isAgg2
 z2 := Tryd.sizeOf2
 v2 := Tryd.zeroValue2
 t3 := Tryd.underlying3
 a3 := Tryd.isAgg3
 z3 := Tryd.sizeOf3
 v3 := Tryd.zeroValue3
 t4 := Tryd.underlying4
 a4 := Tryd.isAgg4
 z4 := Tryd.sizeOf4
 v4 := Tryd.zeroValue4
 t5 := Tryd.underlying5
 a5 := Tryd.isAgg5
 z5 := Tryd.sizeOf5
 v5 := Tryd.zeroValue5
 t9 := Tryd.underlying9
 a9 := Tryd.isAgg9
 z9 := Tryd.sizeOf9
 v9 := Tryd.zeroValue9
 t20 := Tryd.underlying20
 a20 := Tryd.isAgg20
 z20 := Tryd.sizeOf20
 v20 := Tryd.zeroValue20
 t37 := Tryd.underlying62
 a37 := Tryd.isAgg62
 z37 := Tryd.sizeOf62
 v37 := Tryd.zeroValue62
 t46 := Tryd.underlying70
 a46 := Tryd.isAgg70
 z46 := Tryd.sizeOf70
 v46 := Tryd.zeroValue70
 t51 := Tryd.underlying76
 a51 := Tryd.isAgg76
 z51 := Tryd.sizeOf76
 v51 := Tryd.zeroValue76
 t53 := Tryd.underlying79
 a53 := Tryd.isAgg79
 z53 := Tryd.sizeOf79
 v53 := Tryd.zeroValue79
 t171 := Tryd.underlying86
 a171 := Tryd.isAgg86
 z171 := Tryd.sizeOf86
 v171 := Tryd.zeroValue86
 t173 := Tryd.underlying89
 a173 := Tryd.isAgg89
 z173 := Tryd.sizeOf89
 v173 := Tryd.zeroValue89
 t212 := Tryd.underlying94
 a212 := Tryd.isAgg94
 z212 := Tryd.sizeOf94
 v212 := Tryd.zeroValue94
 t213 := Tryd.underlying95
 a213 := Tryd.isAgg95
 z213 := Tryd.sizeOf95
 t232 := Tryd.underlying100
 a232 := Tryd.isAgg100
 z232 := Tryd.sizeOf100
 v232 := Tryd.zeroValue100
 t233 := Tryd.underlying101
 a233 := Tryd.isAgg101
 z233 := Tryd.sizeOf101
 v233 := Tryd.zeroValue101
 g17 := by kernel_rfl
 g18 := by kernel_rfl
 g19 := by kernel_rfl
 i0 := by kernel_rfl
 i2 := by kernel_rfl
 i3 := by kernel_rfl
 i4 := by kernel_rfl
 i5 := by kernel_rfl
 i9 := by kernel_rfl
 i20 := by kernel_rfl
 i37 := by kernel_rfl
 i46 := by kernel_rfl
 i51 := by kernel_rfl
 i53 := by kernel_rfl
 i171 := by kernel_rfl
 i173 := by kernel_rfl
 i212 := by kernel_rfl
 i232 := by kernel_rfl
 i233 := by kernel_rfl
 m17 := by kernel_rfl
 m18 := by kernel_rfl
 m19 := by kernel_rfl }
open Go.RowKit Go.Sort Go.Lib in
theorem Tryd.strconv_Itoa (n : Int) (h0 : -9223372036854775808 ≤ n) (h1 : n ≤ 9223372036854775807) (w : World) (htab : Lib.TabIs Tryd.prog w "internal/strconv.uint64pow10" .u64 Lib.pow10Tab) :
 Calls Tryd.prog 32 #[.int .i64 n] w fun e w' => e = .returned (.string ⟨(Lib.itoa n).toArray⟩) ∧ ∃ k os, w' = grow (w.drewN k) os := Any.strconv_Itoa Tryd.laysM171 n h0 h1 w htab
def Tryd.lays219_ren : Go.Shelf.Ren := ⟨fun | 219 => 45 | 217 => 50 | 225 => 51 | 224 => 52 | 267 => 53 | 266 => 59 | 314 => 60 | n => n, fun | 9 => 9 | 3 => 3 | 4 => 4 | 5 => 5 | 46 => 70 | 146 => 77 | 51 => 76 | n => n, fun | 1 => 0 | n => n⟩
def Tryd.lays144_ren : Go.Shelf.Ren := ⟨fun | 144 => 37 | 143 => 42 | 219 => 45 | 217 => 50 | 225 => 51 | 224 => 52 | 267 => 53 | 266 => 59 | 314 => 60 | n => n, fun | 9 => 9 | 4 => 4 | 3 => 3 | 5 => 5 | 46 => 70 | 146 => 77 | 51 => 76 | n => n, fun | 1 => 0 | n => n⟩
theorem Tryd.lays144 : Go.Proofs.Lays.n144 Tryd.prog Tryd.lays144_ren := {
 mixed := by kernel_rfl
 f143 := Tryd.func42.trans (congrArg some (by kernel_rfl))
 f144 := Tryd.func37.trans (congrArg some (by kernel_rfl))
 f217 := Tryd.func50.trans (congrArg some (by kernel_rfl))
 f219 := Tryd.func45.trans (congrArg some (by kernel_rfl))
 f224 := Tryd.func52.trans (congrArg some (by kernel_rfl))
 f225 := Tryd.func51.trans (congrArg some (by kernel_rfl))
 f266 := Tryd.func59.trans (congrArg some (by kernel_rfl))
 f267 := Tryd.func53.trans (congrArg some (by kernel_rfl))
 f314 := Tryd.func60.trans (congrArg some (by kernel_rfl))
 t3 := Tryd.underlying3
 a3 := Tryd.isAgg3
 z3 := Tryd.sizeOf3
 v3 := Tryd.zeroValue3
 t4 := Tryd.underlying4
 a4 := Tryd.isAgg4
 z4 := Tryd.sizeOf4
 v4 := Tryd.zeroValue4
 t5 := Tryd.underlying5
 a5 := Tryd.isAgg5
 z5 := Tryd.sizeOf5
 v5 := Tryd.zeroValue5
 t9 := Tryd.underlying9
 a9 := Tryd.isAgg9
 z9 := Tryd.sizeOf9
 v9 := Tryd.zeroValue9
 t46 := Tryd.underlying70
 a46 := Tryd.isAgg70
 z46 := Tryd.sizeOf70
 v46 := Tryd.zeroValue70
 t51 := Tryd.underlying76
 a51 := Tryd.isAgg76
 z51 := Tryd.sizeOf76
 v51 := Tryd.zeroValue76
 t146 := Tryd.underlying77
 a146 := Tryd.isAgg77
 z146 := Tryd.sizeOf77
 v146 := Tryd.zeroValue77
 g1 := by kernel_rfl }
open Go.RowKit Go.Lib in
theorem Tryd.strings_Contains_one (s : ByteArray) (c : UInt8) (w : World) :
 Calls Tryd.prog 37 #[.string s, .string ⟨#[c]⟩] w fun e w' => e = .returned (.bool (decide (0 ≤ Lib.indexByte s.data.toList c))) ∧ w' = w := Any.strings_Contains_one Tryd.lays144 s c w
end Go.Proofs
namespace Go.Proofs.YtmoocdlfclhgcaaDoor
open Go Go.RowKit Go.Proofs
open Go.Den (Kept0 ExtOK zfG zhq zcb scal retV)
set_option linter.unusedVariables false
theorem hf35 : Tryd.prog.funcs[35]? = some Tryd.f35 := by kernel_rfl
theorem hn35 : Tryd.f35.ntmps = 28 := by kernel_rfl
theorem u45 : Tryd.prog.underlying 62 = some (.slice 5) := by kernel_rfl
theorem u5 : Tryd.prog.underlying 5 = some (.int .u8) := by kernel_rfl
theorem u9 : Tryd.prog.underlying 9 = some .string := by kernel_rfl
theorem zmE (w : World) (b : Int) (h0 : 0 ≤ b) (h1 : b < 256) : (convert 62 9 (.slice (some ⟨w.heap.size, 0, none⟩) 1 1)).run Tryd.prog (w.alloc (.cells #[.int .u8 b] 5)) = .ok (.string ⟨#[UInt8.ofNat b.toNat]⟩) (w.alloc (.cells #[.int .u8 b] 5)) := by
 have := run_convert_bytes_back (P := Tryd.prog) (w.alloc (.cells #[.int .u8 b] 5)) 62 9 5 ⟨w.heap.size, 0, none⟩ 1 [UInt8.ofNat b.toNat] u45 u5 u9 (fun j hj => by
  have : j = 0 := by simpa using hj
  subst this
  have hb : ((UInt8.ofNat b.toNat).toNat : Int) = b := by
   rw [UInt8.toNat_ofNat']
   omega
  show (w.alloc (.cells #[.int .u8 b] 5)).cell? ⟨w.heap.size, 0, none⟩ = some (.int .u8 ((UInt8.ofNat b.toNat).toNat : Int))
  rw [World.cell?_alloc_mark, hb]
  rfl)
 exact this
set_option maxRecDepth 100000 in
set_option maxHeartbeats 2000000 in
theorem ziu (n : Int) (h0 : 0 ≤ n) (h9 : n < 10) (w : World) :
 Calls Tryd.prog 35 #[.int .i64 n] w fun e w' => e = .returned (.string ⟨#[UInt8.ofNat (48 + n).toNat]⟩) ∧ Kept0 w w' := by
 have kc := fun w : World => zmE w (48 + n) (by omega) (by omega)
 go_enter hf35, hn35
 unfold Tryd.f35
 go_wp2
 refine bodyPost_ret (v := .string ⟨#[UInt8.ofNat (48 + n).toNat]⟩) (by simp [results, go_sem]) rfl ?_
 exact ⟨rfl, Kept0.alloc w _⟩
theorem zmA (W : World) (g : Nat) (b : Int) (h0 : 0 ≤ b) (h1 : b < 256) (hc : W.cell? ⟨g, 0, none⟩ = some (.int .u8 b)) : (convert 62 9 (.slice (some ⟨g, 0, none⟩) 1 1)).run Tryd.prog W = .ok (.string ⟨#[UInt8.ofNat b.toNat]⟩) W := by
 have := run_convert_bytes_back (P := Tryd.prog) W 62 9 5 ⟨g, 0, none⟩ 1 [UInt8.ofNat b.toNat] u45 u5 u9 (fun j hj => by
  have : j = 0 := by simpa using hj
  subst this
  have hb : ((UInt8.ofNat b.toNat).toNat : Int) = b := by
   rw [UInt8.toNat_ofNat']
   omega
  show W.cell? ⟨g, 0, none⟩ = some (.int .u8 ((UInt8.ofNat b.toNat).toNat : Int))
  rw [hc, hb])
 exact this
theorem zki {W w' : World} {g : Nat} {v : Value} (hc : W.cell? ⟨g, 0, none⟩ = some v) (hg : g < W.heap.size) (hk : Kept0 W w') : w'.cell? ⟨g, 0, none⟩ = some v := by
 have h1 := hk.keep g hg
 unfold World.cell? at hc ⊢
 rw [h1]
 exact hc
set_option maxRecDepth 100000 in
set_option maxHeartbeats 2000000 in
theorem zlY (n : Int) (h0 : 10 ≤ n) (h9 : n ≤ 9223372036854775807) (q : ByteArray) (hq : ∀ w, Calls Tryd.prog 35 #[.int .i64 (IntKind.i64.wrap (n.tdiv 10))] w fun e w' => e = .returned (.string q) ∧ Kept0 w w') (hsz : q.size ≤ 30) (w : World) :
 Calls Tryd.prog 35 #[.int .i64 n] w fun e w' => e = .returned (.string (q ++ ⟨#[UInt8.ofNat (IntKind.u8.wrap (IntKind.i64.wrap (48 + n.tmod 10))).toNat]⟩)) ∧ Kept0 w w' := by
 have hm0 := Int.tmod_nonneg 10 (show 0 ≤ n by omega)
 have hm1 := Int.tmod_lt_of_pos n (show 0 < 10 by omega)
 have hb : IntKind.u8.wrap (IntKind.i64.wrap (48 + n.tmod 10)) = 48 + n.tmod 10 := by simp [IntKind.wrap, IntKind.bits, IntKind.signed]; omega
 have hb0 : 0 ≤ IntKind.u8.wrap (IntKind.i64.wrap (48 + n.tmod 10)) := by rw [hb]; omega
 have hb1 : IntKind.u8.wrap (IntKind.i64.wrap (48 + n.tmod 10)) < 256 := by rw [hb]; omega
 have kc := fun w : World => zmE w (IntKind.u8.wrap (IntKind.i64.wrap (48 + n.tmod 10))) hb0 hb1
 have kc2 : ∀ w : World, (convert 62 9 (.slice (some ⟨w.heap.size, 0, none⟩) 1 1)).run Tryd.prog (w.alloc (.cells #[.int .u8 (IntKind.u8.wrap (IntKind.i64.wrap (48 + n.tmod 10)))] 5)).drew = .ok (.string ⟨#[UInt8.ofNat (IntKind.u8.wrap (IntKind.i64.wrap (48 + n.tmod 10))).toNat]⟩) (w.alloc (.cells #[.int .u8 (IntKind.u8.wrap (IntKind.i64.wrap (48 + n.tmod 10)))] 5)).drew := fun w => zmA _ _ _ hb0 hb1 (by show (World.alloc _ _).cell? _ = _; rw [World.cell?_alloc_mark]; rfl)
 have hs2 : ¬ (9223372036854775807 < (q.size : Int) + 1) := by omega
 have hs3 : ¬ (9223372036854775807 < q.size + 1) := by omega
 clear hb
 go_enter hf35, hn35
 unfold Tryd.f35
 go_wp2
 go_region_with (go_at_call 35; refine (hq _).mono ?_; rintro e w' ⟨rfl, hk⟩; try (have kd : (convert 62 9 (.slice (some ⟨w.heap.size, 0, none⟩) 1 1)).run Tryd.prog w' = .ok (.string ⟨#[UInt8.ofNat (IntKind.u8.wrap (IntKind.i64.wrap (48 + n.tmod 10))).toNat]⟩) w' := zmA _ _ _ hb0 hb1 (zki (by first | (rw [World.cell?_alloc_mark]; rfl) | (show (World.alloc _ _).cell? _ = _; rw [World.cell?_alloc_mark]; rfl) | (go_simp; done) | (simp; done)) (by first | (simp; done) | (show _ < (World.alloc _ _).heap.size; simp; done)) hk)))
 all_goals (try go_wp2)
 all_goals (refine bodyPost_ret (v := .string (q ++ ⟨#[UInt8.ofNat (IntKind.u8.wrap (IntKind.i64.wrap (48 + n.tmod 10))).toNat]⟩)) (by first | (simp [results, go_sem]; done) | rfl) rfl ?_)
 all_goals refine ⟨rfl, ?_⟩
 all_goals first
  | exact (Kept0.drew w).trans (hk.trans (Kept0.alloc _ _))
  | exact (Kept0.alloc w _).trans ((Kept0.drew _).trans hk)
  | exact (Kept0.alloc w _).trans hk
  | exact ((Kept0.drew w).trans (Kept0.alloc _ _)).trans hk
  | exact ((Kept0.drew w).trans (Kept0.alloc _ _)).trans ((Kept0.drew _).trans hk)
  | trace_state
theorem zgc : ∀ (k u : Nat), u < 10 ^ (k + 1) → (Lib.decDigits u).length ≤ k + 1
 | 0, u, h => by
   rw [Lib.decDigits, dif_pos (by simpa using h)]
   simp
 | k + 1, u, h => by
   rw [Lib.decDigits]
   split
   · simp
   · have h2 : u / 10 < 10 ^ (k + 1) := by
      rw [Nat.div_lt_iff_lt_mul (by omega)]
      rw [Nat.pow_succ] at h
      exact h
     have := zgc k (u / 10) h2
     simp
     omega
theorem zlc : ∀ (m : Nat) (n : Int), 0 ≤ n → n.toNat ≤ m → n ≤ 9223372036854775807 → ∀ w : World, Calls Tryd.prog 35 #[.int .i64 n] w fun e w' => e = .returned (.string ⟨(Lib.decDigits n.toNat).toArray⟩) ∧ Kept0 w w' := by
 intro m
 induction m with
 | zero =>
   intro n h0 hm h1 w
   have : n = 0 := by omega
   subst this
   have := ziu 0 (by omega) (by omega) w
   rw [show (Lib.decDigits (0 : Int).toNat).toArray = #[UInt8.ofNat (48 + 0 : Int).toNat] by rw [Lib.decDigits, dif_pos (by decide)]; rfl]
   exact this
 | succ m ih =>
   intro n h0 hm h1 w
   by_cases h9 : n < 10
   · have := ziu n h0 h9 w
     rw [Lib.decDigits, dif_pos (by omega), show 48 + n.toNat = (48 + n).toNat by omega]
     exact this
   · have hq : IntKind.i64.wrap (n.tdiv 10) = n / 10 := by
      rw [Int.tdiv_eq_ediv_of_nonneg (by omega)]
      simp [IntKind.wrap, IntKind.bits, IntKind.signed]; omega
     have hqn : (n / 10).toNat = n.toNat / 10 := by omega
     have h30 : (10 : Nat) ^ (29 + 1) = 1000000000000000000000000000000 := by decide
     have hl : (Lib.decDigits (n.toNat / 10)).length ≤ 30 := zgc 29 _ (by rw [h30]; omega)
     have := zlY n (by omega) h1 ⟨(Lib.decDigits (n.toNat / 10)).toArray⟩ (fun w => by
      rw [hq]
      have := ih (n / 10) (by omega) (by omega) (by omega) w
      rw [hqn] at this
      exact this) (by show (Lib.decDigits (n.toNat / 10)).toArray.size ≤ 30; simpa using hl) w
     have hb : IntKind.u8.wrap (IntKind.i64.wrap (48 + n.tmod 10)) = 48 + n % 10 := by
      rw [Int.tmod_eq_emod_of_nonneg (by omega)]
      simp [IntKind.wrap, IntKind.bits, IntKind.signed]; omega
     have hd : Lib.decDigits n.toNat = Lib.decDigits (n.toNat / 10) ++ [UInt8.ofNat (48 + n.toNat % 10)] := by
      rw [Lib.decDigits, dif_neg (by omega)]
     have e : (⟨(Lib.decDigits (n.toNat / 10)).toArray⟩ : ByteArray) ++ ⟨#[UInt8.ofNat (IntKind.u8.wrap (IntKind.i64.wrap (48 + n.tmod 10))).toNat]⟩ = ⟨(Lib.decDigits n.toNat).toArray⟩ := by
      rw [hb, hd, show (48 + n % 10).toNat = 48 + n.toNat % 10 by omega]
      apply ByteArray.ext
      simp
     rw [e] at this
     exact this
set_option maxRecDepth 100000 in
set_option maxHeartbeats 2000000 in
theorem zl5 (n : Int) (h0 : n < 0) (h1 : -9223372036854775808 < n) (w : World) : Calls Tryd.prog 35 #[.int .i64 n] w fun e w' => e = .returned (.string (⟨#[45]⟩ ++ ⟨(Lib.decDigits (-n).toNat).toArray⟩)) ∧ Kept0 w w' := by
 have hc := fun w => zlc _ (-n) (by omega) (Nat.le_refl _) (by omega) w
 have h30 : (10 : Nat) ^ (29 + 1) = 1000000000000000000000000000000 := by decide
 have hl : (Lib.decDigits (-n).toNat).length ≤ 30 := zgc 29 _ (by rw [h30]; omega)
 have hs : (⟨(Lib.decDigits (-n).toNat).toArray⟩ : ByteArray).size ≤ 30 := by show (Lib.decDigits (-n).toNat).toArray.size ≤ 30; simpa using hl
 generalize (⟨(Lib.decDigits (-n).toNat).toArray⟩ : ByteArray) = q at *
 have hw : IntKind.i64.wrap (-n) = -n := by simp [IntKind.wrap, IntKind.bits, IntKind.signed]; omega
 have hw2 : IntKind.i64.wrap (0 - n) = -n := by rw [Int.zero_sub]; exact hw
 have hs2 : ¬ (9223372036854775807 < 1 + q.size) := by omega
 have hs3 : ¬ (9223372036854775807 < 1 + (q.size : Int)) := by omega
 go_enter hf35, hn35
 unfold Tryd.f35
 go_wp2_with (go_at_call 35; (try rw [hw2]); (try rw [hw]); refine (hc _).mono ?_; rintro e w' ⟨rfl, hk⟩)
 refine bodyPost_ret (v := .string (⟨#[45]⟩ ++ q)) (by first | (simp [results, go_sem]; done) | rfl) rfl ?_
 exact ⟨rfl, hk⟩
def decF : Nat → Nat → List UInt8
 | 0, u => []
 | k + 1, u => if u < 10 then [UInt8.ofNat (48 + u)] else decF k (u / 10) ++ [UInt8.ofNat (48 + u % 10)]
theorem zll : ∀ (k u : Nat), u < 10 ^ (k + 1) → Lib.decDigits u = decF (k + 1) u
 | 0, u, h => by
   rw [Lib.decDigits, dif_pos (by simpa using h)]
   simp only [decF]
   rw [if_pos (by simpa using h)]
 | k + 1, u, h => by
   rw [Lib.decDigits]
   unfold decF
   split
   · rfl
   · rename_i h1
     have h2 : u / 10 < 10 ^ (k + 1) := by
      rw [Nat.div_lt_iff_lt_mul (by omega)]
      rw [Nat.pow_succ] at h
      exact h
     rw [zll k (u / 10) h2]
theorem zlJ : (⟨(Lib.itoa (-9223372036854775808)).toArray⟩ : ByteArray) = ⟨#[45, 57, 50, 50, 51, 51, 55, 50, 48, 51, 54, 56, 53, 52, 55, 55, 53, 56, 48, 56]⟩ := by
 have h : Lib.itoa (-9223372036854775808) = 45 :: Lib.decDigits 9223372036854775808 := by
  unfold Lib.itoa
  rw [if_pos (by decide)]
  rfl
 rw [h, zll 20 9223372036854775808 (by decide)]
 rfl
set_option maxRecDepth 100000 in
set_option maxHeartbeats 2000000 in
theorem zmw (w : World) : Calls Tryd.prog 35 #[.int .i64 (-9223372036854775808)] w fun e w' => e = .returned (.string ⟨#[45, 57, 50, 50, 51, 51, 55, 50, 48, 51, 54, 56, 53, 52, 55, 55, 53, 56, 48, 56]⟩) ∧ Kept0 w w' := by
 go_enter hf35, hn35
 unfold Tryd.f35
 go_wp2
 refine bodyPost_ret (v := .string ⟨#[45, 57, 50, 50, 51, 51, 55, 50, 48, 51, 54, 56, 53, 52, 55, 55, 53, 56, 48, 56]⟩) (by first | (simp [results, go_sem]; done) | rfl) rfl ?_
 exact ⟨rfl, Kept0.refl w⟩
def num (n : Int) : ByteArray := ⟨(Lib.itoa n).toArray⟩
def numV : List Value → Option (List Value)
 | [.int .i64 n] => if -9223372036854775808 ≤ n ∧ n ≤ 9223372036854775807 then some [.string (num n)] else none
 | _ => none
theorem zl7 (n : Int) (h0 : -9223372036854775808 ≤ n) (h1 : n ≤ 9223372036854775807) (w : World) : Calls Tryd.prog 35 #[.int .i64 n] w fun e w' => e = .returned (.string (num n)) ∧ Kept0 w w' := by
 by_cases hn : n < 0
 · by_cases hm : n = -9223372036854775808
   · subst hm
     unfold num
     rw [zlJ]
     exact zmw w
   · have := zl5 n hn (by omega) w
     have e : (⟨#[45]⟩ : ByteArray) ++ ⟨(Lib.decDigits (-n).toNat).toArray⟩ = num n := by
      unfold num Lib.itoa
      rw [if_pos hn, show n.natAbs = (-n).toNat by omega]
      apply ByteArray.ext
      simp
     rw [e] at this
     exact this
 · have := zlc _ n (by omega) (Nat.le_refl _) h1 w
   unfold num Lib.itoa
   rw [if_neg hn]
   exact this
theorem l1_calls (vs rs : List Value) (W : World) (h : numV vs = some rs) : rs ≠ [] ∧ (∀ r ∈ rs, scal r = true) ∧ Calls Tryd.prog 35 vs.toArray W fun e w' => ∃ v, e = .returned v ∧ (v = retV rs ∧ Kept0 W w') := by
 unfold numV at h
 split at h
 · rename_i n
   split at h
   · rename_i hn
     cases h
     refine ⟨by simp, fun r hr => (by rw [List.mem_singleton] at hr; subst hr; rfl), (zl7 n hn.1 hn.2 W).mono fun e w' he => ?_⟩
     obtain ⟨rfl, hk⟩ := he
     exact ⟨_, rfl, rfl, hk⟩
   · cases h
 · cases h
theorem zjt (w : World) (k : Nat) (os : Array Obj) : Kept0 w (Sort.grow (w.drewN k) os) :=
 ⟨rfl, rfl, rfl, by show (w.drewN k).heap.size ≤ ((w.drewN k).heap ++ os).size; simp, fun g hg => by
  show ((w.drewN k).heap ++ os)[g]? = _
  rw [Array.getElem?_append_left (by exact hg)]
  rfl⟩
def TabAt (B : Nat → Option Obj) : Prop := ∀ W : World, (∀ (g : Nat) (o : Obj), B g = some o → W.heap[g]? = some o) → Lib.TabIs Tryd.prog W "internal/strconv.uint64pow10" .u64 Lib.pow10Tab
noncomputable def zeV (P : Program) (W : World) (n : String) (g : Nat) : Option Obj := if P.globalNamed n = some g then W.heap[g]? else none
theorem zk1 {P : Program} {W : World} {n : String} {g : Nat} {o : Obj} (h : zeV P W n g = some o) : W.heap[g]? = some o := by
 unfold zeV at h
 split at h
 · exact h
 · cases h
theorem zkP {W : World} (h : Lib.TabIs Tryd.prog W "internal/strconv.uint64pow10" .u64 Lib.pow10Tab) : TabAt (zeV Tryd.prog W "internal/strconv.uint64pow10") := fun W' hW => by
 unfold Lib.TabIs World.var? at *
 cases hg : Tryd.prog.globalNamed "internal/strconv.uint64pow10" with
 | none => rw [hg] at h; cases h
 | some g =>
   rw [hg] at h
   simp only [Option.bind_some] at h ⊢
   cases ho : W.heap[g]? with
   | none => rw [ho] at h; cases h
   | some o =>
     have := hW g o (by unfold zeV; rw [if_pos hg]; exact ho)
     rw [this]
     rw [ho] at h
     exact h
end Go.Proofs.YtmoocdlfclhgcaaDoor
namespace Go.Proofs.YtmoocdlfclhgcaaDoor
open Go Go.RowKit Go.Proofs
set_option linter.unusedVariables false
theorem hf38 : Tryd.prog.funcs[38]? = some Tryd.f38 := by kernel_rfl
theorem hn38 : Tryd.f38.ntmps = 20 := by kernel_rfl
theorem hf31 : Tryd.prog.funcs[31]? = some Tryd.f31 := by kernel_rfl
theorem hn31 : Tryd.f31.ntmps = 19 := by kernel_rfl
theorem ub61 : Tryd.prog.underlying 61 = some (.pointer 64) := by kernel_rfl
theorem ub83 : Tryd.prog.underlying 83 = some .unsafePointer := by kernel_rfl
theorem ub62 : Tryd.prog.underlying 62 = some (.slice 5) := by kernel_rfl
theorem ub9 : Tryd.prog.underlying 9 = some .string := by kernel_rfl
theorem zmx : (Tryd.prog.info? 64).map (·.size) = some 2 := by kernel_rfl
theorem liesB : liesAt Tryd.prog Tryd.prog.depth 64 (2 / Tryd.prog.cellsOf 64) 0 64 1 = true := by kernel_rfl
theorem infoY : (Tryd.prog.info? 5).map (fun i => (i.zero, i.size, i.bytes)) = some (some (.int .u8 0), 1, 1) := by kernel_rfl
theorem hf43 : Tryd.prog.funcs[43]? = some Tryd.f43 := by kernel_rfl
set_option maxHeartbeats 1000000 in
set_option maxRecDepth 100000 in
theorem zlN (b : Nat) (w : World) (h0 : w.cell? ⟨b, 0, none⟩ = some (.pointer (some ⟨b, 0, none⟩))) :
 Calls Tryd.prog 38 #[.pointer (some ⟨b, 0, none⟩)] w fun e w' => e = .returned (.tuple #[]) ∧ w' = w := by
 obtain ⟨j, hj, _⟩ := Option.map_eq_some_iff.1 zmx
 go_enter hf38, hn38
 unfold Tryd.f38
 go_wp2
 rw [Lib.run_neq_ptr_same w _ ub61 hj]
 go_wp2
 go_end0
 exact ⟨rfl, rfl⟩
set_option maxHeartbeats 1000000 in
set_option maxRecDepth 100000 in
theorem zkv (b : Nat) (w : World) (h0 : w.cell? ⟨b, 0, none⟩ = some (.pointer none)) (hsh : w.shape? b = some (64, 2)) (hfz : w.frozen? ⟨b, 0, none⟩ = false) :
 Calls Tryd.prog 38 #[.pointer (some ⟨b, 0, none⟩)] w fun e w' => e = .returned (.tuple #[]) ∧ w' = w.setCell ⟨b, 0, none⟩ (.pointer (some ⟨b, 0, none⟩)) := by
 obtain ⟨j, hj, hjs⟩ := Option.map_eq_some_iff.1 zmx
 go_enter hf38, hn38
 unfold Tryd.f38
 go_wp2
 rw [Lib.run_to_unsafe w ⟨b, 0, none⟩ ub61 ub83 hj (by rw [hjs]; decide) hsh (Nat.zero_lt_succ 1)]
 simp only [Result.andThen]
 rw [Oper.upon_value]
 go_wp2
 rw [run_callFunc_extern hf43 (by kernel_rfl) (by kernel_rfl) (by kernel_rfl) (e := Extern.AbiNoEscape.same) (by kernel_rfl)]
 rw [Lib.run_noEscape]
 simp only [Result.andThen]
 rw [Oper.upon_value]
 go_wp2
 rw [Lib.run_from_unsafe w ⟨b, 0, none⟩ ub83 ub61 hj hsh liesB]
 simp only [Result.andThen]
 rw [Oper.upon_value]
 go_wp2
 go_end0
 exact ⟨rfl, rfl⟩
def Oth (b : Nat) (w w' : World) : Prop := ∀ (g : Nat) (cs : Array Value) (T : TypeId) (fr : Nat × Nat), T ≠ 5 → g ≠ b → w.heap[g]? = some (.cells cs T fr) → w'.heap[g]? = some (.cells cs T fr)
theorem cc (B b : Nat) (bs : List Value) (w : World) (h : Lib.IsBuilder 64 5 B b bs w) :
 Calls Tryd.prog 38 #[.pointer (some ⟨b, 0, none⟩)] w fun e w' => e = .returned (.tuple #[]) ∧ (Lib.BuilderAt 64 5 B b (.pointer (some ⟨b, 0, none⟩)) bs w' ∧ Below B w w' ∧ Oth b w w') := by
 rcases h with h | h
 · refine (zkv b w h.cell0 h.shape h.frozen0).mono ?_
   rintro e w' ⟨rfl, rfl⟩
   exact ⟨rfl, h.used _, (Below.refl B w).setCell (p := ⟨b, 0, none⟩) h.1 _, fun g cs T fr _ hg hc => by rw [Below.heap_setCell _ _ _ _ hg]; exact hc⟩
 · refine (zlN b w h.cell0).mono ?_
   rintro e w' ⟨rfl, rfl⟩
   exact ⟨rfl, h, Below.refl B _, fun g cs T fr _ _ hc => hc⟩
set_option maxHeartbeats 2000000 in
set_option maxRecDepth 100000 in
theorem ws (B b : Nat) (bs : List Value) (s : ByteArray) (w : World) (h : Lib.IsBuilder 64 5 B b bs w) (hlen : bs.length + s.size ≤ 140737488355328) (hBw : B ≤ w.heap.size) :
 Calls Tryd.prog 31 #[.pointer (some ⟨b, 0, none⟩), .string s] w fun e w' => e = .returned (.tuple #[.int .i64 s.size, .nilIface]) ∧ (Lib.BuilderAt 64 5 B b (.pointer (some ⟨b, 0, none⟩)) (bs ++ Lib.strCells s) w' ∧ Below B w w' ∧ Oth b w w') := by
 obtain ⟨i0, hi, hz0, hz1, hz2⟩ := info_parts infoY
 go_enter hf31, hn31
 unfold Tryd.f31
 go_wp2_with (go_at_call 38; refine (cc B b bs _ h).mono ?_)
 rintro e w1 ⟨rfl, h1, hb1, ho1⟩
 obtain ⟨hB, v, hbk, hown, hne⟩ := h1
 have c0 : w1.cell? ⟨b, 0, none⟩ = some (.pointer (some ⟨b, 0, none⟩)) := by rw [Lib.cell_of_heap hbk]; rfl
 have c1 : w1.cell? ⟨b, 1, none⟩ = some v := by rw [Lib.cell_of_heap hbk]; rfl
 go_wp2_with (at_builtin; refine Lib.wpList_append_own_string _ rfl _ _ 62 9 rfl B 5 i0 ub62 ub9 hi hz0 hz1 hz2 _ _ _ rfl hown s rfl ?c3 ?c4 ?c5 ?_)
 case c3 => unfold maxLen; omega
 case c4 => omega
 case c5 => have := hb1.size; omega
 intro v' w2 hown' hgrow _
 have hlt : b < w1.heap.size := by
  rcases Nat.lt_or_ge b w1.heap.size with h' | h'
  · exact h'
  · simp [Array.getElem?_eq_none h'] at hbk
 have hb2 : w2.heap[b]? = some (.cells #[.pointer (some ⟨b, 0, none⟩), v] 64 (0, 0)) := by
  rw [hgrow.block b hlt (fun e => hne e.symm)]
  exact hbk
 have d0 : w2.cell? ⟨b, 0, none⟩ = some (.pointer (some ⟨b, 0, none⟩)) := by rw [Lib.cell_of_heap hb2]; rfl
 have d1 : w2.cell? ⟨b, 1, none⟩ = some v := by rw [Lib.cell_of_heap hb2]; rfl
 have f1 : w2.frozen? ⟨b, 1, none⟩ = false := Lib.frozen_of_heap hb2 1
 obtain ⟨ao, n', cap, rfl⟩ : ∃ ao n' cap, v' = .slice ao n' cap := by
  rcases hown'.2 with ⟨hv, _⟩ | ⟨g, cap, cur, hv, _⟩
  · exact ⟨_, _, _, hv⟩
  · exact ⟨_, _, _, hv⟩
 go_wp2
 go_ret2
 refine ⟨rfl, ?_, ?_, fun g cs T fr hT hg hc => ?_⟩
 · exact Lib.BuilderAt.put (T := 64) (e := 5) hB hb2 (bs' := bs ++ Lib.strCells s) (by simpa [Lib.strCells_length] using hown') (by decide)
 · exact (hb1.grown hgrow (by have := hb1.size; omega) (fun k hk => (hown.lt k hk).1)).setCell (p := ⟨b, 1, none⟩) hB _
 · have hc1 := ho1 g cs T fr hT hg hc
   have hlt1 : g < w1.heap.size := by
    rcases Nat.lt_or_ge g w1.heap.size with h' | h'
    · exact h'
    · simp [Array.getElem?_eq_none h'] at hc1
   rw [Below.heap_setCell _ _ _ _ hg, hgrow.block g hlt1 (fun e => Lib.ownBlock_ne hown hc1 hT e.symm)]
   exact hc1
end Go.Proofs.YtmoocdlfclhgcaaDoor
namespace Go.Proofs.YtmoocdlfclhgcaaDoor
open Go Go.RowKit Go.Proofs
set_option linter.unusedVariables false
theorem hf30 : Tryd.prog.funcs[30]? = some Tryd.f30 := by kernel_rfl
theorem hn30 : Tryd.f30.ntmps = 33 := by kernel_rfl
theorem hf29 : Tryd.prog.funcs[29]? = some Tryd.f29 := by kernel_rfl
theorem hn29 : Tryd.f29.ntmps = 6 := by kernel_rfl
theorem hf28 : Tryd.prog.funcs[28]? = some Tryd.f28 := by kernel_rfl
theorem hn28 : Tryd.f28.ntmps = 9 := by kernel_rfl
theorem hf36 : Tryd.prog.funcs[36]? = some Tryd.f36 := by kernel_rfl
theorem hn36 : Tryd.f36.ntmps = 19 := by kernel_rfl
theorem hf19 : Tryd.prog.funcs[19]? = some Tryd.f19 := by kernel_rfl
theorem hn19 : Tryd.f19.ntmps = 37 := by kernel_rfl
abbrev vI (op a : Int) (t : ByteArray) : Value := .agg #[.int .i64 op, .int .i64 a, .string t]
def okI (op a : Int) (t : ByteArray) : Bool := decide (1 ≤ op) && (decide (op ≤ 13) && (decide (0 ≤ a) && (decide (a ≤ 100000) && (decide ((t.size : Int) ≤ 1500) && !decide (0 ≤ Lib.indexByte t.data.toList 10)))))
set_option maxHeartbeats 1000000 in
set_option maxRecDepth 100000 in
theorem isI (op a : Int) (t : ByteArray) (w : World) :
 Calls Tryd.prog 30 #[vI op a t] w fun e w' => e = .returned (.bool (okI op a t)) ∧ Below w.heap.size w w' := by
 by_cases c0 : 1 ≤ op
 · have d0 : decide (1 ≤ op) = true := decide_eq_true c0
   by_cases c1 : op ≤ 13
   · have d1 : decide (op ≤ 13) = true := decide_eq_true c1
     by_cases c2 : 0 ≤ a
     · have d2 : decide (0 ≤ a) = true := decide_eq_true c2
       by_cases c3 : a ≤ 100000
       · have d3 : decide (a ≤ 100000) = true := decide_eq_true c3
         by_cases c4 : (t.size : Int) ≤ 1500
         · have d4 : decide ((t.size : Int) ≤ 1500) = true := decide_eq_true c4
           go_enter hf30, hn30
           unfold Tryd.f30
           go_wp2_with (go_at_call 37; refine (Tryd.strings_Contains_one t 10 _).mono ?_; rintro e w' ⟨rfl, rfl⟩)
           try go_wp2
           go_ret
           refine ⟨by simp [okI, d0, d1, d2, d3, d4], (Below.refl _ _).alloc (Nat.le_refl _) _⟩
         · have d4 : decide ((t.size : Int) ≤ 1500) = false := decide_eq_false c4
           go_enter hf30, hn30
           unfold Tryd.f30
           go_wp2_with (go_at_call 37; refine (Tryd.strings_Contains_one t 10 _).mono ?_; rintro e w' ⟨rfl, rfl⟩)
           try go_wp2
           go_ret
           refine ⟨by simp [okI, d0, d1, d2, d3, d4], (Below.refl _ _).alloc (Nat.le_refl _) _⟩
       · have d3 : decide (a ≤ 100000) = false := decide_eq_false c3
         go_enter hf30, hn30
         unfold Tryd.f30
         go_wp2_with (go_at_call 37; refine (Tryd.strings_Contains_one t 10 _).mono ?_; rintro e w' ⟨rfl, rfl⟩)
         try go_wp2
         go_ret
         refine ⟨by simp [okI, d0, d1, d2, d3], (Below.refl _ _).alloc (Nat.le_refl _) _⟩
     · have d2 : decide (0 ≤ a) = false := decide_eq_false c2
       go_enter hf30, hn30
       unfold Tryd.f30
       go_wp2_with (go_at_call 37; refine (Tryd.strings_Contains_one t 10 _).mono ?_; rintro e w' ⟨rfl, rfl⟩)
       try go_wp2
       go_ret
       refine ⟨by simp [okI, d0, d1, d2], (Below.refl _ _).alloc (Nat.le_refl _) _⟩
   · have d1 : decide (op ≤ 13) = false := decide_eq_false c1
     go_enter hf30, hn30
     unfold Tryd.f30
     go_wp2_with (go_at_call 37; refine (Tryd.strings_Contains_one t 10 _).mono ?_; rintro e w' ⟨rfl, rfl⟩)
     try go_wp2
     go_ret
     refine ⟨by simp [okI, d0, d1], (Below.refl _ _).alloc (Nat.le_refl _) _⟩
 · have d0 : decide (1 ≤ op) = false := decide_eq_false c0
   go_enter hf30, hn30
   unfold Tryd.f30
   go_wp2_with (go_at_call 37; refine (Tryd.strings_Contains_one t 10 _).mono ?_; rintro e w' ⟨rfl, rfl⟩)
   try go_wp2
   go_ret
   refine ⟨by simp [okI, d0], (Below.refl _ _).alloc (Nat.le_refl _) _⟩
set_option maxHeartbeats 1000000 in
set_option maxRecDepth 100000 in
theorem notI (op a : Int) (t : ByteArray) (w : World) :
 Calls Tryd.prog 29 #[vI op a t] w fun e w' => e = .returned (.bool (!okI op a t)) ∧ Below w.heap.size w w' := by
 go_enter hf29, hn29
 unfold Tryd.f29
 go_wp2_with (go_at_call 30; refine (isI op a t _).mono ?_; rintro e w' ⟨rfl, hb⟩)
 go_ret
 refine ⟨rfl, ?_⟩
 exact ((Below.refl _ _).alloc (Nat.le_refl _) _).trans (hb.mono (by rw [World.size_alloc]; omega))
structure Ins where
 op : Int
 a : Int
 t : ByteArray
def Ins.ok (x : Ins) : Bool := okI x.op x.a x.t
def RowI (w : World) (b o : Nat) (l : List Ins) : Prop := ∀ (j : Nat) (x : Ins), l[j]? = some x → w.cell? ⟨b, o + j * 3, none⟩ = some (.int .i64 x.op) ∧ w.cell? ⟨b, o + j * 3 + 1, none⟩ = some (.int .i64 x.a) ∧ w.cell? ⟨b, o + j * 3 + 2, none⟩ = some (.string x.t)
theorem RowI.below {w w' : World} {b o : Nat} {l : List Ins} (h : RowI w b o l) (hb : Below w.heap.size w w') (hlt : b < w.heap.size) : RowI w' b o l := fun j x hx => by
 obtain ⟨h1, h2, h3⟩ := h j x hx
 exact ⟨by rw [hb.cell (p := ⟨b, _, none⟩) hlt]; exact h1, by rw [hb.cell (p := ⟨b, _, none⟩) hlt]; exact h2, by rw [hb.cell (p := ⟨b, _, none⟩) hlt]; exact h3⟩
theorem hidI {p : Prop} (h : p) : Hid p := h
set_option maxHeartbeats 4000000 in
set_option maxRecDepth 100000 in
theorem idxF (A : Option Addr) (b o c : Nat) (l : List Ins) (w : World) (hA : l ≠ [] → A = some ⟨b, o, none⟩ ∧ b < w.heap.size) (hr : RowI w b o l) (hl : l.length ≤ c) (hs : l.length ≤ 1000000) :
 Calls Tryd.prog 36 #[.slice A l.length c, .func (.func 29) #[] #[]] w fun e w' => ∃ r : Int, e = .returned (.int .i64 r) ∧ decide (0 ≤ r) = !l.all Ins.ok ∧ Below w.heap.size w w' := by
 have HR := hidI hr
 clear hr
 go_enter hf36, hn36
 unfold Tryd.f36
 go_wp2
 go_loopw [5, 8] (fun v5 i wr => ∃ k : Nat, k ≤ l.length ∧ i = .int .i64 k ∧ Hid ((l.take k).all Ins.ok = true) ∧ Hid (Below w.heap.size w wr)) (fun _ i _ => l.length - (intOf i).toNat)
 case atStart => exact ⟨0, Nat.zero_le _, rfl, hidI (by simp), hidI (Below.refl _ _)⟩
 case round =>
  obtain ⟨k, hk, rfl, HK, HW⟩ := hrel
  by_cases hkn : k < l.length
  · obtain ⟨x, hx⟩ : ∃ x, l[k]? = some x := ⟨l[k], List.getElem?_eq_getElem hkn⟩
    obtain ⟨rfl, hlt⟩ := hA (fun e => by rw [e] at hkn; exact absurd hkn (Nat.not_lt_zero _))
    obtain ⟨h1, h2, h3⟩ := (HR.out.below HW.out hlt) k x hx
    have hN := (notI x.op x.a x.t wr)
    have hbW : w.heap.size ≤ wr.heap.size := HW.out.size
    cases hq : okI x.op x.a x.t with
    | true =>
      rw [hq] at hN
      have HN := hidI hN
      have HQ : Hid ((l.take (k + 1)).all Ins.ok = true) := hidI (by rw [List.take_add_one, hx, List.all_append, HK.out]; simp [Ins.ok, hq])
      clear hN hq hx
      go_wp2_with fail
      refine HN.out.mono ?_
      rintro e w2 ⟨rfl, hb2⟩
      have HB2 := hidI (HW.out.trans (hb2.mono hbW))
      clear hb2
      go_wp2
      exact ⟨⟨k + 1, by omega, by go_num, HQ, HB2⟩, by simp [intOf]; omega⟩
    | false =>
      rw [hq] at hN
      have HN := hidI hN
      have HQ : Hid (l.all Ins.ok = false) := hidI (by
       rw [← Bool.not_eq_true, List.all_eq_true]
       intro h
       have := h x (List.mem_of_getElem? hx)
       unfold Ins.ok at this
       rw [hq] at this
       cases this)
      clear hN hq hx
      go_wp2_with fail
      refine HN.out.mono ?_
      rintro e w2 ⟨rfl, hb2⟩
      have HB2 := hidI (HW.out.trans (hb2.mono hbW))
      clear hb2
      go_wp2
      go_ret
      exact ⟨k, rfl, by rw [HQ.out]; simp, HB2.out⟩
  · have hke : k = l.length := by omega
    subst hke
    have HQ : Hid (l.all Ins.ok = true) := hidI (by have := HK.out; rwa [List.take_length] at this)
    go_wp2
    go_ret
    exact ⟨-1, rfl, by rw [HQ.out]; rfl, HW.out⟩
set_option maxHeartbeats 4000000 in
set_option maxRecDepth 100000 in
theorem hasF (A : Option Addr) (b o c : Nat) (l : List Ins) (w : World) (hA : l ≠ [] → A = some ⟨b, o, none⟩ ∧ b < w.heap.size) (hr : RowI w b o l) (hl : l.length ≤ c) (hs : l.length ≤ 1000000) :
 Calls Tryd.prog 28 #[.slice A l.length c, .func (.func 29) #[] #[]] w fun e w' => e = .returned (.bool (!l.all Ins.ok)) ∧ Below w.heap.size w w' := by
 have HC := hidI (idxF A b o c l w hA hr hl hs)
 clear hr
 go_enter hf28, hn28
 unfold Tryd.f28
 go_wp2_with fail
 refine HC.out.mono ?_
 rintro e w2 ⟨r, rfl, hd, hb⟩
 have HD := hidI hd
 clear hd
 go_wp2
 go_ret
 exact ⟨by rw [← HD.out]; rfl, hb⟩
theorem zmn {B0 : Nat → Option Obj} (hB : TabAt B0) (n : Int) (h : -9223372036854775808 ≤ n ∧ n ≤ 9223372036854775807) (W : World) (hW : ∀ (g : Nat) (o : Obj), B0 g = some o → W.heap[g]? = some o) :
 Calls Tryd.prog 32 #[.int .i64 n] W fun e w' => e = .returned (.string (num n)) ∧ Go.Den.Kept0 W w' := (Tryd.strconv_Itoa n h.1 h.2 W (hB W hW)).mono fun e w' he => by
 obtain ⟨rfl, k, os, rfl⟩ := he
 exact ⟨rfl, zjt W k os⟩
theorem zic {B b : Nat} {bs : List Value} {w w' : World} (h : Lib.IsBuilder 64 5 B b bs w) (hk : Go.Den.Kept0 w w') : Lib.IsBuilder 64 5 B b bs w' := by
 have key : ∀ p, Lib.BuilderAt 64 5 B b p bs w → Lib.BuilderAt 64 5 B b p bs w' := fun p h => by
  have hlt := h.lt
  obtain ⟨hB, v, hb, hown, hne⟩ := h
  refine ⟨hB, v, by rw [hk.keep b hlt]; exact hb, ?_, hne⟩
  exact hown.kept (row := none) ⟨hk.os, hk.tape, hk.output, hk.size, fun k hk1 _ => hk.keep k hk1⟩ (by cases v.ownBlock <;> simp)
 exact h.elim (fun h => .inl (key _ h)) fun h => .inr (key _ h)
abbrev S4 (w : World) (g : Nat) (x : Ins) (W : World) : Prop := W.cell? ⟨g, 0, none⟩ = some (.int .i64 x.op) ∧ W.cell? ⟨g, 1, none⟩ = some (.int .i64 x.a) ∧ W.cell? ⟨g, 2, none⟩ = some (.string x.t) ∧ Hid (W.heap[g]? = some (.cells #[.int .i64 x.op, .int .i64 x.a, .string x.t] 41 (0, 0)) ∧ Below w.heap.size w W)
theorem S4.mk {w W : World} {g : Nat} {x : Ins} (h1 : W.heap[g]? = some (.cells #[.int .i64 x.op, .int .i64 x.a, .string x.t] 41 (0, 0))) (h2 : Below w.heap.size w W) : S4 w g x W :=
 ⟨by rw [Lib.cell_of_heap h1]; rfl, by rw [Lib.cell_of_heap h1]; rfl, by rw [Lib.cell_of_heap h1]; rfl, hidI ⟨h1, h2⟩⟩
theorem zfw {w : World} {g : Nat} {o : Obj} (h : w.heap[g]? = some o) : g < w.heap.size := by
 rcases Nat.lt_or_ge g w.heap.size with h' | h'
 · exact h'
 · simp [Array.getElem?_eq_none h'] at h
theorem ziG {w W W' : World} (h : Below w.heap.size w W) (hk : Go.Den.Kept0 W W') : Below w.heap.size w W' :=
 h.trans ⟨hk.os, hk.tape, hk.output, hk.size, fun k hk1 => hk.keep k (Nat.lt_of_lt_of_le hk1 h.size)⟩
theorem S4.kept {w W W' : World} {g : Nat} {x : Ins} (h : S4 w g x W) (hk : Go.Den.Kept0 W W') : S4 w g x W' := by
 obtain ⟨_, _, _, hh⟩ := h
 exact S4.mk (by rw [hk.keep g (zfw hh.out.1)]; exact hh.out.1) (ziG hh.out.2 hk)
theorem S4.oth {w W W' : World} {g b B : Nat} {x : Ins} (h : S4 w g x W) (hb : Below B W W') (ho : Oth b W W') (hB : w.heap.size ≤ B) (hg : g ≠ b) : S4 w g x W' := by
 obtain ⟨_, _, _, hh⟩ := h
 exact S4.mk (ho g _ _ _ (by decide) hg hh.out.1) (hh.out.2.trans (hb.mono hB))
theorem S4.bel {w W : World} {g : Nat} {x : Ins} (h : S4 w g x W) : Below w.heap.size w W := by
 obtain ⟨_, _, _, hh⟩ := h
 exact hh.out.2
theorem zdb {n : Int} (h0 : 0 ≤ n) (h1 : n ≤ 100000) : (num n).size ≤ 6 := by
 have : Lib.itoa n = Lib.decDigits n.toNat := by unfold Lib.itoa; rw [if_neg (by omega)]
 unfold num
 rw [this]
 show (Lib.decDigits n.toNat).toArray.size ≤ 6
 have := zgc 5 n.toNat (by omega)
 simpa using this
def zfh (x : Ins) : ByteArray := ((((num x.op ++ ⟨#[32]⟩) ++ num x.a) ++ ⟨#[32]⟩) ++ x.t) ++ ⟨#[10]⟩
def zbu (l : List Ins) : List UInt8 := l.flatMap fun x => (zfh x).data.toList
theorem zdo {x : Ins} (h : x.ok = true) : (zfh x).size ≤ 1600 := by
 unfold Ins.ok okI at h
 simp only [Bool.and_eq_true, decide_eq_true_eq] at h
 have h1 := zdb (n := x.op) (by omega) (by omega)
 have h2 := zdb (n := x.a) (by omega) (by omega)
 have e1 : (⟨#[32]⟩ : ByteArray).size = 1 := rfl
 have e2 : (⟨#[10]⟩ : ByteArray).size = 1 := rfl
 unfold zfh
 simp only [ByteArray.size_append, e1, e2]
 omega
theorem zg3 : ∀ l : List Ins, l.all Ins.ok = true → (zbu l).length ≤ 1600 * l.length
 | [], _ => by simp [zbu]
 | x :: l, h => by
   rw [List.all_cons, Bool.and_eq_true] at h
   have h1 := zg3 l h.2
   have h2 := zdo h.1
   have e : (zbu (x :: l)).length = (zfh x).size + (zbu l).length := by unfold zbu; rw [List.flatMap_cons, List.length_append]; rfl
   rw [e, List.length_cons]
   omega
theorem ziO {l : List Ins} {k : Nat} {x : Ins} (h : l[k]? = some x) : zbu (l.take (k + 1)) = zbu (l.take k) ++ (zfh x).data.toList := by
 unfold zbu
 rw [List.take_add_one, h, List.flatMap_append]
 simp
def okT (l : List Ins) : Bool := decide (l.length ≤ 3000) && l.all Ins.ok
set_option maxHeartbeats 8000000 in
set_option maxRecDepth 100000 in
theorem ct_ok {B0 : Nat → Option Obj} (hB : TabAt B0) (A : Option Addr) (b o c : Nat) (l : List Ins) (w : World) (hA : l ≠ [] → A = some ⟨b, o, none⟩ ∧ b < w.heap.size) (hr : RowI w b o l) (hl : l.length ≤ c) (hs : l.length ≤ 3000) (hok : l.all Ins.ok = true) (hW : ∀ (g : Nat) (o : Obj), B0 g = some o → w.heap[g]? = some o) :
 Calls Tryd.prog 19 #[.slice A l.length c] w fun e w' => e = .returned (.tuple #[.string ⟨(zbu l).toArray⟩, .bool true]) ∧ Below w.heap.size w w' := by
 have HR := hidI hr
 have hC := hasF A b o c l w hA hr hl (by omega)
 rw [hok] at hC
 have HC := hidI hC
 have h3 : ¬ (3000 : Int) < (l.length : Int) := by omega
 have h4 : decide ((3000 : Int) < (l.length : Int)) = false := decide_eq_false h3
 clear hr hC
 go_enter hf19, hn19
 unfold Tryd.f19
 go_wp2_with fail
 refine HC.out.mono ?_
 rintro e w1 ⟨rfl, hb1⟩
 have HB1 := hidI hb1
 clear hb1
 go_wp2_with fail
 go_loopw [17] (fun i wr => ∃ k : Nat, k ≤ l.length ∧ i = .int .i64 k ∧ Hid (Lib.IsBuilder 64 5 w1.heap.size w1.heap.size (Lib.byteCells (zbu (l.take k))) wr) ∧ Hid (Below w1.heap.size w1 wr)) (fun i _ => l.length - (intOf i).toNat)
 case atStart => exact ⟨0, Nat.zero_le _, rfl, hidI (by simpa [zbu, Lib.byteCells] using Lib.fresh_isBuilder 64 5 w1), hidI ((Below.refl _ _).alloc (Nat.le_refl _) _)⟩
 case round =>
  obtain ⟨k, hk, rfl, HK, HV⟩ := hrel
  have HW : Hid (Below w.heap.size w wr) := hidI (HB1.out.trans (HV.out.mono HB1.out.size))
  by_cases hkn : k < l.length
  · obtain ⟨x, hx⟩ : ∃ x, l[k]? = some x := ⟨l[k], List.getElem?_eq_getElem hkn⟩
    obtain ⟨rfl, hlt⟩ := hA (fun e => by rw [e] at hkn; exact absurd hkn (Nat.not_lt_zero _))
    obtain ⟨h1, h2, h3⟩ := (HR.out.below HW.out hlt) k x hx
    have HX := hidI hx
    clear hx
    have hgb : wr.heap.size ≠ w1.heap.size := by
     have := HK.out.elim (fun h => h.lt) (fun h => h.lt)
     omega
    obtain ⟨q1, hq1⟩ : ∃ q, q = num x.op := ⟨_, rfl⟩
    obtain ⟨q2, hq2⟩ : ∃ q, q = num x.a := ⟨_, rfl⟩
    go_wp2_with fail
    have hS : S4 w wr.heap.size x (wr.alloc (Obj.cells #[Value.int IntKind.i64 x.op, Value.int IntKind.i64 x.a, Value.string x.t] 41)) := S4.mk (heap_alloc_new wr _) (HW.out.alloc HW.out.size _)
    have hK2 : Lib.IsBuilder 64 5 w1.heap.size w1.heap.size (Lib.byteCells (zbu (l.take k))) (wr.alloc (Obj.cells #[Value.int IntKind.i64 x.op, Value.int IntKind.i64 x.a, Value.string x.t] 41)) := zic HK.out (Go.Den.Kept0.alloc wr _)
    have hV2 : Below w1.heap.size w1 (wr.alloc (Obj.cells #[Value.int IntKind.i64 x.op, Value.int IntKind.i64 x.a, Value.string x.t] 41)) := HV.out.alloc HV.out.size _
    generalize wr.alloc (Obj.cells #[Value.int IntKind.i64 x.op, Value.int IntKind.i64 x.a, Value.string x.t] 41) = w2 at hS hK2 hV2 ⊢
    have HS := hidI hS
    have hxok : x.ok = true := (List.all_eq_true.1 hok) x (List.mem_of_getElem? HX.out)
    have hxo := hxok
    unfold Ins.ok okI at hxo
    simp only [Bool.and_eq_true, decide_eq_true_eq] at hxo
    have I1 := fun W hW => zmn hB x.op (by omega) W hW
    have I2 := fun W hW => zmn hB x.a (by omega) W hW
    rw [← hq1] at I1
    rw [← hq2] at I2
    have hz1 : q1.size ≤ 6 := by rw [hq1]; exact zdb (by omega) (by omega)
    have hz2 : q2.size ≤ 6 := by rw [hq2]; exact zdb (by omega) (by omega)
    have hz3 : x.t.size ≤ 1500 := by omega
    have hline : zfh x = ((((q1 ++ ⟨#[32]⟩) ++ q2) ++ ⟨#[32]⟩) ++ x.t) ++ ⟨#[10]⟩ := by rw [hq1, hq2]; rfl
    have hlen : (Lib.byteCells (zbu (l.take k))).length ≤ 4800000 := by
     rw [Lib.byteCells_length]
     have := zg3 (l.take k) (List.all_eq_true.2 fun y hy => (List.all_eq_true.1 hok) y (List.mem_of_mem_take hy))
     have := List.length_take_le k l
     omega
    have hnext : Lib.byteCells (zbu (l.take k)) ++ Lib.strCells (zfh x) = Lib.byteCells (zbu (l.take (k + 1))) := by
     rw [ziO HX.out, Lib.strCells_eq, Lib.byteCells_append]
    have hls : (((((q1 ++ ⟨#[32]⟩) ++ q2) ++ ⟨#[32]⟩) ++ x.t) ++ ⟨#[10]⟩ : ByteArray).size ≤ 1600 := by rw [← hline]; exact zdo hxok
    have HZ := hidI hls
    have HN := hidI hnext
    have HL := hidI hline
    have HO := hidI hok
    have hBel : ∀ W, Below w.heap.size w W → ∀ (g : Nat) (o : Obj), B0 g = some o → W.heap[g]? = some o := fun W hb g o hgo => by rw [hb.block g (zfw (hW g o hgo))]; exact hW g o hgo
    have s1 : ¬ (9223372036854775807 < q1.size + 1) := by omega
    have s2 : ¬ (9223372036854775807 < q1.size + 1 + q2.size) := by omega
    have s3 : ¬ (9223372036854775807 < q1.size + 1 + q2.size + 1) := by omega
    have s4 : ¬ (9223372036854775807 < q1.size + 1 + q2.size + 1 + x.t.size) := by omega
    have s5 : ¬ (9223372036854775807 < q1.size + 1 + q2.size + 1 + x.t.size + 1) := by omega
    clear hnext hls hline hxok hxo hok hq1 hq2 hW hS
    go_region_held3 (fun W => W.cell? ⟨wr.heap.size, 0, none⟩ = some (.int .i64 x.op) ∧ W.cell? ⟨wr.heap.size, 1, none⟩ = some (.int .i64 x.a) ∧ W.cell? ⟨wr.heap.size, 2, none⟩ = some (.string x.t) ∧ Hid (W.heap[wr.heap.size]? = some (.cells #[.int .i64 x.op, .int .i64 x.a, .string x.t] 41 (0, 0)) ∧ Below w.heap.size w W)) (first | exact S4.kept HS.out (Go.Den.Kept0.drew _) | exact S4.kept (by assumption) hk1 | exact S4.kept (by assumption) hk2 | exact S4.oth (by assumption) hb5 ho5 HB1.out.size hgb | go_keep)
     (first
      | (go_at_call_of 32 (x.op); refine (I1 _ (hBel _ (S4.bel (by assumption)))).mono ?_; rintro e w3 ⟨rfl, hk1⟩)
      | (go_at_call_of 32 (x.a); refine (I2 _ (hBel _ (S4.bel (by assumption)))).mono ?_; rintro e w4 ⟨rfl, hk2⟩)
      | (go_at_call 31; refine (ws w1.heap.size w1.heap.size _ _ _ (zic hK2 ((Go.Den.Kept0.drew _).trans (hk1.trans hk2))) (by have := HZ.out; omega) (by have := hV2.size; have := hk1.size; have := hk2.size; have : w2.drew.heap.size = w2.heap.size := rfl; omega)).mono ?_; rintro e w5 ⟨rfl, hK5, hb5, ho5⟩))
    rw [← HL.out, HN.out] at hK5
    have HK5 : Hid (Lib.IsBuilder 64 5 w1.heap.size w1.heap.size (Lib.byteCells (zbu (l.take (k + 1)))) w5) := hidI (Or.inr hK5)
    have HV5 := hidI (((hV2.drew).trans ⟨(hk1.trans hk2).os, (hk1.trans hk2).tape, (hk1.trans hk2).output, (hk1.trans hk2).size, fun j hj => (hk1.trans hk2).keep j (Nat.lt_of_lt_of_le hj hV2.size)⟩).trans hb5)
    clear hK5 hb5 ho5 hk1 hk2
    go_wp2
    exact ⟨⟨k + 1, by omega, by go_num, HK5, HV5⟩, by simp [intOf]; omega⟩
  · have hke : k = l.length := by omega
    subst hke
    have hK' := HK.out
    rw [List.take_length] at hK'
    have hBw : w1.heap.size ≤ wr.heap.size := HV.out.size
    go_wp2_with fail
    refine (Tryd.Builder_String_any w1.heap.size w1.heap.size _ wr hK' hBw).mono ?_
    rintro e w6 ⟨rfl, hb6⟩
    have HB6 := hidI (HB1.out.trans ((HV.out.trans hb6).mono HB1.out.size))
    clear hb6 hK'
    go_wp2
    go_ret2
    exact ⟨rfl, HB6.out⟩
set_option maxHeartbeats 2000000 in
set_option maxRecDepth 100000 in
theorem zmh (A : Option Addr) (b o c : Nat) (l : List Ins) (w : World) (hA : l ≠ [] → A = some ⟨b, o, none⟩ ∧ b < w.heap.size) (hr : RowI w b o l) (hl : l.length ≤ c) (hs : l.length ≤ 3000) (hok : l.all Ins.ok = false) :
 Calls Tryd.prog 19 #[.slice A l.length c] w fun e w' => e = .returned (.tuple #[.string ⟨#[]⟩, .bool false]) ∧ Below w.heap.size w w' := by
 have hC := hasF A b o c l w hA hr hl (by omega)
 rw [hok] at hC
 have HC := hidI hC
 have h4 : decide ((3000 : Int) < (l.length : Int)) = false := decide_eq_false (by omega)
 clear hr hC
 go_enter hf19, hn19
 unfold Tryd.f19
 go_wp2_with fail
 refine HC.out.mono ?_
 rintro e w1 ⟨rfl, hb1⟩
 go_wp2
 go_ret2
 exact ⟨rfl, hb1⟩
set_option maxHeartbeats 2000000 in
set_option maxRecDepth 100000 in
theorem zlU (A : Option Addr) (n c : Nat) (w : World) (hs : 3000 < n) :
 Calls Tryd.prog 19 #[.slice A n c] w fun e w' => e = .returned (.tuple #[.string ⟨#[]⟩, .bool false]) ∧ Below w.heap.size w w' := by
 have h4 : decide ((3000 : Int) < (n : Int)) = true := decide_eq_true (by omega)
 go_enter hf19, hn19
 unfold Tryd.f19
 go_wp2
 go_ret2
 exact ⟨rfl, Below.refl _ _⟩
def zeg (l : List Ins) : ByteArray := match okT l with
 | true => ⟨(zbu l).toArray⟩
 | false => ⟨#[]⟩
theorem zk9 {B0 : Nat → Option Obj} (hB : TabAt B0) (A : Option Addr) (b o c : Nat) (l : List Ins) (w : World) (hA : l ≠ [] → A = some ⟨b, o, none⟩ ∧ b < w.heap.size) (hr : RowI w b o l) (hl : l.length ≤ c) (hW : ∀ (g : Nat) (o : Obj), B0 g = some o → w.heap[g]? = some o) :
 Calls Tryd.prog 19 #[.slice A l.length c] w fun e w' => e = .returned (.tuple #[.string (zeg l), .bool (okT l)]) ∧ Below w.heap.size w w' := by
 by_cases hs : l.length ≤ 3000
 · cases hok : l.all Ins.ok with
   | true =>
     have e : okT l = true := by unfold okT; rw [hok, decide_eq_true hs]; rfl
     unfold zeg
     rw [e]
     exact ct_ok hB A b o c l w hA hr hl hs hok hW
   | false =>
     have e : okT l = false := by unfold okT; rw [hok, Bool.and_false]
     unfold zeg
     rw [e]
     exact zmh A b o c l w hA hr hl hs hok
 · have e : okT l = false := by unfold okT; rw [decide_eq_false hs]; rfl
   unfold zeg
   rw [e]
   exact zlU _ _ c w (by omega)
end Go.Proofs.YtmoocdlfclhgcaaDoor
namespace Go.Den
open Go Go.RowKit
set_option linter.unusedVariables false
variable {B : Nat → Option Obj}
theorem vals1 {vals : Array Value} (h : vals.size = 1) : vals = #[vals.getD 0 undef] := by
 obtain ⟨l⟩ := vals
 match l, h with
 | [a], _ => rfl
end Go.Den
namespace Go.Den
open Go Go.RowKit
set_option linter.unusedVariables false
variable {B : Nat → Option Obj}
theorem zkm {c : Cx} {args : List D} {W' : World} {ws : List Value} (hcs : c.s = zbr args [] []) (hk : Kept0 c.W W') (hne : ws ≠ []) (hsc : ∀ r ∈ ws, scal r = true) : ∃ c', c'.W = W' ∧ Ans c (ws.map DV) [] [] (retV ws) c' := by
 refine ⟨{ c with W := W', s := ⟨fun x => match Nat.beq x 0 with | true => retD (ws.map DV) | false => .junk, fun _ => none, [], []⟩ }, rfl, Ans.of (zeQ ws) ⟨?_, rfl, ?_, ?_, ?_⟩⟩
 · exact ⟨hk.os, hk.tape, hk.output, hk.size, fun g hg _ => ⟨rfl, hk.keep g hg⟩, rfl, fun _ => rfl, fun _ => rfl⟩
 · refine ⟨fun x => ?_, fun r cs hb => ?_, fun j r hgj => ?_⟩
   · show VR _ _ (match Nat.beq x 0 with | true => retD (ws.map DV) | false => .junk) _
     cases hx : Nat.beq x 0 with
     | true =>
       have := Nat.eq_of_beq_eq_true hx
       subst this
       match ws, hne, hsc with
       | [w], _, hsc => exact zaB (hsc w (by simp))
       | w :: w2 :: ws, _, hsc => exact ⟨w :: w2 :: ws, rfl, fun e => (by cases e), zjB (w :: w2 :: ws) 0 hsc⟩
     | false => trivial
   · cases r with
     | loc n => cases hb
     | up n =>
       have hb' : ([] : List (List D))[n]? = some cs := hb
       simp at hb'
   · have hgj' : (([] : List (Option Row))[j]?).bind id = some r := hgj
     simp at hgj'
 · match ws, hne with
   | [w], _ => rfl
   | w :: w2 :: ws, _ => exact zey false (w :: w2 :: ws)
 · rw [hcs]
   rfl
end Go.Den
namespace Go.Den
open Go.Proofs
open Go Go.RowKit
open Go.Proofs.YtmoocdlfclhgcaaDoor (Ins zeg okT zk9 RowI TabAt)
set_option linter.unusedVariables false
variable {B : Nat → Option Obj}
def zlF : Dat → Option Ins
 | .agg [.val (.int .i64 op), .val (.int .i64 a), .val (.string t)] => some ⟨op, a, t⟩
 | _ => none
def zfd : List Dat → Option (List Ins)
 | [] => some []
 | d :: l => (zlF d).bind fun x => (zfd l).map (x :: ·)
def DIns (x : Ins) : Dat := .agg [.val (.int .i64 x.op), .val (.int .i64 x.a), .val (.string x.t)]
theorem ziV {d : Dat} {x : Ins} (h : zlF d = some x) : d = DIns x := by
 unfold zlF at h
 split at h
 · cases h; rfl
 · cases h
theorem zeL : ∀ {es : List Dat} {l : List Ins}, zfd es = some l → es = l.map DIns
 | [], l, h => by cases h; rfl
 | d :: es, l, h => by
   simp only [zfd] at h
   obtain ⟨x, hx, h⟩ := Option.bind_eq_some_iff.1 h
   obtain ⟨l', hl, rfl⟩ := Option.map_eq_some_iff.1 h
   rw [ziV hx, zeL hl]
   rfl
theorem zfz : ∀ l : List Ins, zfd (l.map DIns) = some l
 | [] => rfl
 | x :: l => by simp only [List.map_cons, zfd, zfz l]; rfl
def zk2 (args : List D) (u : List (List D)) (l : List (Option Row)) : Option (List D × List (List D) × List (Option Row)) :=
 match args, u, l with
 | [.dat (.lst _ es)], [], [] => (zfd es).bind fun l => some ([.string (zeg l), .bool (okT l)].map DV, [], [])
 | _, _, _ => none
theorem zly {ρ : Nat → Role} {W : World} {x : Ins} {f : List Value} (h : Rep ρ W (DIns x) f) : f = [.int .i64 x.op, .int .i64 x.a, .string x.t] := by
 cases h with
 | agg hl _ hh =>
   match f, hl with
   | [a, b, c], _ =>
     have ha := hh 0 _ a rfl rfl
     have hb := hh 1 _ b rfl rfl
     have hq := hh 2 _ c rfl rfl
     cases ha
     cases hb
     cases hq
     rfl
theorem zlq (hB : TabAt B) (hf : Tryd.prog.funcs[19]? = some Tryd.f19) {ty : Nat → Option TI} : ExtOK Tryd.prog ty B 19 zk2 := by
 have hn : (Tryd.f19.name == "runtime.NumGoroutine") = false := by kernel_rfl
 have hb : Tryd.f19.body.isSome = true := by kernel_rfl
 constructor
 intro f' args u l rs u' l' hc c vals hcty hI hcs hsz2 hs
 simp only at hc
 split at hc
 · rename_i hff
   subst hff
   unfold zk2 at hc
   split at hc
   · rename_i b es
     obtain ⟨zs, hz, hq⟩ := Option.bind_eq_some_iff.1 hc
     clear hc
     have := zeL hz
     subst this
     clear hz
     injection hq with hq
     injection hq with hc1 hc2
     injection hc2 with hc2 hc3
     subst hc1 hc2 hc3
     have s0 := hs.slots 0
     rw [hcs] at s0
     have s0 : VR c (.slot 0 []) (.dat (.lst b (zs.map DIns))) (vals.getD 0 undef) := s0
     have hv1 := vals1 hsz2
     have hne : ([.string (zeg zs), .bool (okT zs)] : List Value) ≠ [] := by simp
     have hsc : ∀ r ∈ ([.string (zeg zs), .bool (okT zs)] : List Value), scal r = true := by
      intro r hr
      rcases List.mem_cons.1 hr with rfl | hr
      · rfl
      · rw [List.mem_singleton] at hr; subst hr; rfl
     have h2 := zfk s0
     have hex : ∃ A g o k, vals.getD 0 undef = .slice A zs.length k ∧ (zs ≠ [] → A = some ⟨g, o, none⟩ ∧ g < c.W.heap.size) ∧ RowI c.W g o zs ∧ zs.length ≤ k := by
      generalize hd : vals.getD 0 undef = v0 at h2
      generalize he : zs.map DIns = es at h2
      cases h2 with
      | nil =>
        have hz : zs = [] := by simpa using he
        subst hz
        exact ⟨_, 0, 0, _, rfl, fun h => absurd rfl h, fun j x hx => by simp at hx, Nat.zero_le _⟩
      | lst f hc hm hr hg hw hv h =>
        rename_i g o k sz
        have hlen : es.length = zs.length := by rw [← he]; simp
        refine ⟨_, g, o, k, by rw [hlen], fun _ => ⟨rfl, hg⟩, fun j x hx => ?_, by omega⟩
        have hd : es[j]? = some (DIns x) := by rw [← he, List.getElem?_map, hx]; rfl
        have hfj := zly (h j _ hd)
        have hsz : sz = 3 := by rw [← hw j _ hd, hfj]; rfl
        subst hsz
        refine ⟨?_, ?_, ?_⟩
        · have := hv j _ hd 0 _ (by rw [hfj]; rfl)
          simpa using this
        · exact hv j _ hd 1 _ (by rw [hfj]; rfl)
        · exact hv j _ hd 2 _ (by rw [hfj]; rfl)
     obtain ⟨A, g, o, k, hv, hA, hr, hl⟩ := hex
     rw [hv] at hv1
     rw [hv1]
     refine zcb hf hn hb ((zk9 hB A g o k zs c.W hA hr hl (fun g o hg => (hI g o hg).2)).mono ?_)
     rintro e' w' ⟨rfl, hb'⟩
     exact ⟨_, rfl, zkm hcs ⟨hb'.os, hb'.tape, hb'.output, hb'.size, fun g hg => hb'.block g hg⟩ hne hsc⟩
   · cases hc
 · cases hc
end Go.Den
namespace Go.Den
open Go
def tys : List (Nat × TI) := [(2, ⟨.int .i64, 1, 8, [], [.dat (.val (.int .i64 0))]⟩), (3, ⟨.int .i64, 1, 8, [], [.dat (.val (.int .i64 0))]⟩), (4, ⟨.bool, 1, 1, [], [.dat (.val (.bool false))]⟩), (5, ⟨.int .u8, 1, 1, [], [.dat (.val (.int .u8 0))]⟩), (9, ⟨.str, 1, 16, [], [.dat (.val (.string ByteArray.empty))]⟩), (22, ⟨.slice 38, 1, 24, [], [.own 38 []]⟩), (26, ⟨.slice 41, 1, 24, [], [.own 41 []]⟩), (30, ⟨.slice 3, 1, 24, [], [.own 3 []]⟩), (38, ⟨.struct, 3, 32, [(0, 3), (1, 3), (2, 9)], [.dat (.val (.int .i64 0)), .dat (.val (.int .i64 0)), .dat (.val (.string ByteArray.empty))]⟩), (41, ⟨.struct, 3, 32, [(0, 3), (1, 3), (2, 9)], [.dat (.val (.int .i64 0)), .dat (.val (.int .i64 0)), .dat (.val (.string ByteArray.empty))]⟩), (44, ⟨.other, 1, 8, [], [.dat (.val (.pointer none))]⟩), (46, ⟨.struct, 3, 56, [(0, 26), (1, 30), (2, 4)], [.own 41 [], .own 3 [], .dat (.val (.bool false))]⟩), (50, ⟨.struct, 2, 16, [(0, 3), (1, 3)], [.dat (.val (.int .i64 0)), .dat (.val (.int .i64 0))]⟩), (51, ⟨.slice 50, 1, 24, [], [.own 50 []]⟩), (60, ⟨.other, 1, 8, [], [.dat (.val .nilFunc)]⟩), (61, ⟨.other, 1, 8, [], [.dat (.val (.pointer none))]⟩), (62, ⟨.slice 5, 1, 24, [], [.own 5 []]⟩), (64, ⟨.struct, 2, 32, [(0, 61), (1, 62)], [.dat (.val (.pointer none)), .own 5 []]⟩), (66, ⟨.other, 1, 16, [], [.dat (.val .nilIface)]⟩), (70, ⟨.int .u64, 1, 8, [], [.dat (.val (.int .u64 0))]⟩), (75, ⟨.other, 1, 8, [], [.dat (.val (.pointer none))]⟩), (76, ⟨.int .u32, 1, 4, [], [.dat (.val (.int .u32 0))]⟩), (79, ⟨.int .u64, 1, 8, [], [.dat (.val (.int .u64 0))]⟩), (83, ⟨.other, 1, 8, [], [.dat (.val (.pointer none))]⟩)]
def zcV {α : Type} : List (Nat × α) → Nat → Option α
 | [], _ => none
 | (a, x) :: l, n => match Nat.beq a n with | true => some x | false => zcV l n
def zlM : List (Nat × List (Nat × List Nat)) := [(5, [(5, [0, 1, 5])]), (6, [(7, [7, 8, 18, 19, 20])]), (7, [(3, [0, 3, 4])]), (8, [(6, [7, 8, 18, 19, 20])]), (9, [(4, [0, 1, 5])]), (17, [(4, [0, 12, 13, 14])]), (19, [(5, [4, 15, 16, 17])]), (25, [(2, [0, 1, 7])]), (27, [(3, [3, 6, 7, 8])]), (36, [(2, [0, 1, 7, 8])]), (45, [(15, [0, 1, 5, 6, 7, 8, 9, 10])]), (48, [(1, [0, 1, 4])]), (49, [(11, [0, 1, 3, 4, 10, 11, 12, 13, 14, 15, 16]), (18, [0, 1, 3, 4, 10, 11, 12, 13, 17])]), (53, [(5, [0, 1, 5, 6, 7, 8, 9]), (11, [0, 1, 5, 6, 7, 8, 10])]), (60, [(3, [0, 4, 5]), (8, [4, 6, 7, 8])])]
def zmy : List (Nat × List (Nat × List Nat)) := [(5, [(5, [1, 4])]), (6, [(7, [7, 8])]), (7, [(3, [3])]), (8, [(6, [7, 8])]), (9, [(4, [4])]), (17, [(4, [0, 2, 3])]), (19, [(5, [4])]), (25, [(2, [0, 4, 5, 6])]), (27, [(3, [3])]), (36, [(2, [4])]), (45, [(15, [4])]), (48, [(1, [0, 1, 4])]), (49, [(11, [0, 1, 3, 4, 10, 11, 12, 13]), (18, [0, 1, 3, 4, 10, 11, 12, 13])]), (53, [(5, [0, 1, 5, 6, 7, 8]), (11, [4])]), (60, [(3, [0, 4]), (8, [4, 6])])]
def zlZ : List (Nat × List Nat) := [(13, [1, 0]), (14, [1, 0])]
def zlr : List (Nat × List (Nat × Plan)) := [(9, [(6, (none, [(0, 0, []), (1, 0, []), (2, 0, []), (3, 1, []), (4, 0, []), (5, 0, []), (6, 0, []), (7, 1, []), (8, 2, []), (9, 0, [])]))]), (19, [(7, (none, [(0, 0, []), (1, 1, []), (4, 0, []), (5, 1, []), (9, 0, []), (10, 1, []), (2, 4, []), (3, 0, []), (6, 4, []), (7, 0, []), (8, 0, []), (11, 0, []), (12, 0, []), (13, 2, [])]))]), (25, [(5, (none, [(0, 0, []), (1, 0, []), (2, 0, []), (3, 0, []), (4, 0, []), (5, 0, []), (6, 0, []), (7, 0, []), (8, 0, []), (9, 0, [])]))]), (27, [(5, (none, [(0, 0, []), (1, 0, []), (2, 1, []), (5, 0, []), (6, 1, []), (10, 0, []), (11, 1, []), (3, 4, []), (4, 0, []), (7, 4, []), (8, 0, []), (9, 0, []), (12, 0, []), (13, 0, []), (14, 0, []), (15, 0, [])]))]), (33, [(1, (some [], [(0, 0, []), (1, 0, []), (2, 0, []), (3, 1, []), (5, 0, []), (6, 0, []), (7, 0, []), (8, 1, []), (9, 0, []), (4, 4, []), (10, 2, []), (11, 0, [])]))]), (48, [(7, (none, [(0, 0, []), (1, 0, []), (2, 0, []), (3, 0, []), (4, 0, []), (5, 0, []), (6, 0, []), (7, 0, []), (8, 0, []), (9, 0, []), (10, 0, []), (11, 0, []), (12, 2, []), (13, 0, []), (14, 2, [])])), (8, (none, [(0, 0, []), (1, 0, []), (2, 0, []), (3, 0, []), (4, 0, []), (5, 0, []), (6, 0, []), (7, 0, []), (8, 0, []), (9, 0, []), (10, 0, []), (11, 0, []), (12, 2, []), (13, 0, []), (14, 2, [])])), (9, (none, [(0, 0, []), (1, 0, []), (2, 0, []), (3, 0, []), (4, 0, []), (5, 0, []), (6, 0, []), (7, 0, []), (8, 0, []), (9, 0, []), (10, 0, []), (11, 0, []), (12, 2, []), (13, 0, []), (14, 2, [])])), (10, (none, [(0, 0, []), (1, 0, []), (2, 0, []), (3, 0, []), (4, 0, []), (5, 0, []), (6, 0, []), (7, 0, []), (8, 0, []), (9, 0, []), (10, 0, []), (11, 0, []), (12, 2, []), (13, 0, []), (14, 2, [])])), (17, (none, [(0, 0, []), (1, 0, []), (2, 0, []), (3, 0, []), (4, 0, []), (5, 0, []), (6, 0, []), (7, 0, []), (8, 0, []), (9, 0, []), (10, 0, []), (11, 0, []), (12, 2, []), (13, 0, []), (14, 2, [])])), (18, (none, [(0, 0, []), (1, 0, []), (2, 0, []), (3, 0, []), (4, 0, []), (5, 0, []), (6, 0, []), (7, 0, []), (8, 0, []), (9, 0, []), (10, 0, []), (11, 0, []), (12, 2, []), (13, 0, []), (14, 2, [])])), (23, (none, [(0, 0, []), (1, 0, []), (2, 0, []), (3, 0, []), (4, 0, []), (5, 0, []), (6, 0, []), (7, 0, []), (8, 0, []), (9, 0, []), (10, 0, []), (11, 0, []), (12, 2, []), (13, 0, []), (14, 2, [])]))])]
def cfgN : Nat := 85
def skips : List Nat := [0, 1, 2, 19, 22, 28, 29, 30, 31, 32, 33, 34, 35, 36, 37, 38, 39, 40, 41, 42, 43, 44, 45, 46, 47, 48, 49, 50, 51, 52, 53, 54, 55, 56, 57, 58, 59, 60, 61, 62, 63, 64, 65, 66, 67, 68, 69, 70, 71, 72, 73, 74, 75, 76, 77, 78, 79, 80, 81, 82, 83, 84]
def extsOf : List (Nat × (List D → List (List D) → List (Option Row) → Option (List D × List (List D) × List (Option Row)))) := [(19, zk2), (35, zfG Go.Proofs.YtmoocdlfclhgcaaDoor.numV)]
def zjp : List Nat := [19, 35]
def zgb : List Nat := []
noncomputable def cfg : Cfg where
 ty := zcV tys
 fn := fun f => match Nat.blt f cfgN && !memN f skips && (!memN f zjp || memN f zgb) with | true => Go.Proofs.Tryd.prog.funcs[f]? | false => none
 mode := fun f => (zcV zlZ f).getD []
 live := fun f r => ((zcV zlM f).bind fun l => zcV l r).getD []
 out := fun f r => ((zcV zmy f).bind fun l => zcV l r).getD []
 plan := fun f r => (zcV zlr f).bind fun l => zcV l r
 liv := fun f => memN f []
 ext := zcV extsOf
end Go.Den
namespace Go.Den
open Go.Proofs
open Go
set_option linter.unusedVariables false
theorem zeu {α : Type} {n : Nat} {x : α} : ∀ {l : List (Nat × α)}, zcV l n = some x → (n, x) ∈ l
 | [], h => by cases h
 | (a, y) :: l, h => by
   unfold zcV at h
   split at h
   · rename_i hb
     cases h
     rw [beq_eq.1 hb]
     exact List.mem_cons_self
   · exact List.mem_cons_of_mem _ (zeu h)
noncomputable def zlW : Bool := tys.all fun p => tyIs Tryd.prog (zcV tys) p.1 p.2
theorem zkl : zlW = true := by kernel_rfl
theorem zlp : TyOk Tryd.prog cfg.ty := fun t i h => (List.all_eq_true.1 zkl) (t, i) (zeu h)
def fnGood (C : Cfg) (f : Nat) : Bool :=
 match C.fn f with
 | some fn => !(fn.name == "runtime.NumGoroutine") && (match fn.body with | some c => zbf fn.ntmps c && zbx C.ty fn.ntmps (C.plan f) c | none => true)
 | none => true
noncomputable def fnsGood : Bool := (List.range cfgN).all (fnGood cfg)
theorem fns_good : fnsGood = true := by kernel_rfl
theorem zhZ : Tryd.prog.follows .mixedOrders = true := by kernel_rfl
theorem zk5 {B : Nat → Option Obj} {f : Nat} {fn : Func} (h : cfg.fn f = some fn) : FnOK Tryd.prog B cfg f fn := by
 have hlt : f < cfgN ∧ Tryd.prog.funcs[f]? = some fn := by
  unfold cfg at h
  simp only at h
  split at h
  · rename_i hb
    simp only [Bool.and_eq_true] at hb
    have : f + 1 ≤ cfgN := by simpa [Nat.blt] using hb.1.1
    exact ⟨by omega, h⟩
  · cases h
 have hg := (List.all_eq_true.1 fns_good) f (List.mem_range.2 hlt.1)
 unfold fnGood at hg
 rw [h] at hg
 simp only [Bool.and_eq_true, Bool.not_eq_true'] at hg
 refine ⟨hlt.2, hg.1, fun c hc => ?_, fun c hc call _ => ?_⟩
 · have := hg.2
   rw [hc] at this
   simp only [Bool.and_eq_true] at this
   exact this.1
 · have := hg.2
   rw [hc] at this
   simp only [Bool.and_eq_true] at this
   exact za7 (E := ⟨cfg.ty, cfg.mode, fn.ntmps, cfg.live f, cfg.out f, cfg.plan f, call⟩) zhZ c this.1 this.2
theorem cfg_e {B : Nat → Option Obj} (hB : Go.Proofs.YtmoocdlfclhgcaaDoor.TabAt B) {f : Nat} {g : List D → List (List D) → List (Option Row) → Option (List D × List (List D) × List (Option Row))} (h : cfg.ext f = some g) : ExtOK Tryd.prog cfg.ty B f g := by
 have hm := zeu (show zcV extsOf f = some g from h)
 simp only [extsOf, List.mem_cons, Prod.mk.injEq, List.not_mem_nil, or_false] at hm
 rcases hm with ⟨rfl, rfl⟩ | ⟨rfl, rfl⟩
 · exact zlq hB (by kernel_rfl)
 · exact zjF (fn := Tryd.f35) (by kernel_rfl) (by kernel_rfl) (by kernel_rfl) Go.Proofs.YtmoocdlfclhgcaaDoor.l1_calls
theorem zmi {B : Nat → Option Obj} (hB : Go.Proofs.YtmoocdlfclhgcaaDoor.TabAt B) : CfgOK Tryd.prog B cfg := zkZ zlp (fun f fn h => zk5 h) (fun f g h => cfg_e hB h)
structure Says (P : Program) (B : Nat → Option Obj) (C : Cfg) : Prop where mk ::
 out : ∀ k, zcB P C.ty B (den C k)
theorem zlx {P : Program} {B : Nat → Option Obj} {C : Cfg} (h : CfgOK P B C) : Says P B C := ⟨zdE h⟩
theorem zkq {B : Nat → Option Obj} (hB : Go.Proofs.YtmoocdlfclhgcaaDoor.TabAt B) : Says Tryd.prog B cfg := zlx (zmi hB)
end Go.Den
namespace Go.Den
open Go Go.RowKit Go.ChangeShapes Go.WideShapes Go.Deep
set_option linter.unusedVariables false
inductive WT (ty : Nat → Option TI) : Nat → Dat → Prop where
 | int {t : Nat} {i : TI} {k : IntKind} {n : Int} (ht : ty t = some i) (hk : i.kind = .int k) (h : (Lit.int k n).wf = true) : WT ty t (.val (.int k n))
 | bool {t : Nat} {i : TI} {b : Bool} (ht : ty t = some i) (hk : i.kind = .bool) : WT ty t (.val (.bool b))
 | str {t : Nat} {i : TI} {s : ByteArray} (ht : ty t = some i) (hk : i.kind = .str) (h : s.size ≤ maxLen) : WT ty t (.val (.string s))
 | lst {t : Nat} {i : TI} {e : Nat} {es : List Dat} (ht : ty t = some i) (hk : i.kind = .slice e) (hl : es.length ≤ maxLen) (h : ∀ d ∈ es, WT ty e d) : WT ty t (.lst false es)
 | agg {t : Nat} {i : TI} {cs : List Dat} (ht : ty t = some i) (hk : i.kind = .struct) (hl : cs.length = i.fs.length) (h : ∀ (j : Nat) (f : Nat × Nat) (d : Dat), i.fs[j]? = some f → cs[j]? = some d → WT ty f.2 d) : WT ty t (.agg cs)
def zc7 (ty : Nat → Option TI) : Nat → Nat → Bool
 | 0, _ => false
 | n + 1, t => match ty t with
   | none => false
   | some i => match i.kind with
     | .int _ => true
     | .bool => true
     | .str => true
     | .slice e => zc7 ty n e && (match ty e with | some j => Nat.blt 0 j.sz | none => false)
     | .struct => Nat.beq i.sz i.fs.length && (List.range i.fs.length).all fun j => match i.fs[j]? with
       | some f => Nat.beq f.1 j && (zc7 ty n f.2 && (match ty f.2 with | some k => Nat.beq k.sz 1 && !k.agg | none => false))
       | none => false
     | .map _ _ => false
     | .other => false
theorem zdK {P : Program} {ty : Nat → Option TI} {t : Nat} {i : TI} {inf : TypeInfo} {d : TypeDesc} {z : Value} (h : TyFacts P ty t i inf d z) : P.cellsOf t = i.sz := by
 unfold Program.cellsOf
 rw [h.info]
 simpa using h.size
theorem zj5 {w : World} {a : Addr} {v : Value} (h : w.cell? a = some v) : a.spot = none := by
 unfold World.cell? at h
 split at h
 · split at h
   · cases h
   · rename_i hs
     simpa using hs
 · cases h
theorem zkE {a : Addr} (h : a.spot = none) : a = ⟨a.block, a.off, none⟩ := by cases a; simp at h; subst h; rfl
theorem zj8 {P : Program} {ty : Nat → Option TI} (hty : TyOk P ty) : ∀ (n t : Nat), zc7 ty n t = true → ∀ {H : Type} (enc : TypeId × Value → H) (w : World) (base : Nat) (spare : Nat → Bool) (held : Bool) (fuel : Nat) (cs : List Value) (x : DataW H × List MemPlace),
 DataW.trod enc P w base spare held fuel t cs = some x → ∃ d, Rep (fun _ => .set) w d cs ∧ WT ty t d
 | 0, t, hp => by cases hp
 | n + 1, t, hp => by
   intro enc w base spare held fuel cs x h
   unfold zc7 at hp
   split at hp
   · cases hp
   · rename_i i hi
     obtain ⟨inf, de, z, hf⟩ := hty.facts hi
     have hkk := hf.kind
     split at hp
     · rename_i k hk
       have hu : P.underlying t = some (.int k) := by
        rw [hf.und]
        cases de <;> simp [zaC, hk] at hkk ⊢
        exact hkk
       obtain ⟨m, rfl, _, hw⟩ := DataW.trod_int hu h
       exact ⟨.val (.int k m), .val rfl, .int hi hk hw⟩
     · rename_i hk
       have hu : P.underlying t = some .bool := by
        rw [hf.und]
        cases de <;> simp [zaC, hk] at hkk ⊢
       obtain ⟨m, rfl, _⟩ := DataW.trod_bool hu h
       exact ⟨.val (.bool m), .val rfl, .bool hi hk⟩
     · rename_i hk
       have hu : P.underlying t = some .string := by
        rw [hf.und]
        cases de <;> simp [zaC, hk] at hkk ⊢
       obtain ⟨m, rfl, _, hs⟩ := DataW.trod_string hu h
       exact ⟨.val (.string m), .val rfl, .str hi hk hs⟩
     · rename_i e hk
       simp only [Bool.and_eq_true] at hp
       obtain ⟨hp1, hp2⟩ := hp
       have hu : P.underlying t = some (.slice e) := by
        rw [hf.und]
        cases de <;> simp [zaC, hk] at hkk ⊢
        exact hkk.1
       cases hj : ty e with
       | none => rw [hj] at hp2; cases hp2
       | some j =>
       rw [hj] at hp2
       have hsz : 0 < j.sz := by
        have : 0 + 1 ≤ j.sz := by simpa [Nat.blt] using hp2
        omega
       obtain ⟨_, _, _, hfe⟩ := hty.facts hj
       have hce := zdK hfe
       rcases open_slice hu h with ⟨rfl, _⟩ | ⟨a, len, cap, m, n', D, Pl, rfl, _, hl, hm, hmm, _, hx⟩
       · exact ⟨.lst false [], .nil, .lst hi hk (Nat.zero_le _) (fun d hd => by cases hd)⟩
       · have hlm : len ≤ m := by rw [hmm]; split <;> omega
         have hex : ∀ k, k < len → ∃ p : Dat × List Value, Rep (fun _ => .set) w p.1 p.2 ∧ WT ty e p.1 ∧ p.2.length = j.sz ∧ ∀ i u, p.2[i]? = some u → w.cell? (a.add (k * j.sz + i)) = some u := by
          intro k hlt
          obtain ⟨cs', hc, ht'⟩ := hx k (by omega)
          obtain ⟨d, hr, hw⟩ := zj8 hty n e hp1 enc w base spare held n' cs' _ ht'
          obtain ⟨_, hcl, hat⟩ := World.cells?_some hc
          rw [hce] at hcl hat
          refine ⟨(d, cs'), hr, hw, hcl, fun i u hu => ?_⟩
          have hi2 : i < j.sz := by rw [← hcl]; exact (List.getElem?_eq_some_iff.1 hu).1
          have := hat i hi2
          rw [Go.Deep.add_add] at this
          rw [this, hu]
         cases len with
         | zero => exact ⟨.lst false [], .nil, .lst hi hk (Nat.zero_le _) (fun d hd => by cases hd)⟩
         | succ len =>
           obtain ⟨p0, q1, q2, q3, q4⟩ := hex 0 (by omega)
           haveI : Inhabited (Dat × List Value) := ⟨p0⟩
           obtain ⟨f, hfx⟩ := choose_lt hex
           have hpos : 0 < p0.2.length := by omega
           have h0 := q4 0 _ (List.getElem?_eq_getElem hpos)
           have hspot : a.spot = none := by
            have := zj5 h0
            simpa [Addr.add] using this
           have hal := zkE hspot
           have hlt := World.block_lt_of_cell? w _ h0
           have hblk : a.block < w.heap.size := by simpa [Addr.add] using hlt
           refine ⟨.lst false ((List.range (len + 1)).map fun k => (f k).1), ?_, .lst hi hk (by simp; omega) ?_⟩
           · have hlen : ((List.range (len + 1)).map fun k => (f k).1).length = len + 1 := by simp
             have hat : ∀ (k : Nat) (d : Dat), ((List.range (len + 1)).map fun k => (f k).1)[k]? = some d → k < len + 1 ∧ d = (f k).1 := fun k d hd => by
              have hk2 : k < len + 1 := by
               have := (List.getElem?_eq_some_iff.1 hd).1
               simpa using this
              rw [List.getElem?_map, List.getElem?_range hk2] at hd
              exact ⟨hk2, by simpa using hd.symm⟩
             have hres := Rep.lst (ρ := fun _ => Role.set) (W := w) (b := false) (es := (List.range (len + 1)).map fun k => (f k).1) (g := a.block) (o := a.off) (c := cap) (sz := j.sz) (fun k => (f k).2) (by rw [hlen]; exact hl) hm (.inl rfl) hblk
              (fun k d hd => (hfx k (hat k d hd).1).2.2.1) (fun k d hd i u hu => by
               have := (hfx k (hat k d hd).1).2.2.2 i u hu
               rw [hal, Addr.add_lit, ← Nat.add_assoc] at this
               exact this) (fun k d hd => by
               obtain ⟨h1, rfl⟩ := hat k d hd
               exact (hfx k h1).1)
             rw [hlen] at hres
             rw [hal]
             exact hres
           · intro d hd
             obtain ⟨k, hk1, rfl⟩ := List.mem_map.1 hd
             exact (hfx k (by simpa using hk1)).2.1
     · rename_i hk
       have ha : i.agg = true := by unfold TI.agg; rw [hk]
       simp only [Bool.and_eq_true] at hp
       obtain ⟨hsz, hall⟩ := hp
       have hsz := Nat.eq_of_beq_eq_true hsz
       obtain ⟨fs, h1, h2, h3⟩ := hf.struct ha
       obtain ⟨xs, n', _, _, hl, hlen, hg⟩ := DataW.trod_struct h1 h
       rw [zdK hf, hsz] at hl
       have hone : ∀ (j : Nat) (f : Nat × Nat), i.fs[j]? = some f → f.1 = j ∧ zc7 ty n f.2 = true ∧ ∃ k, ty f.2 = some k ∧ k.sz = 1 ∧ k.agg = false := fun j f hj => by
        have hjl := (List.getElem?_eq_some_iff.1 hj).1
        have := (List.all_eq_true.1 hall) j (List.mem_range.2 hjl)
        rw [hj] at this
        simp only [Bool.and_eq_true] at this
        obtain ⟨a1, a2, a3⟩ := this
        refine ⟨Nat.eq_of_beq_eq_true a1, a2, ?_⟩
        cases hk2 : ty f.2 with
        | none => rw [hk2] at a3; cases a3
        | some k =>
          rw [hk2] at a3
          simp only [Bool.and_eq_true, Bool.not_eq_true'] at a3
          exact ⟨k, rfl, Nat.eq_of_beq_eq_true a3.1, a3.2⟩
       have hex : ∀ k, k < cs.length → ∃ d : Dat, ∃ v f, cs[k]? = some v ∧ i.fs[k]? = some f ∧ d.cells = [d] ∧ Rep (fun _ => .set) w d [v] ∧ WT ty f.2 d := by
        intro k hkl
        obtain ⟨ff, hfk⟩ : ∃ ff, i.fs[k]? = some ff := ⟨_, List.getElem?_eq_getElem (show k < i.fs.length by omega)⟩
        have hck := List.getElem?_eq_getElem hkl
        obtain ⟨o1, o2, kk, o3, o4, o5⟩ := hone k _ hfk
        obtain ⟨_, _, _, hfk2⟩ := hty.facts o3
        have hfl : ∃ fl, fs[k]? = some fl ∧ fl.offset = k ∧ fl.type = ff.2 := by
         have h4 := hfk
         rw [← h2, List.getElem?_map] at h4
         simp only [Option.map_eq_some_iff] at h4
         obtain ⟨fl, h5, h6⟩ := h4
         refine ⟨fl, by simpa using h5, ?_, ?_⟩
         · rw [← o1, ← h6]
         · rw [← h6]
        obtain ⟨fl, h5, h6, h7⟩ := hfl
        have h8 := hg k fl h5
        have hxk : ∃ y, xs[k]? = some y := ⟨_, List.getElem?_eq_getElem (by have := (Array.getElem?_eq_some_iff.1 h5).1; omega)⟩
        obtain ⟨y, hy⟩ := hxk
        rw [hy, h6, h7, zdK hfk2, o4] at h8
        have h9 : (cs.drop k).take 1 = [cs[k]] := by
         rw [List.drop_eq_getElem_cons hkl]; rfl
        rw [h9] at h8
        obtain ⟨d, hr, hw⟩ := zj8 hty n _ o2 enc w base spare held n' _ _ h8
        refine ⟨d, cs[k], _, hck, hfk, ?_, hr, hw⟩
        cases hw with
        | agg ht' hk' _ _ =>
          rw [o3] at ht'
          cases ht'
          unfold TI.agg at o5
          rw [hk'] at o5
          cases o5
        | _ => rfl
       haveI : Inhabited Dat := ⟨.val (.bool false)⟩
       obtain ⟨f, hfx⟩ := choose_lt hex
       have hat : ∀ (k : Nat) (d : Dat), ((List.range cs.length).map f)[k]? = some d → k < cs.length ∧ d = f k := fun k d hd => by
        have hk2 : k < cs.length := by
         have := (List.getElem?_eq_some_iff.1 hd).1
         simpa using this
        rw [List.getElem?_map, List.getElem?_range hk2] at hd
        exact ⟨hk2, by simpa using hd.symm⟩
       refine ⟨.agg ((List.range cs.length).map f), .agg (by simp) (fun k d v hd hv => ?_) (fun k d v hd hv => ?_), .agg hi hk (by simp; omega) (fun k ff d hff hd => ?_)⟩
       · obtain ⟨h4, rfl⟩ := hat k d hd
         obtain ⟨v', f', e1, e2, e3, e4, e5⟩ := hfx k h4
         exact e3
       · obtain ⟨h4, rfl⟩ := hat k d hd
         obtain ⟨v', f', e1, e2, e3, e4, e5⟩ := hfx k h4
         rw [hv] at e1
         cases e1
         exact e4
       · obtain ⟨h4, rfl⟩ := hat k d hd
         obtain ⟨v', f', e1, e2, e3, e4, e5⟩ := hfx k h4
         rw [hff] at e2
         cases e2
         exact e5
     · cases hp
     · cases hp
end Go.Den
namespace Go.Den
open Go Go.RowKit Go.ChangeShapes Go.WideShapes
open Go.ChangeMaps (open_string shut_string)
set_option linter.unusedVariables false
variable {B : Nat → Option Obj}
theorem zlV {P : Program} {ty : Nat → Option TI} (hty : TyOk P ty) {n t : Nat} (hp : zc7 ty n t = true) {H : Type} {enc : TypeId × Value → H} {w : World} {base b0 : Nat} {spare : Nat → Bool} {held : Bool} {r : Reach} {v : Value} {y : DataW H} {p : List MemPlace}
 (hv : Value.okWide P w r b0 t v) (h : DataW.Trod enc P w base spare held t v y p) : ∃ d cv, Rep (fun _ => .set) w d cv ∧ IsV d cv v ∧ WT ty t d := by
 obtain ⟨fuel, hf⟩ := id h
 obtain ⟨d, hr, hw⟩ := zj8 hty n t hp enc w base spare held fuel _ _ hf
 refine ⟨d, v.cells.toList, hr, ?_, hw⟩
 cases hw with
 | int ht hk _ =>
   rename_i i k m _
   obtain ⟨_, de, _, hfa⟩ := hty.facts ht
   have hkk := hfa.kind
   have hu : P.underlying t = some (.int k) := by
    rw [hfa.und]
    cases de <;> simp [zaC, hk] at hkk ⊢
    exact hkk
   obtain ⟨a, rfl, _⟩ := open_int hu hv h
   rfl
 | bool ht hk =>
   obtain ⟨_, de, _, hfa⟩ := hty.facts ht
   have hkk := hfa.kind
   have hu : P.underlying t = some .bool := by
    rw [hfa.und]
    cases de <;> simp [zaC, hk] at hkk ⊢
   obtain ⟨a, rfl, _⟩ := open_bool hu hv h
   rfl
 | str ht hk _ =>
   obtain ⟨_, de, _, hfa⟩ := hty.facts ht
   have hkk := hfa.kind
   have hu : P.underlying t = some .string := by
    rw [hfa.und]
    cases de <;> simp [zaC, hk] at hkk ⊢
   obtain ⟨a, rfl, _⟩ := open_string hu hv h
   rfl
 | lst ht hk _ _ =>
   rename_i i e es _ _
   obtain ⟨_, de, _, hfa⟩ := hty.facts ht
   have hkk := hfa.kind
   have hu : P.underlying t = some (.slice e) := by
    rw [hfa.und]
    cases de <;> simp [zaC, hk] at hkk ⊢
    exact hkk.1
   obtain ⟨a, len, cap, rfl⟩ := okWide_slice hu hv
   rfl
 | agg ht hk _ _ =>
   rename_i i cs _ _
   obtain ⟨_, _, _, hfa⟩ := hty.facts ht
   have ha : i.agg = true := by unfold TI.agg; rw [hk]
   obtain ⟨fs, h1, _, _⟩ := hfa.struct ha
   obtain ⟨xs, rfl, _⟩ := okWide_struct h1 hv
   show Value.agg xs = .agg (Value.cells (.agg xs)).toList.toArray
   simp [Value.cells]
theorem zjm {P : Program} {C : Cfg} {f : Nat} {fn : Func} {vals : Array Value} {ds : List Dat} {W : World} {b : Bool} (hS : ∀ k, zcB P C.ty B (den C k)) (hF : FnOK P B C f fn) (hb : fn.body.isSome = true) (hl : vals.size = ds.length)
 (hd : ∀ (j : Nat) (d : Dat) (v : Value), ds[j]? = some d → vals[j]? = some v → ∃ cv, Rep (fun _ => .set) W d cv ∧ IsV d cv v) (hB : ∀ (g : Nat) (o : Obj), B g = some o → W.heap[g]? = some o) (h : ∃ k, den C k f (ds.map .dat) [] [] = some ([.dat (.val (.bool b))], [], [])) :
 Calls P f vals W fun e W' => e = .returned (.bool b) ∧ Below W.heap.size W W' := by
 obtain ⟨k, hk⟩ := h
 let c : Cx := { ty := C.ty, ρ := fun _ => .set, β := fun _ => 0, H := fun _ => undef, W := W, s := zbr (ds.map .dat) [] [] }
 have hsim : Sim c vals := by
  refine ⟨fun y => ?_, fun r cs hb => ?_, fun j r hg => ?_⟩
  · show VR c (.slot y []) ((ds.map .dat).getD y .undef) (vals.getD y undef)
    by_cases hy : y < ds.length
    · have h1 := List.getElem?_eq_getElem hy
      have h2 : vals[y]? = some (vals[y]'(by omega)) := Array.getElem?_eq_getElem (by omega)
      have e1 : (ds.map D.dat).getD y .undef = .dat ds[y] := by simp [List.getD_eq_getElem?_getD, hy]
      have e2 : vals.getD y undef = vals[y]'(by omega) := by simp [Array.getD, show y < vals.size by omega]
      rw [e1, e2]
      exact hd y _ _ h1 h2
    · have e1 : (ds.map D.dat).getD y .undef = .undef := by simp [List.getD_eq_getElem?_getD, hy]
      have e2 : vals.getD y undef = undef := by simp [Array.getD, show ¬ y < vals.size by omega]
      rw [e1, e2]
      rfl
  · cases r with
    | loc n => cases hb
    | up n =>
      have hb' : ([] : List (List D))[n]? = some cs := hb
      simp at hb'
  · have hg' : (([] : List (Option Row))[j]?).bind id = some r := hg
    simp at hg'
 have hr := hS k f _ _ _ _ _ _ hk c vals rfl (fun g o hg => ⟨trivial, hB g o hg⟩) rfl (by simpa using hl) hsim
 have hent : (callFunc f vals).run P W = .ok (.enter f vals) W := by
  have h1 : fn.name ≠ "runtime.NumGoroutine" := by simpa using hF.name
  obtain ⟨code, hbd⟩ := Option.isSome_iff_exists.1 hb
  simp [callFunc, hF.there, h1, hbd, mark]
 unfold Reaches at hr
 have hent' : (callFunc f vals).run P c.W = .ok (.enter f vals) W := hent
 rw [hent'] at hr
 refine Calls.mono hr fun e W' he => ?_
 cases e with
 | returned v =>
   obtain ⟨c', rfl, ha⟩ := he
   have ha := ha.plain rfl
   refine ⟨?_, ha.ext.os, ha.ext.tape, ha.ext.output, ha.ext.size, fun g hg => (ha.ext.keep g hg trivial).2⟩
   have hv := ha.sim.slots 0
   rw [ha.s] at hv
   have hv' : VR c' (.slot 0 []) (.dat (.val (.bool b))) v := hv
   rw [(zap hv').1]
 | _ => exact he.elim
end Go.Den
