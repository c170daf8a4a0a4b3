/- Merged out of: D31 D32 D37 D38 D39 D40 DK D41 D42 D43 Cf Shelf Fa D35 D36 (prune.py, a program of this work's). -/
import Derived.Test.YtcmcfebihbmmeaaZa4
import Derived.Sort.Grow
import Derived.Sort.Row
import Derived.Lib.SlicesCompact
import Derived.Shelf.SlicesE.Clone
import Derived.Shelf.Spec.SlicesInsert
import Derived.Shelf.Spec.SlicesInsertGrow
import Derived.Test.YtcmcfebihbmmeaaProg
import Derived.Shelf.Small.Wraps
import Derived.Shelf.Slices.Turned
import Derived.Shelf.Slices.Reverse
import Derived.Ground.Names2Prog
import Derived.Shelf.Slices.Clone
import Derived.Shelf.Slices.SearchI
import Derived.Shelf.Slices.Cells
import Derived.Shelf.Slices.Empties
import Derived.Ground.SlgnProg
import Derived.Shelf.SlicesE.Reverse
import Derived.KernelRfl
import Derived.Test.YtcmcfebihbmmeaaZa2
import Derived.Deep.Slices
import Derived.Deep.Fields
import Derived.ChangeSame
import Derived.ProofKit
import Derived.Lib.SmallJoins
import Derived.OpenShut
import Derived.ShutString
import Derived.ChangeOld
import Derived.Below
set_option linter.unusedVariables false
set_option linter.unusedSimpArgs false
set_option linter.unnecessarySimpa false
namespace Go.Den
open Go Go.RowKit
set_option linter.unusedVariables false
variable {B : Nat → Option Obj}
def Gd (c0 : Cx) (a0 : Act) : Option (List Nat) → Nat → Prop
 | none, _ => True
 | some M, g => (g < c0.W.heap.size ∧ stable (c0.ρ g)) ∨ ∃ n ∈ M, a0.tmps.getD n undef = .pointer (some ⟨g, 0, none⟩)
def RG (G : Nat → Prop) (w w' : World) : Prop := w.heap.size ≤ w'.heap.size ∧ ∀ g, g < w.heap.size → G g → w'.heap[g]? = w.heap[g]?
theorem RG.refl {G : Nat → Prop} (w : World) : RG G w w := ⟨Nat.le_refl _, fun _ _ _ => rfl⟩
theorem RG.trans {G : Nat → Prop} (a b c : World) (h : RG G a b) (k : RG G b c) : RG G a c :=
 ⟨Nat.le_trans h.1 k.1, fun g hg hG => (k.2 g (Nat.lt_of_lt_of_le hg h.1) hG).trans (h.2 g hg hG)⟩
theorem RG.of_below {G : Nat → Prop} {w w' : World} (h : Below w.heap.size w w') : RG G w w' := ⟨h.size, fun g hg _ => h.block g hg⟩
theorem zgF {a : Act} {x : Option Nat} {v : Value} {y : Nat} (h : x ≠ some y) : (a.put x v).tmps.getD y undef = a.tmps.getD y undef := by
 cases x with
 | none => rfl
 | some x =>
   have hxy : x ≠ y := fun e => h (by rw [e])
   simp [Act.put, Array.getD_eq_getD_getElem?, Array.getElem?_setIfInBounds_ne hxy]
def AllocAt (ops : Array Oper) (c0 c : Cx) (a : Act) (j g : Nat) : Prop :=
 ∃ o t n i vs T, ops[j]? = some o ∧ o.op = .alloc t ∧ o.dst = some n ∧ c.ty t = some i ∧ c0.W.heap.size ≤ g ∧ c.ρ g = .oth ∧ c.W.heap[g]? = some (.cells (List.toArray vs) T (0, 0)) ∧ a.tmps.getD n undef = .pointer (some ⟨g, 0, none⟩) ∧ ∀ c' Y, c'.ty = c.ty → zdn (Cx.nilH c' Y) Y i.zero vs
theorem AllocAt.step {ops : Array Oper} {c0 c c' : Cx} {a a' : Act} {j g : Nat} {x : Option Nat} {v : Value} (h : AllocAt ops c0 c a j g) (he : Ext c c') (ha : a'.tmps = (a.put x v).tmps) (hx : ∀ o n, ops[j]? = some o → o.dst = some n → x ≠ some n) : AllocAt ops c0 c' a' j g := by
 obtain ⟨o, t, n, i, vs, T, h1, h2, h3, h4, h5, h6, h7, h8, h9⟩ := h
 have hlt := (Array.getElem?_eq_some_iff.1 h7).1
 obtain ⟨h10, h11⟩ := he.keep g hlt (by rw [h6]; trivial)
 refine ⟨o, t, n, i, vs, T, h1, h2, h3, by rw [he.ty]; exact h4, h5, h10.trans h6, h11.trans h7, ?_, fun c' Y e => h9 c' Y (by rw [e, he.ty])⟩
 rw [ha, zgF (hx o n h1 h3)]
 exact h8
structure Inv (P : Program) (B : Nat → Option Obj) (E : Env) (ops : Array Oper) (X : Nat) (Mo : Option (List Nat)) (c0 : Cx) (a0 : Act) (first : Bool) (A : List Nat) (blk : Nat → Nat) (c : Cx) (a : Act) : Prop where
 base : Firm B c0
 fr : Fr X c a
 env : EnvOK P B E c a
 ext : Ext c0 c
 sz : a.tmps.size = a0.tmps.size
 df : a.defers = a0.defers
 mtm : ∀ M, Mo = some M → ∀ n ∈ M, a.tmps.getD n undef = a0.tmps.getD n undef
 fst : first = true → ∀ b g, Rd c.ρ b g → g < c.W.heap.size → g < c0.W.heap.size ∧ stable (c0.ρ g)
 al : ∀ j, memN j A = true → AllocAt ops c0 c a j (blk j)
 dis : ∀ j k, memN j A = true → memN k A = true → j ≠ k → blk j ≠ blk k
theorem zgs {α : Type} {E : Env} {ops : Array Oper} {c : Cx} {a : Act} {o : Oper} {k z : St → Option α} {r : α} (hs : Sim c a.tmps) (hops : ∀ o ∈ ops.toList, za9 E.nt o = true) (hsz : a.tmps.size = E.nt) (h : zbH ops c.s o.guard k z = some r) :
 (Region.wanted o (yielded ops a.tmps) = true ∧ k c.s = some r) ∨ (Region.wanted o (yielded ops a.tmps) = false ∧ z c.s = some r) := by
 unfold zbH at h
 split at h
 · rename_i hg
   exact .inl ⟨by simp [Region.wanted, hg], h⟩
 · rename_i j want hg
   split at h
   · cases h
   · rename_i n hn
     have hnlt : n < a.tmps.size := by
      cases hj : ops[j]? with
      | none => rw [hj] at hn; cases hn
      | some oj =>
        rw [hj] at hn
        rw [hsz]
        exact zaV (hops oj (by have := Array.mem_of_getElem? hj; exact Array.mem_toList_iff.2 this)) n hn
     obtain ⟨h1, h2⟩ := zg0 (ops := ops) (j := j) hs hnlt hn
     split at h
     · rename_i b hb
       have hy := h1 _ hb
       cases b with
       | true =>
         simp only at h
         rw [zc6 hb] at h
         cases want with
         | true => exact .inl ⟨by simp [Region.wanted, hg, hy], h⟩
         | false => exact .inr ⟨by simp [Region.wanted, hg, hy], h⟩
       | false =>
         simp only at h
         rw [zc6 hb] at h
         cases want with
         | true => exact .inr ⟨by simp [Region.wanted, hg, hy], h⟩
         | false => exact .inl ⟨by simp [Region.wanted, hg, hy], h⟩
     · rename_i hb
       have hy := h2 hb
       exact .inr ⟨by simp [Region.wanted, hg, hy], h⟩
     · cases h
theorem zjD {c : Cx} {a : Act} {X : Nat} {x : Option Nat} (hf : Fr X c a) (hd : ∀ n : Nat, x = some n → n < a.tmps.size) : Fr X { c with s := c.s.putO x .undef } (a.put x undef) ∧ Ext c { c with s := c.s.putO x .undef } := by
 cases x with
 | none => exact ⟨hf, Ext.refl c⟩
 | some n =>
   have hlt := hd n rfl
   have hne : X ≠ n := Nat.ne_of_gt (Nat.lt_of_lt_of_le hlt hf.ghost.out)
   have hsim := (Grown.refl c n).put hf.sim hlt (show VR c (.slot n []) .undef undef from rfl)
   exact ⟨⟨hsim, by simpa [Act.put] using hf.ghost.out, za2 hne hf.ghost.own⟩, (Ext.refl c).setS _⟩
theorem zlT {s : St} {n : Nat} (h : znf s n = true) : ∃ r, s.t n = .ptr r 0 ∧ (s.box r).isSome = true := by
 unfold znf at h
 split at h
 · rename_i r o ht
   simp only [Bool.and_eq_true] at h
   rw [beq_eq.1 h.1] at ht
   exact ⟨r, ht, h.2⟩
 · cases h
theorem zby (a : Act) (x : Option Nat) (v : Value) : (a.put x v).tmps.size = a.tmps.size := by cases x <;> simp [Act.put]
theorem za7 (a : Act) (x : Option Nat) (v : Value) : (a.put x v).defers = a.defers := by cases x <;> rfl
theorem zaH {s : St} {x : Nat} {d : D} (h : (s.t x).hasOwn = false) : s.put x d = { s with t := fun y => match Nat.beq y x with | true => d | false => s.t y } := by
 simp only [St.put, h]
 rfl
theorem zhG {s : St} {x : Nat} {d : D} : (s.put x d).box = s.box := by
 funext r
 unfold St.put
 cases h : (s.t x).hasOwn <;> cases r <;> rfl
theorem zfn {s s' : St} {o : Oper} {y : Nat} {ef : Ef} (hy : o.dst = some y) (h : s.apply o.dst ef = some s') (hj : (s.t y).hasOwn = false) {w : Nat} (hw : w ≠ y) : s'.t w = s.t w := by
 have hb : Nat.beq w y = false := beq_ne.2 hw
 rw [hy] at h
 have hput : ∀ (s : St) (d : D), (s.t y).hasOwn = false → (s.put y d).t w = s.t w := fun s d hs => by
  rw [zaH hs]
  simp only [hb]
 cases ef with
 | pure d =>
   cases h
   exact hput s d hj
 | new cs =>
   simp only [St.apply] at h
   split at h
   · cases h
     have h1 : (s.setBox (.loc y) cs).t = s.t := setBox_tl.1
     rw [hput _ _ (by rw [h1]; exact hj), h1]
   · cases h
 | made cs =>
   simp only [St.apply] at h
   split at h
   · cases h
     have h1 : (s.setBox (.loc y) cs).t = s.t := setBox_tl.1
     rw [hput _ _ (by rw [h1]; exact hj), h1]
   · cases h
theorem zkC {E : Env} {lk : Operand → D} {gp : Pl → Option Row} {bx : Ref → Option (List D)} {ty t : Nat} {zl zc : Operand} {ef : Ef} (h : evOp E lk gp bx ty (.makeSlice t zl zc) = some ef) : ∃ d, ef = .pure d := by
 simp only [evOp, Option.bind_eq_some_iff] at h
 obtain ⟨i, _, h⟩ := h
 split at h
 · simp only [Option.bind_eq_some_iff] at h
   obtain ⟨j, _, z, _, n, _, m, _, h⟩ := h
   split at h
   · split at h
     · exact ⟨_, (Option.some.inj h).symm⟩
     · cases h
   · cases h
 · cases h
theorem zg1 {E : Env} {lk lk' : Operand → D} : ∀ {zs : List Operand} {ts : List Nat}, (∀ z ∈ zs, lk z = lk' z) → zaz E lk zs ts = zaz E lk' zs ts
 | [], _, _ => rfl
 | z :: zs, ts, h => by
   unfold zaz
   rw [h z List.mem_cons_self, zg1 (fun z hz => h z (List.mem_cons_of_mem _ hz))]
theorem zhi {s : St} {x : Nat} {d : D} (hj : s.t x = .junk) {q : Pl} {r : Row} (h : s.get q = some r) : (s.put x d).get q = some r := by
 have ho : (s.t x).hasOwn = false := by rw [hj]; rfl
 rw [zaH ho]
 cases q with
 | slot y l =>
   have h : (D.at_ l (s.t y)).row? = some r := h
   have hne : y ≠ x := fun e => by
    rw [e, hj] at h
    cases l <;> cases h
   show (D.at_ l (match Nat.beq y x with | true => d | false => s.t y)).row? = some r
   rw [beq_ne.2 hne]
   exact h
 | cell r0 o => cases r0 <;> exact h
 | lent j => exact h
theorem zgz {s : St} {x y : Nat} {d e : D} (hxy : x ≠ y) (hx : (s.t x).hasOwn = false) (hy : (s.t y).hasOwn = false) : (s.put x d).put y e = (s.put y e).put x d := by
 have h1 : ((s.put x d).t y).hasOwn = false := by
  rw [zaH hx]
  show (match Nat.beq y x with | true => d | false => s.t y).hasOwn = false
  rw [beq_ne.2 (fun h => hxy h.symm)]
  exact hy
 have h2 : ((s.put y e).t x).hasOwn = false := by
  rw [zaH hy]
  show (match Nat.beq x y with | true => e | false => s.t x).hasOwn = false
  rw [beq_ne.2 hxy]
  exact hx
 rw [zaH h1, zaH h2, zaH hx, zaH hy]
 simp only [St.mk.injEq, and_true]
 funext w
 by_cases hwx : w = x
 · have hwy : w ≠ y := fun h => hxy (hwx.symm.trans h)
   simp only [beq_eq.2 hwx, beq_ne.2 hwy]
 · by_cases hwy : w = y
   · simp only [beq_ne.2 hwx, beq_eq.2 hwy]
   · simp only [beq_ne.2 hwx, beq_ne.2 hwy]
theorem zfS {s : St} {x : Nat} {d : D} {r : Ref} {cs : List D} (hx : (s.t x).hasOwn = false) : (s.put x d).setBox r cs = (s.setBox r cs).put x d := by
 have h1 : ((s.setBox r cs).t x).hasOwn = false := by rw [setBox_tl.1]; exact hx
 rw [zaH hx, zaH h1]
 cases r <;> rfl
theorem zjB {s s1 : St} {x y : Nat} {d : D} {ef : Ef} (hxy : x ≠ y) (hx : s.t x = .junk) (hy : s.t y = .junk) (h : s.apply (some y) ef = some s1) : (s.put x d).apply (some y) ef = some (s1.put x d) := by
 have hx' : (s.t x).hasOwn = false := by rw [hx]; rfl
 have hy' : (s.t y).hasOwn = false := by rw [hy]; rfl
 have hb : ∀ n, (s.put x d).b n = s.b n := fun n => by rw [zaH hx']
 have hsb : ∀ cs, ((s.put x d).setBox (.loc y) cs).put y (.ptr (.loc y) 0) = ((s.setBox (.loc y) cs).put y (.ptr (.loc y) 0)).put x d := fun cs => by
  rw [zfS hx']
  exact zgz hxy (by rw [setBox_tl.1]; exact hx') (by rw [setBox_tl.1]; exact hy')
 cases ef with
 | pure e =>
   cases h
   show some ((s.put x d).put y e) = some ((s.put y e).put x d)
   rw [zgz hxy hx' hy']
 | new cs =>
   simp only [St.apply] at h ⊢
   rw [hb]
   split at h
   · cases h
     simp only [hsb]
   · cases h
 | made cs =>
   simp only [St.apply] at h ⊢
   rw [hb]
   split at h
   · cases h
     simp only [hsb]
   · cases h
theorem zl2 {E : Env} {s : St} {o : Oper} {ty t : Nat} {z : Operand} (ho : o.op = .load t z) (h : zbW s o = true) (hne : evOp E s.look s.get s.box ty o.op ≠ none) : ∃ x, evOp E s.look s.get s.box ty o.op = some (.pure (.dat x)) := by
 obtain ⟨ef, hef⟩ := Option.ne_none_iff_exists'.1 hne
 refine Exists.imp (fun x hx => hef.trans hx) ?_
 rw [ho] at hef
 simp only [evOp, Option.bind_eq_some_iff, Option.map_eq_some_iff] at hef
 obtain ⟨i, hi, d, hd, rfl⟩ := hef
 unfold zbW at h
 rw [ho] at h
 simp only at h
 split at h
 · rename_i w q j off hz
   rw [hz] at hd
   simp only [zcX, Option.bind_eq_some_iff, Option.map_eq_some_iff] at hd
   obtain ⟨_, _, _, _, x, _, rfl⟩ := hd
   exact ⟨x, rfl⟩
 · rename_i b cs hz
   rw [hz] at hd
   simp only [zcX, Option.map_eq_some_iff] at hd
   obtain ⟨x, _, rfl⟩ := hd
   exact ⟨x, rfl⟩
 · cases h
theorem zdP {s : St} {y : Nat} {d : D} (hj : (s.t y).hasOwn = false) {z : Operand} (hz : zce y z = false) : (s.put y d).look z = s.look z := by
 cases z with
 | tmp w =>
   have hw : w ≠ y := fun e => by
    have : zce y (.tmp w) = true := beq_eq.2 e.symm
    rw [this] at hz; cases hz
   rw [zaH hj]
   show D.alias _ (match Nat.beq w y with | true => d | false => s.t w) = _
   rw [beq_ne.2 hw]
   rfl
 | _ => rfl
def zmW : Ref → D → Bool
 | .loc _ => za8
 | .up _ => zcQ
theorem zj4 (E : Env) (s : St) (ts : Nat) (r : Ref) (off : Nat) (w : Value) : zco E s ts (.ptr r off) (.dat (.val w)) = (E.ty ts).bind fun i => match Nat.beq 1 i.sz && ([D.dat (.val w)]).all (zmW r) with
 | false => none
 | true => (s.box r).bind fun cs => match isM cs with
   | true => none
   | false => if off + 1 ≤ cs.length then some ((s.killed (Kill.cells r off 1)).setBox r (cs.take off ++ [D.dat (.val w)] ++ cs.drop (off + 1))) else none := by
 cases r <;> rfl
theorem zhg {s : St} {y : Nat} {d : D} (hj : (s.t y).hasOwn = false) : (s.put y d).b = s.b ∧ (s.put y d).u = s.u ∧ (s.put y d).l = s.l ∧ ∀ x, (s.put y d).t x = if x = y then d else s.t x := by
 rw [zaH hj]
 refine ⟨rfl, rfl, rfl, fun x => ?_⟩
 show (match Nat.beq x y with | true => d | false => s.t x) = _
 by_cases h : x = y
 · rw [if_pos h, beq_eq.2 h]
 · rw [if_neg h, beq_ne.2 h]
theorem zmA {s s' : St} (h : s.b = s'.b) : ∀ n, s.keys n = s'.keys n
 | 0 => rfl
 | n + 1 => by unfold St.keys; rw [h, zmA h n]
theorem zlu {s s' : St} (h : s.b = s'.b) : ∀ (k : Nat) (l : List Nat), zlt s k l = zlt s' k l
 | 0, l => rfl
 | k + 1, l => by unfold zlt; rw [h, zlu h k]
theorem znO {s s' : St} (h : s.b = s'.b) (nt : Nat) (cap : List Ref) (args : List D) : s.sent nt cap args = s'.sent nt cap args := by
 unfold St.sent
 rw [zmA h, zlu h]
theorem zkw {s s' : St} (h : s.b = s'.b) (hu : s.u = s'.u) (keys : List Nat) (cap : List Ref) (args : List D) : s.upsSent keys cap args = s'.upsSent keys cap args := by
 unfold St.upsSent
 rw [h, hu]
theorem ziA {s : St} {y : Nat} {d : D} (hy : s.t y = .junk) (hd : zc1 d = true) : (s.put y d).get = s.get := by
 have hj : (s.t y).hasOwn = false := by rw [hy]; rfl
 obtain ⟨hb, hu, hl, ht⟩ := zhg (d := d) hj
 have hbox : (s.put y d).box = s.box := by
  funext r
  cases r with
  | loc n => show (s.put y d).b n = s.b n; rw [hb]
  | up n => show (s.put y d).u[n]? = s.u[n]?; rw [hu]
 funext p
 cases p with
 | slot x q =>
   show (((s.put y d).t x).at_ q).row? = ((s.t x).at_ q).row?
   rw [ht]
   split
   · rename_i e
     subst e
     rw [hy]
     cases d with
     | bor p n => cases q <;> rfl
     | _ => cases hd
   · rfl
 | cell r o => simp only [St.get, hbox]
 | lent j => simp only [St.get, hl]
theorem zhX {E : Env} {s : St} {y : Nat} {d : D} (hj : (s.t y).hasOwn = false) : ∀ (l : List Operand) (ts : List Nat), (∀ z ∈ l, zce y z = false) → zaz E (s.put y d).look l ts = zaz E s.look l ts
 | [], ts, _ => rfl
 | z :: l, ts, h => by
   unfold zaz
   rw [zdP hj (h z (by simp)), zhX hj l ts.tail fun z hz => h z (by simp [hz])]
theorem zd2 {s : St} : ∀ (ms : List Nat) (ds : List D), zbj ms = true → zaq ms ds s = some (ds, s)
 | _, [], _ => by unfold zaq; rfl
 | [], d :: ds, h => by unfold zaq; simp [zd2 [] ds rfl]
 | m :: ms, d :: ds, h => by
   unfold zbj at h
   simp only [Bool.and_eq_true] at h
   have hm : m = 0 := beq_eq.1 h.1
   subst hm
   unfold zaq
   simp [zd2 ms ds h.2]
theorem ze5 {gp : Pl → Option Row} : ∀ (ms : List Nat) (ds : List D), zbj ms = true → zaE gp ms ds = some []
 | _, [], _ => by unfold zaE; rfl
 | [], d :: ds, h => by unfold zaE; simp [ze5 [] ds rfl]
 | m :: ms, d :: ds, h => by
   unfold zbj at h
   simp only [Bool.and_eq_true] at h
   have hm : m = 0 := beq_eq.1 h.1
   subst hm
   unfold zaE
   simp [ze5 ms ds h.2]
theorem zhY {gp : Pl → Option Row} : ∀ {ds : List D}, ds.any zlR = true → zeE gp ds = none
 | [], h => by cases h
 | d :: ds, h => by
   unfold zeE
   simp only [List.any_cons, Bool.or_eq_true] at h
   rcases h with h | h
   · cases d with
     | ptr r o => rfl
     | _ => cases h
   · rw [zhY h]
     cases zjx gp d <;> rfl
theorem zhL : ∀ {ds : List D}, ds.any zlR = true → ds.all zgU = false
 | [], h => by cases h
 | d :: ds, h => by
   simp only [List.any_cons, Bool.or_eq_true] at h
   simp only [List.all_cons, Bool.and_eq_false_iff]
   rcases h with h | h
   · cases d with
     | ptr r o => exact .inl rfl
     | _ => cases h
   · exact .inr (zhL h)
theorem zg9 {E : Env} {s : St} {oj : Oper} {ca : Call} {z : Operand} {f x : Nat} {cap : List Ref} (ho : oj.op = .call ca) (hc : ca.callee = .value z) (hz : s.look z = .fn f cap) (hdst : oj.dst = some x) (hm : zbj (E.mode f) = true) (hk : s.sent E.nt cap (zaz E s.look ca.args.toList ca.argTypes.toList) = []) (hp : (zaz E s.look ca.args.toList ca.argTypes.toList).any zlR = true) :
 step E s oj = (zau (hide [] true s.get) (s.upsSent [] cap (zaz E s.look ca.args.toList ca.argTypes.toList)) [] (E.mode f) 0 (zaz E s.look ca.args.toList ca.argTypes.toList)).bind fun v =>
  (zbK (s.upsSent [] cap (zaz E s.look ca.args.toList ca.argTypes.toList)) [] cap).bind fun caps =>
  (zcf (s.upsSent [] cap (zaz E s.look ca.args.toList ca.argTypes.toList)) [] (s.u.take (s.upsSent [] cap (zaz E s.look ca.args.toList ca.argTypes.toList)) ++ [])).bind fun us =>
  (E.call f (v.1 ++ caps.map fun r => .ptr r 0) us []).bind fun q =>
  match (v.2 && !(D.cleans q.1 && (za0 q.2.2 && zbf q.2.1))) || !D.plains q.1 with
  | true => none
  | false => some ((s.regain (s.upsSent [] cap (zaz E s.look ca.args.toList ca.argTypes.toList)) [] q.2.1).put x (retD q.1)) := by
 have hev : evOp E s.look s.get s.box oj.type oj.op = none := by
  rw [ho]
  simp only [evOp, hc, hz]
  cases cap with
  | nil =>
    simp only [zde, hm, zhY hp, Option.bind_none]
  | cons r l => rfl
 unfold step
 rw [hev, ho]
 simp only [doOp, hc, hz, zfQ, zd2 _ _ hm, ze5 _ _ hm, Option.bind_some, zaP, zhL hp, Bool.and_false, List.all_nil, hk, zed, List.map_nil, hdst]
 rfl
theorem zjY {s : St} {y m : Nat} {d : D} {u : List (List D)} (hy : s.t y = .junk) (hd : zc1 d = true) : (s.put y d).regain m [] u = (s.regain m [] u).put y d := by
 have hj : (s.t y).hasOwn = false := by rw [hy]; rfl
 have hj2 : ((s.regain m [] u).t y).hasOwn = false := by
  show ((s.t y).kill _).hasOwn = false
  rw [hy]; rfl
 obtain ⟨hb, hu, hl, ht⟩ := zhg (d := d) hj
 obtain ⟨hb2, hu2, hl2, ht2⟩ := zhg (d := d) hj2
 have hdk : d.kill (Kill.sent m []) = d := by
  unfold zc1 at hd
  split at hd
  · rfl
  · cases hd
 have e : ∀ a b : St, a.t = b.t → a.b = b.b → a.u = b.u → a.l = b.l → a = b := fun a b h1 h2 h3 h4 => by
  cases a; cases b; simp only at h1 h2 h3 h4; subst h1 h2 h3 h4; rfl
 refine e _ _ ?_ ?_ ?_ ?_
 · funext x
   rw [ht2]
   show ((s.put y d).t x).kill _ = if x = y then d else (s.t x).kill _
   rw [ht]
   split
   · exact hdk
   · rfl
 · rw [hb2]
   funext n
   exact congrFun hb n
 · rw [hu2]
   show _ ++ (s.put y d).u.drop m = _ ++ s.u.drop m
   rw [hu]
 · rw [hl2]
   exact hl
theorem zlg {E : Env} {s s2 : St} {x y : Nat} {d : D} {oj : Oper} {ca : Call} (hy : s.t y = .junk) (hx : s.t x = .junk) (hd : zc1 d = true) (ho : oj.op = .call ca) (hdst : oj.dst = some x) (hxy : x ≠ y) (hcal : (match ca.callee with | .value (.func _) => true | _ => false) = true) (hok : zc4 E (s.put y d) oj = true) (hna : ∀ z ∈ ca.args.toList, zce y z = false) (h : step E (s.put y d) oj = some s2) :
 ∃ t1, step E s oj = some t1 ∧ s2 = t1.put y d ∧ ∀ {ty t : Nat} {z : Operand}, zce x z = false → (∃ n off, s.look z = .ptr (.loc n) off) → evOp E s.look s.get s.box ty (.load t z) = some (.pure d) → evOp E t1.look t1.get t1.box ty (.load t z) = some (.pure d) := by
 have hjy : (s.t y).hasOwn = false := by rw [hy]; rfl
 have hjx : (s.t x).hasOwn = false := by rw [hx]; rfl
 obtain ⟨hb, hu, hl, ht⟩ := zhg (d := d) hjy
 unfold zc4 at hok
 rw [ho] at hok
 simp only at hok
 split at hok
 · rename_i z hc
   have hnz : zce y z = false := by
    rw [hc] at hcal
    split at hcal
    · rename_i heq
      cases heq
      rfl
    · cases hcal
   split at hok
   · rename_i f cap hz
     simp only [Bool.and_eq_true, List.isEmpty_iff] at hok
     obtain ⟨hm, hk, hp⟩ := hok
     rw [zg9 ho hc hz hdst hm hk hp] at h
     have hz' : s.look z = .fn f cap := by rw [← zdP hjy hnz]; exact hz
     rw [zhX hjy _ _ hna] at h hk hp
     rw [znO hb] at hk
     rw [ziA hy hd, zkw hb hu, hu] at h
     rw [zg9 ho hc hz' hdst hm hk hp]
     generalize s.upsSent [] cap (zaz E s.look ca.args.toList ca.argTypes.toList) = m at *
     simp only [Option.bind_eq_some_iff] at h
     obtain ⟨v, hv, caps, hcaps, us, hus, q, hq, h⟩ := h
     split at h
     · cases h
     rename_i hcond
     cases h
     have hjx2 : ((s.regain m [] q.2.1).t x).hasOwn = false := by
      show ((s.t x).kill _).hasOwn = false
      rw [hx]; rfl
     have hjy2 : ((s.regain m [] q.2.1).t y).hasOwn = false := by
      show ((s.t y).kill _).hasOwn = false
      rw [hy]; rfl
     refine ⟨(s.regain m [] q.2.1).put x (retD q.1), ?_, ?_, fun {ty t z2} hz2 hloc hl2 => ?_⟩
     · simp only [hv, hcaps, hus, hq, Option.bind_some, hcond]
     · rw [zjY hy hd, zgz (fun e => hxy e.symm) hjy2 hjx2]
     · simp only [evOp, Option.bind_eq_some_iff, Option.map_eq_some_iff] at hl2 ⊢
       obtain ⟨i, hi, d0, hd0, hpd⟩ := hl2
       cases hpd
       refine ⟨i, hi, d, ?_, rfl⟩
       obtain ⟨n, off, hlk⟩ := hloc
       have hlk1 : ((s.regain m [] q.2.1).put x (retD q.1)).look z2 = .ptr (.loc n) off := by
        rw [zdP hjx2 hz2]
        cases z2 with
        | tmp w =>
          have h1 : (s.t w).alias (.slot w []) = .ptr (.loc n) off := hlk
          show ((s.t w).kill _).alias (.slot w []) = _
          have h2 : s.t w = .ptr (.loc n) off := by
           cases h3 : s.t w <;> rw [h3] at h1 <;> first | exact h1 | cases h1
          rw [h2]
          rfl
        | _ => exact hlk
       rw [hlk] at hd0
       rw [hlk1]
       have hbx : ((s.regain m [] q.2.1).put x (retD q.1)).box (.loc n) = s.box (.loc n) := by
        show ((s.regain m [] q.2.1).put x (retD q.1)).b n = s.b n
        rw [(zhg hjx2).1]
        rfl
       unfold zcX at hd0 ⊢
       simp only at hd0 ⊢
       rw [hbx]
       exact hd0
   · cases hok
 · cases hok
theorem zjT {E : Env} {s s2 : St} {y : Nat} {x : Dat} {oj : Oper} {ts : Nat} {ad vl : Operand} (hj : s.t y = .junk) (ho : oj.op = .store ts ad vl) (hok : zbO (s.put y (.dat x)) oj = true) (hna : zce y ad = false) (hnv : zce y vl = false) (h : step E (s.put y (.dat x)) oj = some s2) :
 ∃ t1, step E s oj = some t1 ∧ s2 = t1.put y (.dat x) ∧ ∀ {o : Oper} {ty t : Nat} {z : Operand} {ef : Ef}, zbW s o = true → o.op = .load t z → evOp E s.look s.get s.box ty (.load t z) = some ef → evOp E t1.look t1.get t1.box ty (.load t z) = some ef := by
 have hj' : (s.t y).hasOwn = false := by rw [hj]; rfl
 unfold zbO at hok
 rw [ho] at hok
 simp only at hok
 split at hok
 · rename_i r off w ha hv
   have hla : s.look ad = .ptr r off := by rw [← zdP hj' hna]; exact ha
   have hlv : s.look vl = .dat (.val w) := by rw [← zdP hj' hnv]; exact hv
   have hnil : ze4 vl = false := by
    unfold ze4
    split
    · have h0 : (St.put y (.dat x) s).look (.const (.slice none 0 0)) = .dat (.lst false []) := rfl
      rw [h0] at hv
      cases hv
    · rfl
   have hstep : ∀ s : St, s.look ad = .ptr r off → s.look vl = .dat (.val w) → step E s oj = zco E s ts (.ptr r off) (.dat (.val w)) := fun s h1 h2 => by
    unfold step
    rw [ho]
    simp only [evOp, doOp, hnil, h1, h2]
   rw [hstep _ ha hv] at h
   have hdo := fun s : St => zj4 E s ts r off w
   rw [hdo] at h
   simp only [Option.bind_eq_some_iff] at h
   obtain ⟨i, hi, h⟩ := h
   split at h
   · cases h
   · rename_i hcond
     simp only [Option.bind_eq_some_iff] at h
     obtain ⟨cs, hcs, h⟩ := h
     split at h
     · cases h
     · rename_i hm
       split at h
       · rename_i hle
         cases h
         rw [zhG] at hcs
         refine ⟨(s.killed (Kill.cells r off 1)).setBox r (cs.take off ++ [D.dat (.val w)] ++ cs.drop (off + 1)), ?_, ?_, ?_⟩
         · rw [hstep _ hla hlv, hdo]
           simp only [hi, Option.bind_some, hcond, hcs, hm, hle, if_true]
         · have h1 : ((s.killed (Kill.cells r off 1)).t y).hasOwn = false := by
            show ((s.t y).kill _).hasOwn = false
            rw [zaD]; exact hj'
           rw [← zfS h1]
           congr 1
           rw [zaH h1, zaH hj']
           simp only [St.killed, St.mk.injEq, and_true]
           funext q
           cases hb : Nat.beq q y <;> simp only [D.kill]
         · intro o ty t z ef hrl hol hev
           unfold zbW at hrl
           rw [hol] at hrl
           simp only at hrl
           have hlook : ∀ d, s.look z = d → (∃ w q j off, d = .bp (.slot w q) j off) ∨ (∃ b cs, d = .ep b cs) → ((s.killed (Kill.cells r off 1)).setBox r (cs.take off ++ [D.dat (.val w)] ++ cs.drop (off + 1))).look z = d := by
            intro d hd hor
            cases z with
            | tmp q =>
              show D.alias _ (((s.killed (Kill.cells r off 1)).setBox r _).t q) = d
              rw [setBox_tl.1]
              show D.alias _ ((s.t q).kill _) = d
              have hd' : D.alias (.slot q []) (s.t q) = d := hd
              cases hq : s.t q with
              | bp p j o2 =>
                rw [hq] at hd'
                have e : D.bp p j o2 = d := hd'
                subst e
                rcases hor with ⟨w2, q2, j2, off2, e⟩ | ⟨b, cs2, e⟩
                · cases e; rfl
                · cases e
              | ep b cs2 =>
                rw [hq] at hd'
                exact hd'
              | _ =>
                rw [hq] at hd'
                simp only [D.alias] at hd'
                subst hd'
                rcases hor with ⟨_, _, _, _, e⟩ | ⟨_, _, e⟩ <;> cases e
            | _ => exact hd
           simp only [evOp, Option.bind_eq_some_iff, Option.map_eq_some_iff] at hev ⊢
           obtain ⟨i2, hi2, d, hd, rfl⟩ := hev
           refine ⟨i2, hi2, d, ?_, rfl⟩
           split at hrl
           · rename_i w2 q2 j2 off2 hz
             rw [hlook _ hz (.inl ⟨_, _, _, _, rfl⟩)]
             rw [hz] at hd
             simp only [zcX] at hd ⊢
             have hget : ((s.killed (Kill.cells r off 1)).setBox r (cs.take off ++ [D.dat (.val w)] ++ cs.drop (off + 1))).get (.slot w2 q2) = s.get (.slot w2 q2) := by
              show (D.at_ q2 (((s.killed (Kill.cells r off 1)).setBox r _).t w2)).row? = (D.at_ q2 (s.t w2)).row?
              rw [setBox_tl.1]
              exact za3 q2 _
             rw [hget]
             exact hd
           · rename_i b2 cs2 hz
             rw [hlook _ hz (.inr ⟨_, _, rfl⟩)]
             rw [hz] at hd
             exact hd
           · cases hrl
       · cases h
 · cases hok
section
variable {P : Program} {E : Env} {ops : Array Oper} {X : Nat} {Mo : Option (List Nat)} {c0 : Cx} {a0 : Act}
theorem Inv.step {first first' : Bool} {A : List Nat} {blk : Nat → Nat} {c c' : Cx} {a a' : Act} {i : Nat} {o : Oper} {v : Value} (h : Inv P B E ops X Mo c0 a0 first A blk c a) (hdst : ziY ops = true) (hM : ∀ M, Mo = some M → ∀ o ∈ ops.toList, ∀ n ∈ M, o.dst ≠ some n)
 (hi : ops[i]? = some o) (hA : memN i A = false) (hf : Fr X c' a') (he : Ext c c') (hsz : a'.tmps.size = a.tmps.size) (hdf : a'.defers = a.defers) (ht : a'.tmps = (a.put o.dst v).tmps)
 (hfst : first' = true → ∀ b g, Rd c'.ρ b g → g < c'.W.heap.size → g < c0.W.heap.size ∧ stable (c0.ρ g)) : Inv P B E ops X Mo c0 a0 first' A blk c' a' := by
 refine ⟨h.base, hf, h.env.next he hsz, h.ext.trans he, hsz.trans h.sz, hdf.trans h.df, fun M hMo n hn => ?_, hfst, fun j hj => (h.al j hj).step he ht fun oj n hoj hn => ?_, h.dis⟩
 · rw [ht, zgF (hM M hMo o (Array.mem_toList_iff.2 (Array.mem_of_getElem? hi)) n hn)]
   exact h.mtm M hMo n hn
 · intro e
   have hne : j ≠ i := fun e => by rw [e, hA] at hj; cases hj
   exact zhK hdst hoj hi hne hn e
theorem zjg {c c' : Cx} (h : ∀ b g, Rd c.ρ b g → g < c.W.heap.size → g < c0.W.heap.size ∧ stable (c0.ρ g)) (hW : c'.W = c.W) (hρ : ∀ g, g < c.W.heap.size → c'.ρ g = c.ρ g) : ∀ b g, Rd c'.ρ b g → g < c'.W.heap.size → g < c0.W.heap.size ∧ stable (c0.ρ g) := fun b g hr hg => by
 rw [hW] at hg
 refine h b g ?_ hg
 unfold Rd at *
 rw [hρ g hg] at hr
 exact hr
theorem zjR {fl : Nat → Bool} {Q0 : Exit → Act → World → Prop} {s' : St} (hty : TyOk P c0.ty) (hops : ∀ o ∈ ops.toList, za9 E.nt o = true) (hsel : Region.noSelect ops = true) (hdst : ziY ops = true) (hM : ∀ M, Mo = some M → ∀ o ∈ ops.toList, ∀ n ∈ M, o.dst ≠ some n)
 (hQ0 : ∀ ch a w, ¬ Q0 (.panic ch) a w) (hEnd : EndsIn P X c0 a0 s' (Q0 .normal)) : ∀ (rows : List PRow) (fuel : Nat) (first : Bool) (L listed : Array Bool) (A : List Nat) (blk : Nat → Nat) (c : Cx) (a : Act), zch E.ty ops fl L rows = true → Sup L listed A → (∀ j, memN j A = true → j ∈ zak rows) →
  zcM A rows ≤ fuel → Inv P B E ops X Mo c0 a0 first A blk c a → zaA E ops Mo first rows c.s = some s' → zb3 P .any ops Q0 (RG (Gd c0 a0 Mo)) fl fuel listed a c.W := by
 have hQ : ∀ (x : Option Nat) (v : Value) ch (a : Act) w, Q0 (.panic ch) (a.put x v) w → Q0 (.panic ch) a w := fun x v ch a w h => (hQ0 _ _ _ h).elim
 intro rows
 induction hn : rows.length using Nat.strongRecOn generalizing rows with
 | ind nn ihn =>
 cases rows with
 | nil =>
   intro fuel first L listed A blk c a hgo hsup hA hst hinv h
   cases h
   have hre : Region.ready .any ops listed = [] := by
    rw [List.eq_nil_iff_forall_not_mem]
    intro j hj
    rcases zct (B := []) hsup (fun k hk => by cases hA k hk) hj with h | h
    · cases h
    · have : (Region.ready .any ops L).isEmpty = true := hgo
      rw [List.isEmpty_iff] at this
      have h : j ∈ Region.ready .any ops L := h
      rw [this] at h
      cases h
   have hq : Q0 .normal a c.W := hEnd a c rfl hinv.fr hinv.ext hinv.sz hinv.df
   cases fuel with
   | zero => exact ⟨hre, hq⟩
   | succ fuel => exact ⟨fun _ => hq, fun i hi => by rw [hre] at hi; cases hi⟩
 | cons r l =>
   have ihl := ihn l.length (by rw [← hn]; simp) l rfl
   have ihl2 := fun (r' : PRow) (l' : List PRow) (e : l = r' :: l') => ihn l'.length (by rw [← hn, e]; simp; omega) l' rfl
   have ihl3 := fun (r' : PRow) (l' : List PRow) (e : l = r' :: l') (r : PRow) => ihn (r :: l').length (by rw [← hn, e]; simp) (r :: l') rfl
   clear ihn hn
   obtain ⟨i, k, ds⟩ := r
   have hadopt : ∀ (fuel : Nat) (first : Bool) (L listed : Array Bool) (A : List Nat) (blk : Nat → Nat) (c : Cx) (a : Act), zch E.ty ops fl L ((i, k, ds) :: l) = true → Sup L listed A → (∀ j, memN j A = true → j ∈ zak ((i, k, ds) :: l)) →
    zcM A ((i, k, ds) :: l) ≤ fuel → Inv P B E ops X Mo c0 a0 first A blk c a → zaA E ops Mo first ((i, k, ds) :: l) c.s = some s' → memN i A = true → zb3 P .any ops Q0 (RG (Gd c0 a0 Mo)) fl fuel listed a c.W := by
    intro fuel first L listed A blk c a hgo hsup hA hst hinv h hiA
    simp only [zch, Bool.and_eq_true, Bool.not_eq_true'] at hgo
    obtain ⟨⟨hre, hni, hal⟩, hrow, hgo⟩ := hgo
    have hmem := hA i hiA
    have hnl : i ∉ zak l := fun h => by
     obtain ⟨r, hr, e⟩ := zb6 h
     have := (List.any_eq_false.1 hni) r hr
     exact this (beq_eq.2 e)
    have hk3 : k = 3 := by
     unfold zak at hmem
     split at hmem
     · rename_i hb; exact beq_eq.1 hb
     · exact (hnl hmem).elim
    subst hk3
    obtain ⟨o, t, n, i0, vs, T, h1, h2, h3, h4, h5, h6, h7, h8, h9⟩ := hinv.al i hiA
    obtain ⟨o', t', n', i0', h1', h2', h3', hg', hn', _⟩ := zgd ((List.all_eq_true.1 hal) i hmem)
    rw [h1] at h1'
    cases h1'
    simp only [zaA, h1, hg', zbH] at h
    split at h
    · cases h
    rename_i hjunk
    simp only [Option.bind_eq_some_iff, zaw, zaQ] at h
    obtain ⟨s1, hs1, h⟩ := h
    unfold zeZ at hs1
    rw [h2, h3] at hs1
    simp only [Option.bind_eq_some_iff] at hs1
    obtain ⟨i1, hi1, hs1⟩ := hs1
    rw [hinv.env.ty, h4] at hi1
    cases hi1
    split at hs1
    · rename_i hb
      cases hs1
      have hlt : n < a.tmps.size := by
       rw [hinv.env.nt]
       exact zaV (hops o (Array.mem_toList_iff.2 (Array.mem_of_getElem? h1))) n h3
      obtain ⟨hl, hv⟩ := h9 c X rfl
      obtain ⟨c1, a1, a2, a3, a4, a5, a6⟩ := zh8 (c := c.nilH X) (X := X) (tm := a.tmps) (n := n) (g := blk i) (cs := i0.zero) (vs := vs) (T := T) (zgC hinv.fr.sim hinv.fr.ghost) hinv.fr.ghost.nilH hlt hb (by obtain ⟨_, _, _, hf0⟩ := hinv.env.tys.facts h4; exact zmJ hf0.zs) hl hv h6 h7 h8
      have hext : Ext c0 c1 := a4 c0 (hinv.ext.trans (zgE c X)) h5
      have hty1 : c1.ty = c.ty := by rw [hext.ty, hinv.ext.ty]
      have hW1 : c1.W = c.W := a1
      rw [← hW1]
      refine ihl fuel first (L.setIfInBounds i true) listed (A.filter fun j => !Nat.beq j i) blk c1 a hgo (hsup.adopt hiA) (fun j hj => ?_) ?_ ⟨hinv.base, ⟨a3, hinv.fr.ghost.out, ?_⟩, ⟨by rw [hty1]; exact hinv.env.ty, by rw [hty1]; exact hinv.env.tys, hinv.base.ext hext, by rw [hty1]; exact hinv.env.call, hinv.env.nt⟩, hext, hinv.sz, hinv.df, hinv.mtm, fun hf b g hr hg => ?_, fun j hj => ?_, fun j k hj hk hne => ?_⟩ ?_
      · have hjA := (List.mem_filter.1 (memN_iff.1 hj))
        have hm := hA j (memN_iff.2 hjA.1)
        have hm' : j ∈ i :: zak l := hm
        rcases List.mem_cons.1 hm' with e | hm'
        · subst e
          have := hjA.2
          rw [show Nat.beq j j = true from beq_eq.2 rfl] at this
          cases this
        · exact hm'
      · have := zaO (A := A) (i := i) (k := 3) (ds := ds) (l := l)
        rw [hiA] at this
        have h10 := zib (A := A) hni
        simp only at this
        omega
      · rw [a2]
        have hne : X ≠ n := Nat.ne_of_gt (Nat.lt_of_lt_of_le hlt hinv.fr.ghost.out)
        refine za2 hne ?_
        rw [setBox_tl.1]
        exact hinv.fr.ghost.own
      · rw [hW1] at hg
        exact hinv.fst hf b g (a6 b g hr) hg
      · have hjA := (List.mem_filter.1 (memN_iff.1 hj))
        have hji : j ≠ i := fun e => by
         have := hjA.2
         rw [e, show Nat.beq i i = true from beq_eq.2 rfl] at this
         cases this
        have hjA' := memN_iff.2 hjA.1
        obtain ⟨oj, t', n', i', vs', T', b1, b2, b3, b4, b5, b6, b7, b8, b9⟩ := hinv.al j hjA'
        refine ⟨oj, t', n', i', vs', T', b1, b2, b3, by rw [hty1]; exact b4, b5, ?_, by rw [hW1]; exact b7, b8, fun c' Y e => b9 c' Y (by rw [e, hty1])⟩
        exact (a5 (blk j) (hinv.dis j i hjA' hiA hji) (by show stable (c.ρ (blk j)); rw [b6]; trivial)).trans b6
      · exact hinv.dis j k (memN_iff.2 (List.mem_filter.1 (memN_iff.1 hj)).1) (memN_iff.2 (List.mem_filter.1 (memN_iff.1 hk)).1) hne
      · rw [a2]
        have h : zaA E ops Mo (first && zbE 3) l ((c.s.setBox (.loc n) i0.zero).put n (.ptr (.loc n) 0)) = some s' := h
        rw [show (first && zbE 3) = first from Bool.and_true first] at h
        exact h
    · cases hs1
   intro fuel
   induction fuel with
   | zero =>
     intro first L listed A blk c a hgo hsup hA hst hinv h
     cases hiA : memN i A with
     | true => exact hadopt _ first L listed A blk c a hgo hsup hA hst hinv h hiA
     | false =>
       rw [zaO, hiA] at hst
       simp only at hst
       omega
   | succ fuel ihf =>
     intro first L listed A blk c a hgo hsup hA hst hinv h
     cases hiA : memN i A with
     | true => exact hadopt _ first L listed A blk c a hgo hsup hA hst hinv h hiA
     | false =>
     have hgo0 := hgo
     have h0 := h
     simp only [zch, Bool.and_eq_true, Bool.not_eq_true'] at hgo
     obtain ⟨⟨hre, hni, hal⟩, hrow, hgo⟩ := hgo
     have hreadyL : i ∈ Region.ready .any ops L := by simpa using hre
     have hready := zlP hsup hreadyL hiA
     have hst' : zcM A l ≤ fuel := by
      rw [zaO, hiA] at hst
      simp only at hst
      omega
     unfold zaA at h
     split at h
     · cases h
     rename_i hjunk
     split at h
     · cases h
     rename_i o hi
     have hk := hops o (Array.mem_toList_iff.2 (Array.mem_of_getElem? hi))
     have hd : ∀ n : Nat, o.dst = some n → n < a.tmps.size := by rw [hinv.env.nt]; exact zaV hk
     have hg := zgs (E := E) hinv.fr.sim hops hinv.env.nt h
     have hAl : ∀ j, memN j A = true → j ∈ zak l := fun j hj => by
      have hm := hA j hj
      unfold zak at hm
      split at hm
      · rcases List.mem_cons.1 hm with e | hm
        · rw [e, hiA] at hj; cases hj
        · exact hm
      · exact hm
     -- alone
     have halone : zbV ops L i l = true → (k = 3 ∨ ∀ K, (K = fun a' w' => (fl i = true → RG (Gd c0 a0 Mo) c.W w') ∧ zb3 P .any ops Q0 (RG (Gd c0 a0 Mo)) fl fuel (listed.setIfInBounds i true) a' w') → wpOp P ops Q0 i K a c.W) → zb3 P .any ops Q0 (RG (Gd c0 a0 Mo)) fl (fuel + 1) listed a c.W := by
      intro hal1 hself
      refine ⟨fun e => (by rw [e] at hready; cases hready), fun j hj => ?_⟩
      have hjA : memN j A = false := (hsup.un (mem_ready.1 hj).1).2
      have hearly : j ∈ zak ((i, k, ds) :: l) → wpOp P ops Q0 j (fun a' w' => (fl j = true → RG (Gd c0 a0 Mo) c.W w') ∧ zb3 P .any ops Q0 (RG (Gd c0 a0 Mo)) fl fuel (listed.setIfInBounds j true) a' w') a c.W := by
       intro hjm
       obtain ⟨oj, t, n, i0, b1, b2, b3, b4, b5, b6⟩ := zgd ((List.all_eq_true.1 hal) j hjm)
       have hjn : c.s.t n = .junk := zbq hjunk n b5
       have hlt : n < a.tmps.size := by
        rw [hinv.env.nt]
        exact zaV (hops oj (Array.mem_toList_iff.2 (Array.mem_of_getElem? b1))) n b3
       rw [hinv.env.ty] at b6
       obtain ⟨inf, _, z, hfz⟩ := hinv.env.tys.facts b6
       have hrun : (execOp a.eval oj).run P c.W = .ok (.value (.pointer (some ⟨c.W.heap.size, 0, none⟩))) (c.W.alloc (.cells (List.toArray z.cells.toList) t (0, 0))) := by
        simp [execOp, b2, Instr.alloc, zeroValue, typeInfo, hfz.info, hfz.zero, newVar, newRow]
       obtain ⟨c', e1, e2, e3, e4, e5, e6⟩ := zid (n := n) (ob := .cells (List.toArray z.cells.toList) t (0, 0)) (v := .pointer (some ⟨c.W.heap.size, 0, none⟩)) hinv.fr hlt hjn
       have hbel : Below c.W.heap.size c.W c'.W := by
        rw [e2]
        exact ⟨rfl, rfl, rfl, by show c.W.heap.size ≤ (c.W.alloc _).heap.size; simp, fun k hk => Below.heap_alloc c.W _ k hk⟩
       unfold wpOp
       rw [b1]
       have hw : Region.wanted oj (yielded ops a.tmps) = true := by simp [Region.wanted, b4]
       simp only [hw, if_true]
       refine .inl ?_
       unfold Oper.wp
       rw [hrun]
       show _ ∧ _
       rw [b3, ← e2]
       refine ⟨fun _ => RG.of_below hbel, ?_⟩
       have hlj : listed.getD j true = false := (mem_ready.1 hj).1
       refine ihf first L _ (j :: A) (fun m => if m = j then c.W.heap.size else blk m) c' _ hgo0 (hsup.early j) (fun m hm => ?_) ?_ ⟨hinv.base, e3, hinv.env.next e4 (zby _ _ _), hinv.ext.trans e4, (zby _ _ _).trans hinv.sz, (za7 _ _ _).trans hinv.df, fun M hMo m hm => ?_, fun hfst b g hr hgl => ?_, fun m hm => ?_, fun m1 m2 hm1 hm2 hne => ?_⟩ (by rw [e1]; exact h0)
       · rw [zbk, Bool.or_eq_true] at hm
         rcases hm with hm | hm
         · rw [beq_eq.1 hm]; exact hjm
         · exact hA m hm
       · have := zfk hjA (zb6 hjm)
         omega
       · rw [zgF (hM M hMo oj (Array.mem_toList_iff.2 (Array.mem_of_getElem? b1)) m hm ∘ fun e => by rw [b3]; exact e)]
         exact hinv.mtm M hMo m hm
       · by_cases hgs : g < c.W.heap.size
         · have hr' : Rd c.ρ b g := by
            unfold Rd at *
            rw [e5 g hgs] at hr
            exact hr
           exact hinv.fst hfst b g hr' hgs
         · have hge : g = c.W.heap.size := by
            rw [e2] at hgl
            have : g < c.W.heap.size + 1 := by simpa using hgl
            omega
           subst hge
           rcases hr with hr | ⟨_, hr⟩ <;> (rw [e6] at hr; cases hr)
       · rw [zbk, Bool.or_eq_true] at hm
         by_cases hmj : m = j
         · subst hmj
           rw [if_pos rfl]
           refine ⟨oj, t, n, i0, z.cells.toList, t, b1, b2, b3, by rw [e4.ty]; exact b6, hinv.ext.size, e6, ?_, ?_, fun c'' Y e => zc5 (by rw [e, e4.ty]) hfz.zs⟩
           · rw [e2]
             exact heap_alloc_new c.W _
           · simp [Act.put, Array.getD, hlt]
         · rw [if_neg hmj]
           have hmA : memN m A = true := by
            rcases hm with hm | hm
            · exact (hmj (beq_eq.1 hm)).elim
            · exact hm
           exact (hinv.al m hmA).step e4 rfl fun om nm hom hnm e => zhK hdst hom b1 hmj hnm (by rw [b3]; exact e)
       · have hold : ∀ m, memN m A = true → blk m < c.W.heap.size := fun m hm => by
          obtain ⟨_, _, _, _, _, _, _, _, _, _, _, _, h7, _⟩ := hinv.al m hm
          exact (Array.getElem?_eq_some_iff.1 h7).1
         have hin : ∀ m, memN m (j :: A) = true → m ≠ j → memN m A = true := fun m hm hne => by
          rw [zbk, Bool.or_eq_true] at hm
          rcases hm with hm | hm
          · exact (hne (beq_eq.1 hm)).elim
          · exact hm
         by_cases x1 : m1 = j
         · have x2 : m2 ≠ j := fun e => hne (by rw [x1, e])
           rw [if_pos x1, if_neg x2]
           have := hold m2 (hin m2 hm2 x2)
           omega
         · rw [if_neg x1]
           by_cases x2 : m2 = j
           · rw [if_pos x2]
             have := hold m1 (hin m1 hm1 x1)
             omega
           · rw [if_neg x2]
             exact hinv.dis m1 m2 (hin m1 hm1 x1) (hin m2 hm2 x2) hne
      rcases zct (B := zak l) hsup (fun m hm => memN_iff.2 (hAl m hm)) hj with hjl | hjr
      · refine hearly ?_
        unfold zak
        split
        · exact List.mem_cons_of_mem _ (memN_iff.1 hjl)
        · exact memN_iff.1 hjl
      · have hji : i = j := beq_eq.1 ((List.all_eq_true.1 hal1) j hjr)
        subst hji
        rcases hself with hk3 | hself
        · refine hearly ?_
          rw [hk3]
          exact List.mem_cons_self
        · exact hself _ rfl
     -- what follows
     have hafter : ∀ (first' : Bool) (s1 : St) (c' : Cx) (a' : Act) (v : Value), c'.s = s1 → Fr X c' a' → Ext c c' → a'.tmps.size = a.tmps.size → a'.defers = a.defers → a'.tmps = (a.put o.dst v).tmps →
      (first' = true → ∀ b g, Rd c'.ρ b g → g < c'.W.heap.size → g < c0.W.heap.size ∧ stable (c0.ρ g)) → zaA E ops Mo first' l s1 = some s' → zb3 P .any ops Q0 (RG (Gd c0 a0 Mo)) fl fuel (listed.setIfInBounds i true) a' c'.W := by
      intro first' s1 c' a' v e1 e2 e3 e4 e5 e6 e7 e8
      exact ihl fuel first' _ _ A blk c' a' hgo (hsup.set i) hAl hst' (hinv.step hdst hM hi hiA e2 e3 e4 e5 e6 e7) (by rw [e1]; exact e8)
     generalize hD : zeB ops i (List.range ops.size) [] = BH at *
     have hfree : zfd ops L i (zak l) = true → (∀ j oj, ops[j]? = some oj → memN j BH = true → ∃ e ∈ oj.after, Region.binds .any e = true ∧ (e.on = i ∨ memN e.on BH = true)) ∧ (∀ j oj, ops[j]? = some oj → j ≠ i → listed.getD j true = false → memN j BH = false → o.apart ops oj = true) ∧ (∀ k, listed.getD k false = true → memN k BH = false) := fun hc => by
      unfold zfd at hc
      rw [hD] at hc
      simp only [Bool.and_eq_true] at hc
      refine ⟨fun j oj hoj hj => (zfc hc.1 hj).1 oj hoj, fun j oj hj hne hun hno => zj7 hi hc.2 hj hne (hsup.un hun).1 hno, fun m hm => ?_⟩
      cases hmD : memN m BH with
      | false => rfl
      | true =>
        obtain ⟨_, h1, h2⟩ := zfc hc.1 hmD
        rcases hsup.onL hm with h3 | h3
        · rw [h3] at h1; cases h1
        · rw [memN_iff.2 (hAl m h3)] at h2; cases h2
     obtain ⟨hu1, hu2⟩ := zjD (x := o.dst) hinv.fr hd
     have hk5 : k = 7 ∨ k = 10 ∨ k = 11 ∨ k = 12 ∨ k = 13 ∨ k = 0 ∨ k = 1 ∨ k = 2 ∨ k = 3 ∨ ∃ m, k = m + 4 ∧ m ≠ 3 ∧ m ≠ 6 ∧ m ≠ 7 ∧ m ≠ 8 ∧ m ≠ 9 := by
      match k with
      | 0 => simp
      | 1 => simp
      | 2 => simp
      | 3 => simp
      | m + 4 =>
        by_cases hm : m = 3
        · exact .inl (by omega)
        by_cases hm : m = 6
        · exact .inr (.inl (by omega))
        by_cases hm : m = 7
        · exact .inr (.inr (.inl (by omega)))
        by_cases hm : m = 8
        · exact .inr (.inr (.inr (.inl (by omega))))
        by_cases hm : m = 9
        · exact .inr (.inr (.inr (.inr (.inl (by omega)))))
        exact .inr (.inr (.inr (.inr (.inr (.inr (.inr (.inr (.inr ⟨m, rfl, by omega, by omega, by omega, by omega, by omega⟩))))))))
     rcases hk5 with rfl | rfl | rfl | rfl | rfl | rfl | rfl | rfl | rfl | ⟨m, rfl, hm3, hm6, hm7, hm8, hm9⟩
     · -- a call and a new row, whichever comes first
       have hrow' : zk0 ops L i ds l = true := hrow
       cases l with
       | nil => cases hrow'
       | cons r' l' =>
       obtain ⟨j, k', ds'⟩ := r'
       unfold zk0 at hrow'
       simp only [Bool.and_eq_true, Bool.not_eq_true', List.isEmpty_iff] at hrow'
       obtain ⟨⟨⟨hk8, hal', hij⟩, hpair⟩, hrd1, hrd2⟩ := hrow'
       have hk8 : k' = 8 := beq_eq.1 hk8
       subst hk8
       have hij : i ≠ j := fun e => by rw [beq_eq.2 e] at hij; cases hij
       have hA0 : ∀ m, memN m A = false := fun m => by
        cases hm : memN m A with
        | false => rfl
        | true =>
          have h1 := hAl m hm
          have h2 : m ∈ zak l' := h1
          rw [hal'] at h2
          cases h2
       rw [hi] at hpair
       cases hj : ops[j]? with
       | none => rw [hj] at hpair; cases hpair
       | some oj =>
       rw [hj] at hpair
       simp only at hpair
       unfold zkh at hpair
       split at hpair
       · rename_i ca y t zl zc x hoi hyi hgi hoj hxj hgj
         simp only [Bool.and_eq_true, Bool.not_eq_true'] at hpair
         obtain ⟨⟨hcal, hxy, hxd, hyd⟩, ⟨hnl, hnc⟩, hna⟩ := hpair
         split at hcal
         · rename_i f hcal2
           have hxy : x ≠ y := fun e => by rw [beq_eq.2 e] at hxy; cases hxy
           have hjx : c.s.t x = .junk := zbq hjunk x (memN_iff.1 hxd)
           have hjy : c.s.t y = .junk := zbq hjunk y (memN_iff.1 hyd)
           -- the rows in their order
           have hwi : Region.wanted o (yielded ops a.tmps) = true := by simp [Region.wanted, hgi]
           have hg2 : ((zaw E Mo first 7 c.s o).bind fun s1 => zaA E ops Mo (first && zbE 7) ((j, 8, ds') :: l') s1) = some s' := by
            rcases hg with ⟨_, hg⟩ | ⟨hw, _⟩
            · exact hg
            · rw [hwi] at hw; cases hw
           rw [show (first && zbE 7) = false from Bool.and_false first] at hg2
           have hg2 : ((zaF E none c.s o).bind fun s1 => zaA E ops Mo false ((j, 8, ds') :: l') s1) = some s' := hg2
           simp only [zaF, Option.bind_eq_some_iff] at hg2
           obtain ⟨s1, ⟨ef, hev, hap⟩, hg2⟩ := hg2
           have hg3 := hg2
           unfold zaA at hg3
           split at hg3
           · cases hg3
           rename_i hjunk2
           rw [hj] at hg3
           simp only [hgj, zbH] at hg3
           have hg3 : ((zaF E none s1 oj).bind fun s2 => zaA E ops Mo false l' s2) = some s' := hg3
           simp only [zaF, Option.bind_eq_some_iff] at hg3
           obtain ⟨s2, ⟨ef2, hev2, hap2⟩, hg3⟩ := hg3
           -- the new row first
           have hlook1 : ∀ z, zce y z = false → (s1.look z) = c.s.look z := fun z hz => by
            have ht : ∀ w, w ≠ y → s1.t w = c.s.t w := fun w hw => zfn hyi hap (by rw [hjy]; rfl) hw
            cases z with
            | tmp w =>
              have hw : w ≠ y := fun e => by
               have : zce y (.tmp w) = true := beq_eq.2 e.symm
               rw [this] at hz; cases hz
              show ((s1.t w).alias _) = ((c.s.t w).alias _)
              rw [ht w hw]
            | _ => rfl
           have hev2' : evOp E c.s.look c.s.get c.s.box oj.type oj.op = some ef2 := by
            rw [hoj] at hev2 ⊢
            simp only [evOp] at hev2 ⊢
            rw [hlook1 zl hnl, hlook1 zc hnc] at hev2
            exact hev2
           have hpure : ∃ d, ef2 = .pure d := by
            rw [hoj] at hev2'
            exact zkC hev2'
           obtain ⟨d1, rfl⟩ := hpure
           have hs2 : s2 = s1.put x d1 := by
            rw [hxj] at hap2
            exact (Option.some.inj hap2).symm
           subst hs2
           refine ⟨fun e => (by rw [e] at hready; cases hready), fun m hm => ?_⟩
           have hmL : Nat.beq m i = true ∨ Nat.beq m j = true := by
            rcases zct (B := []) hsup (fun k hk => by rw [hA0 k] at hk; cases hk) hm with h | h
            · cases h
            · have := (List.all_eq_true.1 hrd1) m h
              simpa [Bool.or_eq_true] using this
           by_cases hmi : m = i
           · subst hmi
             unfold wpOp
             rw [hi]
             simp only
             rw [if_pos hwi]
             refine .inl ?_
             have hef := zaU hinv.env.ty hinv.env.tys hinv.env.inv hinv.env.call hinv.fr.sim (fun _ _ h => h) (fun _ _ h => h) hev
             refine Oper.wp_mono ?_ (zbJ (zay hinv.fr hd hef hap (fun a' w' => ∃ c', c'.W = w' ∧ c'.s = s1 ∧ Fr X c' a' ∧ Ext c c' ∧ Below c.W.heap.size c.W c'.W ∧ a'.tmps.size = a.tmps.size ∧ a'.defers = a.defers) Q0 fun a' c' e1 e2 e3 eb e4 e5 => ⟨c', rfl, e1, e2, e3, eb, e4, e5⟩))
             rintro a' w' ⟨⟨c', rfl, e1, e2, e3, eb, e4, e5⟩, v, e6⟩
             exact ⟨fun _ => RG.of_below eb, hafter false s1 c' a' v e1 e2 e3 e4 e5 e6 (fun e => by cases e) hg2⟩
           · have hmj : m = j := by
              rcases hmL with h | h
              · exact (hmi (beq_eq.1 h)).elim
              · exact beq_eq.1 h
             subst hmj
             have hwj : Region.wanted oj (yielded ops a.tmps) = true := by simp [Region.wanted, hgj]
             have hkj := hops oj (Array.mem_toList_iff.2 (Array.mem_of_getElem? hj))
             have hdj : ∀ n : Nat, oj.dst = some n → n < a.tmps.size := by rw [hinv.env.nt]; exact zaV hkj
             unfold wpOp
             rw [hj]
             simp only
             rw [if_pos hwj]
             refine .inl ?_
             have hefj := zaU hinv.env.ty hinv.env.tys hinv.env.inv hinv.env.call hinv.fr.sim (fun _ _ h => h) (fun _ _ h => h) hev2'
             have hapj : c.s.apply oj.dst (.pure d1) = some (c.s.put x d1) := by rw [hxj]; rfl
             refine Oper.wp_mono ?_ (zbJ (zay hinv.fr hdj hefj hapj (fun a' w' => ∃ c', c'.W = w' ∧ c'.s = c.s.put x d1 ∧ Fr X c' a' ∧ Ext c c' ∧ Below c.W.heap.size c.W c'.W ∧ a'.tmps.size = a.tmps.size ∧ a'.defers = a.defers) Q0 fun a' c' e1 e2 e3 eb e4 e5 => ⟨c', rfl, e1, e2, e3, eb, e4, e5⟩))
             rintro a' w' ⟨⟨c', rfl, e1, e2, e3, eb, e4, e5⟩, v, e6⟩
             refine ⟨fun _ => RG.of_below eb, ?_⟩
             have hjA := hA0 m
             have hinv1 := hinv.step (first' := false) hdst hM hj hjA e2 e3 e4 e5 e6 (fun e => by cases e)
             have hsup1 : Sup (L.setIfInBounds m true) (listed.setIfInBounds m true) A := hsup.set m
             have hst2 : 1 ≤ fuel := by
              have h1 := zaO (A := A) (i := m) (k := 8) (ds := ds') (l := l')
              rw [hjA] at h1
              simp only at h1
              omega
             obtain ⟨fuel, rfl⟩ : ∃ f2, fuel = f2 + 1 := ⟨fuel - 1, by omega⟩
             have hnotr : i ∈ Region.ready .any ops (listed.setIfInBounds m true) := ready_mono hready (fun e => hmi e.symm)
             refine ⟨fun e => (by rw [e] at hnotr; cases hnotr), fun q hq => ?_⟩
             have hqi : q = i := by
              rcases zct (B := []) hsup1 (fun k hk => by rw [hA0 k] at hk; cases hk) hq with h | h
              · cases h
              · exact (beq_eq.1 ((List.all_eq_true.1 hrd2) q h)).symm
             subst hqi
             have hlook2 : ∀ z, zce x z = false → ((c.s.put x d1).look z) = c.s.look z := fun z hz => by
              have ht : ∀ w, w ≠ x → (c.s.put x d1).t w = c.s.t w := fun w hw => zfn (o := oj) hxj hapj (by rw [hjx]; rfl) hw
              cases z with
              | tmp w =>
                have hw : w ≠ x := fun e => by
                 have : zce x (.tmp w) = true := beq_eq.2 e.symm
                 rw [this] at hz; cases hz
                show (((c.s.put x d1).t w).alias _) = ((c.s.t w).alias _)
                rw [ht w hw]
              | _ => rfl
             have hevi : evOp E c'.s.look c.s.get c.s.box o.type o.op = some ef := by
              rw [e1]
              rw [hoi] at hev ⊢
              simp only [evOp, hcal2] at hev ⊢
              rw [zg1 (fun z hz => hlook2 z (by
               have := (List.all_eq_true.1 hna) z hz
               simpa using this))]
              exact hev
             have hwi' : Region.wanted o (yielded ops a'.tmps) = true := by simp [Region.wanted, hgi]
             have hdi : ∀ n : Nat, o.dst = some n → n < a'.tmps.size := by rw [e4]; exact hd
             have hefi := zaU (gp := c.s.get) (bx := c.s.box) hinv1.env.ty hinv1.env.tys hinv1.env.inv hinv1.env.call hinv1.fr.sim (fun q r h => by rw [e1]; exact zhi hjx h) (fun r cs h => by rw [e1, zhG]; exact h) hevi
             have hapi : c'.s.apply o.dst ef = some (s1.put x d1) := by
              rw [e1, hyi]
              rw [hyi] at hap
              exact zjB hxy hjx hjy hap
             unfold wpOp
             rw [hi]
             simp only
             rw [if_pos hwi']
             refine .inl ?_
             refine Oper.wp_mono ?_ (zbJ (zay hinv1.fr hdi hefi hapi (fun a' w' => ∃ c2, c2.W = w' ∧ c2.s = s1.put x d1 ∧ Fr X c2 a' ∧ Ext c' c2 ∧ Below c'.W.heap.size c'.W c2.W ∧ a'.tmps.size = a.tmps.size ∧ a'.defers = a.defers) Q0 fun a' c' e1 e2 e3 eb e4' e5' => ⟨c', rfl, e1, e2, e3, eb, e4'.trans e4, e5'.trans e5⟩))
             rintro a2 w2 ⟨⟨c2, rfl, g1, g2, g3, gb, g4, g5⟩, v2, g6⟩
             refine ⟨fun _ => RG.of_below gb, ?_⟩
             have hinv2 := hinv1.step (first' := false) hdst hM hi hiA g2 g3 (g4.trans e4.symm) (g5.trans e5.symm) g6 (fun e => by cases e)
             have hgo' := hgo
             unfold zch at hgo'
             simp only [Bool.and_eq_true] at hgo'
             refine ihl2 _ l' rfl fuel false _ _ A blk c2 a2 hgo'.2.2 ?_ (fun k hk => by rw [hA0 k] at hk; cases hk) ?_ hinv2 (by rw [g1]; exact hg3)
             · rw [Array.setIfInBounds_comm true true hmi] 
               exact (hsup.set _).set _
             · have h1 := zaO (A := A) (i := m) (k := 8) (ds := ds') (l := l')
               rw [hjA] at h1
               simp only at h1
               omega
         · cases hcal
       · cases hpair
     · -- a load of an element and a store, whichever comes first
       have hrow' : ziD ops L i ds l = true := hrow
       cases l with
       | nil => cases hrow'
       | cons r' l' =>
       obtain ⟨j, k', ds'⟩ := r'
       unfold ziD at hrow'
       simp only [Bool.and_eq_true, Bool.not_eq_true', List.isEmpty_iff] at hrow'
       obtain ⟨⟨⟨hk8, hal', hij⟩, hpair⟩, hrd1, hrd2⟩ := hrow'
       have hk8 : k' = 11 := beq_eq.1 hk8
       subst hk8
       have hij : i ≠ j := fun e => by rw [beq_eq.2 e] at hij; cases hij
       have hA0 : ∀ m, memN m A = false := fun m => by
        cases hm : memN m A with
        | false => rfl
        | true =>
          have h1 := hAl m hm
          have h2 : m ∈ zak l' := h1
          rw [hal'] at h2
          cases h2
       rw [hi] at hpair
       cases hj : ops[j]? with
       | none => rw [hj] at hpair; cases hpair
       | some oj =>
       rw [hj] at hpair
       simp only at hpair
       unfold ziX at hpair
       split at hpair
       · rename_i tl z y ts ad vl hoi hyi hgi hoj hxj hgj
         simp only [Bool.and_eq_true, Bool.not_eq_true'] at hpair
         obtain ⟨hyd, hna, hnv⟩ := hpair
         have hjy : c.s.t y = .junk := zbq hjunk y (memN_iff.1 hyd)
         have hwi : Region.wanted o (yielded ops a.tmps) = true := by simp [Region.wanted, hgi]
         rw [show (first && zbE 10) = false from Bool.and_false first] at hg
         have hg2 : ((match zbW c.s o with | true => step E c.s o | false => none).bind fun s1 => zaA E ops Mo false ((j, 11, ds') :: l') s1) = some s' := by
          rcases hg with ⟨_, hg⟩ | ⟨hw, _⟩
          · exact hg
          · rw [hwi] at hw; cases hw
         simp only [Option.bind_eq_some_iff] at hg2
         obtain ⟨s1, hs1, hg2⟩ := hg2
         split at hs1
         · rename_i hrl
           have hev : ∃ x, evOp E c.s.look c.s.get c.s.box o.type o.op = some (.pure (.dat x)) ∧ s1 = c.s.put y (.dat x) := by
            obtain ⟨x, hx⟩ := zl2 (E := E) (ty := o.type) hoi hrl (by
             intro e
             unfold step at hs1
             rw [e, hoi] at hs1
             simp only [doOp] at hs1
             cases hs1)
            refine ⟨x, hx, ?_⟩
            unfold step at hs1
            rw [hx, hyi] at hs1
            exact (Option.some.inj hs1).symm
           obtain ⟨x, hev, rfl⟩ := hev
           have hap : c.s.apply o.dst (.pure (.dat x)) = some (c.s.put y (.dat x)) := by rw [hyi]; rfl
           have hg3 := hg2
           unfold zaA at hg3
           split at hg3
           · cases hg3
           rename_i hjunk2
           rw [hj] at hg3
           simp only [hgj, zbH] at hg3
           have hg3 : ((match zbO (c.s.put y (.dat x)) oj with | true => step E (c.s.put y (.dat x)) oj | false => none).bind fun s2 => zaA E ops Mo false l' s2) = some s' := hg3
           simp only [Option.bind_eq_some_iff] at hg3
           obtain ⟨s2, hs2, hg3⟩ := hg3
           split at hs2
           · rename_i hvs
             obtain ⟨t1, hst1, rfl, hld⟩ := zjT hjy hoj hvs hna hnv hs2
             refine ⟨fun e => (by rw [e] at hready; cases hready), fun m hm => ?_⟩
             have hmL : Nat.beq m i = true ∨ Nat.beq m j = true := by
              rcases zct (B := []) hsup (fun k hk => by rw [hA0 k] at hk; cases hk) hm with h | h
              · cases h
              · have := (List.all_eq_true.1 hrd1) m h
                simpa [Bool.or_eq_true] using this
             by_cases hmi : m = i
             · subst hmi
               unfold wpOp
               rw [hi]
               simp only
               rw [if_pos hwi]
               refine .inl ?_
               have hef := zaU hinv.env.ty hinv.env.tys hinv.env.inv hinv.env.call hinv.fr.sim (fun _ _ h => h) (fun _ _ h => h) hev
               refine Oper.wp_mono ?_ (zbJ (zay hinv.fr hd hef hap (fun a' w' => ∃ c', c'.W = w' ∧ c'.s = c.s.put y (.dat x) ∧ Fr X c' a' ∧ Ext c c' ∧ Below c.W.heap.size c.W c'.W ∧ a'.tmps.size = a.tmps.size ∧ a'.defers = a.defers) Q0 fun a' c' e1 e2 e3 eb e4 e5 => ⟨c', rfl, e1, e2, e3, eb, e4, e5⟩))
               rintro a' w' ⟨⟨c', rfl, e1, e2, e3, eb, e4, e5⟩, v, e6⟩
               exact ⟨fun _ => RG.of_below eb, hafter false _ c' a' v e1 e2 e3 e4 e5 e6 (fun e => by cases e) hg2⟩
             · have hmj : m = j := by
                rcases hmL with h | h
                · exact (hmi (beq_eq.1 h)).elim
                · exact beq_eq.1 h
               subst hmj
               have hflj : fl m = false := by
                have hgo' := hgo
                unfold zch at hgo'
                simp only [Bool.and_eq_true] at hgo'
                have h1 : (zbV ops (L.setIfInBounds i true) m l' && !fl m) = true := hgo'.2.1
                simp only [Bool.and_eq_true, Bool.not_eq_true'] at h1
                exact h1.2
               have hwj : Region.wanted oj (yielded ops a.tmps) = true := by simp [Region.wanted, hgj]
               have hkj := hops oj (Array.mem_toList_iff.2 (Array.mem_of_getElem? hj))
               unfold wpOp
               rw [hj]
               simp only
               rw [if_pos hwj]
               refine .inl ?_
               refine Oper.wp_mono ?_ (zbJ (zbn hinv.env hinv.fr hkj hst1 (fun a' w' => ∃ c', c'.W = w' ∧ c'.s = t1 ∧ Fr X c' a' ∧ Ext c c' ∧ a'.tmps.size = a.tmps.size ∧ a'.defers = a.defers) Q0 fun a' c' e1 e2 e3 e4 e5 => ⟨c', rfl, e1, e2, e3, e4, e5⟩))
               rintro a' w' ⟨⟨c', rfl, e1, e2, e3, e4, e5⟩, v, e6⟩
               refine ⟨fun e => (by rw [hflj] at e; cases e), ?_⟩
               have hjA := hA0 m
               have hinv1 := hinv.step (first' := false) hdst hM hj hjA e2 e3 e4 e5 e6 (fun e => by cases e)
               have hsup1 : Sup (L.setIfInBounds m true) (listed.setIfInBounds m true) A := hsup.set m
               have hst2 : 1 ≤ fuel := by
                have h1 := zaO (A := A) (i := m) (k := 11) (ds := ds') (l := l')
                rw [hjA] at h1
                simp only at h1
                omega
               obtain ⟨fuel, rfl⟩ : ∃ f2, fuel = f2 + 1 := ⟨fuel - 1, by omega⟩
               have hnotr : i ∈ Region.ready .any ops (listed.setIfInBounds m true) := ready_mono hready (fun e => hmi e.symm)
               refine ⟨fun e => (by rw [e] at hnotr; cases hnotr), fun q hq => ?_⟩
               have hqi : q = i := by
                rcases zct (B := []) hsup1 (fun k hk => by rw [hA0 k] at hk; cases hk) hq with h | h
                · cases h
                · exact (beq_eq.1 ((List.all_eq_true.1 hrd2) q h)).symm
               subst hqi
               have hevi : evOp E c'.s.look c'.s.get c'.s.box o.type o.op = some (.pure (.dat x)) := by
                rw [e1, hoi]
                rw [hoi] at hev
                exact hld hrl hoi hev
               have hwi' : Region.wanted o (yielded ops a'.tmps) = true := by simp [Region.wanted, hgi]
               have hdi : ∀ n : Nat, o.dst = some n → n < a'.tmps.size := by rw [e4]; exact hd
               have hefi := zaU hinv1.env.ty hinv1.env.tys hinv1.env.inv hinv1.env.call hinv1.fr.sim (fun _ _ h => h) (fun _ _ h => h) hevi
               have hapi : c'.s.apply o.dst (.pure (.dat x)) = some (t1.put y (.dat x)) := by rw [e1, hyi]; rfl
               unfold wpOp
               rw [hi]
               simp only
               rw [if_pos hwi']
               refine .inl ?_
               refine Oper.wp_mono ?_ (zbJ (zay hinv1.fr hdi hefi hapi (fun a' w' => ∃ c2, c2.W = w' ∧ c2.s = t1.put y (.dat x) ∧ Fr X c2 a' ∧ Ext c' c2 ∧ Below c'.W.heap.size c'.W c2.W ∧ a'.tmps.size = a.tmps.size ∧ a'.defers = a.defers) Q0 fun a' c' e1 e2 e3 eb e4' e5' => ⟨c', rfl, e1, e2, e3, eb, e4'.trans e4, e5'.trans e5⟩))
               rintro a2 w2 ⟨⟨c2, rfl, g1, g2, g3, gb, g4, g5⟩, v2, g6⟩
               refine ⟨fun _ => RG.of_below gb, ?_⟩
               have hinv2 := hinv1.step (first' := false) hdst hM hi hiA g2 g3 (g4.trans e4.symm) (g5.trans e5.symm) g6 (fun e => by cases e)
               have hgo' := hgo
               unfold zch at hgo'
               simp only [Bool.and_eq_true] at hgo'
               refine ihl2 _ l' rfl fuel false _ _ A blk c2 a2 hgo'.2.2 ?_ (fun k hk => by rw [hA0 k] at hk; cases hk) ?_ hinv2 (by rw [g1]; exact hg3)
               · rw [Array.setIfInBounds_comm true true hmi]
                 exact (hsup.set _).set _
               · have h1 := zaO (A := A) (i := m) (k := 11) (ds := ds') (l := l')
                 rw [hjA] at h1
                 simp only at h1
                 omega
           · cases hs2
         · cases hs1
       · cases hpair
     · -- a store of a scalar into a variable, alone
       have hrow' : (zbV ops L i l && !fl i) = true := hrow
       simp only [Bool.and_eq_true, Bool.not_eq_true'] at hrow'
       refine halone hrow'.1 (.inr fun K hK => ?_)
       subst hK
       rw [show (first && zbE 11) = false from Bool.and_false first] at hg
       unfold wpOp
       rw [hi]
       simp only
       rcases hg with ⟨hw, hg⟩ | ⟨hw, hg⟩
       · rw [if_pos hw]
         refine .inl ?_
         have hg : ((match zbO c.s o with | true => step E c.s o | false => none).bind fun s2 => zaA E ops Mo false l s2) = some s' := hg
         simp only [Option.bind_eq_some_iff] at hg
         obtain ⟨s1, hs1, hg⟩ := hg
         split at hs1
         · refine Oper.wp_mono ?_ (zbJ (zbn hinv.env hinv.fr hk hs1 (fun a' w' => ∃ c', c'.W = w' ∧ c'.s = s1 ∧ Fr X c' a' ∧ Ext c c' ∧ a'.tmps.size = a.tmps.size ∧ a'.defers = a.defers) Q0 fun a' c' e1 e2 e3 e4 e5 => ⟨c', rfl, e1, e2, e3, e4, e5⟩))
           rintro a' w' ⟨⟨c', rfl, e1, e2, e3, e4, e5⟩, v, e6⟩
           exact ⟨fun e => by (rw [hrow'.2] at e; cases e), hafter false s1 c' a' v e1 e2 e3 e4 e5 e6 (fun e => by cases e) hg⟩
         · cases hs1
       · rw [if_neg (by rw [hw]; exact fun e => by cases e)]
         exact ⟨fun _ => RG.refl _, hafter false _ { c with s := c.s.putO o.dst .undef } _ undef rfl hu1 hu2 (zby _ _ _) (za7 _ _ _) rfl (fun e => by cases e) hg⟩
     · -- a load of a row and a call, whichever comes first
       have hrow' : zik ops fl L i ds l = true := hrow
       cases l with
       | nil => cases hrow'
       | cons r' l' =>
       obtain ⟨j, k', ds'⟩ := r'
       unfold zik at hrow'
       simp only [Bool.and_eq_true, Bool.not_eq_true', List.isEmpty_iff] at hrow'
       obtain ⟨⟨⟨hk8, hal', hij⟩, hpair⟩, hrd1, hrd2, hrd3⟩ := hrow'
       have hk8 : k' = 13 := beq_eq.1 hk8
       subst hk8
       have hij : i ≠ j := fun e => by rw [beq_eq.2 e] at hij; cases hij
       have hA0 : ∀ m, memN m A = false := fun m => by
        cases hm : memN m A with
        | false => rfl
        | true =>
          have h1 := hAl m hm
          have h2 : m ∈ zak l' := h1
          rw [hal'] at h2
          cases h2
       rw [hi] at hpair
       cases hj : ops[j]? with
       | none => rw [hj] at hpair; cases hpair
       | some oj =>
       rw [hj] at hpair
       simp only at hpair
       unfold ziQ at hpair
       split at hpair
       · rename_i tl z y ca x hoi hyi hgi hoj hxj hgj
         simp only [Bool.and_eq_true, Bool.not_eq_true'] at hpair
         obtain ⟨hcal, ⟨hxy, hxd, hyd⟩, hnz, hna⟩ := hpair
         have hna : ∀ z ∈ ca.args.toList, zce y z = false := fun z hz => by simpa using (List.all_eq_true.1 hna) z hz
         have hxy : x ≠ y := fun e => by rw [beq_eq.2 e] at hxy; cases hxy
         have hjx : c.s.t x = .junk := zbq hjunk x (memN_iff.1 hxd)
         have hjy : c.s.t y = .junk := zbq hjunk y (memN_iff.1 hyd)
         have hwi : Region.wanted o (yielded ops a.tmps) = true := by simp [Region.wanted, hgi]
         rw [show (first && zbE 12) = false from Bool.and_false first] at hg
         have hg2 : ((match Mo with | none => (match zeP E c.s o with | true => step E c.s o | false => none) | some _ => none).bind fun s1 => zaA E ops Mo false ((j, 13, ds') :: l') s1) = some s' := by
          rcases hg with ⟨_, hg⟩ | ⟨hw, _⟩
          · exact hg
          · rw [hwi] at hw; cases hw
         simp only [Option.bind_eq_some_iff] at hg2
         obtain ⟨s1, hs1, hg2⟩ := hg2
         have hMo : Mo = none := by
          cases Mo with
          | none => rfl
          | some M => cases hs1
         rw [hMo] at hs1
         simp only at hs1
         split at hs1
         · rename_i hrl
           obtain ⟨d, hdb, hev, hloc⟩ : ∃ d, zc1 d = true ∧ evOp E c.s.look c.s.get c.s.box o.type o.op = some (.pure d) ∧ ∃ n off, c.s.look z = .ptr (.loc n) off := by
            unfold zeP at hrl
            rw [hoi] at hrl ⊢
            simp only at hrl
            split at hrl
            · rename_i n off d hl0 hd0
              exact ⟨d, hrl, hd0, n, off, hl0⟩
            · cases hrl
           have hs1e : s1 = c.s.put y d := by
            unfold step at hs1
            rw [hev, hyi] at hs1
            exact (Option.some.inj hs1).symm
           subst hs1e
           have hap : c.s.apply o.dst (.pure d) = some (c.s.put y d) := by rw [hyi]; rfl
           have hg3 := hg2
           unfold zaA at hg3
           split at hg3
           · cases hg3
           rename_i hjunk2
           rw [hj] at hg3
           simp only [hgj, zbH] at hg3
           have hg3 : ((match zc4 E (c.s.put y d) oj with | true => step E (c.s.put y d) oj | false => none).bind fun s2 => zaA E ops Mo false l' s2) = some s' := hg3
           simp only [Option.bind_eq_some_iff] at hg3
           obtain ⟨s2, hs2, hg3⟩ := hg3
           split at hs2
           · rename_i hvs
             obtain ⟨t1, hst1, rfl, hld⟩ := zlg hjy hjx hdb hoj hxj hxy hcal hvs hna hs2
             refine ⟨fun e => (by rw [e] at hready; cases hready), fun m hm => ?_⟩
             have hmL : Nat.beq m i = true ∨ Nat.beq m j = true := by
              rcases zct (B := []) hsup (fun k hk => by rw [hA0 k] at hk; cases hk) hm with h | h
              · cases h
              · have := (List.all_eq_true.1 hrd1) m h
                simpa [Bool.or_eq_true] using this
             by_cases hmi : m = i
             · subst hmi
               unfold wpOp
               rw [hi]
               simp only
               rw [if_pos hwi]
               refine .inl ?_
               have hef := zaU hinv.env.ty hinv.env.tys hinv.env.inv hinv.env.call hinv.fr.sim (fun _ _ h => h) (fun _ _ h => h) hev
               refine Oper.wp_mono ?_ (zbJ (zay hinv.fr hd hef hap (fun a' w' => ∃ c', c'.W = w' ∧ c'.s = c.s.put y d ∧ Fr X c' a' ∧ Ext c c' ∧ Below c.W.heap.size c.W c'.W ∧ a'.tmps.size = a.tmps.size ∧ a'.defers = a.defers) Q0 fun a' c' e1 e2 e3 eb e4 e5 => ⟨c', rfl, e1, e2, e3, eb, e4, e5⟩))
               rintro a' w' ⟨⟨c', rfl, e1, e2, e3, eb, e4, e5⟩, v, e6⟩
               exact ⟨fun _ => RG.of_below eb, hafter false _ c' a' v e1 e2 e3 e4 e5 e6 (fun e => by cases e) hg2⟩
             · have hmj : m = j := by
                rcases hmL with h | h
                · exact (hmi (beq_eq.1 h)).elim
                · exact beq_eq.1 h
               subst hmj
               have hflj : fl m = false := by
                have hgo' := hgo
                unfold zch at hgo'
                simp only [Bool.and_eq_true] at hgo'
                have h1 : (zbV ops (L.setIfInBounds i true) m l' && !fl m) = true := hgo'.2.1
                simp only [Bool.and_eq_true, Bool.not_eq_true'] at h1
                exact h1.2
               have hwj : Region.wanted oj (yielded ops a.tmps) = true := by simp [Region.wanted, hgj]
               have hkj := hops oj (Array.mem_toList_iff.2 (Array.mem_of_getElem? hj))
               unfold wpOp
               rw [hj]
               simp only
               rw [if_pos hwj]
               refine .inl ?_
               refine Oper.wp_mono ?_ (zbJ (zbn hinv.env hinv.fr hkj hst1 (fun a' w' => ∃ c', c'.W = w' ∧ c'.s = t1 ∧ Fr X c' a' ∧ Ext c c' ∧ a'.tmps.size = a.tmps.size ∧ a'.defers = a.defers) Q0 fun a' c' e1 e2 e3 e4 e5 => ⟨c', rfl, e1, e2, e3, e4, e5⟩))
               rintro a' w' ⟨⟨c', rfl, e1, e2, e3, e4, e5⟩, v, e6⟩
               refine ⟨fun e => (by rw [hflj] at e; cases e), ?_⟩
               have hjA := hA0 m
               have hinv1 := hinv.step (first' := false) hdst hM hj hjA e2 e3 e4 e5 e6 (fun e => by cases e)
               have hsup1 : Sup (L.setIfInBounds m true) (listed.setIfInBounds m true) A := hsup.set m
               have hnotr : i ∈ Region.ready .any ops (L.setIfInBounds m true) := by simpa using hrd2
               have hgo' := hgo
               unfold zch at hgo'
               simp only [Bool.and_eq_true] at hgo'
               have hgo2 : zch E.ty ops fl (L.setIfInBounds m true) ((i, 1, []) :: l') = true := by
                unfold zch
                simp only [Bool.and_eq_true]
                refine ⟨⟨hrd2, ?_, ?_⟩, (by show (zfd _ _ _ _ && zhA _ _ _ _ _) = true; rw [hrd3.1, hrd3.2]; rfl), ?_⟩
                · have h9 := hni
                  simp only [List.any_cons, Bool.or_eq_false_iff] at h9
                  rw [h9.2]; rfl
                · show ((zak l').all _) = true
                  rw [hal']; rfl
                · rw [Array.setIfInBounds_comm true true (fun e => hmi e)]
                  exact hgo'.2.2
               have hevi : evOp E c'.s.look c'.s.get c'.s.box o.type o.op = some (.pure d) := by
                rw [e1, hoi]
                rw [hoi] at hev
                exact hld hnz hloc hev
               refine ihl3 _ l' rfl (i, 1, []) fuel false _ _ A blk c' a' hgo2 hsup1 (fun k hk => by rw [hA0 k] at hk; cases hk) ?_ hinv1 ?_
               · have h1 := zaO (A := A) (i := m) (k := 13) (ds := ds') (l := l')
                 have h2 := zaO (A := A) (i := i) (k := 1) (ds := []) (l := l')
                 rw [hjA] at h1
                 rw [hA0 i] at h2
                 simp only at h1 h2
                 omega
               · unfold zaA
                 simp only [zd9, hi, hgi, zbH]
                 rw [hMo] at hg3 ⊢
                 rw [e1]
                 have hl1 : zaw E none false 1 t1 o = some (t1.put y d) := by
                  rw [e1, hoi] at hevi
                  simp only [evOp, Option.bind_eq_some_iff, Option.map_eq_some_iff] at hevi
                  obtain ⟨ti, hti, d0, hd0, hpd⟩ := hevi
                  cases hpd
                  simp only [zaw, zaQ, zdS, hoi, hyi, hti, hd0, Option.bind_some, Option.map_some]
                 rw [hl1]
                 exact hg3
           · cases hs2
         · cases hs1
       · cases hpair
     · -- a call, alone
       have hrow' : (zbV ops L i l && !fl i) = true := hrow
       simp only [Bool.and_eq_true, Bool.not_eq_true'] at hrow'
       refine halone hrow'.1 (.inr fun K hK => ?_)
       subst hK
       rw [show (first && zbE 13) = false from Bool.and_false first] at hg
       unfold wpOp
       rw [hi]
       simp only
       rcases hg with ⟨hw, hg⟩ | ⟨hw, hg⟩
       · rw [if_pos hw]
         refine .inl ?_
         have hg : ((match zc4 E c.s o with | true => step E c.s o | false => none).bind fun s2 => zaA E ops Mo false l s2) = some s' := hg
         simp only [Option.bind_eq_some_iff] at hg
         obtain ⟨s1, hs1, hg⟩ := hg
         split at hs1
         · refine Oper.wp_mono ?_ (zbJ (zbn hinv.env hinv.fr hk hs1 (fun a' w' => ∃ c', c'.W = w' ∧ c'.s = s1 ∧ Fr X c' a' ∧ Ext c c' ∧ a'.tmps.size = a.tmps.size ∧ a'.defers = a.defers) Q0 fun a' c' e1 e2 e3 e4 e5 => ⟨c', rfl, e1, e2, e3, e4, e5⟩))
           rintro a' w' ⟨⟨c', rfl, e1, e2, e3, e4, e5⟩, v, e6⟩
           exact ⟨fun e => by (rw [hrow'.2] at e; cases e), hafter false s1 c' a' v e1 e2 e3 e4 e5 e6 (fun e => by cases e) hg⟩
         · cases hs1
       · rw [if_neg (by rw [hw]; exact fun e => by cases e)]
         exact ⟨fun _ => RG.refl _, hafter false _ { c with s := c.s.putO o.dst .undef } _ undef rfl hu1 hu2 (zby _ _ _) (za7 _ _ _) rfl (fun e => by cases e) hg⟩
     · -- calm
       rw [show (first && zbE 0) = first from Bool.and_true first] at hg
       rcases hg with ⟨hw, hg⟩ | ⟨hw, hg⟩
       · simp only [zaw, zaQ, Option.bind_eq_some_iff] at hg
         obtain ⟨s1, hs1, hg⟩ := hg
         unfold zeJ at hs1
         split at hs1
         · rename_i n hcm hdn
           split at hs1
           · rename_i d hev
             cases hs1
             have hcalm := zkB hinv.env.ty hinv.env.tys hinv.fr.sim hcm hev n (fun _ => True)
             obtain ⟨v, c', e1, e2, e3, e4, e5, e6⟩ := zhU hinv.fr (hd n hdn) hcalm
             refine zfl RG.refl hi (Region.noSelect_spec hsel) (hQ _ _) (hfree hrow).1 fuel listed a c.W (hfree hrow).2.1 (hfree hrow).2.2 hready (.inl ⟨hw, fun w => e6 w trivial⟩) ?_
             rw [← e2]
             exact hafter first _ c' _ v e1 (by rw [hdn]; exact e3) e4 (zby _ _ _) (za7 _ _ _) rfl (fun hf => zjg (hinv.fst hf) e2 e5) hg
           · cases hs1
         · cases hs1
       · refine zfl RG.refl hi (Region.noSelect_spec hsel) (hQ _ _) (hfree hrow).1 fuel listed a c.W (hfree hrow).2.1 (hfree hrow).2.2 hready (.inr ⟨hw, rfl⟩) ?_
         exact hafter first _ { c with s := c.s.putO o.dst .undef } _ undef rfl hu1 hu2 (zby _ _ _) (za7 _ _ _) rfl (fun hf => hinv.fst hf) hg
     · -- a load
       rw [show (first && zbE 1) = first from Bool.and_true first] at hg
       have hrow' : (zfd ops L i (zak l) && zhA ops fl L i (zeB ops i (List.range ops.size) [])) = true := hrow
       rw [hD] at hrow'
       simp only [Bool.and_eq_true] at hrow'
       obtain ⟨hfr, hlate⟩ := hrow'
       have hfree2 : ∀ j oj, ops[j]? = some oj → j ≠ i → listed.getD j true = false → memN j BH = false → o.apart ops oj = true ∧ fl j = true := fun j oj hj hne hun hno =>
        ⟨(hfree hfr).2.1 j oj hj hne hun hno, zlo hlate hj hne (hsup.un hun).1 hno⟩
       rcases hg with ⟨hw, hg⟩ | ⟨hw, hg⟩
       · simp only [zaw, zaQ, Option.bind_eq_some_iff] at hg
         obtain ⟨s1, hs1, hg⟩ := hg
         have key : ∀ (n : Nat) (d : D), o.dst = some n → s1 = c.s.put n d → Calm P c a o n (RG (Gd c0 a0 Mo) c.W) d → zb3 P .any ops Q0 (RG (Gd c0 a0 Mo)) fl (fuel + 1) listed a c.W := by
          intro n d hdn he hcalm
          subst he
          obtain ⟨v, c', e1, e2, e3, e4, e5, e6⟩ := zhU hinv.fr (hd n hdn) hcalm
          refine zfI RG.trans RG.refl (w0 := c.W) hi (Region.noSelect_spec hsel) (hQ _ _) (hfree hfr).1 fuel listed a c.W hfree2 (hfree hfr).2.2 hready (.inl ⟨hw, e6⟩) (RG.refl _) ?_
          rw [← e2]
          exact hafter first _ c' _ v e1 (by rw [hdn]; exact e3) e4 (zby _ _ _) (za7 _ _ _) rfl (fun hf => zjg (hinv.fst hf) e2 e5) hg
         unfold zdS at hs1
         split at hs1
         · rename_i t z n ho hdn
           simp only [Option.bind_eq_some_iff] at hs1
           obtain ⟨ti, hti, hs1⟩ := hs1
           rw [hinv.env.ty] at hti
           split at hs1
           · -- all zbE
             simp only [Option.map_eq_some_iff] at hs1
             obtain ⟨d, hld, rfl⟩ := hs1
             refine key n d hdn rfl ?_
             have hT : ∀ g, g < c.W.heap.size → ∀ w, RG (Gd c0 a0 none) c.W w → w.heap[g]? = c.W.heap[g]? := fun g hg w hw => hw.2 g hg trivial
             exact ziF hinv.env.tys hinv.fr.sim (fun _ _ h => h) (fun _ _ h => h) (fun b g _ hg => hT g hg) (fun r cs hb => hT _ (hinv.fr.sim.boxes r cs hb).lt) (fun _ _ _ g hg => hT g hg) ho hti hld
           · rename_i M
             split at hs1
             · simp only [Option.map_eq_some_iff] at hs1
               obtain ⟨d, hld, rfl⟩ := hs1
               refine key n d hdn rfl ?_
               have hmask : ∀ r cs, zmb M c.s r = some cs → c.s.box r = some cs ∧ ∃ n ∈ M, c.s.t n = .ptr r 0 := fun r cs hb => by
                unfold zmb at hb
                split at hb
                · rename_i n
                  split at hb
                  · rename_i hc
                    simp only [Bool.and_eq_true] at hc
                    exact ⟨hb, n, memN_iff.1 hc.1, zi3 hc.2⟩
                  · cases hb
                · rename_i k
                  split at hb
                  · rename_i hc
                    obtain ⟨n, hn, hc⟩ := List.any_eq_true.1 hc
                    split at hc
                    · rename_i j o' ht
                      simp only [Bool.and_eq_true] at hc
                      rw [beq_eq.1 hc.1, beq_eq.1 hc.2] at ht
                      exact ⟨hb, n, hn, ht⟩
                    · cases hc
                  · cases hb
               refine ziF hinv.env.tys hinv.fr.sim (gp := fun _ => none) (bx := zmb M c.s) (fun _ _ h => by cases h) (fun r cs hb => (hmask r cs hb).1) (fun b g hr hg w hw => ?_) (fun r cs hb w hw => ?_) (fun _ _ h => by cases h) ho hti hld
               · obtain ⟨h1, h2⟩ := hinv.fst rfl b g hr hg
                 exact hw.2 g hg (.inl ⟨h1, h2⟩)
               · obtain ⟨h1, n, hn, h2⟩ := hmask r cs hb
                 have hlt := (hinv.fr.sim.boxes _ cs h1).lt
                 have hv := hinv.fr.sim.slots n
                 rw [h2] at hv
                 have hv2 : a0.tmps.getD n undef = .pointer (some ⟨c.β r, 0, none⟩) := by
                  rw [← hinv.mtm M rfl n hn]
                  exact hv.2
                 exact hw.2 _ hlt (.inr ⟨n, hn, hv2⟩)
             · cases hs1
         · cases hs1
       · refine zfI RG.trans RG.refl (w0 := c.W) hi (Region.noSelect_spec hsel) (hQ _ _) (hfree hfr).1 fuel listed a c.W hfree2 (hfree hfr).2.2 hready (.inr ⟨hw, rfl⟩) (RG.refl _) ?_
         exact hafter first _ { c with s := c.s.putO o.dst .undef } _ undef rfl hu1 hu2 (zby _ _ _) (za7 _ _ _) rfl (fun hf => hinv.fst hf) hg
     · -- alone
       have hrow' : (zbV ops L i l && !fl i) = true := hrow
       simp only [Bool.and_eq_true, Bool.not_eq_true'] at hrow'
       refine halone hrow'.1 (.inr fun K hK => ?_)
       subst hK
       rw [show (first && zbE 2) = false from Bool.and_false first] at hg
       unfold wpOp
       rw [hi]
       simp only
       rcases hg with ⟨hw, hg⟩ | ⟨hw, hg⟩
       · rw [if_pos hw]
         refine .inl ?_
         simp only [zaw, zaQ, Option.bind_eq_some_iff] at hg
         obtain ⟨s1, hs1, hg⟩ := hg
         refine Oper.wp_mono ?_ (zbJ (zbn hinv.env hinv.fr hk hs1 (fun a' w' => ∃ c', c'.W = w' ∧ c'.s = s1 ∧ Fr X c' a' ∧ Ext c c' ∧ a'.tmps.size = a.tmps.size ∧ a'.defers = a.defers) Q0 fun a' c' e1 e2 e3 e4 e5 => ⟨c', rfl, e1, e2, e3, e4, e5⟩))
         rintro a' w' ⟨⟨c', rfl, e1, e2, e3, e4, e5⟩, v, e6⟩
         exact ⟨fun e => by (rw [hrow'.2] at e; cases e), hafter false s1 c' a' v e1 e2 e3 e4 e5 e6 (fun e => by cases e) hg⟩
       · rw [if_neg (by rw [hw]; exact fun e => by cases e)]
         exact ⟨fun _ => RG.refl _, hafter false _ { c with s := c.s.putO o.dst .undef } _ undef rfl hu1 hu2 (zby _ _ _) (za7 _ _ _) rfl (fun e => by cases e) hg⟩
     · -- a new variable
       exact halone hrow (.inl rfl)
     · -- alone, and loads are about
       have hrow : zbV ops L i l = true := by
        unfold znz at hrow
        split at hrow <;> first | (exfalso; omega) | exact hrow
       refine halone hrow (.inr fun K hK => ?_)
       subst hK
       rw [show (first && zbE (m + 4)) = false from Bool.and_false first] at hg
       unfold wpOp
       rw [hi]
       simp only
       rcases hg with ⟨hw, hg⟩ | ⟨hw, hg⟩
       · rw [if_pos hw]
         refine .inl ?_
         by_cases hm1 : m = 1
         · -- a row that grows
           subst hm1
           simp only [zaw, Option.bind_eq_some_iff] at hg
           obtain ⟨s1, hs1, hg⟩ := hg
           split at hs1
           · rename_i hgr
             unfold zkZ at hgr
             split at hgr
             · rename_i M
               simp only [Bool.and_eq_true] at hgr
               refine Oper.wp_mono ?_ (zbJ (zjA hinv.env hinv.fr hk hgr.1 hs1 (fun a' w' => ∃ c', c'.W = w' ∧ c'.s = s1 ∧ Fr X c' a' ∧ Ext c c' ∧ a'.tmps.size = a.tmps.size ∧ a'.defers = a.defers ∧ ∀ g r, g < c.W.heap.size → c.ρ g = .box r → c'.W.heap[g]? = c.W.heap[g]?) Q0 fun a' c' e1 e2 e3 e4 e5 e6 => ⟨c', rfl, e1, e2, e3, e4, e5, e6⟩))
               rintro a' w' ⟨⟨c', rfl, e1, e2, e3, e4, e5, ef⟩, v, e6⟩
               refine ⟨fun _ => ⟨e3.size, fun g hgl hG => ?_⟩, hafter false s1 c' a' v e1 e2 e3 e4 e5 e6 (fun e => by cases e) hg⟩
               rcases hG with ⟨h0, h1⟩ | ⟨n, hn, h1⟩
               · exact (e3.keep g hgl (by rw [(hinv.ext.keep g h0 h1).1]; exact h1)).2
               · obtain ⟨r, h2, h3⟩ := zlT ((List.all_eq_true.1 hgr.2) n hn)
                 obtain ⟨cs, hb⟩ := Option.isSome_iff_exists.1 h3
                 obtain ⟨vs, T, _, hbox, _⟩ := (hinv.fr.sim.boxes r cs hb).out
                 have hv := hinv.fr.sim.slots n
                 rw [h2] at hv
                 have h4 : a.tmps.getD n undef = .pointer (some ⟨c.β r, 0, none⟩) := hv.2
                 rw [hinv.mtm M rfl n hn, h1] at h4
                 have h5 : g = c.β r := by
                  injection h4 with h4
                  injection h4 with h4
                  injection h4
                 rw [← h5] at hbox
                 exact ef g r hgl hbox
             · cases hgr
           · cases hs1
         by_cases hm2 : m = 2 ∨ m = 4
         · have hr6 : zaw E Mo first (m + 4) c.s o = zaF E none c.s o := by
            rcases hm2 with rfl | rfl <;> rfl
           rw [hr6] at hg
           simp only [Option.bind_eq_some_iff] at hg
           obtain ⟨s1, hs1, hg⟩ := hg
           unfold zaF at hs1
           simp only [Option.bind_eq_some_iff] at hs1
           obtain ⟨ef, hev, hap⟩ := hs1
           have hef := zaU hinv.env.ty hinv.env.tys hinv.env.inv hinv.env.call hinv.fr.sim (fun _ _ h => h) (fun _ _ h => h) hev
           refine Oper.wp_mono ?_ (zbJ (zay hinv.fr hd hef hap (fun a' w' => ∃ c', c'.W = w' ∧ c'.s = s1 ∧ Fr X c' a' ∧ Ext c c' ∧ Below c.W.heap.size c.W c'.W ∧ a'.tmps.size = a.tmps.size ∧ a'.defers = a.defers) Q0 fun a' c' e1 e2 e3 eb e4 e5 => ⟨c', rfl, e1, e2, e3, eb, e4, e5⟩))
           rintro a' w' ⟨⟨c', rfl, e1, e2, e3, eb, e4, e5⟩, v, e6⟩
           exact ⟨fun _ => RG.of_below eb, hafter false s1 c' a' v e1 e2 e3 e4 e5 e6 (fun e => by cases e) hg⟩
         by_cases hm5 : m = 5
         · -- a conversion that reads a row
           subst hm5
           simp only [zaw, Option.bind_eq_some_iff] at hg
           obtain ⟨s1, hs1, hg⟩ := hg
           split at hs1
           · rename_i hcv
             have hwp : o.wp P a c.W (fun a' w' => ∃ c', c'.W = w' ∧ c'.s = s1 ∧ Fr X c' a' ∧ Ext c c' ∧ Below c.W.heap.size c.W c'.W ∧ a'.tmps.size = a.tmps.size ∧ a'.defers = a.defers) Q0 := by
              unfold step at hs1
              split at hs1
              · rename_i ef hev
                have hef := zaU hinv.env.ty hinv.env.tys hinv.env.inv hinv.env.call hinv.fr.sim (fun _ _ h => h) (fun _ _ h => h) hev
                exact zay hinv.fr hd hef hs1 _ Q0 fun a' c' e1 e2 e3 eb e4 e5 => ⟨c', rfl, e1, e2, e3, eb, e4, e5⟩
              · unfold zks at hcv
                split at hcv
                · rename_i t u z ho
                  rw [ho] at hs1
                  simp only [doOp] at hs1
                  exact zgj hinv.env hinv.fr hd ho hs1 _ Q0 fun a' c' e1 e2 e3 eb e4 e5 => ⟨c', rfl, e1, e2, e3, eb, e4, e5⟩
                · cases hcv
             refine Oper.wp_mono ?_ (zbJ hwp)
             rintro a' w' ⟨⟨c', rfl, e1, e2, e3, eb, e4, e5⟩, v, e6⟩
             exact ⟨fun _ => RG.of_below eb, hafter false s1 c' a' v e1 e2 e3 e4 e5 e6 (fun e => by cases e) hg⟩
           · cases hs1
         have hrs : ∀ s, zaw E Mo first (m + 4) s o = zaF E Mo s o := fun s => by
          unfold zaw
          split
          · exfalso; omega
          · exfalso; omega
          · exfalso; omega
          · exfalso; omega
          · exfalso; omega
          · exfalso; omega
          · exfalso; omega
          · exfalso; omega
          · exfalso; omega
          · rfl
         rw [hrs] at hg
         simp only [Option.bind_eq_some_iff] at hg
         obtain ⟨s1, hs1, hg⟩ := hg
         unfold zaF at hs1
         split at hs1
         · simp only [Option.bind_eq_some_iff] at hs1
           obtain ⟨ef, hev, hap⟩ := hs1
           have hef := zaU hinv.env.ty hinv.env.tys hinv.env.inv hinv.env.call hinv.fr.sim (fun _ _ h => h) (fun _ _ h => h) hev
           refine Oper.wp_mono ?_ (zbJ (zay hinv.fr hd hef hap (fun a' w' => ∃ c', c'.W = w' ∧ c'.s = s1 ∧ Fr X c' a' ∧ Ext c c' ∧ Below c.W.heap.size c.W c'.W ∧ a'.tmps.size = a.tmps.size ∧ a'.defers = a.defers) Q0 fun a' c' e1 e2 e3 eb e4 e5 => ⟨c', rfl, e1, e2, e3, eb, e4, e5⟩))
           rintro a' w' ⟨⟨c', rfl, e1, e2, e3, eb, e4, e5⟩, v, e6⟩
           exact ⟨fun _ => RG.of_below eb, hafter false s1 c' a' v e1 e2 e3 e4 e5 e6 (fun e => by cases e) hg⟩
         · rename_i M
           split at hs1
           · cases hs1
           rename_i hhid
           simp only [Option.bind_eq_some_iff] at hs1
           obtain ⟨s2, hs2, hs1⟩ := hs1
           split at hs1
           · rename_i hno
             cases hs1
             obtain ⟨f1, f2⟩ := zjO hinv.fr hhid
             have hE2 := hinv.env.next f2 rfl
             refine Oper.wp_mono ?_ (zbJ (zbn hE2 f1 hk hs2 (fun a' w' => ∃ c', c'.W = w' ∧ c'.s = s2 ∧ Fr X c' a' ∧ Ext (c.hid M) c' ∧ a'.tmps.size = a.tmps.size ∧ a'.defers = a.defers) Q0 fun a' c' e1 e2 e3 e4 e5 => ⟨c', rfl, e1, e2, e3, e4, e5⟩))
             rintro a' w' ⟨⟨c', rfl, e1, e2, e3, e4, e5⟩, v, e6⟩
             obtain ⟨g1, g2⟩ := zil hinv.fr hhid e3 e2 e4 e6 (by rw [e1]; exact hno)
             refine ⟨fun _ => ⟨e3.size, fun g hgl hG => ?_⟩, hafter false _ (c.shown c' M o.dst) a' v (by show c'.s.shown M o.dst c.s = _; rw [e1]) g1 g2 e4 e5 e6 (fun e => by cases e) hg⟩
             refine (e3.keep g hgl ?_).2
             show stable (match c.isM M g with | true => Role.oth | false => c.ρ g)
             cases hM2 : c.isM M g with
             | true => trivial
             | false =>
               show stable (c.ρ g)
               rcases hG with ⟨h0, h1⟩ | ⟨n, hn, h1⟩
               · rw [(hinv.ext.keep g h0 h1).1]
                 exact h1
               · exfalso
                 have hv := hinv.fr.sim.slots n
                 rw [(zeK hhid hn).1] at hv
                 have h2 : a.tmps.getD n undef = .pointer (some ⟨c.β (.loc n), 0, none⟩) := hv.2
                 rw [hinv.mtm M rfl n hn, h1] at h2
                 have h3 : g = c.β (.loc n) := by
                  injection h2 with h2
                  injection h2 with h2
                  injection h2
                 rw [isM_iff.2 ⟨n, hn, h3.symm⟩] at hM2
                 cases hM2
           · cases hs1
       · rw [if_neg (by rw [hw]; exact fun e => by cases e)]
         exact ⟨fun _ => RG.refl _, hafter false _ { c with s := c.s.putO o.dst .undef } _ undef rfl hu1 hu2 (zby _ _ _) (za7 _ _ _) rfl (fun e => by cases e) hg⟩
end
end Go.Den
namespace Go.Den
open Go Go.RowKit
set_option linter.unusedVariables false
variable {B : Nat → Option Obj}
theorem zna {c : Cx} {a : Act} {X : Nat} (hf : Fr X c a) : Fr X { c with W := { c.W with drawn := c.W.drawn + 1 } } a ∧ Ext c { c with W := { c.W with drawn := c.W.drawn + 1 } } := by
 refine ⟨⟨Sim.same (Z := fun _ => False) hf.sim rfl (fun _ _ _ h => h) ⟨rfl, fun b g h _ => ⟨h, rfl⟩, fun q r hq _ => ⟨hq, rfl⟩, fun r hr _ => ⟨hr, rfl⟩, fun q _ => ⟨rfl, fun g h _ => ⟨h, rfl⟩⟩⟩ fun r hr => ?_, hf.ghost.out, hf.ghost.own⟩, rfl, rfl, rfl, Nat.le_refl _, fun _ _ _ => ⟨rfl, rfl⟩, rfl, fun _ => rfl, fun _ => rfl⟩
 obtain ⟨cs, hb⟩ := Option.isSome_iff_exists.1 hr
 obtain ⟨vs, T, h1, h2, _⟩ := (hf.sim.boxes r cs hb).out
 exact ⟨h2, rfl⟩
theorem zfo {s : St} : ∀ {ds : List Nat}, zf1 s ds = true → ∀ n ∈ ds, (s.t n).hasOwn = false
 | [], h, n, hn => by cases hn
 | m :: ds, h, n, hn => by
   have h' : (!(s.t m).hasOwn && zf1 s ds) = true := h
   simp only [Bool.and_eq_true, Bool.not_eq_true'] at h'
   rcases List.mem_cons.1 hn with rfl | hn
   · exact h'.1
   · exact zfo h'.2 n hn
theorem zmr {c : Cx} {a : Act} {X : Nat} {ds : List Nat} (hf : Fr X c a) (h : zf1 c.s ds = true) : Fr X { c with s := c.s.junks ds } a := by
 refine ⟨zcN (K := Kill.none) hf.sim (fun y => ?_) (fun r cs' h => ⟨cs', by cases r <;> exact h, (zd3 _).symm⟩) rfl (fun q r hq _ => ?_) (fun r hr _ => by cases r <;> exact hr), hf.ghost.out, ?_⟩
 · cases hm : memN y ds with
   | true => left; simp only [St.junks, hm]
   | false => right; simp only [St.junks, hm, zbd, and_self]
 · cases q with
   | slot y l =>
     show (D.at_ l ((c.s.junks ds).t y)).row? = _
     cases hm : memN y ds with
     | true =>
       have hq' : (D.at_ l (c.s.t y)).row? = some r := hq
       rw [zbx l _ (zfo h y (memN_iff.1 hm))] at hq'
       cases hq'
     | false => simp only [St.junks, hm]; exact hq
   | cell r0 o => cases r0 <;> exact hq
   | lent j => exact hq
 · show ((c.s.junks ds).t X).hasOwn = false
   cases hm : memN X ds with
   | true => simp only [St.junks, hm]; rfl
   | false => simp only [St.junks, hm]; exact hf.ghost.own
theorem zjN {P : Program} {E : Env} {X id : Nat} {ops : Array Oper} {p : Plan} (hm : P.follows .mixedOrders = true) (hp : E.plan id = some p) (hok : zjl E.ty ops p = true) (hops : ∀ o ∈ ops.toList, za9 E.nt o = true) : zmI P B E X id ops := by
 intro c a s' Q hE hf h hEnd
 unfold zjl at hok
 simp only [Bool.and_eq_true] at hok
 obtain ⟨⟨hsel, hdst, hlen⟩, hMc, hgo⟩ := hok
 have hlen : p.2.length ≤ ops.size := by simpa using hlen
 have hM : ∀ M, p.1 = some M → ∀ o ∈ ops.toList, ∀ n ∈ M, o.dst ≠ some n := by
  intro M hM o ho n hn e
  rw [hM] at hMc
  simp only at hMc
  have h1 := (Array.all_eq_true_iff_forall_mem.1 hMc) o (Array.mem_toList_iff.1 ho)
  have h2 := (List.all_eq_true.1 h1) n hn
  simp [zl1, e] at h2
 obtain ⟨hf1, he1⟩ := zna hf
 let Q0 : Exit → Act → World → Prop := fun x a w => match x with | .normal => Q .normal a w | _ => False
 refine Code.wp_mono (Q := Q0) (fun e a w hq => ?_) (wp_region_any hm (zgk (R := RG (Gd { c with W := { c.W with drawn := c.W.drawn + 1 } } a p.1)) (str := zix p.2) _ _ _ _ ?_))
 · cases e <;> first | exact hq | exact hq.elim
 · simp only [zcd, hp, ziv] at h
   have hstill : zcM [] p.2 ≤ ops.size := by
    unfold zcM
    exact Nat.le_trans List.countP_le_length hlen
   have key : ∀ (s0 : St), Fr X { c with W := { c.W with drawn := c.W.drawn + 1 }, s := s0 } a → zaA E ops p.1 true p.2 s0 = some s' →
    zb3 P .any ops Q0 (RG (Gd { c with W := { c.W with drawn := c.W.drawn + 1 } } a p.1)) (zix p.2) ops.size (Array.replicate ops.size false) a { c.W with drawn := c.W.drawn + 1 } := by
    intro s0 hf0 h0
    have he0 : Ext c { c with W := { c.W with drawn := c.W.drawn + 1 }, s := s0 } := ⟨rfl, rfl, rfl, Nat.le_refl _, fun _ _ _ => ⟨rfl, rfl⟩, rfl, fun _ => rfl, fun _ => rfl⟩
    have hE0 := hE.next he0 rfl
    refine zjR (E := E) (X := X) (Q0 := Q0) (c0 := { c with W := { c.W with drawn := c.W.drawn + 1 }, s := s0 }) (a0 := a) hE0.tys hops hsel hdst hM (fun _ _ _ h => h) (hEnd.from he0 rfl rfl) p.2 ops.size true (Array.replicate ops.size false) _ [] (fun _ => 0)
     { c with W := { c.W with drawn := c.W.drawn + 1 }, s := s0 } a hgo (Sup.refl _) (fun j hj => by cases hj) hstill ⟨hE0.inv, hf0, hE0, Ext.refl _, rfl, rfl, fun _ _ _ _ => rfl, fun _ b g hr hg => ⟨hg, hr.stable⟩, fun j hj => (by cases hj), fun j k hj => (by cases hj)⟩ h0
   split at h
   · rename_i hnil
     refine key c.s hf1 ?_
     rw [hnil]
     exact h
   · rename_i i k ds l hcons
     split at h
     · rename_i hno
       refine key (c.s.junks ds) (zmr hf1 hno) ?_
       rw [hcons]
       exact h
     · cases h
def zbG (ty : Nat → Option TI) (nt : Nat) (plan : Nat → Option Plan) : Code → Bool
 | .region id ops draw => match draw with
   | true => (match plan id with | some p => zjl ty ops p | none => true)
   | false => true
 | .seq a b => zbG ty nt plan a && zbG ty nt plan b
 | .cond _ a b => zbG ty nt plan a && zbG ty nt plan b
 | .block _ a => zbG ty nt plan a
 | .loop a => zbG ty nt plan a
 | _ => true
theorem zbe {P : Program} {E : Env} {X : Nat} (hm : P.follows .mixedOrders = true) : ∀ (code : Code), zbm E.nt code = true → zbG E.ty E.nt E.plan code = true → zcm P B E X code
 | .region id ops draw, hk, h => fun hd => by
   subst hd
   have hops : ∀ o ∈ ops.toList, za9 E.nt o = true := List.all_eq_true.1 hk
   have h' : (match E.plan id with | some p => zjl E.ty ops p | none => true) = true := h
   cases hp : E.plan id with
   | none =>
     intro c a s' Q hE hf hr
     simp only [zcd, hp] at hr
     cases hr
   | some p =>
     rw [hp] at h'
     exact zjN hm hp h' hops
 | .seq a b, hk, h => by
   have hk' : (zbm E.nt a && zbm E.nt b) = true := hk
   have h' : (zbG E.ty E.nt E.plan a && zbG E.ty E.nt E.plan b) = true := h
   simp only [Bool.and_eq_true] at hk' h'
   exact ⟨zbe hm a hk'.1 h'.1, zbe hm b hk'.2 h'.2⟩
 | .cond _ a b, hk, h => by
   have hk' : (zbm E.nt a && zbm E.nt b) = true := hk
   have h' : (zbG E.ty E.nt E.plan a && zbG E.ty E.nt E.plan b) = true := h
   simp only [Bool.and_eq_true] at hk' h'
   exact ⟨zbe hm a hk'.1 h'.1, zbe hm b hk'.2 h'.2⟩
 | .block _ a, hk, h => zbe hm a hk h
 | .loop a, hk, h => zbe hm a hk h
 | .skip, hk, h => trivial
 | .rangeFunc _ _ _ _, hk, h => trivial
 | .scope _, hk, h => trivial
 | .refuse _, hk, h => trivial
 | .exit _, hk, h => trivial
 | .ret, hk, h => trivial
 | .label _, hk, h => trivial
 | .goto _, hk, h => trivial
end Go.Den
namespace Go.Den
open Go Go.RowKit
set_option linter.unusedVariables false
variable {B : Nat → Option Obj}
theorem zav {P : Program} {f : Nat} {fn : Func} {vals : Array Value} {W : World} {R : Value → World → Prop} (hf : P.funcs[f]? = some fn) (hn : (fn.name == "runtime.NumGoroutine") = false) (hb : fn.body.isSome = true) (h : Calls P f vals W fun e w' => ∃ v, e = .returned v ∧ R v w') : Reaches P f vals W R := by
 obtain ⟨code, hbd⟩ := Option.isSome_iff_exists.1 hb
 have hent : (callFunc f vals).run P W = .ok (.enter f vals) W := by
  have h1 : fn.name ≠ "runtime.NumGoroutine" := by simpa using hn
  simp [callFunc, hf, h1, hbd, mark]
 unfold Reaches
 rw [hent]
 refine Calls.mono h fun e w' he => ?_
 obtain ⟨v, rfl, hr⟩ := he
 exact hr
def zeI (es : List Dat) (xs : List Value) : Prop := es.length = xs.length ∧ ∀ (j : Nat) (d : Dat) (v : Value), es[j]? = some d → xs[j]? = some v → d = .val v ∧ scal v = true
theorem zgW {ρ : Nat → Role} {W : World} {es : List Dat} {xs : List Value} (h : zeI es xs) : RepRow ρ W 1 es xs := by
 obtain ⟨hl, h⟩ := h
 refine ⟨by omega, fun j d hj => ?_, fun j d hj => ?_⟩
 · have hlt := (List.getElem?_eq_some_iff.1 hj).1
   have hx := List.getElem?_eq_getElem (show j < xs.length by omega)
   obtain ⟨rfl, hs⟩ := h j d _ hj hx
   have e1 : (xs.drop (j * 1)).take 1 = [xs[j]] := by
    rw [Nat.mul_one, List.drop_eq_getElem_cons (by omega)]
    rfl
   rw [e1]
   exact .val hs
 · have hlt := (List.getElem?_eq_some_iff.1 hj).1
   have hx := List.getElem?_eq_getElem (show j < xs.length by omega)
   obtain ⟨rfl, hs⟩ := h j d _ hj hx
   rfl
theorem zcK {ρ : Nat → Role} {W : World} {es : List Dat} {xs : List Value} (h : RepRow ρ W 1 es xs) (hv : ∀ d ∈ es, ∃ v, d = .val v) : zeI es xs := by
 refine ⟨by have := h.len; omega, fun j d v hd hx => ?_⟩
 obtain ⟨u, rfl⟩ := hv d (List.mem_of_getElem? hd)
 have hr := h.rep j _ hd
 have hlt := (List.getElem?_eq_some_iff.1 hx).1
 have e1 : (xs.drop (j * 1)).take 1 = [v] := by
  rw [Nat.mul_one, List.drop_eq_getElem_cons hlt, (List.getElem?_eq_some_iff.1 hx).2]
  rfl
 rw [e1] at hr
 cases hr with
 | val hs => exact ⟨rfl, hs⟩
end Go.Den
namespace Go.Den
open Go Go.RowKit
set_option linter.unusedVariables false
variable {B : Nat → Option Obj}
structure ExtOK (P : Program) (ty : Nat → Option TI) (B : Nat → Option Obj) (f : Nat) (g : List D → List (List D) → List (Option Row) → Option (List D × List (List D) × List (Option Row))) : Prop where mk ::
 out : zdd P ty B fun f' args u l => if f' = f then g args u l else none
theorem zmk {P : Program} {C : Cfg} (h1 : TyOk P C.ty) (h2 : ∀ f fn, C.fn f = some fn → FnOK P B C f fn) (h3 : ∀ f g, C.ext f = some g → ExtOK P C.ty B f g) : CfgOK P B C := ⟨h1, h2, fun f g h => (h3 f g h).out⟩
def zfH : List Dat → Option (List Int)
 | [] => some []
 | .val (.int .i64 n) :: l => (zfH l).map (n :: ·)
 | _ => none
def DI (n : Int) : Dat := .val (.int .i64 n)
theorem zdl : ∀ {es : List Dat} {zs : List Int}, zfH es = some zs → es = zs.map DI
 | [], zs, h => by cases h; rfl
 | d :: es, zs, h => by
   unfold zfH at h
   split at h
   · rename_i h0; cases h0
   · rename_i n l h0
     cases h0
     obtain ⟨ys, h1, rfl⟩ := Option.map_eq_some_iff.1 h
     rw [zdl h1]
     rfl
   · cases h
theorem zef {zs : List Int} {xs : List Value} (h : zeI (zs.map DI) xs) : xs = zs.map (Value.int .i64) := by
 obtain ⟨hl, h⟩ := h
 apply List.ext_getElem?
 intro j
 cases hx : xs[j]? with
 | none =>
   have := List.getElem?_eq_none_iff.1 hx
   have hl' : zs.length ≤ j := by simp at hl; omega
   simp [List.getElem?_eq_none hl']
 | some v =>
   have hlt := (List.getElem?_eq_some_iff.1 hx).1
   have hz : j < zs.length := by simp at hl; omega
   have hd : (zs.map DI)[j]? = some (DI zs[j]) := by simp [hz]
   obtain ⟨h1, _⟩ := h j _ _ hd hx
   have : v = .int .i64 zs[j] := by unfold DI at h1; injection h1 with h1; exact h1.symm
   rw [this]
   simp [hz]
theorem zjw (zs : List Int) : zeI (zs.map DI) (zs.map (Value.int .i64)) := by
 refine ⟨by simp, fun j d v hd hv => ?_⟩
 rw [List.getElem?_map] at hd hv
 cases hz : zs[j]? with
 | none => rw [hz] at hd; cases hd
 | some z =>
   rw [hz] at hd hv
   cases hd; cases hv
   exact ⟨rfl, rfl⟩
end Go.Den
namespace Go.Den
open Go Go.RowKit
set_option linter.unusedVariables false
variable {B : Nat → Option Obj}
structure Kept0 (w w' : World) : Prop where
 os : w'.os = w.os
 tape : w'.tape = w.tape
 output : w'.output = w.output
 size : w.heap.size ≤ w'.heap.size
 keep : ∀ g, g < w.heap.size → w'.heap[g]? = w.heap[g]?
def zmy : List D → Option (List Value)
 | [] => some []
 | .dat (.val v) :: ds => (zmy ds).map (v :: ·)
 | _ => none
def DV (v : Value) : D := .dat (.val v)
def extVal (φ : List Value → Option (List Value)) (args : List D) (u : List (List D)) (l : List (Option Row)) : Option (List D × List (List D) × List (Option Row)) :=
 match u, l with
 | [], [] => (zmy args).bind fun vs => (φ vs).map fun rs => (rs.map DV, [], [])
 | _, _ => none
def retV : List Value → Value
 | [v] => v
 | vs => .tuple vs.toArray
theorem zmE {c : Cx} {p : Pl} : ∀ (rs : List Value) (i : Nat), (∀ r ∈ rs, scal r = true) → VRs c p i (rs.map DV) rs
 | [], i, h => rfl
 | r :: rs, i, h => ⟨r, rs, rfl, zaJ (h r (by simp)), zmE rs (i + 1) fun x hx => h x (List.mem_cons_of_mem _ hx)⟩
theorem zhN (b : Bool) : ∀ rs : List Value, D.tights b (rs.map DV) = true
 | [] => rfl
 | r :: rs => by
   show (D.tight b (DV r) && D.tights b (rs.map DV)) = true
   rw [zhN b rs]
   rfl
theorem zgX : ∀ rs : List Value, D.plains (rs.map DV) = true
 | [] => rfl
 | r :: rs => by
   show (D.plain (DV r) && D.plains (rs.map DV)) = true
   rw [zgX rs]
   rfl
end Go.Den
namespace Go.Den
open Go Go.RowKit
set_option linter.unusedVariables false
variable {B : Nat → Option Obj}
theorem zh1 {c : Cx} {args : List D} {W' : World} {r : Value} {e : Nat} {i : TI} {es' : List Dat} {xs' : List Value} (hcs : c.s = zbr args [] []) (hos : W'.os = c.W.os) (htape : W'.tape = c.W.tape) (hout : W'.output = c.W.output) (hsize : c.W.heap.size ≤ W'.heap.size)
 (hkeep : ∀ g, g < c.W.heap.size → stable (c.ρ g) → W'.heap[g]? = c.W.heap[g]?) (hob : ∀ g, r.ownBlock = some g → g < c.W.heap.size → ¬ stable (c.ρ g))
 (hi : c.ty e = some i) (hrow : W'.ownsRow 0 e i.sz r es'.length xs') (hrep : ∀ ρ', (∀ b g, Rd c.ρ b g → g < c.W.heap.size → Rd ρ' b g) → RepRow ρ' W' i.sz es' xs') :
 ∃ c', c'.W = W' ∧ Ans c [.own e es'] [] [] r c' := by
 let ρ' : Nat → Role := fun g => if r.ownBlock = some g then .row (.slot 0 []) else if g < c.W.heap.size then c.ρ g else .oth
 have hρ : ∀ g, g < c.W.heap.size → stable (c.ρ g) → ρ' g = c.ρ g := fun g hg hs => by
  show (if r.ownBlock = some g then Role.row (.slot 0 []) else if g < c.W.heap.size then c.ρ g else .oth) = c.ρ g
  rw [if_neg (fun h => hob g h hg hs), if_pos hg]
 refine ⟨{ c with W := W', ρ := ρ', H := fun q => match q with | .slot 0 [] => r | q => c.H q, s := ⟨fun x => match Nat.beq x 0 with | true => .own e es' | false => .junk, fun _ => none, [], []⟩ }, rfl, ?_, rfl, ?_, rfl, ?_⟩
 · exact ⟨hos, htape, hout, hsize, fun g hg hst => ⟨hρ g hg hst, hkeep g hg hst⟩, rfl, fun _ => rfl, fun _ => rfl⟩
 · refine ⟨fun x => ?_, fun r2 cs hb => ?_, fun j r2 hgj => ?_⟩
   · show VR _ (.slot x []) (match Nat.beq x 0 with | true => .own e es' | false => .junk) _
     cases hx : Nat.beq x 0 with
     | true =>
       have := Nat.eq_of_beq_eq_true hx
       subst this
       refine ⟨rfl, ⟨i, xs', hi, hrow, hrep ρ' fun b g hr hg => ?_, fun g hg => if_pos hg⟩⟩
       have := hρ g hg hr.stable
       unfold Rd at *
       rw [this]
       exact hr
     | false => trivial
   · cases r2 with
     | loc n => cases hb
     | up n =>
       have hb' : ([] : List (List D))[n]? = some cs := hb
       simp at hb'
   · have hgj' : (([] : List (Option Row))[j]?).bind id = some r2 := hgj
     simp at hgj'
 · rw [hcs]
   rfl
end Go.Den
namespace Go.Proofs
open Go.Shelf Go.RowKit Go.Lib
variable {P : Program} {ρ : Ren}
set_option maxHeartbeats 2000000 in
set_option maxRecDepth 100000 in
theorem clone_any (L : SlLaysE0.n41 P ρ) (i0 : TypeInfo) (z : Value) (size bytes : Nat) (hi : P.info? (ρ.t 23) = some i0) (hz0 : i0.zero = some z) (hz1 : i0.size = size) (hz2 : i0.bytes = bytes) (hzs : z.cells.size = size) (hsz : 0 < size)
 (z23 : ∀ w, (Go.sizeOf (ρ.t 23)).run P w = .ok size w) (ad : Addr) (n c : Nat) (news : List Value) (w : World) (hl : news.length = n * size) (hn : n ≤ maxLen) (hbig : n * bytes ≤ 140737488355328)
 (hc : ∀ j u, news[j]? = some u → w.cell? (ad.add j) = some u) (h1 : ∀ u ∈ news, u.oneCell' = true) :
 Calls P (ρ.f 41) #[.slice (some ad) n c] w fun e w' => ∃ v', e = .returned v' ∧ w'.ownsRow w.heap.size (ρ.t 23) size v' n news ∧ Below w.heap.size w w' := by
 have mixed := L.mixed; have t4 := L.t4; have a4 := L.a4; have z4 := L.z4; have v4 := L.v4; have t22 := L.t22; have a22 := L.a22; have z22 := L.z22; have v22 := L.v22
 have q22 : ∀ (w : World) (a : Option Addr) (n c n' c' : Nat), (binOp .eql (ρ.t 22) (.slice a n c) (.slice none n' c')).run P w = .ok (.bool a.isNone) w := fun w a n c n' c' => Lib.run_eql_slice_nil w _ _ a n c n' c' L.t22
 have u22 : ∀ w, Sem.run P (underlying (ρ.t 22)) w = .ok (TypeDesc.slice (ρ.t 23)) w := run_underlying t22
 have A : Aside (∀ j u, news[j]? = some u → w.cell? (ad.add j) = some u) := hc
 clear hc
 obtain ⟨_, _, FG⟩ := L.f41
 go_enter FG, SlBodyN.n41_ntmps ρ
 go_wp2_with (at_builtin; refine wpList_append_own _ rfl _ _ (ρ.t 22) rfl w.heap.size (ρ.t 23) i0 z size bytes t22 hi hz0 hz1 hz2 hzs hsz _ _ _ rfl (World.ownsRow_made w #[] 0 (Nat.le_refl _) (Nat.zero_le _) (by simp)) ad n c news rfl hl (fun j u hj => Lib.cell?_alloc_some _ (A.out j u hj)) h1 (by rw [Nat.zero_add]; exact hn) (by rw [Nat.zero_add]; exact hbig) (by simp) ?_)
 intro v' w1 hown hgrow hnil
 go_wp2
 go_ret
 refine ⟨v', rfl, by simpa using hown, ?_⟩
 exact ((Below.refl _ w).alloc (Nat.le_refl _) _).grown hgrow (by simp) (by intro k hk; simp [Value.ownBlock] at hk; omega)
end Go.Proofs
namespace Go.Den
open Go Go.RowKit
set_option linter.unusedVariables false
variable {B : Nat → Option Obj}
def zgl (n : Nat) : List Dat → Bool
 | [] => true
 | d :: l => Nat.beq d.cells.length n && zgl n l
theorem zhR {n : Nat} : ∀ {es : List Dat}, zgl n es = true → ∀ e ∈ es, e.cells.length = n
 | d :: l, h, e, he => by
   simp only [zgl, Bool.and_eq_true] at h
   rcases List.mem_cons.1 he with h0 | h0
   · rw [h0]; exact beq_eq.1 h.1
   · exact zhR h.2 e h0
def zb4 (e sz : Nat) (args : List D) (u : List (List D)) (l : List (Option Row)) : Option (List D × List (List D) × List (Option Row)) :=
 match args, u, l with
 | [.dat (.lst _ es)], [], [] => match zgl sz es && Nat.ble es.length 1000000 with
   | true => some ([.own e es], [], [])
   | false => none
 | _, _, _ => none
theorem zmU {ρ : Nat → Role} {W : World} {d : Dat} {l : List Value} (h : Rep ρ W d l) : ∀ u ∈ l, u.oneCell' = true := by
 induction h with
 | @val v hs => intro u hu; rw [List.mem_singleton] at hu; subst hu; cases u <;> first | rfl | (simp [scal] at hs)
 | agg hl hc h ih =>
   intro u hu
   obtain ⟨j, hj⟩ := List.getElem?_of_mem hu
   rename_i cs vs
   have hlt := (List.getElem?_eq_some_iff.1 hj).1
   have hd := List.getElem?_eq_getElem (show j < cs.length by omega)
   exact ih j _ u hd hj u (by simp)
 | nil => intro u hu; rw [List.mem_singleton] at hu; subst hu; rfl
 | lst => intro u hu; rw [List.mem_singleton] at hu; subst hu; rfl
theorem znm {ρ : Nat → Role} {W : World} {sz : Nat} {es : List Dat} {xs : List Value} (h : RepRow ρ W sz es xs) (hsz : 0 < sz) : ∀ u ∈ xs, u.oneCell' = true := by
 intro u hu
 obtain ⟨k, hk⟩ := List.getElem?_of_mem hu
 have hlt := (List.getElem?_eq_some_iff.1 hk).1
 have hq : k / sz < es.length := by rw [Nat.div_lt_iff_lt_mul hsz]; have := h.len; omega
 have := zmU (h.rep (k / sz) _ (List.getElem?_eq_getElem hq)) u
 refine this (List.mem_of_getElem? (i := k % sz) ?_)
 rw [List.getElem?_take_of_lt (Nat.mod_lt _ hsz), List.getElem?_drop, Nat.mul_comm, Nat.div_add_mod]
 exact hk
theorem vals1 {vals : Array Value} (h : vals.size = 1) : vals = #[vals.getD 0 undef] := by
 obtain ⟨l⟩ := vals
 match l, h with
 | [a], _ => rfl
theorem vals2 {vals : Array Value} (h : vals.size = 2) : vals = #[vals.getD 0 undef, vals.getD 1 undef] := by
 obtain ⟨l⟩ := vals
 match l, h with
 | [a, b], _ => rfl
theorem vals3 {vals : Array Value} (h : vals.size = 3) : vals = #[vals.getD 0 undef, vals.getD 1 undef, vals.getD 2 undef] := by
 obtain ⟨l⟩ := vals
 match l, h with
 | [a, b, c], _ => rfl
theorem zi6 {P : Program} {ty : Nat → Option TI} {ρ : Go.Shelf.Ren} {i : TI} {fn : Func} (hty : TyOk P ty) (L : Go.Proofs.SlLaysE0.n41 P ρ) (hi : ty (ρ.t 23) = some i) (hsz : 0 < i.sz) (hb16 : i.bytes ≤ 65536) (hf : P.funcs[ρ.f 41]? = some fn) (hn : (fn.name == "runtime.NumGoroutine") = false) (hb : fn.body.isSome = true) : ExtOK P ty B (ρ.f 41) (zb4 (ρ.t 23) i.sz) := by
 constructor
 intro f' args u l rs u' l' hc c vals hcty hI hcs hsz2 hs
 simp only at hc
 split at hc
 · rename_i hff
   subst hff
   unfold zb4 at hc
   split at hc
   · rename_i b es
     split at hc
     · rename_i hw
       simp only [Bool.and_eq_true] at hw
       have hle := Nat.le_of_ble_eq_true hw.2
       injection hc with hc
       injection hc with hc1 hc2
       injection hc2 with hc2 hc3
       subst hc1 hc2 hc3
       have hslot := hs.slots 0
       rw [hcs] at hslot
       have hslot : VR c (.slot 0 []) (.dat (.lst b es)) (vals.getD 0 undef) := hslot
       have hv1 := vals1 hsz2
       obtain ⟨inf, de, z, hfa⟩ := hty.facts hi
       rcases zeQ (gp := c.s.get) hs (fun _ _ h => h) hslot rfl (zhR hw.1) hsz with ⟨rfl, k, hv⟩ | ⟨ad, k, news, hv, hrep, hcell⟩
       · rw [hv] at hv1
         rw [hv1]
         refine zav hf hn hb ((Go.Proofs.AnyE.slices_Clone_nil L 0 k c.W).mono ?_)
         rintro e' w' ⟨rfl, rfl⟩
         exact ⟨_, rfl, zh1 (i := i) (xs' := []) hcs rfl rfl rfl (Nat.le_refl _) (fun _ _ _ => rfl) (fun g hg => by cases hg) (by rw [hcty]; exact hi) (World.ownsRow_nil _ _ _ _) (fun ρ' _ => ⟨by simp, (fun j d hj => by simp at hj), (fun j d hj => by simp at hj)⟩)⟩
       · rw [hv] at hv1
         rw [hv1]
         have hmul : es.length * i.bytes ≤ 1000000 * 65536 := Nat.mul_le_mul hle hb16
         refine zav hf hn hb ((Go.Proofs.clone_any L inf z i.sz i.bytes hfa.info hfa.zero hfa.size hfa.bytes ?_ hsz (fun w => by simp [Go.sizeOf, typeInfo, hfa.info, hfa.size]) ad es.length k news c.W hrep.len (by unfold maxLen; omega) (by omega) hcell (znm hrep hsz)).mono ?_)
         · have h1 := zbD hfa.zs
           have h2 := hfa.zlen
           simpa [h2] using h1
         · rintro e' w' ⟨v', rfl, hown, hbel⟩
           refine ⟨_, rfl, zh1 (i := i) (xs' := news) hcs hbel.os hbel.tape hbel.output hbel.size (fun g hg _ => hbel.block g hg) (fun g hg hlt => absurd hlt (by have := (World.ownsRow.lt hown g hg).1; omega)) (by rw [hcty]; exact hi) (zeD hown (Nat.zero_le _)) fun ρ' hρ => hrep.mono fun b g hr hg => ⟨hρ b g hr hg, hbel.block g hg⟩⟩
     · cases hc
   · cases hc
 · cases hc
end Go.Den
namespace Go.Den
open Go Go.RowKit
set_option linter.unusedVariables false
variable {B : Nat → Option Obj}
theorem zaW (b : Nat) : ∀ (vs : List Value) (o : Nat) (w : World), (w.setCells b o vs).os = w.os ∧ (w.setCells b o vs).tape = w.tape ∧ (w.setCells b o vs).output = w.output ∧ (w.setCells b o vs).heap.size = w.heap.size ∧ ∀ g, g ≠ b → (w.setCells b o vs).heap[g]? = w.heap[g]?
 | [], o, w => ⟨rfl, rfl, rfl, rfl, fun _ _ => rfl⟩
 | v :: vs, o, w => by
   obtain ⟨h1, h2, h3, h4, h5⟩ := zaW b vs (o + 1) (w.setCell ⟨b, o, none⟩ v)
   refine ⟨h1, h2, h3, h4.trans (by simp [World.setCell]), fun g hg => (h5 g hg).trans ?_⟩
   simp only [World.setCell]
   rw [Array.getElem?_modify, if_neg (fun e => hg e.symm)]
theorem zbs (b : Nat) {e : Nat} {fr : Nat × Nat} : ∀ (vs : List Value) (o : Nat) (w : World) (cur : Array Value), w.heap[b]? = some (.cells cur e fr) → ∃ cur', (w.setCells b o vs).heap[b]? = some (.cells cur' e fr) ∧ cur'.size = cur.size ∧ ∀ k, cur'[k]? = if o ≤ k ∧ k < o + vs.length ∧ k < cur.size then vs[k - o]? else cur[k]?
 | [], o, w, cur, h => ⟨cur, h, rfl, fun k => by rw [if_neg (by simp; omega)]⟩
 | v :: vs, o, w, cur, h => by
   have h0 : (w.setCell ⟨b, o, none⟩ v).heap[b]? = some (.cells (cur.setIfInBounds o v) e fr) := by
    simp only [World.setCell]
    rw [Array.getElem?_modify, if_pos rfl, h]
    rfl
   obtain ⟨cur', h1, h2, h3⟩ := zbs b vs (o + 1) _ _ h0
   refine ⟨cur', h1, by rw [h2]; simp, fun k => ?_⟩
   rw [h3 k]
   simp only [Array.size_setIfInBounds, List.length_cons]
   by_cases hk : o + 1 ≤ k ∧ k < o + 1 + vs.length ∧ k < cur.size
   · rw [if_pos hk, if_pos ⟨by omega, by omega, hk.2.2⟩, show k - o = (k - (o + 1)) + 1 by omega, List.getElem?_cons_succ]
   · rw [if_neg hk, Array.getElem?_setIfInBounds]
     by_cases ho : o = k
     · subst ho
       by_cases hc : o < cur.size
       · simp [hc]
       · simp [hc]
     · rw [if_neg ho, if_neg (by omega)]
theorem zbF {w : World} {g e cap : Nat} {cur : Array Value} (hg : w.heap[g]? = some (.cells cur e (0, 0))) (j : Nat) : w.cell? ⟨g, j, none⟩ = cur[j]? ∧ w.frozen? ⟨g, j, none⟩ = false ∧ w.shape? g = some (e, cur.size) := by
 refine ⟨?_, ?_, ?_⟩
 · unfold World.cell?
   simp [hg]
 · unfold World.frozen?
   simp only [hg]
   simp
 · unfold World.shape?
   simp only [hg]
def insZ (zs : List Int) (k : Nat) (z : Int) : List Int := zs.take k ++ z :: zs.drop k
theorem zl5 {zs : List Int} {k : Nat} {z : Int} (h : k ≤ zs.length) : (insZ zs k z).length = zs.length + 1 := by simp [insZ]; omega
theorem zeH {zs : List Int} {k : Nat} {z : Int} (h : k ≤ zs.length) (j : Nat) : (insZ zs k z)[j]? = if j < k then zs[j]? else if j = k then some z else zs[j - 1]? := by
 unfold insZ
 by_cases h1 : j < k
 · rw [if_pos h1, List.getElem?_append_left (by simp; omega), List.getElem?_take_of_lt h1]
 · rw [if_neg h1, List.getElem?_append_right (by simp; omega)]
   have : (zs.take k).length = k := by simp; omega
   rw [this]
   by_cases h2 : j = k
   · rw [if_pos h2, h2, Nat.sub_self]; rfl
   · rw [if_neg h2, show j - k = (j - k - 1) + 1 by omega, List.getElem?_cons_succ, List.getElem?_drop]
     congr 1
     omega
def zhM (e : Nat) (args : List D) (u : List (List D)) (l : List (Option Row)) : Option (List D × List (List D) × List (Option Row)) :=
 match args, u, l with
 | [.own e' es, .dat (.val (.int .i64 k)), .own e2 [.val (.int .i64 z)]], [], [] => match (Nat.beq e' e && Nat.beq e2 e) && (decide (0 ≤ k) && decide (k ≤ es.length)) && Nat.ble es.length 1000000 with
   | true => (zfH es).map fun zs => ([.own e ((insZ zs k.toNat z).map DI)], [], [])
   | false => none
 | _, _, _ => none
theorem zkp {cur : Array Value} {zs : List Int} {n : Nat} (hz : n = zs.length) (h : ∀ j, j < n → cur[j]? = (zs[j]?).map (Value.int .i64)) : cur.toList.take (n * 1) = zs.map (Value.int .i64) := by
 apply List.ext_getElem?
 intro j
 rw [List.getElem?_take, List.getElem?_map, Nat.mul_one]
 split
 · rename_i hj
   rw [Array.getElem?_toList, h j hj]
 · rename_i hj
   rw [List.getElem?_eq_none (by omega)]
   rfl
theorem zgu {cur : Array Value} {zs : List Int} {n : Nat} (ht : cur.toList.take (n * 1) = zs.map (Value.int .i64)) {j : Nat} (hj : j < n) : cur[j]? = (zs[j]?).map (Value.int .i64) := by
 have e1 : (cur.toList.take (n * 1))[j]? = (zs.map (Value.int .i64))[j]? := by rw [ht]
 rw [List.getElem?_take, if_pos (by omega), List.getElem?_map, Array.getElem?_toList] at e1
 exact e1
theorem zft (n : Nat) : (Builtin.zeroCells (Value.int .i64 0).cells n).size = n := by
 have h : (Value.int .i64 0).cells.size = 1 := rfl
 simp [Builtin.zeroCells, h]
theorem znL {P : Program} {ty : Nat → Option TI} {ρ : Go.Shelf.Ren} {fn : Func} (L : Go.Proofs.Lays2.n21 P ρ) (hts : (ty (ρ.t 3)).map TI.sz = some 1) (hf : P.funcs[ρ.f 21]? = some fn) (hn : (fn.name == "runtime.NumGoroutine") = false) (hb : fn.body.isSome = true) : ExtOK P ty B (ρ.f 21) (zhM (ρ.t 3)) := by
 constructor
 obtain ⟨ti, hty, hsz1⟩ := Option.map_eq_some_iff.1 hts
 intro f' args u l rs u' l' hc c vals hcty hI hcs hsz2 hs
 simp only at hc
 split at hc
 · rename_i hff
   subst hff
   unfold zhM at hc
   split at hc
   · rename_i e' es k e2 z
     split at hc
     · rename_i hw
       simp only [Bool.and_eq_true, decide_eq_true_eq] at hw
       obtain ⟨⟨⟨hbe, hbe2⟩, hk0, hk1⟩, hle⟩ := hw
       have hle := Nat.le_of_ble_eq_true hle
       have hbe := Nat.eq_of_beq_eq_true hbe
       have hbe2 := Nat.eq_of_beq_eq_true hbe2
       subst hbe hbe2
       obtain ⟨zs, hz, hq⟩ := Option.map_eq_some_iff.1 hc
       have := zdl hz
       subst this
       injection hq with hc1 hc2
       injection hc2 with hc2 hc3
       subst hc1 hc2 hc3
       have hl : (zs.map DI).length = zs.length := by simp
       have s0 := hs.slots 0
       have s1 := hs.slots 1
       have s2 := hs.slots 2
       rw [hcs] at s0 s1 s2
       have s0 : VR c (.slot 0 []) (.own (ρ.t 3) (zs.map DI)) (vals.getD 0 undef) := s0
       have s1 : VR c (.slot 1 []) (.dat (.val (.int .i64 k))) (vals.getD 1 undef) := s1
       have s2 : VR c (.slot 2 []) (.own (ρ.t 3) [DI z]) (vals.getD 2 undef) := s2
       have hv3 := vals3 hsz2
       rw [(zas s1).1] at hv3
       obtain ⟨hvv, hrow⟩ := s0
       obtain ⟨hvv2, hrow2⟩ := s2
       obtain ⟨i2, xs, g1, g2, g3, g4⟩ := hrow.out
       obtain ⟨i3, xs3, p1, p2, p3, p4⟩ := hrow2.out
       rw [hcty, hty] at g1 p1
       cases g1
       cases p1
       rw [hsz1] at g2 g3 p2 p3
       have hx := zef (zcK g3 (fun d hd => by obtain ⟨z, _, rfl⟩ := List.mem_map.1 hd; exact ⟨_, rfl⟩))
       subst hx
       have hx3 := zef (zs := [z]) (zcK p3 (fun d hd => by obtain ⟨z, _, rfl⟩ := List.mem_map.1 hd; exact ⟨_, rfl⟩))
       subst hx3
       rw [hl] at g2 hk1 hle
       rw [hvv, hvv2] at hv3
       generalize hH : c.H (.slot 0 []) = v0 at *
       generalize hH2 : c.H (.slot 2 []) = v2 at *
       rw [hv3]
       obtain ⟨k, rfl⟩ := Int.eq_ofNat_of_zero_le hk0
       have hk1 : k ≤ zs.length := by omega
       simp only [Int.toNat_natCast] at *
       obtain ⟨_, ho⟩ := g2
       obtain ⟨_, ho2⟩ := p2
       -- the one number that comes in
       rcases ho2 with ⟨_, h0⟩ | ⟨vb, vc, vcur, rfl, _, hvb, hvc, hvm, hvs, hvt⟩
       · cases h0
       have hv0 : ∀ j v, ([Value.int .i64 z] : List Value)[j]? = some v → c.W.cell? ⟨vb, 0 + j, none⟩ = some v := fun j v hj => by
        have hlt := (List.getElem?_eq_some_iff.1 hj).1
        have hj0 : j = 0 := by simpa using hlt
        subst hj0
        rw [(zbF (cap := vc) hvb 0).1, zgu (zs := [z]) (n := 1) hvt (by decide)]
        simpa using hj
       have h1v : ∀ v ∈ ([Value.int .i64 z] : List Value), v.oneCell' = true := fun v hv => by rw [List.mem_singleton] at hv; subst hv; rfl
       have h1c : ∀ v ∈ zs.map (Value.int .i64), v.oneCell' = true := fun v hv => by obtain ⟨_, _, rfl⟩ := List.mem_map.1 hv; rfl
       have hcl : (zs.map (Value.int .i64)).length = zs.length := by simp
       have hil := zl5 (z := z) hk1
       have fin : ∀ (W' : World) (r : Value), W'.os = c.W.os → W'.tape = c.W.tape → W'.output = c.W.output → c.W.heap.size ≤ W'.heap.size → (∀ g, g < c.W.heap.size → stable (c.ρ g) → W'.heap[g]? = c.W.heap[g]?) → (∀ g, r.ownBlock = some g → g < c.W.heap.size → ¬ stable (c.ρ g)) →
        (∃ g cap cur, r = .slice (some ⟨g, 0, none⟩) (zs.length + 1) cap ∧ W'.heap[g]? = some (.cells cur (ρ.t 3) (0, 0)) ∧ zs.length + 1 ≤ cap ∧ cap ≤ maxLen ∧ cur.size = cap ∧ ∀ j, j < zs.length + 1 → cur[j]? = ((insZ zs k z)[j]?).map (Value.int .i64)) →
        ∃ c', c'.W = W' ∧ Ans c [.own (ρ.t 3) ((insZ zs k z).map DI)] [] [] r c' := by
        rintro W' r w1 w2 w3 w4 w5 w6 ⟨g, cap, cur, rfl, hg, hcap, hm, hcs1, hcur⟩
        refine zh1 (i := ti) (xs' := (insZ zs k z).map (Value.int .i64)) hcs w1 w2 w3 w4 w5 w6 (by rw [hcty]; exact hty) ?_ (fun ρ' _ => by rw [hsz1]; exact zgW (zjw _))
        rw [hsz1, List.length_map]
        refine ⟨by simp, .inr ⟨g, cap, cur, by rw [hil], Nat.zero_le _, hg, by omega, hm, by omega, ?_⟩⟩
        exact zkp rfl (by rw [hil]; exact hcur)
       rcases ho with ⟨rfl, hz0⟩ | ⟨g, cap, cur, rfl, _, hg, hcap, hm, hs1, ht⟩
       · -- nil
         have : zs = [] := List.eq_nil_of_length_eq_zero hz0
         subst this
         have hk : k = 0 := by simpa using hk1
         subst hk
         refine zav hf hn hb ((Go.Proofs.Any2.slices_Insert_int_end_grow L none 0 0 vb 0 1 vc [] [Value.int .i64 z] c.W (by decide) (by decide) (by decide) (by decide) rfl rfl (fun _ => rfl) (fun a h => by cases h) hv0 h1v).mono ?_)
         rintro e' w' ⟨rfl, rfl⟩
         have hge : 1 ≤ grownCap c.W 1 0 (ρ.t 3) := grownCap_ge c.W (0 + 1) 0 (ρ.t 3)
         have hlm : grownCap c.W 1 0 (ρ.t 3) ≤ maxLen := grownCap_le_maxLen c.W (0 + 1) 0 (ρ.t 3) (by unfold maxLen; omega)
         refine ⟨_, rfl, fin _ _ rfl rfl rfl (by show c.W.heap.size ≤ (c.W.heap.push _).size; simp) (fun g hg _ => by show (c.W.heap.push _)[g]? = _; rw [Array.getElem?_push, if_neg (by omega)]) (fun g hg hlt => by cases hg; exact absurd hlt (Nat.lt_irrefl _)) ⟨c.W.heap.size, _, _, rfl, by show (c.W.heap.push _)[c.W.heap.size]? = _; rw [Array.getElem?_push, if_pos rfl], hge, hlm, ?_, ?_⟩⟩
         · rw [Array.size_append, zft]; simp; omega
         · intro j hj
           have : j = 0 := by simpa using hj
           subst this
           rw [Array.getElem?_append_left (by simp)]
           simp [insZ]
       · have hgρ := g4 g rfl
         have hvρ := p4 vb rfl
         have hne : vb ≠ g := fun e => by rw [e, hgρ] at hvρ; cases hvρ
         have hglt := (Array.getElem?_eq_some_iff.1 hg).1
         have hunst : ∀ h, h < c.W.heap.size → stable (c.ρ h) → h ≠ g := fun h _ hst e => by rw [e, hgρ] at hst; exact hst
         have hcells : ∀ j v, (zs.map (Value.int .i64))[j]? = some v → c.W.cell? ⟨g, 0 + j, none⟩ = some v := fun j v hj => by
          have hlt := (List.getElem?_eq_some_iff.1 hj).1
          rw [Nat.zero_add, (zbF (cap := cap) hg j).1, zgu ht (by simpa using hlt)]
          rw [List.getElem?_map] at hj
          exact hj
         have hthere : ∀ j, j < cap → (c.W.cell? ⟨g, 0 + j, none⟩).isSome = true := fun j hj => by
          rw [Nat.zero_add, (zbF (cap := cap) hg j).1, Array.getElem?_eq_getElem (by omega)]
          rfl
         have hfrz : ∀ j, c.W.frozen? ⟨g, 0 + j, none⟩ = false := fun j => (zbF (cap := cap) hg _).2.1
         by_cases hroom : zs.length + 1 ≤ cap
         · by_cases hkn : k < zs.length
           · -- there is room
             refine zav hf hn hb ((Go.Proofs.Any2.slices_Insert_int_shift L g 0 zs.length cap k vb 0 1 vc (zs.map (Value.int .i64)) [Value.int .i64 z] c.W hkn (by decide) hroom (by unfold maxLen at hm; omega) hne hcl rfl hcells (fun j hj => hthere j (by omega)) (fun j _ => hfrz j) hv0 h1c h1v _ _ _ _ (zbF (cap := vc) hvb 0).2.2 (zbF (cap := cap) hg 0).2.2 (by omega) (zbF (cap := vc) hvb 0).2.1 (zbF (cap := vc) hvb _).2.1).mono ?_)
             rintro e' w' ⟨rfl, rfl⟩
             obtain ⟨a1, a2, a3, a4, a5⟩ := zaW g [Value.int .i64 z] (0 + k) (c.W.drew.setCells g (0 + (k + 1)) ((zs.map (Value.int .i64)).drop k))
             obtain ⟨b1, b2, b3, b4, b5⟩ := zaW g ((zs.map (Value.int .i64)).drop k) (0 + (k + 1)) c.W.drew
             obtain ⟨cur1, c1, c2, c3⟩ := zbs g ((zs.map (Value.int .i64)).drop k) (0 + (k + 1)) c.W.drew cur hg
             obtain ⟨cur2, d1, d2, d3⟩ := zbs g [Value.int .i64 z] (0 + k) _ cur1 c1
             refine ⟨_, rfl, fin _ _ (a1.trans b1) (a2.trans b2) (a3.trans b3) (by rw [a4, b4]; exact Nat.le_refl _) (fun h hh hst => (a5 h (hunst h hh hst)).trans (b5 h (hunst h hh hst))) (fun h hh _ => by cases hh; rw [hgρ]; exact fun x => x) ⟨g, cap, cur2, rfl, d1, hroom, hm, by omega, fun j hj => ?_⟩⟩
             rw [d3 j, zeH (by omega)]
             by_cases hj1 : j < k
             · rw [if_neg (by omega), if_pos hj1, c3 j, if_neg (by omega), zgu ht (by omega)]
             · rw [if_neg hj1]
               by_cases hj2 : j = k
               · rw [if_pos hj2, if_pos ⟨by omega, by simp; omega, by omega⟩, show j - (0 + k) = 0 by omega]; rfl
               · rw [if_neg hj2, if_neg (by simp; omega), c3 j, if_pos ⟨by omega, by simp; omega, by omega⟩, List.getElem?_drop, List.getElem?_map, show k + (j - (0 + (k + 1))) = j - 1 by omega]
           · have hk : k = zs.length := by omega
             subst hk
             refine zav hf hn hb ((Go.Proofs.Any2.slices_Insert_int_end_room L g 0 zs.length cap vb 0 1 vc [Value.int .i64 z] c.W (by decide) hroom (by unfold maxLen at hm; omega) rfl (fun j hj => by have := hthere (zs.length + j) (by omega); rwa [← Nat.add_assoc] at this) (fun j hj => by have := hfrz (zs.length + j); rwa [← Nat.add_assoc] at this) hv0 h1v).mono ?_)
             rintro e' w' ⟨rfl, rfl⟩
             obtain ⟨a1, a2, a3, a4, a5⟩ := zaW g [Value.int .i64 z] (0 + zs.length) c.W
             obtain ⟨cur2, d1, d2, d3⟩ := zbs g [Value.int .i64 z] (0 + zs.length) _ cur hg
             refine ⟨_, rfl, fin _ _ a1 a2 a3 (by rw [a4]; exact Nat.le_refl _) (fun h hh hst => a5 h (hunst h hh hst)) (fun h hh _ => by cases hh; rw [hgρ]; exact fun x => x) ⟨g, cap, cur2, rfl, d1, hroom, hm, by omega, fun j hj => ?_⟩⟩
             rw [d3 j, zeH (by omega)]
             by_cases hj1 : j < zs.length
             · rw [if_neg (by omega), if_pos hj1, zgu ht (by omega)]
             · have hj2 : j = zs.length := by omega
               rw [if_neg hj1, if_pos hj2, if_pos ⟨by omega, by simp; omega, by omega⟩, show j - (0 + zs.length) = 0 by omega]; rfl
         · have hge := grownCap_ge c.W (zs.length + 1) cap (ρ.t 3)
           have hlm := grownCap_le_maxLen c.W (zs.length + 1) cap (ρ.t 3) (by unfold maxLen; omega)
           by_cases hkn : k < zs.length
           · -- a new row
             refine zav hf hn hb ((Go.Proofs.Any2.slices_Insert_int_grow L g 0 zs.length cap k vb 0 1 vc (zs.map (Value.int .i64)) [Value.int .i64 z] c.W hkn (by decide) hcap (by omega) (by omega) hcl rfl hcells hv0 h1c h1v).mono ?_)
             rintro e' w' ⟨rfl, rfl⟩
             generalize hcp : grownCap c.W (zs.length + 1) cap (ρ.t 3) = cp at *
             let arr : Array Value := ((zs.map (Value.int .i64)).take k).toArray ++ Builtin.zeroCells (Value.int .i64 0).cells (zs.length + 1 - k) ++ Builtin.zeroCells (Value.int .i64 0).cells (cp - (zs.length + 1))
             have harr : arr.size = cp := by simp only [arr, Array.size_append, zft, List.size_toArray, List.length_take, hcl]; omega
             let W1 := c.W.alloc (.cells arr (ρ.t 3))
             have hW1 : W1.heap[c.W.heap.size]? = some (.cells arr (ρ.t 3) (0, 0)) := by show (c.W.heap.push _)[c.W.heap.size]? = _; rw [Array.getElem?_push, if_pos rfl]
             have hW1s : W1.heap.size = c.W.heap.size + 1 := by show (c.W.heap.push _).size = _; simp
             have hW1k : ∀ h, h < c.W.heap.size → W1.heap[h]? = c.W.heap[h]? := fun h hh => by show (c.W.heap.push _)[h]? = _; rw [Array.getElem?_push, if_neg (by omega)]
             obtain ⟨b1, b2, b3, b4, b5⟩ := zaW c.W.heap.size [Value.int .i64 z] k W1.drew
             obtain ⟨cur1, c1, c2, c3⟩ := zbs c.W.heap.size [Value.int .i64 z] k W1.drew arr hW1
             obtain ⟨a1, a2, a3, a4, a5⟩ := zaW c.W.heap.size ((zs.map (Value.int .i64)).drop k) (k + 1) (W1.drew.setCells c.W.heap.size k [Value.int .i64 z]).drew
             obtain ⟨cur2, d1, d2, d3⟩ := zbs c.W.heap.size ((zs.map (Value.int .i64)).drop k) (k + 1) (W1.drew.setCells c.W.heap.size k [Value.int .i64 z]).drew cur1 c1
             refine ⟨_, rfl, fin _ _ (a1.trans b1) (a2.trans b2) (a3.trans b3) (by rw [a4]; show _ ≤ (W1.drew.setCells c.W.heap.size k [Value.int .i64 z]).heap.size; rw [b4]; show _ ≤ W1.heap.size; omega) (fun h hh hst => (a5 h (by omega)).trans ((b5 h (by omega)).trans (hW1k h hh))) (fun h hh hlt => by cases hh; exact absurd hlt (Nat.lt_irrefl _)) ⟨c.W.heap.size, cp, cur2, rfl, d1, hge, hlm, by omega, fun j hj => ?_⟩⟩
             rw [d3 j, zeH (by omega)]
             by_cases hj1 : j < k
             · rw [if_neg (by omega), if_pos hj1, c3 j, if_neg (by omega)]
               show (((zs.map (Value.int .i64)).take k).toArray ++ Builtin.zeroCells (Value.int .i64 0).cells (zs.length + 1 - k) ++ Builtin.zeroCells (Value.int .i64 0).cells (cp - (zs.length + 1)))[j]? = _
               rw [Array.getElem?_append_left (by simp; omega), Array.getElem?_append_left (by simp; omega)]
               simp [List.getElem?_take_of_lt hj1]
             · rw [if_neg hj1]
               by_cases hj2 : j = k
               · rw [if_pos hj2, if_neg (by omega), c3 j, if_pos ⟨by omega, by simp; omega, by omega⟩, show j - k = 0 by omega]; rfl
               · rw [if_neg hj2, if_pos ⟨by omega, by simp; omega, by omega⟩, List.getElem?_drop, List.getElem?_map, show k + (j - (k + 1)) = j - 1 by omega]
           · have hk : k = zs.length := by omega
             subst hk
             refine zav hf hn hb ((Go.Proofs.Any2.slices_Insert_int_end_grow L (some ⟨g, 0, none⟩) zs.length cap vb 0 1 vc (zs.map (Value.int .i64)) [Value.int .i64 z] c.W (by decide) hcap (by omega) (by omega) hcl rfl (fun h => by cases h) (fun a ha j v hj => by cases ha; rw [Addr.add_lit]; exact hcells j v hj) hv0 h1v).mono ?_)
             rintro e' w' ⟨rfl, rfl⟩
             refine ⟨_, rfl, fin _ _ rfl rfl rfl (by show c.W.heap.size ≤ (c.W.heap.push _).size; simp) (fun g hg _ => by show (c.W.heap.push _)[g]? = _; rw [Array.getElem?_push, if_neg (by omega)]) (fun g hg hlt => by cases hg; exact absurd hlt (Nat.lt_irrefl _)) ⟨c.W.heap.size, _, _, rfl, by show (c.W.heap.push _)[c.W.heap.size]? = _; rw [Array.getElem?_push, if_pos rfl], hge, hlm, ?_, ?_⟩⟩
             · rw [Array.size_append, zft]; simp; omega
             · intro j hj
               rw [zeH (by omega), Array.getElem?_append_left (by simp; omega)]
               by_cases hj1 : j < zs.length
               · rw [if_pos hj1]
                 simp [List.getElem?_append_left, hj1]
               · rw [if_neg hj1, if_pos (by omega)]
                 have : j = zs.length := by omega
                 subst this
                 simp
     · cases hc
   · cases hc
 · cases hc
end Go.Den
namespace Go.Den
open Go Go.RowKit
set_option linter.unusedVariables false
variable {B : Nat → Option Obj}
theorem zgR {c : Cx} {args : List D} {W' : World} {ws : List Value} (hcs : c.s = zbr args [] []) (hk : Kept0 c.W W') (hne : ws ≠ []) (hsc : ∀ r ∈ ws, scal r = true) : ∃ c', c'.W = W' ∧ Ans c (ws.map DV) [] [] (retV ws) c' := by
 refine ⟨{ c with W := W', s := ⟨fun x => match Nat.beq x 0 with | true => retD (ws.map DV) | false => .junk, fun _ => none, [], []⟩ }, rfl, Ans.of (zgX ws) ⟨?_, rfl, ?_, ?_, ?_⟩⟩
 · exact ⟨hk.os, hk.tape, hk.output, hk.size, fun g hg _ => ⟨rfl, hk.keep g hg⟩, rfl, fun _ => rfl, fun _ => rfl⟩
 · refine ⟨fun x => ?_, fun r cs hb => ?_, fun j r hgj => ?_⟩
   · show VR _ _ (match Nat.beq x 0 with | true => retD (ws.map DV) | false => .junk) _
     cases hx : Nat.beq x 0 with
     | true =>
       have := Nat.eq_of_beq_eq_true hx
       subst this
       match ws, hne, hsc with
       | [w], _, hsc => exact zaJ (hsc w (by simp))
       | w :: w2 :: ws, _, hsc => exact ⟨w :: w2 :: ws, rfl, fun e => (by cases e), zmE (w :: w2 :: ws) 0 hsc⟩
     | false => trivial
   · cases r with
     | loc n => cases hb
     | up n =>
       have hb' : ([] : List (List D))[n]? = some cs := hb
       simp at hb'
   · have hgj' : (([] : List (Option Row))[j]?).bind id = some r := hgj
     simp at hgj'
 · match ws, hne with
   | [w], _ => rfl
   | w :: w2 :: ws, _ => exact zhN false (w :: w2 :: ws)
 · rw [hcs]
   rfl
def upB : List Int → Bool
 | [] => true
 | [_] => true
 | a :: b :: l => decide (a ≤ b) && upB (b :: l)
theorem zje : ∀ {l : List Int}, upB l = true → l.Pairwise (· ≤ ·)
 | [], _ => .nil
 | [a], _ => List.pairwise_singleton _ _
 | a :: b :: l, h => by
   simp only [upB, Bool.and_eq_true, decide_eq_true_eq] at h
   have h2 := zje h.2
   refine List.pairwise_cons.2 ⟨fun x hx => ?_, h2⟩
   rcases List.mem_cons.1 hx with rfl | hx
   · exact h.1
   · exact Int.le_trans h.1 ((List.pairwise_cons.1 h2).1 x hx)
def zkP (args : List D) (u : List (List D)) (l : List (Option Row)) : Option (List D × List (List D) × List (Option Row)) :=
 match args, u, l with
 | [.dat (.lst _ es), .dat (.val (.int .i64 x))], [], [] => (zfH es).bind fun zs => match upB zs && Nat.ble zs.length 1000000 with
   | true => some ([.int .i64 ((zs.countP (· < x) : Nat) : Int), .bool (zs.contains x)].map DV, [], [])
   | false => none
 | _, _, _ => none
theorem zjV (w : World) (q : Nat) : Kept0 w (w.drewN q) := ⟨rfl, rfl, rfl, Nat.le_refl _, fun _ _ => rfl⟩
theorem bs_ok {P : Program} {ty : Nat → Option TI} {f : Nat} {fn : Func} (hf : P.funcs[f]? = some fn) (hn : (fn.name == "runtime.NumGoroutine") = false) (hb : fn.body.isSome = true)
 (h1 : ∀ (b off n c : Nat) (zs : List Int) (x : Int) (w : World), n ≤ zs.length → n < 4611686018427387904 → (∀ j, j < zs.length → w.cell? ⟨b, off + j, none⟩ = some (.int .i64 (zs.getD j 0))) → (zs.take n).Pairwise (· ≤ ·) →
  Calls P f #[.slice (some ⟨b, off, none⟩) n c, .int .i64 x] w fun e w' => e = .returned (.tuple #[.int .i64 (((zs.take n).countP (· < x) : Nat) : Int), .bool ((zs.take n).contains x)]) ∧ ∃ q, w' = w.drewN q)
 (h0 : ∀ (a : Option Addr) (c : Nat) (x : Int) (w : World), Calls P f #[.slice a 0 c, .int .i64 x] w fun e w' => e = .returned (.tuple #[.int .i64 0, .bool false]) ∧ w' = w) :
 ExtOK P ty B f zkP := by
 constructor
 intro f' args u l rs u' l' hc c vals hcty hI hcs hsz2 hs
 simp only at hc
 split at hc
 · rename_i hff
   subst hff
   unfold zkP at hc
   split at hc
   · rename_i b es x
     obtain ⟨zs, hz, hq⟩ := Option.bind_eq_some_iff.1 hc
     clear hc
     have := zdl hz
     subst this
     clear hz
     split at hq
     · rename_i hw
       simp only [Bool.and_eq_true] at hw
       have hle := Nat.le_of_ble_eq_true hw.2
       injection hq with hq
       injection hq with hc1 hc2
       injection hc2 with hc2 hc3
       subst hc1 hc2 hc3
       have s0 := hs.slots 0
       have s1 := hs.slots 1
       rw [hcs] at s0 s1
       have s0 : VR c (.slot 0 []) (.dat (.lst b (zs.map DI))) (vals.getD 0 undef) := s0
       have s1 : VR c (.slot 1 []) (.dat (.val (.int .i64 x))) (vals.getD 1 undef) := s1
       have hv2 := vals2 hsz2
       rw [(zas s1).1] at hv2
       have hne : ([.int .i64 ((zs.countP (· < x) : Nat) : Int), .bool (zs.contains x)] : List Value) ≠ [] := by simp
       have hsc : ∀ r ∈ ([.int .i64 ((zs.countP (· < x) : Nat) : Int), .bool (zs.contains x)] : List Value), scal r = true := fun r hr => by
        rcases List.mem_cons.1 hr with rfl | hr
        · rfl
        · rw [List.mem_singleton] at hr; subst hr; rfl
       cases hzs : zs with
       | nil =>
         subst hzs
         have h2 := zfp s0
         generalize hd : vals.getD 0 undef = v0 at *
         cases h2 with
         | nil =>
           rw [hv2]
           refine zav hf hn hb ((h0 _ _ x c.W).mono ?_)
           rintro e' w' ⟨rfl, rfl⟩
           exact ⟨_, rfl, zgR hcs ⟨rfl, rfl, rfl, Nat.le_refl _, fun _ _ => rfl⟩ hne hsc⟩
         | lst _ _ _ _ _ _ _ _ =>
           rw [hv2]
           refine zav hf hn hb ((h0 _ _ x c.W).mono ?_)
           rintro e' w' ⟨rfl, rfl⟩
           exact ⟨_, rfl, zgR hcs ⟨rfl, rfl, rfl, Nat.le_refl _, fun _ _ => rfl⟩ hne hsc⟩
       | cons z0 zs0 =>
         rw [← hzs]
         have hfull : ∃ g o n k, vals.getD 0 undef = .slice (some ⟨g, o, none⟩) n k := by
          rw [hzs] at s0
          exact zh5 s0
         obtain ⟨g, o, n, k, hg⟩ := hfull
         have hw1 : ∀ e ∈ zs.map DI, e.cells.length = 1 := fun e he => by obtain ⟨_, _, rfl⟩ := List.mem_map.1 he; rfl
         rcases zeQ (gp := c.s.get) hs (fun _ _ h => h) s0 rfl hw1 (by decide) with ⟨h2, _⟩ | ⟨ad, k2, news, hv, hrep, hcell⟩
         · rw [hzs] at h2; cases h2
         · have hnews := zef (zcK hrep fun d hd => by obtain ⟨z, _, rfl⟩ := List.mem_map.1 hd; exact ⟨_, rfl⟩)
           rw [hg] at hv
           injection hv with hv1 hv3 hv4
           injection hv1 with hv1
           subst hv1 hv3 hv4
           rw [hg] at hv2
           rw [hv2]
           have hl : (zs.map DI).length = zs.length := by simp
           rw [hl]
           refine zav hf hn hb ((h1 g o zs.length k zs x c.W (Nat.le_refl _) (by omega) (fun j hj => ?_) (by rw [List.take_length]; exact zje hw.1)).mono ?_)
           · have := hcell j (.int .i64 (zs.getD j 0)) (by rw [hnews, List.getElem?_map, List.getElem?_eq_getElem hj]; simp [List.getD_eq_getElem?_getD, hj])
             rwa [Addr.add_lit] at this
           · rw [List.take_length]
             rintro e' w' ⟨rfl, q, rfl⟩
             exact ⟨_, rfl, zgR hcs (zjV _ _) hne hsc⟩
     · cases hq
   · cases hc
 · cases hc
end Go.Den
namespace Go.Den
open Go
def tys : List (Nat × TI) := [(3, ⟨.int .i64, 1, 8, [], [.dat (.val (.int .i64 0))]⟩), (4, ⟨.bool, 1, 1, [], [.dat (.val (.bool false))]⟩), (22, ⟨.slice 53, 1, 24, [], [.own 53 []]⟩), (23, ⟨.slice 3, 1, 24, [], [.own 3 []]⟩), (25, ⟨.struct, 4, 80, [(0, 3), (1, 22), (2, 23), (3, 23)], [.dat (.val (.int .i64 0)), .own 53 [], .own 3 [], .own 3 []]⟩), (27, ⟨.slice 41, 1, 24, [], [.own 41 []]⟩), (29, ⟨.struct, 4, 80, [(0, 3), (1, 27), (2, 23), (3, 23)], [.dat (.val (.int .i64 0)), .own 41 [], .own 3 [], .own 3 []]⟩), (41, ⟨.struct, 4, 32, [(0, 4), (1, 3), (2, 3), (3, 3)], [.dat (.val (.bool false)), .dat (.val (.int .i64 0)), .dat (.val (.int .i64 0)), .dat (.val (.int .i64 0))]⟩), (53, ⟨.struct, 4, 32, [(0, 4), (1, 3), (2, 3), (3, 3)], [.dat (.val (.bool false)), .dat (.val (.int .i64 0)), .dat (.val (.int .i64 0)), .dat (.val (.int .i64 0))]⟩), (63, ⟨.other, 1, 8, [], [.dat (.val .nilFunc)]⟩), (64, ⟨.int .u64, 1, 8, [], [.dat (.val (.int .u64 0))]⟩)]
def zc9 {α : Type} : List (Nat × α) → Nat → Option α
 | [], _ => none
 | (a, x) :: l, n => match Nat.beq a n with | true => some x | false => zc9 l n
def zno : List (Nat × List (Nat × List Nat)) := [(13, [(4, [1, 29, 30, 31]), (10, [1, 58, 59, 60]), (18, [1, 139, 140, 141])]), (15, [(8, [1, 4, 8, 9, 10, 49, 50, 51])]), (16, [(3, [0, 3, 4])]), (17, [(3, [0, 3, 4])]), (18, [(5, [1, 3, 32, 33, 34]), (11, [1, 3, 60, 61, 62])]), (22, [(4, [0, 1, 5])]), (23, [(4, [0, 1, 5])]), (24, [(2, [0, 1, 5])]), (25, [(2, [0, 1, 5])]), (26, [(2, [0, 1, 5])]), (27, [(2, [0, 1, 5])]), (28, [(2, [1, 7, 8, 9])]), (36, [(3, [0, 1, 6, 7, 8])]), (41, [(2, [0, 1, 7, 8])]), (46, [(2, [0, 1, 7, 8])]), (49, [(1, [0, 2, 3])])]
def znN : List (Nat × List (Nat × List Nat)) := [(13, [(4, [1, 2]), (10, [1, 2]), (18, [2])]), (15, [(8, [1, 4, 8, 9, 10])]), (16, [(3, [3])]), (17, [(3, [3])]), (18, [(5, [1, 2, 3]), (11, [2])]), (22, [(4, [4])]), (23, [(4, [4])]), (24, [(2, [1])]), (25, [(2, [1])]), (26, [(2, [1, 4])]), (27, [(2, [1, 4])]), (28, [(2, [4])]), (36, [(3, [0, 1, 6, 7])]), (41, [(2, [4])]), (46, [(2, [4])]), (49, [(1, [])])]
def zm1 : List (Nat × List Nat) := [(9, [4, 0]), (24, [1, 0]), (25, [1, 0]), (37, [2, 0, 2]), (1000029, [1])]
def zni : List (Nat × List (Nat × Plan)) := [(3, [(10, (none, [(0, 1, []), (1, 1, []), (2, 4, []), (3, 2, []), (4, 0, [])]))]), (20, [(1, (none, [(0, 0, []), (1, 1, []), (2, 0, []), (3, 1, []), (5, 0, []), (6, 1, []), (8, 0, []), (9, 1, []), (4, 4, []), (7, 4, []), (10, 4, []), (11, 2, []), (12, 2, [])]))]), (22, [(6, (none, [(0, 0, []), (1, 0, []), (2, 0, []), (3, 1, []), (4, 0, []), (5, 0, []), (6, 0, []), (7, 1, []), (8, 2, []), (9, 0, [])]))]), (23, [(6, (none, [(0, 0, []), (1, 0, []), (2, 0, []), (3, 1, []), (4, 0, []), (5, 0, []), (6, 0, []), (7, 1, []), (8, 0, [])]))]), (37, [(11, (none, [(0, 0, []), (1, 0, []), (2, 0, []), (3, 0, []), (4, 0, []), (5, 0, []), (6, 0, []), (7, 0, []), (8, 2, [])])), (15, (none, [(0, 0, []), (1, 0, []), (2, 0, []), (3, 0, []), (4, 0, []), (5, 0, []), (6, 0, []), (7, 0, []), (8, 2, [])]))]), (49, [(3, (none, [(0, 0, []), (1, 0, []), (2, 0, []), (3, 0, []), (4, 0, []), (5, 0, []), (6, 0, []), (7, 1, []), (8, 0, []), (9, 0, []), (10, 0, []), (11, 1, []), (12, 0, []), (13, 2, []), (14, 0, []), (15, 2, [])]))])]
def cfgN : Nat := 66
def skips : List Nat := [0, 1, 2, 34, 35, 36, 37, 42, 43, 44, 45, 47, 48, 49, 50, 51, 52, 53, 54, 55, 56, 57, 58, 59, 60, 61, 62, 63, 64, 65]
def extsOf : List (Nat × (List D → List (List D) → List (Option Row) → Option (List D × List (List D) × List (Option Row)))) := [(34, zb4 41 4), (35, zb4 3 1), (36, zkP), (37, zhM 3)]
def zkg : List Nat := [34, 35, 36, 37]
def zgN : List Nat := []
noncomputable def cfg : Cfg where
 ty := zc9 tys
 fn := fun f => match Nat.blt f cfgN && !memN f skips && (!memN f zkg || memN f zgN) with | true => Go.Proofs.Try.prog.funcs[f]? | false => none
 mode := fun f => (zc9 zm1 f).getD []
 live := fun f r => ((zc9 zno f).bind fun l => zc9 l r).getD []
 out := fun f r => ((zc9 znN f).bind fun l => zc9 l r).getD []
 plan := fun f r => (zc9 zni f).bind fun l => zc9 l r
 liv := fun f => memN f [6, 7, 15, 20]
 ext := zc9 extsOf
end Go.Den
namespace Go.Proofs
open Go.Shelf
def Try.laysNm225_ren : Go.Shelf.Ren := ⟨fun | 25 => 36 | 31 => 42 | 32 => 43 | 37 => 47 | n => n, fun | 22 => 23 | 3 => 3 | 4 => 4 | 40 => 64 | 0 => 0 | n => n, fun | n => n⟩
theorem Try.laysNm225 : Go.Proofs.Lays2.n25 Try.prog Try.laysNm225_ren := {
 mixed := by kernel_rfl
 f25 := Try.func36.trans (congrArg some (by kernel_rfl))
 f31 := Try.func42.trans (congrArg some (by kernel_rfl))
 f32 := Try.func43.trans (congrArg some (by kernel_rfl))
 f37 := Try.func47.trans (congrArg some (by kernel_rfl))
 t0 := Try.underlying0
 a0 := Try.isAgg0
 z0 := Try.sizeOf0
 v0 := Try.zeroValue0
 t3 := Try.underlying3
 a3 := Try.isAgg3
 z3 := Try.sizeOf3
 v3 := Try.zeroValue3
 t4 := Try.underlying4
 a4 := Try.isAgg4
 z4 := Try.sizeOf4
 v4 := Try.zeroValue4
 t22 := Try.underlying23
 a22 := Try.isAgg23
 z22 := Try.sizeOf23
 v22 := Try.zeroValue23
 t40 := Try.underlying64
 a40 := Try.isAgg64
 z40 := Try.sizeOf64
 v40 := Try.zeroValue64 }
open Go.RowKit Go.Lib in
theorem Try.slices_BinarySearch_int (b off n c : Nat) (zs : List Int) (x : Int) (w : World) (hz : n ≤ zs.length) (hbig : n < 4611686018427387904) (hc : ∀ j, j < zs.length → w.cell? ⟨b, off + j, none⟩ = some (.int .i64 (zs.getD j 0))) (hs : (zs.take n).Pairwise (· ≤ ·)) :
 Calls Try.prog 36 #[.slice (some ⟨b, off, none⟩) n c, .int .i64 x] w fun e w' => e = .returned (.tuple #[.int .i64 ((zs.take n).countP (· < x) : Nat), .bool ((zs.take n).contains x)]) ∧ ∃ q, w' = w.drewN q := Any.slices_BinarySearch_int Try.laysNm225 b off n c zs x w hz hbig hc hs
open Go.RowKit Go.Lib in
theorem Try.slices_BinarySearch_int_empty (a : Option Addr) (c : Nat) (x : Int) (w : World) :
 Calls Try.prog 36 #[.slice a 0 c, .int .i64 x] w fun e w' => e = .returned (.tuple #[.int .i64 0, .bool false]) ∧ w' = w := Any.slices_BinarySearch_int_empty Try.laysNm225 a c x w
def Try.laysSlE041_f35_ren : Go.Shelf.Ren := ⟨fun | 41 => 35 | n => n, fun | 22 => 23 | 23 => 3 | 4 => 4 | n => n, fun | n => n⟩
theorem Try.laysSlE041_f35 : Go.Proofs.SlLaysE0.n41 Try.prog Try.laysSlE041_f35_ren := {
 mixed := by kernel_rfl
 f41 := ⟨Try.f35.name, by decide, Try.func35.trans (congrArg some (by kernel_rfl))⟩
 t4 := Try.underlying4
 a4 := Try.isAgg4
 z4 := Try.sizeOf4
 v4 := Try.zeroValue4
 t22 := Try.underlying23
 a22 := Try.isAgg23
 z22 := Try.sizeOf23
 v22 := Try.zeroValue23 }
def Try.laysNm221_ren : Go.Shelf.Ren := ⟨fun | 21 => 37 | 27 => 44 | 28 => 45 | 35 => 48 | 39 => 49 | n => n, fun | 22 => 23 | 3 => 3 | 4 => 4 | 0 => 0 | n => n, fun | n => n⟩
theorem Try.laysNm221 : Go.Proofs.Lays2.n21 Try.prog Try.laysNm221_ren := {
 mixed := by kernel_rfl
 f21 := Try.func37.trans (congrArg some (by kernel_rfl))
 f27 := Try.func44.trans (congrArg some (by kernel_rfl))
 f28 := Try.func45.trans (congrArg some (by kernel_rfl))
 f35 := Try.func48.trans (congrArg some (by kernel_rfl))
 f39 := Try.func49.trans (congrArg some (by kernel_rfl))
 t0 := Try.underlying0
 a0 := Try.isAgg0
 z0 := Try.sizeOf0
 v0 := Try.zeroValue0
 t3 := Try.underlying3
 a3 := Try.isAgg3
 z3 := Try.sizeOf3
 v3 := Try.zeroValue3
 t4 := Try.underlying4
 a4 := Try.isAgg4
 z4 := Try.sizeOf4
 v4 := Try.zeroValue4
 t22 := Try.underlying23
 a22 := Try.isAgg23
 z22 := Try.sizeOf23
 v22 := Try.zeroValue23
 i3 := by kernel_rfl }
def Try.laysSlE041_f34_ren : Go.Shelf.Ren := ⟨fun | 41 => 34 | n => n, fun | 22 => 27 | 23 => 41 | 4 => 4 | n => n, fun | n => n⟩
theorem Try.laysSlE041_f34 : Go.Proofs.SlLaysE0.n41 Try.prog Try.laysSlE041_f34_ren := {
 mixed := by kernel_rfl
 f41 := ⟨Try.f34.name, by decide, Try.func34.trans (congrArg some (by kernel_rfl))⟩
 t4 := Try.underlying4
 a4 := Try.isAgg4
 z4 := Try.sizeOf4
 v4 := Try.zeroValue4
 t22 := Try.underlying27
 a22 := Try.isAgg27
 z22 := Try.sizeOf27
 v22 := Try.zeroValue27 }
end Go.Proofs
namespace Go.Den
open Go.Proofs
open Go
set_option linter.unusedVariables false
theorem zfm {α : Type} {n : Nat} {x : α} : ∀ {l : List (Nat × α)}, zc9 l n = some x → (n, x) ∈ l
 | [], h => by cases h
 | (a, y) :: l, h => by
   unfold zc9 at h
   split at h
   · rename_i hb
     cases h
     rw [beq_eq.1 hb]
     exact List.mem_cons_self
   · exact List.mem_cons_of_mem _ (zfm h)
noncomputable def zm9 : Bool := tys.all fun p => tyIs Try.prog (zc9 tys) p.1 p.2
theorem zmg : zm9 = true := by kernel_rfl
theorem zfx : TyOk Try.prog cfg.ty := fun t i h => (List.all_eq_true.1 zmg) (t, i) (zfm h)
def fnGood (C : Cfg) (f : Nat) : Bool :=
 match C.fn f with
 | some fn => !(fn.name == "runtime.NumGoroutine") && (match fn.body with | some c => zbm fn.ntmps c && zbG C.ty fn.ntmps (C.plan f) c | none => true)
 | none => true
noncomputable def fnsGood : Bool := (List.range cfgN).all (fnGood cfg)
theorem fns_good : fnsGood = true := by kernel_rfl
theorem ziy : Try.prog.follows .mixedOrders = true := by kernel_rfl
theorem zmz {B : Nat → Option Obj} {f : Nat} {fn : Func} (h : cfg.fn f = some fn) : FnOK Try.prog B cfg f fn := by
 have hlt : f < cfgN ∧ Try.prog.funcs[f]? = some fn := by
  unfold cfg at h
  simp only at h
  split at h
  · rename_i hb
    simp only [Bool.and_eq_true] at hb
    have : f + 1 ≤ cfgN := by simpa [Nat.blt] using hb.1.1
    exact ⟨by omega, h⟩
  · cases h
 have hg := (List.all_eq_true.1 fns_good) f (List.mem_range.2 hlt.1)
 unfold fnGood at hg
 rw [h] at hg
 simp only [Bool.and_eq_true, Bool.not_eq_true'] at hg
 refine ⟨hlt.2, hg.1, fun c hc => ?_, fun c hc call _ => ?_⟩
 · have := hg.2
   rw [hc] at this
   simp only [Bool.and_eq_true] at this
   exact this.1
 · have := hg.2
   rw [hc] at this
   simp only [Bool.and_eq_true] at this
   exact zbe (E := ⟨cfg.ty, cfg.mode, fn.ntmps, cfg.live f, cfg.out f, cfg.plan f, call⟩) ziy c this.1 this.2
theorem cfg_e {B : Nat → Option Obj}  {f : Nat} {g : List D → List (List D) → List (Option Row) → Option (List D × List (List D) × List (Option Row))} (h : cfg.ext f = some g) : ExtOK Try.prog cfg.ty B f g := by
 have hm := zfm (show zc9 extsOf f = some g from h)
 simp only [extsOf, List.mem_cons, Prod.mk.injEq, List.not_mem_nil, or_false] at hm
 rcases hm with ⟨rfl, rfl⟩ | ⟨rfl, rfl⟩ | ⟨rfl, rfl⟩ | ⟨rfl, rfl⟩
 · exact zi6 (fn := Try.f34) (i := ⟨.struct, 4, 32, [(0, 4), (1, 3), (2, 3), (3, 3)], [.dat (.val (.bool false)), .dat (.val (.int .i64 0)), .dat (.val (.int .i64 0)), .dat (.val (.int .i64 0))]⟩) zfx Try.laysSlE041_f34 (by kernel_rfl) (by decide) (by decide) (by kernel_rfl) (by kernel_rfl) (by kernel_rfl)
 · exact zi6 (fn := Try.f35) (i := ⟨.int .i64, 1, 8, [], [.dat (.val (.int .i64 0))]⟩) zfx Try.laysSlE041_f35 (by kernel_rfl) (by decide) (by decide) (by kernel_rfl) (by kernel_rfl) (by kernel_rfl)
 · exact bs_ok (fn := Try.f36) (by kernel_rfl) (by kernel_rfl) (by kernel_rfl) (fun b off n c zs x w h1 h2 h3 h4 => Try.slices_BinarySearch_int b off n c zs x w h1 h2 h3 h4) (fun a c x w => Try.slices_BinarySearch_int_empty a c x w)
 · exact znL (fn := Try.f37) Try.laysNm221 (by kernel_rfl) (by kernel_rfl) (by kernel_rfl) (by kernel_rfl)
theorem znv {B : Nat → Option Obj}  : CfgOK Try.prog B cfg := zmk zfx (fun f fn h => zmz h) (fun f g h => cfg_e h)
structure Says (P : Program) (B : Nat → Option Obj) (C : Cfg) : Prop where mk ::
 out : ∀ k, zdd P C.ty B (den C k)
theorem zmX {P : Program} {B : Nat → Option Obj} {C : Cfg} (h : CfgOK P B C) : Says P B C := ⟨zdA h⟩
theorem den_true {B : Nat → Option Obj}  : Says Try.prog B cfg := zmX (znv)
end Go.Den
namespace Go.Den
open Go Go.RowKit Go.ChangeShapes Go.WideShapes Go.Deep
set_option linter.unusedVariables false
inductive WT (ty : Nat → Option TI) : Nat → Dat → Prop where
 | int {t : Nat} {i : TI} {k : IntKind} {n : Int} (ht : ty t = some i) (hk : i.kind = .int k) (h : (Lit.int k n).wf = true) : WT ty t (.val (.int k n))
 | bool {t : Nat} {i : TI} {b : Bool} (ht : ty t = some i) (hk : i.kind = .bool) : WT ty t (.val (.bool b))
 | str {t : Nat} {i : TI} {s : ByteArray} (ht : ty t = some i) (hk : i.kind = .str) (h : s.size ≤ maxLen) : WT ty t (.val (.string s))
 | lst {t : Nat} {i : TI} {e : Nat} {es : List Dat} (ht : ty t = some i) (hk : i.kind = .slice e) (hl : es.length ≤ maxLen) (h : ∀ d ∈ es, WT ty e d) : WT ty t (.lst false es)
 | agg {t : Nat} {i : TI} {cs : List Dat} (ht : ty t = some i) (hk : i.kind = .struct) (hl : cs.length = i.fs.length) (h : ∀ (j : Nat) (f : Nat × Nat) (d : Dat), i.fs[j]? = some f → cs[j]? = some d → WT ty f.2 d) : WT ty t (.agg cs)
def zcn (ty : Nat → Option TI) : Nat → Nat → Bool
 | 0, _ => false
 | n + 1, t => match ty t with
   | none => false
   | some i => match i.kind with
     | .int _ => true
     | .bool => true
     | .str => true
     | .slice e => zcn ty n e && (match ty e with | some j => Nat.blt 0 j.sz | none => false)
     | .struct => Nat.beq i.sz i.fs.length && (List.range i.fs.length).all fun j => match i.fs[j]? with
       | some f => Nat.beq f.1 j && (zcn ty n f.2 && (match ty f.2 with | some k => Nat.beq k.sz 1 && !k.agg | none => false))
       | none => false
     | .map _ _ => false
     | .other => false
theorem zei {P : Program} {ty : Nat → Option TI} {t : Nat} {i : TI} {inf : TypeInfo} {d : TypeDesc} {z : Value} (h : TyFacts P ty t i inf d z) : P.cellsOf t = i.sz := by
 unfold Program.cellsOf
 rw [h.info]
 simpa using h.size
theorem zke {w : World} {a : Addr} {v : Value} (h : w.cell? a = some v) : a.spot = none := by
 unfold World.cell? at h
 split at h
 · split at h
   · cases h
   · rename_i hs
     simpa using hs
 · cases h
theorem zlH {a : Addr} (h : a.spot = none) : a = ⟨a.block, a.off, none⟩ := by cases a; simp at h; subst h; rfl
theorem zk1 {P : Program} {ty : Nat → Option TI} (hty : TyOk P ty) : ∀ (n t : Nat), zcn ty n t = true → ∀ {H : Type} (enc : TypeId × Value → H) (w : World) (base : Nat) (spare : Nat → Bool) (held : Bool) (fuel : Nat) (cs : List Value) (x : DataW H × List MemPlace),
 DataW.trod enc P w base spare held fuel t cs = some x → ∃ d, Rep (fun _ => .set) w d cs ∧ WT ty t d
 | 0, t, hp => by cases hp
 | n + 1, t, hp => by
   intro enc w base spare held fuel cs x h
   unfold zcn at hp
   split at hp
   · cases hp
   · rename_i i hi
     obtain ⟨inf, de, z, hf⟩ := hty.facts hi
     have hkk := hf.kind
     split at hp
     · rename_i k hk
       have hu : P.underlying t = some (.int k) := by
        rw [hf.und]
        cases de <;> simp [zaK, hk] at hkk ⊢
        exact hkk
       obtain ⟨m, rfl, _, hw⟩ := DataW.trod_int hu h
       exact ⟨.val (.int k m), .val rfl, .int hi hk hw⟩
     · rename_i hk
       have hu : P.underlying t = some .bool := by
        rw [hf.und]
        cases de <;> simp [zaK, hk] at hkk ⊢
       obtain ⟨m, rfl, _⟩ := DataW.trod_bool hu h
       exact ⟨.val (.bool m), .val rfl, .bool hi hk⟩
     · rename_i hk
       have hu : P.underlying t = some .string := by
        rw [hf.und]
        cases de <;> simp [zaK, hk] at hkk ⊢
       obtain ⟨m, rfl, _, hs⟩ := DataW.trod_string hu h
       exact ⟨.val (.string m), .val rfl, .str hi hk hs⟩
     · rename_i e hk
       simp only [Bool.and_eq_true] at hp
       obtain ⟨hp1, hp2⟩ := hp
       have hu : P.underlying t = some (.slice e) := by
        rw [hf.und]
        cases de <;> simp [zaK, hk] at hkk ⊢
        exact hkk.1
       cases hj : ty e with
       | none => rw [hj] at hp2; cases hp2
       | some j =>
       rw [hj] at hp2
       have hsz : 0 < j.sz := by
        have : 0 + 1 ≤ j.sz := by simpa [Nat.blt] using hp2
        omega
       obtain ⟨_, _, _, hfe⟩ := hty.facts hj
       have hce := zei hfe
       rcases open_slice hu h with ⟨rfl, _⟩ | ⟨a, len, cap, m, n', D, Pl, rfl, _, hl, hm, hmm, _, hx⟩
       · exact ⟨.lst false [], .nil, .lst hi hk (Nat.zero_le _) (fun d hd => by cases hd)⟩
       · have hlm : len ≤ m := by rw [hmm]; split <;> omega
         have hex : ∀ k, k < len → ∃ p : Dat × List Value, Rep (fun _ => .set) w p.1 p.2 ∧ WT ty e p.1 ∧ p.2.length = j.sz ∧ ∀ i u, p.2[i]? = some u → w.cell? (a.add (k * j.sz + i)) = some u := by
          intro k hlt
          obtain ⟨cs', hc, ht'⟩ := hx k (by omega)
          obtain ⟨d, hr, hw⟩ := zk1 hty n e hp1 enc w base spare held n' cs' _ ht'
          obtain ⟨_, hcl, hat⟩ := World.cells?_some hc
          rw [hce] at hcl hat
          refine ⟨(d, cs'), hr, hw, hcl, fun i u hu => ?_⟩
          have hi2 : i < j.sz := by rw [← hcl]; exact (List.getElem?_eq_some_iff.1 hu).1
          have := hat i hi2
          rw [Go.Deep.add_add] at this
          rw [this, hu]
         cases len with
         | zero => exact ⟨.lst false [], .nil, .lst hi hk (Nat.zero_le _) (fun d hd => by cases hd)⟩
         | succ len =>
           obtain ⟨p0, q1, q2, q3, q4⟩ := hex 0 (by omega)
           haveI : Inhabited (Dat × List Value) := ⟨p0⟩
           obtain ⟨f, hfx⟩ := choose_lt hex
           have hpos : 0 < p0.2.length := by omega
           have h0 := q4 0 _ (List.getElem?_eq_getElem hpos)
           have hspot : a.spot = none := by
            have := zke h0
            simpa [Addr.add] using this
           have hal := zlH hspot
           have hlt := World.block_lt_of_cell? w _ h0
           have hblk : a.block < w.heap.size := by simpa [Addr.add] using hlt
           refine ⟨.lst false ((List.range (len + 1)).map fun k => (f k).1), ?_, .lst hi hk (by simp; omega) ?_⟩
           · have hlen : ((List.range (len + 1)).map fun k => (f k).1).length = len + 1 := by simp
             have hat : ∀ (k : Nat) (d : Dat), ((List.range (len + 1)).map fun k => (f k).1)[k]? = some d → k < len + 1 ∧ d = (f k).1 := fun k d hd => by
              have hk2 : k < len + 1 := by
               have := (List.getElem?_eq_some_iff.1 hd).1
               simpa using this
              rw [List.getElem?_map, List.getElem?_range hk2] at hd
              exact ⟨hk2, by simpa using hd.symm⟩
             have hres := Rep.lst (ρ := fun _ => Role.set) (W := w) (b := false) (es := (List.range (len + 1)).map fun k => (f k).1) (g := a.block) (o := a.off) (c := cap) (sz := j.sz) (fun k => (f k).2) (by rw [hlen]; exact hl) hm (.inl rfl) hblk
              (fun k d hd => (hfx k (hat k d hd).1).2.2.1) (fun k d hd i u hu => by
               have := (hfx k (hat k d hd).1).2.2.2 i u hu
               rw [hal, Addr.add_lit, ← Nat.add_assoc] at this
               exact this) (fun k d hd => by
               obtain ⟨h1, rfl⟩ := hat k d hd
               exact (hfx k h1).1)
             rw [hlen] at hres
             rw [hal]
             exact hres
           · intro d hd
             obtain ⟨k, hk1, rfl⟩ := List.mem_map.1 hd
             exact (hfx k (by simpa using hk1)).2.1
     · rename_i hk
       have ha : i.agg = true := by unfold TI.agg; rw [hk]
       simp only [Bool.and_eq_true] at hp
       obtain ⟨hsz, hall⟩ := hp
       have hsz := Nat.eq_of_beq_eq_true hsz
       obtain ⟨fs, h1, h2, h3⟩ := hf.struct ha
       obtain ⟨xs, n', _, _, hl, hlen, hg⟩ := DataW.trod_struct h1 h
       rw [zei hf, hsz] at hl
       have hone : ∀ (j : Nat) (f : Nat × Nat), i.fs[j]? = some f → f.1 = j ∧ zcn ty n f.2 = true ∧ ∃ k, ty f.2 = some k ∧ k.sz = 1 ∧ k.agg = false := fun j f hj => by
        have hjl := (List.getElem?_eq_some_iff.1 hj).1
        have := (List.all_eq_true.1 hall) j (List.mem_range.2 hjl)
        rw [hj] at this
        simp only [Bool.and_eq_true] at this
        obtain ⟨a1, a2, a3⟩ := this
        refine ⟨Nat.eq_of_beq_eq_true a1, a2, ?_⟩
        cases hk2 : ty f.2 with
        | none => rw [hk2] at a3; cases a3
        | some k =>
          rw [hk2] at a3
          simp only [Bool.and_eq_true, Bool.not_eq_true'] at a3
          exact ⟨k, rfl, Nat.eq_of_beq_eq_true a3.1, a3.2⟩
       have hex : ∀ k, k < cs.length → ∃ d : Dat, ∃ v f, cs[k]? = some v ∧ i.fs[k]? = some f ∧ d.cells = [d] ∧ Rep (fun _ => .set) w d [v] ∧ WT ty f.2 d := by
        intro k hkl
        obtain ⟨ff, hfk⟩ : ∃ ff, i.fs[k]? = some ff := ⟨_, List.getElem?_eq_getElem (show k < i.fs.length by omega)⟩
        have hck := List.getElem?_eq_getElem hkl
        obtain ⟨o1, o2, kk, o3, o4, o5⟩ := hone k _ hfk
        obtain ⟨_, _, _, hfk2⟩ := hty.facts o3
        have hfl : ∃ fl, fs[k]? = some fl ∧ fl.offset = k ∧ fl.type = ff.2 := by
         have h4 := hfk
         rw [← h2, List.getElem?_map] at h4
         simp only [Option.map_eq_some_iff] at h4
         obtain ⟨fl, h5, h6⟩ := h4
         refine ⟨fl, by simpa using h5, ?_, ?_⟩
         · rw [← o1, ← h6]
         · rw [← h6]
        obtain ⟨fl, h5, h6, h7⟩ := hfl
        have h8 := hg k fl h5
        have hxk : ∃ y, xs[k]? = some y := ⟨_, List.getElem?_eq_getElem (by have := (Array.getElem?_eq_some_iff.1 h5).1; omega)⟩
        obtain ⟨y, hy⟩ := hxk
        rw [hy, h6, h7, zei hfk2, o4] at h8
        have h9 : (cs.drop k).take 1 = [cs[k]] := by
         rw [List.drop_eq_getElem_cons hkl]; rfl
        rw [h9] at h8
        obtain ⟨d, hr, hw⟩ := zk1 hty n _ o2 enc w base spare held n' _ _ h8
        refine ⟨d, cs[k], _, hck, hfk, ?_, hr, hw⟩
        cases hw with
        | agg ht' hk' _ _ =>
          rw [o3] at ht'
          cases ht'
          unfold TI.agg at o5
          rw [hk'] at o5
          cases o5
        | _ => rfl
       haveI : Inhabited Dat := ⟨.val (.bool false)⟩
       obtain ⟨f, hfx⟩ := choose_lt hex
       have hat : ∀ (k : Nat) (d : Dat), ((List.range cs.length).map f)[k]? = some d → k < cs.length ∧ d = f k := fun k d hd => by
        have hk2 : k < cs.length := by
         have := (List.getElem?_eq_some_iff.1 hd).1
         simpa using this
        rw [List.getElem?_map, List.getElem?_range hk2] at hd
        exact ⟨hk2, by simpa using hd.symm⟩
       refine ⟨.agg ((List.range cs.length).map f), .agg (by simp) (fun k d v hd hv => ?_) (fun k d v hd hv => ?_), .agg hi hk (by simp; omega) (fun k ff d hff hd => ?_)⟩
       · obtain ⟨h4, rfl⟩ := hat k d hd
         obtain ⟨v', f', e1, e2, e3, e4, e5⟩ := hfx k h4
         exact e3
       · obtain ⟨h4, rfl⟩ := hat k d hd
         obtain ⟨v', f', e1, e2, e3, e4, e5⟩ := hfx k h4
         rw [hv] at e1
         cases e1
         exact e4
       · obtain ⟨h4, rfl⟩ := hat k d hd
         obtain ⟨v', f', e1, e2, e3, e4, e5⟩ := hfx k h4
         rw [hff] at e2
         cases e2
         exact e5
     · cases hp
     · cases hp
end Go.Den
namespace Go.Den
open Go Go.RowKit Go.ChangeShapes Go.WideShapes
open Go.ChangeMaps (open_string shut_string)
set_option linter.unusedVariables false
variable {B : Nat → Option Obj}
theorem zgx {P : Program} {ty : Nat → Option TI} (hty : TyOk P ty) {n t : Nat} (hp : zcn ty n t = true) {H : Type} {enc : TypeId × Value → H} {w : World} {base b0 : Nat} {spare : Nat → Bool} {held : Bool} {r : Reach} {v : Value} {y : DataW H} {p : List MemPlace}
 (hv : Value.okWide P w r b0 t v) (h : DataW.Trod enc P w base spare held t v y p) : ∃ d cv, Rep (fun _ => .set) w d cv ∧ IsV d cv v ∧ WT ty t d := by
 obtain ⟨fuel, hf⟩ := id h
 obtain ⟨d, hr, hw⟩ := zk1 hty n t hp enc w base spare held fuel _ _ hf
 refine ⟨d, v.cells.toList, hr, ?_, hw⟩
 cases hw with
 | int ht hk _ =>
   rename_i i k m _
   obtain ⟨_, de, _, hfa⟩ := hty.facts ht
   have hkk := hfa.kind
   have hu : P.underlying t = some (.int k) := by
    rw [hfa.und]
    cases de <;> simp [zaK, hk] at hkk ⊢
    exact hkk
   obtain ⟨a, rfl, _⟩ := open_int hu hv h
   rfl
 | bool ht hk =>
   obtain ⟨_, de, _, hfa⟩ := hty.facts ht
   have hkk := hfa.kind
   have hu : P.underlying t = some .bool := by
    rw [hfa.und]
    cases de <;> simp [zaK, hk] at hkk ⊢
   obtain ⟨a, rfl, _⟩ := open_bool hu hv h
   rfl
 | str ht hk _ =>
   obtain ⟨_, de, _, hfa⟩ := hty.facts ht
   have hkk := hfa.kind
   have hu : P.underlying t = some .string := by
    rw [hfa.und]
    cases de <;> simp [zaK, hk] at hkk ⊢
   obtain ⟨a, rfl, _⟩ := open_string hu hv h
   rfl
 | lst ht hk _ _ =>
   rename_i i e es _ _
   obtain ⟨_, de, _, hfa⟩ := hty.facts ht
   have hkk := hfa.kind
   have hu : P.underlying t = some (.slice e) := by
    rw [hfa.und]
    cases de <;> simp [zaK, hk] at hkk ⊢
    exact hkk.1
   obtain ⟨a, len, cap, rfl⟩ := okWide_slice hu hv
   rfl
 | agg ht hk _ _ =>
   rename_i i cs _ _
   obtain ⟨_, _, _, hfa⟩ := hty.facts ht
   have ha : i.agg = true := by unfold TI.agg; rw [hk]
   obtain ⟨fs, h1, _, _⟩ := hfa.struct ha
   obtain ⟨xs, rfl, _⟩ := okWide_struct h1 hv
   show Value.agg xs = .agg (Value.cells (.agg xs)).toList.toArray
   simp [Value.cells]
theorem zkd {P : Program} {C : Cfg} {f : Nat} {fn : Func} {vals : Array Value} {ds : List Dat} {W : World} {b : Bool} (hS : ∀ k, zdd P C.ty B (den C k)) (hF : FnOK P B C f fn) (hb : fn.body.isSome = true) (hl : vals.size = ds.length)
 (hd : ∀ (j : Nat) (d : Dat) (v : Value), ds[j]? = some d → vals[j]? = some v → ∃ cv, Rep (fun _ => .set) W d cv ∧ IsV d cv v) (hB : ∀ (g : Nat) (o : Obj), B g = some o → W.heap[g]? = some o) (h : ∃ k, den C k f (ds.map .dat) [] [] = some ([.dat (.val (.bool b))], [], [])) :
 Calls P f vals W fun e W' => e = .returned (.bool b) ∧ Below W.heap.size W W' := by
 obtain ⟨k, hk⟩ := h
 let c : Cx := { ty := C.ty, ρ := fun _ => .set, β := fun _ => 0, H := fun _ => undef, W := W, s := zbr (ds.map .dat) [] [] }
 have hsim : Sim c vals := by
  refine ⟨fun y => ?_, fun r cs hb => ?_, fun j r hg => ?_⟩
  · show VR c (.slot y []) ((ds.map .dat).getD y .undef) (vals.getD y undef)
    by_cases hy : y < ds.length
    · have h1 := List.getElem?_eq_getElem hy
      have h2 : vals[y]? = some (vals[y]'(by omega)) := Array.getElem?_eq_getElem (by omega)
      have e1 : (ds.map D.dat).getD y .undef = .dat ds[y] := by simp [List.getD_eq_getElem?_getD, hy]
      have e2 : vals.getD y undef = vals[y]'(by omega) := by simp [Array.getD, show y < vals.size by omega]
      rw [e1, e2]
      exact hd y _ _ h1 h2
    · have e1 : (ds.map D.dat).getD y .undef = .undef := by simp [List.getD_eq_getElem?_getD, hy]
      have e2 : vals.getD y undef = undef := by simp [Array.getD, show ¬ y < vals.size by omega]
      rw [e1, e2]
      rfl
  · cases r with
    | loc n => cases hb
    | up n =>
      have hb' : ([] : List (List D))[n]? = some cs := hb
      simp at hb'
  · have hg' : (([] : List (Option Row))[j]?).bind id = some r := hg
    simp at hg'
 have hr := hS k f _ _ _ _ _ _ hk c vals rfl (fun g o hg => ⟨trivial, hB g o hg⟩) rfl (by simpa using hl) hsim
 have hent : (callFunc f vals).run P W = .ok (.enter f vals) W := by
  have h1 : fn.name ≠ "runtime.NumGoroutine" := by simpa using hF.name
  obtain ⟨code, hbd⟩ := Option.isSome_iff_exists.1 hb
  simp [callFunc, hF.there, h1, hbd, mark]
 unfold Reaches at hr
 have hent' : (callFunc f vals).run P c.W = .ok (.enter f vals) W := hent
 rw [hent'] at hr
 refine Calls.mono hr fun e W' he => ?_
 cases e with
 | returned v =>
   obtain ⟨c', rfl, ha⟩ := he
   have ha := ha.plain rfl
   refine ⟨?_, ha.ext.os, ha.ext.tape, ha.ext.output, ha.ext.size, fun g hg => (ha.ext.keep g hg trivial).2⟩
   have hv := ha.sim.slots 0
   rw [ha.s] at hv
   have hv' : VR c' (.slot 0 []) (.dat (.val (.bool b))) v := hv
   rw [(zas hv').1]
 | _ => exact he.elim
end Go.Den
