/- Merged out of: D31 D32 D37 D38 D39 Shelf CN D40 DK D41 D42 D43 (prune.py, a program of this work's). -/
import Derived.Test.YtcmcfebihbmmeaaDoorZm4
import Derived.Sort.Grow
import Derived.Sort.Row
import Derived.Lib.SlicesCompact
import Derived.Shelf.Spec.SlicesInsert
import Derived.Shelf.Spec.SlicesInsertGrow
import Derived.Shelf.Strconv.Atoi
import Derived.Shelf.Strconv.Itoa0
import Derived.Shelf.Strconv.Itoa1
import Derived.Shelf.LaysM
import Derived.Shelf.Strconv.Itoa2
import Derived.Shelf.Strconv.Itoa3
import Derived.Shelf.Strconv.AtoiErrFast
import Derived.Shelf.Strconv.ParseIntEmpty
import Derived.Shelf.Strconv.AtoiFail
import Derived.Shelf.Strconv.Clone
import Derived.Shelf.Strconv.SyntaxError
import Derived.Shelf.LaysC
import Derived.Shelf.Strconv.ToError
import Derived.Shelf.Strconv.AtoiErr
import Derived.Shelf.Strconv.ErrVar
import Derived.Shelf.Strconv.AppendUint10
import Derived.Shelf.Strconv.AppendInt10
import Derived.Shelf.Strconv.AppendIntPublic10
import Derived.Shelf.Slices.Turned
import Derived.Shelf.Slices.Reverse
import Derived.Ground.Names2Prog
import Derived.Shelf.Slices.SearchI
import Derived.Shelf.Slices.Delete
import Derived.Shelf.Slices.Cells
import Derived.Shelf.Slices.Empties
import Derived.Ground.SlgnProg
import Derived.Shelf.SlicesE.Clone
import Derived.Test.YtcmcfebihbmmeaaDoorProg
import Derived.Test.YtcmcfebihbmmeaaDoorChecked
import Derived.WalkKit
import Derived.Deep.RegionWith
import Derived.Laws.IdiomStrings
import Derived.KernelRfl
set_option linter.unusedVariables false
set_option linter.unusedSimpArgs false
set_option linter.unnecessarySimpa false
namespace Go.Den
open Go Go.RowKit
set_option linter.unusedVariables false
variable {B : Nat → Option Obj}
def Gd (c0 : Cx) (a0 : Act) : Option (List Nat) → Nat → Prop
 | none, _ => True
 | some M, g => (g < c0.W.heap.size ∧ stable (c0.ρ g)) ∨ ∃ n ∈ M, a0.tmps.getD n undef = .pointer (some ⟨g, 0, none⟩)
def RG (G : Nat → Prop) (w w' : World) : Prop := w.heap.size ≤ w'.heap.size ∧ ∀ g, g < w.heap.size → G g → w'.heap[g]? = w.heap[g]?
theorem RG.refl {G : Nat → Prop} (w : World) : RG G w w := ⟨Nat.le_refl _, fun _ _ _ => rfl⟩
theorem RG.trans {G : Nat → Prop} (a b c : World) (h : RG G a b) (k : RG G b c) : RG G a c :=
 ⟨Nat.le_trans h.1 k.1, fun g hg hG => (k.2 g (Nat.lt_of_lt_of_le hg h.1) hG).trans (h.2 g hg hG)⟩
theorem RG.of_below {G : Nat → Prop} {w w' : World} (h : Below w.heap.size w w') : RG G w w' := ⟨h.size, fun g hg _ => h.block g hg⟩
theorem zhI {a : Act} {x : Option Nat} {v : Value} {y : Nat} (h : x ≠ some y) : (a.put x v).tmps.getD y undef = a.tmps.getD y undef := by
 cases x with
 | none => rfl
 | some x =>
   have hxy : x ≠ y := fun e => h (by rw [e])
   simp [Act.put, Array.getD_eq_getD_getElem?, Array.getElem?_setIfInBounds_ne hxy]
def AllocAt (ops : Array Oper) (c0 c : Cx) (a : Act) (j g : Nat) : Prop :=
 ∃ o t n i vs T, ops[j]? = some o ∧ o.op = .alloc t ∧ o.dst = some n ∧ c.ty t = some i ∧ c0.W.heap.size ≤ g ∧ c.ρ g = .oth ∧ c.W.heap[g]? = some (.cells (List.toArray vs) T (0, 0)) ∧ a.tmps.getD n undef = .pointer (some ⟨g, 0, none⟩) ∧ ∀ c' Y, c'.ty = c.ty → zdE (Cx.nilH c' Y) Y i.zero vs
theorem AllocAt.step {ops : Array Oper} {c0 c c' : Cx} {a a' : Act} {j g : Nat} {x : Option Nat} {v : Value} (h : AllocAt ops c0 c a j g) (he : Ext c c') (ha : a'.tmps = (a.put x v).tmps) (hx : ∀ o n, ops[j]? = some o → o.dst = some n → x ≠ some n) : AllocAt ops c0 c' a' j g := by
 obtain ⟨o, t, n, i, vs, T, h1, h2, h3, h4, h5, h6, h7, h8, h9⟩ := h
 have hlt := (Array.getElem?_eq_some_iff.1 h7).1
 obtain ⟨h10, h11⟩ := he.keep g hlt (by rw [h6]; trivial)
 refine ⟨o, t, n, i, vs, T, h1, h2, h3, by rw [he.ty]; exact h4, h5, h10.trans h6, h11.trans h7, ?_, fun c' Y e => h9 c' Y (by rw [e, he.ty])⟩
 rw [ha, zhI (hx o n h1 h3)]
 exact h8
structure Inv (P : Program) (B : Nat → Option Obj) (E : Env) (ops : Array Oper) (X : Nat) (Mo : Option (List Nat)) (c0 : Cx) (a0 : Act) (first : Bool) (A : List Nat) (blk : Nat → Nat) (c : Cx) (a : Act) : Prop where
 base : Firm B c0
 fr : Fr X c a
 env : EnvOK P B E c a
 ext : Ext c0 c
 sz : a.tmps.size = a0.tmps.size
 df : a.defers = a0.defers
 mtm : ∀ M, Mo = some M → ∀ n ∈ M, a.tmps.getD n undef = a0.tmps.getD n undef
 fst : first = true → ∀ b g, Rd c.ρ b g → g < c.W.heap.size → g < c0.W.heap.size ∧ stable (c0.ρ g)
 al : ∀ j, memN j A = true → AllocAt ops c0 c a j (blk j)
 dis : ∀ j k, memN j A = true → memN k A = true → j ≠ k → blk j ≠ blk k
theorem zhl {α : Type} {E : Env} {ops : Array Oper} {c : Cx} {a : Act} {o : Oper} {k z : St → Option α} {r : α} (hs : Sim c a.tmps) (hops : ∀ o ∈ ops.toList, zbg E.nt o = true) (hsz : a.tmps.size = E.nt) (h : zbO ops c.s o.guard k z = some r) :
 (Region.wanted o (yielded ops a.tmps) = true ∧ k c.s = some r) ∨ (Region.wanted o (yielded ops a.tmps) = false ∧ z c.s = some r) := by
 unfold zbO at h
 split at h
 · rename_i hg
   exact .inl ⟨by simp [Region.wanted, hg], h⟩
 · rename_i j want hg
   split at h
   · cases h
   · rename_i n hn
     have hnlt : n < a.tmps.size := by
      cases hj : ops[j]? with
      | none => rw [hj] at hn; cases hn
      | some oj =>
        rw [hj] at hn
        rw [hsz]
        exact zaY (hops oj (by have := Array.mem_of_getElem? hj; exact Array.mem_toList_iff.2 this)) n hn
     obtain ⟨h1, h2⟩ := zh0 (ops := ops) (j := j) hs hnlt hn
     split at h
     · rename_i b hb
       have hy := h1 _ hb
       cases b with
       | true =>
         simp only at h
         rw [zdo hb] at h
         cases want with
         | true => exact .inl ⟨by simp [Region.wanted, hg, hy], h⟩
         | false => exact .inr ⟨by simp [Region.wanted, hg, hy], h⟩
       | false =>
         simp only at h
         rw [zdo hb] at h
         cases want with
         | true => exact .inr ⟨by simp [Region.wanted, hg, hy], h⟩
         | false => exact .inl ⟨by simp [Region.wanted, hg, hy], h⟩
     · rename_i hb
       have hy := h2 hb
       exact .inr ⟨by simp [Region.wanted, hg, hy], h⟩
     · cases h
theorem zlf {c : Cx} {a : Act} {X : Nat} {x : Option Nat} (hf : Fr X c a) (hd : ∀ n : Nat, x = some n → n < a.tmps.size) : Fr X { c with s := c.s.putO x .undef } (a.put x undef) ∧ Ext c { c with s := c.s.putO x .undef } := by
 cases x with
 | none => exact ⟨hf, Ext.refl c⟩
 | some n =>
   have hlt := hd n rfl
   have hne : X ≠ n := Nat.ne_of_gt (Nat.lt_of_lt_of_le hlt hf.ghost.out)
   have hsim := (Grown.refl c n).put hf.sim hlt (show VR c (.slot n []) .undef undef from rfl)
   exact ⟨⟨hsim, by simpa [Act.put] using hf.ghost.out, zbb hne hf.ghost.own⟩, (Ext.refl c).setS _⟩
theorem zn0 {s : St} {n : Nat} (h : zpc s n = true) : ∃ r, s.t n = .ptr r 0 ∧ (s.box r).isSome = true := by
 unfold zpc at h
 split at h
 · rename_i r o ht
   simp only [Bool.and_eq_true] at h
   rw [beq_eq.1 h.1] at ht
   exact ⟨r, ht, h.2⟩
 · cases h
theorem zbD (a : Act) (x : Option Nat) (v : Value) : (a.put x v).tmps.size = a.tmps.size := by cases x <;> simp [Act.put]
theorem zbf (a : Act) (x : Option Nat) (v : Value) : (a.put x v).defers = a.defers := by cases x <;> rfl
theorem zaI {s : St} {x : Nat} {d : D} (h : (s.t x).hasOwn = false) : s.put x d = { s with t := fun y => match Nat.beq y x with | true => d | false => s.t y } := by
 simp only [St.put, h]
 rfl
theorem zid {s : St} {x : Nat} {d : D} : (s.put x d).box = s.box := by
 funext r
 unfold St.put
 cases h : (s.t x).hasOwn <;> cases r <;> rfl
theorem zfO {s s' : St} {o : Oper} {y : Nat} {ef : Ef} (hy : o.dst = some y) (h : s.apply o.dst ef = some s') (hj : (s.t y).hasOwn = false) {w : Nat} (hw : w ≠ y) : s'.t w = s.t w := by
 have hb : Nat.beq w y = false := beq_ne.2 hw
 rw [hy] at h
 have hput : ∀ (s : St) (d : D), (s.t y).hasOwn = false → (s.put y d).t w = s.t w := fun s d hs => by
  rw [zaI hs]
  simp only [hb]
 cases ef with
 | pure d =>
   cases h
   exact hput s d hj
 | new cs =>
   simp only [St.apply] at h
   split at h
   · cases h
     have h1 : (s.setBox (.loc y) cs).t = s.t := setBox_tl.1
     rw [hput _ _ (by rw [h1]; exact hj), h1]
   · cases h
 | made cs =>
   simp only [St.apply] at h
   split at h
   · cases h
     have h1 : (s.setBox (.loc y) cs).t = s.t := setBox_tl.1
     rw [hput _ _ (by rw [h1]; exact hj), h1]
   · cases h
theorem zlP {E : Env} {lk : Operand → D} {gp : Pl → Option Row} {bx : Ref → Option (List D)} {ty t : Nat} {zl zc : Operand} {ef : Ef} (h : evOp E lk gp bx ty (.makeSlice t zl zc) = some ef) : ∃ d, ef = .pure d := by
 simp only [evOp, bSo] at h
 obtain ⟨i, _, h⟩ := h
 split at h
 · simp only [bSo] at h
   obtain ⟨j, _, z, _, n, _, m, _, h⟩ := h
   split at h
   · split at h
     · exact ⟨_, (Option.some.inj h).symm⟩
     · cases h
   · cases h
 · cases h
theorem zhP {E : Env} {lk lk' : Operand → D} : ∀ {zs : List Operand} {ts : List Nat}, (∀ z ∈ zs, lk z = lk' z) → zaC E lk zs ts = zaC E lk' zs ts
 | [], _, _ => rfl
 | z :: zs, ts, h => by
   unfold zaC
   rw [h z List.mem_cons_self, zhP (fun z hz => h z (List.mem_cons_of_mem _ hz))]
theorem zhZ {s : St} {x : Nat} {d : D} (hj : s.t x = .junk) {q : Pl} {r : Row} (h : s.get q = some r) : (s.put x d).get q = some r := by
 have ho : (s.t x).hasOwn = false := by rw [hj]; rfl
 rw [zaI ho]
 cases q with
 | slot y l =>
   have h : (D.at_ l (s.t y)).row? = some r := h
   have hne : y ≠ x := fun e => by
    rw [e, hj] at h
    cases l <;> cases h
   show (D.at_ l (match Nat.beq y x with | true => d | false => s.t y)).row? = some r
   rw [beq_ne.2 hne]
   exact h
 | cell r0 o => cases r0 <;> exact h
 | lent j => exact h
theorem zhr {s : St} {x y : Nat} {d e : D} (hxy : x ≠ y) (hx : (s.t x).hasOwn = false) (hy : (s.t y).hasOwn = false) : (s.put x d).put y e = (s.put y e).put x d := by
 have h1 : ((s.put x d).t y).hasOwn = false := by
  rw [zaI hx]
  show (match Nat.beq y x with | true => d | false => s.t y).hasOwn = false
  rw [beq_ne.2 (fun h => hxy h.symm)]
  exact hy
 have h2 : ((s.put y e).t x).hasOwn = false := by
  rw [zaI hy]
  show (match Nat.beq x y with | true => e | false => s.t x).hasOwn = false
  rw [beq_ne.2 hxy]
  exact hx
 rw [zaI h1, zaI h2, zaI hx, zaI hy]
 simp only [St.mk.injEq, and_true]
 funext w
 by_cases hwx : w = x
 · have hwy : w ≠ y := fun h => hxy (hwx.symm.trans h)
   simp only [beq_eq.2 hwx, beq_ne.2 hwy]
 · by_cases hwy : w = y
   · simp only [beq_ne.2 hwx, beq_eq.2 hwy]
   · simp only [beq_ne.2 hwx, beq_ne.2 hwy]
theorem zg1 {s : St} {x : Nat} {d : D} {r : Ref} {cs : List D} (hx : (s.t x).hasOwn = false) : (s.put x d).setBox r cs = (s.setBox r cs).put x d := by
 have h1 : ((s.setBox r cs).t x).hasOwn = false := by rw [setBox_tl.1]; exact hx
 rw [zaI hx, zaI h1]
 cases r <;> rfl
theorem zk8 {s s1 : St} {x y : Nat} {d : D} {ef : Ef} (hxy : x ≠ y) (hx : s.t x = .junk) (hy : s.t y = .junk) (h : s.apply (some y) ef = some s1) : (s.put x d).apply (some y) ef = some (s1.put x d) := by
 have hx' : (s.t x).hasOwn = false := by rw [hx]; rfl
 have hy' : (s.t y).hasOwn = false := by rw [hy]; rfl
 have hb : ∀ n, (s.put x d).b n = s.b n := fun n => by rw [zaI hx']
 have hsb : ∀ cs, ((s.put x d).setBox (.loc y) cs).put y (.ptr (.loc y) 0) = ((s.setBox (.loc y) cs).put y (.ptr (.loc y) 0)).put x d := fun cs => by
  rw [zg1 hx']
  exact zhr hxy (by rw [setBox_tl.1]; exact hx') (by rw [setBox_tl.1]; exact hy')
 cases ef with
 | pure e =>
   cases h
   show some ((s.put x d).put y e) = some ((s.put y e).put x d)
   rw [zhr hxy hx' hy']
 | new cs =>
   simp only [St.apply] at h ⊢
   rw [hb]
   split at h
   · cases h
     simp only [hsb]
   · cases h
 | made cs =>
   simp only [St.apply] at h ⊢
   rw [hb]
   split at h
   · cases h
     simp only [hsb]
   · cases h
theorem zoA {E : Env} {s : St} {o : Oper} {ty t : Nat} {z : Operand} (ho : o.op = .load t z) (h : zbY s o = true) (hne : evOp E s.look s.get s.box ty o.op ≠ none) : ∃ x, evOp E s.look s.get s.box ty o.op = some (.pure (.dat x)) := by
 obtain ⟨ef, hef⟩ := Option.ne_none_iff_exists'.1 hne
 refine Exists.imp (fun x hx => hef.trans hx) ?_
 rw [ho] at hef
 simp only [evOp, bSo, mSo] at hef
 obtain ⟨i, hi, d, hd, rfl⟩ := hef
 unfold zbY at h
 rw [ho] at h
 simp only at h
 split at h
 · rename_i w q j off hz
   rw [hz] at hd
   simp only [zc8, bSo, mSo] at hd
   obtain ⟨_, _, _, _, x, _, rfl⟩ := hd
   exact ⟨x, rfl⟩
 · rename_i b cs hz
   rw [hz] at hd
   simp only [zc8, mSo] at hd
   obtain ⟨x, _, rfl⟩ := hd
   exact ⟨x, rfl⟩
 · cases h
theorem zd1 {s : St} {y : Nat} {d : D} (hj : (s.t y).hasOwn = false) {z : Operand} (hz : zcs y z = false) : (s.put y d).look z = s.look z := by
 cases z with
 | tmp w =>
   have hw : w ≠ y := fun e => by
    have : zcs y (.tmp w) = true := beq_eq.2 e.symm
    rw [this] at hz; cases hz
   rw [zaI hj]
   show D.alias _ (match Nat.beq w y with | true => d | false => s.t w) = _
   rw [beq_ne.2 hw]
   rfl
 | _ => rfl
def zpw : Ref → D → Bool
 | .loc _ => zbd
 | .up _ => zcJ
theorem zlR (E : Env) (s : St) (ts : Nat) (r : Ref) (off : Nat) (w : Value) : zcA E s ts (.ptr r off) (.dat (.val w)) = (E.ty ts).bind fun i => match Nat.beq 1 i.sz && ([D.dat (.val w)]).all (zpw r) with
 | false => none
 | true => (s.box r).bind fun cs => match isM cs with
   | true => none
   | false => if off + 1 ≤ cs.length then some ((s.killed (Kill.cells r off 1)).setBox r (cs.take off ++ [D.dat (.val w)] ++ cs.drop (off + 1))) else none := by
 cases r <;> rfl
theorem ziQ {s : St} {y : Nat} {d : D} (hj : (s.t y).hasOwn = false) : (s.put y d).b = s.b ∧ (s.put y d).u = s.u ∧ (s.put y d).l = s.l ∧ ∀ x, (s.put y d).t x = if x = y then d else s.t x := by
 rw [zaI hj]
 refine ⟨rfl, rfl, rfl, fun x => ?_⟩
 show (match Nat.beq x y with | true => d | false => s.t x) = _
 by_cases h : x = y
 · rw [if_pos h, beq_eq.2 h]
 · rw [if_neg h, beq_ne.2 h]
theorem zoU {s s' : St} (h : s.b = s'.b) : ∀ n, s.keys n = s'.keys n
 | 0 => rfl
 | n + 1 => by unfold St.keys; rw [h, zoU h n]
theorem zlK {s s' : St} (h : s.b = s'.b) : ∀ (k : Nat) (l : List Nat), znB s k l = znB s' k l
 | 0, l => rfl
 | k + 1, l => by unfold znB; rw [h, zlK h k]
theorem zp1 {s s' : St} (h : s.b = s'.b) (nt : Nat) (cap : List Ref) (args : List D) : s.sent nt cap args = s'.sent nt cap args := by
 unfold St.sent
 rw [zoU h, zlK h]
theorem znv {s s' : St} (h : s.b = s'.b) (hu : s.u = s'.u) (keys : List Nat) (cap : List Ref) (args : List D) : s.upsSent keys cap args = s'.upsSent keys cap args := by
 unfold St.upsSent
 rw [h, hu]
theorem zje {s : St} {y : Nat} {d : D} (hy : s.t y = .junk) (hd : zde d = true) : (s.put y d).get = s.get := by
 have hj : (s.t y).hasOwn = false := by rw [hy]; rfl
 obtain ⟨hb, hu, hl, ht⟩ := ziQ (d := d) hj
 have hbox : (s.put y d).box = s.box := by
  funext r
  cases r with
  | loc n => show (s.put y d).b n = s.b n; rw [hb]
  | up n => show (s.put y d).u[n]? = s.u[n]?; rw [hu]
 funext p
 cases p with
 | slot x q =>
   show (((s.put y d).t x).at_ q).row? = ((s.t x).at_ q).row?
   rw [ht]
   split
   · rename_i e
     subst e
     rw [hy]
     cases d with
     | bor p n => cases q <;> rfl
     | _ => cases hd
   · rfl
 | cell r o => simp only [St.get, hbox]
 | lent j => simp only [St.get, hl]
theorem ziP {E : Env} {s : St} {y : Nat} {d : D} (hj : (s.t y).hasOwn = false) : ∀ (l : List Operand) (ts : List Nat), (∀ z ∈ l, zcs y z = false) → zaC E (s.put y d).look l ts = zaC E s.look l ts
 | [], ts, _ => rfl
 | z :: l, ts, h => by
   unfold zaC
   rw [zd1 hj (h z (by simp)), ziP hj l ts.tail fun z hz => h z (by simp [hz])]
theorem zeq {s : St} : ∀ (ms : List Nat) (ds : List D), zbr ms = true → zax ms ds s = some (ds, s)
 | _, [], _ => by unfold zax; rfl
 | [], d :: ds, h => by unfold zax; simp [zeq [] ds rfl]
 | m :: ms, d :: ds, h => by
   unfold zbr at h
   simp only [Bool.and_eq_true] at h
   have hm : m = 0 := beq_eq.1 h.1
   subst hm
   unfold zax
   simp [zeq ms ds h.2]
theorem zfy {gp : Pl → Option Row} : ∀ (ms : List Nat) (ds : List D), zbr ms = true → zaQ gp ms ds = some []
 | _, [], _ => by unfold zaQ; rfl
 | [], d :: ds, h => by unfold zaQ; simp [zfy [] ds rfl]
 | m :: ms, d :: ds, h => by
   unfold zbr at h
   simp only [Bool.and_eq_true] at h
   have hm : m = 0 := beq_eq.1 h.1
   subst hm
   unfold zaQ
   simp [zfy ms ds h.2]
theorem zim {gp : Pl → Option Row} : ∀ {ds : List D}, ds.any znJ = true → ze4 gp ds = none
 | [], h => by cases h
 | d :: ds, h => by
   unfold ze4
   simp only [List.any_cons, Bool.or_eq_true] at h
   rcases h with h | h
   · cases d with
     | ptr r o => rfl
     | _ => cases h
   · rw [zim h]
     cases zlq gp d <;> rfl
theorem zh1 : ∀ {ds : List D}, ds.any znJ = true → ds.all ziD = false
 | [], h => by cases h
 | d :: ds, h => by
   simp only [List.any_cons, Bool.or_eq_true] at h
   simp only [List.all_cons, Bool.and_eq_false_iff]
   rcases h with h | h
   · cases d with
     | ptr r o => exact .inl rfl
     | _ => cases h
   · exact .inr (zh1 h)
theorem ziy {E : Env} {s : St} {oj : Oper} {ca : Call} {z : Operand} {f x : Nat} {cap : List Ref} (ho : oj.op = .call ca) (hc : ca.callee = .value z) (hz : s.look z = .fn f cap) (hdst : oj.dst = some x) (hm : zbr (E.mode f) = true) (hk : s.sent E.nt cap (zaC E s.look ca.args.toList ca.argTypes.toList) = []) (hp : (zaC E s.look ca.args.toList ca.argTypes.toList).any znJ = true) :
 step E s oj = (zaG (hide [] true s.get) (s.upsSent [] cap (zaC E s.look ca.args.toList ca.argTypes.toList)) [] (E.mode f) 0 (zaC E s.look ca.args.toList ca.argTypes.toList)).bind fun v =>
  (zbS (s.upsSent [] cap (zaC E s.look ca.args.toList ca.argTypes.toList)) [] cap).bind fun caps =>
  (zcu (s.upsSent [] cap (zaC E s.look ca.args.toList ca.argTypes.toList)) [] (s.u.take (s.upsSent [] cap (zaC E s.look ca.args.toList ca.argTypes.toList)) ++ [])).bind fun us =>
  (E.call f (v.1 ++ caps.map fun r => .ptr r 0) us []).bind fun q =>
  match (v.2 && !(D.cleans q.1 && (za7 q.2.2 && zam q.2.1))) || !D.plains q.1 with
  | true => none
  | false => some ((s.regain (s.upsSent [] cap (zaC E s.look ca.args.toList ca.argTypes.toList)) [] q.2.1).put x (retD q.1)) := by
 have hev : evOp E s.look s.get s.box oj.type oj.op = none := by
  rw [ho]
  simp only [evOp, hc, hz]
  cases cap with
  | nil =>
    simp only [zdu, hm, zim hp, Option.bind_none]
  | cons r l => rfl
 unfold step
 rw [hev, ho]
 simp only [doOp, hc, hz, zgz, zeq _ _ hm, zfy _ _ hm, Option.bind_some, zaV, zh1 hp, Bool.and_false, List.all_nil, hk, zeC, List.map_nil, hdst]
 rfl
theorem zle {s : St} {y m : Nat} {d : D} {u : List (List D)} (hy : s.t y = .junk) (hd : zde d = true) : (s.put y d).regain m [] u = (s.regain m [] u).put y d := by
 have hj : (s.t y).hasOwn = false := by rw [hy]; rfl
 have hj2 : ((s.regain m [] u).t y).hasOwn = false := by
  show ((s.t y).kill _).hasOwn = false
  rw [hy]; rfl
 obtain ⟨hb, hu, hl, ht⟩ := ziQ (d := d) hj
 obtain ⟨hb2, hu2, hl2, ht2⟩ := ziQ (d := d) hj2
 have hdk : d.kill (Kill.sent m []) = d := by
  unfold zde at hd
  split at hd
  · rfl
  · cases hd
 have e : ∀ a b : St, a.t = b.t → a.b = b.b → a.u = b.u → a.l = b.l → a = b := fun a b h1 h2 h3 h4 => by
  cases a; cases b; simp only at h1 h2 h3 h4; subst h1 h2 h3 h4; rfl
 refine e _ _ ?_ ?_ ?_ ?_
 · funext x
   rw [ht2]
   show ((s.put y d).t x).kill _ = if x = y then d else (s.t x).kill _
   rw [ht]
   split
   · exact hdk
   · rfl
 · rw [hb2]
   funext n
   exact congrFun hb n
 · rw [hu2]
   show _ ++ (s.put y d).u.drop m = _ ++ s.u.drop m
   rw [hu]
 · rw [hl2]
   exact hl
theorem znh {E : Env} {s s2 : St} {x y : Nat} {d : D} {oj : Oper} {ca : Call} (hy : s.t y = .junk) (hx : s.t x = .junk) (hd : zde d = true) (ho : oj.op = .call ca) (hdst : oj.dst = some x) (hxy : x ≠ y) (hcal : (match ca.callee with | .value (.func _) => true | _ => false) = true) (hok : zdm E (s.put y d) oj = true) (hna : ∀ z ∈ ca.args.toList, zcs y z = false) (h : step E (s.put y d) oj = some s2) :
 ∃ t1, step E s oj = some t1 ∧ s2 = t1.put y d ∧ ∀ {ty t : Nat} {z : Operand}, zcs x z = false → (∃ n off, s.look z = .ptr (.loc n) off) → evOp E s.look s.get s.box ty (.load t z) = some (.pure d) → evOp E t1.look t1.get t1.box ty (.load t z) = some (.pure d) := by
 have hjy : (s.t y).hasOwn = false := by rw [hy]; rfl
 have hjx : (s.t x).hasOwn = false := by rw [hx]; rfl
 obtain ⟨hb, hu, hl, ht⟩ := ziQ (d := d) hjy
 unfold zdm at hok
 rw [ho] at hok
 simp only at hok
 split at hok
 · rename_i z hc
   have hnz : zcs y z = false := by
    rw [hc] at hcal
    split at hcal
    · rename_i heq
      cases heq
      rfl
    · cases hcal
   split at hok
   · rename_i f cap hz
     simp only [Bool.and_eq_true, List.isEmpty_iff] at hok
     obtain ⟨hm, hk, hp⟩ := hok
     rw [ziy ho hc hz hdst hm hk hp] at h
     have hz' : s.look z = .fn f cap := by rw [← zd1 hjy hnz]; exact hz
     rw [ziP hjy _ _ hna] at h hk hp
     rw [zp1 hb] at hk
     rw [zje hy hd, znv hb hu, hu] at h
     rw [ziy ho hc hz' hdst hm hk hp]
     generalize s.upsSent [] cap (zaC E s.look ca.args.toList ca.argTypes.toList) = m at *
     simp only [bSo] at h
     obtain ⟨v, hv, caps, hcaps, us, hus, q, hq, h⟩ := h
     split at h
     · cases h
     rename_i hcond
     cases h
     have hjx2 : ((s.regain m [] q.2.1).t x).hasOwn = false := by
      show ((s.t x).kill _).hasOwn = false
      rw [hx]; rfl
     have hjy2 : ((s.regain m [] q.2.1).t y).hasOwn = false := by
      show ((s.t y).kill _).hasOwn = false
      rw [hy]; rfl
     refine ⟨(s.regain m [] q.2.1).put x (retD q.1), ?_, ?_, fun {ty t z2} hz2 hloc hl2 => ?_⟩
     · simp only [hv, hcaps, hus, hq, Option.bind_some, hcond]
     · rw [zle hy hd, zhr (fun e => hxy e.symm) hjy2 hjx2]
     · simp only [evOp, bSo, mSo] at hl2 ⊢
       obtain ⟨i, hi, d0, hd0, hpd⟩ := hl2
       cases hpd
       refine ⟨i, hi, d, ?_, rfl⟩
       obtain ⟨n, off, hlk⟩ := hloc
       have hlk1 : ((s.regain m [] q.2.1).put x (retD q.1)).look z2 = .ptr (.loc n) off := by
        rw [zd1 hjx2 hz2]
        cases z2 with
        | tmp w =>
          have h1 : (s.t w).alias (.slot w []) = .ptr (.loc n) off := hlk
          show ((s.t w).kill _).alias (.slot w []) = _
          have h2 : s.t w = .ptr (.loc n) off := by
           cases h3 : s.t w <;> rw [h3] at h1 <;> first | exact h1 | cases h1
          rw [h2]
          rfl
        | _ => exact hlk
       rw [hlk] at hd0
       rw [hlk1]
       have hbx : ((s.regain m [] q.2.1).put x (retD q.1)).box (.loc n) = s.box (.loc n) := by
        show ((s.regain m [] q.2.1).put x (retD q.1)).b n = s.b n
        rw [(ziQ hjx2).1]
        rfl
       unfold zc8 at hd0 ⊢
       simp only at hd0 ⊢
       rw [hbx]
       exact hd0
   · cases hok
 · cases hok
theorem zlo {E : Env} {s s2 : St} {y : Nat} {x : Dat} {oj : Oper} {ts : Nat} {ad vl : Operand} (hj : s.t y = .junk) (ho : oj.op = .store ts ad vl) (hok : zbU (s.put y (.dat x)) oj = true) (hna : zcs y ad = false) (hnv : zcs y vl = false) (h : step E (s.put y (.dat x)) oj = some s2) :
 ∃ t1, step E s oj = some t1 ∧ s2 = t1.put y (.dat x) ∧ ∀ {o : Oper} {ty t : Nat} {z : Operand} {ef : Ef}, zbY s o = true → o.op = .load t z → evOp E s.look s.get s.box ty (.load t z) = some ef → evOp E t1.look t1.get t1.box ty (.load t z) = some ef := by
 have hj' : (s.t y).hasOwn = false := by rw [hj]; rfl
 unfold zbU at hok
 rw [ho] at hok
 simp only at hok
 split at hok
 · rename_i r off w ha hv
   have hla : s.look ad = .ptr r off := by rw [← zd1 hj' hna]; exact ha
   have hlv : s.look vl = .dat (.val w) := by rw [← zd1 hj' hnv]; exact hv
   have hnil : zf2 vl = false := by
    unfold zf2
    split
    · have h0 : (St.put y (.dat x) s).look (.const (.slice none 0 0)) = .dat (.lst false []) := rfl
      rw [h0] at hv
      cases hv
    · rfl
   have hstep : ∀ s : St, s.look ad = .ptr r off → s.look vl = .dat (.val w) → step E s oj = zcA E s ts (.ptr r off) (.dat (.val w)) := fun s h1 h2 => by
    unfold step
    rw [ho]
    simp only [evOp, doOp, hnil, h1, h2]
   rw [hstep _ ha hv] at h
   have hdo := fun s : St => zlR E s ts r off w
   rw [hdo] at h
   simp only [bSo] at h
   obtain ⟨i, hi, h⟩ := h
   split at h
   · cases h
   · rename_i hcond
     simp only [bSo] at h
     obtain ⟨cs, hcs, h⟩ := h
     split at h
     · cases h
     · rename_i hm
       split at h
       · rename_i hle
         cases h
         rw [zid] at hcs
         refine ⟨(s.killed (Kill.cells r off 1)).setBox r (cs.take off ++ [D.dat (.val w)] ++ cs.drop (off + 1)), ?_, ?_, ?_⟩
         · rw [hstep _ hla hlv, hdo]
           simp only [hi, Option.bind_some, hcond, hcs, hm, hle, if_true]
         · have h1 : ((s.killed (Kill.cells r off 1)).t y).hasOwn = false := by
            show ((s.t y).kill _).hasOwn = false
            rw [zaF]; exact hj'
           rw [← zg1 h1]
           congr 1
           rw [zaI h1, zaI hj']
           simp only [St.killed, St.mk.injEq, and_true]
           funext q
           cases hb : Nat.beq q y <;> simp only [D.kill]
         · intro o ty t z ef hrl hol hev
           unfold zbY at hrl
           rw [hol] at hrl
           simp only at hrl
           have hlook : ∀ d, s.look z = d → (∃ w q j off, d = .bp (.slot w q) j off) ∨ (∃ b cs, d = .ep b cs) → ((s.killed (Kill.cells r off 1)).setBox r (cs.take off ++ [D.dat (.val w)] ++ cs.drop (off + 1))).look z = d := by
            intro d hd hor
            cases z with
            | tmp q =>
              show D.alias _ (((s.killed (Kill.cells r off 1)).setBox r _).t q) = d
              rw [setBox_tl.1]
              show D.alias _ ((s.t q).kill _) = d
              have hd' : D.alias (.slot q []) (s.t q) = d := hd
              cases hq : s.t q with
              | bp p j o2 =>
                rw [hq] at hd'
                have e : D.bp p j o2 = d := hd'
                subst e
                rcases hor with ⟨w2, q2, j2, off2, e⟩ | ⟨b, cs2, e⟩
                · cases e; rfl
                · cases e
              | ep b cs2 =>
                rw [hq] at hd'
                exact hd'
              | _ =>
                rw [hq] at hd'
                simp only [D.alias] at hd'
                subst hd'
                rcases hor with ⟨_, _, _, _, e⟩ | ⟨_, _, e⟩ <;> cases e
            | _ => exact hd
           simp only [evOp, bSo, mSo] at hev ⊢
           obtain ⟨i2, hi2, d, hd, rfl⟩ := hev
           refine ⟨i2, hi2, d, ?_, rfl⟩
           split at hrl
           · rename_i w2 q2 j2 off2 hz
             rw [hlook _ hz (.inl ⟨_, _, _, _, rfl⟩)]
             rw [hz] at hd
             simp only [zc8] at hd ⊢
             have hget : ((s.killed (Kill.cells r off 1)).setBox r (cs.take off ++ [D.dat (.val w)] ++ cs.drop (off + 1))).get (.slot w2 q2) = s.get (.slot w2 q2) := by
              show (D.at_ q2 (((s.killed (Kill.cells r off 1)).setBox r _).t w2)).row? = (D.at_ q2 (s.t w2)).row?
              rw [setBox_tl.1]
              exact zba q2 _
             rw [hget]
             exact hd
           · rename_i b2 cs2 hz
             rw [hlook _ hz (.inr ⟨_, _, rfl⟩)]
             rw [hz] at hd
             exact hd
           · cases hrl
       · cases h
 · cases hok
section
variable {P : Program} {E : Env} {ops : Array Oper} {X : Nat} {Mo : Option (List Nat)} {c0 : Cx} {a0 : Act}
theorem Inv.step {first first' : Bool} {A : List Nat} {blk : Nat → Nat} {c c' : Cx} {a a' : Act} {i : Nat} {o : Oper} {v : Value} (h : Inv P B E ops X Mo c0 a0 first A blk c a) (hdst : zkF ops = true) (hM : ∀ M, Mo = some M → ∀ o ∈ ops.toList, ∀ n ∈ M, o.dst ≠ some n)
 (hi : ops[i]? = some o) (hA : memN i A = false) (hf : Fr X c' a') (he : Ext c c') (hsz : a'.tmps.size = a.tmps.size) (hdf : a'.defers = a.defers) (ht : a'.tmps = (a.put o.dst v).tmps)
 (hfst : first' = true → ∀ b g, Rd c'.ρ b g → g < c'.W.heap.size → g < c0.W.heap.size ∧ stable (c0.ρ g)) : Inv P B E ops X Mo c0 a0 first' A blk c' a' := by
 refine ⟨h.base, hf, h.env.next he hsz, h.ext.trans he, hsz.trans h.sz, hdf.trans h.df, fun M hMo n hn => ?_, hfst, fun j hj => (h.al j hj).step he ht fun oj n hoj hn => ?_, h.dis⟩
 · rw [ht, zhI (hM M hMo o (Array.mem_toList_iff.2 (Array.mem_of_getElem? hi)) n hn)]
   exact h.mtm M hMo n hn
 · intro e
   have hne : j ≠ i := fun e => by rw [e, hA] at hj; cases hj
   exact zhQ hdst hoj hi hne hn e
theorem zkh {c c' : Cx} (h : ∀ b g, Rd c.ρ b g → g < c.W.heap.size → g < c0.W.heap.size ∧ stable (c0.ρ g)) (hW : c'.W = c.W) (hρ : ∀ g, g < c.W.heap.size → c'.ρ g = c.ρ g) : ∀ b g, Rd c'.ρ b g → g < c'.W.heap.size → g < c0.W.heap.size ∧ stable (c0.ρ g) := fun b g hr hg => by
 rw [hW] at hg
 refine h b g ?_ hg
 unfold Rd at *
 rw [hρ g hg] at hr
 exact hr
theorem zlt {fl : Nat → Bool} {Q0 : Exit → Act → World → Prop} {s' : St} (hty : TyOk P c0.ty) (hops : ∀ o ∈ ops.toList, zbg E.nt o = true) (hsel : Region.noSelect ops = true) (hdst : zkF ops = true) (hM : ∀ M, Mo = some M → ∀ o ∈ ops.toList, ∀ n ∈ M, o.dst ≠ some n)
 (hQ0 : ∀ ch a w, ¬ Q0 (.panic ch) a w) (hEnd : EndsIn P X c0 a0 s' (Q0 .normal)) : ∀ (rows : List PRow) (fuel : Nat) (first : Bool) (L listed : Array Bool) (A : List Nat) (blk : Nat → Nat) (c : Cx) (a : Act), zct E.ty ops fl L rows = true → Sup L listed A → (∀ j, memN j A = true → j ∈ zan rows) →
  zc5 A rows ≤ fuel → Inv P B E ops X Mo c0 a0 first A blk c a → zaE E ops Mo first rows c.s = some s' → zca P .any ops Q0 (RG (Gd c0 a0 Mo)) fl fuel listed a c.W := by
 have hQ : ∀ (x : Option Nat) (v : Value) ch (a : Act) w, Q0 (.panic ch) (a.put x v) w → Q0 (.panic ch) a w := fun x v ch a w h => (hQ0 _ _ _ h).elim
 intro rows
 induction hn : rows.length using Nat.strongRecOn generalizing rows with
 | ind nn ihn =>
 cases rows with
 | nil =>
   intro fuel first L listed A blk c a hgo hsup hA hst hinv h
   cases h
   have hre : Region.ready .any ops listed = [] := by
    rw [List.eq_nil_iff_forall_not_mem]
    intro j hj
    rcases zcC (B := []) hsup (fun k hk => by cases hA k hk) hj with h | h
    · cases h
    · have : (Region.ready .any ops L).isEmpty = true := hgo
      rw [List.isEmpty_iff] at this
      have h : j ∈ Region.ready .any ops L := h
      rw [this] at h
      cases h
   have hq : Q0 .normal a c.W := hEnd a c rfl hinv.fr hinv.ext hinv.sz hinv.df
   cases fuel with
   | zero => exact ⟨hre, hq⟩
   | succ fuel => exact ⟨fun _ => hq, fun i hi => by rw [hre] at hi; cases hi⟩
 | cons r l =>
   have ihl := ihn l.length (by rw [← hn]; simp) l rfl
   have ihl2 := fun (r' : PRow) (l' : List PRow) (e : l = r' :: l') => ihn l'.length (by rw [← hn, e]; simp; omega) l' rfl
   have ihl3 := fun (r' : PRow) (l' : List PRow) (e : l = r' :: l') (r : PRow) => ihn (r :: l').length (by rw [← hn, e]; simp) (r :: l') rfl
   clear ihn hn
   obtain ⟨i, k, ds⟩ := r
   have hadopt : ∀ (fuel : Nat) (first : Bool) (L listed : Array Bool) (A : List Nat) (blk : Nat → Nat) (c : Cx) (a : Act), zct E.ty ops fl L ((i, k, ds) :: l) = true → Sup L listed A → (∀ j, memN j A = true → j ∈ zan ((i, k, ds) :: l)) →
    zc5 A ((i, k, ds) :: l) ≤ fuel → Inv P B E ops X Mo c0 a0 first A blk c a → zaE E ops Mo first ((i, k, ds) :: l) c.s = some s' → memN i A = true → zca P .any ops Q0 (RG (Gd c0 a0 Mo)) fl fuel listed a c.W := by
    intro fuel first L listed A blk c a hgo hsup hA hst hinv h hiA
    simp only [zct, Bool.and_eq_true, Bool.not_eq_true'] at hgo
    obtain ⟨⟨hre, hni, hal⟩, hrow, hgo⟩ := hgo
    have hmem := hA i hiA
    have hnl : i ∉ zan l := fun h => by
     obtain ⟨r, hr, e⟩ := zb9 h
     have := (List.any_eq_false.1 hni) r hr
     exact this (beq_eq.2 e)
    have hk3 : k = 3 := by
     unfold zan at hmem
     split at hmem
     · rename_i hb; exact beq_eq.1 hb
     · exact (hnl hmem).elim
    subst hk3
    obtain ⟨o, t, n, i0, vs, T, h1, h2, h3, h4, h5, h6, h7, h8, h9⟩ := hinv.al i hiA
    obtain ⟨o', t', n', i0', h1', h2', h3', hg', hn', _⟩ := zgN ((List.all_eq_true.1 hal) i hmem)
    rw [h1] at h1'
    cases h1'
    simp only [zaE, h1, hg', zbO] at h
    split at h
    · cases h
    rename_i hjunk
    simp only [bSo, zaz, zaW] at h
    obtain ⟨s1, hs1, h⟩ := h
    unfold zf3 at hs1
    rw [h2, h3] at hs1
    simp only [bSo] at hs1
    obtain ⟨i1, hi1, hs1⟩ := hs1
    rw [hinv.env.ty, h4] at hi1
    cases hi1
    split at hs1
    · rename_i hb
      cases hs1
      have hlt : n < a.tmps.size := by
       rw [hinv.env.nt]
       exact zaY (hops o (Array.mem_toList_iff.2 (Array.mem_of_getElem? h1))) n h3
      obtain ⟨hl, hv⟩ := h9 c X rfl
      obtain ⟨c1, a1, a2, a3, a4, a5, a6⟩ := zjW (c := c.nilH X) (X := X) (tm := a.tmps) (n := n) (g := blk i) (cs := i0.zero) (vs := vs) (T := T) (zhw hinv.fr.sim hinv.fr.ghost) hinv.fr.ghost.nilH hlt hb (by obtain ⟨_, _, _, hf0⟩ := hinv.env.tys.facts h4; exact zoR hf0.zs) hl hv h6 h7 h8
      have hext : Ext c0 c1 := a4 c0 (hinv.ext.trans (zhf c X)) h5
      have hty1 : c1.ty = c.ty := by rw [hext.ty, hinv.ext.ty]
      have hW1 : c1.W = c.W := a1
      rw [← hW1]
      refine ihl fuel first (L.setIfInBounds i true) listed (A.filter fun j => !Nat.beq j i) blk c1 a hgo (hsup.adopt hiA) (fun j hj => ?_) ?_ ⟨hinv.base, ⟨a3, hinv.fr.ghost.out, ?_⟩, ⟨by rw [hty1]; exact hinv.env.ty, by rw [hty1]; exact hinv.env.tys, hinv.base.ext hext, by rw [hty1]; exact hinv.env.call, hinv.env.nt⟩, hext, hinv.sz, hinv.df, hinv.mtm, fun hf b g hr hg => ?_, fun j hj => ?_, fun j k hj hk hne => ?_⟩ ?_
      · have hjA := (List.mem_filter.1 (memN_iff.1 hj))
        have hm := hA j (memN_iff.2 hjA.1)
        have hm' : j ∈ i :: zan l := hm
        rcases List.mem_cons.1 hm' with e | hm'
        · subst e
          have := hjA.2
          rw [show Nat.beq j j = true from beq_eq.2 rfl] at this
          cases this
        · exact hm'
      · have := zaT (A := A) (i := i) (k := 3) (ds := ds) (l := l)
        rw [hiA] at this
        have h10 := zjb (A := A) hni
        simp only at this
        omega
      · rw [a2]
        have hne : X ≠ n := Nat.ne_of_gt (Nat.lt_of_lt_of_le hlt hinv.fr.ghost.out)
        refine zbb hne ?_
        rw [setBox_tl.1]
        exact hinv.fr.ghost.own
      · rw [hW1] at hg
        exact hinv.fst hf b g (a6 b g hr) hg
      · have hjA := (List.mem_filter.1 (memN_iff.1 hj))
        have hji : j ≠ i := fun e => by
         have := hjA.2
         rw [e, show Nat.beq i i = true from beq_eq.2 rfl] at this
         cases this
        have hjA' := memN_iff.2 hjA.1
        obtain ⟨oj, t', n', i', vs', T', b1, b2, b3, b4, b5, b6, b7, b8, b9⟩ := hinv.al j hjA'
        refine ⟨oj, t', n', i', vs', T', b1, b2, b3, by rw [hty1]; exact b4, b5, ?_, by rw [hW1]; exact b7, b8, fun c' Y e => b9 c' Y (by rw [e, hty1])⟩
        exact (a5 (blk j) (hinv.dis j i hjA' hiA hji) (by show stable (c.ρ (blk j)); rw [b6]; trivial)).trans b6
      · exact hinv.dis j k (memN_iff.2 (List.mem_filter.1 (memN_iff.1 hj)).1) (memN_iff.2 (List.mem_filter.1 (memN_iff.1 hk)).1) hne
      · rw [a2]
        have h : zaE E ops Mo (first && zbM 3) l ((c.s.setBox (.loc n) i0.zero).put n (.ptr (.loc n) 0)) = some s' := h
        rw [show (first && zbM 3) = first from Bool.and_true first] at h
        exact h
    · cases hs1
   intro fuel
   induction fuel with
   | zero =>
     intro first L listed A blk c a hgo hsup hA hst hinv h
     cases hiA : memN i A with
     | true => exact hadopt _ first L listed A blk c a hgo hsup hA hst hinv h hiA
     | false =>
       rw [zaT, hiA] at hst
       simp only at hst
       omega
   | succ fuel ihf =>
     intro first L listed A blk c a hgo hsup hA hst hinv h
     cases hiA : memN i A with
     | true => exact hadopt _ first L listed A blk c a hgo hsup hA hst hinv h hiA
     | false =>
     have hgo0 := hgo
     have h0 := h
     simp only [zct, Bool.and_eq_true, Bool.not_eq_true'] at hgo
     obtain ⟨⟨hre, hni, hal⟩, hrow, hgo⟩ := hgo
     have hreadyL : i ∈ Region.ready .any ops L := by simpa using hre
     have hready := zol hsup hreadyL hiA
     have hst' : zc5 A l ≤ fuel := by
      rw [zaT, hiA] at hst
      simp only at hst
      omega
     unfold zaE at h
     split at h
     · cases h
     rename_i hjunk
     split at h
     · cases h
     rename_i o hi
     have hk := hops o (Array.mem_toList_iff.2 (Array.mem_of_getElem? hi))
     have hd : ∀ n : Nat, o.dst = some n → n < a.tmps.size := by rw [hinv.env.nt]; exact zaY hk
     have hg := zhl (E := E) hinv.fr.sim hops hinv.env.nt h
     have hAl : ∀ j, memN j A = true → j ∈ zan l := fun j hj => by
      have hm := hA j hj
      unfold zan at hm
      split at hm
      · rcases List.mem_cons.1 hm with e | hm
        · rw [e, hiA] at hj; cases hj
        · exact hm
      · exact hm
     -- alone
     have halone : zb5 ops L i l = true → (k = 3 ∨ ∀ K, (K = fun a' w' => (fl i = true → RG (Gd c0 a0 Mo) c.W w') ∧ zca P .any ops Q0 (RG (Gd c0 a0 Mo)) fl fuel (listed.setIfInBounds i true) a' w') → wpOp P ops Q0 i K a c.W) → zca P .any ops Q0 (RG (Gd c0 a0 Mo)) fl (fuel + 1) listed a c.W := by
      intro hal1 hself
      refine ⟨fun e => (by rw [e] at hready; cases hready), fun j hj => ?_⟩
      have hjA : memN j A = false := (hsup.un (mem_ready.1 hj).1).2
      have hearly : j ∈ zan ((i, k, ds) :: l) → wpOp P ops Q0 j (fun a' w' => (fl j = true → RG (Gd c0 a0 Mo) c.W w') ∧ zca P .any ops Q0 (RG (Gd c0 a0 Mo)) fl fuel (listed.setIfInBounds j true) a' w') a c.W := by
       intro hjm
       obtain ⟨oj, t, n, i0, b1, b2, b3, b4, b5, b6⟩ := zgN ((List.all_eq_true.1 hal) j hjm)
       have hjn : c.s.t n = .junk := zbx hjunk n b5
       have hlt : n < a.tmps.size := by
        rw [hinv.env.nt]
        exact zaY (hops oj (Array.mem_toList_iff.2 (Array.mem_of_getElem? b1))) n b3
       rw [hinv.env.ty] at b6
       obtain ⟨inf, _, z, hfz⟩ := hinv.env.tys.facts b6
       have hrun : (execOp a.eval oj).run P c.W = .ok (.value (.pointer (some ⟨c.W.heap.size, 0, none⟩))) (c.W.alloc (.cells (List.toArray z.cells.toList) t (0, 0))) := by
        simp [execOp, b2, Instr.alloc, zeroValue, typeInfo, hfz.info, hfz.zero, newVar, newRow]
       obtain ⟨c', e1, e2, e3, e4, e5, e6⟩ := zjE (n := n) (ob := .cells (List.toArray z.cells.toList) t (0, 0)) (v := .pointer (some ⟨c.W.heap.size, 0, none⟩)) hinv.fr hlt hjn
       have hbel : Below c.W.heap.size c.W c'.W := by
        rw [e2]
        exact ⟨rfl, rfl, rfl, by show c.W.heap.size ≤ (c.W.alloc _).heap.size; simp, fun k hk => Below.heap_alloc c.W _ k hk⟩
       unfold wpOp
       rw [b1]
       have hw : Region.wanted oj (yielded ops a.tmps) = true := by simp [Region.wanted, b4]
       simp only [hw, if_true]
       refine .inl ?_
       unfold Oper.wp
       rw [hrun]
       show _ ∧ _
       rw [b3, ← e2]
       refine ⟨fun _ => RG.of_below hbel, ?_⟩
       have hlj : listed.getD j true = false := (mem_ready.1 hj).1
       refine ihf first L _ (j :: A) (fun m => if m = j then c.W.heap.size else blk m) c' _ hgo0 (hsup.early j) (fun m hm => ?_) ?_ ⟨hinv.base, e3, hinv.env.next e4 (zbD _ _ _), hinv.ext.trans e4, (zbD _ _ _).trans hinv.sz, (zbf _ _ _).trans hinv.df, fun M hMo m hm => ?_, fun hfst b g hr hgl => ?_, fun m hm => ?_, fun m1 m2 hm1 hm2 hne => ?_⟩ (by rw [e1]; exact h0)
       · rw [zbp, Bool.or_eq_true] at hm
         rcases hm with hm | hm
         · rw [beq_eq.1 hm]; exact hjm
         · exact hA m hm
       · have := zfD hjA (zb9 hjm)
         omega
       · rw [zhI (hM M hMo oj (Array.mem_toList_iff.2 (Array.mem_of_getElem? b1)) m hm ∘ fun e => by rw [b3]; exact e)]
         exact hinv.mtm M hMo m hm
       · by_cases hgs : g < c.W.heap.size
         · have hr' : Rd c.ρ b g := by
            unfold Rd at *
            rw [e5 g hgs] at hr
            exact hr
           exact hinv.fst hfst b g hr' hgs
         · have hge : g = c.W.heap.size := by
            rw [e2] at hgl
            have : g < c.W.heap.size + 1 := by simpa using hgl
            omega
           subst hge
           rcases hr with hr | ⟨_, hr⟩ <;> (rw [e6] at hr; cases hr)
       · rw [zbp, Bool.or_eq_true] at hm
         by_cases hmj : m = j
         · subst hmj
           rw [if_pos rfl]
           refine ⟨oj, t, n, i0, z.cells.toList, t, b1, b2, b3, by rw [e4.ty]; exact b6, hinv.ext.size, e6, ?_, ?_, fun c'' Y e => zdh (by rw [e, e4.ty]) hfz.zs⟩
           · rw [e2]
             exact heap_alloc_new c.W _
           · simp [Act.put, Array.getD, hlt]
         · rw [if_neg hmj]
           have hmA : memN m A = true := by
            rcases hm with hm | hm
            · exact (hmj (beq_eq.1 hm)).elim
            · exact hm
           exact (hinv.al m hmA).step e4 rfl fun om nm hom hnm e => zhQ hdst hom b1 hmj hnm (by rw [b3]; exact e)
       · have hold : ∀ m, memN m A = true → blk m < c.W.heap.size := fun m hm => by
          obtain ⟨_, _, _, _, _, _, _, _, _, _, _, _, h7, _⟩ := hinv.al m hm
          exact (Array.getElem?_eq_some_iff.1 h7).1
         have hin : ∀ m, memN m (j :: A) = true → m ≠ j → memN m A = true := fun m hm hne => by
          rw [zbp, Bool.or_eq_true] at hm
          rcases hm with hm | hm
          · exact (hne (beq_eq.1 hm)).elim
          · exact hm
         by_cases x1 : m1 = j
         · have x2 : m2 ≠ j := fun e => hne (by rw [x1, e])
           rw [if_pos x1, if_neg x2]
           have := hold m2 (hin m2 hm2 x2)
           omega
         · rw [if_neg x1]
           by_cases x2 : m2 = j
           · rw [if_pos x2]
             have := hold m1 (hin m1 hm1 x1)
             omega
           · rw [if_neg x2]
             exact hinv.dis m1 m2 (hin m1 hm1 x1) (hin m2 hm2 x2) hne
      rcases zcC (B := zan l) hsup (fun m hm => memN_iff.2 (hAl m hm)) hj with hjl | hjr
      · refine hearly ?_
        unfold zan
        split
        · exact List.mem_cons_of_mem _ (memN_iff.1 hjl)
        · exact memN_iff.1 hjl
      · have hji : i = j := beq_eq.1 ((List.all_eq_true.1 hal1) j hjr)
        subst hji
        rcases hself with hk3 | hself
        · refine hearly ?_
          rw [hk3]
          exact List.mem_cons_self
        · exact hself _ rfl
     -- what follows
     have hafter : ∀ (first' : Bool) (s1 : St) (c' : Cx) (a' : Act) (v : Value), c'.s = s1 → Fr X c' a' → Ext c c' → a'.tmps.size = a.tmps.size → a'.defers = a.defers → a'.tmps = (a.put o.dst v).tmps →
      (first' = true → ∀ b g, Rd c'.ρ b g → g < c'.W.heap.size → g < c0.W.heap.size ∧ stable (c0.ρ g)) → zaE E ops Mo first' l s1 = some s' → zca P .any ops Q0 (RG (Gd c0 a0 Mo)) fl fuel (listed.setIfInBounds i true) a' c'.W := by
      intro first' s1 c' a' v e1 e2 e3 e4 e5 e6 e7 e8
      exact ihl fuel first' _ _ A blk c' a' hgo (hsup.set i) hAl hst' (hinv.step hdst hM hi hiA e2 e3 e4 e5 e6 e7) (by rw [e1]; exact e8)
     generalize hD : zeL ops i (List.range ops.size) [] = BH at *
     have hfree : zfN ops L i (zan l) = true → (∀ j oj, ops[j]? = some oj → memN j BH = true → ∃ e ∈ oj.after, Region.binds .any e = true ∧ (e.on = i ∨ memN e.on BH = true)) ∧ (∀ j oj, ops[j]? = some oj → j ≠ i → listed.getD j true = false → memN j BH = false → o.apart ops oj = true) ∧ (∀ k, listed.getD k false = true → memN k BH = false) := fun hc => by
      unfold zfN at hc
      rw [hD] at hc
      simp only [Bool.and_eq_true] at hc
      refine ⟨fun j oj hoj hj => (zft hc.1 hj).1 oj hoj, fun j oj hj hne hun hno => zm8 hi hc.2 hj hne (hsup.un hun).1 hno, fun m hm => ?_⟩
      cases hmD : memN m BH with
      | false => rfl
      | true =>
        obtain ⟨_, h1, h2⟩ := zft hc.1 hmD
        rcases hsup.onL hm with h3 | h3
        · rw [h3] at h1; cases h1
        · rw [memN_iff.2 (hAl m h3)] at h2; cases h2
     obtain ⟨hu1, hu2⟩ := zlf (x := o.dst) hinv.fr hd
     have hk5 : k = 7 ∨ k = 10 ∨ k = 11 ∨ k = 12 ∨ k = 13 ∨ k = 0 ∨ k = 1 ∨ k = 2 ∨ k = 3 ∨ ∃ m, k = m + 4 ∧ m ≠ 3 ∧ m ≠ 6 ∧ m ≠ 7 ∧ m ≠ 8 ∧ m ≠ 9 := by
      match k with
      | 0 => simp
      | 1 => simp
      | 2 => simp
      | 3 => simp
      | m + 4 =>
        by_cases hm : m = 3
        · exact .inl (by omega)
        by_cases hm : m = 6
        · exact .inr (.inl (by omega))
        by_cases hm : m = 7
        · exact .inr (.inr (.inl (by omega)))
        by_cases hm : m = 8
        · exact .inr (.inr (.inr (.inl (by omega))))
        by_cases hm : m = 9
        · exact .inr (.inr (.inr (.inr (.inl (by omega)))))
        exact .inr (.inr (.inr (.inr (.inr (.inr (.inr (.inr (.inr ⟨m, rfl, by omega, by omega, by omega, by omega, by omega⟩))))))))
     rcases hk5 with rfl | rfl | rfl | rfl | rfl | rfl | rfl | rfl | rfl | ⟨m, rfl, hm3, hm6, hm7, hm8, hm9⟩
     · -- a call and a new row, whichever comes first
       have hrow' : zna ops L i ds l = true := hrow
       cases l with
       | nil => cases hrow'
       | cons r' l' =>
       obtain ⟨j, k', ds'⟩ := r'
       unfold zna at hrow'
       simp only [Bool.and_eq_true, Bool.not_eq_true', List.isEmpty_iff] at hrow'
       obtain ⟨⟨⟨hk8, hal', hij⟩, hpair⟩, hrd1, hrd2⟩ := hrow'
       have hk8 : k' = 8 := beq_eq.1 hk8
       subst hk8
       have hij : i ≠ j := fun e => by rw [beq_eq.2 e] at hij; cases hij
       have hA0 : ∀ m, memN m A = false := fun m => by
        cases hm : memN m A with
        | false => rfl
        | true =>
          have h1 := hAl m hm
          have h2 : m ∈ zan l' := h1
          rw [hal'] at h2
          cases h2
       rw [hi] at hpair
       cases hj : ops[j]? with
       | none => rw [hj] at hpair; cases hpair
       | some oj =>
       rw [hj] at hpair
       simp only at hpair
       unfold znu at hpair
       split at hpair
       · rename_i ca y t zl zc x hoi hyi hgi hoj hxj hgj
         simp only [Bool.and_eq_true, Bool.not_eq_true'] at hpair
         obtain ⟨⟨hcal, hxy, hxd, hyd⟩, ⟨hnl, hnc⟩, hna⟩ := hpair
         split at hcal
         · rename_i f hcal2
           have hxy : x ≠ y := fun e => by rw [beq_eq.2 e] at hxy; cases hxy
           have hjx : c.s.t x = .junk := zbx hjunk x (memN_iff.1 hxd)
           have hjy : c.s.t y = .junk := zbx hjunk y (memN_iff.1 hyd)
           -- the rows in their order
           have hwi : Region.wanted o (yielded ops a.tmps) = true := by simp [Region.wanted, hgi]
           have hg2 : ((zaz E Mo first 7 c.s o).bind fun s1 => zaE E ops Mo (first && zbM 7) ((j, 8, ds') :: l') s1) = some s' := by
            rcases hg with ⟨_, hg⟩ | ⟨hw, _⟩
            · exact hg
            · rw [hwi] at hw; cases hw
           rw [show (first && zbM 7) = false from Bool.and_false first] at hg2
           have hg2 : ((zaH E none c.s o).bind fun s1 => zaE E ops Mo false ((j, 8, ds') :: l') s1) = some s' := hg2
           simp only [zaH, bSo] at hg2
           obtain ⟨s1, ⟨ef, hev, hap⟩, hg2⟩ := hg2
           have hg3 := hg2
           unfold zaE at hg3
           split at hg3
           · cases hg3
           rename_i hjunk2
           rw [hj] at hg3
           simp only [hgj, zbO] at hg3
           have hg3 : ((zaH E none s1 oj).bind fun s2 => zaE E ops Mo false l' s2) = some s' := hg3
           simp only [zaH, bSo] at hg3
           obtain ⟨s2, ⟨ef2, hev2, hap2⟩, hg3⟩ := hg3
           -- the new row first
           have hlook1 : ∀ z, zcs y z = false → (s1.look z) = c.s.look z := fun z hz => by
            have ht : ∀ w, w ≠ y → s1.t w = c.s.t w := fun w hw => zfO hyi hap (by rw [hjy]; rfl) hw
            cases z with
            | tmp w =>
              have hw : w ≠ y := fun e => by
               have : zcs y (.tmp w) = true := beq_eq.2 e.symm
               rw [this] at hz; cases hz
              show ((s1.t w).alias _) = ((c.s.t w).alias _)
              rw [ht w hw]
            | _ => rfl
           have hev2' : evOp E c.s.look c.s.get c.s.box oj.type oj.op = some ef2 := by
            rw [hoj] at hev2 ⊢
            simp only [evOp] at hev2 ⊢
            rw [hlook1 zl hnl, hlook1 zc hnc] at hev2
            exact hev2
           have hpure : ∃ d, ef2 = .pure d := by
            rw [hoj] at hev2'
            exact zlP hev2'
           obtain ⟨d1, rfl⟩ := hpure
           have hs2 : s2 = s1.put x d1 := by
            rw [hxj] at hap2
            exact (Option.some.inj hap2).symm
           subst hs2
           refine ⟨fun e => (by rw [e] at hready; cases hready), fun m hm => ?_⟩
           have hmL : Nat.beq m i = true ∨ Nat.beq m j = true := by
            rcases zcC (B := []) hsup (fun k hk => by rw [hA0 k] at hk; cases hk) hm with h | h
            · cases h
            · have := (List.all_eq_true.1 hrd1) m h
              simpa [Bool.or_eq_true] using this
           by_cases hmi : m = i
           · subst hmi
             unfold wpOp
             rw [hi]
             simp only
             rw [if_pos hwi]
             refine .inl ?_
             have hef := za0 hinv.env.ty hinv.env.tys hinv.env.inv hinv.env.call hinv.fr.sim (fun _ _ h => h) (fun _ _ h => h) hev
             refine Oper.wp_mono ?_ (zbQ (zaB hinv.fr hd hef hap (fun a' w' => ∃ c', c'.W = w' ∧ c'.s = s1 ∧ Fr X c' a' ∧ Ext c c' ∧ Below c.W.heap.size c.W c'.W ∧ a'.tmps.size = a.tmps.size ∧ a'.defers = a.defers) Q0 fun a' c' e1 e2 e3 eb e4 e5 => ⟨c', rfl, e1, e2, e3, eb, e4, e5⟩))
             rintro a' w' ⟨⟨c', rfl, e1, e2, e3, eb, e4, e5⟩, v, e6⟩
             exact ⟨fun _ => RG.of_below eb, hafter false s1 c' a' v e1 e2 e3 e4 e5 e6 (fun e => by cases e) hg2⟩
           · have hmj : m = j := by
              rcases hmL with h | h
              · exact (hmi (beq_eq.1 h)).elim
              · exact beq_eq.1 h
             subst hmj
             have hwj : Region.wanted oj (yielded ops a.tmps) = true := by simp [Region.wanted, hgj]
             have hkj := hops oj (Array.mem_toList_iff.2 (Array.mem_of_getElem? hj))
             have hdj : ∀ n : Nat, oj.dst = some n → n < a.tmps.size := by rw [hinv.env.nt]; exact zaY hkj
             unfold wpOp
             rw [hj]
             simp only
             rw [if_pos hwj]
             refine .inl ?_
             have hefj := za0 hinv.env.ty hinv.env.tys hinv.env.inv hinv.env.call hinv.fr.sim (fun _ _ h => h) (fun _ _ h => h) hev2'
             have hapj : c.s.apply oj.dst (.pure d1) = some (c.s.put x d1) := by rw [hxj]; rfl
             refine Oper.wp_mono ?_ (zbQ (zaB hinv.fr hdj hefj hapj (fun a' w' => ∃ c', c'.W = w' ∧ c'.s = c.s.put x d1 ∧ Fr X c' a' ∧ Ext c c' ∧ Below c.W.heap.size c.W c'.W ∧ a'.tmps.size = a.tmps.size ∧ a'.defers = a.defers) Q0 fun a' c' e1 e2 e3 eb e4 e5 => ⟨c', rfl, e1, e2, e3, eb, e4, e5⟩))
             rintro a' w' ⟨⟨c', rfl, e1, e2, e3, eb, e4, e5⟩, v, e6⟩
             refine ⟨fun _ => RG.of_below eb, ?_⟩
             have hjA := hA0 m
             have hinv1 := hinv.step (first' := false) hdst hM hj hjA e2 e3 e4 e5 e6 (fun e => by cases e)
             have hsup1 : Sup (L.setIfInBounds m true) (listed.setIfInBounds m true) A := hsup.set m
             have hst2 : 1 ≤ fuel := by
              have h1 := zaT (A := A) (i := m) (k := 8) (ds := ds') (l := l')
              rw [hjA] at h1
              simp only at h1
              omega
             obtain ⟨fuel, rfl⟩ : ∃ f2, fuel = f2 + 1 := ⟨fuel - 1, by omega⟩
             have hnotr : i ∈ Region.ready .any ops (listed.setIfInBounds m true) := ready_mono hready (fun e => hmi e.symm)
             refine ⟨fun e => (by rw [e] at hnotr; cases hnotr), fun q hq => ?_⟩
             have hqi : q = i := by
              rcases zcC (B := []) hsup1 (fun k hk => by rw [hA0 k] at hk; cases hk) hq with h | h
              · cases h
              · exact (beq_eq.1 ((List.all_eq_true.1 hrd2) q h)).symm
             subst hqi
             have hlook2 : ∀ z, zcs x z = false → ((c.s.put x d1).look z) = c.s.look z := fun z hz => by
              have ht : ∀ w, w ≠ x → (c.s.put x d1).t w = c.s.t w := fun w hw => zfO (o := oj) hxj hapj (by rw [hjx]; rfl) hw
              cases z with
              | tmp w =>
                have hw : w ≠ x := fun e => by
                 have : zcs x (.tmp w) = true := beq_eq.2 e.symm
                 rw [this] at hz; cases hz
                show (((c.s.put x d1).t w).alias _) = ((c.s.t w).alias _)
                rw [ht w hw]
              | _ => rfl
             have hevi : evOp E c'.s.look c.s.get c.s.box o.type o.op = some ef := by
              rw [e1]
              rw [hoi] at hev ⊢
              simp only [evOp, hcal2] at hev ⊢
              rw [zhP (fun z hz => hlook2 z (by
               have := (List.all_eq_true.1 hna) z hz
               simpa using this))]
              exact hev
             have hwi' : Region.wanted o (yielded ops a'.tmps) = true := by simp [Region.wanted, hgi]
             have hdi : ∀ n : Nat, o.dst = some n → n < a'.tmps.size := by rw [e4]; exact hd
             have hefi := za0 (gp := c.s.get) (bx := c.s.box) hinv1.env.ty hinv1.env.tys hinv1.env.inv hinv1.env.call hinv1.fr.sim (fun q r h => by rw [e1]; exact zhZ hjx h) (fun r cs h => by rw [e1, zid]; exact h) hevi
             have hapi : c'.s.apply o.dst ef = some (s1.put x d1) := by
              rw [e1, hyi]
              rw [hyi] at hap
              exact zk8 hxy hjx hjy hap
             unfold wpOp
             rw [hi]
             simp only
             rw [if_pos hwi']
             refine .inl ?_
             refine Oper.wp_mono ?_ (zbQ (zaB hinv1.fr hdi hefi hapi (fun a' w' => ∃ c2, c2.W = w' ∧ c2.s = s1.put x d1 ∧ Fr X c2 a' ∧ Ext c' c2 ∧ Below c'.W.heap.size c'.W c2.W ∧ a'.tmps.size = a.tmps.size ∧ a'.defers = a.defers) Q0 fun a' c' e1 e2 e3 eb e4' e5' => ⟨c', rfl, e1, e2, e3, eb, e4'.trans e4, e5'.trans e5⟩))
             rintro a2 w2 ⟨⟨c2, rfl, g1, g2, g3, gb, g4, g5⟩, v2, g6⟩
             refine ⟨fun _ => RG.of_below gb, ?_⟩
             have hinv2 := hinv1.step (first' := false) hdst hM hi hiA g2 g3 (g4.trans e4.symm) (g5.trans e5.symm) g6 (fun e => by cases e)
             have hgo' := hgo
             unfold zct at hgo'
             simp only [Bool.and_eq_true] at hgo'
             refine ihl2 _ l' rfl fuel false _ _ A blk c2 a2 hgo'.2.2 ?_ (fun k hk => by rw [hA0 k] at hk; cases hk) ?_ hinv2 (by rw [g1]; exact hg3)
             · rw [Array.setIfInBounds_comm true true hmi] 
               exact (hsup.set _).set _
             · have h1 := zaT (A := A) (i := m) (k := 8) (ds := ds') (l := l')
               rw [hjA] at h1
               simp only at h1
               omega
         · cases hcal
       · cases hpair
     · -- a load of an element and a store, whichever comes first
       have hrow' : zjg ops L i ds l = true := hrow
       cases l with
       | nil => cases hrow'
       | cons r' l' =>
       obtain ⟨j, k', ds'⟩ := r'
       unfold zjg at hrow'
       simp only [Bool.and_eq_true, Bool.not_eq_true', List.isEmpty_iff] at hrow'
       obtain ⟨⟨⟨hk8, hal', hij⟩, hpair⟩, hrd1, hrd2⟩ := hrow'
       have hk8 : k' = 11 := beq_eq.1 hk8
       subst hk8
       have hij : i ≠ j := fun e => by rw [beq_eq.2 e] at hij; cases hij
       have hA0 : ∀ m, memN m A = false := fun m => by
        cases hm : memN m A with
        | false => rfl
        | true =>
          have h1 := hAl m hm
          have h2 : m ∈ zan l' := h1
          rw [hal'] at h2
          cases h2
       rw [hi] at hpair
       cases hj : ops[j]? with
       | none => rw [hj] at hpair; cases hpair
       | some oj =>
       rw [hj] at hpair
       simp only at hpair
       unfold zj3 at hpair
       split at hpair
       · rename_i tl z y ts ad vl hoi hyi hgi hoj hxj hgj
         simp only [Bool.and_eq_true, Bool.not_eq_true'] at hpair
         obtain ⟨hyd, hna, hnv⟩ := hpair
         have hjy : c.s.t y = .junk := zbx hjunk y (memN_iff.1 hyd)
         have hwi : Region.wanted o (yielded ops a.tmps) = true := by simp [Region.wanted, hgi]
         rw [show (first && zbM 10) = false from Bool.and_false first] at hg
         have hg2 : ((match zbY c.s o with | true => step E c.s o | false => none).bind fun s1 => zaE E ops Mo false ((j, 11, ds') :: l') s1) = some s' := by
          rcases hg with ⟨_, hg⟩ | ⟨hw, _⟩
          · exact hg
          · rw [hwi] at hw; cases hw
         simp only [bSo] at hg2
         obtain ⟨s1, hs1, hg2⟩ := hg2
         split at hs1
         · rename_i hrl
           have hev : ∃ x, evOp E c.s.look c.s.get c.s.box o.type o.op = some (.pure (.dat x)) ∧ s1 = c.s.put y (.dat x) := by
            obtain ⟨x, hx⟩ := zoA (E := E) (ty := o.type) hoi hrl (by
             intro e
             unfold step at hs1
             rw [e, hoi] at hs1
             simp only [doOp] at hs1
             cases hs1)
            refine ⟨x, hx, ?_⟩
            unfold step at hs1
            rw [hx, hyi] at hs1
            exact (Option.some.inj hs1).symm
           obtain ⟨x, hev, rfl⟩ := hev
           have hap : c.s.apply o.dst (.pure (.dat x)) = some (c.s.put y (.dat x)) := by rw [hyi]; rfl
           have hg3 := hg2
           unfold zaE at hg3
           split at hg3
           · cases hg3
           rename_i hjunk2
           rw [hj] at hg3
           simp only [hgj, zbO] at hg3
           have hg3 : ((match zbU (c.s.put y (.dat x)) oj with | true => step E (c.s.put y (.dat x)) oj | false => none).bind fun s2 => zaE E ops Mo false l' s2) = some s' := hg3
           simp only [bSo] at hg3
           obtain ⟨s2, hs2, hg3⟩ := hg3
           split at hs2
           · rename_i hvs
             obtain ⟨t1, hst1, rfl, hld⟩ := zlo hjy hoj hvs hna hnv hs2
             refine ⟨fun e => (by rw [e] at hready; cases hready), fun m hm => ?_⟩
             have hmL : Nat.beq m i = true ∨ Nat.beq m j = true := by
              rcases zcC (B := []) hsup (fun k hk => by rw [hA0 k] at hk; cases hk) hm with h | h
              · cases h
              · have := (List.all_eq_true.1 hrd1) m h
                simpa [Bool.or_eq_true] using this
             by_cases hmi : m = i
             · subst hmi
               unfold wpOp
               rw [hi]
               simp only
               rw [if_pos hwi]
               refine .inl ?_
               have hef := za0 hinv.env.ty hinv.env.tys hinv.env.inv hinv.env.call hinv.fr.sim (fun _ _ h => h) (fun _ _ h => h) hev
               refine Oper.wp_mono ?_ (zbQ (zaB hinv.fr hd hef hap (fun a' w' => ∃ c', c'.W = w' ∧ c'.s = c.s.put y (.dat x) ∧ Fr X c' a' ∧ Ext c c' ∧ Below c.W.heap.size c.W c'.W ∧ a'.tmps.size = a.tmps.size ∧ a'.defers = a.defers) Q0 fun a' c' e1 e2 e3 eb e4 e5 => ⟨c', rfl, e1, e2, e3, eb, e4, e5⟩))
               rintro a' w' ⟨⟨c', rfl, e1, e2, e3, eb, e4, e5⟩, v, e6⟩
               exact ⟨fun _ => RG.of_below eb, hafter false _ c' a' v e1 e2 e3 e4 e5 e6 (fun e => by cases e) hg2⟩
             · have hmj : m = j := by
                rcases hmL with h | h
                · exact (hmi (beq_eq.1 h)).elim
                · exact beq_eq.1 h
               subst hmj
               have hflj : fl m = false := by
                have hgo' := hgo
                unfold zct at hgo'
                simp only [Bool.and_eq_true] at hgo'
                have h1 : (zb5 ops (L.setIfInBounds i true) m l' && !fl m) = true := hgo'.2.1
                simp only [Bool.and_eq_true, Bool.not_eq_true'] at h1
                exact h1.2
               have hwj : Region.wanted oj (yielded ops a.tmps) = true := by simp [Region.wanted, hgj]
               have hkj := hops oj (Array.mem_toList_iff.2 (Array.mem_of_getElem? hj))
               unfold wpOp
               rw [hj]
               simp only
               rw [if_pos hwj]
               refine .inl ?_
               refine Oper.wp_mono ?_ (zbQ (zbC hinv.env hinv.fr hkj hst1 (fun a' w' => ∃ c', c'.W = w' ∧ c'.s = t1 ∧ Fr X c' a' ∧ Ext c c' ∧ a'.tmps.size = a.tmps.size ∧ a'.defers = a.defers) Q0 fun a' c' e1 e2 e3 e4 e5 => ⟨c', rfl, e1, e2, e3, e4, e5⟩))
               rintro a' w' ⟨⟨c', rfl, e1, e2, e3, e4, e5⟩, v, e6⟩
               refine ⟨fun e => (by rw [hflj] at e; cases e), ?_⟩
               have hjA := hA0 m
               have hinv1 := hinv.step (first' := false) hdst hM hj hjA e2 e3 e4 e5 e6 (fun e => by cases e)
               have hsup1 : Sup (L.setIfInBounds m true) (listed.setIfInBounds m true) A := hsup.set m
               have hst2 : 1 ≤ fuel := by
                have h1 := zaT (A := A) (i := m) (k := 11) (ds := ds') (l := l')
                rw [hjA] at h1
                simp only at h1
                omega
               obtain ⟨fuel, rfl⟩ : ∃ f2, fuel = f2 + 1 := ⟨fuel - 1, by omega⟩
               have hnotr : i ∈ Region.ready .any ops (listed.setIfInBounds m true) := ready_mono hready (fun e => hmi e.symm)
               refine ⟨fun e => (by rw [e] at hnotr; cases hnotr), fun q hq => ?_⟩
               have hqi : q = i := by
                rcases zcC (B := []) hsup1 (fun k hk => by rw [hA0 k] at hk; cases hk) hq with h | h
                · cases h
                · exact (beq_eq.1 ((List.all_eq_true.1 hrd2) q h)).symm
               subst hqi
               have hevi : evOp E c'.s.look c'.s.get c'.s.box o.type o.op = some (.pure (.dat x)) := by
                rw [e1, hoi]
                rw [hoi] at hev
                exact hld hrl hoi hev
               have hwi' : Region.wanted o (yielded ops a'.tmps) = true := by simp [Region.wanted, hgi]
               have hdi : ∀ n : Nat, o.dst = some n → n < a'.tmps.size := by rw [e4]; exact hd
               have hefi := za0 hinv1.env.ty hinv1.env.tys hinv1.env.inv hinv1.env.call hinv1.fr.sim (fun _ _ h => h) (fun _ _ h => h) hevi
               have hapi : c'.s.apply o.dst (.pure (.dat x)) = some (t1.put y (.dat x)) := by rw [e1, hyi]; rfl
               unfold wpOp
               rw [hi]
               simp only
               rw [if_pos hwi']
               refine .inl ?_
               refine Oper.wp_mono ?_ (zbQ (zaB hinv1.fr hdi hefi hapi (fun a' w' => ∃ c2, c2.W = w' ∧ c2.s = t1.put y (.dat x) ∧ Fr X c2 a' ∧ Ext c' c2 ∧ Below c'.W.heap.size c'.W c2.W ∧ a'.tmps.size = a.tmps.size ∧ a'.defers = a.defers) Q0 fun a' c' e1 e2 e3 eb e4' e5' => ⟨c', rfl, e1, e2, e3, eb, e4'.trans e4, e5'.trans e5⟩))
               rintro a2 w2 ⟨⟨c2, rfl, g1, g2, g3, gb, g4, g5⟩, v2, g6⟩
               refine ⟨fun _ => RG.of_below gb, ?_⟩
               have hinv2 := hinv1.step (first' := false) hdst hM hi hiA g2 g3 (g4.trans e4.symm) (g5.trans e5.symm) g6 (fun e => by cases e)
               have hgo' := hgo
               unfold zct at hgo'
               simp only [Bool.and_eq_true] at hgo'
               refine ihl2 _ l' rfl fuel false _ _ A blk c2 a2 hgo'.2.2 ?_ (fun k hk => by rw [hA0 k] at hk; cases hk) ?_ hinv2 (by rw [g1]; exact hg3)
               · rw [Array.setIfInBounds_comm true true hmi]
                 exact (hsup.set _).set _
               · have h1 := zaT (A := A) (i := m) (k := 11) (ds := ds') (l := l')
                 rw [hjA] at h1
                 simp only at h1
                 omega
           · cases hs2
         · cases hs1
       · cases hpair
     · -- a store of a scalar into a variable, alone
       have hrow' : (zb5 ops L i l && !fl i) = true := hrow
       simp only [Bool.and_eq_true, Bool.not_eq_true'] at hrow'
       refine halone hrow'.1 (.inr fun K hK => ?_)
       subst hK
       rw [show (first && zbM 11) = false from Bool.and_false first] at hg
       unfold wpOp
       rw [hi]
       simp only
       rcases hg with ⟨hw, hg⟩ | ⟨hw, hg⟩
       · rw [if_pos hw]
         refine .inl ?_
         have hg : ((match zbU c.s o with | true => step E c.s o | false => none).bind fun s2 => zaE E ops Mo false l s2) = some s' := hg
         simp only [bSo] at hg
         obtain ⟨s1, hs1, hg⟩ := hg
         split at hs1
         · refine Oper.wp_mono ?_ (zbQ (zbC hinv.env hinv.fr hk hs1 (fun a' w' => ∃ c', c'.W = w' ∧ c'.s = s1 ∧ Fr X c' a' ∧ Ext c c' ∧ a'.tmps.size = a.tmps.size ∧ a'.defers = a.defers) Q0 fun a' c' e1 e2 e3 e4 e5 => ⟨c', rfl, e1, e2, e3, e4, e5⟩))
           rintro a' w' ⟨⟨c', rfl, e1, e2, e3, e4, e5⟩, v, e6⟩
           exact ⟨fun e => by (rw [hrow'.2] at e; cases e), hafter false s1 c' a' v e1 e2 e3 e4 e5 e6 (fun e => by cases e) hg⟩
         · cases hs1
       · rw [if_neg (by rw [hw]; exact fun e => by cases e)]
         exact ⟨fun _ => RG.refl _, hafter false _ { c with s := c.s.putO o.dst .undef } _ undef rfl hu1 hu2 (zbD _ _ _) (zbf _ _ _) rfl (fun e => by cases e) hg⟩
     · -- a load of a row and a call, whichever comes first
       have hrow' : zjT ops fl L i ds l = true := hrow
       cases l with
       | nil => cases hrow'
       | cons r' l' =>
       obtain ⟨j, k', ds'⟩ := r'
       unfold zjT at hrow'
       simp only [Bool.and_eq_true, Bool.not_eq_true', List.isEmpty_iff] at hrow'
       obtain ⟨⟨⟨hk8, hal', hij⟩, hpair⟩, hrd1, hrd2, hrd3⟩ := hrow'
       have hk8 : k' = 13 := beq_eq.1 hk8
       subst hk8
       have hij : i ≠ j := fun e => by rw [beq_eq.2 e] at hij; cases hij
       have hA0 : ∀ m, memN m A = false := fun m => by
        cases hm : memN m A with
        | false => rfl
        | true =>
          have h1 := hAl m hm
          have h2 : m ∈ zan l' := h1
          rw [hal'] at h2
          cases h2
       rw [hi] at hpair
       cases hj : ops[j]? with
       | none => rw [hj] at hpair; cases hpair
       | some oj =>
       rw [hj] at hpair
       simp only at hpair
       unfold zkS at hpair
       split at hpair
       · rename_i tl z y ca x hoi hyi hgi hoj hxj hgj
         simp only [Bool.and_eq_true, Bool.not_eq_true'] at hpair
         obtain ⟨hcal, ⟨hxy, hxd, hyd⟩, hnz, hna⟩ := hpair
         have hna : ∀ z ∈ ca.args.toList, zcs y z = false := fun z hz => by simpa using (List.all_eq_true.1 hna) z hz
         have hxy : x ≠ y := fun e => by rw [beq_eq.2 e] at hxy; cases hxy
         have hjx : c.s.t x = .junk := zbx hjunk x (memN_iff.1 hxd)
         have hjy : c.s.t y = .junk := zbx hjunk y (memN_iff.1 hyd)
         have hwi : Region.wanted o (yielded ops a.tmps) = true := by simp [Region.wanted, hgi]
         rw [show (first && zbM 12) = false from Bool.and_false first] at hg
         have hg2 : ((match Mo with | none => (match ze6 E c.s o with | true => step E c.s o | false => none) | some _ => none).bind fun s1 => zaE E ops Mo false ((j, 13, ds') :: l') s1) = some s' := by
          rcases hg with ⟨_, hg⟩ | ⟨hw, _⟩
          · exact hg
          · rw [hwi] at hw; cases hw
         simp only [bSo] at hg2
         obtain ⟨s1, hs1, hg2⟩ := hg2
         have hMo : Mo = none := by
          cases Mo with
          | none => rfl
          | some M => cases hs1
         rw [hMo] at hs1
         simp only at hs1
         split at hs1
         · rename_i hrl
           obtain ⟨d, hdb, hev, hloc⟩ : ∃ d, zde d = true ∧ evOp E c.s.look c.s.get c.s.box o.type o.op = some (.pure d) ∧ ∃ n off, c.s.look z = .ptr (.loc n) off := by
            unfold ze6 at hrl
            rw [hoi] at hrl ⊢
            simp only at hrl
            split at hrl
            · rename_i n off d hl0 hd0
              exact ⟨d, hrl, hd0, n, off, hl0⟩
            · cases hrl
           have hs1e : s1 = c.s.put y d := by
            unfold step at hs1
            rw [hev, hyi] at hs1
            exact (Option.some.inj hs1).symm
           subst hs1e
           have hap : c.s.apply o.dst (.pure d) = some (c.s.put y d) := by rw [hyi]; rfl
           have hg3 := hg2
           unfold zaE at hg3
           split at hg3
           · cases hg3
           rename_i hjunk2
           rw [hj] at hg3
           simp only [hgj, zbO] at hg3
           have hg3 : ((match zdm E (c.s.put y d) oj with | true => step E (c.s.put y d) oj | false => none).bind fun s2 => zaE E ops Mo false l' s2) = some s' := hg3
           simp only [bSo] at hg3
           obtain ⟨s2, hs2, hg3⟩ := hg3
           split at hs2
           · rename_i hvs
             obtain ⟨t1, hst1, rfl, hld⟩ := znh hjy hjx hdb hoj hxj hxy hcal hvs hna hs2
             refine ⟨fun e => (by rw [e] at hready; cases hready), fun m hm => ?_⟩
             have hmL : Nat.beq m i = true ∨ Nat.beq m j = true := by
              rcases zcC (B := []) hsup (fun k hk => by rw [hA0 k] at hk; cases hk) hm with h | h
              · cases h
              · have := (List.all_eq_true.1 hrd1) m h
                simpa [Bool.or_eq_true] using this
             by_cases hmi : m = i
             · subst hmi
               unfold wpOp
               rw [hi]
               simp only
               rw [if_pos hwi]
               refine .inl ?_
               have hef := za0 hinv.env.ty hinv.env.tys hinv.env.inv hinv.env.call hinv.fr.sim (fun _ _ h => h) (fun _ _ h => h) hev
               refine Oper.wp_mono ?_ (zbQ (zaB hinv.fr hd hef hap (fun a' w' => ∃ c', c'.W = w' ∧ c'.s = c.s.put y d ∧ Fr X c' a' ∧ Ext c c' ∧ Below c.W.heap.size c.W c'.W ∧ a'.tmps.size = a.tmps.size ∧ a'.defers = a.defers) Q0 fun a' c' e1 e2 e3 eb e4 e5 => ⟨c', rfl, e1, e2, e3, eb, e4, e5⟩))
               rintro a' w' ⟨⟨c', rfl, e1, e2, e3, eb, e4, e5⟩, v, e6⟩
               exact ⟨fun _ => RG.of_below eb, hafter false _ c' a' v e1 e2 e3 e4 e5 e6 (fun e => by cases e) hg2⟩
             · have hmj : m = j := by
                rcases hmL with h | h
                · exact (hmi (beq_eq.1 h)).elim
                · exact beq_eq.1 h
               subst hmj
               have hflj : fl m = false := by
                have hgo' := hgo
                unfold zct at hgo'
                simp only [Bool.and_eq_true] at hgo'
                have h1 : (zb5 ops (L.setIfInBounds i true) m l' && !fl m) = true := hgo'.2.1
                simp only [Bool.and_eq_true, Bool.not_eq_true'] at h1
                exact h1.2
               have hwj : Region.wanted oj (yielded ops a.tmps) = true := by simp [Region.wanted, hgj]
               have hkj := hops oj (Array.mem_toList_iff.2 (Array.mem_of_getElem? hj))
               unfold wpOp
               rw [hj]
               simp only
               rw [if_pos hwj]
               refine .inl ?_
               refine Oper.wp_mono ?_ (zbQ (zbC hinv.env hinv.fr hkj hst1 (fun a' w' => ∃ c', c'.W = w' ∧ c'.s = t1 ∧ Fr X c' a' ∧ Ext c c' ∧ a'.tmps.size = a.tmps.size ∧ a'.defers = a.defers) Q0 fun a' c' e1 e2 e3 e4 e5 => ⟨c', rfl, e1, e2, e3, e4, e5⟩))
               rintro a' w' ⟨⟨c', rfl, e1, e2, e3, e4, e5⟩, v, e6⟩
               refine ⟨fun e => (by rw [hflj] at e; cases e), ?_⟩
               have hjA := hA0 m
               have hinv1 := hinv.step (first' := false) hdst hM hj hjA e2 e3 e4 e5 e6 (fun e => by cases e)
               have hsup1 : Sup (L.setIfInBounds m true) (listed.setIfInBounds m true) A := hsup.set m
               have hnotr : i ∈ Region.ready .any ops (L.setIfInBounds m true) := by simpa using hrd2
               have hgo' := hgo
               unfold zct at hgo'
               simp only [Bool.and_eq_true] at hgo'
               have hgo2 : zct E.ty ops fl (L.setIfInBounds m true) ((i, 1, []) :: l') = true := by
                unfold zct
                simp only [Bool.and_eq_true]
                refine ⟨⟨hrd2, ?_, ?_⟩, (by show (zfN _ _ _ _ && ziI _ _ _ _ _) = true; rw [hrd3.1, hrd3.2]; rfl), ?_⟩
                · have h9 := hni
                  simp only [List.any_cons, Bool.or_eq_false_iff] at h9
                  rw [h9.2]; rfl
                · show ((zan l').all _) = true
                  rw [hal']; rfl
                · rw [Array.setIfInBounds_comm true true (fun e => hmi e)]
                  exact hgo'.2.2
               have hevi : evOp E c'.s.look c'.s.get c'.s.box o.type o.op = some (.pure d) := by
                rw [e1, hoi]
                rw [hoi] at hev
                exact hld hnz hloc hev
               refine ihl3 _ l' rfl (i, 1, []) fuel false _ _ A blk c' a' hgo2 hsup1 (fun k hk => by rw [hA0 k] at hk; cases hk) ?_ hinv1 ?_
               · have h1 := zaT (A := A) (i := m) (k := 13) (ds := ds') (l := l')
                 have h2 := zaT (A := A) (i := i) (k := 1) (ds := []) (l := l')
                 rw [hjA] at h1
                 rw [hA0 i] at h2
                 simp only at h1 h2
                 omega
               · unfold zaE
                 simp only [zex, hi, hgi, zbO]
                 rw [hMo] at hg3 ⊢
                 rw [e1]
                 have hl1 : zaz E none false 1 t1 o = some (t1.put y d) := by
                  rw [e1, hoi] at hevi
                  simp only [evOp, bSo, mSo] at hevi
                  obtain ⟨ti, hti, d0, hd0, hpd⟩ := hevi
                  cases hpd
                  simp only [zaz, zaW, zee, hoi, hyi, hti, hd0, Option.bind_some, Option.map_some]
                 rw [hl1]
                 exact hg3
           · cases hs2
         · cases hs1
       · cases hpair
     · -- a call, alone
       have hrow' : (zb5 ops L i l && !fl i) = true := hrow
       simp only [Bool.and_eq_true, Bool.not_eq_true'] at hrow'
       refine halone hrow'.1 (.inr fun K hK => ?_)
       subst hK
       rw [show (first && zbM 13) = false from Bool.and_false first] at hg
       unfold wpOp
       rw [hi]
       simp only
       rcases hg with ⟨hw, hg⟩ | ⟨hw, hg⟩
       · rw [if_pos hw]
         refine .inl ?_
         have hg : ((match zdm E c.s o with | true => step E c.s o | false => none).bind fun s2 => zaE E ops Mo false l s2) = some s' := hg
         simp only [bSo] at hg
         obtain ⟨s1, hs1, hg⟩ := hg
         split at hs1
         · refine Oper.wp_mono ?_ (zbQ (zbC hinv.env hinv.fr hk hs1 (fun a' w' => ∃ c', c'.W = w' ∧ c'.s = s1 ∧ Fr X c' a' ∧ Ext c c' ∧ a'.tmps.size = a.tmps.size ∧ a'.defers = a.defers) Q0 fun a' c' e1 e2 e3 e4 e5 => ⟨c', rfl, e1, e2, e3, e4, e5⟩))
           rintro a' w' ⟨⟨c', rfl, e1, e2, e3, e4, e5⟩, v, e6⟩
           exact ⟨fun e => by (rw [hrow'.2] at e; cases e), hafter false s1 c' a' v e1 e2 e3 e4 e5 e6 (fun e => by cases e) hg⟩
         · cases hs1
       · rw [if_neg (by rw [hw]; exact fun e => by cases e)]
         exact ⟨fun _ => RG.refl _, hafter false _ { c with s := c.s.putO o.dst .undef } _ undef rfl hu1 hu2 (zbD _ _ _) (zbf _ _ _) rfl (fun e => by cases e) hg⟩
     · -- calm
       rw [show (first && zbM 0) = first from Bool.and_true first] at hg
       rcases hg with ⟨hw, hg⟩ | ⟨hw, hg⟩
       · simp only [zaz, zaW, bSo] at hg
         obtain ⟨s1, hs1, hg⟩ := hg
         unfold zfl at hs1
         split at hs1
         · rename_i n hcm hdn
           split at hs1
           · rename_i d hev
             cases hs1
             have hcalm := zl5 hinv.env.ty hinv.env.tys hinv.fr.sim hcm hev n (fun _ => True)
             obtain ⟨v, c', e1, e2, e3, e4, e5, e6⟩ := ziE hinv.fr (hd n hdn) hcalm
             refine zgd RG.refl hi (Region.noSelect_spec hsel) (hQ _ _) (hfree hrow).1 fuel listed a c.W (hfree hrow).2.1 (hfree hrow).2.2 hready (.inl ⟨hw, fun w => e6 w trivial⟩) ?_
             rw [← e2]
             exact hafter first _ c' _ v e1 (by rw [hdn]; exact e3) e4 (zbD _ _ _) (zbf _ _ _) rfl (fun hf => zkh (hinv.fst hf) e2 e5) hg
           · cases hs1
         · cases hs1
       · refine zgd RG.refl hi (Region.noSelect_spec hsel) (hQ _ _) (hfree hrow).1 fuel listed a c.W (hfree hrow).2.1 (hfree hrow).2.2 hready (.inr ⟨hw, rfl⟩) ?_
         exact hafter first _ { c with s := c.s.putO o.dst .undef } _ undef rfl hu1 hu2 (zbD _ _ _) (zbf _ _ _) rfl (fun hf => hinv.fst hf) hg
     · -- a load
       rw [show (first && zbM 1) = first from Bool.and_true first] at hg
       have hrow' : (zfN ops L i (zan l) && ziI ops fl L i (zeL ops i (List.range ops.size) [])) = true := hrow
       rw [hD] at hrow'
       simp only [Bool.and_eq_true] at hrow'
       obtain ⟨hfr, hlate⟩ := hrow'
       have hfree2 : ∀ j oj, ops[j]? = some oj → j ≠ i → listed.getD j true = false → memN j BH = false → o.apart ops oj = true ∧ fl j = true := fun j oj hj hne hun hno =>
        ⟨(hfree hfr).2.1 j oj hj hne hun hno, zmI hlate hj hne (hsup.un hun).1 hno⟩
       rcases hg with ⟨hw, hg⟩ | ⟨hw, hg⟩
       · simp only [zaz, zaW, bSo] at hg
         obtain ⟨s1, hs1, hg⟩ := hg
         have key : ∀ (n : Nat) (d : D), o.dst = some n → s1 = c.s.put n d → Calm P c a o n (RG (Gd c0 a0 Mo) c.W) d → zca P .any ops Q0 (RG (Gd c0 a0 Mo)) fl (fuel + 1) listed a c.W := by
          intro n d hdn he hcalm
          subst he
          obtain ⟨v, c', e1, e2, e3, e4, e5, e6⟩ := ziE hinv.fr (hd n hdn) hcalm
          refine zfV RG.trans RG.refl (w0 := c.W) hi (Region.noSelect_spec hsel) (hQ _ _) (hfree hfr).1 fuel listed a c.W hfree2 (hfree hfr).2.2 hready (.inl ⟨hw, e6⟩) (RG.refl _) ?_
          rw [← e2]
          exact hafter first _ c' _ v e1 (by rw [hdn]; exact e3) e4 (zbD _ _ _) (zbf _ _ _) rfl (fun hf => zkh (hinv.fst hf) e2 e5) hg
         unfold zee at hs1
         split at hs1
         · rename_i t z n ho hdn
           simp only [bSo] at hs1
           obtain ⟨ti, hti, hs1⟩ := hs1
           rw [hinv.env.ty] at hti
           split at hs1
           · -- all zbM
             simp only [mSo] at hs1
             obtain ⟨d, hld, rfl⟩ := hs1
             refine key n d hdn rfl ?_
             have hT : ∀ g, g < c.W.heap.size → ∀ w, RG (Gd c0 a0 none) c.W w → w.heap[g]? = c.W.heap[g]? := fun g hg w hw => hw.2 g hg trivial
             exact zju hinv.env.tys hinv.fr.sim (fun _ _ h => h) (fun _ _ h => h) (fun b g _ hg => hT g hg) (fun r cs hb => hT _ (hinv.fr.sim.boxes r cs hb).lt) (fun _ _ _ g hg => hT g hg) ho hti hld
           · rename_i M
             split at hs1
             · simp only [mSo] at hs1
               obtain ⟨d, hld, rfl⟩ := hs1
               refine key n d hdn rfl ?_
               have hmask : ∀ r cs, zoD M c.s r = some cs → c.s.box r = some cs ∧ ∃ n ∈ M, c.s.t n = .ptr r 0 := fun r cs hb => by
                unfold zoD at hb
                split at hb
                · rename_i n
                  split at hb
                  · rename_i hc
                    simp only [Bool.and_eq_true] at hc
                    exact ⟨hb, n, memN_iff.1 hc.1, zkY hc.2⟩
                  · cases hb
                · rename_i k
                  split at hb
                  · rename_i hc
                    obtain ⟨n, hn, hc⟩ := List.any_eq_true.1 hc
                    split at hc
                    · rename_i j o' ht
                      simp only [Bool.and_eq_true] at hc
                      rw [beq_eq.1 hc.1, beq_eq.1 hc.2] at ht
                      exact ⟨hb, n, hn, ht⟩
                    · cases hc
                  · cases hb
               refine zju hinv.env.tys hinv.fr.sim (gp := fun _ => none) (bx := zoD M c.s) (fun _ _ h => by cases h) (fun r cs hb => (hmask r cs hb).1) (fun b g hr hg w hw => ?_) (fun r cs hb w hw => ?_) (fun _ _ h => by cases h) ho hti hld
               · obtain ⟨h1, h2⟩ := hinv.fst rfl b g hr hg
                 exact hw.2 g hg (.inl ⟨h1, h2⟩)
               · obtain ⟨h1, n, hn, h2⟩ := hmask r cs hb
                 have hlt := (hinv.fr.sim.boxes _ cs h1).lt
                 have hv := hinv.fr.sim.slots n
                 rw [h2] at hv
                 have hv2 : a0.tmps.getD n undef = .pointer (some ⟨c.β r, 0, none⟩) := by
                  rw [← hinv.mtm M rfl n hn]
                  exact hv.2
                 exact hw.2 _ hlt (.inr ⟨n, hn, hv2⟩)
             · cases hs1
         · cases hs1
       · refine zfV RG.trans RG.refl (w0 := c.W) hi (Region.noSelect_spec hsel) (hQ _ _) (hfree hfr).1 fuel listed a c.W hfree2 (hfree hfr).2.2 hready (.inr ⟨hw, rfl⟩) (RG.refl _) ?_
         exact hafter first _ { c with s := c.s.putO o.dst .undef } _ undef rfl hu1 hu2 (zbD _ _ _) (zbf _ _ _) rfl (fun hf => hinv.fst hf) hg
     · -- alone
       have hrow' : (zb5 ops L i l && !fl i) = true := hrow
       simp only [Bool.and_eq_true, Bool.not_eq_true'] at hrow'
       refine halone hrow'.1 (.inr fun K hK => ?_)
       subst hK
       rw [show (first && zbM 2) = false from Bool.and_false first] at hg
       unfold wpOp
       rw [hi]
       simp only
       rcases hg with ⟨hw, hg⟩ | ⟨hw, hg⟩
       · rw [if_pos hw]
         refine .inl ?_
         simp only [zaz, zaW, bSo] at hg
         obtain ⟨s1, hs1, hg⟩ := hg
         refine Oper.wp_mono ?_ (zbQ (zbC hinv.env hinv.fr hk hs1 (fun a' w' => ∃ c', c'.W = w' ∧ c'.s = s1 ∧ Fr X c' a' ∧ Ext c c' ∧ a'.tmps.size = a.tmps.size ∧ a'.defers = a.defers) Q0 fun a' c' e1 e2 e3 e4 e5 => ⟨c', rfl, e1, e2, e3, e4, e5⟩))
         rintro a' w' ⟨⟨c', rfl, e1, e2, e3, e4, e5⟩, v, e6⟩
         exact ⟨fun e => by (rw [hrow'.2] at e; cases e), hafter false s1 c' a' v e1 e2 e3 e4 e5 e6 (fun e => by cases e) hg⟩
       · rw [if_neg (by rw [hw]; exact fun e => by cases e)]
         exact ⟨fun _ => RG.refl _, hafter false _ { c with s := c.s.putO o.dst .undef } _ undef rfl hu1 hu2 (zbD _ _ _) (zbf _ _ _) rfl (fun e => by cases e) hg⟩
     · -- a new variable
       exact halone hrow (.inl rfl)
     · -- alone, and loads are about
       have hrow : zb5 ops L i l = true := by
        unfold zqF at hrow
        split at hrow <;> first | (exfalso; omega) | exact hrow
       refine halone hrow (.inr fun K hK => ?_)
       subst hK
       rw [show (first && zbM (m + 4)) = false from Bool.and_false first] at hg
       unfold wpOp
       rw [hi]
       simp only
       rcases hg with ⟨hw, hg⟩ | ⟨hw, hg⟩
       · rw [if_pos hw]
         refine .inl ?_
         by_cases hm1 : m = 1
         · -- a row that grows
           subst hm1
           simp only [zaz, bSo] at hg
           obtain ⟨s1, hs1, hg⟩ := hg
           split at hs1
           · rename_i hgr
             unfold zl0 at hgr
             split at hgr
             · rename_i M
               simp only [Bool.and_eq_true] at hgr
               refine Oper.wp_mono ?_ (zbQ (zll hinv.env hinv.fr hk hgr.1 hs1 (fun a' w' => ∃ c', c'.W = w' ∧ c'.s = s1 ∧ Fr X c' a' ∧ Ext c c' ∧ a'.tmps.size = a.tmps.size ∧ a'.defers = a.defers ∧ ∀ g r, g < c.W.heap.size → c.ρ g = .box r → c'.W.heap[g]? = c.W.heap[g]?) Q0 fun a' c' e1 e2 e3 e4 e5 e6 => ⟨c', rfl, e1, e2, e3, e4, e5, e6⟩))
               rintro a' w' ⟨⟨c', rfl, e1, e2, e3, e4, e5, ef⟩, v, e6⟩
               refine ⟨fun _ => ⟨e3.size, fun g hgl hG => ?_⟩, hafter false s1 c' a' v e1 e2 e3 e4 e5 e6 (fun e => by cases e) hg⟩
               rcases hG with ⟨h0, h1⟩ | ⟨n, hn, h1⟩
               · exact (e3.keep g hgl (by rw [(hinv.ext.keep g h0 h1).1]; exact h1)).2
               · obtain ⟨r, h2, h3⟩ := zn0 ((List.all_eq_true.1 hgr.2) n hn)
                 obtain ⟨cs, hb⟩ := Option.isSome_iff_exists.1 h3
                 obtain ⟨vs, T, _, hbox, _⟩ := (hinv.fr.sim.boxes r cs hb).out
                 have hv := hinv.fr.sim.slots n
                 rw [h2] at hv
                 have h4 : a.tmps.getD n undef = .pointer (some ⟨c.β r, 0, none⟩) := hv.2
                 rw [hinv.mtm M rfl n hn, h1] at h4
                 have h5 : g = c.β r := by
                  injection h4 with h4
                  injection h4 with h4
                  injection h4
                 rw [← h5] at hbox
                 exact ef g r hgl hbox
             · cases hgr
           · cases hs1
         by_cases hm2 : m = 2 ∨ m = 4
         · have hr6 : zaz E Mo first (m + 4) c.s o = zaH E none c.s o := by
            rcases hm2 with rfl | rfl <;> rfl
           rw [hr6] at hg
           simp only [bSo] at hg
           obtain ⟨s1, hs1, hg⟩ := hg
           unfold zaH at hs1
           simp only [bSo] at hs1
           obtain ⟨ef, hev, hap⟩ := hs1
           have hef := za0 hinv.env.ty hinv.env.tys hinv.env.inv hinv.env.call hinv.fr.sim (fun _ _ h => h) (fun _ _ h => h) hev
           refine Oper.wp_mono ?_ (zbQ (zaB hinv.fr hd hef hap (fun a' w' => ∃ c', c'.W = w' ∧ c'.s = s1 ∧ Fr X c' a' ∧ Ext c c' ∧ Below c.W.heap.size c.W c'.W ∧ a'.tmps.size = a.tmps.size ∧ a'.defers = a.defers) Q0 fun a' c' e1 e2 e3 eb e4 e5 => ⟨c', rfl, e1, e2, e3, eb, e4, e5⟩))
           rintro a' w' ⟨⟨c', rfl, e1, e2, e3, eb, e4, e5⟩, v, e6⟩
           exact ⟨fun _ => RG.of_below eb, hafter false s1 c' a' v e1 e2 e3 e4 e5 e6 (fun e => by cases e) hg⟩
         by_cases hm5 : m = 5
         · -- a conversion that reads a row
           subst hm5
           simp only [zaz, bSo] at hg
           obtain ⟨s1, hs1, hg⟩ := hg
           split at hs1
           · rename_i hcv
             have hwp : o.wp P a c.W (fun a' w' => ∃ c', c'.W = w' ∧ c'.s = s1 ∧ Fr X c' a' ∧ Ext c c' ∧ Below c.W.heap.size c.W c'.W ∧ a'.tmps.size = a.tmps.size ∧ a'.defers = a.defers) Q0 := by
              unfold step at hs1
              split at hs1
              · rename_i ef hev
                have hef := za0 hinv.env.ty hinv.env.tys hinv.env.inv hinv.env.call hinv.fr.sim (fun _ _ h => h) (fun _ _ h => h) hev
                exact zaB hinv.fr hd hef hs1 _ Q0 fun a' c' e1 e2 e3 eb e4 e5 => ⟨c', rfl, e1, e2, e3, eb, e4, e5⟩
              · unfold zmU at hcv
                split at hcv
                · rename_i t u z ho
                  rw [ho] at hs1
                  simp only [doOp] at hs1
                  exact zgZ hinv.env hinv.fr hd ho hs1 _ Q0 fun a' c' e1 e2 e3 eb e4 e5 => ⟨c', rfl, e1, e2, e3, eb, e4, e5⟩
                · cases hcv
             refine Oper.wp_mono ?_ (zbQ hwp)
             rintro a' w' ⟨⟨c', rfl, e1, e2, e3, eb, e4, e5⟩, v, e6⟩
             exact ⟨fun _ => RG.of_below eb, hafter false s1 c' a' v e1 e2 e3 e4 e5 e6 (fun e => by cases e) hg⟩
           · cases hs1
         have hrs : ∀ s, zaz E Mo first (m + 4) s o = zaH E Mo s o := fun s => by
          unfold zaz
          split
          · exfalso; omega
          · exfalso; omega
          · exfalso; omega
          · exfalso; omega
          · exfalso; omega
          · exfalso; omega
          · exfalso; omega
          · exfalso; omega
          · exfalso; omega
          · rfl
         rw [hrs] at hg
         simp only [bSo] at hg
         obtain ⟨s1, hs1, hg⟩ := hg
         unfold zaH at hs1
         split at hs1
         · simp only [bSo] at hs1
           obtain ⟨ef, hev, hap⟩ := hs1
           have hef := za0 hinv.env.ty hinv.env.tys hinv.env.inv hinv.env.call hinv.fr.sim (fun _ _ h => h) (fun _ _ h => h) hev
           refine Oper.wp_mono ?_ (zbQ (zaB hinv.fr hd hef hap (fun a' w' => ∃ c', c'.W = w' ∧ c'.s = s1 ∧ Fr X c' a' ∧ Ext c c' ∧ Below c.W.heap.size c.W c'.W ∧ a'.tmps.size = a.tmps.size ∧ a'.defers = a.defers) Q0 fun a' c' e1 e2 e3 eb e4 e5 => ⟨c', rfl, e1, e2, e3, eb, e4, e5⟩))
           rintro a' w' ⟨⟨c', rfl, e1, e2, e3, eb, e4, e5⟩, v, e6⟩
           exact ⟨fun _ => RG.of_below eb, hafter false s1 c' a' v e1 e2 e3 e4 e5 e6 (fun e => by cases e) hg⟩
         · rename_i M
           split at hs1
           · cases hs1
           rename_i hhid
           simp only [bSo] at hs1
           obtain ⟨s2, hs2, hs1⟩ := hs1
           split at hs1
           · rename_i hno
             cases hs1
             obtain ⟨f1, f2⟩ := zk5 hinv.fr hhid
             have hE2 := hinv.env.next f2 rfl
             refine Oper.wp_mono ?_ (zbQ (zbC hE2 f1 hk hs2 (fun a' w' => ∃ c', c'.W = w' ∧ c'.s = s2 ∧ Fr X c' a' ∧ Ext (c.hid M) c' ∧ a'.tmps.size = a.tmps.size ∧ a'.defers = a.defers) Q0 fun a' c' e1 e2 e3 e4 e5 => ⟨c', rfl, e1, e2, e3, e4, e5⟩))
             rintro a' w' ⟨⟨c', rfl, e1, e2, e3, e4, e5⟩, v, e6⟩
             obtain ⟨g1, g2⟩ := zjy hinv.fr hhid e3 e2 e4 e6 (by rw [e1]; exact hno)
             refine ⟨fun _ => ⟨e3.size, fun g hgl hG => ?_⟩, hafter false _ (c.shown c' M o.dst) a' v (by show c'.s.shown M o.dst c.s = _; rw [e1]) g1 g2 e4 e5 e6 (fun e => by cases e) hg⟩
             refine (e3.keep g hgl ?_).2
             show stable (match c.isM M g with | true => Role.oth | false => c.ρ g)
             cases hM2 : c.isM M g with
             | true => trivial
             | false =>
               show stable (c.ρ g)
               rcases hG with ⟨h0, h1⟩ | ⟨n, hn, h1⟩
               · rw [(hinv.ext.keep g h0 h1).1]
                 exact h1
               · exfalso
                 have hv := hinv.fr.sim.slots n
                 rw [(zfe hhid hn).1] at hv
                 have h2 : a.tmps.getD n undef = .pointer (some ⟨c.β (.loc n), 0, none⟩) := hv.2
                 rw [hinv.mtm M rfl n hn, h1] at h2
                 have h3 : g = c.β (.loc n) := by
                  injection h2 with h2
                  injection h2 with h2
                  injection h2
                 rw [isM_iff.2 ⟨n, hn, h3.symm⟩] at hM2
                 cases hM2
           · cases hs1
       · rw [if_neg (by rw [hw]; exact fun e => by cases e)]
         exact ⟨fun _ => RG.refl _, hafter false _ { c with s := c.s.putO o.dst .undef } _ undef rfl hu1 hu2 (zbD _ _ _) (zbf _ _ _) rfl (fun e => by cases e) hg⟩
end
end Go.Den
namespace Go.Den
open Go Go.RowKit
set_option linter.unusedVariables false
variable {B : Nat → Option Obj}
theorem zpy {c : Cx} {a : Act} {X : Nat} (hf : Fr X c a) : Fr X { c with W := { c.W with drawn := c.W.drawn + 1 } } a ∧ Ext c { c with W := { c.W with drawn := c.W.drawn + 1 } } := by
 refine ⟨⟨Sim.same (Z := fun _ => False) hf.sim rfl (fun _ _ _ h => h) ⟨rfl, fun b g h _ => ⟨h, rfl⟩, fun q r hq _ => ⟨hq, rfl⟩, fun r hr _ => ⟨hr, rfl⟩, fun q _ => ⟨rfl, fun g h _ => ⟨h, rfl⟩⟩⟩ fun r hr => ?_, hf.ghost.out, hf.ghost.own⟩, rfl, rfl, rfl, Nat.le_refl _, fun _ _ _ => ⟨rfl, rfl⟩, rfl, fun _ => rfl, fun _ => rfl⟩
 obtain ⟨cs, hb⟩ := Option.isSome_iff_exists.1 hr
 obtain ⟨vs, T, h1, h2, _⟩ := (hf.sim.boxes r cs hb).out
 exact ⟨h2, rfl⟩
theorem zfM {s : St} : ∀ {ds : List Nat}, zgF s ds = true → ∀ n ∈ ds, (s.t n).hasOwn = false
 | [], h, n, hn => by cases hn
 | m :: ds, h, n, hn => by
   have h' : (!(s.t m).hasOwn && zgF s ds) = true := h
   simp only [Bool.and_eq_true, Bool.not_eq_true'] at h'
   rcases List.mem_cons.1 hn with rfl | hn
   · exact h'.1
   · exact zfM h'.2 n hn
theorem zot {c : Cx} {a : Act} {X : Nat} {ds : List Nat} (hf : Fr X c a) (h : zgF c.s ds = true) : Fr X { c with s := c.s.junks ds } a := by
 refine ⟨zcV (K := Kill.none) hf.sim (fun y => ?_) (fun r cs' h => ⟨cs', by cases r <;> exact h, (zeA _).symm⟩) rfl (fun q r hq _ => ?_) (fun r hr _ => by cases r <;> exact hr), hf.ghost.out, ?_⟩
 · cases hm : memN y ds with
   | true => left; simp only [St.junks, hm]
   | false => right; simp only [St.junks, hm, zbk, and_self]
 · cases q with
   | slot y l =>
     show (D.at_ l ((c.s.junks ds).t y)).row? = _
     cases hm : memN y ds with
     | true =>
       have hq' : (D.at_ l (c.s.t y)).row? = some r := hq
       rw [zbG l _ (zfM h y (memN_iff.1 hm))] at hq'
       cases hq'
     | false => simp only [St.junks, hm]; exact hq
   | cell r0 o => cases r0 <;> exact hq
   | lent j => exact hq
 · show ((c.s.junks ds).t X).hasOwn = false
   cases hm : memN X ds with
   | true => simp only [St.junks, hm]; rfl
   | false => simp only [St.junks, hm]; exact hf.ghost.own
theorem zk7 {P : Program} {E : Env} {X id : Nat} {ops : Array Oper} {p : Plan} (hm : P.follows .mixedOrders = true) (hp : E.plan id = some p) (hok : zkm E.ty ops p = true) (hops : ∀ o ∈ ops.toList, zbg E.nt o = true) : zoL P B E X id ops := by
 intro c a s' Q hE hf h hEnd
 unfold zkm at hok
 simp only [Bool.and_eq_true] at hok
 obtain ⟨⟨hsel, hdst, hlen⟩, hMc, hgo⟩ := hok
 have hlen : p.2.length ≤ ops.size := by simpa using hlen
 have hM : ∀ M, p.1 = some M → ∀ o ∈ ops.toList, ∀ n ∈ M, o.dst ≠ some n := by
  intro M hM o ho n hn e
  rw [hM] at hMc
  simp only at hMc
  have h1 := (Array.all_eq_true_iff_forall_mem.1 hMc) o (Array.mem_toList_iff.1 ho)
  have h2 := (List.all_eq_true.1 h1) n hn
  simp [znQ, e] at h2
 obtain ⟨hf1, he1⟩ := zpy hf
 let Q0 : Exit → Act → World → Prop := fun x a w => match x with | .normal => Q .normal a w | _ => False
 refine Code.wp_mono (Q := Q0) (fun e a w hq => ?_) (wp_region_any hm (zgL (R := RG (Gd { c with W := { c.W with drawn := c.W.drawn + 1 } } a p.1)) (str := zjk p.2) _ _ _ _ ?_))
 · cases e <;> first | exact hq | exact hq.elim
 · simp only [zcm, hp, zjx] at h
   have hstill : zc5 [] p.2 ≤ ops.size := by
    unfold zc5
    exact Nat.le_trans List.countP_le_length hlen
   have key : ∀ (s0 : St), Fr X { c with W := { c.W with drawn := c.W.drawn + 1 }, s := s0 } a → zaE E ops p.1 true p.2 s0 = some s' →
    zca P .any ops Q0 (RG (Gd { c with W := { c.W with drawn := c.W.drawn + 1 } } a p.1)) (zjk p.2) ops.size (Array.replicate ops.size false) a { c.W with drawn := c.W.drawn + 1 } := by
    intro s0 hf0 h0
    have he0 : Ext c { c with W := { c.W with drawn := c.W.drawn + 1 }, s := s0 } := ⟨rfl, rfl, rfl, Nat.le_refl _, fun _ _ _ => ⟨rfl, rfl⟩, rfl, fun _ => rfl, fun _ => rfl⟩
    have hE0 := hE.next he0 rfl
    refine zlt (E := E) (X := X) (Q0 := Q0) (c0 := { c with W := { c.W with drawn := c.W.drawn + 1 }, s := s0 }) (a0 := a) hE0.tys hops hsel hdst hM (fun _ _ _ h => h) (hEnd.from he0 rfl rfl) p.2 ops.size true (Array.replicate ops.size false) _ [] (fun _ => 0)
     { c with W := { c.W with drawn := c.W.drawn + 1 }, s := s0 } a hgo (Sup.refl _) (fun j hj => by cases hj) hstill ⟨hE0.inv, hf0, hE0, Ext.refl _, rfl, rfl, fun _ _ _ _ => rfl, fun _ b g hr hg => ⟨hg, hr.stable⟩, fun j hj => (by cases hj), fun j k hj => (by cases hj)⟩ h0
   split at h
   · rename_i hnil
     refine key c.s hf1 ?_
     rw [hnil]
     exact h
   · rename_i i k ds l hcons
     split at h
     · rename_i hno
       refine key (c.s.junks ds) (zot hf1 hno) ?_
       rw [hcons]
       exact h
     · cases h
def zbN (ty : Nat → Option TI) (nt : Nat) (plan : Nat → Option Plan) : Code → Bool
 | .region id ops draw => match draw with
   | true => (match plan id with | some p => zkm ty ops p | none => true)
   | false => true
 | .seq a b => zbN ty nt plan a && zbN ty nt plan b
 | .cond _ a b => zbN ty nt plan a && zbN ty nt plan b
 | .block _ a => zbN ty nt plan a
 | .loop a => zbN ty nt plan a
 | _ => true
theorem zbm {P : Program} {E : Env} {X : Nat} (hm : P.follows .mixedOrders = true) : ∀ (code : Code), zbt E.nt code = true → zbN E.ty E.nt E.plan code = true → zcx P B E X code
 | .region id ops draw, hk, h => fun hd => by
   subst hd
   have hops : ∀ o ∈ ops.toList, zbg E.nt o = true := List.all_eq_true.1 hk
   have h' : (match E.plan id with | some p => zkm E.ty ops p | none => true) = true := h
   cases hp : E.plan id with
   | none =>
     intro c a s' Q hE hf hr
     simp only [zcm, hp] at hr
     cases hr
   | some p =>
     rw [hp] at h'
     exact zk7 hm hp h' hops
 | .seq a b, hk, h => by
   have hk' : (zbt E.nt a && zbt E.nt b) = true := hk
   have h' : (zbN E.ty E.nt E.plan a && zbN E.ty E.nt E.plan b) = true := h
   simp only [Bool.and_eq_true] at hk' h'
   exact ⟨zbm hm a hk'.1 h'.1, zbm hm b hk'.2 h'.2⟩
 | .cond _ a b, hk, h => by
   have hk' : (zbt E.nt a && zbt E.nt b) = true := hk
   have h' : (zbN E.ty E.nt E.plan a && zbN E.ty E.nt E.plan b) = true := h
   simp only [Bool.and_eq_true] at hk' h'
   exact ⟨zbm hm a hk'.1 h'.1, zbm hm b hk'.2 h'.2⟩
 | .block _ a, hk, h => zbm hm a hk h
 | .loop a, hk, h => zbm hm a hk h
 | .skip, hk, h => trivial
 | .rangeFunc _ _ _ _, hk, h => trivial
 | .scope _, hk, h => trivial
 | .refuse _, hk, h => trivial
 | .exit _, hk, h => trivial
 | .ret, hk, h => trivial
 | .label _, hk, h => trivial
 | .goto _, hk, h => trivial
end Go.Den
namespace Go.Den
open Go Go.RowKit
set_option linter.unusedVariables false
variable {B : Nat → Option Obj}
structure Left (w w' : World) (v : Value) : Prop where
 os : w'.os = w.os
 tape : w'.tape = w.tape
 output : w'.output = w.output
 size : w.heap.size ≤ w'.heap.size
 keep : ∀ g, g < w.heap.size → v.ownBlock ≠ some g → w'.heap[g]? = w.heap[g]?
theorem zal {P : Program} {f : Nat} {fn : Func} {vals : Array Value} {W : World} {R : Value → World → Prop} (hf : P.funcs[f]? = some fn) (hn : (fn.name == "runtime.NumGoroutine") = false) (hb : fn.body.isSome = true) (h : Calls P f vals W fun e w' => ∃ v, e = .returned v ∧ R v w') : Reaches P f vals W R := by
 obtain ⟨code, hbd⟩ := Option.isSome_iff_exists.1 hb
 have hent : (callFunc f vals).run P W = .ok (.enter f vals) W := by
  have h1 : fn.name ≠ "runtime.NumGoroutine" := by simpa using hn
  simp [callFunc, hf, h1, hbd, mark]
 unfold Reaches
 rw [hent]
 refine Calls.mono h fun e w' he => ?_
 obtain ⟨v, rfl, hr⟩ := he
 exact hr
def zfc (es : List Dat) (xs : List Value) : Prop := es.length = xs.length ∧ ∀ (j : Nat) (d : Dat) (v : Value), es[j]? = some d → xs[j]? = some v → d = .val v ∧ scal v = true
theorem zeO {ρ : Nat → Role} {W : World} {es : List Dat} {xs : List Value} (h : zfc es xs) : RepRow ρ W 1 es xs := by
 obtain ⟨hl, h⟩ := h
 refine ⟨by omega, fun j d hj => ?_, fun j d hj => ?_⟩
 · have hlt := (List.getElem?_eq_some_iff.1 hj).1
   have hx := List.getElem?_eq_getElem (show j < xs.length by omega)
   obtain ⟨rfl, hs⟩ := h j d _ hj hx
   have e1 : (xs.drop (j * 1)).take 1 = [xs[j]] := by
    rw [Nat.mul_one, List.drop_eq_getElem_cons (by omega)]
    rfl
   rw [e1]
   exact .val hs
 · have hlt := (List.getElem?_eq_some_iff.1 hj).1
   have hx := List.getElem?_eq_getElem (show j < xs.length by omega)
   obtain ⟨rfl, hs⟩ := h j d _ hj hx
   rfl
theorem zce {ρ : Nat → Role} {W : World} {es : List Dat} {xs : List Value} (h : RepRow ρ W 1 es xs) (hv : ∀ d ∈ es, ∃ v, d = .val v) : zfc es xs := by
 refine ⟨by have := h.len; omega, fun j d v hd hx => ?_⟩
 obtain ⟨u, rfl⟩ := hv d (List.mem_of_getElem? hd)
 have hr := h.rep j _ hd
 have hlt := (List.getElem?_eq_some_iff.1 hx).1
 have e1 : (xs.drop (j * 1)).take 1 = [v] := by
  rw [Nat.mul_one, List.drop_eq_getElem_cons hlt, (List.getElem?_eq_some_iff.1 hx).2]
  rfl
 rw [e1] at hr
 cases hr with
 | val hs => exact ⟨rfl, hs⟩
end Go.Den
namespace Go.Den
open Go Go.RowKit
set_option linter.unusedVariables false
variable {B : Nat → Option Obj}
structure ExtOK (P : Program) (ty : Nat → Option TI) (B : Nat → Option Obj) (f : Nat) (g : List D → List (List D) → List (Option Row) → Option (List D × List (List D) × List (Option Row))) : Prop where mk ::
 out : zcP P ty B fun f' args u l => if f' = f then g args u l else none
theorem znU {P : Program} {C : Cfg} (h1 : TyOk P C.ty) (h2 : ∀ f fn, C.fn f = some fn → FnOK P B C f fn) (h3 : ∀ f g, C.ext f = some g → ExtOK P C.ty B f g) : CfgOK P B C := ⟨h1, h2, fun f g h => (h3 f g h).out⟩
def zeN : List Dat → Option (List Int)
 | [] => some []
 | .val (.int .i64 n) :: l => (zeN l).map (n :: ·)
 | _ => none
def DI (n : Int) : Dat := .val (.int .i64 n)
theorem zcw : ∀ {es : List Dat} {zs : List Int}, zeN es = some zs → es = zs.map DI
 | [], zs, h => by cases h; rfl
 | d :: es, zs, h => by
   unfold zeN at h
   split at h
   · rename_i h0; cases h0
   · rename_i n l h0
     cases h0
     obtain ⟨ys, h1, rfl⟩ := mSo.1 h
     rw [zcw h1]
     rfl
   · cases h
theorem zdq {zs : List Int} {xs : List Value} (h : zfc (zs.map DI) xs) : xs = zs.map (Value.int .i64) := by
 obtain ⟨hl, h⟩ := h
 apply List.ext_getElem?
 intro j
 cases hx : xs[j]? with
 | none =>
   have := List.getElem?_eq_none_iff.1 hx
   have hl' : zs.length ≤ j := by simp at hl; omega
   simp [List.getElem?_eq_none hl']
 | some v =>
   have hlt := (List.getElem?_eq_some_iff.1 hx).1
   have hz : j < zs.length := by simp at hl; omega
   have hd : (zs.map DI)[j]? = some (DI zs[j]) := by simp [hz]
   obtain ⟨h1, _⟩ := h j _ _ hd hx
   have : v = .int .i64 zs[j] := by unfold DI at h1; injection h1 with h1; exact h1.symm
   rw [this]
   simp [hz]
theorem zgI (zs : List Int) : zfc (zs.map DI) (zs.map (Value.int .i64)) := by
 refine ⟨by simp, fun j d v hd hv => ?_⟩
 rw [List.getElem?_map] at hd hv
 cases hz : zs[j]? with
 | none => rw [hz] at hd; cases hd
 | some z =>
   rw [hz] at hd hv
   cases hd; cases hv
   exact ⟨rfl, rfl⟩
theorem znn {w : World} {g e cap : Nat} {cur : Array Value} {zs : List Int} (hg : w.heap[g]? = some (.cells cur e (0, 0))) (hc : zs.length ≤ cap) (hs : cur.size = cap * 1) (ht : cur.toList.take (zs.length * 1) = zs.map (Value.int .i64)) : Sort.Holds (Value.int .i64) w g 0 zs.toArray := by
 intro j hj
 have hj : j < zs.length := by simpa using hj
 refine ⟨?_, ?_⟩
 · unfold World.cell?
   simp only [hg]
   have e1 : (cur.toList.take (zs.length * 1))[j]? = (zs.map (Value.int .i64))[j]? := by rw [ht]
   rw [List.getElem?_take, if_pos (by omega), List.getElem?_map, List.getElem?_eq_getElem hj] at e1
   have e2 : (zs.toArray)[j]! = zs[j] := by simp [hj]
   rw [e2]
   simpa using e1
 · unfold World.frozen?
   simp only [hg]
   simp
theorem zo2 {w : World} {g e cap n : Nat} {cur : Array Value} {zs : List Int} {os : Array Obj} (hg : w.heap[g]? = some (.cells cur e (0, 0))) (hc : zs.length ≤ cap) (hm : cap ≤ maxLen) (hs : cur.size = cap * 1) {m : Nat} (hmz : m ≤ zs.length) :
 let W' := Sort.grow (Sort.putRow (Value.int .i64) (Sort.ahead w n) g 0 zs.toArray) os
 Left w W' (.slice (some ⟨g, 0, none⟩) m cap) ∧ W'.ownsRow 0 e 1 (.slice (some ⟨g, 0, none⟩) m cap) m ((zs.take m).map (Value.int .i64)) := by
 intro W'
 have hglt : g < w.heap.size := by
  rcases Nat.lt_or_ge g w.heap.size with h | h
  · exact h
  · rw [Array.getElem?_eq_none h] at hg; cases hg
 have hheap : ∀ k, k < w.heap.size → W'.heap[k]? = (w.heap.modify g (Sort.onCells (Sort.putCells (Value.int .i64) 0 zs.toArray)))[k]? := fun k hk => by
  show ((w.heap.modify g _) ++ os)[k]? = _
  rw [Array.getElem?_append_left (by simpa using hk)]
 refine ⟨⟨rfl, rfl, rfl, ?_, fun k hk hne => ?_⟩, ?_⟩
 · show w.heap.size ≤ ((w.heap.modify g _) ++ os).size
   simp
 · rw [hheap k hk, Array.getElem?_modify, if_neg]
   intro h
   subst h
   exact hne rfl
 · refine ⟨by simp; omega, .inr ⟨g, cap, Sort.putCells (Value.int .i64) 0 zs.toArray cur, rfl, Nat.zero_le _, ?_, by omega, hm, ?_, ?_⟩⟩
   · rw [hheap g hglt, Array.getElem?_modify, if_pos rfl, hg]
     rfl
   · unfold Sort.putCells
     simpa using hs
   · apply List.ext_getElem?
     intro j
     rw [List.getElem?_take, List.getElem?_map, List.getElem?_take]
     by_cases hj : j < m
     · have hj1 : j < m * 1 := by omega
       rw [if_pos hj1, if_pos hj]
       have hjc : j < cur.size := by omega
       have hjz : j < zs.length := by omega
       unfold Sort.putCells
       rw [Array.getElem?_toList, Array.getElem?_mapIdx, Array.getElem?_eq_getElem hjc]
       simp only [Option.map_some]
       rw [if_pos ⟨Nat.zero_le _, by simpa using hjz⟩, List.getElem?_eq_getElem hjz]
       simp [hjz]
     · rw [if_neg (by omega), if_neg hj]
       rfl
end Go.Den
namespace Go.Den
open Go Go.RowKit
set_option linter.unusedVariables false
variable {B : Nat → Option Obj}
structure Kept0 (w w' : World) : Prop where
 os : w'.os = w.os
 tape : w'.tape = w.tape
 output : w'.output = w.output
 size : w.heap.size ≤ w'.heap.size
 keep : ∀ g, g < w.heap.size → w'.heap[g]? = w.heap[g]?
theorem Kept0.refl (w : World) : Kept0 w w := ⟨rfl, rfl, rfl, Nat.le_refl _, fun _ _ => rfl⟩
theorem Kept0.trans {a b c : World} (h : Kept0 a b) (k : Kept0 b c) : Kept0 a c :=
 ⟨k.os.trans h.os, k.tape.trans h.tape, k.output.trans h.output, Nat.le_trans h.size k.size, fun g hg => (k.keep g (Nat.lt_of_lt_of_le hg h.size)).trans (h.keep g hg)⟩
theorem Kept0.alloc (w : World) (o : Obj) : Kept0 w (w.alloc o) := ⟨rfl, rfl, rfl, by simp, fun g hg => Below.heap_alloc w o g hg⟩
theorem Kept0.drew (w : World) : Kept0 w w.drew := ⟨rfl, rfl, rfl, Nat.le_refl _, fun _ _ => rfl⟩
def zhS : List D → Option (List Value)
 | [] => some []
 | .dat (.val v) :: ds => (zhS ds).map (v :: ·)
 | _ => none
def DV (v : Value) : D := .dat (.val v)
def zeR (φ : List Value → Option (List Value)) (args : List D) (u : List (List D)) (l : List (Option Row)) : Option (List D × List (List D) × List (Option Row)) :=
 match u, l with
 | [], [] => (zhS args).bind fun vs => (φ vs).map fun rs => (rs.map DV, [], [])
 | _, _ => none
def retV : List Value → Value
 | [v] => v
 | vs => .tuple vs.toArray
theorem ziY {c : Cx} {tm : Array Value} (hs : ∀ x, VR c (.slot x []) (c.s.t x) (tm.getD x undef)) : ∀ {args : List D} {vs : List Value} (k : Nat), zhS args = some vs → (∀ i d, args[i]? = some d → c.s.t (k + i) = d) → vs.length = args.length ∧ ∀ i v, vs[i]? = some v → tm.getD (k + i) undef = v
 | [], vs, k, h, ht => by cases h; exact ⟨rfl, fun i v hv => by simp at hv⟩
 | d :: ds, vs, k, h, ht => by
   unfold zhS at h
   split at h
   · rename_i h0; cases h0
   · rename_i w ds' h0
     cases h0
     obtain ⟨ws, hw, rfl⟩ := mSo.1 h
     obtain ⟨h1, h2⟩ := ziY hs (k + 1) hw (fun i d hd => by rw [show k + 1 + i = k + (i + 1) by omega]; exact ht (i + 1) d (by simpa using hd))
     refine ⟨by simp [h1], fun i v hv => ?_⟩
     cases i with
     | zero =>
       cases hv
       have h3 := hs (k + 0)
       rw [ht 0 _ rfl] at h3
       exact (zav h3).1
     | succ i => rw [show k + (i + 1) = k + 1 + i by omega]; exact h2 i v (by simpa using hv)
   · cases h
theorem zmF {c : Cx} {p : Pl} : ∀ (rs : List Value) (i : Nat), (∀ r ∈ rs, scal r = true) → VRs c p i (rs.map DV) rs
 | [], i, h => rfl
 | r :: rs, i, h => ⟨r, rs, rfl, zaK (h r (by simp)), zmF rs (i + 1) fun x hx => h x (List.mem_cons_of_mem _ hx)⟩
theorem zfX (b : Bool) : ∀ rs : List Value, D.tights b (rs.map DV) = true
 | [] => rfl
 | r :: rs => by
   show (D.tight b (DV r) && D.tights b (rs.map DV)) = true
   rw [zfX b rs]
   rfl
theorem zf8 : ∀ rs : List Value, D.plains (rs.map DV) = true
 | [] => rfl
 | r :: rs => by
   show (D.plain (DV r) && D.plains (rs.map DV)) = true
   rw [zf8 rs]
   rfl
theorem zf6 {P : Program} {ty : Nat → Option TI} {f : Nat} {φ : List Value → Option (List Value)}
 (h : ∀ vs rs W, (∀ (g : Nat) (o : Obj), B g = some o → W.heap[g]? = some o) → φ vs = some rs → rs ≠ [] ∧ (∀ r ∈ rs, scal r = true) ∧ Reaches P f vs.toArray W fun r W' => r = retV rs ∧ Kept0 W W') :
 zcP P ty B fun f' args u l => if f' = f then zeR φ args u l else none := by
 intro f' args u l rs u' l' hc c vals hcty hI hcs hsz2 hs
 simp only at hc
 split at hc
 · rename_i hff
   subst hff
   unfold zeR at hc
   split at hc
   · simp only [bSo, mSo] at hc
     obtain ⟨vs, hv, ws, hw, hq⟩ := hc
     cases hq
     obtain ⟨hne, hsc, hr⟩ := h vs ws c.W (fun g o hg => (hI g o hg).2) hw
     obtain ⟨h1, h2⟩ := ziY (c := c) (tm := vals) hs.slots 0 hv (fun i d hd => by
      rw [hcs]
      show args.getD (0 + i) .undef = d
      rw [Nat.zero_add, List.getD_eq_getElem?_getD, hd]
      rfl)
     have hvals : vals = vs.toArray := by
      apply Array.ext
      · simp [hsz2, h1]
      · intro i hi1 hi2
        have hi3 : i < vs.length := by simpa using hi2
        have := h2 i vs[i] (List.getElem?_eq_getElem hi3)
        rw [Nat.zero_add] at this
        simpa [Array.getD, hi1] using this
     rw [hvals]
     refine hr.mono fun r W' hrr => ?_
     obtain ⟨rfl, hk⟩ := hrr
     refine ⟨{ c with W := W', s := ⟨fun x => match Nat.beq x 0 with | true => retD (ws.map DV) | false => .junk, fun _ => none, [], []⟩ }, rfl, Ans.of (zf8 ws) ⟨?_, rfl, ?_, ?_, ?_⟩⟩
     · exact ⟨hk.os, hk.tape, hk.output, hk.size, fun g hg _ => ⟨rfl, hk.keep g hg⟩, rfl, fun _ => rfl, fun _ => rfl⟩
     · refine ⟨fun x => ?_, fun r cs hb => ?_, fun j r hgj => ?_⟩
       · show VR _ _ (match Nat.beq x 0 with | true => retD (ws.map DV) | false => .junk) _
         cases hx : Nat.beq x 0 with
         | true =>
           have := Nat.eq_of_beq_eq_true hx
           subst this
           match ws, hne, hsc with
           | [w], _, hsc => exact zaK (hsc w (by simp))
           | w :: w2 :: ws, _, hsc => exact ⟨w :: w2 :: ws, rfl, fun e => (by cases e), zmF (w :: w2 :: ws) 0 hsc⟩
         | false => trivial
       · cases r with
         | loc n => cases hb
         | up n =>
           have hb' : ([] : List (List D))[n]? = some cs := hb
           simp at hb'
       · have hgj' : (([] : List (Option Row))[j]?).bind id = some r := hgj
         simp at hgj'
     · match ws, hne with
       | [w], _ => rfl
       | w :: w2 :: ws, _ => exact zfX false (w :: w2 :: ws)
     · rw [hcs]
       rfl
   · cases hc
 · cases hc
theorem zm0 {P : Program} {ty : Nat → Option TI} {f : Nat} {fn : Func} {φ : List Value → Option (List Value)} (hf : P.funcs[f]? = some fn) (hn : (fn.name == "runtime.NumGoroutine") = false) (hb : fn.body.isSome = true)
 (h : ∀ vs rs W, φ vs = some rs → rs ≠ [] ∧ (∀ r ∈ rs, scal r = true) ∧ Calls P f vs.toArray W fun e w' => ∃ v, e = .returned v ∧ (v = retV rs ∧ Kept0 W w')) : ExtOK P ty B f (zeR φ) :=
 ⟨zf6 fun vs rs W _ hv => ⟨(h vs rs W hv).1, (h vs rs W hv).2.1, zal hf hn hb (h vs rs W hv).2.2⟩⟩
theorem zlv {P : Program} {ty : Nat → Option TI} {f : Nat} {fn : Func} {φ : List Value → Option (List Value)} (hf : P.funcs[f]? = some fn) (hn : (fn.name == "runtime.NumGoroutine") = false) (hb : fn.body.isSome = true)
 (h : ∀ vs rs W, (∀ (g : Nat) (o : Obj), B g = some o → W.heap[g]? = some o) → φ vs = some rs → rs ≠ [] ∧ (∀ r ∈ rs, scal r = true) ∧ Calls P f vs.toArray W fun e w' => ∃ v, e = .returned v ∧ (v = retV rs ∧ Kept0 W w')) : ExtOK P ty B f (zeR φ) :=
 ⟨zf6 fun vs rs W hB hv => ⟨(h vs rs W hB hv).1, (h vs rs W hB hv).2.1, zal hf hn hb (h vs rs W hB hv).2.2⟩⟩
end Go.Den
namespace Go.Proofs
open Go.Shelf
def Tryd.laysM246_ren : Go.Shelf.Ren := ⟨fun | 246 => 120 | 283 => 133 | 284 => 134 | 285 => 135 | 286 => 136 | 129 => 142 | 317 => 141 | 318 => 143 | 319 => 144 | 320 => 145 | 337 => 152 | 338 => 153 | n => n, fun | 2 => 2 | 3 => 3 | 9 => 9 | 4 => 4 | 171 => 154 | 0 => 0 | 53 => 90 | 37 => 45 | 5 => 5 | 173 => 157 | 212 => 162 | 51 => 163 | 20 => 20 | 213 => 164 | 46 => 137 | 232 => 180 | 233 => 181 | n => n, fun | 17 => 0 | 18 => 3 | 19 => 4 | n => n⟩
def Tryd.laysM243_ren : Go.Shelf.Ren := ⟨fun | 243 => 90 | 246 => 120 | 283 => 133 | 284 => 134 | 285 => 135 | 286 => 136 | 129 => 142 | 317 => 141 | 318 => 143 | 319 => 144 | 320 => 145 | 337 => 152 | 338 => 153 | n => n, fun | 3 => 3 | 9 => 9 | 2 => 2 | 4 => 4 | 171 => 154 | 0 => 0 | 53 => 90 | 37 => 45 | 5 => 5 | 173 => 157 | 212 => 162 | 51 => 163 | 20 => 20 | 213 => 164 | 46 => 137 | 232 => 180 | 233 => 181 | n => n, fun | 17 => 0 | 18 => 3 | 19 => 4 | n => n⟩
def Tryd.laysM171_ren : Go.Shelf.Ren := ⟨fun | 171 => 74 | 243 => 90 | 246 => 120 | 283 => 133 | 284 => 134 | 285 => 135 | 286 => 136 | 129 => 142 | 317 => 141 | 318 => 143 | 319 => 144 | 320 => 145 | 337 => 152 | 338 => 153 | n => n, fun | 3 => 3 | 9 => 9 | 2 => 2 | 4 => 4 | 171 => 154 | 0 => 0 | 53 => 90 | 37 => 45 | 5 => 5 | 173 => 157 | 212 => 162 | 51 => 163 | 20 => 20 | 213 => 164 | 46 => 137 | 232 => 180 | 233 => 181 | n => n, fun | 17 => 0 | 18 => 3 | 19 => 4 | n => n⟩
theorem Tryd.laysM171 : Go.Proofs.LaysM.n171 Tryd.prog Tryd.laysM171_ren := {
 mixed := by kernel_rfl
 f129 := Tryd.func142.trans (congrArg some (by kernel_rfl))
 f171 := Tryd.func74.trans (congrArg some (by kernel_rfl))
 f243 := Tryd.func90.trans (congrArg some (by kernel_rfl))
 f246 := Tryd.func120.trans (congrArg some (by kernel_rfl))
 f283 := Tryd.func133.trans (congrArg some (by kernel_rfl))
 f284 := Tryd.func134.trans (congrArg some (by kernel_rfl))
 f285 := Tryd.func135.trans (congrArg some (by kernel_rfl))
 f286 := Tryd.func136.trans (congrArg some (by kernel_rfl))
 f317 := Tryd.func141.trans (congrArg some (by kernel_rfl))
 f318 := Tryd.func143.trans (congrArg some (by kernel_rfl))
 f319 := Tryd.func144.trans (congrArg some (by kernel_rfl))
 f320 := Tryd.func145.trans (congrArg some (by kernel_rfl))
 f337 := Tryd.func152.trans (congrArg some (by kernel_rfl))
 f338 := Tryd.func153.trans (congrArg some (by kernel_rfl))
 t0 := Tryd.underlying0
 a0 := Tryd.isAgg0
 z0 := Tryd.sizeOf0
 v0 := Tryd.zeroValue0
 t2 := Tryd.underlying2
 a2 := Tryd.isAgg2
 z2 := Tryd.sizeOf2
 v2 := Tryd.zeroValue2
 t3 := Tryd.underlying3
 a3 := Tryd.isAgg3
 z3 := Tryd.sizeOf3
 v3 := Tryd.zeroValue3
 t4 := Tryd.underlying4
 a4 := Tryd.isAgg4
 z4 := Tryd.sizeOf4
 v4 := Tryd.zeroValue4
 t5 := Tryd.underlying5
 a5 := Tryd.isAgg5
 z5 := Tryd.sizeOf5
 v5 := Tryd.zeroValue5
 t9 := Tryd.underlying9
 a9 := Tryd.isAgg9
 z9 := Tryd.sizeOf9
 v9 := Tryd.zeroValue9
 t20 := Tryd.underlying20
 a20 := Tryd.isAgg20
 z20 := Tryd.sizeOf20
 v20 := Tryd.zeroValue20
 t37 := Tryd.underlying45
 a37 := Tryd.isAgg45
 z37 := Tryd.sizeOf45
 v37 := Tryd.zeroValue45
 t46 := Tryd.underlying137
 a46 := Tryd.isAgg137
 z46 := Tryd.sizeOf137
 v46 := Tryd.zeroValue137
 t51 := Tryd.underlying163
 a51 := Tryd.isAgg163
 z51 := Tryd.sizeOf163
 v51 := Tryd.zeroValue163
 t53 := Tryd.underlying90
 a53 := Tryd.isAgg90
 z53 := Tryd.sizeOf90
 v53 := Tryd.zeroValue90
 t171 := Tryd.underlying154
 a171 := Tryd.isAgg154
 z171 := Tryd.sizeOf154
 v171 := Tryd.zeroValue154
 t173 := Tryd.underlying157
 a173 := Tryd.isAgg157
 z173 := Tryd.sizeOf157
 v173 := Tryd.zeroValue157
 t212 := Tryd.underlying162
 a212 := Tryd.isAgg162
 z212 := Tryd.sizeOf162
 v212 := Tryd.zeroValue162
 t213 := Tryd.underlying164
 a213 := Tryd.isAgg164
 z213 := Tryd.sizeOf164
 t232 := Tryd.underlying180
 a232 := Tryd.isAgg180
 z232 := Tryd.sizeOf180
 v232 := Tryd.zeroValue180
 t233 := Tryd.underlying181
 a233 := Tryd.isAgg181
 z233 := Tryd.sizeOf181
 v233 := Tryd.zeroValue181
 g17 := by kernel_rfl
 g18 := by kernel_rfl
 g19 := by kernel_rfl
 i0 := by kernel_rfl
 i2 := by kernel_rfl
 i3 := by kernel_rfl
 i4 := by kernel_rfl
 i5 := by kernel_rfl
 i9 := by kernel_rfl
 i20 := by kernel_rfl
 i37 := by kernel_rfl
 i46 := by kernel_rfl
 i51 := by kernel_rfl
 i53 := by kernel_rfl
 i171 := by kernel_rfl
 i173 := by kernel_rfl
 i212 := by kernel_rfl
 i232 := by kernel_rfl
 i233 := by kernel_rfl
 m17 := by kernel_rfl
 m18 := by kernel_rfl
 m19 := by kernel_rfl }
open Go.RowKit Go.Sort Go.Lib in
theorem Tryd.strconv_Itoa (n : Int) (h0 : -9223372036854775808 ≤ n) (h1 : n ≤ 9223372036854775807) (w : World) (htab : Lib.TabIs Tryd.prog w "internal/strconv.uint64pow10" .u64 Lib.pow10Tab) :
 Calls Tryd.prog 74 #[.int .i64 n] w fun e w' => e = .returned (.string ⟨(Lib.itoa n).toArray⟩) ∧ ∃ k os, w' = grow (w.drewN k) os := Any.strconv_Itoa Tryd.laysM171 n h0 h1 w htab
def Tryd.laysNm225_ren : Go.Shelf.Ren := ⟨fun | 25 => 83 | 31 => 114 | 32 => 115 | 37 => 131 | n => n, fun | 22 => 23 | 3 => 3 | 4 => 4 | 40 => 137 | 0 => 0 | n => n, fun | n => n⟩
theorem Tryd.laysNm225 : Go.Proofs.Lays2.n25 Tryd.prog Tryd.laysNm225_ren := {
 mixed := by kernel_rfl
 f25 := Tryd.func83.trans (congrArg some (by kernel_rfl))
 f31 := Tryd.func114.trans (congrArg some (by kernel_rfl))
 f32 := Tryd.func115.trans (congrArg some (by kernel_rfl))
 f37 := Tryd.func131.trans (congrArg some (by kernel_rfl))
 t0 := Tryd.underlying0
 a0 := Tryd.isAgg0
 z0 := Tryd.sizeOf0
 v0 := Tryd.zeroValue0
 t3 := Tryd.underlying3
 a3 := Tryd.isAgg3
 z3 := Tryd.sizeOf3
 v3 := Tryd.zeroValue3
 t4 := Tryd.underlying4
 a4 := Tryd.isAgg4
 z4 := Tryd.sizeOf4
 v4 := Tryd.zeroValue4
 t22 := Tryd.underlying23
 a22 := Tryd.isAgg23
 z22 := Tryd.sizeOf23
 v22 := Tryd.zeroValue23
 t40 := Tryd.underlying137
 a40 := Tryd.isAgg137
 z40 := Tryd.sizeOf137
 v40 := Tryd.zeroValue137 }
open Go.RowKit Go.Lib in
theorem Tryd.slices_BinarySearch_int (b off n c : Nat) (zs : List Int) (x : Int) (w : World) (hz : n ≤ zs.length) (hbig : n < 4611686018427387904) (hc : ∀ j, j < zs.length → w.cell? ⟨b, off + j, none⟩ = some (.int .i64 (zs.getD j 0))) (hs : (zs.take n).Pairwise (· ≤ ·)) :
 Calls Tryd.prog 83 #[.slice (some ⟨b, off, none⟩) n c, .int .i64 x] w fun e w' => e = .returned (.tuple #[.int .i64 ((zs.take n).countP (· < x) : Nat), .bool ((zs.take n).contains x)]) ∧ ∃ q, w' = w.drewN q := Any.slices_BinarySearch_int Tryd.laysNm225 b off n c zs x w hz hbig hc hs
def Tryd.laysNm223_ren : Go.Shelf.Ren := ⟨fun | 23 => 109 | n => n, fun | 22 => 23 | 3 => 3 | 4 => 4 | 0 => 0 | n => n, fun | n => n⟩
theorem Tryd.laysNm223 : Go.Proofs.Lays2.n23 Tryd.prog Tryd.laysNm223_ren := {
 mixed := by kernel_rfl
 f23 := Tryd.func109.trans (congrArg some (by kernel_rfl))
 t0 := Tryd.underlying0
 a0 := Tryd.isAgg0
 z0 := Tryd.sizeOf0
 v0 := Tryd.zeroValue0
 t3 := Tryd.underlying3
 a3 := Tryd.isAgg3
 z3 := Tryd.sizeOf3
 v3 := Tryd.zeroValue3
 t4 := Tryd.underlying4
 a4 := Tryd.isAgg4
 z4 := Tryd.sizeOf4
 v4 := Tryd.zeroValue4
 t22 := Tryd.underlying23
 a22 := Tryd.isAgg23
 z22 := Tryd.sizeOf23
 v22 := Tryd.zeroValue23
 i3 := by kernel_rfl }
open Go.RowKit Go.Lib Go.Sort in
theorem Tryd.slices_Delete_int (blk off cap i j : Nat) (zs : List Int) (w : World) (hH : Holds (Value.int .i64) w blk off zs.toArray) (hcap : zs.length ≤ cap) (hm : cap ≤ 9223372036854775807) (hij : i ≤ j) (hj : j ≤ zs.length) :
 Calls Tryd.prog 109 #[.slice (some ⟨blk, off, none⟩) zs.length cap, .int .i64 i, .int .i64 j] w fun e w' => e = .returned (.slice (some ⟨blk, off, none⟩) (zs.length - (j - i)) cap) ∧ ∃ q, w' = putRow (Value.int .i64) (Sort.ahead w q) blk off (zs.take i ++ zs.drop j ++ List.replicate (j - i) 0).toArray := Any.slices_Delete_int Tryd.laysNm223 blk off cap i j zs w hH hcap hm hij hj
open Go.RowKit Go.Lib in
theorem Tryd.slices_BinarySearch_int_empty (a : Option Addr) (c : Nat) (x : Int) (w : World) :
 Calls Tryd.prog 83 #[.slice a 0 c, .int .i64 x] w fun e w' => e = .returned (.tuple #[.int .i64 0, .bool false]) ∧ w' = w := Any.slices_BinarySearch_int_empty Tryd.laysNm225 a c x w
open Go.RowKit Go.Lib in
theorem Tryd.slices_Delete_int_empty (a : Option Addr) (c : Nat) (w : World) :
 Calls Tryd.prog 109 #[.slice a 0 c, .int .i64 0, .int .i64 0] w fun e w' => e = .returned (.slice a 0 c) ∧ w' = w := Any.slices_Delete_int_empty Tryd.laysNm223 a c w
def Tryd.laysSlE041_f82_ren : Go.Shelf.Ren := ⟨fun | 41 => 82 | n => n, fun | 22 => 23 | 23 => 3 | 4 => 4 | n => n, fun | n => n⟩
theorem Tryd.laysSlE041_f82 : Go.Proofs.SlLaysE0.n41 Tryd.prog Tryd.laysSlE041_f82_ren := {
 mixed := by kernel_rfl
 f41 := ⟨Tryd.f82.name, by decide, Tryd.func82.trans (congrArg some (by kernel_rfl))⟩
 t4 := Tryd.underlying4
 a4 := Tryd.isAgg4
 z4 := Tryd.sizeOf4
 v4 := Tryd.zeroValue4
 t22 := Tryd.underlying23
 a22 := Tryd.isAgg23
 z22 := Tryd.sizeOf23
 v22 := Tryd.zeroValue23 }
def Tryd.laysNm221_ren : Go.Shelf.Ren := ⟨fun | 21 => 84 | 27 => 116 | 28 => 117 | 35 => 132 | 39 => 140 | n => n, fun | 22 => 23 | 3 => 3 | 4 => 4 | 0 => 0 | n => n, fun | n => n⟩
theorem Tryd.laysNm221 : Go.Proofs.Lays2.n21 Tryd.prog Tryd.laysNm221_ren := {
 mixed := by kernel_rfl
 f21 := Tryd.func84.trans (congrArg some (by kernel_rfl))
 f27 := Tryd.func116.trans (congrArg some (by kernel_rfl))
 f28 := Tryd.func117.trans (congrArg some (by kernel_rfl))
 f35 := Tryd.func132.trans (congrArg some (by kernel_rfl))
 f39 := Tryd.func140.trans (congrArg some (by kernel_rfl))
 t0 := Tryd.underlying0
 a0 := Tryd.isAgg0
 z0 := Tryd.sizeOf0
 v0 := Tryd.zeroValue0
 t3 := Tryd.underlying3
 a3 := Tryd.isAgg3
 z3 := Tryd.sizeOf3
 v3 := Tryd.zeroValue3
 t4 := Tryd.underlying4
 a4 := Tryd.isAgg4
 z4 := Tryd.sizeOf4
 v4 := Tryd.zeroValue4
 t22 := Tryd.underlying23
 a22 := Tryd.isAgg23
 z22 := Tryd.sizeOf23
 v22 := Tryd.zeroValue23
 i3 := by kernel_rfl }
def Tryd.laysSlE041_f81_ren : Go.Shelf.Ren := ⟨fun | 41 => 81 | n => n, fun | 22 => 29 | 23 => 97 | 4 => 4 | n => n, fun | n => n⟩
theorem Tryd.laysSlE041_f81 : Go.Proofs.SlLaysE0.n41 Tryd.prog Tryd.laysSlE041_f81_ren := {
 mixed := by kernel_rfl
 f41 := ⟨Tryd.f81.name, by decide, Tryd.func81.trans (congrArg some (by kernel_rfl))⟩
 t4 := Tryd.underlying4
 a4 := Tryd.isAgg4
 z4 := Tryd.sizeOf4
 v4 := Tryd.zeroValue4
 t22 := Tryd.underlying29
 a22 := Tryd.isAgg29
 z22 := Tryd.sizeOf29
 v22 := Tryd.zeroValue29 }
end Go.Proofs
namespace Go.Proofs.YtcmcfebihbmmeaaDoor
open Go Go.RowKit Go.Proofs
open Go.Den (Kept0 ExtOK zeR zf6 zal scal retV)
set_option linter.unusedVariables false
theorem hf72 : Tryd.prog.funcs[72]? = some Tryd.f72 := by kernel_rfl
theorem hn72 : Tryd.f72.ntmps = 28 := by kernel_rfl
theorem u45 : Tryd.prog.underlying 45 = some (.slice 5) := by kernel_rfl
theorem u5 : Tryd.prog.underlying 5 = some (.int .u8) := by kernel_rfl
theorem u9 : Tryd.prog.underlying 9 = some .string := by kernel_rfl
theorem zqC (w : World) (b : Int) (h0 : 0 ≤ b) (h1 : b < 256) : (convert 45 9 (.slice (some ⟨w.heap.size, 0, none⟩) 1 1)).run Tryd.prog (w.alloc (.cells #[.int .u8 b] 5)) = .ok (.string ⟨#[UInt8.ofNat b.toNat]⟩) (w.alloc (.cells #[.int .u8 b] 5)) := by
 have := run_convert_bytes_back (P := Tryd.prog) (w.alloc (.cells #[.int .u8 b] 5)) 45 9 5 ⟨w.heap.size, 0, none⟩ 1 [UInt8.ofNat b.toNat] u45 u5 u9 (fun j hj => by
  have : j = 0 := by simpa using hj
  subst this
  have hb : ((UInt8.ofNat b.toNat).toNat : Int) = b := by
   rw [UInt8.toNat_ofNat']
   omega
  show (w.alloc (.cells #[.int .u8 b] 5)).cell? ⟨w.heap.size, 0, none⟩ = some (.int .u8 ((UInt8.ofNat b.toNat).toNat : Int))
  rw [World.cell?_alloc_mark, hb]
  rfl)
 exact this
set_option maxRecDepth 100000 in
set_option maxHeartbeats 2000000 in
theorem zkg (n : Int) (h0 : 0 ≤ n) (h9 : n < 10) (w : World) :
 Calls Tryd.prog 72 #[.int .i64 n] w fun e w' => e = .returned (.string ⟨#[UInt8.ofNat (48 + n).toNat]⟩) ∧ Kept0 w w' := by
 have kc := fun w : World => zqC w (48 + n) (by omega) (by omega)
 go_enter hf72, hn72
 unfold Tryd.f72
 go_wp2
 refine bodyPost_ret (v := .string ⟨#[UInt8.ofNat (48 + n).toNat]⟩) (by simp [results, go_sem]) rfl ?_
 exact ⟨rfl, Kept0.alloc w _⟩
theorem zqj (W : World) (g : Nat) (b : Int) (h0 : 0 ≤ b) (h1 : b < 256) (hc : W.cell? ⟨g, 0, none⟩ = some (.int .u8 b)) : (convert 45 9 (.slice (some ⟨g, 0, none⟩) 1 1)).run Tryd.prog W = .ok (.string ⟨#[UInt8.ofNat b.toNat]⟩) W := by
 have := run_convert_bytes_back (P := Tryd.prog) W 45 9 5 ⟨g, 0, none⟩ 1 [UInt8.ofNat b.toNat] u45 u5 u9 (fun j hj => by
  have : j = 0 := by simpa using hj
  subst this
  have hb : ((UInt8.ofNat b.toNat).toNat : Int) = b := by
   rw [UInt8.toNat_ofNat']
   omega
  show W.cell? ⟨g, 0, none⟩ = some (.int .u8 ((UInt8.ofNat b.toNat).toNat : Int))
  rw [hc, hb])
 exact this
theorem zlG {W w' : World} {g : Nat} {v : Value} (hc : W.cell? ⟨g, 0, none⟩ = some v) (hg : g < W.heap.size) (hk : Kept0 W w') : w'.cell? ⟨g, 0, none⟩ = some v := by
 have h1 := hk.keep g hg
 unfold World.cell? at hc ⊢
 rw [h1]
 exact hc
set_option maxRecDepth 100000 in
set_option maxHeartbeats 2000000 in
theorem zpm (n : Int) (h0 : 10 ≤ n) (h9 : n ≤ 9223372036854775807) (q : ByteArray) (hq : ∀ w, Calls Tryd.prog 72 #[.int .i64 (IntKind.i64.wrap (n.tdiv 10))] w fun e w' => e = .returned (.string q) ∧ Kept0 w w') (hsz : q.size ≤ 30) (w : World) :
 Calls Tryd.prog 72 #[.int .i64 n] w fun e w' => e = .returned (.string (q ++ ⟨#[UInt8.ofNat (IntKind.u8.wrap (IntKind.i64.wrap (48 + n.tmod 10))).toNat]⟩)) ∧ Kept0 w w' := by
 have hm0 := Int.tmod_nonneg 10 (show 0 ≤ n by omega)
 have hm1 := Int.tmod_lt_of_pos n (show 0 < 10 by omega)
 have hb : IntKind.u8.wrap (IntKind.i64.wrap (48 + n.tmod 10)) = 48 + n.tmod 10 := by simp [IntKind.wrap, IntKind.bits, IntKind.signed]; omega
 have hb0 : 0 ≤ IntKind.u8.wrap (IntKind.i64.wrap (48 + n.tmod 10)) := by rw [hb]; omega
 have hb1 : IntKind.u8.wrap (IntKind.i64.wrap (48 + n.tmod 10)) < 256 := by rw [hb]; omega
 have kc := fun w : World => zqC w (IntKind.u8.wrap (IntKind.i64.wrap (48 + n.tmod 10))) hb0 hb1
 have kc2 : ∀ w : World, (convert 45 9 (.slice (some ⟨w.heap.size, 0, none⟩) 1 1)).run Tryd.prog (w.alloc (.cells #[.int .u8 (IntKind.u8.wrap (IntKind.i64.wrap (48 + n.tmod 10)))] 5)).drew = .ok (.string ⟨#[UInt8.ofNat (IntKind.u8.wrap (IntKind.i64.wrap (48 + n.tmod 10))).toNat]⟩) (w.alloc (.cells #[.int .u8 (IntKind.u8.wrap (IntKind.i64.wrap (48 + n.tmod 10)))] 5)).drew := fun w => zqj _ _ _ hb0 hb1 (by show (World.alloc _ _).cell? _ = _; rw [World.cell?_alloc_mark]; rfl)
 have hs2 : ¬ (9223372036854775807 < (q.size : Int) + 1) := by omega
 have hs3 : ¬ (9223372036854775807 < q.size + 1) := by omega
 clear hb
 go_enter hf72, hn72
 unfold Tryd.f72
 go_wp2
 go_region_with (go_at_call 72; refine (hq _).mono ?_; rintro e w' ⟨rfl, hk⟩; try (have kd : (convert 45 9 (.slice (some ⟨w.heap.size, 0, none⟩) 1 1)).run Tryd.prog w' = .ok (.string ⟨#[UInt8.ofNat (IntKind.u8.wrap (IntKind.i64.wrap (48 + n.tmod 10))).toNat]⟩) w' := zqj _ _ _ hb0 hb1 (zlG (by first | (rw [World.cell?_alloc_mark]; rfl) | (show (World.alloc _ _).cell? _ = _; rw [World.cell?_alloc_mark]; rfl) | (go_simp; done) | (simp; done)) (by first | (simp; done) | (show _ < (World.alloc _ _).heap.size; simp; done)) hk)))
 all_goals (try go_wp2)
 all_goals (refine bodyPost_ret (v := .string (q ++ ⟨#[UInt8.ofNat (IntKind.u8.wrap (IntKind.i64.wrap (48 + n.tmod 10))).toNat]⟩)) (by first | (simp [results, go_sem]; done) | rfl) rfl ?_)
 all_goals refine ⟨rfl, ?_⟩
 all_goals first
  | exact (Kept0.drew w).trans (hk.trans (Kept0.alloc _ _))
  | exact (Kept0.alloc w _).trans ((Kept0.drew _).trans hk)
  | exact (Kept0.alloc w _).trans hk
  | exact ((Kept0.drew w).trans (Kept0.alloc _ _)).trans hk
  | exact ((Kept0.drew w).trans (Kept0.alloc _ _)).trans ((Kept0.drew _).trans hk)
  | trace_state
theorem dec_len : ∀ (k u : Nat), u < 10 ^ (k + 1) → (Lib.decDigits u).length ≤ k + 1
 | 0, u, h => by
   rw [Lib.decDigits, dif_pos (by simpa using h)]
   simp
 | k + 1, u, h => by
   rw [Lib.decDigits]
   split
   · simp
   · have h2 : u / 10 < 10 ^ (k + 1) := by
      rw [Nat.div_lt_iff_lt_mul (by omega)]
      rw [Nat.pow_succ] at h
      exact h
     have := dec_len k (u / 10) h2
     simp
     omega
theorem zoO : ∀ (m : Nat) (n : Int), 0 ≤ n → n.toNat ≤ m → n ≤ 9223372036854775807 → ∀ w : World, Calls Tryd.prog 72 #[.int .i64 n] w fun e w' => e = .returned (.string ⟨(Lib.decDigits n.toNat).toArray⟩) ∧ Kept0 w w' := by
 intro m
 induction m with
 | zero =>
   intro n h0 hm h1 w
   have : n = 0 := by omega
   subst this
   have := zkg 0 (by omega) (by omega) w
   rw [show (Lib.decDigits (0 : Int).toNat).toArray = #[UInt8.ofNat (48 + 0 : Int).toNat] by rw [Lib.decDigits, dif_pos (by decide)]; rfl]
   exact this
 | succ m ih =>
   intro n h0 hm h1 w
   by_cases h9 : n < 10
   · have := zkg n h0 h9 w
     rw [Lib.decDigits, dif_pos (by omega), show 48 + n.toNat = (48 + n).toNat by omega]
     exact this
   · have hq : IntKind.i64.wrap (n.tdiv 10) = n / 10 := by
      rw [Int.tdiv_eq_ediv_of_nonneg (by omega)]
      simp [IntKind.wrap, IntKind.bits, IntKind.signed]; omega
     have hqn : (n / 10).toNat = n.toNat / 10 := by omega
     have h30 : (10 : Nat) ^ (29 + 1) = 1000000000000000000000000000000 := by decide
     have hl : (Lib.decDigits (n.toNat / 10)).length ≤ 30 := dec_len 29 _ (by rw [h30]; omega)
     have := zpm n (by omega) h1 ⟨(Lib.decDigits (n.toNat / 10)).toArray⟩ (fun w => by
      rw [hq]
      have := ih (n / 10) (by omega) (by omega) (by omega) w
      rw [hqn] at this
      exact this) (by show (Lib.decDigits (n.toNat / 10)).toArray.size ≤ 30; simpa using hl) w
     have hb : IntKind.u8.wrap (IntKind.i64.wrap (48 + n.tmod 10)) = 48 + n % 10 := by
      rw [Int.tmod_eq_emod_of_nonneg (by omega)]
      simp [IntKind.wrap, IntKind.bits, IntKind.signed]; omega
     have hd : Lib.decDigits n.toNat = Lib.decDigits (n.toNat / 10) ++ [UInt8.ofNat (48 + n.toNat % 10)] := by
      rw [Lib.decDigits, dif_neg (by omega)]
     have e : (⟨(Lib.decDigits (n.toNat / 10)).toArray⟩ : ByteArray) ++ ⟨#[UInt8.ofNat (IntKind.u8.wrap (IntKind.i64.wrap (48 + n.tmod 10))).toNat]⟩ = ⟨(Lib.decDigits n.toNat).toArray⟩ := by
      rw [hb, hd, show (48 + n % 10).toNat = 48 + n.toNat % 10 by omega]
      apply ByteArray.ext
      simp
     rw [e] at this
     exact this
set_option maxRecDepth 100000 in
set_option maxHeartbeats 2000000 in
theorem zqA (n : Int) (h0 : n < 0) (h1 : -9223372036854775808 < n) (w : World) : Calls Tryd.prog 72 #[.int .i64 n] w fun e w' => e = .returned (.string (⟨#[45]⟩ ++ ⟨(Lib.decDigits (-n).toNat).toArray⟩)) ∧ Kept0 w w' := by
 have hc := fun w => zoO _ (-n) (by omega) (Nat.le_refl _) (by omega) w
 have h30 : (10 : Nat) ^ (29 + 1) = 1000000000000000000000000000000 := by decide
 have hl : (Lib.decDigits (-n).toNat).length ≤ 30 := dec_len 29 _ (by rw [h30]; omega)
 have hs : (⟨(Lib.decDigits (-n).toNat).toArray⟩ : ByteArray).size ≤ 30 := by show (Lib.decDigits (-n).toNat).toArray.size ≤ 30; simpa using hl
 generalize (⟨(Lib.decDigits (-n).toNat).toArray⟩ : ByteArray) = q at *
 have hw : IntKind.i64.wrap (-n) = -n := by simp [IntKind.wrap, IntKind.bits, IntKind.signed]; omega
 have hw2 : IntKind.i64.wrap (0 - n) = -n := by rw [Int.zero_sub]; exact hw
 have hs2 : ¬ (9223372036854775807 < 1 + q.size) := by omega
 have hs3 : ¬ (9223372036854775807 < 1 + (q.size : Int)) := by omega
 go_enter hf72, hn72
 unfold Tryd.f72
 go_wp2_with (go_at_call 72; (try rw [hw2]); (try rw [hw]); refine (hc _).mono ?_; rintro e w' ⟨rfl, hk⟩)
 refine bodyPost_ret (v := .string (⟨#[45]⟩ ++ q)) (by first | (simp [results, go_sem]; done) | rfl) rfl ?_
 exact ⟨rfl, hk⟩
def decF : Nat → Nat → List UInt8
 | 0, u => []
 | k + 1, u => if u < 10 then [UInt8.ofNat (48 + u)] else decF k (u / 10) ++ [UInt8.ofNat (48 + u % 10)]
theorem zoH : ∀ (k u : Nat), u < 10 ^ (k + 1) → Lib.decDigits u = decF (k + 1) u
 | 0, u, h => by
   rw [Lib.decDigits, dif_pos (by simpa using h)]
   simp only [decF]
   rw [if_pos (by simpa using h)]
 | k + 1, u, h => by
   rw [Lib.decDigits]
   unfold decF
   split
   · rfl
   · rename_i h1
     have h2 : u / 10 < 10 ^ (k + 1) := by
      rw [Nat.div_lt_iff_lt_mul (by omega)]
      rw [Nat.pow_succ] at h
      exact h
     rw [zoH k (u / 10) h2]
theorem zpL : (⟨(Lib.itoa (-9223372036854775808)).toArray⟩ : ByteArray) = ⟨#[45, 57, 50, 50, 51, 51, 55, 50, 48, 51, 54, 56, 53, 52, 55, 55, 53, 56, 48, 56]⟩ := by
 have h : Lib.itoa (-9223372036854775808) = 45 :: Lib.decDigits 9223372036854775808 := by
  unfold Lib.itoa
  rw [if_pos (by decide)]
  rfl
 rw [h, zoH 20 9223372036854775808 (by decide)]
 rfl
set_option maxRecDepth 100000 in
set_option maxHeartbeats 2000000 in
theorem zqf (w : World) : Calls Tryd.prog 72 #[.int .i64 (-9223372036854775808)] w fun e w' => e = .returned (.string ⟨#[45, 57, 50, 50, 51, 51, 55, 50, 48, 51, 54, 56, 53, 52, 55, 55, 53, 56, 48, 56]⟩) ∧ Kept0 w w' := by
 go_enter hf72, hn72
 unfold Tryd.f72
 go_wp2
 refine bodyPost_ret (v := .string ⟨#[45, 57, 50, 50, 51, 51, 55, 50, 48, 51, 54, 56, 53, 52, 55, 55, 53, 56, 48, 56]⟩) (by first | (simp [results, go_sem]; done) | rfl) rfl ?_
 exact ⟨rfl, Kept0.refl w⟩
def num (n : Int) : ByteArray := ⟨(Lib.itoa n).toArray⟩
def numV : List Value → Option (List Value)
 | [.int .i64 n] => if -9223372036854775808 ≤ n ∧ n ≤ 9223372036854775807 then some [.string (num n)] else none
 | _ => none
theorem zpY (n : Int) (h0 : -9223372036854775808 ≤ n) (h1 : n ≤ 9223372036854775807) (w : World) : Calls Tryd.prog 72 #[.int .i64 n] w fun e w' => e = .returned (.string (num n)) ∧ Kept0 w w' := by
 by_cases hn : n < 0
 · by_cases hm : n = -9223372036854775808
   · subst hm
     unfold num
     rw [zpL]
     exact zqf w
   · have := zqA n hn (by omega) w
     have e : (⟨#[45]⟩ : ByteArray) ++ ⟨(Lib.decDigits (-n).toNat).toArray⟩ = num n := by
      unfold num Lib.itoa
      rw [if_pos hn, show n.natAbs = (-n).toNat by omega]
      apply ByteArray.ext
      simp
     rw [e] at this
     exact this
 · have := zoO _ n (by omega) (Nat.le_refl _) h1 w
   unfold num Lib.itoa
   rw [if_neg hn]
   exact this
theorem l1_calls (vs rs : List Value) (W : World) (h : numV vs = some rs) : rs ≠ [] ∧ (∀ r ∈ rs, scal r = true) ∧ Calls Tryd.prog 72 vs.toArray W fun e w' => ∃ v, e = .returned v ∧ (v = retV rs ∧ Kept0 W w') := by
 unfold numV at h
 split at h
 · rename_i n
   split at h
   · rename_i hn
     cases h
     refine ⟨by simp, fun r hr => (by rw [List.mem_singleton] at hr; subst hr; rfl), (zpY n hn.1 hn.2 W).mono fun e w' he => ?_⟩
     obtain ⟨rfl, hk⟩ := he
     exact ⟨_, rfl, rfl, hk⟩
   · cases h
 · cases h
theorem zlU (w : World) (k : Nat) (os : Array Obj) : Kept0 w (Sort.grow (w.drewN k) os) :=
 ⟨rfl, rfl, rfl, by show (w.drewN k).heap.size ≤ ((w.drewN k).heap ++ os).size; simp, fun g hg => by
  show ((w.drewN k).heap ++ os)[g]? = _
  rw [Array.getElem?_append_left (by exact hg)]
  rfl⟩
def TabAt (B : Nat → Option Obj) : Prop := ∀ W : World, (∀ (g : Nat) (o : Obj), B g = some o → W.heap[g]? = some o) → Lib.TabIs Tryd.prog W "internal/strconv.uint64pow10" .u64 Lib.pow10Tab
noncomputable def zfz (P : Program) (W : World) (n : String) (g : Nat) : Option Obj := if P.globalNamed n = some g then W.heap[g]? else none
theorem zos {P : Program} {W : World} {n : String} {g : Nat} {o : Obj} (h : zfz P W n g = some o) : W.heap[g]? = some o := by
 unfold zfz at h
 split at h
 · exact h
 · cases h
theorem znD {W : World} (h : Lib.TabIs Tryd.prog W "internal/strconv.uint64pow10" .u64 Lib.pow10Tab) : TabAt (zfz Tryd.prog W "internal/strconv.uint64pow10") := fun W' hW => by
 unfold Lib.TabIs World.var? at *
 cases hg : Tryd.prog.globalNamed "internal/strconv.uint64pow10" with
 | none => rw [hg] at h; cases h
 | some g =>
   rw [hg] at h
   simp only [Option.bind_some] at h ⊢
   cases ho : W.heap[g]? with
   | none => rw [ho] at h; cases h
   | some o =>
     have := hW g o (by unfold zfz; rw [if_pos hg]; exact ho)
     rw [this]
     rw [ho] at h
     exact h
theorem itoa_calls {B : Nat → Option Obj} (hB : TabAt B) (vs rs : List Value) (W : World) (hW : ∀ (g : Nat) (o : Obj), B g = some o → W.heap[g]? = some o) (h : numV vs = some rs) : rs ≠ [] ∧ (∀ r ∈ rs, scal r = true) ∧ Calls Tryd.prog 74 vs.toArray W fun e w' => ∃ v, e = .returned v ∧ (v = retV rs ∧ Kept0 W w') := by
 unfold numV at h
 split at h
 · rename_i n
   split at h
   · rename_i hn
     cases h
     refine ⟨by simp, fun r hr => (by rw [List.mem_singleton] at hr; subst hr; rfl), (Tryd.strconv_Itoa n hn.1 hn.2 W (hB W hW)).mono fun e w' he => ?_⟩
     obtain ⟨rfl, k, os, rfl⟩ := he
     exact ⟨_, rfl, rfl, zlU W k os⟩
   · cases h
 · cases h
end Go.Proofs.YtcmcfebihbmmeaaDoor
namespace Go.Den
open Go Go.RowKit
set_option linter.unusedVariables false
variable {B : Nat → Option Obj}
theorem zgg {c : Cx} {args : List D} {W' : World} {r : Value} {e : Nat} {i : TI} {es' : List Dat} {xs' : List Value} (hcs : c.s = start args [] []) (hos : W'.os = c.W.os) (htape : W'.tape = c.W.tape) (hout : W'.output = c.W.output) (hsize : c.W.heap.size ≤ W'.heap.size)
 (hkeep : ∀ g, g < c.W.heap.size → stable (c.ρ g) → W'.heap[g]? = c.W.heap[g]?) (hob : ∀ g, r.ownBlock = some g → g < c.W.heap.size → ¬ stable (c.ρ g))
 (hi : c.ty e = some i) (hrow : W'.ownsRow 0 e i.sz r es'.length xs') (hrep : ∀ ρ', (∀ b g, Rd c.ρ b g → g < c.W.heap.size → Rd ρ' b g) → RepRow ρ' W' i.sz es' xs') :
 ∃ c', c'.W = W' ∧ Ans c [.own e es'] [] [] r c' := by
 let ρ' : Nat → Role := fun g => if r.ownBlock = some g then .row (.slot 0 []) else if g < c.W.heap.size then c.ρ g else .oth
 have hρ : ∀ g, g < c.W.heap.size → stable (c.ρ g) → ρ' g = c.ρ g := fun g hg hs => by
  show (if r.ownBlock = some g then Role.row (.slot 0 []) else if g < c.W.heap.size then c.ρ g else .oth) = c.ρ g
  rw [if_neg (fun h => hob g h hg hs), if_pos hg]
 refine ⟨{ c with W := W', ρ := ρ', H := fun q => match q with | .slot 0 [] => r | q => c.H q, s := ⟨fun x => match Nat.beq x 0 with | true => .own e es' | false => .junk, fun _ => none, [], []⟩ }, rfl, ?_, rfl, ?_, rfl, ?_⟩
 · exact ⟨hos, htape, hout, hsize, fun g hg hst => ⟨hρ g hg hst, hkeep g hg hst⟩, rfl, fun _ => rfl, fun _ => rfl⟩
 · refine ⟨fun x => ?_, fun r2 cs hb => ?_, fun j r2 hgj => ?_⟩
   · show VR _ (.slot x []) (match Nat.beq x 0 with | true => .own e es' | false => .junk) _
     cases hx : Nat.beq x 0 with
     | true =>
       have := Nat.eq_of_beq_eq_true hx
       subst this
       refine ⟨rfl, ⟨i, xs', hi, hrow, hrep ρ' fun b g hr hg => ?_, fun g hg => if_pos hg⟩⟩
       have := hρ g hg hr.stable
       unfold Rd at *
       rw [this]
       exact hr
     | false => trivial
   · cases r2 with
     | loc n => cases hb
     | up n =>
       have hb' : ([] : List (List D))[n]? = some cs := hb
       simp at hb'
   · have hgj' : (([] : List (Option Row))[j]?).bind id = some r2 := hgj
     simp at hgj'
 · rw [hcs]
   rfl
end Go.Den
namespace Go.Proofs
open Go.Shelf Go.RowKit Go.Lib
variable {P : Program} {ρ : Ren}
set_option maxHeartbeats 2000000 in
set_option maxRecDepth 100000 in
theorem clone_any (L : SlLaysE0.n41 P ρ) (i0 : TypeInfo) (z : Value) (size bytes : Nat) (hi : P.info? (ρ.t 23) = some i0) (hz0 : i0.zero = some z) (hz1 : i0.size = size) (hz2 : i0.bytes = bytes) (hzs : z.cells.size = size) (hsz : 0 < size)
 (z23 : ∀ w, (Go.sizeOf (ρ.t 23)).run P w = .ok size w) (ad : Addr) (n c : Nat) (news : List Value) (w : World) (hl : news.length = n * size) (hn : n ≤ maxLen) (hbig : n * bytes ≤ 140737488355328)
 (hc : ∀ j u, news[j]? = some u → w.cell? (ad.add j) = some u) (h1 : ∀ u ∈ news, u.oneCell' = true) :
 Calls P (ρ.f 41) #[.slice (some ad) n c] w fun e w' => ∃ v', e = .returned v' ∧ w'.ownsRow w.heap.size (ρ.t 23) size v' n news ∧ Below w.heap.size w w' := by
 have mixed := L.mixed; have t4 := L.t4; have a4 := L.a4; have z4 := L.z4; have v4 := L.v4; have t22 := L.t22; have a22 := L.a22; have z22 := L.z22; have v22 := L.v22
 have q22 : ∀ (w : World) (a : Option Addr) (n c n' c' : Nat), (binOp .eql (ρ.t 22) (.slice a n c) (.slice none n' c')).run P w = .ok (.bool a.isNone) w := fun w a n c n' c' => Lib.run_eql_slice_nil w _ _ a n c n' c' L.t22
 have u22 : ∀ w, Sem.run P (underlying (ρ.t 22)) w = .ok (TypeDesc.slice (ρ.t 23)) w := run_underlying t22
 have A : Aside (∀ j u, news[j]? = some u → w.cell? (ad.add j) = some u) := hc
 clear hc
 obtain ⟨_, _, FG⟩ := L.f41
 go_enter FG, SlBodyN.n41_ntmps ρ
 go_wp2_with (at_builtin; refine wpList_append_own _ rfl _ _ (ρ.t 22) rfl w.heap.size (ρ.t 23) i0 z size bytes t22 hi hz0 hz1 hz2 hzs hsz _ _ _ rfl (World.ownsRow_made w #[] 0 (Nat.le_refl _) (Nat.zero_le _) (by simp)) ad n c news rfl hl (fun j u hj => Lib.cell?_alloc_some _ (A.out j u hj)) h1 (by rw [Nat.zero_add]; exact hn) (by rw [Nat.zero_add]; exact hbig) (by simp) ?_)
 intro v' w1 hown hgrow hnil
 go_wp2
 go_ret
 refine ⟨v', rfl, by simpa using hown, ?_⟩
 exact ((Below.refl _ w).alloc (Nat.le_refl _) _).grown hgrow (by simp) (by intro k hk; simp [Value.ownBlock] at hk; omega)
end Go.Proofs
namespace Go.Den
open Go Go.RowKit
set_option linter.unusedVariables false
variable {B : Nat → Option Obj}
def zgE (n : Nat) : List Dat → Bool
 | [] => true
 | d :: l => Nat.beq d.cells.length n && zgE n l
theorem zi0 {n : Nat} : ∀ {es : List Dat}, zgE n es = true → ∀ e ∈ es, e.cells.length = n
 | d :: l, h, e, he => by
   simp only [zgE, Bool.and_eq_true] at h
   rcases List.mem_cons.1 he with h0 | h0
   · rw [h0]; exact beq_eq.1 h.1
   · exact zi0 h.2 e h0
def zcb (e sz : Nat) (args : List D) (u : List (List D)) (l : List (Option Row)) : Option (List D × List (List D) × List (Option Row)) :=
 match args, u, l with
 | [.dat (.lst _ es)], [], [] => match zgE sz es && Nat.ble es.length 1000000 with
   | true => some ([.own e es], [], [])
   | false => none
 | _, _, _ => none
theorem zpe {ρ : Nat → Role} {W : World} {d : Dat} {l : List Value} (h : Rep ρ W d l) : ∀ u ∈ l, u.oneCell' = true := by
 induction h with
 | @val v hs => intro u hu; rw [List.mem_singleton] at hu; subst hu; cases u <;> first | rfl | (simp [scal] at hs)
 | agg hl hc h ih =>
   intro u hu
   obtain ⟨j, hj⟩ := List.getElem?_of_mem hu
   rename_i cs vs
   have hlt := (List.getElem?_eq_some_iff.1 hj).1
   have hd := List.getElem?_eq_getElem (show j < cs.length by omega)
   exact ih j _ u hd hj u (by simp)
 | nil => intro u hu; rw [List.mem_singleton] at hu; subst hu; rfl
 | lst => intro u hu; rw [List.mem_singleton] at hu; subst hu; rfl
theorem zpu {ρ : Nat → Role} {W : World} {sz : Nat} {es : List Dat} {xs : List Value} (h : RepRow ρ W sz es xs) (hsz : 0 < sz) : ∀ u ∈ xs, u.oneCell' = true := by
 intro u hu
 obtain ⟨k, hk⟩ := List.getElem?_of_mem hu
 have hlt := (List.getElem?_eq_some_iff.1 hk).1
 have hq : k / sz < es.length := by rw [Nat.div_lt_iff_lt_mul hsz]; have := h.len; omega
 have := zpe (h.rep (k / sz) _ (List.getElem?_eq_getElem hq)) u
 refine this (List.mem_of_getElem? (i := k % sz) ?_)
 rw [List.getElem?_take_of_lt (Nat.mod_lt _ hsz), List.getElem?_drop, Nat.mul_comm, Nat.div_add_mod]
 exact hk
theorem vals1 {vals : Array Value} (h : vals.size = 1) : vals = #[vals.getD 0 undef] := by
 obtain ⟨l⟩ := vals
 match l, h with
 | [a], _ => rfl
theorem vals2 {vals : Array Value} (h : vals.size = 2) : vals = #[vals.getD 0 undef, vals.getD 1 undef] := by
 obtain ⟨l⟩ := vals
 match l, h with
 | [a, b], _ => rfl
theorem zqD {vals : Array Value} (h : vals.size = 3) : vals = #[vals.getD 0 undef, vals.getD 1 undef, vals.getD 2 undef] := by
 obtain ⟨l⟩ := vals
 match l, h with
 | [a, b, c], _ => rfl
theorem zke {P : Program} {ty : Nat → Option TI} {ρ : Go.Shelf.Ren} {i : TI} {fn : Func} (hty : TyOk P ty) (L : Go.Proofs.SlLaysE0.n41 P ρ) (hi : ty (ρ.t 23) = some i) (hsz : 0 < i.sz) (hb16 : i.bytes ≤ 65536) (hf : P.funcs[ρ.f 41]? = some fn) (hn : (fn.name == "runtime.NumGoroutine") = false) (hb : fn.body.isSome = true) : ExtOK P ty B (ρ.f 41) (zcb (ρ.t 23) i.sz) := by
 constructor
 intro f' args u l rs u' l' hc c vals hcty hI hcs hsz2 hs
 simp only at hc
 split at hc
 · rename_i hff
   subst hff
   unfold zcb at hc
   split at hc
   · rename_i b es
     split at hc
     · rename_i hw
       simp only [Bool.and_eq_true] at hw
       have hle := Nat.le_of_ble_eq_true hw.2
       injection hc with hc
       injection hc with hc1 hc2
       injection hc2 with hc2 hc3
       subst hc1 hc2 hc3
       have hslot := hs.slots 0
       rw [hcs] at hslot
       have hslot : VR c (.slot 0 []) (.dat (.lst b es)) (vals.getD 0 undef) := hslot
       have hv1 := vals1 hsz2
       obtain ⟨inf, de, z, hfa⟩ := hty.facts hi
       rcases zfg (gp := c.s.get) hs (fun _ _ h => h) hslot rfl (zi0 hw.1) hsz with ⟨rfl, k, hv⟩ | ⟨ad, k, news, hv, hrep, hcell⟩
       · rw [hv] at hv1
         rw [hv1]
         refine zal hf hn hb ((Go.Proofs.AnyE.slices_Clone_nil L 0 k c.W).mono ?_)
         rintro e' w' ⟨rfl, rfl⟩
         exact ⟨_, rfl, zgg (i := i) (xs' := []) hcs rfl rfl rfl (Nat.le_refl _) (fun _ _ _ => rfl) (fun g hg => by cases hg) (by rw [hcty]; exact hi) (World.ownsRow_nil _ _ _ _) (fun ρ' _ => ⟨by simp, (fun j d hj => by simp at hj), (fun j d hj => by simp at hj)⟩)⟩
       · rw [hv] at hv1
         rw [hv1]
         have hmul : es.length * i.bytes ≤ 1000000 * 65536 := Nat.mul_le_mul hle hb16
         refine zal hf hn hb ((Go.Proofs.clone_any L inf z i.sz i.bytes hfa.info hfa.zero hfa.size hfa.bytes ?_ hsz (fun w => by simp [Go.sizeOf, typeInfo, hfa.info, hfa.size]) ad es.length k news c.W hrep.len (by unfold maxLen; omega) (by omega) hcell (zpu hrep hsz)).mono ?_)
         · have h1 := zbI hfa.zs
           have h2 := hfa.zlen
           simpa [h2] using h1
         · rintro e' w' ⟨v', rfl, hown, hbel⟩
           refine ⟨_, rfl, zgg (i := i) (xs' := news) hcs hbel.os hbel.tape hbel.output hbel.size (fun g hg _ => hbel.block g hg) (fun g hg hlt => absurd hlt (by have := (World.ownsRow.lt hown g hg).1; omega)) (by rw [hcty]; exact hi) (zeT hown (Nat.zero_le _)) fun ρ' hρ => hrep.mono fun b g hr hg => ⟨hρ b g hr hg, hbel.block g hg⟩⟩
     · cases hc
   · cases hc
 · cases hc
def zmM (e : Nat) (args : List D) (u : List (List D)) (l : List (Option Row)) : Option (List D × List (List D) × List (Option Row)) :=
 match args, u, l with
 | [.own e' es, .dat (.val (.int .i64 i)), .dat (.val (.int .i64 j))], [], [] => match Nat.beq e' e && (decide (0 ≤ i) && decide (i ≤ j) && decide (j ≤ es.length)) && Nat.ble es.length 1000000 with
   | true => (zeN es).map fun zs => ([.own e ((zs.take i.toNat ++ zs.drop j.toNat).map DI)], [], [])
   | false => none
 | _, _, _ => none
theorem zqe {P : Program} {ty : Nat → Option TI} {f e : Nat} {fn : Func} (hts : (ty e).map TI.sz = some 1) (hf : P.funcs[f]? = some fn) (hn : (fn.name == "runtime.NumGoroutine") = false) (hb : fn.body.isSome = true)
 (h1 : ∀ (blk off cap i j : Nat) (zs : List Int) (w : World), Sort.Holds (Value.int .i64) w blk off zs.toArray → zs.length ≤ cap → cap ≤ 9223372036854775807 → i ≤ j → j ≤ zs.length →
  Calls P f #[.slice (some ⟨blk, off, none⟩) zs.length cap, .int .i64 i, .int .i64 j] w fun e w' => e = .returned (.slice (some ⟨blk, off, none⟩) (zs.length - (j - i)) cap) ∧ ∃ q, w' = Sort.putRow (Value.int .i64) (Sort.ahead w q) blk off (zs.take i ++ zs.drop j ++ List.replicate (j - i) 0).toArray)
 (h0 : ∀ (p : Option Addr) (cap : Nat) (w : World), Calls P f #[.slice p 0 cap, .int .i64 0, .int .i64 0] w fun e w' => e = .returned (.slice p 0 cap) ∧ w' = w) :
 ExtOK P ty B f (zmM e) := by
 constructor
 obtain ⟨ti, hty, hsz1⟩ := mSo.1 hts
 intro f' args u l rs u' l' hc c vals hcty hI hcs hsz2 hs
 simp only at hc
 split at hc
 · rename_i hff
   subst hff
   unfold zmM at hc
   split at hc
   · rename_i e' es i j
     split at hc
     · rename_i hw
       simp only [Bool.and_eq_true, decide_eq_true_eq] at hw
       obtain ⟨⟨hbe, ⟨hi0, hij⟩, hj⟩, hle⟩ := hw
       have hle := Nat.le_of_ble_eq_true hle
       have hbe := Nat.eq_of_beq_eq_true hbe
       subst hbe
       obtain ⟨zs, hz, hq⟩ := mSo.1 hc
       have := zcw hz
       subst this
       injection hq with hc1 hc2
       injection hc2 with hc2 hc3
       subst hc1 hc2 hc3
       have hl : (zs.map DI).length = zs.length := by simp
       have s0 := hs.slots 0
       have s1 := hs.slots 1
       have s2 := hs.slots 2
       rw [hcs] at s0 s1 s2
       have s0 : VR c (.slot 0 []) (.own e' (zs.map DI)) (vals.getD 0 undef) := s0
       have s1 : VR c (.slot 1 []) (.dat (.val (.int .i64 i))) (vals.getD 1 undef) := s1
       have s2 : VR c (.slot 2 []) (.dat (.val (.int .i64 j))) (vals.getD 2 undef) := s2
       have hv3 := zqD hsz2
       rw [(zav s1).1, (zav s2).1] at hv3
       obtain ⟨hvv, hrow⟩ := s0
       obtain ⟨i2, xs, g1, g2, g3, g4⟩ := hrow.out
       rw [hcty, hty] at g1
       cases g1
       rw [hsz1] at g2 g3
       have hcells := zce g3 (fun d hd => by obtain ⟨z, _, rfl⟩ := List.mem_map.1 hd; exact ⟨_, rfl⟩)
       have hx := zdq hcells
       subst hx
       rw [hl] at g2 hj hle
       rw [hvv] at hv3
       generalize hH : c.H (.slot 0 []) = v0 at *
       rw [hv3]
       obtain ⟨_, ho⟩ := g2
       obtain ⟨i, rfl⟩ := Int.eq_ofNat_of_zero_le hi0
       obtain ⟨j, rfl⟩ := Int.eq_ofNat_of_zero_le (Int.le_trans hi0 hij)
       have hij : i ≤ j := by omega
       have hj : j ≤ zs.length := by omega
       simp only [Int.toNat_natCast] at *
       rcases ho with ⟨rfl, hz0⟩ | ⟨g, cap, cur, rfl, _, hg, hcap, hm, hs1, ht⟩
       · have : zs = [] := List.eq_nil_of_length_eq_zero hz0
         subst this
         have hj0 : j = 0 := by simpa using hj
         have hi0 : i = 0 := by omega
         subst hi0 hj0
         refine zal hf hn hb ((h0 none 0 c.W).mono ?_)
         rintro e2 w' ⟨rfl, rfl⟩
         exact ⟨_, rfl, zgg (i := ti) (xs' := []) hcs rfl rfl rfl (Nat.le_refl _) (fun _ _ _ => rfl) (fun g hg => by cases hg) (by rw [hcty]; exact hty) (World.ownsRow_nil _ _ _ _) (fun ρ' _ => ⟨by simp, (fun j d hj => by simp at hj), (fun j d hj => by simp at hj)⟩)⟩
       · refine zal hf hn hb ((h1 g 0 cap i j zs c.W (znn hg hcap hs1 ht) hcap hm hij hj).mono ?_)
         rintro e2 w' ⟨rfl, q, rfl⟩
         have hlz : (zs.take i ++ zs.drop j ++ List.replicate (j - i) 0).length = zs.length := by simp; omega
         obtain ⟨hL, hO⟩ := zo2 (n := q) (os := #[]) (zs := zs.take i ++ zs.drop j ++ List.replicate (j - i) 0) hg (by omega) hm hs1 (m := zs.length - (j - i)) (by omega)
         rw [Sort.grow_empty] at hL hO
         have htk : (zs.take i ++ zs.drop j ++ List.replicate (j - i) 0).take (zs.length - (j - i)) = zs.take i ++ zs.drop j := List.take_left' (by simp; omega)
         rw [htk] at hO
         have hlm : zs.length - (j - i) = (zs.take i ++ zs.drop j).length := by simp; omega
         refine ⟨_, rfl, zgg (i := ti) (xs' := (zs.take i ++ zs.drop j).map (Value.int .i64)) hcs hL.os hL.tape hL.output hL.size (fun k hk hst => hL.keep k hk fun hob => ?_) (fun k hk _ hst => ?_) (by rw [hcty]; exact hty) (by rw [hsz1, List.length_map]; rw [hlm] at hO ⊢; exact hO) (fun ρ' _ => by rw [hsz1]; exact zeO (zgI _))⟩
         · have := g4 k hob
           rw [this] at hst
           exact hst.elim
         · have := g4 k hk
           rw [this] at hst
           exact hst.elim
     · cases hc
   · cases hc
 · cases hc
end Go.Den
namespace Go.Den
open Go Go.RowKit
set_option linter.unusedVariables false
variable {B : Nat → Option Obj}
theorem zaZ (b : Nat) : ∀ (vs : List Value) (o : Nat) (w : World), (w.setCells b o vs).os = w.os ∧ (w.setCells b o vs).tape = w.tape ∧ (w.setCells b o vs).output = w.output ∧ (w.setCells b o vs).heap.size = w.heap.size ∧ ∀ g, g ≠ b → (w.setCells b o vs).heap[g]? = w.heap[g]?
 | [], o, w => ⟨rfl, rfl, rfl, rfl, fun _ _ => rfl⟩
 | v :: vs, o, w => by
   obtain ⟨h1, h2, h3, h4, h5⟩ := zaZ b vs (o + 1) (w.setCell ⟨b, o, none⟩ v)
   refine ⟨h1, h2, h3, h4.trans (by simp [World.setCell]), fun g hg => (h5 g hg).trans ?_⟩
   simp only [World.setCell]
   rw [Array.getElem?_modify, if_neg (fun e => hg e.symm)]
theorem zbz (b : Nat) {e : Nat} {fr : Nat × Nat} : ∀ (vs : List Value) (o : Nat) (w : World) (cur : Array Value), w.heap[b]? = some (.cells cur e fr) → ∃ cur', (w.setCells b o vs).heap[b]? = some (.cells cur' e fr) ∧ cur'.size = cur.size ∧ ∀ k, cur'[k]? = if o ≤ k ∧ k < o + vs.length ∧ k < cur.size then vs[k - o]? else cur[k]?
 | [], o, w, cur, h => ⟨cur, h, rfl, fun k => by rw [if_neg (by simp; omega)]⟩
 | v :: vs, o, w, cur, h => by
   have h0 : (w.setCell ⟨b, o, none⟩ v).heap[b]? = some (.cells (cur.setIfInBounds o v) e fr) := by
    simp only [World.setCell]
    rw [Array.getElem?_modify, if_pos rfl, h]
    rfl
   obtain ⟨cur', h1, h2, h3⟩ := zbz b vs (o + 1) _ _ h0
   refine ⟨cur', h1, by rw [h2]; simp, fun k => ?_⟩
   rw [h3 k]
   simp only [Array.size_setIfInBounds, List.length_cons]
   by_cases hk : o + 1 ≤ k ∧ k < o + 1 + vs.length ∧ k < cur.size
   · rw [if_pos hk, if_pos ⟨by omega, by omega, hk.2.2⟩, show k - o = (k - (o + 1)) + 1 by omega, List.getElem?_cons_succ]
   · rw [if_neg hk, Array.getElem?_setIfInBounds]
     by_cases ho : o = k
     · subst ho
       by_cases hc : o < cur.size
       · simp [hc]
       · simp [hc]
     · rw [if_neg ho, if_neg (by omega)]
theorem zbK {w : World} {g e cap : Nat} {cur : Array Value} (hg : w.heap[g]? = some (.cells cur e (0, 0))) (j : Nat) : w.cell? ⟨g, j, none⟩ = cur[j]? ∧ w.frozen? ⟨g, j, none⟩ = false ∧ w.shape? g = some (e, cur.size) := by
 refine ⟨?_, ?_, ?_⟩
 · unfold World.cell?
   simp [hg]
 · unfold World.frozen?
   simp only [hg]
   simp
 · unfold World.shape?
   simp only [hg]
def insZ (zs : List Int) (k : Nat) (z : Int) : List Int := zs.take k ++ z :: zs.drop k
theorem znI {zs : List Int} {k : Nat} {z : Int} (h : k ≤ zs.length) : (insZ zs k z).length = zs.length + 1 := by simp [insZ]; omega
theorem zfa {zs : List Int} {k : Nat} {z : Int} (h : k ≤ zs.length) (j : Nat) : (insZ zs k z)[j]? = if j < k then zs[j]? else if j = k then some z else zs[j - 1]? := by
 unfold insZ
 by_cases h1 : j < k
 · rw [if_pos h1, List.getElem?_append_left (by simp; omega), List.getElem?_take_of_lt h1]
 · rw [if_neg h1, List.getElem?_append_right (by simp; omega)]
   have : (zs.take k).length = k := by simp; omega
   rw [this]
   by_cases h2 : j = k
   · rw [if_pos h2, h2, Nat.sub_self]; rfl
   · rw [if_neg h2, show j - k = (j - k - 1) + 1 by omega, List.getElem?_cons_succ, List.getElem?_drop]
     congr 1
     omega
def zie (e : Nat) (args : List D) (u : List (List D)) (l : List (Option Row)) : Option (List D × List (List D) × List (Option Row)) :=
 match args, u, l with
 | [.own e' es, .dat (.val (.int .i64 k)), .own e2 [.val (.int .i64 z)]], [], [] => match (Nat.beq e' e && Nat.beq e2 e) && (decide (0 ≤ k) && decide (k ≤ es.length)) && Nat.ble es.length 1000000 with
   | true => (zeN es).map fun zs => ([.own e ((insZ zs k.toNat z).map DI)], [], [])
   | false => none
 | _, _, _ => none
theorem zlW {cur : Array Value} {zs : List Int} {n : Nat} (hz : n = zs.length) (h : ∀ j, j < n → cur[j]? = (zs[j]?).map (Value.int .i64)) : cur.toList.take (n * 1) = zs.map (Value.int .i64) := by
 apply List.ext_getElem?
 intro j
 rw [List.getElem?_take, List.getElem?_map, Nat.mul_one]
 split
 · rename_i hj
   rw [Array.getElem?_toList, h j hj]
 · rename_i hj
   rw [List.getElem?_eq_none (by omega)]
   rfl
theorem zhF {cur : Array Value} {zs : List Int} {n : Nat} (ht : cur.toList.take (n * 1) = zs.map (Value.int .i64)) {j : Nat} (hj : j < n) : cur[j]? = (zs[j]?).map (Value.int .i64) := by
 have e1 : (cur.toList.take (n * 1))[j]? = (zs.map (Value.int .i64))[j]? := by rw [ht]
 rw [List.getElem?_take, if_pos (by omega), List.getElem?_map, Array.getElem?_toList] at e1
 exact e1
theorem zfY (n : Nat) : (Builtin.zeroCells (Value.int .i64 0).cells n).size = n := by
 have h : (Value.int .i64 0).cells.size = 1 := rfl
 simp [Builtin.zeroCells, h]
theorem zpX {P : Program} {ty : Nat → Option TI} {ρ : Go.Shelf.Ren} {fn : Func} (L : Go.Proofs.Lays2.n21 P ρ) (hts : (ty (ρ.t 3)).map TI.sz = some 1) (hf : P.funcs[ρ.f 21]? = some fn) (hn : (fn.name == "runtime.NumGoroutine") = false) (hb : fn.body.isSome = true) : ExtOK P ty B (ρ.f 21) (zie (ρ.t 3)) := by
 constructor
 obtain ⟨ti, hty, hsz1⟩ := mSo.1 hts
 intro f' args u l rs u' l' hc c vals hcty hI hcs hsz2 hs
 simp only at hc
 split at hc
 · rename_i hff
   subst hff
   unfold zie at hc
   split at hc
   · rename_i e' es k e2 z
     split at hc
     · rename_i hw
       simp only [Bool.and_eq_true, decide_eq_true_eq] at hw
       obtain ⟨⟨⟨hbe, hbe2⟩, hk0, hk1⟩, hle⟩ := hw
       have hle := Nat.le_of_ble_eq_true hle
       have hbe := Nat.eq_of_beq_eq_true hbe
       have hbe2 := Nat.eq_of_beq_eq_true hbe2
       subst hbe hbe2
       obtain ⟨zs, hz, hq⟩ := mSo.1 hc
       have := zcw hz
       subst this
       injection hq with hc1 hc2
       injection hc2 with hc2 hc3
       subst hc1 hc2 hc3
       have hl : (zs.map DI).length = zs.length := by simp
       have s0 := hs.slots 0
       have s1 := hs.slots 1
       have s2 := hs.slots 2
       rw [hcs] at s0 s1 s2
       have s0 : VR c (.slot 0 []) (.own (ρ.t 3) (zs.map DI)) (vals.getD 0 undef) := s0
       have s1 : VR c (.slot 1 []) (.dat (.val (.int .i64 k))) (vals.getD 1 undef) := s1
       have s2 : VR c (.slot 2 []) (.own (ρ.t 3) [DI z]) (vals.getD 2 undef) := s2
       have hv3 := zqD hsz2
       rw [(zav s1).1] at hv3
       obtain ⟨hvv, hrow⟩ := s0
       obtain ⟨hvv2, hrow2⟩ := s2
       obtain ⟨i2, xs, g1, g2, g3, g4⟩ := hrow.out
       obtain ⟨i3, xs3, p1, p2, p3, p4⟩ := hrow2.out
       rw [hcty, hty] at g1 p1
       cases g1
       cases p1
       rw [hsz1] at g2 g3 p2 p3
       have hx := zdq (zce g3 (fun d hd => by obtain ⟨z, _, rfl⟩ := List.mem_map.1 hd; exact ⟨_, rfl⟩))
       subst hx
       have hx3 := zdq (zs := [z]) (zce p3 (fun d hd => by obtain ⟨z, _, rfl⟩ := List.mem_map.1 hd; exact ⟨_, rfl⟩))
       subst hx3
       rw [hl] at g2 hk1 hle
       rw [hvv, hvv2] at hv3
       generalize hH : c.H (.slot 0 []) = v0 at *
       generalize hH2 : c.H (.slot 2 []) = v2 at *
       rw [hv3]
       obtain ⟨k, rfl⟩ := Int.eq_ofNat_of_zero_le hk0
       have hk1 : k ≤ zs.length := by omega
       simp only [Int.toNat_natCast] at *
       obtain ⟨_, ho⟩ := g2
       obtain ⟨_, ho2⟩ := p2
       -- the one number that comes in
       rcases ho2 with ⟨_, h0⟩ | ⟨vb, vc, vcur, rfl, _, hvb, hvc, hvm, hvs, hvt⟩
       · cases h0
       have hv0 : ∀ j v, ([Value.int .i64 z] : List Value)[j]? = some v → c.W.cell? ⟨vb, 0 + j, none⟩ = some v := fun j v hj => by
        have hlt := (List.getElem?_eq_some_iff.1 hj).1
        have hj0 : j = 0 := by simpa using hlt
        subst hj0
        rw [(zbK (cap := vc) hvb 0).1, zhF (zs := [z]) (n := 1) hvt (by decide)]
        simpa using hj
       have h1v : ∀ v ∈ ([Value.int .i64 z] : List Value), v.oneCell' = true := fun v hv => by rw [List.mem_singleton] at hv; subst hv; rfl
       have h1c : ∀ v ∈ zs.map (Value.int .i64), v.oneCell' = true := fun v hv => by obtain ⟨_, _, rfl⟩ := List.mem_map.1 hv; rfl
       have hcl : (zs.map (Value.int .i64)).length = zs.length := by simp
       have hil := znI (z := z) hk1
       have fin : ∀ (W' : World) (r : Value), W'.os = c.W.os → W'.tape = c.W.tape → W'.output = c.W.output → c.W.heap.size ≤ W'.heap.size → (∀ g, g < c.W.heap.size → stable (c.ρ g) → W'.heap[g]? = c.W.heap[g]?) → (∀ g, r.ownBlock = some g → g < c.W.heap.size → ¬ stable (c.ρ g)) →
        (∃ g cap cur, r = .slice (some ⟨g, 0, none⟩) (zs.length + 1) cap ∧ W'.heap[g]? = some (.cells cur (ρ.t 3) (0, 0)) ∧ zs.length + 1 ≤ cap ∧ cap ≤ maxLen ∧ cur.size = cap ∧ ∀ j, j < zs.length + 1 → cur[j]? = ((insZ zs k z)[j]?).map (Value.int .i64)) →
        ∃ c', c'.W = W' ∧ Ans c [.own (ρ.t 3) ((insZ zs k z).map DI)] [] [] r c' := by
        rintro W' r w1 w2 w3 w4 w5 w6 ⟨g, cap, cur, rfl, hg, hcap, hm, hcs1, hcur⟩
        refine zgg (i := ti) (xs' := (insZ zs k z).map (Value.int .i64)) hcs w1 w2 w3 w4 w5 w6 (by rw [hcty]; exact hty) ?_ (fun ρ' _ => by rw [hsz1]; exact zeO (zgI _))
        rw [hsz1, List.length_map]
        refine ⟨by simp, .inr ⟨g, cap, cur, by rw [hil], Nat.zero_le _, hg, by omega, hm, by omega, ?_⟩⟩
        exact zlW rfl (by rw [hil]; exact hcur)
       rcases ho with ⟨rfl, hz0⟩ | ⟨g, cap, cur, rfl, _, hg, hcap, hm, hs1, ht⟩
       · -- nil
         have : zs = [] := List.eq_nil_of_length_eq_zero hz0
         subst this
         have hk : k = 0 := by simpa using hk1
         subst hk
         refine zal hf hn hb ((Go.Proofs.Any2.slices_Insert_int_end_grow L none 0 0 vb 0 1 vc [] [Value.int .i64 z] c.W (by decide) (by decide) (by decide) (by decide) rfl rfl (fun _ => rfl) (fun a h => by cases h) hv0 h1v).mono ?_)
         rintro e' w' ⟨rfl, rfl⟩
         have hge : 1 ≤ grownCap c.W 1 0 (ρ.t 3) := grownCap_ge c.W (0 + 1) 0 (ρ.t 3)
         have hlm : grownCap c.W 1 0 (ρ.t 3) ≤ maxLen := grownCap_le_maxLen c.W (0 + 1) 0 (ρ.t 3) (by unfold maxLen; omega)
         refine ⟨_, rfl, fin _ _ rfl rfl rfl (by show c.W.heap.size ≤ (c.W.heap.push _).size; simp) (fun g hg _ => by show (c.W.heap.push _)[g]? = _; rw [Array.getElem?_push, if_neg (by omega)]) (fun g hg hlt => by cases hg; exact absurd hlt (Nat.lt_irrefl _)) ⟨c.W.heap.size, _, _, rfl, by show (c.W.heap.push _)[c.W.heap.size]? = _; rw [Array.getElem?_push, if_pos rfl], hge, hlm, ?_, ?_⟩⟩
         · rw [Array.size_append, zfY]; simp; omega
         · intro j hj
           have : j = 0 := by simpa using hj
           subst this
           rw [Array.getElem?_append_left (by simp)]
           simp [insZ]
       · have hgρ := g4 g rfl
         have hvρ := p4 vb rfl
         have hne : vb ≠ g := fun e => by rw [e, hgρ] at hvρ; cases hvρ
         have hglt := (Array.getElem?_eq_some_iff.1 hg).1
         have hunst : ∀ h, h < c.W.heap.size → stable (c.ρ h) → h ≠ g := fun h _ hst e => by rw [e, hgρ] at hst; exact hst
         have hcells : ∀ j v, (zs.map (Value.int .i64))[j]? = some v → c.W.cell? ⟨g, 0 + j, none⟩ = some v := fun j v hj => by
          have hlt := (List.getElem?_eq_some_iff.1 hj).1
          rw [Nat.zero_add, (zbK (cap := cap) hg j).1, zhF ht (by simpa using hlt)]
          rw [List.getElem?_map] at hj
          exact hj
         have hthere : ∀ j, j < cap → (c.W.cell? ⟨g, 0 + j, none⟩).isSome = true := fun j hj => by
          rw [Nat.zero_add, (zbK (cap := cap) hg j).1, Array.getElem?_eq_getElem (by omega)]
          rfl
         have hfrz : ∀ j, c.W.frozen? ⟨g, 0 + j, none⟩ = false := fun j => (zbK (cap := cap) hg _).2.1
         by_cases hroom : zs.length + 1 ≤ cap
         · by_cases hkn : k < zs.length
           · -- there is room
             refine zal hf hn hb ((Go.Proofs.Any2.slices_Insert_int_shift L g 0 zs.length cap k vb 0 1 vc (zs.map (Value.int .i64)) [Value.int .i64 z] c.W hkn (by decide) hroom (by unfold maxLen at hm; omega) hne hcl rfl hcells (fun j hj => hthere j (by omega)) (fun j _ => hfrz j) hv0 h1c h1v _ _ _ _ (zbK (cap := vc) hvb 0).2.2 (zbK (cap := cap) hg 0).2.2 (by omega) (zbK (cap := vc) hvb 0).2.1 (zbK (cap := vc) hvb _).2.1).mono ?_)
             rintro e' w' ⟨rfl, rfl⟩
             obtain ⟨a1, a2, a3, a4, a5⟩ := zaZ g [Value.int .i64 z] (0 + k) (c.W.drew.setCells g (0 + (k + 1)) ((zs.map (Value.int .i64)).drop k))
             obtain ⟨b1, b2, b3, b4, b5⟩ := zaZ g ((zs.map (Value.int .i64)).drop k) (0 + (k + 1)) c.W.drew
             obtain ⟨cur1, c1, c2, c3⟩ := zbz g ((zs.map (Value.int .i64)).drop k) (0 + (k + 1)) c.W.drew cur hg
             obtain ⟨cur2, d1, d2, d3⟩ := zbz g [Value.int .i64 z] (0 + k) _ cur1 c1
             refine ⟨_, rfl, fin _ _ (a1.trans b1) (a2.trans b2) (a3.trans b3) (by rw [a4, b4]; exact Nat.le_refl _) (fun h hh hst => (a5 h (hunst h hh hst)).trans (b5 h (hunst h hh hst))) (fun h hh _ => by cases hh; rw [hgρ]; exact fun x => x) ⟨g, cap, cur2, rfl, d1, hroom, hm, by omega, fun j hj => ?_⟩⟩
             rw [d3 j, zfa (by omega)]
             by_cases hj1 : j < k
             · rw [if_neg (by omega), if_pos hj1, c3 j, if_neg (by omega), zhF ht (by omega)]
             · rw [if_neg hj1]
               by_cases hj2 : j = k
               · rw [if_pos hj2, if_pos ⟨by omega, by simp; omega, by omega⟩, show j - (0 + k) = 0 by omega]; rfl
               · rw [if_neg hj2, if_neg (by simp; omega), c3 j, if_pos ⟨by omega, by simp; omega, by omega⟩, List.getElem?_drop, List.getElem?_map, show k + (j - (0 + (k + 1))) = j - 1 by omega]
           · have hk : k = zs.length := by omega
             subst hk
             refine zal hf hn hb ((Go.Proofs.Any2.slices_Insert_int_end_room L g 0 zs.length cap vb 0 1 vc [Value.int .i64 z] c.W (by decide) hroom (by unfold maxLen at hm; omega) rfl (fun j hj => by have := hthere (zs.length + j) (by omega); rwa [← Nat.add_assoc] at this) (fun j hj => by have := hfrz (zs.length + j); rwa [← Nat.add_assoc] at this) hv0 h1v).mono ?_)
             rintro e' w' ⟨rfl, rfl⟩
             obtain ⟨a1, a2, a3, a4, a5⟩ := zaZ g [Value.int .i64 z] (0 + zs.length) c.W
             obtain ⟨cur2, d1, d2, d3⟩ := zbz g [Value.int .i64 z] (0 + zs.length) _ cur hg
             refine ⟨_, rfl, fin _ _ a1 a2 a3 (by rw [a4]; exact Nat.le_refl _) (fun h hh hst => a5 h (hunst h hh hst)) (fun h hh _ => by cases hh; rw [hgρ]; exact fun x => x) ⟨g, cap, cur2, rfl, d1, hroom, hm, by omega, fun j hj => ?_⟩⟩
             rw [d3 j, zfa (by omega)]
             by_cases hj1 : j < zs.length
             · rw [if_neg (by omega), if_pos hj1, zhF ht (by omega)]
             · have hj2 : j = zs.length := by omega
               rw [if_neg hj1, if_pos hj2, if_pos ⟨by omega, by simp; omega, by omega⟩, show j - (0 + zs.length) = 0 by omega]; rfl
         · have hge := grownCap_ge c.W (zs.length + 1) cap (ρ.t 3)
           have hlm := grownCap_le_maxLen c.W (zs.length + 1) cap (ρ.t 3) (by unfold maxLen; omega)
           by_cases hkn : k < zs.length
           · -- a new row
             refine zal hf hn hb ((Go.Proofs.Any2.slices_Insert_int_grow L g 0 zs.length cap k vb 0 1 vc (zs.map (Value.int .i64)) [Value.int .i64 z] c.W hkn (by decide) hcap (by omega) (by omega) hcl rfl hcells hv0 h1c h1v).mono ?_)
             rintro e' w' ⟨rfl, rfl⟩
             generalize hcp : grownCap c.W (zs.length + 1) cap (ρ.t 3) = cp at *
             let arr : Array Value := ((zs.map (Value.int .i64)).take k).toArray ++ Builtin.zeroCells (Value.int .i64 0).cells (zs.length + 1 - k) ++ Builtin.zeroCells (Value.int .i64 0).cells (cp - (zs.length + 1))
             have harr : arr.size = cp := by simp only [arr, Array.size_append, zfY, List.size_toArray, List.length_take, hcl]; omega
             let W1 := c.W.alloc (.cells arr (ρ.t 3))
             have hW1 : W1.heap[c.W.heap.size]? = some (.cells arr (ρ.t 3) (0, 0)) := by show (c.W.heap.push _)[c.W.heap.size]? = _; rw [Array.getElem?_push, if_pos rfl]
             have hW1s : W1.heap.size = c.W.heap.size + 1 := by show (c.W.heap.push _).size = _; simp
             have hW1k : ∀ h, h < c.W.heap.size → W1.heap[h]? = c.W.heap[h]? := fun h hh => by show (c.W.heap.push _)[h]? = _; rw [Array.getElem?_push, if_neg (by omega)]
             obtain ⟨b1, b2, b3, b4, b5⟩ := zaZ c.W.heap.size [Value.int .i64 z] k W1.drew
             obtain ⟨cur1, c1, c2, c3⟩ := zbz c.W.heap.size [Value.int .i64 z] k W1.drew arr hW1
             obtain ⟨a1, a2, a3, a4, a5⟩ := zaZ c.W.heap.size ((zs.map (Value.int .i64)).drop k) (k + 1) (W1.drew.setCells c.W.heap.size k [Value.int .i64 z]).drew
             obtain ⟨cur2, d1, d2, d3⟩ := zbz c.W.heap.size ((zs.map (Value.int .i64)).drop k) (k + 1) (W1.drew.setCells c.W.heap.size k [Value.int .i64 z]).drew cur1 c1
             refine ⟨_, rfl, fin _ _ (a1.trans b1) (a2.trans b2) (a3.trans b3) (by rw [a4]; show _ ≤ (W1.drew.setCells c.W.heap.size k [Value.int .i64 z]).heap.size; rw [b4]; show _ ≤ W1.heap.size; omega) (fun h hh hst => (a5 h (by omega)).trans ((b5 h (by omega)).trans (hW1k h hh))) (fun h hh hlt => by cases hh; exact absurd hlt (Nat.lt_irrefl _)) ⟨c.W.heap.size, cp, cur2, rfl, d1, hge, hlm, by omega, fun j hj => ?_⟩⟩
             rw [d3 j, zfa (by omega)]
             by_cases hj1 : j < k
             · rw [if_neg (by omega), if_pos hj1, c3 j, if_neg (by omega)]
               show (((zs.map (Value.int .i64)).take k).toArray ++ Builtin.zeroCells (Value.int .i64 0).cells (zs.length + 1 - k) ++ Builtin.zeroCells (Value.int .i64 0).cells (cp - (zs.length + 1)))[j]? = _
               rw [Array.getElem?_append_left (by simp; omega), Array.getElem?_append_left (by simp; omega)]
               simp [List.getElem?_take_of_lt hj1]
             · rw [if_neg hj1]
               by_cases hj2 : j = k
               · rw [if_pos hj2, if_neg (by omega), c3 j, if_pos ⟨by omega, by simp; omega, by omega⟩, show j - k = 0 by omega]; rfl
               · rw [if_neg hj2, if_pos ⟨by omega, by simp; omega, by omega⟩, List.getElem?_drop, List.getElem?_map, show k + (j - (k + 1)) = j - 1 by omega]
           · have hk : k = zs.length := by omega
             subst hk
             refine zal hf hn hb ((Go.Proofs.Any2.slices_Insert_int_end_grow L (some ⟨g, 0, none⟩) zs.length cap vb 0 1 vc (zs.map (Value.int .i64)) [Value.int .i64 z] c.W (by decide) hcap (by omega) (by omega) hcl rfl (fun h => by cases h) (fun a ha j v hj => by cases ha; rw [Addr.add_lit]; exact hcells j v hj) hv0 h1v).mono ?_)
             rintro e' w' ⟨rfl, rfl⟩
             refine ⟨_, rfl, fin _ _ rfl rfl rfl (by show c.W.heap.size ≤ (c.W.heap.push _).size; simp) (fun g hg _ => by show (c.W.heap.push _)[g]? = _; rw [Array.getElem?_push, if_neg (by omega)]) (fun g hg hlt => by cases hg; exact absurd hlt (Nat.lt_irrefl _)) ⟨c.W.heap.size, _, _, rfl, by show (c.W.heap.push _)[c.W.heap.size]? = _; rw [Array.getElem?_push, if_pos rfl], hge, hlm, ?_, ?_⟩⟩
             · rw [Array.size_append, zfY]; simp; omega
             · intro j hj
               rw [zfa (by omega), Array.getElem?_append_left (by simp; omega)]
               by_cases hj1 : j < zs.length
               · rw [if_pos hj1]
                 simp [List.getElem?_append_left, hj1]
               · rw [if_neg hj1, if_pos (by omega)]
                 have : j = zs.length := by omega
                 subst this
                 simp
     · cases hc
   · cases hc
 · cases hc
end Go.Den
namespace Go.Den
open Go Go.RowKit
set_option linter.unusedVariables false
variable {B : Nat → Option Obj}
theorem zhD {c : Cx} {args : List D} {W' : World} {ws : List Value} (hcs : c.s = start args [] []) (hk : Kept0 c.W W') (hne : ws ≠ []) (hsc : ∀ r ∈ ws, scal r = true) : ∃ c', c'.W = W' ∧ Ans c (ws.map DV) [] [] (retV ws) c' := by
 refine ⟨{ c with W := W', s := ⟨fun x => match Nat.beq x 0 with | true => retD (ws.map DV) | false => .junk, fun _ => none, [], []⟩ }, rfl, Ans.of (zf8 ws) ⟨?_, rfl, ?_, ?_, ?_⟩⟩
 · exact ⟨hk.os, hk.tape, hk.output, hk.size, fun g hg _ => ⟨rfl, hk.keep g hg⟩, rfl, fun _ => rfl, fun _ => rfl⟩
 · refine ⟨fun x => ?_, fun r cs hb => ?_, fun j r hgj => ?_⟩
   · show VR _ _ (match Nat.beq x 0 with | true => retD (ws.map DV) | false => .junk) _
     cases hx : Nat.beq x 0 with
     | true =>
       have := Nat.eq_of_beq_eq_true hx
       subst this
       match ws, hne, hsc with
       | [w], _, hsc => exact zaK (hsc w (by simp))
       | w :: w2 :: ws, _, hsc => exact ⟨w :: w2 :: ws, rfl, fun e => (by cases e), zmF (w :: w2 :: ws) 0 hsc⟩
     | false => trivial
   · cases r with
     | loc n => cases hb
     | up n =>
       have hb' : ([] : List (List D))[n]? = some cs := hb
       simp at hb'
   · have hgj' : (([] : List (Option Row))[j]?).bind id = some r := hgj
     simp at hgj'
 · match ws, hne with
   | [w], _ => rfl
   | w :: w2 :: ws, _ => exact zfX false (w :: w2 :: ws)
 · rw [hcs]
   rfl
def upB : List Int → Bool
 | [] => true
 | [_] => true
 | a :: b :: l => decide (a ≤ b) && upB (b :: l)
theorem zkV : ∀ {l : List Int}, upB l = true → l.Pairwise (· ≤ ·)
 | [], _ => .nil
 | [a], _ => List.pairwise_singleton _ _
 | a :: b :: l, h => by
   simp only [upB, Bool.and_eq_true, decide_eq_true_eq] at h
   have h2 := zkV h.2
   refine List.pairwise_cons.2 ⟨fun x hx => ?_, h2⟩
   rcases List.mem_cons.1 hx with rfl | hx
   · exact h.1
   · exact Int.le_trans h.1 ((List.pairwise_cons.1 h2).1 x hx)
def zlD (args : List D) (u : List (List D)) (l : List (Option Row)) : Option (List D × List (List D) × List (Option Row)) :=
 match args, u, l with
 | [.dat (.lst _ es), .dat (.val (.int .i64 x))], [], [] => (zeN es).bind fun zs => match upB zs && Nat.ble zs.length 1000000 with
   | true => some ([.int .i64 ((zs.countP (· < x) : Nat) : Int), .bool (zs.contains x)].map DV, [], [])
   | false => none
 | _, _, _ => none
theorem zlB (w : World) (q : Nat) : Kept0 w (w.drewN q) := ⟨rfl, rfl, rfl, Nat.le_refl _, fun _ _ => rfl⟩
theorem bs_ok {P : Program} {ty : Nat → Option TI} {f : Nat} {fn : Func} (hf : P.funcs[f]? = some fn) (hn : (fn.name == "runtime.NumGoroutine") = false) (hb : fn.body.isSome = true)
 (h1 : ∀ (b off n c : Nat) (zs : List Int) (x : Int) (w : World), n ≤ zs.length → n < 4611686018427387904 → (∀ j, j < zs.length → w.cell? ⟨b, off + j, none⟩ = some (.int .i64 (zs.getD j 0))) → (zs.take n).Pairwise (· ≤ ·) →
  Calls P f #[.slice (some ⟨b, off, none⟩) n c, .int .i64 x] w fun e w' => e = .returned (.tuple #[.int .i64 (((zs.take n).countP (· < x) : Nat) : Int), .bool ((zs.take n).contains x)]) ∧ ∃ q, w' = w.drewN q)
 (h0 : ∀ (a : Option Addr) (c : Nat) (x : Int) (w : World), Calls P f #[.slice a 0 c, .int .i64 x] w fun e w' => e = .returned (.tuple #[.int .i64 0, .bool false]) ∧ w' = w) :
 ExtOK P ty B f zlD := by
 constructor
 intro f' args u l rs u' l' hc c vals hcty hI hcs hsz2 hs
 simp only at hc
 split at hc
 · rename_i hff
   subst hff
   unfold zlD at hc
   split at hc
   · rename_i b es x
     obtain ⟨zs, hz, hq⟩ := bSo.1 hc
     clear hc
     have := zcw hz
     subst this
     clear hz
     split at hq
     · rename_i hw
       simp only [Bool.and_eq_true] at hw
       have hle := Nat.le_of_ble_eq_true hw.2
       injection hq with hq
       injection hq with hc1 hc2
       injection hc2 with hc2 hc3
       subst hc1 hc2 hc3
       have s0 := hs.slots 0
       have s1 := hs.slots 1
       rw [hcs] at s0 s1
       have s0 : VR c (.slot 0 []) (.dat (.lst b (zs.map DI))) (vals.getD 0 undef) := s0
       have s1 : VR c (.slot 1 []) (.dat (.val (.int .i64 x))) (vals.getD 1 undef) := s1
       have hv2 := vals2 hsz2
       rw [(zav s1).1] at hv2
       have hne : ([.int .i64 ((zs.countP (· < x) : Nat) : Int), .bool (zs.contains x)] : List Value) ≠ [] := by simp
       have hsc : ∀ r ∈ ([.int .i64 ((zs.countP (· < x) : Nat) : Int), .bool (zs.contains x)] : List Value), scal r = true := fun r hr => by
        rcases List.mem_cons.1 hr with rfl | hr
        · rfl
        · rw [List.mem_singleton] at hr; subst hr; rfl
       cases hzs : zs with
       | nil =>
         subst hzs
         have h2 := zfR s0
         generalize hd : vals.getD 0 undef = v0 at *
         cases h2 with
         | nil =>
           rw [hv2]
           refine zal hf hn hb ((h0 _ _ x c.W).mono ?_)
           rintro e' w' ⟨rfl, rfl⟩
           exact ⟨_, rfl, zhD hcs ⟨rfl, rfl, rfl, Nat.le_refl _, fun _ _ => rfl⟩ hne hsc⟩
         | lst _ _ _ _ _ _ _ _ =>
           rw [hv2]
           refine zal hf hn hb ((h0 _ _ x c.W).mono ?_)
           rintro e' w' ⟨rfl, rfl⟩
           exact ⟨_, rfl, zhD hcs ⟨rfl, rfl, rfl, Nat.le_refl _, fun _ _ => rfl⟩ hne hsc⟩
       | cons z0 zs0 =>
         rw [← hzs]
         have hfull : ∃ g o n k, vals.getD 0 undef = .slice (some ⟨g, o, none⟩) n k := by
          rw [hzs] at s0
          exact zjF s0
         obtain ⟨g, o, n, k, hg⟩ := hfull
         have hw1 : ∀ e ∈ zs.map DI, e.cells.length = 1 := fun e he => by obtain ⟨_, _, rfl⟩ := List.mem_map.1 he; rfl
         rcases zfg (gp := c.s.get) hs (fun _ _ h => h) s0 rfl hw1 (by decide) with ⟨h2, _⟩ | ⟨ad, k2, news, hv, hrep, hcell⟩
         · rw [hzs] at h2; cases h2
         · have hnews := zdq (zce hrep fun d hd => by obtain ⟨z, _, rfl⟩ := List.mem_map.1 hd; exact ⟨_, rfl⟩)
           rw [hg] at hv
           injection hv with hv1 hv3 hv4
           injection hv1 with hv1
           subst hv1 hv3 hv4
           rw [hg] at hv2
           rw [hv2]
           have hl : (zs.map DI).length = zs.length := by simp
           rw [hl]
           refine zal hf hn hb ((h1 g o zs.length k zs x c.W (Nat.le_refl _) (by omega) (fun j hj => ?_) (by rw [List.take_length]; exact zkV hw.1)).mono ?_)
           · have := hcell j (.int .i64 (zs.getD j 0)) (by rw [hnews, List.getElem?_map, List.getElem?_eq_getElem hj]; simp [List.getD_eq_getElem?_getD, hj])
             rwa [Addr.add_lit] at this
           · rw [List.take_length]
             rintro e' w' ⟨rfl, q, rfl⟩
             exact ⟨_, rfl, zhD hcs (zlB _ _) hne hsc⟩
     · cases hq
   · cases hc
 · cases hc
end Go.Den
