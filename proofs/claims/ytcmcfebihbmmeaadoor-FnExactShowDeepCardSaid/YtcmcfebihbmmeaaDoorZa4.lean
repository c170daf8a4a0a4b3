/- Merged out of: D25 D26 D27 D28 D29 D30 D31 D32 D37 D38 D39 Shelf CN Cf Fa (prune.py, a program of this work's). -/
import Derived.Test.YtcmcfebihbmmeaaDoorZa3
import Derived.OrdersHeld
import Derived.Sort.Grow
import Derived.Sort.Row
import Derived.Lib.SlicesCompact
import Derived.Shelf.Strconv.Itoa0
import Derived.Shelf.Strconv.Itoa1
import Derived.Shelf.LaysM
import Derived.Shelf.Strconv.Itoa2
import Derived.Shelf.Strconv.Itoa3
import Derived.Shelf.Strconv.AtoiErrFast
import Derived.Shelf.Strconv.ParseIntEmpty
import Derived.Shelf.Strconv.AtoiFail
import Derived.Shelf.Strconv.Clone
import Derived.Shelf.Strconv.SyntaxError
import Derived.Shelf.LaysC
import Derived.Shelf.Strconv.ToError
import Derived.Shelf.Strconv.AtoiErr
import Derived.Shelf.Strconv.ErrVar
import Derived.Shelf.Strconv.AppendUint10
import Derived.Shelf.Strconv.AppendInt10
import Derived.Shelf.Strconv.AppendIntPublic10
import Derived.Shelf.Slices.Reverse
import Derived.Ground.Names2Prog
import Derived.Shelf.Slices.Clone
import Derived.Shelf.Slices.SearchI
import Derived.Shelf.Slices.Delete
import Derived.Shelf.Slices.Cells
import Derived.Shelf.Slices.Empties
import Derived.Ground.SlgnProg
import Derived.Shelf.SlicesE.Clone
import Derived.Test.YtcmcfebihbmmeaaDoorProg
import Derived.Test.YtcmcfebihbmmeaaDoorChecked
import Derived.WalkKit
import Derived.Deep.RegionWith
import Derived.Laws.IdiomStrings
import Derived.KernelRfl
set_option linter.unusedVariables false
set_option linter.unusedSimpArgs false
set_option linter.unnecessarySimpa false
namespace Go.Den
open Go Go.RowKit
set_option linter.unusedVariables false
variable {B : Nat → Option Obj}
theorem kill_isCell {k : Kill} {d : D} (h : isCell d = true) : isCell (d.kill k) = true := by
  cases d with
  | ptr r o => simp only [D.kill]; split <;> rfl
  | fn f cap => simp only [D.kill]; split <;> rfl
  | dat d => rfl
  | own e es => rfl
  | junk => rfl
  | etc e => cases e with
    | map r => simp only [D.kill]; split <;> rfl
    | mark => rfl
    | err => rfl
  | _ => cases h
/-- What does not live is forgotten: a general form. tl, bl: which temporaries, which variables stay. -/
theorem forget_sound {c : Cx} {tm tm' : Array Value} {s' : St} {K : Kill} (hs : Sim c tm) (ht : ∀ y, s'.t y = .junk ∨ (s'.t y = (c.s.t y).kill K ∧ tm'.getD y undef = tm.getD y undef)) (hb : ∀ r cs', s'.box r = some cs' → ∃ cs, c.s.box r = some cs ∧ cs' = D.kills K cs) (hl : s'.l = c.s.l)
    (hpl : ∀ q r, c.s.get q = some r → K.pl q = false → s'.get q = some r) (href : ∀ r, (c.s.box r).isSome = true → K.ref r = false → (s'.box r).isSome = true) : Sim { c with s := s' } tm' := by
  have m : Mono c { c with s := s' } K (fun _ => False) := ⟨rfl, fun b g h _ => ⟨h, rfl⟩, fun q r h hk => ⟨hpl q r h hk, rfl⟩, fun r h hk => ⟨href r h hk, rfl⟩, fun q _ => ⟨rfl, fun g h _ => ⟨h, rfl⟩⟩⟩
  refine ⟨fun y => ?_, fun r cs' hb' => ?_, fun j r hg => ?_⟩
  · show VR _ _ (s'.t y) _
    rcases ht y with e | ⟨e, e2⟩
    · rw [e]; trivial
    · rw [e, e2]
      exact VR.mono m _ _ _ (fun _ _ _ h => h) (hs.slots y)
  · obtain ⟨cs, h1, rfl⟩ := hb r cs' hb'
    obtain ⟨vs, T, h2, h3, h4, h5⟩ := (hs.boxes r cs h1).out
    refine ⟨vs, T, by rw [isM_kills]; exact h2, h3, by rw [len_kills]; exact h4, fun i d v hd hv => ?_⟩
    rw [get_kills] at hd
    simp only [Option.map_eq_some_iff] at hd
    obtain ⟨d0, hd0, rfl⟩ := hd
    obtain ⟨h6, h7, h8⟩ := h5 i d0 v hd0 hv
    exact ⟨VR.mono m _ _ _ (fun _ _ _ h => h) h6, h7, kill_isCell h8⟩
  · have hg' : c.s.get (.lent j) = some r := by
      have : s'.get (.lent j) = some r := hg
      simp only [St.get, hl] at this
      exact this
    exact (hs.lent j r hg').mono m (fun h => h)
theorem get_norm {L : List Nat} {s : St} {q : Pl} {r : Row} (h : s.get q = some r) (hk : (Kill.but L).pl q = false) : (s.norm L).get q = some r := by
  cases q with
  | slot y l =>
    have hm : memN y L = true := by simpa [Kill.but] using hk
    show (D.at_ l ((s.norm L).t y)).row? = _
    simp only [St.norm, hm]
    rw [kill_at]
    exact h
  | cell r0 o =>
    simp only [St.get, Option.bind_eq_some_iff] at h ⊢
    obtain ⟨cs, h1, d, h2, h3⟩ := h
    refine ⟨D.kills (Kill.but L) cs, ?_, d.kill (Kill.but L), by rw [get_kills, h2]; rfl, ?_⟩
    · cases r0 with
      | loc n =>
        have hm : memN n L = true := by simpa [Kill.but] using hk
        have h1 : s.b n = some cs := h1
        simp only [St.norm, St.box, hm, h1, Option.map_some]
      | up n =>
        have h1 : s.u[n]? = some cs := h1
        simp only [St.norm, St.box, List.getElem?_map, h1, Option.map_some]
    · have := kill_at (k := Kill.but L) [] d
      simp only [D.at_] at this
      rw [this]; exact h3
  | lent j => exact h
theorem box_norm {L : List Nat} {s : St} {r : Ref} {cs' : List D} (h : (s.norm L).box r = some cs') : ∃ cs, s.box r = some cs ∧ cs' = D.kills (Kill.but L) cs := by
  cases r with
  | loc n =>
    simp only [St.norm, St.box] at h
    split at h
    · simp only [Option.map_eq_some_iff] at h
      obtain ⟨cs, h1, h2⟩ := h
      exact ⟨cs, h1, h2.symm⟩
    · cases h
  | up n =>
    simp only [St.norm, St.box, List.getElem?_map, Option.map_eq_some_iff] at h
    obtain ⟨cs, h1, h2⟩ := h
    exact ⟨cs, h1, h2.symm⟩
theorem box_norm_some {L : List Nat} {s : St} {r : Ref} (h : (s.box r).isSome = true) (hk : (Kill.but L).ref r = false) : ((s.norm L).box r).isSome = true := by
  obtain ⟨cs, hcs⟩ := Option.isSome_iff_exists.1 h
  cases r with
  | loc n =>
    have hm : memN n L = true := by simpa [Kill.but] using hk
    have hcs : s.b n = some cs := hcs
    simp only [St.norm, St.box, hm, hcs, Option.map_some, Option.isSome_some]
  | up n =>
    have hcs : s.u[n]? = some cs := hcs
    simp only [St.norm, St.box, List.getElem?_map, hcs, Option.map_some, Option.isSome_some]
theorem norm_sound {c : Cx} {a : Act} {X : Nat} (L : List Nat) (hf : Fr X c a) : Fr X { c with s := c.s.norm L } a := by
  refine ⟨forget_sound (K := Kill.but L) hf.sim (fun y => ?_) (fun r cs' h => box_norm h) rfl (fun q r h hk => get_norm h hk) (fun r h hk => box_norm_some h hk), hf.ghost.out, ?_⟩
  · cases hm : memN y L with
    | true => right; simp only [St.norm, hm]; exact ⟨trivial, trivial⟩
    | false => left; simp only [St.norm, hm]
  · show ((c.s.norm L).t X).hasOwn = false
    cases hm : memN X L with
    | true => simp only [St.norm, hm]; rw [hasOwn_kill]; exact hf.ghost.own
    | false => simp only [St.norm, hm]; rfl
def X.exit' : X → Exit
  | .normal => .normal
  | .exit id => .exit id
  | .ret => .ret
def codeOK (nt : Nat) : Code → Bool
  | .region _ ops _ => ops.toList.all (operOK nt)
  | .seq a b => codeOK nt a && codeOK nt b
  | .cond _ a b => codeOK nt a && codeOK nt b
  | .block _ a => codeOK nt a
  | .loop a => codeOK nt a
  | _ => true
/-- Regions that draw their order do what den says. -/
def DrawOK (P : Program) (B : Nat → Option Obj) (E : Env) (X : Nat) (id : Nat) (ops : Array Oper) : Prop :=
  ∀ (c : Cx) (a : Act) (s' : St) (Q : Exit → Act → World → Prop), EnvOK P B E c a → Fr X c a → runRegion E id ops true c.s = some s' → EndsIn P X c a s' (Q .normal) → (Code.region id ops true).wp P Q a c.W
def DrawsOK (P : Program) (B : Nat → Option Obj) (E : Env) (X : Nat) : Code → Prop
  | .region id ops draw => draw = true → DrawOK P B E X id ops
  | .seq a b => DrawsOK P B E X a ∧ DrawsOK P B E X b
  | .cond _ a b => DrawsOK P B E X a ∧ DrawsOK P B E X b
  | .block _ a => DrawsOK P B E X a
  | .loop a => DrawsOK P B E X a
  | _ => True
section
variable {P : Program} {E : Env} {X : Nat}
theorem EndsIn.from {c c1 : Cx} {a a1 : Act} {s' : St} {Q : Act → World → Prop} (h : EndsIn P X c a s' Q) (he : Ext c c1) (h1 : a1.tmps.size = a.tmps.size) (h2 : a1.defers = a.defers) : EndsIn P X c1 a1 s' Q :=
  fun a' c' hs hf he' hsz hdf => h a' c' hs hf (he.trans he') (hsz.trans h1) (hdf.trans h2)
theorem exec_sound (k : Nat) : ∀ (code : Code) (c : Cx) (a : Act) (x : Go.Den.X) (s' : St) (Q : Exit → Act → World → Prop), codeOK E.nt code = true → DrawsOK P B E X code → EnvOK P B E c a → Fr X c a → exec E k code c.s = some (x, s') → EndsIn P X c a s' (Q x.exit') → code.wp P Q a c.W
  | .skip, c, a, x, s', Q, hk, hd, hE, hf, h, hQ => by
    simp only [exec, Option.some.injEq, Prod.mk.injEq] at h
    obtain ⟨rfl, rfl⟩ := h
    exact wp_skip (hQ a c rfl hf (Ext.refl c) rfl rfl)
  | .region id ops draw, c, a, x, s', Q, hk, hd, hE, hf, h, hQ => by
    simp only [exec, Option.map_eq_some_iff, Prod.mk.injEq] at h
    obtain ⟨s1, h1, rfl, rfl⟩ := h
    cases draw with
    | false =>
      have hops : ∀ o ∈ ops.toList, operOK E.nt o = true := List.all_eq_true.1 hk
      exact wp_region_list (runOps_sound hops ops.toList c a s1 hops hE hf h1 hQ)
    | true => exact hd rfl c a s1 Q hE hf h1 hQ
  | .seq p q, c, a, x, s', Q, hk, hd, hE, hf, h, hQ => by
    have hk' : (codeOK E.nt p && codeOK E.nt q) = true := hk
    simp only [Bool.and_eq_true] at hk'
    simp only [exec] at h
    cases h1 : exec E k p c.s with
    | none => rw [h1] at h; cases h
    | some r =>
      obtain ⟨x1, s1⟩ := r
      rw [h1] at h
      refine wp_seq ?_
      cases x1 with
      | normal =>
        simp only at h
        refine exec_sound k p c a .normal s1 _ hk'.1 hd.1 hE hf h1 fun a' c' hs hf' he hsz hdf => ?_
        exact exec_sound k q c' a' x s' Q hk'.2 hd.2 (hE.next he hsz) hf' (by rw [hs]; exact h) (hQ.from he hsz hdf)
      | exit id =>
        simp only [Option.some.injEq, Prod.mk.injEq] at h
        obtain ⟨rfl, rfl⟩ := h
        exact exec_sound k p c a (.exit id) s1 _ hk'.1 hd.1 hE hf h1 hQ
      | ret =>
        simp only [Option.some.injEq, Prod.mk.injEq] at h
        obtain ⟨rfl, rfl⟩ := h
        exact exec_sound k p c a .ret s1 _ hk'.1 hd.1 hE hf h1 hQ
  | .cond z p q, c, a, x, s', Q, hk, hd, hE, hf, h, hQ => by
    have hk' : (codeOK E.nt p && codeOK E.nt q) = true := hk
    simp only [Bool.and_eq_true] at hk'
    simp only [exec] at h
    unfold condD at h
    split at h
    · rename_i n
      split at h
      · rename_i b hb
        have hv := hf.sim.slots n
        rw [hb] at hv
        have hz : a.eval (.tmp n) = .bool b := (vr_val hv).1
        cases b with
        | true =>
          simp only [force_eq hb] at h
          exact wp_cond_true hz (exec_sound k p c a x s' Q hk'.1 hd.1 hE hf h hQ)
        | false =>
          simp only [force_eq hb] at h
          exact wp_cond_false hz (exec_sound k q c a x s' Q hk'.2 hd.2 hE hf h hQ)
      · cases h
    · rename_i b
      cases b with
      | true => exact wp_cond_true rfl (exec_sound k p c a x s' Q hk'.1 hd.1 hE hf h hQ)
      | false => exact wp_cond_false rfl (exec_sound k q c a x s' Q hk'.2 hd.2 hE hf h hQ)
    · cases h
  | .block id p, c, a, x, s', Q, hk, hd, hE, hf, h, hQ => by
    simp only [exec] at h
    refine wp_block ?_
    cases h1 : exec E k p c.s with
    | none => rw [h1] at h; cases h
    | some r =>
      obtain ⟨x1, s1⟩ := r
      rw [h1] at h
      cases x1 with
      | exit i =>
        simp only at h
        split at h
        · rename_i hb
          simp only [Option.some.injEq, Prod.mk.injEq] at h
          obtain ⟨rfl, rfl⟩ := h
          have hi := beq_eq.1 hb
          subst hi
          refine exec_sound k p c a (.exit i) s1 _ hk hd hE hf h1 fun a' c' hs hf' he hsz hdf => ?_
          have := hQ a' c' hs hf' he hsz hdf
          simpa [Den.X.exit', Exit.inBlock] using this
        · rename_i hb
          simp only [Option.some.injEq, Prod.mk.injEq] at h
          obtain ⟨rfl, rfl⟩ := h
          have hi := beq_ne.1 hb
          refine exec_sound k p c a (.exit i) s1 _ hk hd hE hf h1 fun a' c' hs hf' he hsz hdf => ?_
          have := hQ a' c' hs hf' he hsz hdf
          simpa [Den.X.exit', Exit.inBlock, hi] using this
      | normal =>
        simp only [Option.some.injEq, Prod.mk.injEq] at h
        obtain ⟨rfl, rfl⟩ := h
        exact exec_sound k p c a .normal s1 _ hk hd hE hf h1 hQ
      | ret =>
        simp only [Option.some.injEq, Prod.mk.injEq] at h
        obtain ⟨rfl, rfl⟩ := h
        exact exec_sound k p c a .ret s1 _ hk hd hE hf h1 hQ
  | .loop p, c, a, x, s', Q, hk, hd, hE, hf, h0, hQ0 => by
    simp only [exec, Option.map_eq_some_iff, Prod.mk.injEq] at h0
    obtain ⟨⟨x0, s''⟩, h, rfl, rfl⟩ := h0
    have hQ : EndsIn P X c a s'' (Q x0.exit') := fun a' c' hs hf' he hsz hdf => by
      have hf1 := norm_sound (E.out (firstRegion p)) hf'
      rw [show c'.s = s'' from hs] at hf1
      exact hQ0 a' { c' with s := s''.norm (E.out (firstRegion p)) } rfl hf1 (he.trans ((Ext.refl c').setS _)) hsz hdf
    clear hQ0
    generalize x0 = x at *
    generalize s'' = s' at *
    have key : ∀ (n : Nat) (c : Cx) (a : Act), EnvOK P B E c a → Fr X c a → iter (exec E k p) (St.norm (E.live (firstRegion p))) n c.s = some (x, s') → EndsIn P X c a s' (Q x.exit') → Code.rounds P p Q n a c.W := by
      intro n
      induction n with
      | zero => intro c a _ _ h _; cases h
      | succ n ih =>
        intro c a hE hf h hQ
        have hf1 := norm_sound (E.live (firstRegion p)) hf
        have he1 : Ext c { c with s := c.s.norm (E.live (firstRegion p)) } := (Ext.refl c).setS _
        have hE1 : EnvOK P B E { c with s := c.s.norm (E.live (firstRegion p)) } a := hE.next he1 rfl
        simp only [iter] at h
        show p.wp P (Exit.then (Code.rounds P p Q n) Q) a c.W
        cases h1 : exec E k p (c.s.norm (E.live (firstRegion p))) with
        | none => rw [h1] at h; cases h
        | some r =>
          obtain ⟨x1, s1⟩ := r
          rw [h1] at h
          cases x1 with
          | normal =>
            simp only at h
            refine exec_sound k p { c with s := c.s.norm (E.live (firstRegion p)) } a .normal s1 _ hk hd hE1 hf1 h1 fun a' c' hs hf' he hsz hdf => ?_
            exact ih c' a' (hE1.next he hsz) hf' (by rw [hs]; exact h) (hQ.from (he1.trans he) hsz hdf)
          | exit id =>
            simp only [Option.some.injEq, Prod.mk.injEq] at h
            obtain ⟨rfl, rfl⟩ := h
            exact exec_sound k p { c with s := c.s.norm (E.live (firstRegion p)) } a (.exit id) s1 _ hk hd hE1 hf1 h1 (hQ.from he1 rfl rfl)
          | ret =>
            simp only [Option.some.injEq, Prod.mk.injEq] at h
            obtain ⟨rfl, rfl⟩ := h
            exact exec_sound k p { c with s := c.s.norm (E.live (firstRegion p)) } a .ret s1 _ hk hd hE1 hf1 h1 (hQ.from he1 rfl rfl)
    exact wp_loop_rounds k (key k c a hE hf h hQ)
  | .exit id, c, a, x, s', Q, hk, hd, hE, hf, h, hQ => by
    simp only [exec, Option.some.injEq, Prod.mk.injEq] at h
    obtain ⟨rfl, rfl⟩ := h
    exact wp_exit (hQ a c rfl hf (Ext.refl c) rfl rfl)
  | .ret, c, a, x, s', Q, hk, hd, hE, hf, h, hQ => by
    simp only [exec, Option.some.injEq, Prod.mk.injEq] at h
    obtain ⟨rfl, rfl⟩ := h
    exact wp_ret (hQ a c rfl hf (Ext.refl c) rfl rfl)
  | .label l, c, a, x, s', Q, hk, hd, hE, hf, h, hQ => by cases h
  | .goto l, c, a, x, s', Q, hk, hd, hE, hf, h, hQ => by cases h
end
end Go.Den
namespace Go.Den
open Go Go.RowKit
set_option linter.unusedVariables false
variable {B : Nat → Option Obj}
section
variable {P : Program} {c : Cx} {tm : Array Value} {X : Nat}
theorem expD_sound {d d' : D} {s1 : St} {v : Value} {i : Nat} (hs : Sim c tm) (hX : Ghost c tm X) (h : expD d c.s = some (d', s1)) (hv : VW c d v) :
    ∃ c', c'.s = s1 ∧ Sim c' tm ∧ Ghost c' tm X ∧ VR c' (.slot X [i]) d' v ∧ d'.plain = true ∧ Took c c' false (fun q => ∃ l, q = .slot X (i :: l)) := by
  unfold expD at h
  split at h
  · cases h
    exact ⟨c, rfl, hs, hX, hv, rfl, Took.refl _ _ _⟩
  · rename_i p n
    have key : ∀ q, c.s.take p = some q → (D.own q.1.1 (cutTo n q.1.2), q.2) = (d', s1) → ∃ c', c'.s = s1 ∧ Sim c' tm ∧ Ghost c' tm X ∧ VR c' (.slot X [i]) d' v ∧ d'.plain = true ∧ Took c c' false (fun q => ∃ l, q = .slot X (i :: l)) := by
      intro q hq he
      cases he
      obtain ⟨c1, h4, h5, h6, h7, h8⟩ := take_step (sl := false) (π := [i]) hs hX hq (by simp) hv
      exact ⟨c1, h4, h5, h6, h7, rfl, h8.weak fun q ⟨l, e⟩ => ⟨l, e⟩⟩
    split at h
    · simp only [Option.map_eq_some_iff] at h
      obtain ⟨q, hq, he⟩ := h
      exact key q hq he
    · simp only [Option.map_eq_some_iff] at h
      obtain ⟨q, hq, he⟩ := h
      exact key q hq he
    · cases h
  · simp only [Option.map_eq_some_iff] at h
    obtain ⟨q, hq, he⟩ := h
    cases he
    obtain ⟨c', h1, h2, h3, h4, h5⟩ := datD_sound _ c v q.1 q.2 hs hq hv
    exact ⟨c', h1, h2, h5 X hX, h3, rfl, h4.weak fun _ h => h.elim⟩
  · cases h
    exact ⟨c, rfl, hs, hX, hv, rfl, Took.refl _ _ _⟩
  · cases h
theorem hasOwns_all {ds : List D} (h : ∀ (i : Nat) (d : D), ds[i]? = some d → d.hasOwn = false) : D.hasOwns ds = false := by
  induction ds with
  | nil => rfl
  | cons e ds ih =>
    show (D.hasOwn e || D.hasOwns ds) = false
    rw [h 0 e rfl, ih fun i d hd => h (i + 1) d (by simpa using hd)]
    rfl
theorem load_box {t : TypeId} {i : TI} {r : Ref} {n : Nat} {cs : List D} {d : D} (hty : TyOk P c.ty) (hs : Sim c tm) (hb : c.s.box r = some cs) (hm : isM cs = false) (ht : c.ty t = some i) (h : Den.loadCells i (Pl.cell r) cs n = some d) :
    ∃ v, (Instr.loadAt t (.pointer (some ⟨c.β r, n, none⟩))).run P c.W = .ok v c.W ∧ VR c (.lent 0) d v ∧ d.hasOwn = false := by
  obtain ⟨_, de, _, hf⟩ := hty.facts ht
  obtain ⟨vs, hl, hc, hcell⟩ := box_cells hs hb hm
  unfold Den.loadCells at h
  split at h
  · rename_i ha
    split at h
    · rename_i hsz
      cases h
      have h3 : ∀ (j : Nat) (v : Value), ((vs.drop n).take i.sz)[j]? = some v → c.W.cell? ⟨c.β r, n + j, none⟩ = some v := by
        intro j v hj
        rw [List.getElem?_take] at hj
        split at hj
        · rw [List.getElem?_drop] at hj
          exact hc _ v hj
        · cases hj
      refine ⟨.agg ((vs.drop n).take i.sz).toArray, run_loadAgg hf c.W h3 ha (by simp; omega), aggD_vr (by simp [hl]) fun j d v hd hu => ?_, ?_⟩
      · rw [List.getElem?_mapIdx] at hd
        simp only [Option.map_eq_some_iff] at hd
        obtain ⟨d0, hd0, rfl⟩ := hd
        have hlt : j < i.sz := by
          have := (List.getElem?_eq_some_iff.1 hd0).1
          simp at this; omega
        rw [List.getElem?_take_of_lt hlt, List.getElem?_drop] at hd0 hu
        obtain ⟨h4, h5, h6⟩ := hcell _ d0 v hd0 hu
        exact ⟨cell_alias hb hd0 h6 h4 _, h5⟩
      · unfold aggD
        split
        · rfl
        · refine hasOwns_all fun j d hd => ?_
          rw [List.getElem?_mapIdx] at hd
          simp only [Option.map_eq_some_iff] at hd
          obtain ⟨d0, hd0, rfl⟩ := hd
          exact alias_noOwn _
    · cases h
  · rename_i ha
    simp only [Option.map_eq_some_iff] at h
    obtain ⟨d0, hd0, rfl⟩ := h
    have hlt := (List.getElem?_eq_some_iff.1 hd0).1
    have hu := List.getElem?_eq_getElem (show n < vs.length by omega)
    obtain ⟨h4, h5, h6⟩ := hcell n d0 _ hd0 hu
    exact ⟨vs[n], run_loadOne hf c.W (hc _ _ hu) ha, cell_alias hb hd0 h6 h4 _, alias_noOwn _⟩
/-- A result's value. -/
def resM (tm : Array Value) : ResultVar → Sem Value
  | .tmp t => pure (tm.getD t undef)
  | .cell a t => do loadVar t (← asAddr (tm.getD a undef))
theorem resD_sound {rv : ResultVar} {d : D} (hty : TyOk P c.ty) (hs : Sim c tm) (h : resD c.ty c.s rv = some d) : ∃ v, (resM tm rv).run P c.W = .ok v c.W ∧ VW c d v := by
  cases rv with
  | tmp t =>
    simp only [resD, Option.some.injEq] at h
    subst h
    have hl := look_vr (a := ⟨tm, []⟩) hs (.tmp t) (.lent 0)
    exact ⟨tm.getD t undef, rfl, VW.of (.lent 0) _ _ hl.2 hl.1⟩
  | cell y t =>
    simp only [resD, Option.bind_eq_some_iff] at h
    obtain ⟨i, hi, h⟩ := h
    split at h
    · rename_i r n hy
      simp only [Option.bind_eq_some_iff] at h
      obtain ⟨cs, hb, h⟩ := h
      split at h
      · cases h
      rename_i hm
      have hv := hs.slots y
      rw [hy] at hv
      obtain ⟨v, h1, h2, h3⟩ := load_box hty hs hb hm hi h
      refine ⟨v, ?_, VW.of _ _ _ h3 h2⟩
      simpa [resM, hv.2, asAddr, Instr.loadAt, Instr.sureAddr] using h1
    · cases h
theorem results_sound : ∀ (rvs : List ResultVar) (i : Nat) (c : Cx) (rs : List D) (s' : St), TyOk P c.ty → Sim c tm → Ghost c tm X → Den.results c.ty rvs c.s = some (rs, s') →
    ∃ c' us, c'.s = s' ∧ c'.W = c.W ∧ Sim c' tm ∧ Ghost c' tm X ∧ Took c c' false (ownZ X i) ∧ us.length = rs.length ∧ (rvs.mapM (resM tm)).run P c.W = .ok us c.W ∧ ∀ (j : Nat) (d : D) (u : Value), rs[j]? = some d → us[j]? = some u → VR c' (.slot X [i + j]) d u ∧ d.plain = true
  | [], i, c, rs, s', hty, hs, hX, h => by
    cases h
    exact ⟨c, [], rfl, rfl, hs, hX, Took.refl _ _ _, rfl, rfl, fun j d u hd => by simp at hd⟩
  | rv :: rvs, i, c, rs, s', hty, hs, hX, h => by
    simp only [Den.results, Option.bind_eq_some_iff, Option.map_eq_some_iff] at h
    obtain ⟨d, hd, ⟨d1, s1⟩, he, ⟨rs2, s2⟩, hr, h⟩ := h
    cases h
    obtain ⟨v, h1, h2⟩ := resD_sound hty hs hd
    obtain ⟨c1, h3, h4, h5, h6, h7, h8⟩ := expD_sound (i := i) hs hX he h2
    have hty1 : c1.ty = c.ty := h8.ext.ty
    obtain ⟨c2, us, h9, h10, h11, h12, h13, h14, h15, h16⟩ := results_sound rvs (i + 1) c1 rs2 s2 (by rw [hty1]; exact hty) h4 h5 (by rw [hty1, h3]; exact hr)
    refine ⟨c2, v :: us, h9, h10.trans h8.W, h11, h12, (h8.weak fun q ⟨l, e⟩ => ⟨i, l, Nat.le_refl _, e⟩).trans (h13.weak fun q ⟨j, l, hj, e⟩ => ⟨j, l, by omega, e⟩), by simp [h14], ?_, fun j d' u hd' hu => ?_⟩
    · rw [h8.W] at h15
      simp only [List.mapM_cons, Sem.run_bind, h1, Result.andThen_ok, h15, Sem.run_pure]
    · cases j with
      | zero =>
        simp at hd' hu
        subst hd' hu
        refine ⟨?_, h7⟩
        refine h13.vr _ _ _ h6 (plain_tight _ h7) fun l r hr => ⟨?_, ?_⟩
        · rintro ⟨j, l', hj, e'⟩
          have e'' : Pl.slot X ([i] ++ l) = Pl.slot X (j :: l') := e'
          injection e'' with _ e''
          simp at e''
          omega
        · cases hg : c1.s.get ((Pl.slot X [i]).subs l) with
          | none => rfl
          | some r' => exact (h5.get hg ⟨[i] ++ l, rfl⟩).elim
      | succ j =>
        have := h16 j d' u (by simpa using hd') (by simpa using hu)
        rwa [show i + 1 + j = i + (j + 1) by omega] at this
/-- The results as one value. -/
def resVal : List Value → Value
  | [v] => v
  | vs => .tuple vs.toArray
theorem run_results {fn : Func} {W : World} {us : List Value} (h : (fn.results.toList.mapM (resM tm)).run P W = .ok us W) : (Go.results fn tm).run P W = .ok (resVal us) W := by
  have h2 : (fn.results.mapM (resM tm)).run P W = .ok us.toArray W := by
    rw [Array.mapM_eq_mapM_toList]
    show Sem.run P ((List.mapM (resM tm) fn.results.toList) >>= fun l => pure l.toArray) W = _
    rw [Sem.run_bind, h]
    rfl
  have h3 : Go.results fn tm = (do
      let vs ← fn.results.mapM (resM tm)
      pure (if h : vs.size = 1 then vs[0] else .tuple vs)) := by
    unfold Go.results
    congr 1
  rw [h3]
  simp only [Sem.run_bind, h2, Result.andThen_ok, Sem.run_pure]
  congr 1
  cases us with
  | nil => rfl
  | cons u us =>
    cases us with
    | nil => rfl
    | cons u2 us => simp [resVal]
def outSt (rs : List D) (u : List (List D)) (l : List (Option Row)) : St := ⟨fun x => match Nat.beq x 0 with | true => retD rs | false => .junk, fun _ => none, u, l⟩
theorem norm_get_none {s : St} {q : Pl} {r : Row} (h : (s.norm []).get q = some r) : ¬ ∃ y l, q = .slot y l := by
  rintro ⟨y, l, rfl⟩
  have : (D.at_ l D.junk).row? = some r := h
  rw [junk_at] at this
  cases this
theorem leave_home {c' : Cx} {fwd : List Nat → Option Pl} {bwd : Pl → Option (List Nat)} {d : D} {v : Value} {tm' : Array Value} (hs : Sim c' tm) (hfb : ∀ l q, fwd l = some q → bwd q = some l) (hbw : ∀ q l, bwd q = some l → Under 0 q)
    (hv : ∀ c1, HomeTo { c' with s := ⟨fun _ => .undef, fun _ => none, [], []⟩ } c1 false X fwd → VR c1 (.slot 0 []) d v) (hd : ∀ c1 s, VR c1 (.slot 0 []) d v → VR { c1 with s := s } (.slot 0 []) d v) :
    ∃ c'', c''.W = c'.W ∧ c''.s = ⟨fun x => match Nat.beq x 0 with | true => d | false => .junk, fun _ => none, c'.s.u.map (D.kills (Kill.but [])), c'.s.l⟩ ∧ Sim c'' #[v] ∧ Ext c' c'' := by
  -- all is forgotten
  have h1 : Sim { c' with s := c'.s.norm [] } #[v] := forget_sound (K := Kill.but []) hs (fun y => .inl rfl) (fun r cs' h => box_norm h) rfl (fun q r h hk => get_norm h hk) (fun r h hk => box_norm_some h hk)
  -- what is returned is laid at its place
  let c1 : Cx := Cx.home { c' with s := c'.s.norm [] } X fwd bwd
  have hns : ∀ q r, (c'.s.norm []).get q = some r → ¬ (Under X q ∨ Under 0 q) := fun q r h => by
    rintro (⟨l, e⟩ | ⟨l, e⟩) <;> exact norm_get_none h ⟨_, _, e⟩
  have hH : ∀ q, ¬ Under 0 q → c1.H q = c'.H q := fun q hq => by
    have : bwd q = none := by
      cases hb : bwd q with
      | none => rfl
      | some l => exact absurd (hbw q l hb) hq
    simp only [c1, Cx.home, this]
  have hρ : ∀ g, (∀ q, c'.ρ g = .row q → ¬ Under X q) → c1.ρ g = c'.ρ g := fun g hq => Cx.home_ρ (c := { c' with s := c'.s.norm [] }) (X := X) (fwd := fwd) (bwd := bwd) g (fun l e => hq _ e ⟨l, rfl⟩)
  have m : Mono { c' with s := c'.s.norm [] } c1 Kill.none (fun q => Under X q ∨ Under 0 q) := ⟨rfl, fun b g h _ => ⟨Cx.home_rd (c := { c' with s := c'.s.norm [] }) (X := X) (fwd := fwd) (bwd := bwd) b g h, rfl⟩, fun q r h _ => ⟨h, hH q fun e => hns q r h (.inr e)⟩, fun r h _ => ⟨h, rfl⟩, fun q hq => ⟨hH q fun e => hq (.inr e), fun g h _ => ⟨by rw [hρ g fun q' e => by have e2 : c'.ρ g = .row q := h; rw [e2] at e; injection e with e; rw [← e]; exact fun h => hq (.inl h)]; exact h, rfl⟩⟩⟩
  have h2 : Sim c1 #[v] := Sim.same (Z := fun q => Under X q ∨ Under 0 q) h1 rfl hns m fun r hr => by
    obtain ⟨cs, hb⟩ := Option.isSome_iff_exists.1 hr
    obtain ⟨vs, T, h3, h4, _⟩ := (h1.boxes r cs hb).out
    refine ⟨?_, rfl⟩
    rw [show c1.ρ _ = _ from hρ _ fun q e => by have h4' : c'.ρ (c'.β r) = .box r := h4; rw [h4'] at e; cases e]
    exact h4
  have hval : VR c1 (.slot 0 []) d v := by
    refine hv c1 ⟨rfl, fun b g h _ => ⟨Cx.home_rd (c := { c' with s := c'.s.norm [] }) (X := X) (fwd := fwd) (bwd := bwd) b g h, rfl⟩, fun l q hl => ⟨?_, fun g hg _ => ⟨?_, rfl⟩⟩, fun r hr => ?_, fun q r hf => by cases hf⟩
    · have := hfb l q hl
      simp only [c1, Cx.home, this]
    · exact Cx.home_row (c := { c' with s := c'.s.norm [] }) (bwd := bwd) hg hl
    · cases r <;> simp [St.box] at hr
  let sF : St := ⟨fun x => match Nat.beq x 0 with | true => d | false => .junk, fun _ => none, c'.s.u.map (D.kills (Kill.but [])), c'.s.l⟩
  have hbx : ∀ r, sF.box r = (c'.s.norm []).box r := fun r => by cases r <;> rfl
  have mF : Mono c1 { c1 with s := sF } Kill.none (fun _ => False) := by
    refine ⟨rfl, fun b g h _ => ⟨h, rfl⟩, fun q r h _ => ⟨?_, rfl⟩, fun r h _ => ⟨by show (sF.box r).isSome = true; rw [hbx]; exact h, rfl⟩, fun q _ => ⟨rfl, fun g h _ => ⟨h, rfl⟩⟩⟩
    have h' : (c'.s.norm []).get q = some r := h
    cases q with
    | slot y l => exact absurd ⟨y, l, rfl⟩ (norm_get_none h')
    | cell r0 o =>
      show (sF.get (.cell r0 o)) = _
      simp only [St.get, hbx]
      exact h'
    | lent j => exact h'
  refine ⟨{ c1 with s := sF }, rfl, rfl, ⟨fun y => ?_, fun r cs hb => ?_, fun j r hg => ?_⟩, ⟨rfl, rfl, rfl, Nat.le_refl _, fun g _ hst => ⟨hρ g fun q e => by rw [e] at hst; exact hst.elim, rfl⟩, rfl, fun _ => rfl, fun j => hH _ fun ⟨l, e⟩ => by cases e⟩⟩
  · show VR _ _ (match Nat.beq y 0 with | true => d | false => .junk) _
    cases hb : Nat.beq y 0 with
    | true =>
      have hy := beq_eq.1 hb
      subst hy
      exact hd c1 sF hval
    | false => trivial
  · have hb' : (c'.s.norm []).box r = some cs := by rw [← hbx]; exact hb
    obtain ⟨vs, T, h3, h4, h5, h6⟩ := (h2.boxes r cs hb').out
    exact ⟨vs, T, h3, h4, h5, fun i d v hd hv => by
      obtain ⟨h7, h8, h9⟩ := h6 i d v hd hv
      exact ⟨VR.same mF (fun _ _ _ h => h) h7, h8, h9⟩⟩
  · exact (h2.lent j r hg).mono mF (fun h => h)
/-- The frame is left. -/
theorem leave_sound {c' : Cx} {rs : List D} {us : List Value} (hs : Sim c' tm) (hl : us.length = rs.length) (hv : ∀ (j : Nat) (d : D) (u : Value), rs[j]? = some d → us[j]? = some u → VR c' (.slot X [0 + j]) d u ∧ d.plain = true) :
    ∃ c'', c''.W = c'.W ∧ c''.s = outSt rs (c'.s.u.map (D.kills (Kill.but []))) c'.s.l ∧ Sim c'' #[resVal us] ∧ Ext c' c'' ∧ (retD rs).plain = true ∧ D.plains rs = true := by
  have hplain : D.plains rs = true := by
    have : ∀ (rs : List D), (∀ (j : Nat) (d : D), rs[j]? = some d → d.plain = true) → D.plains rs = true := by
      intro rs
      induction rs with
      | nil => intro _; rfl
      | cons r rs ih =>
        intro h
        show (r.plain && D.plains rs) = true
        rw [h 0 r rfl, ih fun j d hd => h (j + 1) d (by simpa using hd)]
        rfl
    refine this rs fun j d hd => ?_
    have hlt := (List.getElem?_eq_some_iff.1 hd).1
    exact (hv j d _ hd (List.getElem?_eq_getElem (by omega))).2
  have hp := retD_plain hplain
  have hd : ∀ (v : Value) (c1 : Cx) (s : St), VR c1 (.slot 0 []) (retD rs) v → VR { c1 with s := s } (.slot 0 []) (retD rs) v := fun v c1 s h => plain_vr s _ _ _ hp h
  cases rs with
  | nil =>
    have hu : us = [] := List.eq_nil_of_length_eq_zero hl
    subst hu
    obtain ⟨c'', h1, h2, h3, h4⟩ := leave_home (X := X) (fwd := toSlot 0) (bwd := ofSlot 0) (d := .undef) (v := resVal []) (tm' := tm) hs (fun l q h => by cases h; exact ofSlot_some) (fun q l h => by
      cases q with
      | slot y l' =>
        simp only [ofSlot] at h
        split at h
        · rename_i hb; exact ⟨l', by rw [beq_eq.1 hb]⟩
        · cases h
      | _ => cases h) (fun c1 _ => rfl) (fun _ _ h => h)
    exact ⟨c'', h1, h2, h3, h4, rfl, hplain⟩
  | cons r0 rs0 =>
    cases rs0 with
    | nil =>
      obtain ⟨u0, hu⟩ : ∃ u0, us = [u0] := by
        cases us with
        | nil => cases hl
        | cons u us => cases us with
          | nil => exact ⟨u, rfl⟩
          | cons _ _ => simp at hl
      subst hu
      obtain ⟨h5, h6⟩ := hv 0 r0 u0 rfl rfl
      let fwd : List Nat → Option Pl := fun l => match l with | 0 :: l' => some (.slot 0 l') | _ => none
      let bwd : Pl → Option (List Nat) := fun q => (ofSlot 0 q).map (0 :: ·)
      obtain ⟨c'', h1, h2, h3, h4⟩ := leave_home (X := X) (fwd := fwd) (bwd := bwd) (d := r0) (v := u0) (tm' := tm) hs (fun l q h => by
        simp only [fwd] at h
        split at h
        · cases h
          simp only [bwd, ofSlot_some, Option.map_some]
        · cases h) (fun q l h => by
        simp only [bwd, Option.map_eq_some_iff] at h
        obtain ⟨l0, h, _⟩ := h
        cases q with
        | slot y l' =>
          simp only [ofSlot] at h
          split at h
          · rename_i hb; exact ⟨l', by rw [beq_eq.1 hb]⟩
          · cases h
        | _ => cases h) (fun c1 hh => home_vr hh r0 [0] (.slot 0 []) u0 (plain_tight _ h6) (plain_vr _ _ _ _ h6 h5) (fun l r hr => by rw [subs_eq_slot]; rfl)) (hd u0)
      exact ⟨c'', h1, h2, h3, h4, hp, hplain⟩
    | cons r1 rs1 =>
      obtain ⟨u0, u1, us1, hu⟩ : ∃ u0 u1 us1, us = u0 :: u1 :: us1 := by
        cases us with
        | nil => cases hl
        | cons u us => cases us with
          | nil => simp at hl
          | cons u2 us => exact ⟨u, u2, us, rfl⟩
      obtain ⟨c'', h1, h2, h3, h4⟩ := leave_home (X := X) (fwd := toSlot 0) (bwd := ofSlot 0) (d := .seq true (r0 :: r1 :: rs1)) (v := .tuple us.toArray) (tm' := tm) hs (fun l q h => by cases h; exact ofSlot_some) (fun q l h => by
        cases q with
        | slot y l' =>
          simp only [ofSlot] at h
          split at h
          · rename_i hb; exact ⟨l', by rw [beq_eq.1 hb]⟩
          · cases h
        | _ => cases h) (fun c1 hh => ⟨us, rfl, (fun e => by cases e), VRs.mk hl fun i d v hdi hvi => by
          obtain ⟨h5, h6⟩ := hv i d v hdi hvi
          exact home_vr hh d [0 + i] (.slot 0 [0 + i]) v (plain_tight _ h6) (plain_vr _ _ _ _ h6 h5) (fun l r hr => rfl)⟩) (hd _)
      refine ⟨c'', h1, h2, ?_, h4, hp, hplain⟩
      rw [hu] at h3 ⊢
      exact h3
end
/-- What must hold of the functions. -/
structure FnOK (P : Program) (B : Nat → Option Obj) (C : Cfg) (f : Nat) (fn : Func) : Prop where
  there : P.funcs[f]? = some fn
  name : (fn.name == "runtime.NumGoroutine") = false
  code : ∀ c, fn.body = some c → codeOK fn.ntmps c = true
  draws : ∀ c, fn.body = some c → ∀ call, CallOK P C.ty B call → DrawsOK P B ⟨C.ty, C.mode, fn.ntmps, C.live f, C.out f, C.plan f, call⟩ fn.ntmps c
structure CfgOK (P : Program) (B : Nat → Option Obj) (C : Cfg) : Prop where
  ty : TyOk P C.ty
  fn : ∀ f fn, C.ext f = none → C.fn f = some fn → FnOK P B C f fn
  ext : ∀ f g, C.ext f = some g → CallOK P C.ty B fun f' args u l => if f' = f then g args u l else none
theorem getD_pad {vals : Array Value} {n y : Nat} : (vals ++ Array.replicate n undef).getD y undef = vals.getD y undef := by
  simp only [Array.getD_eq_getD_getElem?]
  by_cases hy : y < vals.size
  · rw [Array.getElem?_append_left hy]
  · have e0 : vals[y]? = none := Array.getElem?_eq_none (by omega)
    rw [Array.getElem?_append_right (by omega), e0]
    by_cases h2 : y - vals.size < n
    · simp [Array.getElem?_replicate, h2]
    · have e1 : (Array.replicate n undef)[y - vals.size]? = none := Array.getElem?_eq_none (by simp; omega)
      rw [e1]
/-- A frame's variable is all that is left. -/
theorem newOut_sound {c1 : Cx} {tm : Array Value} {n : Nat} {cs : List D} (hs : Sim c1 tm) (hb : c1.s.b n = some cs) (hc : cs.all upCellD = true) :
    ∃ c', c'.W = c1.W ∧ c'.s = newSt cs ∧ Sim c' #[] ∧ c'.β (.loc 0) = c1.β (.loc n) ∧ Ext c1 c' := by
  let c' : Cx :=
    { c1 with
      β := fun r => match r.is (.loc 0) with | true => c1.β (.loc n) | false => c1.β r
      ρ := fun g => match c1.ρ g with
        | .box r => (match r.is (.loc n) with | true => .box (.loc 0) | false => .oth)
        | .row (.cell r i) => (match r.is (.loc n) with | true => .row (.cell (.loc 0) i) | false => .oth)
        | .row _ => .oth
        | x => x
      H := fun q => match q with
        | .cell r i => (match r.is (.loc 0) with | true => c1.H (.cell (.loc n) i) | false => c1.H q)
        | q => c1.H q
      s := newSt cs }
  have hself : ∀ k, (Ref.loc k).is (.loc k) = true := fun k => Ref.is_eq.2 rfl
  have hst : ∀ g, stable (c1.ρ g) → c'.ρ g = c1.ρ g := fun g h => by
    simp only [c']
    generalize c1.ρ g = x at h
    cases x <;> first | rfl | exact h.elim
  have hrd : ∀ b g, Rd c1.ρ b g → g < c1.W.heap.size → Rd c'.ρ b g ∧ c'.W.heap[g]? = c1.W.heap[g]? := fun b g h _ => by
    refine ⟨?_, rfl⟩
    have h2 := hst g h.stable
    unfold Rd at h ⊢
    rw [h2]
    exact h
  refine ⟨c', rfl, rfl, ⟨fun x => trivial, fun r cs' hb' => ?_, fun j r hg => ?_⟩, ?_, ⟨rfl, rfl, rfl, Nat.le_refl _, fun g _ h => ⟨hst g h, rfl⟩, rfl, fun k => rfl, fun j => rfl⟩⟩
  · have hr : r = .loc 0 ∧ cs' = cs := by
      cases r with
      | up k => have h : ([] : List (List D))[k]? = some cs' := hb'; simp at h
      | loc m =>
        have h : (match Nat.beq m 0 with | true => some cs | false => none) = some cs' := hb'
        cases hm : Nat.beq m 0 with
        | true => rw [hm] at h; cases h; rw [beq_eq.1 hm]; exact ⟨rfl, rfl⟩
        | false => rw [hm] at h; cases h
    obtain ⟨rfl, rfl⟩ := hr
    obtain ⟨vs, T, h1, h2, h3, h4⟩ := (hs.boxes (.loc n) cs' hb).out
    have hβ : c'.β (.loc 0) = c1.β (.loc n) := by simp only [c', hself]
    refine ⟨vs, T, by rw [hβ]; exact h1, ?_, h3, fun i d u hd hu => ?_⟩
    · rw [hβ]
      simp only [c', h2, hself]
    · obtain ⟨h5, h6, h7⟩ := h4 i d u hd hu
      refine ⟨?_, h6, h7⟩
      have hup : upCellD d = true := (List.all_eq_true.1 hc) d (List.mem_of_getElem? hd)
      cases d with
      | dat dd =>
        obtain ⟨cv, h8, h9⟩ := h5
        exact ⟨cv, h8.mono hrd, h9⟩
      | own e es =>
        have hHc : c'.H (.cell (.loc 0) i) = c1.H (.cell (.loc n) i) := by simp only [c', hself]
        refine ⟨by rw [hHc]; exact h5.1, RowAt.ok ?_⟩
        rw [hHc]
        have hrow := h5.2.at_
        refine hrow.re rfl hrd fun g hg => ⟨?_, rfl⟩
        have hr := hrow.choose_spec.choose_spec.2.2.2 g hg
        simp only [c', hr, hself]
      | _ => cases hup
  · have h : (([] : List (Option Row))[j]?).bind id = some r := hg
    simp at h
  · simp only [c', hself]
/-- THE THEOREM: what den says of a call is what the call does. -/
theorem den_sound {P : Program} {C : Cfg} (hC : CfgOK P B C) : ∀ k, CallOK P C.ty B (den C k)
  | 0 => fun f args u l rs u' l' h => by cases h
  | k + 1 => by
    intro f args u l rs u' l' h c vals hty hI hcs hsz hs
    unfold den at h
    split at h
    · rename_i g hg
      exact hC.ext f g hg f args u l rs u' l' (by show (if f = f then g args u l else none) = _; rw [if_pos rfl]; exact h) c vals hty hI hcs hsz hs
    · rename_i hext
      split at h
      · rename_i fn hfn
        split at h
        · rename_i hle
          have hF := hC.fn f fn hext hfn
          have hle : args.length ≤ fn.ntmps := by simpa using hle
          unfold runFn at h
          split at h
          · cases h
          · rename_i code hb
            -- the call enters
            have hent : (callFunc f vals).run P c.W = .ok (.enter f vals) c.W := by
              have h1 : fn.name ≠ "runtime.NumGoroutine" := by simpa using hF.name
              simp [callFunc, hF.there, h1, hb, mark]
            unfold Reaches
            rw [hent]
            show Calls P f vals c.W _
            refine calls_of_wp hF.there hb ?_
            let a : Act := { tmps := vals ++ Array.replicate (fn.ntmps - vals.size) undef, defers := [] }
            have hasz : a.tmps.size = fn.ntmps := by simp [a]; omega
            have hsim : Sim c a.tmps := ⟨fun y => by rw [show a.tmps.getD y undef = vals.getD y undef from getD_pad]; exact hs.slots y, hs.boxes, hs.lent⟩
            have hfr : Fr fn.ntmps c a := ⟨hsim, by rw [hasz]; exact Nat.le_refl _, by
              rw [hcs]
              show (args.getD fn.ntmps .undef).hasOwn = false
              rw [List.getD_eq_getElem?_getD, List.getElem?_eq_none (by omega)]
              rfl⟩
            have hE : EnvOK P B ⟨C.ty, C.mode, fn.ntmps, C.live f, C.out f, C.plan f, den C k⟩ c a := ⟨hty.symm, by rw [hty]; exact hC.ty, hI, by rw [hty]; exact den_sound hC k, hasz⟩
            have fin : ∀ x s, exec ⟨C.ty, C.mode, fn.ntmps, C.live f, C.out f, C.plan f, den C k⟩ k code (start args u l) = some (x, s) → (x.exit' = .normal ∨ x.exit' = .ret) → outOf C.ty fn.results.toList u.length s = some (rs, u', l') →
                code.wp P (bodyPost P fn fun | .returned v, W'' => ∃ c', c'.W = W'' ∧ Ans c rs u' l' v c' | _, _ => False) a c.W := by
              intro x s hx hxe hr
              simp only [outOf, Option.bind_eq_some_iff] at hr
              obtain ⟨⟨rs1, s1⟩, hres, hr⟩ := hr
              split at hr
              · rename_i hlen
                simp only [Option.some.injEq, Prod.mk.injEq] at hr
                obtain ⟨rfl, rfl, rfl⟩ := hr
                refine exec_sound k code c a x s _ (hF.code code hb) (hF.draws code hb _ (den_sound hC k)) hE hfr (by rw [hcs]; exact hx) fun a' c1 hs1 hf1 he1 hsz1 hdf1 => ?_
                have hty1 : c1.ty = C.ty := he1.ty.trans hty
                obtain ⟨c2, us, h2, h3, h4, h5, h6, h7, h8, h9⟩ := results_sound fn.results.toList 0 c1 rs1 s1 (by rw [hty1]; exact hC.ty) hf1.sim hf1.ghost (by rw [hty1, hs1]; exact hres)
                obtain ⟨c3, h10, h11, h12, h13, h14, h15⟩ := leave_sound h4 h7 h9
                have hpost : a'.defers = [] ∧ ∃ v, (Go.results fn a'.tmps).run P c1.W = .ok v c1.W ∧ ∃ c', c'.W = c1.W ∧ Ans c rs1 (s1.u.map (D.kills (Kill.but []))) s1.l v c' := by
                  refine ⟨hdf1, resVal us, run_results h8, c3, h10.trans h3, Ans.of h15 ⟨(he1.trans h6.ext).trans h13, by rw [h11, h2]; rfl, h12, plain_tight _ h14, ?_⟩⟩
                  rw [hcs]
                  show (s1.u.map _).length = u.length
                  rw [List.length_map]
                  exact beq_eq.1 hlen
                rcases hxe with e | e <;> rw [e] <;> exact hpost
              · cases hr
            have fin2 : ∀ x s cs, exec ⟨C.ty, C.mode, fn.ntmps, C.live f, C.out f, C.plan f, den C k⟩ k code (start args u l) = some (x, s) → (x.exit' = .normal ∨ x.exit' = .ret) → newRes fn.results.toList s = some cs → rs = [.ptr (.loc 0) 0] → u' = [cs] →
                code.wp P (bodyPost P fn fun | .returned v, W'' => ∃ c', c'.W = W'' ∧ Ans c rs u' l' v c' | _, _ => False) a c.W := by
              intro x s cs hx hxe hr hrs hu'
              refine exec_sound k code c a x s _ (hF.code code hb) (hF.draws code hb _ (den_sound hC k)) hE hfr (by rw [hcs]; exact hx) fun a' c1 hs1 hf1 he1 hsz1 hdf1 => ?_
              unfold newRes at hr
              split at hr
              · rename_i y hrv
                split at hr
                · rename_i n hy
                  simp only [Option.bind_eq_some_iff] at hr
                  obtain ⟨cs0, hb0, hr⟩ := hr
                  split at hr
                  · rename_i hup
                    cases hr
                    rw [← hs1] at hb0 hy
                    obtain ⟨c2, h2, h3, h4, h5, h6⟩ := newOut_sound hf1.sim hb0 hup
                    have hv := hf1.sim.slots y
                    rw [hy] at hv
                    have h8 : (fn.results.toList.mapM (resM a'.tmps)).run P c1.W = .ok [a'.tmps.getD y undef] c1.W := by
                      rw [hrv]
                      simp [resM]
                    have hpost : a'.defers = [] ∧ ∃ v, (Go.results fn a'.tmps).run P c1.W = .ok v c1.W ∧ ∃ c', c'.W = c1.W ∧ Ans c rs u' l' v c' := by
                      refine ⟨hdf1, _, run_results h8, c2, h2, ?_⟩
                      subst hrs hu'
                      exact ⟨he1.trans h6, cs, rfl, hup, h3, h4, by show a'.tmps.getD y undef = _; rw [hv.2, h5]⟩
                    rcases hxe with e | e <;> rw [e] <;> exact hpost
                  · cases hr
                · cases hr
              · cases hr
            split at h
            · cases h
            · rename_i x s hne hx
              have hxe : x.exit' = .normal ∨ x.exit' = .ret := by
                cases x with
                | normal => exact .inl rfl
                | ret => exact .inr rfl
                | exit i => exact (hne i rfl).elim
              unfold endOf at h
              split at h
              · split at h
                · rename_i cs hn
                  cases h
                  exact fin2 x s cs hx hxe hn rfl rfl
                · exact fin x s hx hxe h
              · exact fin x s hx hxe h
            · cases h
        · cases h
      · cases h
end Go.Den
namespace Go.Den
open Go Go.RowKit
set_option linter.unusedVariables false
section
variable {P : Program} {ops : Array Oper} {Q : Exit → Act → World → Prop} {md : Region.Mode} {R : World → World → Prop} {str : Nat → Bool}
/-- Whatever order comes up; what a flagged operation leaves stands in R to what it found. -/
def wpAnyG (P : Program) (md : Region.Mode) (ops : Array Oper) (Q : Exit → Act → World → Prop) (R : World → World → Prop) (str : Nat → Bool) : Nat → Array Bool → Act → World → Prop
  | 0, listed, a, w => Region.ready md ops listed = [] ∧ Q .normal a w
  | fuel + 1, listed, a, w =>
    (Region.ready md ops listed = [] → Q .normal a w) ∧
    ∀ i ∈ Region.ready md ops listed, wpOp P ops Q i (fun a' w' => (str i = true → R w w') ∧ wpAnyG P md ops Q R str fuel (listed.setIfInBounds i true) a' w') a w
theorem wpAny_of_G : ∀ (fuel : Nat) (listed : Array Bool) (a : Act) (w : World), wpAnyG P md ops Q R str fuel listed a w → wpAny P md ops Q fuel listed a w
  | 0, _, _, _, h => h
  | fuel + 1, _, _, _, h => ⟨h.1, fun i hi => wpOp_mono (fun a' w' h' => wpAny_of_G fuel _ a' w' h'.2) (h.2 i hi)⟩
/-- What yields in every world that stands in R to w0 is taken first; what may come before it keeps R. -/
theorem wpAnyG_load (hR : ∀ a b c, R a b → R b c → R a c) (hR0 : ∀ a, R a a) {w0 : World} {i : Nat} {oi : Oper} {v : Value} {desc : Nat → Bool} (hi : ops[i]? = some oi) (hsel : ∀ (j : Nat) (o : Oper) cs b, ops[j]? = some o → o.op ≠ .select cs b)
    (hQ : ∀ c a w, Q (.panic c) (a.put oi.dst v) w → Q (.panic c) a w) (hdesc : ∀ j oj, ops[j]? = some oj → desc j = true → ∃ e ∈ oj.after, Region.binds md e = true ∧ (e.on = i ∨ desc e.on = true)) :
    ∀ (fuel : Nat) (listed : Array Bool) (a : Act) (w : World),
      (∀ j oj, ops[j]? = some oj → j ≠ i → listed.getD j true = false → desc j = false → oi.apart ops oj = true ∧ str j = true) →
      (∀ k, listed.getD k false = true → desc k = false) → i ∈ Region.ready md ops listed → YieldsIf P ops (R w0) oi v a → R w0 w →
      wpAnyG P md ops Q R str fuel (listed.setIfInBounds i true) (a.put oi.dst v) w → wpAnyG P md ops Q R str (fuel + 1) listed a w := by
  intro fuel
  induction fuel with
  | zero =>
    intro listed a w _ hl hr hy hS H
    refine ⟨fun h => (by rw [h] at hr; cases hr), fun j hj => ?_⟩
    by_cases hji : j = i
    · subst hji; exact hy.wpOp hi hS ⟨fun _ => hR0 w, H⟩
    · have := ready_mono hj hji
      rw [H.1] at this
      cases this
  | succ fuel ih =>
    intro listed a w hfree hl hr hy hS H
    refine ⟨fun h => (by rw [h] at hr; cases hr), fun j hj => ?_⟩
    by_cases hji : j = i
    · subst hji; exact hy.wpOp hi hS ⟨fun _ => hR0 w, H⟩
    · have h1 := H.2 j (ready_mono hj hji)
      obtain ⟨hjun, oj, hoj, hall⟩ := mem_ready.1 hj
      have hnot : desc j = false := by
        cases hdj : desc j with
        | false => rfl
        | true =>
          obtain ⟨e, he, hb, hor⟩ := hdesc j oj hoj hdj
          have h1 := hall e he hb
          rcases hor with heq | hd2
          · have h0 := (mem_ready.1 hr).1
            rw [heq] at h1
            rcases Nat.lt_or_ge i listed.size with h' | h'
            · simp [h'] at h0 h1; rw [h0] at h1; cases h1
            · simp [Array.getElem?_eq_none h'] at h1
          · rw [hl _ h1] at hd2; cases hd2
      have hl' : ∀ k, (listed.setIfInBounds j true).getD k false = true → desc k = false := fun k hk => by
        by_cases hjk : j = k
        · subst hjk; exact hnot
        · rw [getD_set_ne false hjk] at hk; exact hl k hk
      obtain ⟨hap, hst⟩ := hfree j oj hoj hji hjun hnot
      have h2 := wpOp_putIf hoj hap (fun cs b => hsel i oi cs b hi) (fun cs b => hsel j oj cs b hoj) hQ hy h1
      have hfree' : ∀ k ok, ops[k]? = some ok → k ≠ i → (listed.setIfInBounds j true).getD k true = false →
          desc k = false → oi.apart ops ok = true ∧ str k = true := fun k ok hk hki hun hno => by
        refine hfree k ok hk hki ?_ hno
        by_cases hjk : j = k
        · subst hjk; exact hjun
        · rw [getD_set_ne true hjk] at hun; exact hun
      refine wpOp_mono (fun a' w' h3 => ⟨h3.2.1, ih (listed.setIfInBounds j true) a' w' hfree' hl' (ready_mono hr (Ne.symm hji)) h3.1 (hR _ _ _ hS (h3.2.1 hst)) ?_⟩) h2
      rw [Array.setIfInBounds_comm _ _ hji]
      exact h3.2.2
/-- What yields in every world is taken first. -/
theorem wpAnyG_calm (hR0 : ∀ a, R a a) {i : Nat} {oi : Oper} {v : Value} {desc : Nat → Bool} (hi : ops[i]? = some oi) (hsel : ∀ (j : Nat) (o : Oper) cs b, ops[j]? = some o → o.op ≠ .select cs b)
    (hQ : ∀ c a w, Q (.panic c) (a.put oi.dst v) w → Q (.panic c) a w) (hdesc : ∀ j oj, ops[j]? = some oj → desc j = true → ∃ e ∈ oj.after, Region.binds md e = true ∧ (e.on = i ∨ desc e.on = true)) :
    ∀ (fuel : Nat) (listed : Array Bool) (a : Act) (w : World),
      (∀ j oj, ops[j]? = some oj → j ≠ i → listed.getD j true = false → desc j = false → oi.apart ops oj = true) →
      (∀ k, listed.getD k false = true → desc k = false) → i ∈ Region.ready md ops listed → Go.Yields P ops oi v a →
      wpAnyG P md ops Q R str fuel (listed.setIfInBounds i true) (a.put oi.dst v) w → wpAnyG P md ops Q R str (fuel + 1) listed a w := by
  intro fuel
  induction fuel with
  | zero =>
    intro listed a w _ hl hr hy H
    refine ⟨fun h => (by rw [h] at hr; cases hr), fun j hj => ?_⟩
    by_cases hji : j = i
    · subst hji; exact hy.wpOp hi ⟨fun _ => hR0 w, H⟩
    · have := ready_mono hj hji
      rw [H.1] at this
      cases this
  | succ fuel ih =>
    intro listed a w hfree hl hr hy H
    refine ⟨fun h => (by rw [h] at hr; cases hr), fun j hj => ?_⟩
    by_cases hji : j = i
    · subst hji; exact hy.wpOp hi ⟨fun _ => hR0 w, H⟩
    · have h1 := H.2 j (ready_mono hj hji)
      obtain ⟨hjun, oj, hoj, hall⟩ := mem_ready.1 hj
      have hnot : desc j = false := by
        cases hdj : desc j with
        | false => rfl
        | true =>
          obtain ⟨e, he, hb, hor⟩ := hdesc j oj hoj hdj
          have h1 := hall e he hb
          rcases hor with heq | hd2
          · have h0 := (mem_ready.1 hr).1
            rw [heq] at h1
            rcases Nat.lt_or_ge i listed.size with h' | h'
            · simp [h'] at h0 h1; rw [h0] at h1; cases h1
            · simp [Array.getElem?_eq_none h'] at h1
          · rw [hl _ h1] at hd2; cases hd2
      have hl' : ∀ k, (listed.setIfInBounds j true).getD k false = true → desc k = false := fun k hk => by
        by_cases hjk : j = k
        · subst hjk; exact hnot
        · rw [getD_set_ne false hjk] at hk; exact hl k hk
      have h2 := wpOp_put hoj (hfree j oj hoj hji hjun hnot) (fun cs b => hsel i oi cs b hi) (fun cs b => hsel j oj cs b hoj) hQ hy h1
      have hfree' : ∀ k ok, ops[k]? = some ok → k ≠ i → (listed.setIfInBounds j true).getD k true = false →
          desc k = false → oi.apart ops ok = true := fun k ok hk hki hun hno => by
        refine hfree k ok hk hki ?_ hno
        by_cases hjk : j = k
        · subst hjk; exact hjun
        · rw [getD_set_ne true hjk] at hun; exact hun
      refine wpOp_mono (fun a' w' h3 => ⟨h3.2.1, ih (listed.setIfInBounds j true) a' w' hfree' hl' (ready_mono hr (Ne.symm hji)) h3.1 ?_⟩) h2
      rw [Array.setIfInBounds_comm _ _ hji]
      exact h3.2.2
end
end Go.Den
namespace Go.Den
open Go Go.RowKit
set_option linter.unusedVariables false
/-- An operation that is calm. -/
theorem evOp_calm {P : Program} {c : Cx} {a : Act} {o : Oper} {E : Env} {d : D} (hE : E.ty = c.ty) (hty : TyOk P c.ty) (hs : Sim c a.tmps) (hcm : isCalm o.op = true)
    (h : evOp E c.s.look c.s.get c.s.box o.type o.op = some (.pure d)) : ∀ x T, Calm P c a o x T d := by
  cases ho : o.op with
  | move z =>
    rw [ho] at h
    simp only [evOp] at h
    cases h
    exact fun x T => (y_move hs (.inl ho))
  | assign z =>
    rw [ho] at h
    simp only [evOp] at h
    split at h
    · rename_i hz
      simp only [Option.bind_eq_some_iff] at h
      obtain ⟨i, hi, h⟩ := h
      split at h
      · rename_i e hk
        cases h
        rw [hE] at hi
        exact fun x T => (y_nil hty ho hz hi hk)
      · cases h
    · split at h
      · cases h
        exact fun x T => (y_move hs (.inr ho))
      · cases h
  | pick z u w =>
    rw [ho] at h
    simp only [evOp, Option.map_eq_some_iff] at h
    obtain ⟨b, hb, h⟩ := h
    cases h
    exact fun x T => by cases b <;> exact (y_pick hs ho hb)
  | build t ps =>
    rw [ho] at h
    simp only [evOp, Option.bind_eq_some_iff] at h
    obtain ⟨i, hi, h⟩ := h
    rw [hE] at hi
    split at h
    · rename_i hq
      simp only [Bool.and_eq_true] at hq
      simp only [Option.map_eq_some_iff] at h
      obtain ⟨cs, hf, h⟩ := h
      cases h
      exact fun x T => (y_build hE hty hs ho hi hq.1 hq.2 hf)
    · cases h
  | nilCheck z =>
    rw [ho] at h
    simp only [evOp] at h
    split at h
    · rename_i r n hz
      cases h
      exact fun x T => (y_nilCheck hs ho hz)
    · cases h
  | binOp op t z u k =>
    rw [ho] at h
    simp only [evOp] at h
    split at h
    · rename_i b hb
      cases h
      rw [hE] at hb
      exact fun x T => (y_aggCmp hty hs ho hb)
    · simp only [Option.map_eq_some_iff] at h
      obtain ⟨d, hd, h⟩ := h
      cases h
      rw [hE] at hd
      exact fun x T => (y_binOp hty hs ho hd)
  | unOp op t z =>
    rw [ho] at h
    simp only [evOp, Option.map_eq_some_iff] at h
    obtain ⟨d, hd, h⟩ := h
    cases h
    exact fun x T => (y_unOp hs ho hd)
  | convert t u z =>
    rw [ho] at h
    simp only [evOp, Option.bind_eq_some_iff, Option.map_eq_some_iff] at h
    obtain ⟨i, hi, d, hd, h⟩ := h
    cases h
    rw [hE] at hd hi
    exact fun x T => (y_convert hty hs ho (by rw [hi]; rfl) hd)
  | makeFunc fn first cap =>
    rw [ho] at h
    cases fn with
    | func f =>
      simp only [evOp] at h
      split at h
      · rename_i hf
        simp only [Option.map_eq_some_iff] at h
        obtain ⟨rs, hr, h⟩ := h
        cases h
        exact fun x T => (y_makeFunc hs ho hf hr)
      · cases h
    | _ => simp only [evOp] at h; cases h
  | slice t z lo hi mx =>
    rw [ho] at h
    simp only [evOp] at h
    split at h
    · simp only [Option.bind_eq_some_iff, Option.map_eq_some_iff] at h
      obtain ⟨st, hst, l, hl, hh, hhi, d, hd, h⟩ := h
      cases h
      rw [hE] at hst
      exact fun x T => (y_slice hty hs (fun _ _ h => h) ho hst hl hhi hd)
    · cases h
  | fieldAddr t z f =>
    rw [ho] at h
    simp only [evOp, Option.bind_eq_some_iff] at h
    obtain ⟨i, hi, q, hq, j, hj, h⟩ := h
    rw [hE] at hi hj
    split at h
    · rename_i hc
      simp only [Option.map_eq_some_iff] at h
      obtain ⟨d, hd, h⟩ := h
      cases h
      exact fun x T => (y_fieldAddr hty hs ho hi hq hj hc hd)
    · cases h
  | field t z f =>
    rw [ho] at h
    simp only [evOp, Option.bind_eq_some_iff] at h
    obtain ⟨i, hi, q, hq, j, hj, h⟩ := h
    rw [hE] at hi hj
    split at h
    · cases h
    · rename_i ha
      split at h
      · rename_i cs hz
        simp only [Option.map_eq_some_iff] at h
        obtain ⟨d, hd, h⟩ := h
        cases h
        exact fun x T => ((y_field hty hs ho hi hq hj ha).1 cs d hz hd)
      · rename_i ds hz
        split at h
        · rename_i hja
          simp only [Option.map_eq_some_iff] at h
          obtain ⟨d, hd, h⟩ := h
          cases h
          exact fun x T => ((y_field hty hs ho hi hq hj ha).2.1 ds d hz hja hd)
        · rename_i hja
          split at h
          · rename_i hb
            cases h
            exact fun x T => ((y_field hty hs ho hi hq hj ha).2.2 ds hz hja hb)
          · cases h
      · cases h
  | indexAddr t z u =>
    rw [ho] at h
    simp only [evOp, Option.bind_eq_some_iff] at h
    obtain ⟨k, hk, h⟩ := h
    rw [hE] at hk
    split at h
    · rename_i e hkk
      simp only [Option.bind_eq_some_iff, Option.map_eq_some_iff] at h
      obtain ⟨j, hj, n, hn, d, hd, h⟩ := h
      rw [hE] at hj
      cases h
      exact fun x T => (y_indexAddr hty hs (fun _ _ h => h) ho hk hkk hj hn hd)
    · cases h
  | index t z u =>
    rw [ho] at h
    simp only [evOp, Option.bind_eq_some_iff] at h
    obtain ⟨k, hk, n, hn, h⟩ := h
    rw [hE] at hk
    split at h
    · rename_i s hz hkk
      split at h
      · rename_i hb
        cases h
        exact fun x T => (y_index hty hs ho hk hkk hn hz hb)
      · cases h
    · cases h
  | extract z j =>
    rw [ho] at h
    simp only [evOp] at h
    split at h
    · rename_i ds hz
      simp only [Option.map_eq_some_iff] at h
      obtain ⟨d, hd, h⟩ := h
      cases h
      exact fun x T => (y_extract hs ho hz hd)
    · cases h
  | call ca =>
    rw [ho] at h
    simp only [evOp] at h
    split at h
    · rename_i hc
      split at h
      · rename_i z t ha hat
        simp only [Option.bind_eq_some_iff, Option.map_eq_some_iff] at h
        obtain ⟨i, hi, n, hn, h⟩ := h
        cases h
        rw [hE] at hi
        exact fun x T => (y_len hty hs (fun _ _ h => h) ho hc ha hat hi hn)
      · cases h
    · rename_i hc
      split at h
      · rename_i z u ha
        simp only [Option.bind_eq_some_iff, Option.map_eq_some_iff] at h
        obtain ⟨m, hm, n, hn, h⟩ := h
        cases h
        exact fun x T => (y_maxmin (mx := true) hs ho hc ha hm hn)
      · cases h
    · rename_i hc
      split at h
      · rename_i z u ha
        simp only [Option.bind_eq_some_iff, Option.map_eq_some_iff] at h
        obtain ⟨m, hm, n, hn, h⟩ := h
        cases h
        exact fun x T => (y_maxmin (mx := false) hs ho hc ha hm hn)
      · cases h
    · rename_i z hc
      rw [ho] at hcm
      simp [isCalm, hc] at hcm
    · cases h
  | _ => rw [ho] at hcm; cases hcm
/-- Whatever an operation does, of temporaries it turns its own alone. -/
theorem wp_put {P : Program} {o : Oper} {a : Act} {w : World} {K : Act → World → Prop} {Q : Exit → Act → World → Prop} (h : o.wp P a w K Q) : o.wp P a w (fun a' w' => K a' w' ∧ ∃ v, a'.tmps = (a.put o.dst v).tmps) Q := by
  unfold Oper.wp at *
  generalize (execOp a.eval o).run P w = r at *
  cases r with
  | ok n w' =>
    cases n <;> simp only [Oper.upon] at h ⊢
    case value v => exact ⟨h, v, rfl⟩
    case skip => exact ⟨h, _, rfl⟩
    case defer d => exact ⟨h, undef, by cases o.dst <;> rfl⟩
    case enter f args =>
      refine Calls.mono h fun e w'' he => ?_
      cases e with
      | returned v => exact ⟨he, v, rfl⟩
      | panicked c => exact he
      | outgrown => exact he
    case row r args => exact Rows.mono h fun v w'' he => ⟨he, v, rfl⟩
  | halt x w' => cases x <;> simp only [Oper.upon] at h ⊢ <;> exact h
section
variable {P : Program} {c : Cx} {a : Act} {o : Oper} {X : Nat}
/-- A calm operation, taken. -/
theorem calm_take {n : Nat} {d : D} {T : World → Prop} (hf : Fr X c a) (hn : n < a.tmps.size) (h : Calm P c a o n T d) :
    ∃ v c', c'.s = c.s.put n d ∧ c'.W = c.W ∧ Fr X c' (a.put (some n) v) ∧ Ext c c' ∧ (∀ g, g < c.W.heap.size → c'.ρ g = c.ρ g) ∧ ∀ w, T w → (execOp a.eval o).run P w = .ok (.value v) w := by
  obtain ⟨v, c1, h0, h1, h2, h3⟩ := h
  have hsim := h2.put hf.sim hn h3
  have hne : X ≠ n := Nat.ne_of_gt (Nat.lt_of_lt_of_le hn hf.ghost.out)
  have e := h2.ext
  exact ⟨v, { c1 with s := c.s.put n d }, rfl, h0, ⟨hsim, by simpa [Act.put] using hf.ghost.out, put_own hne hf.ghost.own⟩, ⟨e.os, e.tape, e.output, e.size, e.keep, e.ty, e.up, e.lentH⟩, h2.ρ, h1⟩
def Cx.isM (c : Cx) (M : List Nat) (g : Nat) : Bool := M.any fun n => Nat.beq (c.β (.loc n)) g
def Cx.hid (c : Cx) (M : List Nat) : Cx := { c with ρ := fun g => match c.isM M g with | true => .oth | false => c.ρ g, s := c.s.hid M }
theorem isM_iff {M : List Nat} {g : Nat} : c.isM M g = true ↔ ∃ n ∈ M, c.β (.loc n) = g := by
  unfold Cx.isM
  rw [List.any_eq_true]
  constructor
  · rintro ⟨n, h1, h2⟩; exact ⟨n, h1, beq_eq.1 h2⟩
  · rintro ⟨n, h1, h2⟩; exact ⟨n, h1, beq_eq.2 h2⟩
theorem ptrAt_eq {s : St} {n : Nat} (h : ptrAt s n = true) : s.t n = .ptr (.loc n) 0 := by
  unfold ptrAt at h
  split at h
  · rename_i m o e
    simp only [Bool.and_eq_true] at h
    rw [e, beq_eq.1 h.1, beq_eq.1 h.2]
  · cases h
theorem hidOK_at {M : List Nat} {s : St} (h : hidOK M s = true) {n : Nat} (hn : n ∈ M) : s.t n = .ptr (.loc n) 0 ∧ ∃ cs, s.b n = some cs ∧ ∀ d ∈ cs, ∃ x, d = .dat x := by
  have := (List.all_eq_true.1 h) n hn
  simp only [Bool.and_eq_true] at this
  refine ⟨ptrAt_eq this.1, ?_⟩
  have h2 := this.2
  unfold datBox at h2
  split at h2
  · rename_i cs hcs
    refine ⟨cs, hcs, fun d hd => ?_⟩
    have := (List.all_eq_true.1 h2) d hd
    split at this
    · exact ⟨_, rfl⟩
    · cases this
  · cases h2
theorem hid_box_ρ {M : List Nat} {tm : Array Value} (hs : Sim c tm) (h : hidOK M c.s = true) {g : Nat} (hg : c.isM M g = true) : ∃ n ∈ M, c.β (.loc n) = g ∧ c.ρ g = .box (.loc n) ∧ g < c.W.heap.size := by
  obtain ⟨n, hn, rfl⟩ := isM_iff.1 hg
  obtain ⟨_, cs, hcs, _⟩ := hidOK_at h hn
  have hb := hs.boxes (.loc n) cs hcs
  obtain ⟨vs, T, h1, h2, _⟩ := hb.out
  exact ⟨n, hn, rfl, h2, hb.lt⟩
theorem hid_get {M : List Nat} {s : St} {q : Pl} {r : Row} (h : s.get q = some r) (hk : (Kill.hide M).pl q = false) : (s.hid M).get q = some r := by
  cases q with
  | slot y l =>
    show (D.at_ l ((s.hid M).t y)).row? = _
    simp only [St.hid]
    rw [kill_at]
    exact h
  | cell r0 o =>
    simp only [St.get, Option.bind_eq_some_iff] at h ⊢
    obtain ⟨cs, h1, d, h2, h3⟩ := h
    refine ⟨D.kills (Kill.hide M) cs, ?_, d.kill (Kill.hide M), by rw [get_kills, h2]; rfl, ?_⟩
    · cases r0 with
      | loc n =>
        have hm : memN n M = false := hk
        have h1 : s.b n = some cs := h1
        simp only [St.hid, St.box, hm, h1, Option.map_some]
      | up n =>
        have h1 : s.u[n]? = some cs := h1
        simp only [St.hid, St.box, List.getElem?_map, h1, Option.map_some]
    · have := kill_at (k := Kill.hide M) [] d
      simp only [D.at_] at this
      rw [this]; exact h3
  | lent j => exact h
theorem hid_box {M : List Nat} {s : St} {r : Ref} {cs' : List D} (h : (s.hid M).box r = some cs') : (∀ n ∈ M, r ≠ .loc n) ∧ ∃ cs, s.box r = some cs ∧ cs' = D.kills (Kill.hide M) cs := by
  cases r with
  | loc n =>
    simp only [St.hid, St.box] at h
    split at h
    · cases h
    · rename_i hm
      simp only [Option.map_eq_some_iff] at h
      obtain ⟨cs, h1, rfl⟩ := h
      refine ⟨fun k hk e => ?_, cs, h1, rfl⟩
      cases e
      rw [memN_iff.2 hk] at hm
      cases hm
  | up n =>
    simp only [St.hid, St.box, List.getElem?_map, Option.map_eq_some_iff] at h
    obtain ⟨cs, h1, rfl⟩ := h
    exact ⟨fun k hk e => (by cases e), cs, h1, rfl⟩
theorem hid_box_some {M : List Nat} {s : St} {r : Ref} (h : (s.box r).isSome = true) (hk : (Kill.hide M).ref r = false) : ((s.hid M).box r).isSome = true := by
  obtain ⟨cs, hcs⟩ := Option.isSome_iff_exists.1 h
  cases r with
  | loc n =>
    have hm : memN n M = false := hk
    have hcs : s.b n = some cs := hcs
    simp only [St.hid, St.box, hm, hcs, Option.map_some, Option.isSome_some]
  | up n =>
    have hcs : s.u[n]? = some cs := hcs
    simp only [St.hid, St.box, List.getElem?_map, hcs, Option.map_some, Option.isSome_some]
theorem hid_ρ {M : List Nat} {g : Nat} {r : Role} (h : c.ρ g = r) (hg : c.isM M g = false) : (c.hid M).ρ g = r := by
  show (match c.isM M g with | true => Role.oth | false => c.ρ g) = r
  rw [hg]; exact h
theorem hide_sound {M : List Nat} (hf : Fr X c a) (h : hidOK M c.s = true) : Fr X (c.hid M) a ∧ Ext c (c.hid M) := by
  have hs := hf.sim
  have hne : ∀ g r, c.ρ g = r → (∀ n : Nat, r ≠ .box (.loc n)) → c.isM M g = false := fun g r hr hn => by
    cases hg : c.isM M g with
    | false => rfl
    | true =>
      obtain ⟨n, _, _, h1, _⟩ := hid_box_ρ hs h hg
      exact (hn n (hr.symm.trans h1)).elim
  have hrd : ∀ b g, Rd c.ρ b g → Rd (c.hid M).ρ b g := fun b g hr => by
    rcases hr with hr | ⟨h1, hr⟩
    · exact .inl (hid_ρ hr (hne g _ hr fun n e => by cases e))
    · exact .inr ⟨h1, hid_ρ hr (hne g _ hr fun n e => by cases e)⟩
  have m : Mono c (c.hid M) (Kill.hide M) (fun _ => False) := ⟨rfl, fun b g hr _ => ⟨hrd b g hr, rfl⟩, fun q r hq hk => ⟨hid_get hq hk, rfl⟩, fun r hr hk => ⟨hid_box_some hr hk, rfl⟩, fun q _ => ⟨rfl, fun g hg _ => ⟨hid_ρ hg (hne g _ hg fun n e => by cases e), rfl⟩⟩⟩
  refine ⟨⟨⟨fun y => ?_, fun r cs' hb' => ?_, fun j r hg => ?_⟩, hf.ghost.out, ?_⟩, rfl, rfl, rfl, Nat.le_refl _, fun g hg hst => ⟨?_, rfl⟩, rfl, fun _ => rfl, fun _ => rfl⟩
  · exact VR.mono m _ _ _ (fun _ _ _ h => h) (hs.slots y)
  · obtain ⟨hr, cs, h1, rfl⟩ := hid_box hb'
    obtain ⟨vs, T, h2, h3, h4, h5⟩ := (hs.boxes r cs h1).out
    refine ⟨vs, T, by rw [isM_kills]; exact h2, hid_ρ h3 ?_, by rw [len_kills]; exact h4, fun i d v hd hv => ?_⟩
    · show c.isM M (c.β r) = false
      cases hg : c.isM M (c.β r) with
      | false => rfl
      | true =>
        obtain ⟨n, hn, _, h6, _⟩ := hid_box_ρ hs h hg
        have e : Role.box r = .box (.loc n) := h3.symm.trans h6
        cases e
        exact (hr n hn rfl).elim
    · rw [get_kills] at hd
      simp only [Option.map_eq_some_iff] at hd
      obtain ⟨d0, hd0, rfl⟩ := hd
      obtain ⟨h6, h7, h8⟩ := h5 i d0 v hd0 hv
      exact ⟨VR.mono m _ _ _ (fun _ _ _ h => h) h6, h7, kill_isCell h8⟩
  · have hg' : c.s.get (.lent j) = some r := hg
    exact (hs.lent j r hg').mono m (fun h => h)
  · show ((c.s.t X).kill (Kill.hide M)).hasOwn = false
    rw [hasOwn_kill]
    exact hf.ghost.own
  · refine hid_ρ rfl (hne g _ rfl fun n e => ?_)
    rw [e] at hst
    exact hst
theorem isJunk_eq {d : D} (h : isJunk d = true) : d = .junk := by
  unfold isJunk at h
  split at h
  · rfl
  · cases h
/-- They are seen again. -/
def Cx.shown (c c' : Cx) (M : List Nat) (dst : Option Nat) : Cx :=
  { c' with
    ρ := fun g => match c.isM M g with | true => c.ρ g | false => c'.ρ g
    β := fun r => match r with | .loc n => (match memN n M with | true => c.β (.loc n) | false => c'.β (.loc n)) | .up n => c'.β (.up n)
    s := c'.s.shown M dst c.s }
theorem shown_t {M : List Nat} {dst : Option Nat} {s0 s : St} (y : Nat) : (s.shown M dst s0).t y = s.t y ∨ ∃ n o, n ∈ M ∧ s0.t y = .ptr (.loc n) o ∧ s.t y = .junk ∧ dst ≠ some y ∧ (s.shown M dst s0).t y = .ptr (.loc n) o := by
  simp only [St.shown]
  split
  · rename_i n o e
    split
    · rename_i hc
      simp only [Bool.and_eq_true] at hc
      refine .inr ⟨n, o, memN_iff.1 hc.1.1, by rw [e], isJunk_eq hc.1.2, fun hd => ?_, rfl⟩
      rw [hd] at hc
      have := hc.2
      simp at this
    · exact .inl rfl
  · exact .inl rfl
theorem shown_sound {M : List Nat} {c' : Cx} {a' : Act} {v : Value} (hf : Fr X c a) (h : hidOK M c.s = true) (he : Ext (c.hid M) c') (hf' : Fr X c' a') (hsz : a'.tmps.size = a.tmps.size) (htm : a'.tmps = (a.put o.dst v).tmps)
    (hno : M.all (fun n => (c'.s.b n).isNone) = true) : Fr X (c.shown c' M o.dst) a' ∧ Ext c (c.shown c' M o.dst) := by
  have hs := hf.sim
  have hs' := hf'.sim
  have hnone : ∀ n ∈ M, c'.s.b n = none := fun n hn => by simpa using (List.all_eq_true.1 hno) n hn
  have hoth : ∀ g, c.isM M g = true → c'.ρ g = .oth ∧ c'.W.heap[g]? = c.W.heap[g]? := fun g hg => by
    obtain ⟨n, _, _, _, hlt⟩ := hid_box_ρ hs h hg
    have hr : (c.hid M).ρ g = .oth := by
      show (match c.isM M g with | true => Role.oth | false => c.ρ g) = .oth
      rw [hg]
    obtain ⟨h1, h2⟩ := he.keep g hlt (by rw [hr]; trivial)
    exact ⟨h1.trans hr, h2⟩
  have hne : ∀ g r, c'.ρ g = r → r ≠ .oth → c.isM M g = false := fun g r hr hn => by
    cases hg : c.isM M g with
    | false => rfl
    | true => exact (hn (hr.symm.trans (hoth g hg).1)).elim
  have hρ : ∀ g r, c'.ρ g = r → r ≠ .oth → (c.shown c' M o.dst).ρ g = r := fun g r hr hn => by
    show (match c.isM M g with | true => c.ρ g | false => c'.ρ g) = r
    rw [hne g r hr hn]; exact hr
  have hrd : ∀ b g, Rd c'.ρ b g → Rd (c.shown c' M o.dst).ρ b g := fun b g hr => by
    rcases hr with hr | ⟨h1, hr⟩
    · exact .inl (hρ g _ hr (fun e => by cases e))
    · exact .inr ⟨h1, hρ g _ hr (fun e => by cases e)⟩
  have hmem : ∀ n, memN n M = true → c'.s.b n = none := fun n hn => hnone n (memN_iff.1 hn)
  have hbox : ∀ r cs, c'.s.box r = some cs → (c.shown c' M o.dst).s.box r = some cs ∧ (c.shown c' M o.dst).β r = c'.β r := fun r cs hb => by
    cases r with
    | loc n =>
      have hb : c'.s.b n = some cs := hb
      have hm : memN n M = false := by
        cases hm : memN n M with
        | false => rfl
        | true => rw [hmem n hm] at hb; cases hb
      refine ⟨?_, ?_⟩
      · show (match memN n M with | true => c.s.b n | false => c'.s.b n) = some cs
        rw [hm]; exact hb
      · show (match memN n M with | true => c.β (.loc n) | false => c'.β (.loc n)) = _
        rw [hm]
    | up n => exact ⟨hb, rfl⟩
  have hget : ∀ q r, c'.s.get q = some r → (c.shown c' M o.dst).s.get q = some r := fun q r hq => by
    cases q with
    | slot y l =>
      show (D.at_ l ((c'.s.shown M o.dst c.s).t y)).row? = _
      have hq' : (D.at_ l (c'.s.t y)).row? = some r := hq
      rcases shown_t (M := M) (dst := o.dst) (s0 := c.s) (s := c'.s) y with e | ⟨n, k, _, _, e, _, _⟩
      · rw [e]; exact hq'
      · rw [e] at hq'
        cases l <;> cases hq'
    | cell r0 k =>
      simp only [St.get, Option.bind_eq_some_iff] at hq ⊢
      obtain ⟨cs, h1, d, h2, h3⟩ := hq
      exact ⟨cs, (hbox r0 cs h1).1, d, h2, h3⟩
    | lent j => exact hq
  have m : Mono c' (c.shown c' M o.dst) Kill.none (fun _ => False) := ⟨rfl, fun b g hr _ => ⟨hrd b g hr, rfl⟩, fun q r hq _ => ⟨hget q r hq, rfl⟩, fun r hr _ => (by
    obtain ⟨cs, hcs⟩ := Option.isSome_iff_exists.1 hr
    obtain ⟨h1, h2⟩ := hbox r cs hcs
    exact ⟨by rw [h1]; rfl, h2⟩), fun q _ => ⟨rfl, fun g hg _ => ⟨hρ g _ hg (fun e => by cases e), rfl⟩⟩⟩
  have hMbox : ∀ n ∈ M, (c.shown c' M o.dst).s.box (.loc n) = c.s.b n ∧ (c.shown c' M o.dst).β (.loc n) = c.β (.loc n) := fun n hn => by
    have hm := memN_iff.2 hn
    refine ⟨?_, ?_⟩
    · show (match memN n M with | true => c.s.b n | false => c'.s.b n) = _
      rw [hm]
    · show (match memN n M with | true => c.β (.loc n) | false => c'.β (.loc n)) = _
      rw [hm]
  refine ⟨⟨⟨fun y => ?_, fun r cs hb => ?_, fun j r hg => ?_⟩, hf'.ghost.out, ?_⟩, ?_⟩
  · show VR _ _ ((c'.s.shown M o.dst c.s).t y) _
    rcases shown_t (M := M) (dst := o.dst) (s0 := c.s) (s := c'.s) y with e | ⟨n, k, hn, e0, _, hd, e⟩
    · rw [e]
      exact VR.same m (fun _ _ _ h => h) (hs'.slots y)
    · rw [e]
      obtain ⟨h1, h2⟩ := hMbox n hn
      obtain ⟨_, cs, hcs, _⟩ := hidOK_at h hn
      have hv := hs.slots y
      rw [e0] at hv
      have et : a'.tmps.getD y undef = a.tmps.getD y undef := by
        rw [htm]
        cases hdd : o.dst with
        | none => rfl
        | some x =>
          have hxy : x ≠ y := fun e => hd (by rw [hdd, e])
          simp [Act.put, Array.getD_eq_getD_getElem?, Array.getElem?_setIfInBounds_ne hxy]
      refine ⟨by rw [h1, hcs]; rfl, ?_⟩
      rw [et, h2]
      exact hv.2
  · by_cases hr : ∃ n ∈ M, r = .loc n
    · obtain ⟨n, hn, rfl⟩ := hr
      obtain ⟨h1, h2⟩ := hMbox n hn
      rw [h1] at hb
      obtain ⟨_, cs', hcs, hdat⟩ := hidOK_at h hn
      rw [hcs] at hb
      cases hb
      obtain ⟨vs, T, h3, h4, h5, h6⟩ := (hs.boxes (.loc n) _ hcs).out
      have hM : c.isM M (c.β (.loc n)) = true := isM_iff.2 ⟨n, hn, rfl⟩
      refine ⟨vs, T, ?_, ?_, h5, fun i d v hd hv => ?_⟩
      · rw [h2]
        exact (hoth _ hM).2.trans h3
      · rw [h2]
        show (match c.isM M (c.β (.loc n)) with | true => c.ρ (c.β (.loc n)) | false => c'.ρ (c.β (.loc n))) = _
        rw [hM]
        exact h4
      · obtain ⟨h7, h8, h9⟩ := h6 i d v hd hv
        obtain ⟨x, rfl⟩ := hdat d (List.mem_of_getElem? hd)
        refine ⟨?_, h8, h9⟩
        obtain ⟨cv, h10, h11⟩ := h7
        refine ⟨cv, h10.mono fun b g hr hg => ?_, h11⟩
        have hgM : c.isM M g = false := by
          cases hgM : c.isM M g with
          | false => rfl
          | true =>
            obtain ⟨k, _, _, h12, _⟩ := hid_box_ρ hs h hgM
            rcases hr with hr | ⟨_, hr⟩ <;> (rw [h12] at hr; cases hr)
        have hr1 : Rd (c.hid M).ρ b g := by
          rcases hr with hr | ⟨h1, hr⟩
          · exact .inl (hid_ρ hr hgM)
          · exact .inr ⟨h1, hid_ρ hr hgM⟩
        obtain ⟨h13, h14⟩ := he.rd b g hr1 hg
        exact ⟨hrd b g h13, h14⟩
    · have hbc : c'.s.box r = some cs := by
        cases r with
        | loc n =>
          have hm : memN n M = false := by
            cases hm : memN n M with
            | false => rfl
            | true => exact (hr ⟨n, memN_iff.1 hm, rfl⟩).elim
          have hb' : (match memN n M with | true => c.s.b n | false => c'.s.b n) = some cs := hb
          rw [hm] at hb'
          exact hb'
        | up n => exact hb
      obtain ⟨vs, T, h3, h4, h5, h6⟩ := (hs'.boxes r cs hbc).out
      have hβ := (hbox r cs hbc).2
      refine ⟨vs, T, by rw [hβ]; exact h3, by rw [hβ]; exact hρ _ _ h4 (fun e => by cases e), h5, fun i d v hd hv => ?_⟩
      obtain ⟨h7, h8, h9⟩ := h6 i d v hd hv
      exact ⟨VR.same m (fun _ _ _ h => h) h7, h8, h9⟩
  · have hg' : c'.s.get (.lent j) = some r := hg
    exact (hs'.lent j r hg').mono m (fun h => h)
  · show ((c'.s.shown M o.dst c.s).t X).hasOwn = false
    rcases shown_t (M := M) (dst := o.dst) (s0 := c.s) (s := c'.s) X with e | ⟨n, k, hn, e0, _, hd, e⟩
    · rw [e]; exact hf'.ghost.own
    · rw [e]; rfl
  · refine ⟨he.os, he.tape, he.output, he.size, fun g hg hst => ?_, he.ty, fun n => he.up n, fun j => he.lentH j⟩
    have hgM : c.isM M g = false := by
      cases hgM : c.isM M g with
      | false => rfl
      | true =>
        obtain ⟨k, _, _, h12, _⟩ := hid_box_ρ hs h hgM
        rw [h12] at hst
        exact hst.elim
    have h1 : (c.hid M).ρ g = c.ρ g := hid_ρ rfl hgM
    obtain ⟨h2, h3⟩ := he.keep g hg (by rw [h1]; exact hst)
    refine ⟨?_, h3⟩
    show (match c.isM M g with | true => c.ρ g | false => c'.ρ g) = _
    rw [hgM]
    exact h2.trans h1
end
end Go.Den
namespace Go.Den
open Go Go.RowKit
set_option linter.unusedVariables false
theorem put_junk {s : St} {n : Nat} (h : s.t n = .junk) : s.put n .junk = s := by
  have ho : (s.t n).hasOwn = false := by rw [h]; rfl
  unfold St.put
  rw [ho]
  cases s with
  | mk t b u l =>
    simp only [St.mk.injEq, and_true]
    funext y
    cases hb : Nat.beq y n with
    | true => rw [beq_eq.1 hb]; exact h.symm
    | false => rfl
section
variable {P : Program} {c : Cx} {a : Act} {o : Oper} {X : Nat}
/-- The block comes early: nobody knows of it. -/
theorem early_sound {n : Nat} {ob : Obj} {v : Value} (hf : Fr X c a) (hn : n < a.tmps.size) (hj : c.s.t n = .junk) :
    ∃ c', c'.s = c.s ∧ c'.W = c.W.alloc ob ∧ Fr X c' (a.put (some n) v) ∧ Ext c c' ∧ (∀ g, g < c.W.heap.size → c'.ρ g = c.ρ g) ∧ c'.ρ c.W.heap.size = .oth := by
  let c1 : Cx := { c with ρ := fun g => if g = c.W.heap.size then .oth else c.ρ g, W := c.W.alloc ob }
  have hρ : ∀ g, g < c.W.heap.size → c1.ρ g = c.ρ g := fun g hg => if_neg (by omega)
  have hg : Grown c c1 n := ⟨rfl, rfl, rfl, ⟨rfl, rfl, rfl, by show c.W.heap.size ≤ (c.W.alloc ob).heap.size; simp, fun k hk => Below.heap_alloc c.W ob k hk⟩, hρ, fun _ _ => rfl⟩
  have hsim := hg.put hf.sim hn (d := .junk) (v := v) trivial
  have hne : X ≠ n := Nat.ne_of_gt (Nat.lt_of_lt_of_le hn hf.ghost.out)
  have e := hg.ext
  refine ⟨{ c1 with s := c.s.put n .junk }, put_junk hj, rfl, ⟨hsim, by simpa [Act.put] using hf.ghost.out, put_own hne hf.ghost.own⟩, ⟨e.os, e.tape, e.output, e.size, e.keep, e.ty, e.up, e.lentH⟩, hρ, if_pos rfl⟩
/-- It is known from now on. -/
theorem adopt_sound {tm : Array Value} {n g : Nat} {cs : List D} {vs : List Value} {T : TypeId} (hs : Sim c tm) (hX : Ghost c tm X) (hn : n < tm.size) (hb : c.s.b n = none) (hM : isM cs = false) (hl : vs.length = cs.length)
    (hv : ∀ (i : Nat) (d : D) (v : Value), cs[i]? = some d → vs[i]? = some v → VR c (.slot X [i]) d v ∧ v.oneCell' = true ∧ isCell d = true)
    (hg : c.ρ g = .oth) (hgh : c.W.heap[g]? = some (.cells vs.toArray T (0, 0))) (htm : tm.getD n undef = .pointer (some ⟨g, 0, none⟩)) :
    ∃ c1, c1.W = c.W ∧ c1.s = ((c.s.setBox (.loc n) cs).put n (.ptr (.loc n) 0)) ∧ Sim c1 tm ∧ (∀ c0, Ext c0 c → c0.W.heap.size ≤ g → Ext c0 c1) ∧ (∀ k, k ≠ g → stable (c.ρ k) → c1.ρ k = c.ρ k) ∧ (∀ b k, Rd c1.ρ b k → Rd c.ρ b k) := by
  have hbx : c.s.box (.loc n) = none := hb
  let h := c.home X (toCells (.loc n) 0) (ofCells (.loc n) 0 cs.length)
  let c1 : Cx := { h with ρ := fun k => if k = g then .box (.loc n) else h.ρ k, β := fun r => match r.is (.loc n) with | true => g | false => c.β r, W := c.W, s := c.s.setBox (.loc n) cs }
  have hρ : ∀ k, k ≠ g → c1.ρ k = h.ρ k := fun k hk => if_neg hk
  have hng : ∀ k r, c.ρ k = r → r ≠ .oth → k ≠ g := fun k r hk hr e => hr (by rw [← hk, e, hg])
  have hβ : ∀ r, r ≠ .loc n → c1.β r = c.β r := fun r hr => by
    have : r.is (.loc n) = false := by
      cases e : r.is (.loc n) with
      | true => exact absurd (Ref.is_eq.1 e) hr
      | false => rfl
    simp only [c1, this]
  have hsome : ∀ r, (c.s.box r).isSome = true → r ≠ .loc n := fun r hr e => by rw [e, hbx] at hr; cases hr
  have hget : ∀ q r, c.s.get q = some r → ∀ o, q ≠ .cell (.loc n) o := fun q r hq o e => by
    rw [e] at hq
    simp [St.get, hbx] at hq
  have hH : ∀ q, (∀ o, q ≠ .cell (.loc n) o) → c1.H q = c.H q := fun q hq => by
    have : ofCells (.loc n) 0 cs.length q = none := by
      cases q with
      | cell r o =>
        have : r.is (.loc n) = false := by
          cases e : r.is (.loc n) with
          | true => exact absurd (by rw [Ref.is_eq.1 e]) (hq o)
          | false => rfl
        simp [ofCells, this]
      | _ => rfl
    show h.H q = c.H q
    simp only [h, Cx.home, this]
  have hrd : ∀ b k, Rd c.ρ b k → k < c.W.heap.size → Rd c1.ρ b k ∧ c1.W.heap[k]? = c.W.heap[k]? := fun b k hr hk => ⟨by
    have hkg : k ≠ g := by
      rcases hr with hr | ⟨_, hr⟩
      · exact hng k _ hr (fun e => by cases e)
      · exact hng k _ hr (fun e => by cases e)
    unfold Rd
    rw [hρ k hkg]
    exact Cx.home_rd b k hr, rfl⟩
  have hbs : ∀ r, r ≠ .loc n → c1.s.box r = c.s.box r := fun r hr => box_setBox hr
  have m : Mono c c1 Kill.none (fun q => (∃ o, q = .cell (.loc n) o) ∨ Under X q) := by
    refine ⟨rfl, hrd, fun q r hq _ => ⟨?_, hH q (hget q r hq)⟩, fun r hr _ => ⟨by rw [hbs r (hsome r hr)]; exact hr, hβ r (hsome r hr)⟩, fun q hq => ⟨hH q (fun o e => hq (.inl ⟨o, e⟩)), fun k hk hlt => ⟨?_, rfl⟩⟩⟩
    · cases q with
      | slot y l => show ((D.at_ l ((c.s.setBox (.loc n) cs).t y)).row? = _); rw [setBox_tl.1]; exact hq
      | cell r' o =>
        have hne : r' ≠ .loc n := fun e => hget _ r hq o (by rw [e])
        simp only [St.get] at hq ⊢
        rw [hbs r' hne]
        exact hq
      | lent j => simp only [St.get] at hq ⊢; rw [show c1.s.l = c.s.l from setBox_tl.2]; exact hq
    · rw [hρ k (hng k _ hk (fun e => by cases e)), Cx.home_ρ k (fun l e => by rw [hk] at e; injection e with e; exact hq (.inr ⟨l, e⟩))]
      exact hk
  have hb1 : c1.β (.loc n) = g := by
    have : (Ref.loc n).is (.loc n) = true := Ref.is_eq.2 rfl
    simp only [c1, this]
  have hnew : BoxOK c1 (.loc n) cs := by
    refine ⟨vs, ⟨T, fun _ => 0⟩, ?_, ?_, hl, fun i d v hd hvv => ?_⟩
    · rw [hb1, hM]
      exact hgh
    · rw [hb1]
      exact if_pos rfl
    · obtain ⟨h1, h2, h3⟩ := hv i d v hd hvv
      refine ⟨?_, h2, h3⟩
      have hlt : i < cs.length := (List.getElem?_eq_some_iff.1 hd).1
      refine home_vr (c := c) (c1 := c1) (sl := false) (X := X) (fwd := fun l => match l with | [j] => if j < cs.length then some (.cell (.loc n) j) else none | _ => none) ⟨rfl, hrd, fun l q hl' => ?_, fun r hr => ⟨by rw [hbs r (hsome r hr)]; exact hr, hβ r (hsome r hr)⟩, fun q r hf => by cases hf⟩ d [i] (.cell (.loc n) i) v (by cases d <;> simp [isCell] at h3 <;> rfl) h1 (fun l r hr => ?_)
      · split at hl'
        · rename_i j
          split at hl'
          · rename_i hj
            cases hl'
            refine ⟨?_, fun k hk hlt => ⟨?_, rfl⟩⟩
            · have : ofCells (.loc n) 0 cs.length (.cell (.loc n) j) = some [j] := by
                have e1 : (Ref.loc n).is (.loc n) = true := Ref.is_eq.2 rfl
                have e2 : Nat.ble 0 j = true := by simp
                have e3 : Nat.blt j (0 + cs.length) = true := by simp [Nat.blt]; omega
                simp only [ofCells, e1, e2, e3, Bool.and_self, Nat.sub_zero]
              show h.H _ = _
              simp only [h, Cx.home, this]
            · rw [hρ k (hng k _ hk (fun e => by cases e))]
              exact Cx.home_row hk (by simp [toCells])
          · cases hl'
        · cases hl'
      · cases l with
        | nil => simp [hlt, Pl.subs]
        | cons j l => cases d <;> simp [D.at_, D.row?, isCell] at hr h3
  have hsim : Sim c1 tm := by
    refine Sim.setBox (r := .loc n) (cs := cs) (K := Kill.none) hs m (fun _ => rfl) (by rw [killed_none]) (fun q r' hq e => ?_) (fun r' hne hr' => ?_) hnew
    · rcases e with ⟨o, e⟩ | e
      · exact ⟨o, e⟩
      · exact (hX.get hq e).elim
    · obtain ⟨cs', hb'⟩ := Option.isSome_iff_exists.1 hr'
      have hlt := (hs.boxes r' cs' hb').lt
      obtain ⟨vs', T', h1, h2, _⟩ := (hs.boxes r' cs' hb').out
      refine ⟨?_, rfl⟩
      rw [hρ _ (hng _ _ h2 (fun e => by cases e)), Cx.home_ρ _ (fun l e => by rw [h2] at e; cases e)]
      exact h2
  have htm' : tm.setIfInBounds n (.pointer (some ⟨g, 0, none⟩)) = tm := by
    apply Array.ext (by simp)
    intro i h1 h2
    by_cases e : n = i
    · subst e
      simp only [Array.getElem_setIfInBounds_self]
      rw [← htm]
      simp [Array.getD, h2]
    · rw [Array.getElem_setIfInBounds_ne h2 e]
  refine ⟨{ c1 with s := c1.s.put n (.ptr (.loc n) 0) }, rfl, rfl, ?_, fun c0 he hlt => ?_, fun k hk hst => ?_, fun b k hr => ?_⟩
  · have := Sim.put (c1 := c1) (x := n) (d := .ptr (.loc n) 0) (v := .pointer (some ⟨g, 0, none⟩)) hsim hn rfl ⟨rfl, fun b g h _ => ⟨h, rfl⟩, fun q r h _ => ⟨h, rfl⟩, fun r h _ => ⟨h, rfl⟩, fun q _ => ⟨rfl, fun g h _ => ⟨h, rfl⟩⟩⟩ (fun r _ => ⟨rfl, rfl, rfl⟩) ⟨by
      show ((c.s.setBox (.loc n) cs).box (.loc n)).isSome = true
      have hb2 : Nat.beq n n = true := beq_eq.2 rfl
      simp only [St.setBox, St.box, hb2]
      rfl, by rw [hb1]⟩
    rwa [htm'] at this
  · refine ⟨he.os, he.tape, he.output, he.size, fun k hk hst => ?_, he.ty, fun k => (hβ (.up k) (fun e => by cases e)).trans (he.up k), fun j => ?_⟩
    · obtain ⟨h1, h2⟩ := he.keep k hk hst
      refine ⟨?_, h2⟩
      show c1.ρ k = _
      rw [hρ k (by omega), ← h1]
      exact Cx.home_stable (by rw [h1]; exact hst)
    · show h.H (.lent j) = _
      exact (hH (.lent j) (fun o e => by cases e)).trans (he.lentH j)
  · show c1.ρ k = _
    rw [hρ k hk]
    exact Cx.home_stable hst
  · have hr' : Rd c1.ρ b k := hr
    have hkg : k ≠ g := fun e => by
      subst e
      have h1 : c1.ρ k = .box (.loc n) := if_pos rfl
      rcases hr' with hr | ⟨_, hr⟩ <;> (rw [h1] at hr; cases hr)
    unfold Rd at hr' ⊢
    rw [hρ k hkg] at hr'
    have hback : ∀ r, h.ρ k = r → (r = .set ∨ r = .out) → c.ρ k = r := fun r hk hr => by
      simp only [h, Cx.home] at hk
      split at hk
      · split at hk
        · split at hk <;> (rcases hr with hr | hr <;> (rw [← hk] at hr; cases hr))
        · rcases hr with hr | hr <;> (rw [← hk] at hr; cases hr)
      · exact hk
    rcases hr' with hr | ⟨h1, hr⟩
    · exact .inl (hback _ hr (.inl rfl))
    · exact .inr ⟨h1, hback _ hr (.inr rfl)⟩
end
end Go.Den
namespace Go.Den
open Go Go.RowKit
set_option linter.unusedVariables false
def allocsOf : List PRow → List Nat
  | [] => []
  | (i, k, _) :: l => match Nat.beq k 3 with | true => i :: allocsOf l | false => allocsOf l
def setAll (L : Array Bool) : List Nat → Array Bool
  | [] => L
  | i :: l => setAll (L.setIfInBounds i true) l
def flagged (l : List PRow) (j : Nat) : Bool := !(l.any fun r => Nat.beq r.1 j && Nat.beq r.2.1 2)
def dstIs (o : Oper) (n : Nat) : Bool := match o.dst with | some m => Nat.beq m n | none => false
def dstsOK (ops : Array Oper) : Bool :=
  (List.range ops.size).all fun i => (List.range ops.size).all fun j => Nat.beq i j || match ops[i]?, ops[j]? with
    | some x, some y => (match x.dst with | some n => !dstIs y n | none => true)
    | _, _ => true
def allocOK (ty : Nat → Option TI) (ops : Array Oper) (ds : List Nat) (i : Nat) : Bool :=
  match ops[i]? with
  | some o => (match o.op, o.dst, o.guard with | .alloc t, some n, none => memN n ds && (ty t).isSome | _, _, _ => false)
  | none => false
def on? (D : List Nat) (i : Nat) (o : Oper) : Bool := o.after.any fun e => Region.binds .any e && (Nat.beq e.on i || memN e.on D)
/-- What must come behind i. -/
def behind (ops : Array Oper) (i : Nat) : List Nat → List Nat → List Nat
  | [], D => D
  | j :: l, D => behind ops i l (match ops[j]? with | some o => (match on? D i o with | true => j :: D | false => D) | none => D)
def behindOK (ops : Array Oper) (L : Array Bool) (i : Nat) (A D : List Nat) : Bool :=
  (D.all fun j => (match ops[j]? with | some o => on? D i o | none => true) && (!L.getD j false && !memN j A))
def freeOK (ops : Array Oper) (L : Array Bool) (i : Nat) (D : List Nat) : Bool :=
  match ops[i]? with
  | none => false
  | some oi => (List.range ops.size).all fun j => Nat.beq j i || (L.getD j true || (memN j D || match ops[j]? with | some oj => oi.apart ops oj | none => true))
def lateOK (ops : Array Oper) (fl : Nat → Bool) (L : Array Bool) (i : Nat) (D : List Nat) : Bool :=
  (List.range ops.size).all fun j => Nat.beq j i || (L.getD j true || (memN j D || fl j))
def calmOK (ops : Array Oper) (L : Array Bool) (i : Nat) (A : List Nat) : Bool := behindOK ops L i A (behind ops i (List.range ops.size) []) && freeOK ops L i (behind ops i (List.range ops.size) [])
def aloneOK (ops : Array Oper) (L : Array Bool) (i : Nat) (l : List PRow) : Bool := (Region.ready .any ops (setAll L (allocsOf l))).all (Nat.beq i)
def rowOK (ops : Array Oper) (fl : Nat → Bool) (L : Array Bool) (i k : Nat) (l : List PRow) : Bool :=
  match k with
  | 0 => calmOK ops L i (allocsOf l)
  | 1 => calmOK ops L i (allocsOf l) && lateOK ops fl L i (behind ops i (List.range ops.size) [])
  | 2 => aloneOK ops L i l && !fl i
  | _ => aloneOK ops L i l
def planGo (ty : Nat → Option TI) (ops : Array Oper) (fl : Nat → Bool) : Array Bool → List PRow → Bool
  | L, [] => (Region.ready .any ops L).isEmpty
  | L, (i, k, ds) :: l => ((Region.ready .any ops L).contains i && (!(l.any fun r => Nat.beq r.1 i) && (allocsOf ((i, k, ds) :: l)).all (allocOK ty ops ds))) && (rowOK ops fl L i k l && planGo ty ops fl (L.setIfInBounds i true) l)
def planOK (ty : Nat → Option TI) (ops : Array Oper) (p : Plan) : Bool :=
  (Region.noSelect ops && (dstsOK ops && Nat.ble p.2.length ops.size)) && ((match p.1 with | some M => ops.all (fun o => M.all fun n => !dstIs o n) | none => true) && planGo ty ops (flagged p.2) (Array.replicate ops.size false) p.2)
/-- Some have come up early. -/
def Sup (L listed : Array Bool) (A : List Nat) : Prop := ∀ j : Nat, listed[j]? = (L[j]?).map (· || memN j A)
theorem memN_cons {a x : Nat} {l : List Nat} : memN x (a :: l) = (Nat.beq x a || memN x l) := by
  cases h : memN x (a :: l) with
  | true =>
    have := memN_iff.1 h
    rcases List.mem_cons.1 this with e | e
    · simp [beq_eq.2 e]
    · simp [memN_iff.2 e]
  | false =>
    cases h2 : Nat.beq x a with
    | true => rw [memN_iff.2 (by rw [beq_eq.1 h2]; simp)] at h; cases h
    | false =>
      cases h3 : memN x l with
      | true => rw [memN_iff.2 (List.mem_cons_of_mem _ (memN_iff.1 h3))] at h; cases h
      | false => rfl
theorem Sup.refl (L : Array Bool) : Sup L L [] := fun j => by simp [memN]
theorem getElem?_set (L : Array Bool) (i j : Nat) : (L.setIfInBounds i true)[j]? = if i = j then (L[j]?).map (fun _ => true) else L[j]? := by
  by_cases h : i = j
  · subst h
    rw [if_pos rfl]
    by_cases hl : i < L.size
    · simp [hl]
    · rw [Array.getElem?_eq_none (by simp; omega), Array.getElem?_eq_none (by omega)]; rfl
  · rw [if_neg h, Array.getElem?_setIfInBounds_ne h]
theorem Sup.set {L listed : Array Bool} {A : List Nat} (h : Sup L listed A) (i : Nat) : Sup (L.setIfInBounds i true) (listed.setIfInBounds i true) A := fun j => by
  rw [getElem?_set, getElem?_set, h j]
  by_cases e : i = j
  · simp [e]
    cases L[j]? <;> rfl
  · simp [e]
theorem Sup.early {L listed : Array Bool} {A : List Nat} (h : Sup L listed A) (i : Nat) : Sup L (listed.setIfInBounds i true) (i :: A) := fun j => by
  rw [getElem?_set, h j]
  by_cases e : i = j
  · have hb : Nat.beq j i = true := beq_eq.2 e.symm
    simp only [e, if_true, memN_cons]
    rw [show Nat.beq j j = true from beq_eq.2 rfl]
    cases L[j]? <;> simp
  · have hb : Nat.beq j i = false := beq_ne.2 (fun h => e h.symm)
    simp [e, memN_cons, hb]
theorem Sup.adopt {L listed : Array Bool} {A : List Nat} (h : Sup L listed A) {i : Nat} (hi : memN i A = true) : Sup (L.setIfInBounds i true) listed (A.filter fun j => !Nat.beq j i) := fun j => by
  rw [getElem?_set, h j]
  by_cases e : i = j
  · subst e
    simp only [if_true, hi]
    cases L[i]? <;> simp
  · have hb : Nat.beq j i = false := beq_ne.2 (fun h => e h.symm)
    rw [if_neg e]
    have : memN j (A.filter fun j => !Nat.beq j i) = memN j A := by
      cases h1 : memN j A with
      | true => exact memN_iff.2 (List.mem_filter.2 ⟨memN_iff.1 h1, by simp [hb]⟩)
      | false =>
        cases h2 : memN j (A.filter fun j => !Nat.beq j i) with
        | false => rfl
        | true => rw [memN_iff.2 (List.mem_filter.1 (memN_iff.1 h2)).1] at h1; cases h1
    rw [this]
theorem setAll_sup : ∀ (B : List Nat) (L : Array Bool), Sup L (setAll L B) B
  | [], L => Sup.refl L
  | i :: B, L => fun j => by
    have := setAll_sup B (L.setIfInBounds i true) j
    simp only [setAll]
    rw [this, getElem?_set]
    by_cases e : i = j
    · subst e
      simp only [if_true, memN_cons, show Nat.beq i i = true from beq_eq.2 rfl]
      cases L[i]? <;> simp
    · have hb : Nat.beq j i = false := beq_ne.2 (fun h => e h.symm)
      simp [e, memN_cons, hb]
theorem Sup.un {L listed : Array Bool} {A : List Nat} (h : Sup L listed A) {j : Nat} (hu : listed.getD j true = false) : L.getD j true = false ∧ memN j A = false := by
  rw [Array.getD_eq_getD_getElem?, h j] at hu
  rw [Array.getD_eq_getD_getElem?]
  cases hL : L[j]? with
  | none => rw [hL] at hu; cases hu
  | some b =>
    rw [hL] at hu
    simp at hu ⊢
    exact hu
theorem Sup.un' {L listed : Array Bool} {A : List Nat} (h : Sup L listed A) {j : Nat} (hu : L.getD j true = false) (hA : memN j A = false) : listed.getD j true = false := by
  rw [Array.getD_eq_getD_getElem?] at hu
  rw [Array.getD_eq_getD_getElem?, h j]
  cases hL : L[j]? with
  | none => rw [hL] at hu; cases hu
  | some b =>
    rw [hL] at hu
    simp at hu ⊢
    exact ⟨hu, hA⟩
theorem Sup.on {L listed : Array Bool} {A : List Nat} (h : Sup L listed A) {j : Nat} (hu : L.getD j false = true) : listed.getD j false = true := by
  rw [Array.getD_eq_getD_getElem?] at hu
  rw [Array.getD_eq_getD_getElem?, h j]
  cases hL : L[j]? with
  | none => rw [hL] at hu; cases hu
  | some b =>
    rw [hL] at hu
    simp at hu ⊢
    exact .inl hu
theorem ready_up {md : Region.Mode} {ops : Array Oper} {L listed : Array Bool} {A : List Nat} (h : Sup L listed A) {j : Nat} (hj : j ∈ Region.ready md ops L) (hA : memN j A = false) : j ∈ Region.ready md ops listed := by
  obtain ⟨h1, o, ho, h2⟩ := mem_ready.1 hj
  exact mem_ready.2 ⟨h.un' h1 hA, o, ho, fun e he hb => h.on (h2 e he hb)⟩
theorem ready_dn {md : Region.Mode} {ops : Array Oper} {L listed : Array Bool} {A B : List Nat} (h : Sup L listed A) (hAB : ∀ k, memN k A = true → memN k B = true) {j : Nat} (hj : j ∈ Region.ready md ops listed) : memN j B = true ∨ j ∈ Region.ready md ops (setAll L B) := by
  cases hB : memN j B with
  | true => exact .inl rfl
  | false =>
    right
    obtain ⟨h1, o, ho, h2⟩ := mem_ready.1 hj
    have hs := setAll_sup B L
    refine mem_ready.2 ⟨hs.un' (h.un h1).1 hB, o, ho, fun e he hb => ?_⟩
    have h3 := h2 e he hb
    rw [Array.getD_eq_getD_getElem?, h e.on] at h3
    rw [Array.getD_eq_getD_getElem?, hs e.on]
    cases hL : L[e.on]? with
    | none => rw [hL] at h3; cases h3
    | some b =>
      rw [hL] at h3
      simp at h3 ⊢
      rcases h3 with h3 | h3
      · exact .inl h3
      · exact .inr (hAB _ h3)
/-- How many are still to come. -/
def still (A : List Nat) (l : List PRow) : Nat := l.countP fun r => !memN r.1 A
theorem still_cons {A : List Nat} {i k : Nat} {ds : List Nat} {l : List PRow} : still A ((i, k, ds) :: l) = still A l + (match memN i A with | true => 0 | false => 1) := by
  unfold still
  rw [List.countP_cons]
  cases memN i A <;> rfl
theorem still_mono {A B : List Nat} (h : ∀ k, memN k A = true → memN k B = true) (l : List PRow) : still B l ≤ still A l := by
  unfold still
  refine List.countP_mono_left fun r _ hr => ?_
  cases hA : memN r.1 A with
  | false => rfl
  | true => rw [h _ hA] at hr; cases hr
theorem still_early {A : List Nat} {j : Nat} (hj : memN j A = false) : ∀ {l : List PRow}, (∃ r ∈ l, r.1 = j) → still (j :: A) l + 1 ≤ still A l
  | [], h => by obtain ⟨r, h, _⟩ := h; cases h
  | (i, k, ds) :: l, h => by
    rw [still_cons, still_cons]
    have hm := still_mono (A := A) (B := j :: A) (fun k hk => by rw [memN_cons, hk]; simp) l
    by_cases e : i = j
    · subst e
      have h1 : memN i (i :: A) = true := memN_iff.2 (by simp)
      rw [h1, hj]
      simp only
      omega
    · have h2 : ∃ r ∈ l, r.1 = j := by
        obtain ⟨r, hr, hrj⟩ := h
        rcases List.mem_cons.1 hr with rfl | hr
        · exact (e hrj).elim
        · exact ⟨r, hr, hrj⟩
      have ih := still_early hj h2
      have hb : Nat.beq i j = false := beq_ne.2 e
      have : memN i (j :: A) = memN i A := by rw [memN_cons, hb]; rfl
      rw [this]
      omega
theorem still_adopt {A : List Nat} {i : Nat} {l : List PRow} (h : l.any (fun r => Nat.beq r.1 i) = false) : still (A.filter fun j => !Nat.beq j i) l ≤ still A l := by
  unfold still
  refine Nat.le_of_eq (List.countP_congr fun r hr => ?_)
  have hne : Nat.beq r.1 i = false := by
    have := (List.any_eq_false.1 h) r hr
    cases hb : Nat.beq r.1 i with
    | false => rfl
    | true => exact (this hb).elim
  have : memN r.1 (A.filter fun j => !Nat.beq j i) = memN r.1 A := by
    cases h1 : memN r.1 A with
    | true => exact memN_iff.2 (List.mem_filter.2 ⟨memN_iff.1 h1, by simp [hne]⟩)
    | false =>
      cases h2 : memN r.1 (A.filter fun j => !Nat.beq j i) with
      | false => rfl
      | true => rw [memN_iff.2 (List.mem_filter.1 (memN_iff.1 h2)).1] at h1; cases h1
  rw [this]
theorem allocsOf_mem : ∀ {l : List PRow} {j : Nat}, j ∈ allocsOf l → ∃ r ∈ l, r.1 = j
  | (i, k, ds) :: l, j, h => by
    unfold allocsOf at h
    split at h
    · rcases List.mem_cons.1 h with rfl | h
      · exact ⟨_, List.mem_cons_self, rfl⟩
      · obtain ⟨r, hr, e⟩ := allocsOf_mem h
        exact ⟨r, List.mem_cons_of_mem _ hr, e⟩
    · obtain ⟨r, hr, e⟩ := allocsOf_mem h
      exact ⟨r, List.mem_cons_of_mem _ hr, e⟩
theorem allocOK_at {ty : Nat → Option TI} {ops : Array Oper} {ds : List Nat} {j : Nat} (h : allocOK ty ops ds j = true) : ∃ o t n i, ops[j]? = some o ∧ o.op = .alloc t ∧ o.dst = some n ∧ o.guard = none ∧ n ∈ ds ∧ ty t = some i := by
  unfold allocOK at h
  split at h
  · rename_i o ho
    split at h
    · rename_i t n h1 h2 h3
      simp only [Bool.and_eq_true] at h
      obtain ⟨i, hi⟩ := Option.isSome_iff_exists.1 h.2
      exact ⟨o, t, n, i, ho, h1, h2, h3, memN_iff.1 h.1, hi⟩
    · cases h
  · cases h
theorem allJunk_at {s : St} : ∀ {ds : List Nat}, allJunk s ds = true → ∀ n ∈ ds, s.t n = .junk
  | [], h, n, hn => by cases hn
  | m :: ds, h, n, hn => by
    have h' : (isJunk (s.t m) && allJunk s ds) = true := h
    simp only [Bool.and_eq_true] at h'
    rcases List.mem_cons.1 hn with rfl | hn
    · exact isJunk_eq h'.1
    · exact allJunk_at h'.2 n hn
theorem dstsOK_at {ops : Array Oper} (h : dstsOK ops = true) {i j : Nat} {x y : Oper} {n : Nat} (hi : ops[i]? = some x) (hj : ops[j]? = some y) (hne : i ≠ j) (hx : x.dst = some n) : y.dst ≠ some n := by
  intro hy
  have hil := (Array.getElem?_eq_some_iff.1 hi).1
  have hjl := (Array.getElem?_eq_some_iff.1 hj).1
  have h1 := (List.all_eq_true.1 h) i (List.mem_range.2 hil)
  have h2 := (List.all_eq_true.1 h1) j (List.mem_range.2 hjl)
  rw [hi, hj, beq_ne.2 hne] at h2
  simp only [hx, dstIs, hy, Bool.false_or] at h2
  rw [show Nat.beq n n = true from beq_eq.2 rfl] at h2
  cases h2
theorem lateOK_at {ops : Array Oper} {fl : Nat → Bool} {L : Array Bool} {i : Nat} {D : List Nat} (h : lateOK ops fl L i D = true) {j : Nat} {oj : Oper} (hj : ops[j]? = some oj) (hne : j ≠ i) (hun : L.getD j true = false) (hno : memN j D = false) : fl j = true := by
  have h1 := (List.all_eq_true.1 h) j (List.mem_range.2 (Array.getElem?_eq_some_iff.1 hj).1)
  rw [beq_ne.2 hne, hun, hno] at h1
  simpa using h1
theorem freeOK_at {ops : Array Oper} {L : Array Bool} {i : Nat} {oi : Oper} {D : List Nat} (hi : ops[i]? = some oi) (h : freeOK ops L i D = true) {j : Nat} {oj : Oper} (hj : ops[j]? = some oj) (hne : j ≠ i) (hun : L.getD j true = false) (hno : memN j D = false) : oi.apart ops oj = true := by
  unfold freeOK at h
  rw [hi] at h
  have h1 := (List.all_eq_true.1 h) j (List.mem_range.2 (Array.getElem?_eq_some_iff.1 hj).1)
  rw [beq_ne.2 hne, hun, hno, hj] at h1
  simpa using h1
theorem behindOK_at {ops : Array Oper} {L : Array Bool} {i : Nat} {A D : List Nat} (h : behindOK ops L i A D = true) {j : Nat} (hD : memN j D = true) : (∀ oj, ops[j]? = some oj → ∃ e ∈ oj.after, Region.binds .any e = true ∧ (e.on = i ∨ memN e.on D = true)) ∧ L.getD j false = false ∧ memN j A = false := by
  have h1 := (List.all_eq_true.1 h) j (memN_iff.1 hD)
  simp only [Bool.and_eq_true, Bool.not_eq_true'] at h1
  refine ⟨fun oj hoj => ?_, h1.2.1, h1.2.2⟩
  rw [hoj] at h1
  obtain ⟨e, he, hb⟩ := Array.any_eq_true'.1 h1.1
  simp only [Bool.and_eq_true, Bool.or_eq_true] at hb
  refine ⟨e, he, hb.1, ?_⟩
  rcases hb.2 with h | h
  · exact .inl (beq_eq.1 h)
  · exact .inr h
theorem Sup.onL {L listed : Array Bool} {A : List Nat} (h : Sup L listed A) {j : Nat} (hu : listed.getD j false = true) : L.getD j false = true ∨ memN j A = true := by
  rw [Array.getD_eq_getD_getElem?, h j] at hu
  rw [Array.getD_eq_getD_getElem?]
  cases hL : L[j]? with
  | none => rw [hL] at hu; cases hu
  | some b =>
    rw [hL] at hu
    simpa using hu
end Go.Den
namespace Go.Den
open Go Go.RowKit
set_option linter.unusedVariables false
variable {B : Nat → Option Obj}
/-- The blocks that stay as they are while loads are about. -/
def Gd (c0 : Cx) (a0 : Act) : Option (List Nat) → Nat → Prop
  | none, _ => True
  | some M, g => (g < c0.W.heap.size ∧ stable (c0.ρ g)) ∨ ∃ n ∈ M, a0.tmps.getD n undef = .pointer (some ⟨g, 0, none⟩)
def RG (G : Nat → Prop) (w w' : World) : Prop := w.heap.size ≤ w'.heap.size ∧ ∀ g, g < w.heap.size → G g → w'.heap[g]? = w.heap[g]?
theorem RG.refl {G : Nat → Prop} (w : World) : RG G w w := ⟨Nat.le_refl _, fun _ _ _ => rfl⟩
theorem RG.trans {G : Nat → Prop} (a b c : World) (h : RG G a b) (k : RG G b c) : RG G a c :=
  ⟨Nat.le_trans h.1 k.1, fun g hg hG => (k.2 g (Nat.lt_of_lt_of_le hg h.1) hG).trans (h.2 g hg hG)⟩
theorem RG.of_below {G : Nat → Prop} {w w' : World} (h : Below w.heap.size w w') : RG G w w' := ⟨h.size, fun g hg _ => h.block g hg⟩
theorem getD_put {a : Act} {x : Option Nat} {v : Value} {y : Nat} (h : x ≠ some y) : (a.put x v).tmps.getD y undef = a.tmps.getD y undef := by
  cases x with
  | none => rfl
  | some x =>
    have hxy : x ≠ y := fun e => h (by rw [e])
    simp [Act.put, Array.getD_eq_getD_getElem?, Array.getElem?_setIfInBounds_ne hxy]
/-- A variable that came early. -/
def AllocAt (ops : Array Oper) (c0 c : Cx) (a : Act) (j g : Nat) : Prop :=
  ∃ o t n i vs T, ops[j]? = some o ∧ o.op = .alloc t ∧ o.dst = some n ∧ c.ty t = some i ∧ c0.W.heap.size ≤ g ∧ c.ρ g = .oth ∧ c.W.heap[g]? = some (.cells (List.toArray vs) T (0, 0)) ∧ a.tmps.getD n undef = .pointer (some ⟨g, 0, none⟩) ∧ ∀ c' Y, c'.ty = c.ty → CellsVR (Cx.nilH c' Y) Y i.zero vs
theorem AllocAt.step {ops : Array Oper} {c0 c c' : Cx} {a a' : Act} {j g : Nat} {x : Option Nat} {v : Value} (h : AllocAt ops c0 c a j g) (he : Ext c c') (ha : a'.tmps = (a.put x v).tmps) (hx : ∀ o n, ops[j]? = some o → o.dst = some n → x ≠ some n) : AllocAt ops c0 c' a' j g := by
  obtain ⟨o, t, n, i, vs, T, h1, h2, h3, h4, h5, h6, h7, h8, h9⟩ := h
  have hlt := (Array.getElem?_eq_some_iff.1 h7).1
  obtain ⟨h10, h11⟩ := he.keep g hlt (by rw [h6]; trivial)
  refine ⟨o, t, n, i, vs, T, h1, h2, h3, by rw [he.ty]; exact h4, h5, h10.trans h6, h11.trans h7, ?_, fun c' Y e => h9 c' Y (by rw [e, he.ty])⟩
  rw [ha, getD_put (hx o n h1 h3)]
  exact h8
structure Inv (P : Program) (B : Nat → Option Obj) (E : Env) (ops : Array Oper) (X : Nat) (Mo : Option (List Nat)) (c0 : Cx) (a0 : Act) (first : Bool) (A : List Nat) (blk : Nat → Nat) (c : Cx) (a : Act) : Prop where
  base : Firm B c0
  fr : Fr X c a
  env : EnvOK P B E c a
  ext : Ext c0 c
  sz : a.tmps.size = a0.tmps.size
  df : a.defers = a0.defers
  mtm : ∀ M, Mo = some M → ∀ n ∈ M, a.tmps.getD n undef = a0.tmps.getD n undef
  fst : first = true → ∀ b g, Rd c.ρ b g → g < c.W.heap.size → g < c0.W.heap.size ∧ stable (c0.ρ g)
  al : ∀ j, memN j A = true → AllocAt ops c0 c a j (blk j)
  dis : ∀ j k, memN j A = true → memN k A = true → j ≠ k → blk j ≠ blk k
theorem guarded_sound {α : Type} {E : Env} {ops : Array Oper} {c : Cx} {a : Act} {o : Oper} {k z : St → Option α} {r : α} (hs : Sim c a.tmps) (hops : ∀ o ∈ ops.toList, operOK E.nt o = true) (hsz : a.tmps.size = E.nt) (h : guarded ops c.s o.guard k z = some r) :
    (Region.wanted o (yielded ops a.tmps) = true ∧ k c.s = some r) ∨ (Region.wanted o (yielded ops a.tmps) = false ∧ z c.s = some r) := by
  unfold guarded at h
  split at h
  · rename_i hg
    exact .inl ⟨by simp [Region.wanted, hg], h⟩
  · rename_i j want hg
    split at h
    · cases h
    · rename_i n hn
      have hnlt : n < a.tmps.size := by
        cases hj : ops[j]? with
        | none => rw [hj] at hn; cases hn
        | some oj =>
          rw [hj] at hn
          rw [hsz]
          exact operOK_dst (hops oj (by have := Array.mem_of_getElem? hj; exact Array.mem_toList_iff.2 this)) n hn
      obtain ⟨h1, h2⟩ := guard_val (ops := ops) (j := j) hs hnlt hn
      split at h
      · rename_i b hb
        have hy := h1 _ hb
        cases b with
        | true =>
          simp only at h
          rw [force_eq hb] at h
          cases want with
          | true => exact .inl ⟨by simp [Region.wanted, hg, hy], h⟩
          | false => exact .inr ⟨by simp [Region.wanted, hg, hy], h⟩
        | false =>
          simp only at h
          rw [force_eq hb] at h
          cases want with
          | true => exact .inr ⟨by simp [Region.wanted, hg, hy], h⟩
          | false => exact .inl ⟨by simp [Region.wanted, hg, hy], h⟩
      · rename_i hb
        have hy := h2 hb
        exact .inr ⟨by simp [Region.wanted, hg, hy], h⟩
      · cases h
theorem undef_take {c : Cx} {a : Act} {X : Nat} {x : Option Nat} (hf : Fr X c a) (hd : ∀ n : Nat, x = some n → n < a.tmps.size) : Fr X { c with s := c.s.putO x .undef } (a.put x undef) ∧ Ext c { c with s := c.s.putO x .undef } := by
  cases x with
  | none => exact ⟨hf, Ext.refl c⟩
  | some n =>
    have hlt := hd n rfl
    have hne : X ≠ n := Nat.ne_of_gt (Nat.lt_of_lt_of_le hlt hf.ghost.out)
    have hsim := (Grown.refl c n).put hf.sim hlt (show VR c (.slot n []) .undef undef from rfl)
    exact ⟨⟨hsim, by simpa [Act.put] using hf.ghost.out, put_own hne hf.ghost.own⟩, (Ext.refl c).setS _⟩
theorem put_size (a : Act) (x : Option Nat) (v : Value) : (a.put x v).tmps.size = a.tmps.size := by cases x <;> simp [Act.put]
theorem put_defers (a : Act) (x : Option Nat) (v : Value) : (a.put x v).defers = a.defers := by cases x <;> rfl
section
variable {P : Program} {E : Env} {ops : Array Oper} {X : Nat} {Mo : Option (List Nat)} {c0 : Cx} {a0 : Act}
theorem Inv.step {first first' : Bool} {A : List Nat} {blk : Nat → Nat} {c c' : Cx} {a a' : Act} {i : Nat} {o : Oper} {v : Value} (h : Inv P B E ops X Mo c0 a0 first A blk c a) (hdst : dstsOK ops = true) (hM : ∀ M, Mo = some M → ∀ o ∈ ops.toList, ∀ n ∈ M, o.dst ≠ some n)
    (hi : ops[i]? = some o) (hA : memN i A = false) (hf : Fr X c' a') (he : Ext c c') (hsz : a'.tmps.size = a.tmps.size) (hdf : a'.defers = a.defers) (ht : a'.tmps = (a.put o.dst v).tmps)
    (hfst : first' = true → ∀ b g, Rd c'.ρ b g → g < c'.W.heap.size → g < c0.W.heap.size ∧ stable (c0.ρ g)) : Inv P B E ops X Mo c0 a0 first' A blk c' a' := by
  refine ⟨h.base, hf, h.env.next he hsz, h.ext.trans he, hsz.trans h.sz, hdf.trans h.df, fun M hMo n hn => ?_, hfst, fun j hj => (h.al j hj).step he ht fun oj n hoj hn => ?_, h.dis⟩
  · rw [ht, getD_put (hM M hMo o (Array.mem_toList_iff.2 (Array.mem_of_getElem? hi)) n hn)]
    exact h.mtm M hMo n hn
  · intro e
    have hne : j ≠ i := fun e => by rw [e, hA] at hj; cases hj
    exact dstsOK_at hdst hoj hi hne hn e
theorem calm_inv {c c' : Cx} (h : ∀ b g, Rd c.ρ b g → g < c.W.heap.size → g < c0.W.heap.size ∧ stable (c0.ρ g)) (hW : c'.W = c.W) (hρ : ∀ g, g < c.W.heap.size → c'.ρ g = c.ρ g) : ∀ b g, Rd c'.ρ b g → g < c'.W.heap.size → g < c0.W.heap.size ∧ stable (c0.ρ g) := fun b g hr hg => by
  rw [hW] at hg
  refine h b g ?_ hg
  unfold Rd at *
  rw [hρ g hg] at hr
  exact hr
theorem plan_sound {fl : Nat → Bool} {Q0 : Exit → Act → World → Prop} {s' : St} (hty : TyOk P c0.ty) (hops : ∀ o ∈ ops.toList, operOK E.nt o = true) (hsel : Region.noSelect ops = true) (hdst : dstsOK ops = true) (hM : ∀ M, Mo = some M → ∀ o ∈ ops.toList, ∀ n ∈ M, o.dst ≠ some n)
    (hQ0 : ∀ ch a w, ¬ Q0 (.panic ch) a w) (hEnd : EndsIn P X c0 a0 s' (Q0 .normal)) : ∀ (rows : List PRow) (fuel : Nat) (first : Bool) (L listed : Array Bool) (A : List Nat) (blk : Nat → Nat) (c : Cx) (a : Act), planGo E.ty ops fl L rows = true → Sup L listed A → (∀ j, memN j A = true → j ∈ allocsOf rows) →
      still A rows ≤ fuel → Inv P B E ops X Mo c0 a0 first A blk c a → runOpsD E ops Mo first rows c.s = some s' → wpAnyG P .any ops Q0 (RG (Gd c0 a0 Mo)) fl fuel listed a c.W := by
  have hQ : ∀ (x : Option Nat) (v : Value) ch (a : Act) w, Q0 (.panic ch) (a.put x v) w → Q0 (.panic ch) a w := fun x v ch a w h => (hQ0 _ _ _ h).elim
  intro rows
  induction rows with
  | nil =>
    intro fuel first L listed A blk c a hgo hsup hA hst hinv h
    cases h
    have hre : Region.ready .any ops listed = [] := by
      rw [List.eq_nil_iff_forall_not_mem]
      intro j hj
      rcases ready_dn (B := []) hsup (fun k hk => by cases hA k hk) hj with h | h
      · cases h
      · have : (Region.ready .any ops L).isEmpty = true := hgo
        rw [List.isEmpty_iff] at this
        have h : j ∈ Region.ready .any ops L := h
        rw [this] at h
        cases h
    have hq : Q0 .normal a c.W := hEnd a c rfl hinv.fr hinv.ext hinv.sz hinv.df
    cases fuel with
    | zero => exact ⟨hre, hq⟩
    | succ fuel => exact ⟨fun _ => hq, fun i hi => by rw [hre] at hi; cases hi⟩
  | cons r l ihl =>
    obtain ⟨i, k, ds⟩ := r
    have hadopt : ∀ (fuel : Nat) (first : Bool) (L listed : Array Bool) (A : List Nat) (blk : Nat → Nat) (c : Cx) (a : Act), planGo E.ty ops fl L ((i, k, ds) :: l) = true → Sup L listed A → (∀ j, memN j A = true → j ∈ allocsOf ((i, k, ds) :: l)) →
        still A ((i, k, ds) :: l) ≤ fuel → Inv P B E ops X Mo c0 a0 first A blk c a → runOpsD E ops Mo first ((i, k, ds) :: l) c.s = some s' → memN i A = true → wpAnyG P .any ops Q0 (RG (Gd c0 a0 Mo)) fl fuel listed a c.W := by
      intro fuel first L listed A blk c a hgo hsup hA hst hinv h hiA
      simp only [planGo, Bool.and_eq_true, Bool.not_eq_true'] at hgo
      obtain ⟨⟨hre, hni, hal⟩, hrow, hgo⟩ := hgo
      have hmem := hA i hiA
      have hnl : i ∉ allocsOf l := fun h => by
        obtain ⟨r, hr, e⟩ := allocsOf_mem h
        have := (List.any_eq_false.1 hni) r hr
        exact this (beq_eq.2 e)
      have hk3 : k = 3 := by
        unfold allocsOf at hmem
        split at hmem
        · rename_i hb; exact beq_eq.1 hb
        · exact (hnl hmem).elim
      subst hk3
      obtain ⟨o, t, n, i0, vs, T, h1, h2, h3, h4, h5, h6, h7, h8, h9⟩ := hinv.al i hiA
      obtain ⟨o', t', n', i0', h1', h2', h3', hg', hn', _⟩ := allocOK_at ((List.all_eq_true.1 hal) i hmem)
      rw [h1] at h1'
      cases h1'
      simp only [runOpsD, h1, hg', guarded] at h
      split at h
      · cases h
      rename_i hjunk
      simp only [Option.bind_eq_some_iff, rowStep] at h
      obtain ⟨s1, hs1, h⟩ := h
      unfold allocStep at hs1
      rw [h2, h3] at hs1
      simp only [Option.bind_eq_some_iff] at hs1
      obtain ⟨i1, hi1, hs1⟩ := hs1
      rw [hinv.env.ty, h4] at hi1
      cases hi1
      split at hs1
      · rename_i hb
        cases hs1
        have hlt : n < a.tmps.size := by
          rw [hinv.env.nt]
          exact operOK_dst (hops o (Array.mem_toList_iff.2 (Array.mem_of_getElem? h1))) n h3
        obtain ⟨hl, hv⟩ := h9 c X rfl
        obtain ⟨c1, a1, a2, a3, a4, a5, a6⟩ := adopt_sound (c := c.nilH X) (X := X) (tm := a.tmps) (n := n) (g := blk i) (cs := i0.zero) (vs := vs) (T := T) (nilH_sim hinv.fr.sim hinv.fr.ghost) hinv.fr.ghost.nilH hlt hb (by obtain ⟨_, _, _, hf0⟩ := hinv.env.tys.facts h4; exact zs_isM hf0.zs) hl hv h6 h7 h8
        have hext : Ext c0 c1 := a4 c0 (hinv.ext.trans (nilH_ext c X)) h5
        have hty1 : c1.ty = c.ty := by rw [hext.ty, hinv.ext.ty]
        have hW1 : c1.W = c.W := a1
        rw [← hW1]
        refine ihl fuel first (L.setIfInBounds i true) listed (A.filter fun j => !Nat.beq j i) blk c1 a hgo (hsup.adopt hiA) (fun j hj => ?_) ?_ ⟨hinv.base, ⟨a3, hinv.fr.ghost.out, ?_⟩, ⟨by rw [hty1]; exact hinv.env.ty, by rw [hty1]; exact hinv.env.tys, hinv.base.ext hext, by rw [hty1]; exact hinv.env.call, hinv.env.nt⟩, hext, hinv.sz, hinv.df, hinv.mtm, fun hf b g hr hg => ?_, fun j hj => ?_, fun j k hj hk hne => ?_⟩ ?_
        · have hjA := (List.mem_filter.1 (memN_iff.1 hj))
          have hm := hA j (memN_iff.2 hjA.1)
          have hm' : j ∈ i :: allocsOf l := hm
          rcases List.mem_cons.1 hm' with e | hm'
          · subst e
            have := hjA.2
            rw [show Nat.beq j j = true from beq_eq.2 rfl] at this
            cases this
          · exact hm'
        · have := still_cons (A := A) (i := i) (k := 3) (ds := ds) (l := l)
          rw [hiA] at this
          have h10 := still_adopt (A := A) hni
          simp only at this
          omega
        · rw [a2]
          have hne : X ≠ n := Nat.ne_of_gt (Nat.lt_of_lt_of_le hlt hinv.fr.ghost.out)
          refine put_own hne ?_
          rw [setBox_tl.1]
          exact hinv.fr.ghost.own
        · rw [hW1] at hg
          exact hinv.fst hf b g (a6 b g hr) hg
        · have hjA := (List.mem_filter.1 (memN_iff.1 hj))
          have hji : j ≠ i := fun e => by
            have := hjA.2
            rw [e, show Nat.beq i i = true from beq_eq.2 rfl] at this
            cases this
          have hjA' := memN_iff.2 hjA.1
          obtain ⟨oj, t', n', i', vs', T', b1, b2, b3, b4, b5, b6, b7, b8, b9⟩ := hinv.al j hjA'
          refine ⟨oj, t', n', i', vs', T', b1, b2, b3, by rw [hty1]; exact b4, b5, ?_, by rw [hW1]; exact b7, b8, fun c' Y e => b9 c' Y (by rw [e, hty1])⟩
          exact (a5 (blk j) (hinv.dis j i hjA' hiA hji) (by show stable (c.ρ (blk j)); rw [b6]; trivial)).trans b6
        · exact hinv.dis j k (memN_iff.2 (List.mem_filter.1 (memN_iff.1 hj)).1) (memN_iff.2 (List.mem_filter.1 (memN_iff.1 hk)).1) hne
        · rw [a2]
          have h : runOpsD E ops Mo (first && stays 3) l ((c.s.setBox (.loc n) i0.zero).put n (.ptr (.loc n) 0)) = some s' := h
          rw [show (first && stays 3) = first from Bool.and_true first] at h
          exact h
      · cases hs1
    intro fuel
    induction fuel with
    | zero =>
      intro first L listed A blk c a hgo hsup hA hst hinv h
      cases hiA : memN i A with
      | true => exact hadopt _ first L listed A blk c a hgo hsup hA hst hinv h hiA
      | false =>
        rw [still_cons, hiA] at hst
        simp only at hst
        omega
    | succ fuel ihf =>
      intro first L listed A blk c a hgo hsup hA hst hinv h
      cases hiA : memN i A with
      | true => exact hadopt _ first L listed A blk c a hgo hsup hA hst hinv h hiA
      | false =>
      have hgo0 := hgo
      have h0 := h
      simp only [planGo, Bool.and_eq_true, Bool.not_eq_true'] at hgo
      obtain ⟨⟨hre, hni, hal⟩, hrow, hgo⟩ := hgo
      have hreadyL : i ∈ Region.ready .any ops L := by simpa using hre
      have hready := ready_up hsup hreadyL hiA
      have hst' : still A l ≤ fuel := by
        rw [still_cons, hiA] at hst
        simp only at hst
        omega
      unfold runOpsD at h
      split at h
      · cases h
      rename_i hjunk
      split at h
      · cases h
      rename_i o hi
      have hk := hops o (Array.mem_toList_iff.2 (Array.mem_of_getElem? hi))
      have hd : ∀ n : Nat, o.dst = some n → n < a.tmps.size := by rw [hinv.env.nt]; exact operOK_dst hk
      have hg := guarded_sound (E := E) hinv.fr.sim hops hinv.env.nt h
      have hAl : ∀ j, memN j A = true → j ∈ allocsOf l := fun j hj => by
        have hm := hA j hj
        unfold allocsOf at hm
        split at hm
        · rcases List.mem_cons.1 hm with e | hm
          · rw [e, hiA] at hj; cases hj
          · exact hm
        · exact hm
      -- alone
      have halone : aloneOK ops L i l = true → (k = 3 ∨ ∀ K, (K = fun a' w' => (fl i = true → RG (Gd c0 a0 Mo) c.W w') ∧ wpAnyG P .any ops Q0 (RG (Gd c0 a0 Mo)) fl fuel (listed.setIfInBounds i true) a' w') → wpOp P ops Q0 i K a c.W) → wpAnyG P .any ops Q0 (RG (Gd c0 a0 Mo)) fl (fuel + 1) listed a c.W := by
        intro hal1 hself
        refine ⟨fun e => (by rw [e] at hready; cases hready), fun j hj => ?_⟩
        have hjA : memN j A = false := (hsup.un (mem_ready.1 hj).1).2
        have hearly : j ∈ allocsOf ((i, k, ds) :: l) → wpOp P ops Q0 j (fun a' w' => (fl j = true → RG (Gd c0 a0 Mo) c.W w') ∧ wpAnyG P .any ops Q0 (RG (Gd c0 a0 Mo)) fl fuel (listed.setIfInBounds j true) a' w') a c.W := by
          intro hjm
          obtain ⟨oj, t, n, i0, b1, b2, b3, b4, b5, b6⟩ := allocOK_at ((List.all_eq_true.1 hal) j hjm)
          have hjn : c.s.t n = .junk := allJunk_at hjunk n b5
          have hlt : n < a.tmps.size := by
            rw [hinv.env.nt]
            exact operOK_dst (hops oj (Array.mem_toList_iff.2 (Array.mem_of_getElem? b1))) n b3
          rw [hinv.env.ty] at b6
          obtain ⟨inf, _, z, hfz⟩ := hinv.env.tys.facts b6
          have hrun : (execOp a.eval oj).run P c.W = .ok (.value (.pointer (some ⟨c.W.heap.size, 0, none⟩))) (c.W.alloc (.cells (List.toArray z.cells.toList) t (0, 0))) := by
            simp [execOp, b2, Instr.alloc, zeroValue, typeInfo, hfz.info, hfz.zero, newVar, newRow]
          obtain ⟨c', e1, e2, e3, e4, e5, e6⟩ := early_sound (n := n) (ob := .cells (List.toArray z.cells.toList) t (0, 0)) (v := .pointer (some ⟨c.W.heap.size, 0, none⟩)) hinv.fr hlt hjn
          have hbel : Below c.W.heap.size c.W c'.W := by
            rw [e2]
            exact ⟨rfl, rfl, rfl, by show c.W.heap.size ≤ (c.W.alloc _).heap.size; simp, fun k hk => Below.heap_alloc c.W _ k hk⟩
          unfold wpOp
          rw [b1]
          have hw : Region.wanted oj (yielded ops a.tmps) = true := by simp [Region.wanted, b4]
          simp only [hw, if_true]
          refine .inl ?_
          unfold Oper.wp
          rw [hrun]
          show _ ∧ _
          rw [b3, ← e2]
          refine ⟨fun _ => RG.of_below hbel, ?_⟩
          have hlj : listed.getD j true = false := (mem_ready.1 hj).1
          refine ihf first L _ (j :: A) (fun m => if m = j then c.W.heap.size else blk m) c' _ hgo0 (hsup.early j) (fun m hm => ?_) ?_ ⟨hinv.base, e3, hinv.env.next e4 (put_size _ _ _), hinv.ext.trans e4, (put_size _ _ _).trans hinv.sz, (put_defers _ _ _).trans hinv.df, fun M hMo m hm => ?_, fun hfst b g hr hgl => ?_, fun m hm => ?_, fun m1 m2 hm1 hm2 hne => ?_⟩ (by rw [e1]; exact h0)
          · rw [memN_cons, Bool.or_eq_true] at hm
            rcases hm with hm | hm
            · rw [beq_eq.1 hm]; exact hjm
            · exact hA m hm
          · have := still_early hjA (allocsOf_mem hjm)
            omega
          · rw [getD_put (hM M hMo oj (Array.mem_toList_iff.2 (Array.mem_of_getElem? b1)) m hm ∘ fun e => by rw [b3]; exact e)]
            exact hinv.mtm M hMo m hm
          · by_cases hgs : g < c.W.heap.size
            · have hr' : Rd c.ρ b g := by
                unfold Rd at *
                rw [e5 g hgs] at hr
                exact hr
              exact hinv.fst hfst b g hr' hgs
            · have hge : g = c.W.heap.size := by
                rw [e2] at hgl
                have : g < c.W.heap.size + 1 := by simpa using hgl
                omega
              subst hge
              rcases hr with hr | ⟨_, hr⟩ <;> (rw [e6] at hr; cases hr)
          · rw [memN_cons, Bool.or_eq_true] at hm
            by_cases hmj : m = j
            · subst hmj
              rw [if_pos rfl]
              refine ⟨oj, t, n, i0, z.cells.toList, t, b1, b2, b3, by rw [e4.ty]; exact b6, hinv.ext.size, e6, ?_, ?_, fun c'' Y e => zero_cells (by rw [e, e4.ty]) hfz.zs⟩
              · rw [e2]
                exact heap_alloc_new c.W _
              · simp [Act.put, Array.getD, hlt]
            · rw [if_neg hmj]
              have hmA : memN m A = true := by
                rcases hm with hm | hm
                · exact (hmj (beq_eq.1 hm)).elim
                · exact hm
              exact (hinv.al m hmA).step e4 rfl fun om nm hom hnm e => dstsOK_at hdst hom b1 hmj hnm (by rw [b3]; exact e)
          · have hold : ∀ m, memN m A = true → blk m < c.W.heap.size := fun m hm => by
              obtain ⟨_, _, _, _, _, _, _, _, _, _, _, _, h7, _⟩ := hinv.al m hm
              exact (Array.getElem?_eq_some_iff.1 h7).1
            have hin : ∀ m, memN m (j :: A) = true → m ≠ j → memN m A = true := fun m hm hne => by
              rw [memN_cons, Bool.or_eq_true] at hm
              rcases hm with hm | hm
              · exact (hne (beq_eq.1 hm)).elim
              · exact hm
            by_cases x1 : m1 = j
            · have x2 : m2 ≠ j := fun e => hne (by rw [x1, e])
              rw [if_pos x1, if_neg x2]
              have := hold m2 (hin m2 hm2 x2)
              omega
            · rw [if_neg x1]
              by_cases x2 : m2 = j
              · rw [if_pos x2]
                have := hold m1 (hin m1 hm1 x1)
                omega
              · rw [if_neg x2]
                exact hinv.dis m1 m2 (hin m1 hm1 x1) (hin m2 hm2 x2) hne
        rcases ready_dn (B := allocsOf l) hsup (fun m hm => memN_iff.2 (hAl m hm)) hj with hjl | hjr
        · refine hearly ?_
          unfold allocsOf
          split
          · exact List.mem_cons_of_mem _ (memN_iff.1 hjl)
          · exact memN_iff.1 hjl
        · have hji : i = j := beq_eq.1 ((List.all_eq_true.1 hal1) j hjr)
          subst hji
          rcases hself with hk3 | hself
          · refine hearly ?_
            rw [hk3]
            exact List.mem_cons_self
          · exact hself _ rfl
      -- what follows
      have hafter : ∀ (first' : Bool) (s1 : St) (c' : Cx) (a' : Act) (v : Value), c'.s = s1 → Fr X c' a' → Ext c c' → a'.tmps.size = a.tmps.size → a'.defers = a.defers → a'.tmps = (a.put o.dst v).tmps →
          (first' = true → ∀ b g, Rd c'.ρ b g → g < c'.W.heap.size → g < c0.W.heap.size ∧ stable (c0.ρ g)) → runOpsD E ops Mo first' l s1 = some s' → wpAnyG P .any ops Q0 (RG (Gd c0 a0 Mo)) fl fuel (listed.setIfInBounds i true) a' c'.W := by
        intro first' s1 c' a' v e1 e2 e3 e4 e5 e6 e7 e8
        exact ihl fuel first' _ _ A blk c' a' hgo (hsup.set i) hAl hst' (hinv.step hdst hM hi hiA e2 e3 e4 e5 e6 e7) (by rw [e1]; exact e8)
      generalize hD : behind ops i (List.range ops.size) [] = BH at *
      have hfree : calmOK ops L i (allocsOf l) = true → (∀ j oj, ops[j]? = some oj → memN j BH = true → ∃ e ∈ oj.after, Region.binds .any e = true ∧ (e.on = i ∨ memN e.on BH = true)) ∧ (∀ j oj, ops[j]? = some oj → j ≠ i → listed.getD j true = false → memN j BH = false → o.apart ops oj = true) ∧ (∀ k, listed.getD k false = true → memN k BH = false) := fun hc => by
        unfold calmOK at hc
        rw [hD] at hc
        simp only [Bool.and_eq_true] at hc
        refine ⟨fun j oj hoj hj => (behindOK_at hc.1 hj).1 oj hoj, fun j oj hj hne hun hno => freeOK_at hi hc.2 hj hne (hsup.un hun).1 hno, fun m hm => ?_⟩
        cases hmD : memN m BH with
        | false => rfl
        | true =>
          obtain ⟨_, h1, h2⟩ := behindOK_at hc.1 hmD
          rcases hsup.onL hm with h3 | h3
          · rw [h3] at h1; cases h1
          · rw [memN_iff.2 (hAl m h3)] at h2; cases h2
      obtain ⟨hu1, hu2⟩ := undef_take (x := o.dst) hinv.fr hd
      have hk5 : k = 0 ∨ k = 1 ∨ k = 2 ∨ k = 3 ∨ ∃ m, k = m + 4 := by
        match k with
        | 0 => exact .inl rfl
        | 1 => exact .inr (.inl rfl)
        | 2 => exact .inr (.inr (.inl rfl))
        | 3 => exact .inr (.inr (.inr (.inl rfl)))
        | m + 4 => exact .inr (.inr (.inr (.inr ⟨m, rfl⟩)))
      rcases hk5 with rfl | rfl | rfl | rfl | ⟨m, rfl⟩
      · -- calm
        rw [show (first && stays 0) = first from Bool.and_true first] at hg
        rcases hg with ⟨hw, hg⟩ | ⟨hw, hg⟩
        · simp only [rowStep, Option.bind_eq_some_iff] at hg
          obtain ⟨s1, hs1, hg⟩ := hg
          unfold calmStep at hs1
          split at hs1
          · rename_i n hcm hdn
            split at hs1
            · rename_i d hev
              cases hs1
              have hcalm := evOp_calm hinv.env.ty hinv.env.tys hinv.fr.sim hcm hev n (fun _ => True)
              obtain ⟨v, c', e1, e2, e3, e4, e5, e6⟩ := calm_take hinv.fr (hd n hdn) hcalm
              refine wpAnyG_calm RG.refl hi (Region.noSelect_spec hsel) (hQ _ _) (hfree hrow).1 fuel listed a c.W (hfree hrow).2.1 (hfree hrow).2.2 hready (.inl ⟨hw, fun w => e6 w trivial⟩) ?_
              rw [← e2]
              exact hafter first _ c' _ v e1 (by rw [hdn]; exact e3) e4 (put_size _ _ _) (put_defers _ _ _) rfl (fun hf => calm_inv (hinv.fst hf) e2 e5) hg
            · cases hs1
          · cases hs1
        · refine wpAnyG_calm RG.refl hi (Region.noSelect_spec hsel) (hQ _ _) (hfree hrow).1 fuel listed a c.W (hfree hrow).2.1 (hfree hrow).2.2 hready (.inr ⟨hw, rfl⟩) ?_
          exact hafter first _ { c with s := c.s.putO o.dst .undef } _ undef rfl hu1 hu2 (put_size _ _ _) (put_defers _ _ _) rfl (fun hf => hinv.fst hf) hg
      · -- a load
        rw [show (first && stays 1) = first from Bool.and_true first] at hg
        have hrow' : (calmOK ops L i (allocsOf l) && lateOK ops fl L i (behind ops i (List.range ops.size) [])) = true := hrow
        rw [hD] at hrow'
        simp only [Bool.and_eq_true] at hrow'
        obtain ⟨hfr, hlate⟩ := hrow'
        have hfree2 : ∀ j oj, ops[j]? = some oj → j ≠ i → listed.getD j true = false → memN j BH = false → o.apart ops oj = true ∧ fl j = true := fun j oj hj hne hun hno =>
          ⟨(hfree hfr).2.1 j oj hj hne hun hno, lateOK_at hlate hj hne (hsup.un hun).1 hno⟩
        rcases hg with ⟨hw, hg⟩ | ⟨hw, hg⟩
        · simp only [rowStep, Option.bind_eq_some_iff] at hg
          obtain ⟨s1, hs1, hg⟩ := hg
          have key : ∀ (n : Nat) (d : D), o.dst = some n → s1 = c.s.put n d → Calm P c a o n (RG (Gd c0 a0 Mo) c.W) d → wpAnyG P .any ops Q0 (RG (Gd c0 a0 Mo)) fl (fuel + 1) listed a c.W := by
            intro n d hdn he hcalm
            subst he
            obtain ⟨v, c', e1, e2, e3, e4, e5, e6⟩ := calm_take hinv.fr (hd n hdn) hcalm
            refine wpAnyG_load RG.trans RG.refl (w0 := c.W) hi (Region.noSelect_spec hsel) (hQ _ _) (hfree hfr).1 fuel listed a c.W hfree2 (hfree hfr).2.2 hready (.inl ⟨hw, e6⟩) (RG.refl _) ?_
            rw [← e2]
            exact hafter first _ c' _ v e1 (by rw [hdn]; exact e3) e4 (put_size _ _ _) (put_defers _ _ _) rfl (fun hf => calm_inv (hinv.fst hf) e2 e5) hg
          unfold loadStep at hs1
          split at hs1
          · rename_i t z n ho hdn
            simp only [Option.bind_eq_some_iff] at hs1
            obtain ⟨ti, hti, hs1⟩ := hs1
            rw [hinv.env.ty] at hti
            split at hs1
            · -- all stays
              simp only [Option.map_eq_some_iff] at hs1
              obtain ⟨d, hld, rfl⟩ := hs1
              refine key n d hdn rfl ?_
              have hT : ∀ g, g < c.W.heap.size → ∀ w, RG (Gd c0 a0 none) c.W w → w.heap[g]? = c.W.heap[g]? := fun g hg w hw => hw.2 g hg trivial
              exact y_loadT hinv.env.tys hinv.fr.sim (fun _ _ h => h) (fun _ _ h => h) (fun b g _ hg => hT g hg) (fun r cs hb => hT _ (hinv.fr.sim.boxes r cs hb).lt) (fun _ _ _ g hg => hT g hg) ho hti hld
            · rename_i M
              split at hs1
              · simp only [Option.map_eq_some_iff] at hs1
                obtain ⟨d, hld, rfl⟩ := hs1
                refine key n d hdn rfl ?_
                have hmask : ∀ r cs, maskB M c.s r = some cs → c.s.box r = some cs ∧ ∃ n ∈ M, r = .loc n ∧ c.s.t n = .ptr (.loc n) 0 := fun r cs hb => by
                  unfold maskB at hb
                  split at hb
                  · rename_i n
                    split at hb
                    · rename_i hc
                      simp only [Bool.and_eq_true] at hc
                      exact ⟨hb, n, memN_iff.1 hc.1, rfl, ptrAt_eq hc.2⟩
                    · cases hb
                  · cases hb
                refine y_loadT hinv.env.tys hinv.fr.sim (gp := fun _ => none) (bx := maskB M c.s) (fun _ _ h => by cases h) (fun r cs hb => (hmask r cs hb).1) (fun b g hr hg w hw => ?_) (fun r cs hb w hw => ?_) (fun _ _ h => by cases h) ho hti hld
                · obtain ⟨h1, h2⟩ := hinv.fst rfl b g hr hg
                  exact hw.2 g hg (.inl ⟨h1, h2⟩)
                · obtain ⟨h1, n, hn, rfl, h2⟩ := hmask r cs hb
                  have hlt := (hinv.fr.sim.boxes _ cs h1).lt
                  have hv := hinv.fr.sim.slots n
                  rw [h2] at hv
                  have hv2 : a0.tmps.getD n undef = .pointer (some ⟨c.β (.loc n), 0, none⟩) := by
                    rw [← hinv.mtm M rfl n hn]
                    exact hv.2
                  exact hw.2 _ hlt (.inr ⟨n, hn, hv2⟩)
              · cases hs1
          · cases hs1
        · refine wpAnyG_load RG.trans RG.refl (w0 := c.W) hi (Region.noSelect_spec hsel) (hQ _ _) (hfree hfr).1 fuel listed a c.W hfree2 (hfree hfr).2.2 hready (.inr ⟨hw, rfl⟩) (RG.refl _) ?_
          exact hafter first _ { c with s := c.s.putO o.dst .undef } _ undef rfl hu1 hu2 (put_size _ _ _) (put_defers _ _ _) rfl (fun hf => hinv.fst hf) hg
      · -- alone
        have hrow' : (aloneOK ops L i l && !fl i) = true := hrow
        simp only [Bool.and_eq_true, Bool.not_eq_true'] at hrow'
        refine halone hrow'.1 (.inr fun K hK => ?_)
        subst hK
        rw [show (first && stays 2) = false from Bool.and_false first] at hg
        unfold wpOp
        rw [hi]
        simp only
        rcases hg with ⟨hw, hg⟩ | ⟨hw, hg⟩
        · rw [if_pos hw]
          refine .inl ?_
          simp only [rowStep, Option.bind_eq_some_iff] at hg
          obtain ⟨s1, hs1, hg⟩ := hg
          refine Oper.wp_mono ?_ (wp_put (step_sound hinv.env hinv.fr hk hs1 (fun a' w' => ∃ c', c'.W = w' ∧ c'.s = s1 ∧ Fr X c' a' ∧ Ext c c' ∧ a'.tmps.size = a.tmps.size ∧ a'.defers = a.defers) Q0 fun a' c' e1 e2 e3 e4 e5 => ⟨c', rfl, e1, e2, e3, e4, e5⟩))
          rintro a' w' ⟨⟨c', rfl, e1, e2, e3, e4, e5⟩, v, e6⟩
          exact ⟨fun e => by (rw [hrow'.2] at e; cases e), hafter false s1 c' a' v e1 e2 e3 e4 e5 e6 (fun e => by cases e) hg⟩
        · rw [if_neg (by rw [hw]; exact fun e => by cases e)]
          exact ⟨fun _ => RG.refl _, hafter false _ { c with s := c.s.putO o.dst .undef } _ undef rfl hu1 hu2 (put_size _ _ _) (put_defers _ _ _) rfl (fun e => by cases e) hg⟩
      · -- a new variable
        exact halone hrow (.inl rfl)
      · -- alone, and loads are about
        refine halone hrow (.inr fun K hK => ?_)
        subst hK
        rw [show (first && stays (m + 4)) = false from Bool.and_false first] at hg
        unfold wpOp
        rw [hi]
        simp only
        rcases hg with ⟨hw, hg⟩ | ⟨hw, hg⟩
        · rw [if_pos hw]
          refine .inl ?_
          simp only [rowStep, Option.bind_eq_some_iff] at hg
          obtain ⟨s1, hs1, hg⟩ := hg
          unfold flagStep at hs1
          split at hs1
          · simp only [Option.bind_eq_some_iff] at hs1
            obtain ⟨ef, hev, hap⟩ := hs1
            have hef := evOp_sound hinv.env.ty hinv.env.tys hinv.env.inv hinv.env.call hinv.fr.sim (fun _ _ h => h) (fun _ _ h => h) hev
            refine Oper.wp_mono ?_ (wp_put (apply_soundB hinv.fr hd hef hap (fun a' w' => ∃ c', c'.W = w' ∧ c'.s = s1 ∧ Fr X c' a' ∧ Ext c c' ∧ Below c.W.heap.size c.W c'.W ∧ a'.tmps.size = a.tmps.size ∧ a'.defers = a.defers) Q0 fun a' c' e1 e2 e3 eb e4 e5 => ⟨c', rfl, e1, e2, e3, eb, e4, e5⟩))
            rintro a' w' ⟨⟨c', rfl, e1, e2, e3, eb, e4, e5⟩, v, e6⟩
            exact ⟨fun _ => RG.of_below eb, hafter false s1 c' a' v e1 e2 e3 e4 e5 e6 (fun e => by cases e) hg⟩
          · rename_i M
            split at hs1
            · cases hs1
            rename_i hhid
            simp only [Option.bind_eq_some_iff] at hs1
            obtain ⟨s2, hs2, hs1⟩ := hs1
            split at hs1
            · rename_i hno
              cases hs1
              obtain ⟨f1, f2⟩ := hide_sound hinv.fr hhid
              have hE2 := hinv.env.next f2 rfl
              refine Oper.wp_mono ?_ (wp_put (step_sound hE2 f1 hk hs2 (fun a' w' => ∃ c', c'.W = w' ∧ c'.s = s2 ∧ Fr X c' a' ∧ Ext (c.hid M) c' ∧ a'.tmps.size = a.tmps.size ∧ a'.defers = a.defers) Q0 fun a' c' e1 e2 e3 e4 e5 => ⟨c', rfl, e1, e2, e3, e4, e5⟩))
              rintro a' w' ⟨⟨c', rfl, e1, e2, e3, e4, e5⟩, v, e6⟩
              obtain ⟨g1, g2⟩ := shown_sound hinv.fr hhid e3 e2 e4 e6 (by rw [e1]; exact hno)
              refine ⟨fun _ => ⟨e3.size, fun g hgl hG => ?_⟩, hafter false _ (c.shown c' M o.dst) a' v (by show c'.s.shown M o.dst c.s = _; rw [e1]) g1 g2 e4 e5 e6 (fun e => by cases e) hg⟩
              refine (e3.keep g hgl ?_).2
              show stable (match c.isM M g with | true => Role.oth | false => c.ρ g)
              cases hM2 : c.isM M g with
              | true => trivial
              | false =>
                show stable (c.ρ g)
                rcases hG with ⟨h0, h1⟩ | ⟨n, hn, h1⟩
                · rw [(hinv.ext.keep g h0 h1).1]
                  exact h1
                · exfalso
                  have hv := hinv.fr.sim.slots n
                  rw [(hidOK_at hhid hn).1] at hv
                  have h2 : a.tmps.getD n undef = .pointer (some ⟨c.β (.loc n), 0, none⟩) := hv.2
                  rw [hinv.mtm M rfl n hn, h1] at h2
                  have h3 : g = c.β (.loc n) := by
                    injection h2 with h2
                    injection h2 with h2
                    injection h2
                  rw [isM_iff.2 ⟨n, hn, h3.symm⟩] at hM2
                  cases hM2
            · cases hs1
        · rw [if_neg (by rw [hw]; exact fun e => by cases e)]
          exact ⟨fun _ => RG.refl _, hafter false _ { c with s := c.s.putO o.dst .undef } _ undef rfl hu1 hu2 (put_size _ _ _) (put_defers _ _ _) rfl (fun e => by cases e) hg⟩
end
end Go.Den
namespace Go.Den
open Go Go.RowKit
set_option linter.unusedVariables false
variable {B : Nat → Option Obj}
theorem drew_fr {c : Cx} {a : Act} {X : Nat} (hf : Fr X c a) : Fr X { c with W := { c.W with drawn := c.W.drawn + 1 } } a ∧ Ext c { c with W := { c.W with drawn := c.W.drawn + 1 } } := by
  refine ⟨⟨Sim.same (Z := fun _ => False) hf.sim rfl (fun _ _ _ h => h) ⟨rfl, fun b g h _ => ⟨h, rfl⟩, fun q r hq _ => ⟨hq, rfl⟩, fun r hr _ => ⟨hr, rfl⟩, fun q _ => ⟨rfl, fun g h _ => ⟨h, rfl⟩⟩⟩ fun r hr => ?_, hf.ghost.out, hf.ghost.own⟩, rfl, rfl, rfl, Nat.le_refl _, fun _ _ _ => ⟨rfl, rfl⟩, rfl, fun _ => rfl, fun _ => rfl⟩
  obtain ⟨cs, hb⟩ := Option.isSome_iff_exists.1 hr
  obtain ⟨vs, T, h1, h2, _⟩ := (hf.sim.boxes r cs hb).out
  exact ⟨h2, rfl⟩
theorem junks_noOwn {s : St} : ∀ {ds : List Nat}, noOwns s ds = true → ∀ n ∈ ds, (s.t n).hasOwn = false
  | [], h, n, hn => by cases hn
  | m :: ds, h, n, hn => by
    have h' : (!(s.t m).hasOwn && noOwns s ds) = true := h
    simp only [Bool.and_eq_true, Bool.not_eq_true'] at h'
    rcases List.mem_cons.1 hn with rfl | hn
    · exact h'.1
    · exact junks_noOwn h'.2 n hn
theorem junks_fr {c : Cx} {a : Act} {X : Nat} {ds : List Nat} (hf : Fr X c a) (h : noOwns c.s ds = true) : Fr X { c with s := c.s.junks ds } a := by
  refine ⟨forget_sound (K := Kill.none) hf.sim (fun y => ?_) (fun r cs' h => ⟨cs', by cases r <;> exact h, (kills_none _).symm⟩) rfl (fun q r hq _ => ?_) (fun r hr _ => by cases r <;> exact hr), hf.ghost.out, ?_⟩
  · cases hm : memN y ds with
    | true => left; simp only [St.junks, hm]
    | false => right; simp only [St.junks, hm, kill_none, and_self]
  · cases q with
    | slot y l =>
      show (D.at_ l ((c.s.junks ds).t y)).row? = _
      cases hm : memN y ds with
      | true =>
        have hq' : (D.at_ l (c.s.t y)).row? = some r := hq
        rw [noOwn_at l _ (junks_noOwn h y (memN_iff.1 hm))] at hq'
        cases hq'
      | false => simp only [St.junks, hm]; exact hq
    | cell r0 o => cases r0 <;> exact hq
    | lent j => exact hq
  · show ((c.s.junks ds).t X).hasOwn = false
    cases hm : memN X ds with
    | true => simp only [St.junks, hm]; rfl
    | false => simp only [St.junks, hm]; exact hf.ghost.own
theorem draw_sound {P : Program} {E : Env} {X id : Nat} {ops : Array Oper} {p : Plan} (hm : P.follows .mixedOrders = true) (hp : E.plan id = some p) (hok : planOK E.ty ops p = true) (hops : ∀ o ∈ ops.toList, operOK E.nt o = true) : DrawOK P B E X id ops := by
  intro c a s' Q hE hf h hEnd
  unfold planOK at hok
  simp only [Bool.and_eq_true] at hok
  obtain ⟨⟨hsel, hdst, hlen⟩, hMc, hgo⟩ := hok
  have hlen : p.2.length ≤ ops.size := by simpa using hlen
  have hM : ∀ M, p.1 = some M → ∀ o ∈ ops.toList, ∀ n ∈ M, o.dst ≠ some n := by
    intro M hM o ho n hn e
    rw [hM] at hMc
    simp only at hMc
    have h1 := (Array.all_eq_true_iff_forall_mem.1 hMc) o (Array.mem_toList_iff.1 ho)
    have h2 := (List.all_eq_true.1 h1) n hn
    simp [dstIs, e] at h2
  obtain ⟨hf1, he1⟩ := drew_fr hf
  let Q0 : Exit → Act → World → Prop := fun x a w => match x with | .normal => Q .normal a w | _ => False
  refine Code.wp_mono (Q := Q0) (fun e a w hq => ?_) (wp_region_any hm (wpAny_of_G (R := RG (Gd { c with W := { c.W with drawn := c.W.drawn + 1 } } a p.1)) (str := flagged p.2) _ _ _ _ ?_))
  · cases e <;> first | exact hq | exact hq.elim
  · simp only [runRegion, hp, runPlan] at h
    have hstill : still [] p.2 ≤ ops.size := by
      unfold still
      exact Nat.le_trans List.countP_le_length hlen
    have key : ∀ (s0 : St), Fr X { c with W := { c.W with drawn := c.W.drawn + 1 }, s := s0 } a → runOpsD E ops p.1 true p.2 s0 = some s' →
        wpAnyG P .any ops Q0 (RG (Gd { c with W := { c.W with drawn := c.W.drawn + 1 } } a p.1)) (flagged p.2) ops.size (Array.replicate ops.size false) a { c.W with drawn := c.W.drawn + 1 } := by
      intro s0 hf0 h0
      have he0 : Ext c { c with W := { c.W with drawn := c.W.drawn + 1 }, s := s0 } := ⟨rfl, rfl, rfl, Nat.le_refl _, fun _ _ _ => ⟨rfl, rfl⟩, rfl, fun _ => rfl, fun _ => rfl⟩
      have hE0 := hE.next he0 rfl
      refine plan_sound (E := E) (X := X) (Q0 := Q0) (c0 := { c with W := { c.W with drawn := c.W.drawn + 1 }, s := s0 }) (a0 := a) hE0.tys hops hsel hdst hM (fun _ _ _ h => h) (hEnd.from he0 rfl rfl) p.2 ops.size true (Array.replicate ops.size false) _ [] (fun _ => 0)
        { c with W := { c.W with drawn := c.W.drawn + 1 }, s := s0 } a hgo (Sup.refl _) (fun j hj => by cases hj) hstill ⟨hE0.inv, hf0, hE0, Ext.refl _, rfl, rfl, fun _ _ _ _ => rfl, fun _ b g hr hg => ⟨hg, hr.stable⟩, fun j hj => (by cases hj), fun j k hj => (by cases hj)⟩ h0
    split at h
    · rename_i hnil
      refine key c.s hf1 ?_
      rw [hnil]
      exact h
    · rename_i i k ds l hcons
      split at h
      · rename_i hno
        refine key (c.s.junks ds) (junks_fr hf1 hno) ?_
        rw [hcons]
        exact h
      · cases h
/-- All regions of a function that draw their order have a plan that holds. -/
def drawsOK (ty : Nat → Option TI) (nt : Nat) (plan : Nat → Option Plan) : Code → Bool
  | .region id ops draw => match draw with
    | true => (match plan id with | some p => planOK ty ops p | none => true)
    | false => true
  | .seq a b => drawsOK ty nt plan a && drawsOK ty nt plan b
  | .cond _ a b => drawsOK ty nt plan a && drawsOK ty nt plan b
  | .block _ a => drawsOK ty nt plan a
  | .loop a => drawsOK ty nt plan a
  | _ => true
theorem draws_sound {P : Program} {E : Env} {X : Nat} (hm : P.follows .mixedOrders = true) : ∀ (code : Code), codeOK E.nt code = true → drawsOK E.ty E.nt E.plan code = true → DrawsOK P B E X code
  | .region id ops draw, hk, h => fun hd => by
    subst hd
    have hops : ∀ o ∈ ops.toList, operOK E.nt o = true := List.all_eq_true.1 hk
    have h' : (match E.plan id with | some p => planOK E.ty ops p | none => true) = true := h
    cases hp : E.plan id with
    | none =>
      intro c a s' Q hE hf hr
      simp only [runRegion, hp] at hr
      cases hr
    | some p =>
      rw [hp] at h'
      exact draw_sound hm hp h' hops
  | .seq a b, hk, h => by
    have hk' : (codeOK E.nt a && codeOK E.nt b) = true := hk
    have h' : (drawsOK E.ty E.nt E.plan a && drawsOK E.ty E.nt E.plan b) = true := h
    simp only [Bool.and_eq_true] at hk' h'
    exact ⟨draws_sound hm a hk'.1 h'.1, draws_sound hm b hk'.2 h'.2⟩
  | .cond _ a b, hk, h => by
    have hk' : (codeOK E.nt a && codeOK E.nt b) = true := hk
    have h' : (drawsOK E.ty E.nt E.plan a && drawsOK E.ty E.nt E.plan b) = true := h
    simp only [Bool.and_eq_true] at hk' h'
    exact ⟨draws_sound hm a hk'.1 h'.1, draws_sound hm b hk'.2 h'.2⟩
  | .block _ a, hk, h => draws_sound hm a hk h
  | .loop a, hk, h => draws_sound hm a hk h
  | .skip, hk, h => trivial
  | .rangeFunc _ _ _ _, hk, h => trivial
  | .scope _, hk, h => trivial
  | .refuse _, hk, h => trivial
  | .exit _, hk, h => trivial
  | .ret, hk, h => trivial
  | .label _, hk, h => trivial
  | .goto _, hk, h => trivial
end Go.Den
namespace Go.Den
open Go Go.RowKit
set_option linter.unusedVariables false
variable {B : Nat → Option Obj}
theorem calls_reaches {P : Program} {f : Nat} {fn : Func} {vals : Array Value} {W : World} {R : Value → World → Prop} (hf : P.funcs[f]? = some fn) (hn : (fn.name == "runtime.NumGoroutine") = false) (hb : fn.body.isSome = true) (h : Calls P f vals W fun e w' => ∃ v, e = .returned v ∧ R v w') : Reaches P f vals W R := by
  obtain ⟨code, hbd⟩ := Option.isSome_iff_exists.1 hb
  have hent : (callFunc f vals).run P W = .ok (.enter f vals) W := by
    have h1 : fn.name ≠ "runtime.NumGoroutine" := by simpa using hn
    simp [callFunc, hf, h1, hbd, mark]
  unfold Reaches
  rw [hent]
  refine Calls.mono h fun e w' he => ?_
  obtain ⟨v, rfl, hr⟩ := he
  exact hr
end Go.Den
namespace Go.Den
open Go Go.RowKit
set_option linter.unusedVariables false
variable {B : Nat → Option Obj}
/-- A contract is kept. -/
structure ExtOK (P : Program) (ty : Nat → Option TI) (B : Nat → Option Obj) (f : Nat) (g : List D → List (List D) → List (Option Row) → Option (List D × List (List D) × List (Option Row))) : Prop where mk ::
  out : CallOK P ty B fun f' args u l => if f' = f then g args u l else none
/-- A configuration whose contracts are kept is sound. -/
theorem cfgOK_of {P : Program} {C : Cfg} (h1 : TyOk P C.ty) (h2 : ∀ f fn, C.ext f = none → C.fn f = some fn → FnOK P B C f fn) (h3 : ∀ f g, C.ext f = some g → ExtOK P C.ty B f g) : CfgOK P B C := ⟨h1, h2, fun f g h => (h3 f g h).out⟩
end Go.Den
namespace Go.Den
open Go Go.RowKit
set_option linter.unusedVariables false
variable {B : Nat → Option Obj}
/-- What a call leaves as it was. -/
structure Kept0 (w w' : World) : Prop where
  os : w'.os = w.os
  tape : w'.tape = w.tape
  output : w'.output = w.output
  size : w.heap.size ≤ w'.heap.size
  keep : ∀ g, g < w.heap.size → w'.heap[g]? = w.heap[g]?
theorem Kept0.refl (w : World) : Kept0 w w := ⟨rfl, rfl, rfl, Nat.le_refl _, fun _ _ => rfl⟩
theorem Kept0.trans {a b c : World} (h : Kept0 a b) (k : Kept0 b c) : Kept0 a c :=
  ⟨k.os.trans h.os, k.tape.trans h.tape, k.output.trans h.output, Nat.le_trans h.size k.size, fun g hg => (k.keep g (Nat.lt_of_lt_of_le hg h.size)).trans (h.keep g hg)⟩
theorem Kept0.alloc (w : World) (o : Obj) : Kept0 w (w.alloc o) := ⟨rfl, rfl, rfl, by simp, fun g hg => Below.heap_alloc w o g hg⟩
theorem Kept0.drew (w : World) : Kept0 w w.drew := ⟨rfl, rfl, rfl, Nat.le_refl _, fun _ _ => rfl⟩
def valsOf : List D → Option (List Value)
  | [] => some []
  | .dat (.val v) :: ds => (valsOf ds).map (v :: ·)
  | _ => none
def DV (v : Value) : D := .dat (.val v)
def extVal (φ : List Value → Option (List Value)) (args : List D) (u : List (List D)) (l : List (Option Row)) : Option (List D × List (List D) × List (Option Row)) :=
  match u, l with
  | [], [] => (valsOf args).bind fun vs => (φ vs).map fun rs => (rs.map DV, [], [])
  | _, _ => none
def retV : List Value → Value
  | [v] => v
  | vs => .tuple vs.toArray
theorem valsOf_at {c : Cx} {tm : Array Value} (hs : ∀ x, VR c (.slot x []) (c.s.t x) (tm.getD x undef)) : ∀ {args : List D} {vs : List Value} (k : Nat), valsOf args = some vs → (∀ i d, args[i]? = some d → c.s.t (k + i) = d) → vs.length = args.length ∧ ∀ i v, vs[i]? = some v → tm.getD (k + i) undef = v
  | [], vs, k, h, ht => by cases h; exact ⟨rfl, fun i v hv => by simp at hv⟩
  | d :: ds, vs, k, h, ht => by
    unfold valsOf at h
    split at h
    · rename_i h0; cases h0
    · rename_i w ds' h0
      cases h0
      obtain ⟨ws, hw, rfl⟩ := Option.map_eq_some_iff.1 h
      obtain ⟨h1, h2⟩ := valsOf_at hs (k + 1) hw (fun i d hd => by rw [show k + 1 + i = k + (i + 1) by omega]; exact ht (i + 1) d (by simpa using hd))
      refine ⟨by simp [h1], fun i v hv => ?_⟩
      cases i with
      | zero =>
        cases hv
        have h3 := hs (k + 0)
        rw [ht 0 _ rfl] at h3
        exact (vr_val h3).1
      | succ i => rw [show k + (i + 1) = k + 1 + i by omega]; exact h2 i v (by simpa using hv)
    · cases h
theorem vrs_of {c : Cx} {p : Pl} : ∀ (rs : List Value) (i : Nat), (∀ r ∈ rs, scal r = true) → VRs c p i (rs.map DV) rs
  | [], i, h => rfl
  | r :: rs, i, h => ⟨r, rs, rfl, dat_vr (h r (by simp)), vrs_of rs (i + 1) fun x hx => h x (List.mem_cons_of_mem _ hx)⟩
theorem tights_of (b : Bool) : ∀ rs : List Value, D.tights b (rs.map DV) = true
  | [] => rfl
  | r :: rs => by
    show (D.tight b (DV r) && D.tights b (rs.map DV)) = true
    rw [tights_of b rs]
    rfl
theorem plains_of : ∀ rs : List Value, D.plains (rs.map DV) = true
  | [] => rfl
  | r :: rs => by
    show (D.plain (DV r) && D.plains (rs.map DV)) = true
    rw [plains_of rs]
    rfl
theorem extVal_ok {P : Program} {ty : Nat → Option TI} {f : Nat} {φ : List Value → Option (List Value)}
    (h : ∀ vs rs W, (∀ (g : Nat) (o : Obj), B g = some o → W.heap[g]? = some o) → φ vs = some rs → rs ≠ [] ∧ (∀ r ∈ rs, scal r = true) ∧ Reaches P f vs.toArray W fun r W' => r = retV rs ∧ Kept0 W W') :
    CallOK P ty B fun f' args u l => if f' = f then extVal φ args u l else none := by
  intro f' args u l rs u' l' hc c vals hcty hI hcs hsz2 hs
  simp only at hc
  split at hc
  · rename_i hff
    subst hff
    unfold extVal at hc
    split at hc
    · simp only [Option.bind_eq_some_iff, Option.map_eq_some_iff] at hc
      obtain ⟨vs, hv, ws, hw, hq⟩ := hc
      cases hq
      obtain ⟨hne, hsc, hr⟩ := h vs ws c.W (fun g o hg => (hI g o hg).2) hw
      obtain ⟨h1, h2⟩ := valsOf_at (c := c) (tm := vals) hs.slots 0 hv (fun i d hd => by
        rw [hcs]
        show args.getD (0 + i) .undef = d
        rw [Nat.zero_add, List.getD_eq_getElem?_getD, hd]
        rfl)
      have hvals : vals = vs.toArray := by
        apply Array.ext
        · simp [hsz2, h1]
        · intro i hi1 hi2
          have hi3 : i < vs.length := by simpa using hi2
          have := h2 i vs[i] (List.getElem?_eq_getElem hi3)
          rw [Nat.zero_add] at this
          simpa [Array.getD, hi1] using this
      rw [hvals]
      refine hr.mono fun r W' hrr => ?_
      obtain ⟨rfl, hk⟩ := hrr
      refine ⟨{ c with W := W', s := ⟨fun x => match Nat.beq x 0 with | true => retD (ws.map DV) | false => .junk, fun _ => none, [], []⟩ }, rfl, Ans.of (plains_of ws) ⟨?_, rfl, ?_, ?_, ?_⟩⟩
      · exact ⟨hk.os, hk.tape, hk.output, hk.size, fun g hg _ => ⟨rfl, hk.keep g hg⟩, rfl, fun _ => rfl, fun _ => rfl⟩
      · refine ⟨fun x => ?_, fun r cs hb => ?_, fun j r hgj => ?_⟩
        · show VR _ _ (match Nat.beq x 0 with | true => retD (ws.map DV) | false => .junk) _
          cases hx : Nat.beq x 0 with
          | true =>
            have := Nat.eq_of_beq_eq_true hx
            subst this
            match ws, hne, hsc with
            | [w], _, hsc => exact dat_vr (hsc w (by simp))
            | w :: w2 :: ws, _, hsc => exact ⟨w :: w2 :: ws, rfl, fun e => (by cases e), vrs_of (w :: w2 :: ws) 0 hsc⟩
          | false => trivial
        · cases r with
          | loc n => cases hb
          | up n =>
            have hb' : ([] : List (List D))[n]? = some cs := hb
            simp at hb'
        · have hgj' : (([] : List (Option Row))[j]?).bind id = some r := hgj
          simp at hgj'
      · match ws, hne with
        | [w], _ => rfl
        | w :: w2 :: ws, _ => exact tights_of false (w :: w2 :: ws)
      · rw [hcs]
        rfl
    · cases hc
  · cases hc
theorem extVal_of {P : Program} {ty : Nat → Option TI} {f : Nat} {fn : Func} {φ : List Value → Option (List Value)} (hf : P.funcs[f]? = some fn) (hn : (fn.name == "runtime.NumGoroutine") = false) (hb : fn.body.isSome = true)
    (h : ∀ vs rs W, φ vs = some rs → rs ≠ [] ∧ (∀ r ∈ rs, scal r = true) ∧ Calls P f vs.toArray W fun e w' => ∃ v, e = .returned v ∧ (v = retV rs ∧ Kept0 W w')) : ExtOK P ty B f (extVal φ) :=
  ⟨extVal_ok fun vs rs W _ hv => ⟨(h vs rs W hv).1, (h vs rs W hv).2.1, calls_reaches hf hn hb (h vs rs W hv).2.2⟩⟩
/-- The same, where the contract asks for what stands in blocks that nobody touches. -/
theorem extValW_of {P : Program} {ty : Nat → Option TI} {f : Nat} {fn : Func} {φ : List Value → Option (List Value)} (hf : P.funcs[f]? = some fn) (hn : (fn.name == "runtime.NumGoroutine") = false) (hb : fn.body.isSome = true)
    (h : ∀ vs rs W, (∀ (g : Nat) (o : Obj), B g = some o → W.heap[g]? = some o) → φ vs = some rs → rs ≠ [] ∧ (∀ r ∈ rs, scal r = true) ∧ Calls P f vs.toArray W fun e w' => ∃ v, e = .returned v ∧ (v = retV rs ∧ Kept0 W w')) : ExtOK P ty B f (extVal φ) :=
  ⟨extVal_ok fun vs rs W hB hv => ⟨(h vs rs W hB hv).1, (h vs rs W hB hv).2.1, calls_reaches hf hn hb (h vs rs W hB hv).2.2⟩⟩
end Go.Den
namespace Go.Proofs
open Go.Shelf
def Tryd.laysM246_ren : Go.Shelf.Ren := ⟨fun | 246 => 120 | 283 => 133 | 284 => 134 | 285 => 135 | 286 => 136 | 129 => 142 | 317 => 141 | 318 => 143 | 319 => 144 | 320 => 145 | 337 => 152 | 338 => 153 | n => n, fun | 2 => 2 | 3 => 3 | 9 => 9 | 4 => 4 | 171 => 154 | 0 => 0 | 53 => 90 | 37 => 45 | 5 => 5 | 173 => 157 | 212 => 162 | 51 => 163 | 20 => 20 | 213 => 164 | 46 => 137 | 232 => 180 | 233 => 181 | n => n, fun | 17 => 0 | 18 => 3 | 19 => 4 | n => n⟩
def Tryd.laysM243_ren : Go.Shelf.Ren := ⟨fun | 243 => 90 | 246 => 120 | 283 => 133 | 284 => 134 | 285 => 135 | 286 => 136 | 129 => 142 | 317 => 141 | 318 => 143 | 319 => 144 | 320 => 145 | 337 => 152 | 338 => 153 | n => n, fun | 3 => 3 | 9 => 9 | 2 => 2 | 4 => 4 | 171 => 154 | 0 => 0 | 53 => 90 | 37 => 45 | 5 => 5 | 173 => 157 | 212 => 162 | 51 => 163 | 20 => 20 | 213 => 164 | 46 => 137 | 232 => 180 | 233 => 181 | n => n, fun | 17 => 0 | 18 => 3 | 19 => 4 | n => n⟩
def Tryd.laysM171_ren : Go.Shelf.Ren := ⟨fun | 171 => 74 | 243 => 90 | 246 => 120 | 283 => 133 | 284 => 134 | 285 => 135 | 286 => 136 | 129 => 142 | 317 => 141 | 318 => 143 | 319 => 144 | 320 => 145 | 337 => 152 | 338 => 153 | n => n, fun | 3 => 3 | 9 => 9 | 2 => 2 | 4 => 4 | 171 => 154 | 0 => 0 | 53 => 90 | 37 => 45 | 5 => 5 | 173 => 157 | 212 => 162 | 51 => 163 | 20 => 20 | 213 => 164 | 46 => 137 | 232 => 180 | 233 => 181 | n => n, fun | 17 => 0 | 18 => 3 | 19 => 4 | n => n⟩
theorem Tryd.laysM171 : Go.Proofs.LaysM.n171 Tryd.prog Tryd.laysM171_ren := {
  mixed := by kernel_rfl
  f129 := Tryd.func142.trans (congrArg some (by kernel_rfl))
  f171 := Tryd.func74.trans (congrArg some (by kernel_rfl))
  f243 := Tryd.func90.trans (congrArg some (by kernel_rfl))
  f246 := Tryd.func120.trans (congrArg some (by kernel_rfl))
  f283 := Tryd.func133.trans (congrArg some (by kernel_rfl))
  f284 := Tryd.func134.trans (congrArg some (by kernel_rfl))
  f285 := Tryd.func135.trans (congrArg some (by kernel_rfl))
  f286 := Tryd.func136.trans (congrArg some (by kernel_rfl))
  f317 := Tryd.func141.trans (congrArg some (by kernel_rfl))
  f318 := Tryd.func143.trans (congrArg some (by kernel_rfl))
  f319 := Tryd.func144.trans (congrArg some (by kernel_rfl))
  f320 := Tryd.func145.trans (congrArg some (by kernel_rfl))
  f337 := Tryd.func152.trans (congrArg some (by kernel_rfl))
  f338 := Tryd.func153.trans (congrArg some (by kernel_rfl))
  t0 := Tryd.underlying0
  a0 := Tryd.isAgg0
  z0 := Tryd.sizeOf0
  v0 := Tryd.zeroValue0
  t2 := Tryd.underlying2
  a2 := Tryd.isAgg2
  z2 := Tryd.sizeOf2
  v2 := Tryd.zeroValue2
  t3 := Tryd.underlying3
  a3 := Tryd.isAgg3
  z3 := Tryd.sizeOf3
  v3 := Tryd.zeroValue3
  t4 := Tryd.underlying4
  a4 := Tryd.isAgg4
  z4 := Tryd.sizeOf4
  v4 := Tryd.zeroValue4
  t5 := Tryd.underlying5
  a5 := Tryd.isAgg5
  z5 := Tryd.sizeOf5
  v5 := Tryd.zeroValue5
  t9 := Tryd.underlying9
  a9 := Tryd.isAgg9
  z9 := Tryd.sizeOf9
  v9 := Tryd.zeroValue9
  t20 := Tryd.underlying20
  a20 := Tryd.isAgg20
  z20 := Tryd.sizeOf20
  v20 := Tryd.zeroValue20
  t37 := Tryd.underlying45
  a37 := Tryd.isAgg45
  z37 := Tryd.sizeOf45
  v37 := Tryd.zeroValue45
  t46 := Tryd.underlying137
  a46 := Tryd.isAgg137
  z46 := Tryd.sizeOf137
  v46 := Tryd.zeroValue137
  t51 := Tryd.underlying163
  a51 := Tryd.isAgg163
  z51 := Tryd.sizeOf163
  v51 := Tryd.zeroValue163
  t53 := Tryd.underlying90
  a53 := Tryd.isAgg90
  z53 := Tryd.sizeOf90
  v53 := Tryd.zeroValue90
  t171 := Tryd.underlying154
  a171 := Tryd.isAgg154
  z171 := Tryd.sizeOf154
  v171 := Tryd.zeroValue154
  t173 := Tryd.underlying157
  a173 := Tryd.isAgg157
  z173 := Tryd.sizeOf157
  v173 := Tryd.zeroValue157
  t212 := Tryd.underlying162
  a212 := Tryd.isAgg162
  z212 := Tryd.sizeOf162
  v212 := Tryd.zeroValue162
  t213 := Tryd.underlying164
  a213 := Tryd.isAgg164
  z213 := Tryd.sizeOf164
  t232 := Tryd.underlying180
  a232 := Tryd.isAgg180
  z232 := Tryd.sizeOf180
  v232 := Tryd.zeroValue180
  t233 := Tryd.underlying181
  a233 := Tryd.isAgg181
  z233 := Tryd.sizeOf181
  v233 := Tryd.zeroValue181
  g17 := by kernel_rfl
  g18 := by kernel_rfl
  g19 := by kernel_rfl
  i0 := by kernel_rfl
  i2 := by kernel_rfl
  i3 := by kernel_rfl
  i4 := by kernel_rfl
  i5 := by kernel_rfl
  i9 := by kernel_rfl
  i20 := by kernel_rfl
  i37 := by kernel_rfl
  i46 := by kernel_rfl
  i51 := by kernel_rfl
  i53 := by kernel_rfl
  i171 := by kernel_rfl
  i173 := by kernel_rfl
  i212 := by kernel_rfl
  i232 := by kernel_rfl
  i233 := by kernel_rfl
  m17 := by kernel_rfl
  m18 := by kernel_rfl
  m19 := by kernel_rfl }
open Go.RowKit Go.Sort Go.Lib in
/-- strconv.Itoa: "Itoa is equivalent to FormatInt(int64(i), 10).": i's DECIMAL NUMERAL ('Lib.itoa': a '-' where i is negative, then the digits), FOR EVERY int. The world behind the call: the world before it, new blocks behind the heap (the library's 'var a [24]byte'), draws. (LAID: no walk: one application.) -/
theorem Tryd.strconv_Itoa (n : Int) (h0 : -9223372036854775808 ≤ n) (h1 : n ≤ 9223372036854775807) (w : World) (htab : Lib.TabIs Tryd.prog w "internal/strconv.uint64pow10" .u64 Lib.pow10Tab) :
    Calls Tryd.prog 74 #[.int .i64 n] w fun e w' => e = .returned (.string ⟨(Lib.itoa n).toArray⟩) ∧ ∃ k os, w' = grow (w.drewN k) os := Any.strconv_Itoa Tryd.laysM171 n h0 h1 w htab
end Go.Proofs
namespace Go.Proofs.YtcmcfebihbmmeaaDoor
open Go Go.RowKit Go.Proofs
open Go.Den (Kept0 ExtOK extVal extVal_ok calls_reaches scal retV)
set_option linter.unusedVariables false
theorem hf72 : Tryd.prog.funcs[72]? = some Tryd.f72 := by kernel_rfl
theorem hn72 : Tryd.f72.ntmps = 28 := by kernel_rfl
theorem u45 : Tryd.prog.underlying 45 = some (.slice 5) := by kernel_rfl
theorem u5 : Tryd.prog.underlying 5 = some (.int .u8) := by kernel_rfl
theorem u9 : Tryd.prog.underlying 9 = some .string := by kernel_rfl
theorem conv1 (w : World) (b : Int) (h0 : 0 ≤ b) (h1 : b < 256) : (convert 45 9 (.slice (some ⟨w.heap.size, 0, none⟩) 1 1)).run Tryd.prog (w.alloc (.cells #[.int .u8 b] 5)) = .ok (.string ⟨#[UInt8.ofNat b.toNat]⟩) (w.alloc (.cells #[.int .u8 b] 5)) := by
  have := run_convert_bytes_back (P := Tryd.prog) (w.alloc (.cells #[.int .u8 b] 5)) 45 9 5 ⟨w.heap.size, 0, none⟩ 1 [UInt8.ofNat b.toNat] u45 u5 u9 (fun j hj => by
    have : j = 0 := by simpa using hj
    subst this
    have hb : ((UInt8.ofNat b.toNat).toNat : Int) = b := by
      rw [UInt8.toNat_ofNat']
      omega
    show (w.alloc (.cells #[.int .u8 b] 5)).cell? ⟨w.heap.size, 0, none⟩ = some (.int .u8 ((UInt8.ofNat b.toNat).toNat : Int))
    rw [World.cell?_alloc_mark, hb]
    rfl)
  exact this
set_option maxRecDepth 100000 in
set_option maxHeartbeats 2000000 in
theorem l1_small (n : Int) (h0 : 0 ≤ n) (h9 : n < 10) (w : World) :
    Calls Tryd.prog 72 #[.int .i64 n] w fun e w' => e = .returned (.string ⟨#[UInt8.ofNat (48 + n).toNat]⟩) ∧ Kept0 w w' := by
  have kc := fun w : World => conv1 w (48 + n) (by omega) (by omega)
  go_enter hf72, hn72
  unfold Tryd.f72
  go_wp2
  refine bodyPost_ret (v := .string ⟨#[UInt8.ofNat (48 + n).toNat]⟩) (by simp [results, go_sem]) rfl ?_
  exact ⟨rfl, Kept0.alloc w _⟩
theorem conv2 (W : World) (g : Nat) (b : Int) (h0 : 0 ≤ b) (h1 : b < 256) (hc : W.cell? ⟨g, 0, none⟩ = some (.int .u8 b)) : (convert 45 9 (.slice (some ⟨g, 0, none⟩) 1 1)).run Tryd.prog W = .ok (.string ⟨#[UInt8.ofNat b.toNat]⟩) W := by
  have := run_convert_bytes_back (P := Tryd.prog) W 45 9 5 ⟨g, 0, none⟩ 1 [UInt8.ofNat b.toNat] u45 u5 u9 (fun j hj => by
    have : j = 0 := by simpa using hj
    subst this
    have hb : ((UInt8.ofNat b.toNat).toNat : Int) = b := by
      rw [UInt8.toNat_ofNat']
      omega
    show W.cell? ⟨g, 0, none⟩ = some (.int .u8 ((UInt8.ofNat b.toNat).toNat : Int))
    rw [hc, hb])
  exact this
theorem cell_keep {W w' : World} {g : Nat} {v : Value} (hc : W.cell? ⟨g, 0, none⟩ = some v) (hg : g < W.heap.size) (hk : Kept0 W w') : w'.cell? ⟨g, 0, none⟩ = some v := by
  have h1 := hk.keep g hg
  unfold World.cell? at hc ⊢
  rw [h1]
  exact hc
set_option maxRecDepth 100000 in
set_option maxHeartbeats 2000000 in
theorem l1_step (n : Int) (h0 : 10 ≤ n) (h9 : n ≤ 9223372036854775807) (q : ByteArray) (hq : ∀ w, Calls Tryd.prog 72 #[.int .i64 (IntKind.i64.wrap (n.tdiv 10))] w fun e w' => e = .returned (.string q) ∧ Kept0 w w') (hsz : q.size ≤ 30) (w : World) :
    Calls Tryd.prog 72 #[.int .i64 n] w fun e w' => e = .returned (.string (q ++ ⟨#[UInt8.ofNat (IntKind.u8.wrap (IntKind.i64.wrap (48 + n.tmod 10))).toNat]⟩)) ∧ Kept0 w w' := by
  have hm0 := Int.tmod_nonneg 10 (show 0 ≤ n by omega)
  have hm1 := Int.tmod_lt_of_pos n (show 0 < 10 by omega)
  have hb : IntKind.u8.wrap (IntKind.i64.wrap (48 + n.tmod 10)) = 48 + n.tmod 10 := by simp [IntKind.wrap, IntKind.bits, IntKind.signed]; omega
  have hb0 : 0 ≤ IntKind.u8.wrap (IntKind.i64.wrap (48 + n.tmod 10)) := by rw [hb]; omega
  have hb1 : IntKind.u8.wrap (IntKind.i64.wrap (48 + n.tmod 10)) < 256 := by rw [hb]; omega
  have kc := fun w : World => conv1 w (IntKind.u8.wrap (IntKind.i64.wrap (48 + n.tmod 10))) hb0 hb1
  have kc2 : ∀ w : World, (convert 45 9 (.slice (some ⟨w.heap.size, 0, none⟩) 1 1)).run Tryd.prog (w.alloc (.cells #[.int .u8 (IntKind.u8.wrap (IntKind.i64.wrap (48 + n.tmod 10)))] 5)).drew = .ok (.string ⟨#[UInt8.ofNat (IntKind.u8.wrap (IntKind.i64.wrap (48 + n.tmod 10))).toNat]⟩) (w.alloc (.cells #[.int .u8 (IntKind.u8.wrap (IntKind.i64.wrap (48 + n.tmod 10)))] 5)).drew := fun w => conv2 _ _ _ hb0 hb1 (by show (World.alloc _ _).cell? _ = _; rw [World.cell?_alloc_mark]; rfl)
  have hs2 : ¬ (9223372036854775807 < (q.size : Int) + 1) := by omega
  have hs3 : ¬ (9223372036854775807 < q.size + 1) := by omega
  clear hb
  go_enter hf72, hn72
  unfold Tryd.f72
  go_wp2
  go_region_with (go_at_call 72; refine (hq _).mono ?_; rintro e w' ⟨rfl, hk⟩; try (have kd : (convert 45 9 (.slice (some ⟨w.heap.size, 0, none⟩) 1 1)).run Tryd.prog w' = .ok (.string ⟨#[UInt8.ofNat (IntKind.u8.wrap (IntKind.i64.wrap (48 + n.tmod 10))).toNat]⟩) w' := conv2 _ _ _ hb0 hb1 (cell_keep (by first | (rw [World.cell?_alloc_mark]; rfl) | (show (World.alloc _ _).cell? _ = _; rw [World.cell?_alloc_mark]; rfl) | (go_simp; done) | (simp; done)) (by first | (simp; done) | (show _ < (World.alloc _ _).heap.size; simp; done)) hk)))
  all_goals (try go_wp2)
  all_goals (refine bodyPost_ret (v := .string (q ++ ⟨#[UInt8.ofNat (IntKind.u8.wrap (IntKind.i64.wrap (48 + n.tmod 10))).toNat]⟩)) (by first | (simp [results, go_sem]; done) | rfl) rfl ?_)
  all_goals refine ⟨rfl, ?_⟩
  all_goals first
    | exact (Kept0.drew w).trans (hk.trans (Kept0.alloc _ _))
    | exact (Kept0.alloc w _).trans ((Kept0.drew _).trans hk)
    | exact (Kept0.alloc w _).trans hk
    | exact ((Kept0.drew w).trans (Kept0.alloc _ _)).trans hk
    | exact ((Kept0.drew w).trans (Kept0.alloc _ _)).trans ((Kept0.drew _).trans hk)
    | trace_state
theorem dec_len : ∀ (k u : Nat), u < 10 ^ (k + 1) → (Lib.decDigits u).length ≤ k + 1
  | 0, u, h => by
    rw [Lib.decDigits, dif_pos (by simpa using h)]
    simp
  | k + 1, u, h => by
    rw [Lib.decDigits]
    split
    · simp
    · have h2 : u / 10 < 10 ^ (k + 1) := by
        rw [Nat.div_lt_iff_lt_mul (by omega)]
        rw [Nat.pow_succ] at h
        exact h
      have := dec_len k (u / 10) h2
      simp
      omega
theorem l1_pos : ∀ (m : Nat) (n : Int), 0 ≤ n → n.toNat ≤ m → n ≤ 9223372036854775807 → ∀ w : World, Calls Tryd.prog 72 #[.int .i64 n] w fun e w' => e = .returned (.string ⟨(Lib.decDigits n.toNat).toArray⟩) ∧ Kept0 w w' := by
  intro m
  induction m with
  | zero =>
    intro n h0 hm h1 w
    have : n = 0 := by omega
    subst this
    have := l1_small 0 (by omega) (by omega) w
    rw [show (Lib.decDigits (0 : Int).toNat).toArray = #[UInt8.ofNat (48 + 0 : Int).toNat] by rw [Lib.decDigits, dif_pos (by decide)]; rfl]
    exact this
  | succ m ih =>
    intro n h0 hm h1 w
    by_cases h9 : n < 10
    · have := l1_small n h0 h9 w
      rw [Lib.decDigits, dif_pos (by omega), show 48 + n.toNat = (48 + n).toNat by omega]
      exact this
    · have hq : IntKind.i64.wrap (n.tdiv 10) = n / 10 := by
        rw [Int.tdiv_eq_ediv_of_nonneg (by omega)]
        simp [IntKind.wrap, IntKind.bits, IntKind.signed]; omega
      have hqn : (n / 10).toNat = n.toNat / 10 := by omega
      have h30 : (10 : Nat) ^ (29 + 1) = 1000000000000000000000000000000 := by decide
      have hl : (Lib.decDigits (n.toNat / 10)).length ≤ 30 := dec_len 29 _ (by rw [h30]; omega)
      have := l1_step n (by omega) h1 ⟨(Lib.decDigits (n.toNat / 10)).toArray⟩ (fun w => by
        rw [hq]
        have := ih (n / 10) (by omega) (by omega) (by omega) w
        rw [hqn] at this
        exact this) (by show (Lib.decDigits (n.toNat / 10)).toArray.size ≤ 30; simpa using hl) w
      have hb : IntKind.u8.wrap (IntKind.i64.wrap (48 + n.tmod 10)) = 48 + n % 10 := by
        rw [Int.tmod_eq_emod_of_nonneg (by omega)]
        simp [IntKind.wrap, IntKind.bits, IntKind.signed]; omega
      have hd : Lib.decDigits n.toNat = Lib.decDigits (n.toNat / 10) ++ [UInt8.ofNat (48 + n.toNat % 10)] := by
        rw [Lib.decDigits, dif_neg (by omega)]
      have e : (⟨(Lib.decDigits (n.toNat / 10)).toArray⟩ : ByteArray) ++ ⟨#[UInt8.ofNat (IntKind.u8.wrap (IntKind.i64.wrap (48 + n.tmod 10))).toNat]⟩ = ⟨(Lib.decDigits n.toNat).toArray⟩ := by
        rw [hb, hd, show (48 + n % 10).toNat = 48 + n.toNat % 10 by omega]
        apply ByteArray.ext
        simp
      rw [e] at this
      exact this
set_option maxRecDepth 100000 in
set_option maxHeartbeats 2000000 in
theorem l1_neg (n : Int) (h0 : n < 0) (h1 : -9223372036854775808 < n) (w : World) : Calls Tryd.prog 72 #[.int .i64 n] w fun e w' => e = .returned (.string (⟨#[45]⟩ ++ ⟨(Lib.decDigits (-n).toNat).toArray⟩)) ∧ Kept0 w w' := by
  have hc := fun w => l1_pos _ (-n) (by omega) (Nat.le_refl _) (by omega) w
  have h30 : (10 : Nat) ^ (29 + 1) = 1000000000000000000000000000000 := by decide
  have hl : (Lib.decDigits (-n).toNat).length ≤ 30 := dec_len 29 _ (by rw [h30]; omega)
  have hs : (⟨(Lib.decDigits (-n).toNat).toArray⟩ : ByteArray).size ≤ 30 := by show (Lib.decDigits (-n).toNat).toArray.size ≤ 30; simpa using hl
  generalize (⟨(Lib.decDigits (-n).toNat).toArray⟩ : ByteArray) = q at *
  have hw : IntKind.i64.wrap (-n) = -n := by simp [IntKind.wrap, IntKind.bits, IntKind.signed]; omega
  have hw2 : IntKind.i64.wrap (0 - n) = -n := by rw [Int.zero_sub]; exact hw
  have hs2 : ¬ (9223372036854775807 < 1 + q.size) := by omega
  have hs3 : ¬ (9223372036854775807 < 1 + (q.size : Int)) := by omega
  go_enter hf72, hn72
  unfold Tryd.f72
  go_wp2_with (go_at_call 72; (try rw [hw2]); (try rw [hw]); refine (hc _).mono ?_; rintro e w' ⟨rfl, hk⟩)
  refine bodyPost_ret (v := .string (⟨#[45]⟩ ++ q)) (by first | (simp [results, go_sem]; done) | rfl) rfl ?_
  exact ⟨rfl, hk⟩
def decF : Nat → Nat → List UInt8
  | 0, u => []
  | k + 1, u => if u < 10 then [UInt8.ofNat (48 + u)] else decF k (u / 10) ++ [UInt8.ofNat (48 + u % 10)]
theorem dec_eq : ∀ (k u : Nat), u < 10 ^ (k + 1) → Lib.decDigits u = decF (k + 1) u
  | 0, u, h => by
    rw [Lib.decDigits, dif_pos (by simpa using h)]
    simp only [decF]
    rw [if_pos (by simpa using h)]
  | k + 1, u, h => by
    rw [Lib.decDigits]
    unfold decF
    split
    · rfl
    · rename_i h1
      have h2 : u / 10 < 10 ^ (k + 1) := by
        rw [Nat.div_lt_iff_lt_mul (by omega)]
        rw [Nat.pow_succ] at h
        exact h
      rw [dec_eq k (u / 10) h2]
theorem dec_min : (⟨(Lib.itoa (-9223372036854775808)).toArray⟩ : ByteArray) = ⟨#[45, 57, 50, 50, 51, 51, 55, 50, 48, 51, 54, 56, 53, 52, 55, 55, 53, 56, 48, 56]⟩ := by
  have h : Lib.itoa (-9223372036854775808) = 45 :: Lib.decDigits 9223372036854775808 := by
    unfold Lib.itoa
    rw [if_pos (by decide)]
    rfl
  rw [h, dec_eq 20 9223372036854775808 (by decide)]
  rfl
set_option maxRecDepth 100000 in
set_option maxHeartbeats 2000000 in
theorem l1_min (w : World) : Calls Tryd.prog 72 #[.int .i64 (-9223372036854775808)] w fun e w' => e = .returned (.string ⟨#[45, 57, 50, 50, 51, 51, 55, 50, 48, 51, 54, 56, 53, 52, 55, 55, 53, 56, 48, 56]⟩) ∧ Kept0 w w' := by
  go_enter hf72, hn72
  unfold Tryd.f72
  go_wp2
  refine bodyPost_ret (v := .string ⟨#[45, 57, 50, 50, 51, 51, 55, 50, 48, 51, 54, 56, 53, 52, 55, 55, 53, 56, 48, 56]⟩) (by first | (simp [results, go_sem]; done) | rfl) rfl ?_
  exact ⟨rfl, Kept0.refl w⟩
/-- A number, as a text. -/
def num (n : Int) : ByteArray := ⟨(Lib.itoa n).toArray⟩
def numV : List Value → Option (List Value)
  | [.int .i64 n] => if -9223372036854775808 ≤ n ∧ n ≤ 9223372036854775807 then some [.string (num n)] else none
  | _ => none
theorem l1_all (n : Int) (h0 : -9223372036854775808 ≤ n) (h1 : n ≤ 9223372036854775807) (w : World) : Calls Tryd.prog 72 #[.int .i64 n] w fun e w' => e = .returned (.string (num n)) ∧ Kept0 w w' := by
  by_cases hn : n < 0
  · by_cases hm : n = -9223372036854775808
    · subst hm
      unfold num
      rw [dec_min]
      exact l1_min w
    · have := l1_neg n hn (by omega) w
      have e : (⟨#[45]⟩ : ByteArray) ++ ⟨(Lib.decDigits (-n).toNat).toArray⟩ = num n := by
        unfold num Lib.itoa
        rw [if_pos hn, show n.natAbs = (-n).toNat by omega]
        apply ByteArray.ext
        simp
      rw [e] at this
      exact this
  · have := l1_pos _ n (by omega) (Nat.le_refl _) h1 w
    unfold num Lib.itoa
    rw [if_neg hn]
    exact this
theorem l1_calls (vs rs : List Value) (W : World) (h : numV vs = some rs) : rs ≠ [] ∧ (∀ r ∈ rs, scal r = true) ∧ Calls Tryd.prog 72 vs.toArray W fun e w' => ∃ v, e = .returned v ∧ (v = retV rs ∧ Kept0 W w') := by
  unfold numV at h
  split at h
  · rename_i n
    split at h
    · rename_i hn
      cases h
      refine ⟨by simp, fun r hr => (by rw [List.mem_singleton] at hr; subst hr; rfl), (l1_all n hn.1 hn.2 W).mono fun e w' he => ?_⟩
      obtain ⟨rfl, hk⟩ := he
      exact ⟨_, rfl, rfl, hk⟩
    · cases h
  · cases h
theorem kept_grow (w : World) (k : Nat) (os : Array Obj) : Kept0 w (Sort.grow (w.drewN k) os) :=
  ⟨rfl, rfl, rfl, by show (w.drewN k).heap.size ≤ ((w.drewN k).heap ++ os).size; simp, fun g hg => by
    show ((w.drewN k).heap ++ os)[g]? = _
    rw [Array.getElem?_append_left (by exact hg)]
    rfl⟩
/-- The blocks that nobody touches hold Itoa's table. -/
def TabAt (B : Nat → Option Obj) : Prop := ∀ W : World, (∀ (g : Nat) (o : Obj), B g = some o → W.heap[g]? = some o) → Lib.TabIs Tryd.prog W "internal/strconv.uint64pow10" .u64 Lib.pow10Tab
/-- What stands in a package variable's block, and nothing else. -/
noncomputable def blockOf (P : Program) (W : World) (n : String) (g : Nat) : Option Obj := if P.globalNamed n = some g then W.heap[g]? else none
theorem block_of {P : Program} {W : World} {n : String} {g : Nat} {o : Obj} (h : blockOf P W n g = some o) : W.heap[g]? = some o := by
  unfold blockOf at h
  split at h
  · exact h
  · cases h
theorem tabAt_of {W : World} (h : Lib.TabIs Tryd.prog W "internal/strconv.uint64pow10" .u64 Lib.pow10Tab) : TabAt (blockOf Tryd.prog W "internal/strconv.uint64pow10") := fun W' hW => by
  unfold Lib.TabIs World.var? at *
  cases hg : Tryd.prog.globalNamed "internal/strconv.uint64pow10" with
  | none => rw [hg] at h; cases h
  | some g =>
    rw [hg] at h
    simp only [Option.bind_some] at h ⊢
    cases ho : W.heap[g]? with
    | none => rw [ho] at h; cases h
    | some o =>
      have := hW g o (by unfold blockOf; rw [if_pos hg]; exact ho)
      rw [this]
      rw [ho] at h
      exact h
theorem itoa_calls {B : Nat → Option Obj} (hB : TabAt B) (vs rs : List Value) (W : World) (hW : ∀ (g : Nat) (o : Obj), B g = some o → W.heap[g]? = some o) (h : numV vs = some rs) : rs ≠ [] ∧ (∀ r ∈ rs, scal r = true) ∧ Calls Tryd.prog 74 vs.toArray W fun e w' => ∃ v, e = .returned v ∧ (v = retV rs ∧ Kept0 W w') := by
  unfold numV at h
  split at h
  · rename_i n
    split at h
    · rename_i hn
      cases h
      refine ⟨by simp, fun r hr => (by rw [List.mem_singleton] at hr; subst hr; rfl), (Tryd.strconv_Itoa n hn.1 hn.2 W (hB W hW)).mono fun e w' he => ?_⟩
      obtain ⟨rfl, k, os, rfl⟩ := he
      exact ⟨_, rfl, rfl, kept_grow W k os⟩
    · cases h
  · cases h
end Go.Proofs.YtcmcfebihbmmeaaDoor
namespace Go.Den
open Go
def tys : List (Nat × TI) := [(2, ⟨.int .i64, 1, 8, [], [.dat (.val (.int .i64 0))]⟩), (3, ⟨.int .i64, 1, 8, [], [.dat (.val (.int .i64 0))]⟩), (4, ⟨.bool, 1, 1, [], [.dat (.val (.bool false))]⟩), (5, ⟨.int .u8, 1, 1, [], [.dat (.val (.int .u8 0))]⟩), (9, ⟨.str, 1, 16, [], [.dat (.val (.string ByteArray.empty))]⟩), (21, ⟨.int .i32, 1, 4, [], [.dat (.val (.int .i32 0))]⟩), (22, ⟨.slice 111, 1, 24, [], [.own 111 []]⟩), (23, ⟨.slice 3, 1, 24, [], [.own 3 []]⟩), (25, ⟨.struct, 4, 80, [(0, 3), (1, 22), (2, 23), (3, 23)], [.dat (.val (.int .i64 0)), .own 111 [], .own 3 [], .own 3 []]⟩), (29, ⟨.slice 97, 1, 24, [], [.own 97 []]⟩), (31, ⟨.struct, 4, 80, [(0, 3), (1, 29), (2, 23), (3, 23)], [.dat (.val (.int .i64 0)), .own 97 [], .own 3 [], .own 3 []]⟩), (35, ⟨.slice 74, 1, 24, [], [.own 74 []]⟩), (38, ⟨.slice 72, 1, 24, [], [.own 72 []]⟩), (45, ⟨.slice 5, 1, 24, [], [.own 5 []]⟩), (67, ⟨.other, 1, 8, [], [.dat (.val (.pointer none))]⟩), (69, ⟨.struct, 9, 120, [(0, 31), (4, 3), (5, 3), (6, 4), (7, 4), (8, 9)], [.dat (.val (.int .i64 0)), .own 97 [], .own 3 [], .own 3 [], .dat (.val (.int .i64 0)), .dat (.val (.int .i64 0)), .dat (.val (.bool false)), .dat (.val (.bool false)), .dat (.val (.string ByteArray.empty))]⟩), (72, ⟨.struct, 3, 24, [(0, 3), (1, 3), (2, 3)], [.dat (.val (.int .i64 0)), .dat (.val (.int .i64 0)), .dat (.val (.int .i64 0))]⟩), (74, ⟨.struct, 3, 24, [(0, 3), (1, 3), (2, 3)], [.dat (.val (.int .i64 0)), .dat (.val (.int .i64 0)), .dat (.val (.int .i64 0))]⟩), (76, ⟨.struct, 8, 128, [(0, 31), (4, 45), (5, 3), (6, 3), (7, 4)], [.dat (.val (.int .i64 0)), .own 97 [], .own 3 [], .own 3 [], .own 5 [], .dat (.val (.int .i64 0)), .dat (.val (.int .i64 0)), .dat (.val (.bool false))]⟩), (77, ⟨.other, 1, 8, [], [.dat (.val (.pointer none))]⟩), (80, ⟨.other, 1, 8, [], [.dat (.val (.pointer none))]⟩), (82, ⟨.struct, 3, 56, [(0, 3), (1, 29), (2, 23)], [.dat (.val (.int .i64 0)), .own 97 [], .own 3 []]⟩), (84, ⟨.struct, 8, 96, [(0, 82), (3, 3), (4, 3), (5, 4), (6, 4), (7, 9)], [.dat (.val (.int .i64 0)), .own 97 [], .own 3 [], .dat (.val (.int .i64 0)), .dat (.val (.int .i64 0)), .dat (.val (.bool false)), .dat (.val (.bool false)), .dat (.val (.string ByteArray.empty))]⟩), (86, ⟨.struct, 7, 104, [(0, 82), (3, 45), (4, 3), (5, 3), (6, 4)], [.dat (.val (.int .i64 0)), .own 97 [], .own 3 [], .own 5 [], .dat (.val (.int .i64 0)), .dat (.val (.int .i64 0)), .dat (.val (.bool false))]⟩), (87, ⟨.other, 1, 8, [], [.dat (.val (.pointer none))]⟩), (89, ⟨.other, 1, 8, [], [.dat (.val (.pointer none))]⟩), (90, ⟨.int .u64, 1, 8, [], [.dat (.val (.int .u64 0))]⟩), (92, ⟨.struct, 3, 40, [(0, 45), (1, 3), (2, 90)], [.own 5 [], .dat (.val (.int .i64 0)), .dat (.val (.int .u64 0))]⟩), (95, ⟨.other, 1, 8, [], [.dat (.val .nilFunc)]⟩), (97, ⟨.struct, 4, 32, [(0, 4), (1, 3), (2, 3), (3, 3)], [.dat (.val (.bool false)), .dat (.val (.int .i64 0)), .dat (.val (.int .i64 0)), .dat (.val (.int .i64 0))]⟩), (102, ⟨.slice 4, 1, 24, [], [.own 4 []]⟩), (111, ⟨.struct, 4, 32, [(0, 4), (1, 3), (2, 3), (3, 3)], [.dat (.val (.bool false)), .dat (.val (.int .i64 0)), .dat (.val (.int .i64 0)), .dat (.val (.int .i64 0))]⟩), (135, ⟨.map 4 9, 1, 8, [], [.dat (.val (.map none))]⟩), (137, ⟨.int .u64, 1, 8, [], [.dat (.val (.int .u64 0))]⟩), (148, ⟨.slice 9, 1, 24, [], [.own 9 []]⟩), (150, ⟨.other, 1, 16, [], [.dat (.val .nilIface)]⟩), (163, ⟨.int .u32, 1, 4, [], [.dat (.val (.int .u32 0))]⟩), (169, ⟨.other, 1, 8, [], [.dat (.val (.pointer none))]⟩), (184, ⟨.other, 1, 8, [], [.dat (.val (.pointer none))]⟩), (187, ⟨.struct, 1, 16, [(0, 9)], [.dat (.val (.string ByteArray.empty))]⟩)]
def assoc {α : Type} : List (Nat × α) → Nat → Option α
  | [], _ => none
  | (a, x) :: l, n => match Nat.beq a n with | true => some x | false => assoc l n
def livesOf : List (Nat × List (Nat × List Nat)) := [(8, [(16, [7, 11, 13, 117, 118, 119])]), (18, [(3, [0, 3, 4])]), (20, [(4, [0, 1, 5])]), (33, [(5, [1, 3, 32, 33, 34]), (11, [1, 3, 60, 61, 62])]), (38, [(4, [1, 29, 30, 31]), (10, [1, 58, 59, 60]), (18, [1, 139, 140, 141])]), (41, [(3, [0, 3, 4])]), (42, [(3, [0, 3, 4])]), (45, [(4, [0, 1, 5])]), (46, [(4, [0, 1, 5])]), (47, [(1, [0, 6, 7, 8])]), (49, [(3, [7, 14, 15, 16])]), (51, [(1, [0, 6, 7, 8])]), (52, [(3, [7, 14, 15, 16])]), (58, [(8, [1, 4, 8, 9, 10, 49, 50, 51])]), (59, [(3, [1, 2, 3, 13, 14, 15]), (11, [1, 2, 7, 41, 42])]), (61, [(3, [3, 7, 8, 9])]), (62, [(2, [0, 2, 7, 8])]), (68, [(6, [0, 3, 4, 5])]), (70, [(6, [0, 3, 4, 5])]), (71, [(2, [1, 7, 8, 9])]), (83, [(3, [0, 1, 6, 7, 8])]), (89, [(2, [0, 1, 7, 8])]), (93, [(3, [1, 2, 3, 15, 16, 17]), (8, [1, 2, 3, 27, 28, 29]), (16, [1, 2, 3, 9])]), (102, [(3, [1, 2, 3, 4])]), (110, [(2, [0, 6, 7])]), (113, [(3, [1, 2, 3, 11, 12])]), (118, [(4, [0, 1, 2, 8, 9, 10, 11, 23, 24, 25]), (11, [1, 2, 8, 9, 10, 38, 39, 40]), (19, [8, 9, 10, 70, 71, 72])]), (119, [(2, [0, 1, 7, 8])]), (122, [(4, [1, 2, 4, 5, 6, 18, 19, 20]), (12, [1, 2, 4, 5, 9, 36, 37, 38]), (21, [4, 5, 9, 71, 72, 73])]), (123, [(3, [1, 3, 11, 12, 13])]), (127, [(4, [1, 2, 4, 5, 6, 17, 18, 19]), (14, [4, 5, 6, 58, 59, 60])]), (128, [(2, [1, 2, 10, 11, 12]), (7, [1, 2, 7])]), (135, [(1, [0, 1, 4])]), (136, [(11, [0, 1, 3, 4, 10, 11, 12, 13, 14, 15, 16]), (18, [0, 1, 3, 4, 10, 11, 12, 13, 17])]), (137, [(10, [5, 6, 47, 48, 49])]), (140, [(1, [0, 2, 3])]), (154, [(36, [1, 8, 9, 10, 11, 12, 13, 99, 100, 101])]), (158, [(10, [0, 3, 4, 5])])]
def outsOf : List (Nat × List (Nat × List Nat)) := [(8, [(16, [2])]), (18, [(3, [3])]), (20, [(4, [4])]), (33, [(5, [1, 2, 3]), (11, [2])]), (38, [(4, [1, 2]), (10, [1, 2]), (18, [2])]), (41, [(3, [3])]), (42, [(3, [3])]), (45, [(4, [4])]), (46, [(4, [4])]), (47, [(1, [])]), (49, [(3, [7])]), (51, [(1, [])]), (52, [(3, [7])]), (58, [(8, [1, 4, 8, 9, 10])]), (59, [(3, [1, 2, 3]), (11, [1, 2, 7])]), (61, [(3, [3])]), (62, [(2, [7])]), (68, [(6, [0, 3])]), (70, [(6, [0, 3])]), (71, [(2, [4])]), (83, [(3, [0, 1, 6, 7])]), (89, [(2, [4])]), (93, [(3, [1, 2, 3]), (8, [1, 2, 3]), (16, [1, 2, 3])]), (102, [(3, [1, 2, 3])]), (110, [(2, [6])]), (113, [(3, [1, 2, 3])]), (118, [(4, [0, 1, 2, 8, 9, 10]), (11, [1, 8, 9, 10]), (19, [9, 10])]), (119, [(2, [4])]), (122, [(4, [1, 2, 4, 5, 6]), (12, [2, 4, 5, 9]), (21, [4, 9])]), (123, [(3, [3])]), (127, [(4, [2, 4, 5, 6]), (14, [4, 6])]), (128, [(2, [1, 2]), (7, [1])]), (135, [(1, [0, 1, 4])]), (136, [(11, [0, 1, 3, 4, 10, 11, 12, 13]), (18, [0, 1, 3, 4, 10, 11, 12, 13])]), (137, [(10, [2, 3, 5, 6])]), (140, [(1, [])]), (154, [(36, [6, 7, 9, 12, 13])]), (158, [(10, [2, 3])])]
def modesOf : List (Nat × List Nat) := []
def plansOf : List (Nat × List (Nat × Plan)) := [(3, [(10, (none, [(0, 1, []), (1, 1, []), (2, 4, []), (3, 2, []), (4, 0, [])]))]), (8, [(19, (none, [(0, 1, []), (1, 0, []), (2, 1, []), (3, 0, []), (4, 0, []), (5, 1, []), (6, 2, []), (7, 0, []), (8, 0, []), (9, 0, []), (10, 0, []), (11, 0, [])])), (20, (none, [(0, 1, []), (1, 0, []), (2, 1, []), (3, 0, []), (4, 0, []), (5, 1, []), (6, 2, []), (7, 0, []), (8, 0, []), (9, 0, []), (10, 0, []), (11, 0, [])]))]), (20, [(6, (none, [(0, 0, []), (1, 0, []), (2, 0, []), (3, 1, []), (4, 0, []), (5, 0, []), (6, 0, []), (7, 1, []), (8, 2, []), (9, 0, [])]))]), (21, [(5, (none, [(0, 0, []), (1, 0, []), (2, 0, []), (3, 1, []), (4, 0, []), (5, 0, []), (6, 0, []), (7, 1, []), (8, 0, []), (9, 0, []), (10, 0, [])]))]), (22, [(4, (none, [(0, 0, []), (1, 0, []), (2, 0, []), (3, 1, []), (4, 0, []), (5, 0, []), (6, 0, []), (7, 0, []), (8, 1, []), (9, 0, []), (10, 0, []), (11, 0, [])]))]), (25, [(5, (none, [(0, 0, []), (1, 0, []), (2, 0, []), (3, 1, []), (4, 0, []), (5, 0, []), (6, 0, []), (7, 1, []), (8, 0, []), (9, 0, []), (10, 0, [])]))]), (26, [(4, (none, [(0, 0, []), (1, 0, []), (2, 0, []), (3, 1, []), (4, 0, []), (5, 0, []), (6, 0, []), (7, 0, []), (8, 1, []), (9, 0, []), (10, 0, []), (11, 0, [])]))]), (27, [(3, (some [7], [(0, 1, []), (1, 0, []), (2, 0, []), (3, 1, []), (4, 0, []), (5, 0, []), (8, 0, []), (10, 0, []), (11, 0, []), (12, 1, []), (13, 0, []), (14, 0, []), (6, 4, []), (7, 0, []), (9, 4, []), (15, 4, []), (16, 0, []), (17, 2, []), (18, 0, []), (19, 0, []), (20, 0, [])]))]), (40, [(6, (none, [(0, 0, []), (1, 0, []), (2, 1, []), (3, 0, []), (4, 0, []), (8, 0, []), (9, 0, []), (10, 1, []), (11, 0, []), (12, 0, []), (5, 4, []), (6, 0, []), (7, 0, []), (13, 2, []), (14, 0, []), (15, 0, []), (16, 0, [])]))]), (44, [(2, (none, [(0, 1, []), (1, 0, []), (2, 1, []), (3, 0, []), (4, 0, []), (8, 1, []), (9, 0, []), (10, 1, []), (11, 0, []), (12, 0, []), (5, 4, []), (6, 0, []), (7, 0, []), (13, 2, []), (14, 0, []), (15, 0, []), (16, 0, [])]))]), (45, [(6, (none, [(0, 0, []), (1, 0, []), (2, 0, []), (3, 1, []), (4, 0, []), (5, 0, []), (6, 0, []), (7, 1, []), (8, 2, []), (9, 0, [])]))]), (46, [(6, (none, [(0, 0, []), (1, 0, []), (2, 0, []), (3, 1, []), (4, 0, []), (5, 0, []), (6, 0, []), (7, 1, []), (8, 0, [])]))]), (53, [(10, (some [5], [(0, 0, []), (1, 1, []), (2, 0, []), (3, 4, []), (4, 0, []), (5, 4, []), (6, 2, []), (7, 0, []), (8, 2, [])]))]), (56, [(1, (none, [(0, 0, []), (1, 1, []), (2, 0, []), (3, 1, []), (5, 0, []), (6, 1, []), (8, 0, []), (9, 1, []), (4, 4, []), (7, 4, []), (10, 4, []), (11, 0, []), (12, 2, [])]))]), (60, [(1, (some [1], [(0, 1, []), (1, 0, []), (2, 1, []), (3, 0, []), (4, 1, []), (5, 4, []), (6, 2, []), (7, 2, [])]))]), (76, [(6, (none, [(0, 0, []), (1, 0, []), (2, 0, []), (3, 0, []), (4, 1, []), (5, 0, []), (6, 0, []), (7, 0, []), (8, 0, []), (9, 1, []), (10, 0, []), (11, 1, []), (12, 0, []), (13, 1, []), (14, 0, []), (15, 1, []), (16, 2, [])])), (16, (none, [(0, 0, []), (1, 0, []), (2, 0, []), (3, 0, []), (4, 0, []), (5, 1, []), (6, 0, []), (7, 1, []), (8, 4, []), (9, 2, []), (10, 0, []), (11, 0, []), (12, 0, []), (13, 2, [])])), (17, (none, [(0, 0, []), (1, 0, []), (2, 0, []), (3, 0, []), (4, 0, []), (5, 1, []), (6, 0, []), (7, 1, []), (8, 4, []), (9, 2, []), (10, 0, []), (11, 0, []), (12, 0, []), (13, 2, [])])), (20, (some [3], [(0, 0, []), (2, 0, []), (3, 0, []), (4, 0, []), (5, 0, []), (6, 1, []), (7, 0, []), (8, 1, []), (9, 0, []), (11, 0, []), (12, 0, []), (13, 0, []), (14, 0, []), (15, 1, []), (16, 0, []), (17, 1, []), (18, 0, []), (19, 0, []), (1, 4, []), (10, 4, []), (20, 2, []), (21, 0, []), (22, 0, []), (23, 0, []), (24, 2, [])])), (23, (none, [(0, 0, []), (1, 0, []), (2, 0, []), (3, 1, []), (4, 0, []), (5, 0, []), (6, 0, []), (7, 0, []), (8, 1, []), (9, 0, []), (10, 0, []), (11, 0, []), (12, 0, []), (13, 1, []), (14, 0, []), (15, 1, []), (16, 0, []), (17, 1, []), (18, 4, []), (19, 0, []), (20, 0, []), (21, 0, []), (22, 0, []), (23, 2, [])])), (27, (none, [(0, 0, []), (1, 0, []), (2, 0, []), (3, 0, []), (4, 1, []), (5, 0, []), (6, 0, []), (7, 0, []), (8, 0, []), (9, 1, []), (10, 0, []), (11, 1, []), (12, 0, []), (13, 1, []), (14, 0, []), (15, 1, []), (16, 0, []), (17, 0, []), (18, 0, []), (19, 0, []), (20, 0, []), (21, 1, []), (22, 0, []), (23, 1, []), (24, 0, []), (25, 1, []), (26, 2, []), (27, 0, []), (28, 0, []), (29, 2, [])])), (29, (none, [(0, 0, []), (1, 0, []), (2, 0, []), (3, 0, []), (4, 0, []), (5, 0, []), (6, 0, []), (7, 0, []), (8, 0, []), (9, 1, []), (10, 0, []), (11, 1, []), (12, 0, []), (13, 1, []), (14, 0, []), (15, 0, []), (16, 0, []), (17, 0, []), (18, 1, []), (19, 0, []), (20, 1, []), (21, 0, []), (22, 1, []), (23, 0, []), (24, 0, [])]))]), (78, [(13, (none, [(0, 0, [7]), (1, 0, [7]), (2, 0, [7]), (3, 0, [7]), (4, 1, [7]), (5, 0, [7]), (6, 0, [7]), (7, 0, [7]), (8, 0, [7]), (9, 1, [7]), (10, 0, [7]), (11, 1, [7]), (12, 0, [7]), (13, 1, [7]), (14, 0, [7]), (15, 1, [7]), (16, 3, [7]), (17, 2, [])])), (15, (none, [(0, 0, []), (1, 0, []), (2, 0, []), (3, 0, []), (4, 0, []), (5, 1, []), (6, 0, []), (7, 1, []), (8, 4, []), (9, 2, []), (10, 0, []), (11, 0, []), (12, 0, []), (13, 2, [])])), (17, (none, [(0, 0, []), (1, 0, []), (2, 0, []), (3, 0, []), (4, 0, []), (5, 1, []), (6, 0, []), (7, 1, []), (8, 4, []), (9, 2, []), (10, 0, []), (11, 0, []), (12, 0, []), (13, 2, [])])), (20, (some [3], [(0, 0, []), (2, 0, []), (3, 0, []), (4, 0, []), (5, 0, []), (6, 1, []), (7, 0, []), (8, 1, []), (9, 0, []), (11, 0, []), (12, 0, []), (13, 0, []), (14, 0, []), (15, 1, []), (16, 0, []), (17, 1, []), (18, 0, []), (19, 0, []), (1, 4, []), (10, 4, []), (20, 2, []), (21, 0, []), (22, 0, []), (23, 0, []), (24, 2, [])])), (23, (none, [(0, 0, []), (1, 0, []), (2, 0, []), (3, 0, []), (4, 1, []), (5, 0, []), (6, 0, []), (7, 0, []), (8, 0, []), (9, 1, []), (10, 0, []), (11, 1, []), (12, 0, []), (13, 1, []), (14, 2, []), (15, 0, [])])), (28, (none, [(0, 0, []), (1, 0, []), (2, 0, []), (3, 0, []), (4, 0, []), (5, 0, []), (6, 0, []), (7, 0, []), (8, 0, []), (9, 1, []), (10, 0, []), (11, 1, []), (12, 0, []), (13, 1, []), (14, 0, []), (15, 0, []), (16, 0, []), (17, 0, []), (18, 1, []), (19, 0, []), (20, 1, []), (21, 0, []), (22, 1, []), (23, 0, []), (24, 0, [])]))]), (79, [(13, (none, [(0, 0, []), (1, 0, []), (2, 0, []), (3, 0, []), (4, 0, []), (5, 1, []), (7, 0, []), (8, 1, []), (9, 0, []), (10, 1, []), (11, 0, []), (6, 4, []), (12, 2, []), (13, 0, []), (14, 0, []), (15, 0, []), (16, 2, [])]))]), (80, [(2, (none, [(0, 0, []), (1, 0, []), (2, 0, []), (3, 1, []), (4, 0, []), (5, 0, []), (6, 0, []), (7, 1, []), (8, 0, []), (9, 0, [])])), (3, (none, [(0, 0, []), (1, 0, []), (2, 0, []), (3, 1, []), (4, 0, []), (5, 0, []), (6, 0, []), (7, 1, []), (8, 0, []), (9, 1, []), (10, 0, []), (11, 0, [])])), (6, (none, [(0, 0, []), (1, 0, []), (2, 0, []), (3, 1, []), (4, 0, []), (5, 0, []), (6, 0, []), (7, 1, []), (8, 0, []), (9, 0, [])]))]), (84, [(11, (none, [(0, 0, []), (1, 0, []), (2, 0, []), (3, 0, []), (4, 0, []), (5, 0, []), (6, 0, []), (7, 0, []), (8, 2, [])])), (15, (none, [(0, 0, []), (1, 0, []), (2, 0, []), (3, 0, []), (4, 0, []), (5, 0, []), (6, 0, []), (7, 0, []), (8, 2, [])]))]), (91, [(5, (none, [(0, 0, []), (1, 0, []), (2, 0, []), (3, 0, []), (4, 1, []), (5, 0, []), (6, 1, []), (7, 0, []), (8, 1, []), (9, 0, []), (10, 0, []), (11, 0, []), (12, 0, []), (13, 1, []), (14, 0, []), (15, 1, []), (16, 0, []), (17, 1, []), (18, 0, []), (19, 2, [])])), (6, (none, [(0, 0, []), (1, 0, []), (2, 0, []), (3, 0, []), (4, 0, []), (5, 1, []), (6, 1, []), (7, 4, []), (8, 2, []), (9, 0, []), (10, 0, []), (11, 0, []), (12, 2, [])])), (7, (none, [(0, 0, []), (1, 0, []), (2, 0, []), (3, 0, []), (4, 0, []), (5, 1, []), (6, 0, []), (7, 0, []), (8, 0, []), (9, 0, []), (10, 1, []), (11, 0, []), (12, 0, []), (13, 4, []), (14, 2, []), (15, 0, []), (16, 0, []), (17, 0, []), (18, 2, [])]))]), (92, [(1, (none, [(0, 1, []), (1, 1, []), (2, 4, []), (3, 2, []), (4, 2, [])]))]), (94, [(5, (none, [(0, 0, []), (1, 0, []), (2, 0, []), (3, 0, []), (4, 1, []), (5, 0, []), (6, 0, []), (7, 0, []), (8, 0, []), (9, 0, []), (10, 1, []), (11, 0, []), (12, 0, []), (13, 0, []), (14, 0, []), (15, 1, []), (16, 0, [])])), (7, (none, [(0, 0, []), (1, 0, []), (2, 0, []), (3, 0, []), (4, 1, []), (5, 0, []), (6, 0, []), (7, 0, []), (8, 0, []), (9, 1, []), (10, 0, [])])), (9, (none, [(0, 0, []), (1, 0, []), (2, 0, []), (3, 0, []), (4, 0, []), (5, 1, []), (6, 0, []), (7, 0, []), (8, 0, []), (9, 0, []), (10, 1, []), (11, 0, []), (12, 0, []), (13, 0, []), (14, 2, [])]))]), (95, [(1, (none, [(0, 0, []), (1, 0, []), (2, 0, []), (3, 0, []), (4, 0, []), (5, 1, []), (6, 0, []), (7, 0, []), (8, 0, []), (9, 0, []), (10, 1, []), (11, 0, []), (12, 4, []), (13, 2, []), (14, 0, []), (15, 0, []), (16, 0, []), (17, 2, [])])), (2, (none, [(0, 0, []), (1, 0, []), (2, 0, []), (3, 0, []), (4, 0, []), (5, 1, []), (6, 1, []), (7, 4, []), (8, 2, []), (9, 0, []), (10, 0, []), (11, 0, []), (12, 2, [])]))]), (97, [(6, (none, [(0, 0, []), (1, 0, []), (2, 0, []), (3, 0, []), (4, 0, []), (5, 1, []), (7, 0, []), (8, 1, []), (9, 0, []), (10, 1, []), (11, 0, []), (6, 4, []), (12, 2, []), (13, 0, []), (14, 0, []), (15, 0, []), (16, 2, [])]))]), (98, [(4, (none, [(0, 0, []), (1, 0, []), (2, 0, []), (3, 0, []), (4, 0, []), (5, 1, []), (6, 0, []), (7, 1, []), (8, 0, []), (9, 1, []), (10, 0, []), (11, 0, []), (12, 0, []), (13, 0, []), (14, 1, []), (15, 0, []), (16, 1, []), (17, 0, []), (18, 1, []), (19, 0, []), (20, 2, [])])), (8, (none, [(0, 0, []), (1, 0, []), (2, 0, []), (3, 0, []), (4, 0, []), (5, 1, []), (6, 0, []), (7, 0, []), (8, 2, [])]))]), (99, [(2, (none, [(0, 0, []), (1, 0, []), (2, 0, []), (3, 0, []), (4, 1, []), (5, 0, []), (6, 0, []), (7, 0, []), (8, 0, []), (9, 0, []), (10, 1, []), (11, 0, []), (12, 0, []), (13, 0, []), (14, 0, []), (15, 1, []), (16, 0, [])])), (4, (none, [(0, 0, []), (1, 0, []), (2, 0, []), (3, 0, []), (4, 1, []), (5, 0, []), (6, 0, []), (7, 0, []), (8, 0, []), (9, 1, []), (10, 0, [])])), (6, (none, [(0, 0, []), (1, 0, []), (2, 0, []), (3, 0, []), (4, 1, []), (5, 0, []), (6, 0, []), (7, 0, []), (8, 0, []), (9, 1, []), (10, 0, [])])), (10, (none, [(0, 0, []), (1, 0, []), (2, 0, []), (3, 0, []), (4, 1, []), (5, 0, []), (6, 0, []), (7, 1, []), (8, 0, []), (9, 0, []), (10, 0, []), (11, 0, []), (12, 1, []), (13, 0, []), (14, 0, []), (15, 1, []), (16, 0, []), (17, 2, [])])), (11, (none, [(0, 0, []), (1, 0, []), (2, 0, []), (3, 0, []), (4, 0, []), (5, 1, []), (6, 1, []), (7, 4, []), (8, 2, []), (9, 0, []), (10, 0, []), (11, 0, []), (12, 2, [])])), (12, (none, [(0, 0, []), (1, 0, []), (2, 0, []), (3, 0, []), (4, 0, []), (5, 1, []), (6, 0, []), (7, 0, []), (8, 0, []), (9, 0, []), (10, 1, []), (11, 0, []), (12, 0, []), (13, 4, []), (14, 2, []), (15, 0, []), (16, 0, []), (17, 0, []), (18, 2, [])]))]), (101, [(1, (none, [(0, 1, []), (1, 1, []), (2, 0, []), (3, 1, []), (4, 0, []), (5, 4, []), (6, 4, []), (7, 2, []), (8, 2, [])]))]), (102, [(6, (none, [(0, 1, []), (1, 1, []), (2, 0, []), (3, 4, []), (4, 2, []), (5, 2, [])]))]), (105, [(3, (none, [(0, 0, []), (1, 0, []), (2, 0, []), (3, 0, []), (4, 1, []), (5, 0, []), (6, 0, []), (7, 0, []), (8, 0, []), (9, 0, []), (10, 1, []), (11, 0, []), (12, 0, []), (13, 0, []), (14, 0, []), (15, 1, []), (16, 0, [])])), (5, (none, [(0, 0, []), (1, 0, []), (2, 0, []), (3, 0, []), (4, 1, []), (5, 0, []), (6, 0, []), (7, 0, []), (8, 0, []), (9, 1, []), (10, 0, [])])), (7, (none, [(0, 0, []), (1, 0, []), (2, 0, []), (3, 0, []), (4, 0, []), (5, 1, []), (6, 0, []), (7, 0, []), (8, 0, []), (9, 0, []), (10, 1, []), (11, 0, []), (12, 0, []), (13, 0, []), (14, 2, [])]))]), (106, [(1, (none, [(0, 0, []), (1, 0, []), (2, 0, []), (3, 0, []), (4, 0, []), (5, 1, []), (6, 0, []), (7, 0, []), (8, 0, []), (9, 0, []), (10, 1, []), (11, 0, []), (12, 4, []), (13, 2, []), (14, 0, []), (15, 0, []), (16, 0, []), (17, 2, [])])), (2, (none, [(0, 0, []), (1, 0, []), (2, 0, []), (3, 0, []), (4, 0, []), (5, 1, []), (6, 1, []), (7, 4, []), (8, 2, []), (9, 0, []), (10, 0, []), (11, 0, []), (12, 2, [])]))]), (107, [(3, (none, [(0, 0, []), (1, 0, []), (2, 0, []), (3, 0, []), (4, 0, []), (5, 1, []), (6, 0, []), (7, 0, []), (8, 1, []), (9, 0, []), (10, 0, []), (11, 0, []), (12, 0, []), (13, 1, []), (14, 0, []), (15, 0, []), (16, 1, []), (17, 0, []), (18, 2, [])]))]), (109, [(5, (none, [(0, 0, []), (1, 0, []), (2, 0, []), (3, 0, []), (4, 0, []), (5, 0, []), (6, 2, []), (7, 0, [])]))]), (110, [(6, (none, [(0, 0, []), (1, 0, []), (2, 0, []), (3, 0, []), (4, 0, []), (5, 1, []), (7, 0, []), (8, 0, []), (9, 0, []), (10, 0, []), (11, 1, []), (6, 4, []), (12, 2, []), (13, 2, []), (14, 2, []), (15, 0, [])]))]), (112, [(1, (some [1], [(0, 0, []), (1, 1, []), (2, 0, []), (3, 1, []), (4, 0, []), (5, 1, []), (6, 0, []), (7, 1, []), (8, 4, []), (9, 2, []), (10, 0, []), (11, 0, []), (12, 0, []), (13, 0, []), (14, 0, [])]))]), (113, [(7, (some [1], [(0, 0, []), (1, 1, []), (2, 0, []), (3, 1, []), (4, 0, []), (5, 1, []), (6, 0, []), (7, 4, []), (8, 2, []), (9, 0, []), (10, 0, []), (11, 0, []), (12, 0, []), (13, 0, [])]))]), (118, [(15, (some [15], [(0, 0, []), (1, 0, []), (2, 1, []), (3, 0, []), (4, 1, []), (5, 0, []), (6, 0, []), (7, 1, []), (8, 0, []), (9, 1, []), (10, 0, []), (11, 4, []), (12, 0, []), (13, 2, [])]))]), (121, [(1, (none, [(0, 0, []), (1, 0, []), (2, 0, []), (3, 0, []), (4, 1, []), (5, 0, []), (6, 0, []), (7, 0, []), (8, 0, []), (9, 0, []), (10, 1, []), (11, 0, []), (12, 0, []), (13, 0, []), (14, 0, []), (15, 1, []), (16, 0, [])])), (3, (none, [(0, 0, []), (1, 0, []), (2, 0, []), (3, 0, []), (4, 1, []), (5, 0, []), (6, 0, []), (7, 0, []), (8, 0, []), (9, 1, []), (10, 0, [])])), (5, (none, [(0, 0, []), (1, 0, []), (2, 0, []), (3, 0, []), (4, 0, []), (5, 1, []), (6, 0, []), (7, 0, []), (8, 0, []), (9, 0, []), (10, 1, []), (11, 0, []), (12, 0, []), (13, 0, []), (14, 2, [])]))]), (122, [(23, (none, [(0, 0, []), (1, 1, []), (2, 0, []), (3, 0, []), (4, 0, []), (5, 1, []), (6, 4, []), (7, 2, []), (8, 0, []), (9, 2, [])]))]), (125, [(4, (none, [(0, 0, []), (1, 0, []), (2, 0, []), (3, 0, []), (4, 0, []), (5, 1, []), (6, 0, []), (7, 1, []), (8, 4, []), (9, 2, []), (10, 0, []), (11, 0, []), (12, 0, []), (13, 2, [])]))]), (127, [(16, (none, [(0, 0, []), (1, 1, []), (2, 0, []), (3, 0, []), (4, 0, []), (5, 1, []), (6, 4, []), (7, 2, []), (8, 0, []), (9, 2, [])]))]), (135, [(7, (none, [(0, 0, []), (1, 0, []), (2, 0, []), (3, 0, []), (4, 0, []), (5, 0, []), (6, 0, []), (7, 0, []), (8, 0, []), (9, 0, []), (10, 0, []), (11, 0, []), (12, 2, []), (13, 0, []), (14, 2, [])])), (8, (none, [(0, 0, []), (1, 0, []), (2, 0, []), (3, 0, []), (4, 0, []), (5, 0, []), (6, 0, []), (7, 0, []), (8, 0, []), (9, 0, []), (10, 0, []), (11, 0, []), (12, 2, []), (13, 0, []), (14, 2, [])])), (9, (none, [(0, 0, []), (1, 0, []), (2, 0, []), (3, 0, []), (4, 0, []), (5, 0, []), (6, 0, []), (7, 0, []), (8, 0, []), (9, 0, []), (10, 0, []), (11, 0, []), (12, 2, []), (13, 0, []), (14, 2, [])])), (10, (none, [(0, 0, []), (1, 0, []), (2, 0, []), (3, 0, []), (4, 0, []), (5, 0, []), (6, 0, []), (7, 0, []), (8, 0, []), (9, 0, []), (10, 0, []), (11, 0, []), (12, 2, []), (13, 0, []), (14, 2, [])])), (17, (none, [(0, 0, []), (1, 0, []), (2, 0, []), (3, 0, []), (4, 0, []), (5, 0, []), (6, 0, []), (7, 0, []), (8, 0, []), (9, 0, []), (10, 0, []), (11, 0, []), (12, 2, []), (13, 0, []), (14, 2, [])])), (18, (none, [(0, 0, []), (1, 0, []), (2, 0, []), (3, 0, []), (4, 0, []), (5, 0, []), (6, 0, []), (7, 0, []), (8, 0, []), (9, 0, []), (10, 0, []), (11, 0, []), (12, 2, []), (13, 0, []), (14, 2, [])])), (23, (none, [(0, 0, []), (1, 0, []), (2, 0, []), (3, 0, []), (4, 0, []), (5, 0, []), (6, 0, []), (7, 0, []), (8, 0, []), (9, 0, []), (10, 0, []), (11, 0, []), (12, 2, []), (13, 0, []), (14, 2, [])]))]), (140, [(3, (none, [(0, 0, []), (1, 0, []), (2, 0, []), (3, 0, []), (4, 0, []), (5, 0, []), (6, 0, []), (7, 1, []), (8, 0, []), (9, 0, []), (10, 0, []), (11, 1, []), (12, 0, []), (13, 2, []), (14, 0, []), (15, 2, [])]))]), (147, [(1, (none, [(0, 0, []), (1, 0, []), (3, 1, []), (2, 4, []), (4, 0, []), (5, 2, []), (6, 0, [])]))]), (148, [(1, (none, [(0, 0, []), (1, 0, []), (3, 1, []), (2, 4, []), (4, 0, []), (5, 2, []), (6, 0, [])]))])]
def cfgN : Nat := 188
def skips : List Nat := [0, 1, 2, 74, 81, 82, 84, 90, 109, 114, 115, 116, 117, 120, 129, 130, 131, 132, 133, 134, 135, 136, 137, 138, 139, 140, 141, 142, 143, 144, 145, 146, 147, 148, 149, 150, 151, 152, 153, 154, 155, 156, 157, 158, 159, 160, 161, 162, 163, 164, 165, 166, 167, 168, 169, 170, 171, 172, 173, 175, 176, 177, 178, 179, 180, 181, 182, 183, 184, 185, 186, 187]
def extsOf : List (Nat × (List D → List (List D) → List (Option Row) → Option (List D × List (List D) × List (Option Row)))) := [(72, extVal Go.Proofs.YtcmcfebihbmmeaaDoor.numV), (74, extVal Go.Proofs.YtcmcfebihbmmeaaDoor.numV)]
def extNums : List Nat := [72, 74]
noncomputable def cfg : Cfg where
  ty := assoc tys
  fn := fun f => match Nat.blt f cfgN && !memN f skips && !memN f extNums with | true => Go.Proofs.Tryd.prog.funcs[f]? | false => none
  mode := fun f => (assoc modesOf f).getD []
  live := fun f r => ((assoc livesOf f).bind fun l => assoc l r).getD []
  out := fun f r => ((assoc outsOf f).bind fun l => assoc l r).getD []
  plan := fun f r => (assoc plansOf f).bind fun l => assoc l r
  ext := assoc extsOf
end Go.Den
namespace Go.Den
open Go
set_option linter.unusedVariables false
theorem assoc_mem {α : Type} {n : Nat} {x : α} : ∀ {l : List (Nat × α)}, assoc l n = some x → (n, x) ∈ l
  | [], h => by cases h
  | (a, y) :: l, h => by
    unfold assoc at h
    split at h
    · rename_i hb
      cases h
      rw [beq_eq.1 hb]
      exact List.mem_cons_self
    · exact List.mem_cons_of_mem _ (assoc_mem h)
noncomputable def tysGood : Bool := tys.all fun p => tyIs Go.Proofs.Tryd.prog (assoc tys) p.1 p.2
theorem tys_good : tysGood = true := by kernel_rfl
theorem cfg_ty : TyOk Go.Proofs.Tryd.prog cfg.ty := fun t i h => (List.all_eq_true.1 tys_good) (t, i) (assoc_mem h)
def fnGood (C : Cfg) (f : Nat) : Bool :=
  match C.fn f with
  | some fn => !(fn.name == "runtime.NumGoroutine") && (match fn.body with | some c => codeOK fn.ntmps c && drawsOK C.ty fn.ntmps (C.plan f) c | none => true)
  | none => true
noncomputable def fnsGood : Bool := (List.range cfgN).all (fnGood cfg)
theorem fns_good : fnsGood = true := by kernel_rfl
theorem follows_any : Go.Proofs.Tryd.prog.follows .mixedOrders = true := by kernel_rfl
theorem cfg_fn {B : Nat → Option Obj} {f : Nat} {fn : Func} (h : cfg.fn f = some fn) : FnOK Go.Proofs.Tryd.prog B cfg f fn := by
  have hlt : f < cfgN ∧ Go.Proofs.Tryd.prog.funcs[f]? = some fn := by
    unfold cfg at h
    simp only at h
    split at h
    · rename_i hb
      simp only [Bool.and_eq_true] at hb
      have : f + 1 ≤ cfgN := by simpa [Nat.blt] using hb.1.1
      exact ⟨by omega, h⟩
    · cases h
  have hg := (List.all_eq_true.1 fns_good) f (List.mem_range.2 hlt.1)
  unfold fnGood at hg
  rw [h] at hg
  simp only [Bool.and_eq_true, Bool.not_eq_true'] at hg
  refine ⟨hlt.2, hg.1, fun c hc => ?_, fun c hc call _ => ?_⟩
  · have := hg.2
    rw [hc] at this
    simp only [Bool.and_eq_true] at this
    exact this.1
  · have := hg.2
    rw [hc] at this
    simp only [Bool.and_eq_true] at this
    exact draws_sound (E := ⟨cfg.ty, cfg.mode, fn.ntmps, cfg.live f, cfg.out f, cfg.plan f, call⟩) follows_any c this.1 this.2
theorem cfg_e {B : Nat → Option Obj} (hB : Go.Proofs.YtcmcfebihbmmeaaDoor.TabAt B) {f : Nat} {g : List D → List (List D) → List (Option Row) → Option (List D × List (List D) × List (Option Row))} (h : cfg.ext f = some g) : ExtOK Go.Proofs.Tryd.prog cfg.ty B f g := by
  have hm := assoc_mem (show assoc extsOf f = some g from h)
  simp only [extsOf, List.mem_cons, Prod.mk.injEq, List.not_mem_nil, or_false] at hm
  rcases hm with ⟨rfl, rfl⟩ | ⟨rfl, rfl⟩
  · exact extVal_of (fn := Go.Proofs.Tryd.f72) (by kernel_rfl) (by kernel_rfl) (by kernel_rfl) Go.Proofs.YtcmcfebihbmmeaaDoor.l1_calls
  · exact extValW_of (fn := Go.Proofs.Tryd.f74) (by kernel_rfl) (by kernel_rfl) (by kernel_rfl) (Go.Proofs.YtcmcfebihbmmeaaDoor.itoa_calls hB)
theorem cfg_ok {B : Nat → Option Obj} (hB : Go.Proofs.YtcmcfebihbmmeaaDoor.TabAt B) : CfgOK Go.Proofs.Tryd.prog B cfg := cfgOK_of cfg_ty (fun f fn _ h => cfg_fn h) (fun f g h => cfg_e hB h)
structure Says (P : Program) (B : Nat → Option Obj) (C : Cfg) : Prop where mk ::
  out : ∀ k, CallOK P C.ty B (den C k)
theorem says_of {P : Program} {B : Nat → Option Obj} {C : Cfg} (h : CfgOK P B C) : Says P B C := ⟨den_sound h⟩
theorem den_true {B : Nat → Option Obj} (hB : Go.Proofs.YtcmcfebihbmmeaaDoor.TabAt B) : Says Go.Proofs.Tryd.prog B cfg := says_of (cfg_ok hB)
end Go.Den
