/- Merged out of: D32 D37 D38 Cf Shelf Fa D35 D36 D33 D34 Dt (prune.py, a program of this work's). -/
import Derived.Test.YtcehfbegcapmnaaZe3
import Derived.Sort.Grow
import Derived.Sort.Row
import Derived.Lib.SlicesCompact
import Derived.Test.YtcehfbegcapmnaaProg
import Derived.Shelf.Sort.Plain
import Derived.Ground.Names2Prog
import Derived.Shelf.Slices.CompactI
import Derived.Shelf.Slices.In.SortNone
import Derived.KernelRfl
import Derived.Test.YtcehfbegcapmnaaZe1
import Derived.Deep.Slices
import Derived.Deep.Fields
import Derived.ChangeSame
import Derived.ProofKit
import Derived.Lib.SmallJoins
import Derived.OpenShut
import Derived.ShutString
import Derived.ChangeOld
import Derived.Below
set_option linter.unusedVariables false
set_option linter.unusedSimpArgs false
set_option linter.unnecessarySimpa false
namespace Go.Den
open Go Go.RowKit
set_option linter.unusedVariables false
theorem drew_fr {c : Cx} {a : Act} {X : Nat} (hf : Fr X c a) : Fr X { c with W := { c.W with drawn := c.W.drawn + 1 } } a ∧ Ext c { c with W := { c.W with drawn := c.W.drawn + 1 } } := by
  refine ⟨⟨Sim.same (Z := fun _ => False) hf.sim rfl (fun _ _ _ h => h) ⟨rfl, fun b g h _ => ⟨h, rfl⟩, fun q r hq _ => ⟨hq, rfl⟩, fun r hr _ => ⟨hr, rfl⟩, fun q _ => ⟨rfl, fun g h _ => ⟨h, rfl⟩⟩⟩ fun r hr => ?_, hf.ghost.out, hf.ghost.own⟩, rfl, rfl, rfl, Nat.le_refl _, fun _ _ _ => ⟨rfl, rfl⟩, rfl, fun _ => rfl, fun _ => rfl⟩
  obtain ⟨cs, hb⟩ := Option.isSome_iff_exists.1 hr
  obtain ⟨vs, T, h1, h2, _⟩ := (hf.sim.boxes r cs hb).out
  exact ⟨h2, rfl⟩
theorem junks_noOwn {s : St} : ∀ {ds : List Nat}, noOwns s ds = true → ∀ n ∈ ds, (s.t n).hasOwn = false
  | [], h, n, hn => by cases hn
  | m :: ds, h, n, hn => by
    have h' : (!(s.t m).hasOwn && noOwns s ds) = true := h
    simp only [Bool.and_eq_true, Bool.not_eq_true'] at h'
    rcases List.mem_cons.1 hn with rfl | hn
    · exact h'.1
    · exact junks_noOwn h'.2 n hn
theorem junks_fr {c : Cx} {a : Act} {X : Nat} {ds : List Nat} (hf : Fr X c a) (h : noOwns c.s ds = true) : Fr X { c with s := c.s.junks ds } a := by
  refine ⟨forget_sound (K := Kill.none) hf.sim (fun y => ?_) (fun r cs' h => ⟨cs', by cases r <;> exact h, (kills_none _).symm⟩) rfl (fun q r hq _ => ?_) (fun r hr _ => by cases r <;> exact hr), hf.ghost.out, ?_⟩
  · cases hm : memN y ds with
    | true => left; simp only [St.junks, hm]
    | false => right; simp only [St.junks, hm, kill_none, and_self]
  · cases q with
    | slot y l =>
      show (D.at_ l ((c.s.junks ds).t y)).row? = _
      cases hm : memN y ds with
      | true =>
        have hq' : (D.at_ l (c.s.t y)).row? = some r := hq
        rw [noOwn_at l _ (junks_noOwn h y (memN_iff.1 hm))] at hq'
        cases hq'
      | false => simp only [St.junks, hm]; exact hq
    | cell r0 o => cases r0 <;> exact hq
    | lent j => exact hq
  · show ((c.s.junks ds).t X).hasOwn = false
    cases hm : memN X ds with
    | true => simp only [St.junks, hm]; rfl
    | false => simp only [St.junks, hm]; exact hf.ghost.own
theorem draw_sound {P : Program} {E : Env} {X id : Nat} {ops : Array Oper} {p : Plan} (hm : P.follows .mixedOrders = true) (hp : E.plan id = some p) (hok : planOK E.ty ops p = true) (hops : ∀ o ∈ ops.toList, operOK E.nt o = true) : DrawOK P E X id ops := by
  intro c a s' Q hE hf h hEnd
  unfold planOK at hok
  simp only [Bool.and_eq_true] at hok
  obtain ⟨⟨hsel, hdst, hlen⟩, hMc, hgo⟩ := hok
  have hlen : p.2.length ≤ ops.size := by simpa using hlen
  have hM : ∀ M, p.1 = some M → ∀ o ∈ ops.toList, ∀ n ∈ M, o.dst ≠ some n := by
    intro M hM o ho n hn e
    rw [hM] at hMc
    simp only at hMc
    have h1 := (Array.all_eq_true_iff_forall_mem.1 hMc) o (Array.mem_toList_iff.1 ho)
    have h2 := (List.all_eq_true.1 h1) n hn
    simp [dstIs, e] at h2
  obtain ⟨hf1, he1⟩ := drew_fr hf
  let Q0 : Exit → Act → World → Prop := fun x a w => match x with | .normal => Q .normal a w | _ => False
  refine Code.wp_mono (Q := Q0) (fun e a w hq => ?_) (wp_region_any hm (wpAny_of_G (R := RG (Gd { c with W := { c.W with drawn := c.W.drawn + 1 } } a p.1)) (str := flagged p.2) _ _ _ _ ?_))
  · cases e <;> first | exact hq | exact hq.elim
  · simp only [runRegion, hp, runPlan] at h
    have hstill : still [] p.2 ≤ ops.size := by
      unfold still
      exact Nat.le_trans List.countP_le_length hlen
    have key : ∀ (s0 : St), Fr X { c with W := { c.W with drawn := c.W.drawn + 1 }, s := s0 } a → runOpsD E ops p.1 true p.2 s0 = some s' →
        wpAnyG P .any ops Q0 (RG (Gd { c with W := { c.W with drawn := c.W.drawn + 1 } } a p.1)) (flagged p.2) ops.size (Array.replicate ops.size false) a { c.W with drawn := c.W.drawn + 1 } := by
      intro s0 hf0 h0
      have he0 : Ext c { c with W := { c.W with drawn := c.W.drawn + 1 }, s := s0 } := ⟨rfl, rfl, rfl, Nat.le_refl _, fun _ _ _ => ⟨rfl, rfl⟩, rfl, fun _ => rfl, fun _ => rfl⟩
      have hE0 := hE.next he0 rfl
      refine plan_sound (E := E) (X := X) (Q0 := Q0) (c0 := { c with W := { c.W with drawn := c.W.drawn + 1 }, s := s0 }) (a0 := a) hE0.tys hops hsel hdst hM (fun _ _ _ h => h) (hEnd.from he0 rfl rfl) p.2 ops.size true (Array.replicate ops.size false) _ [] (fun _ => 0)
        { c with W := { c.W with drawn := c.W.drawn + 1 }, s := s0 } a hgo (Sup.refl _) (fun j hj => by cases hj) hstill ⟨hf0, hE0, Ext.refl _, rfl, rfl, fun _ _ _ _ => rfl, fun _ b g hr hg => ⟨hg, hr.stable⟩, fun j hj => (by cases hj), fun j k hj => (by cases hj)⟩ h0
    split at h
    · rename_i hnil
      refine key c.s hf1 ?_
      rw [hnil]
      exact h
    · rename_i i k ds l hcons
      split at h
      · rename_i hno
        refine key (c.s.junks ds) (junks_fr hf1 hno) ?_
        rw [hcons]
        exact h
      · cases h
/-- All regions of a function that draw their order have a plan that holds. -/
def drawsOK (ty : Nat → Option TI) (nt : Nat) (plan : Nat → Option Plan) : Code → Bool
  | .region id ops draw => match draw with
    | true => (match plan id with | some p => planOK ty ops p | none => true)
    | false => true
  | .seq a b => drawsOK ty nt plan a && drawsOK ty nt plan b
  | .cond _ a b => drawsOK ty nt plan a && drawsOK ty nt plan b
  | .block _ a => drawsOK ty nt plan a
  | .loop a => drawsOK ty nt plan a
  | _ => true
theorem draws_sound {P : Program} {E : Env} {X : Nat} (hm : P.follows .mixedOrders = true) : ∀ (code : Code), codeOK E.nt code = true → drawsOK E.ty E.nt E.plan code = true → DrawsOK P E X code
  | .region id ops draw, hk, h => fun hd => by
    subst hd
    have hops : ∀ o ∈ ops.toList, operOK E.nt o = true := List.all_eq_true.1 hk
    have h' : (match E.plan id with | some p => planOK E.ty ops p | none => true) = true := h
    cases hp : E.plan id with
    | none =>
      intro c a s' Q hE hf hr
      simp only [runRegion, hp] at hr
      cases hr
    | some p =>
      rw [hp] at h'
      exact draw_sound hm hp h' hops
  | .seq a b, hk, h => by
    have hk' : (codeOK E.nt a && codeOK E.nt b) = true := hk
    have h' : (drawsOK E.ty E.nt E.plan a && drawsOK E.ty E.nt E.plan b) = true := h
    simp only [Bool.and_eq_true] at hk' h'
    exact ⟨draws_sound hm a hk'.1 h'.1, draws_sound hm b hk'.2 h'.2⟩
  | .cond _ a b, hk, h => by
    have hk' : (codeOK E.nt a && codeOK E.nt b) = true := hk
    have h' : (drawsOK E.ty E.nt E.plan a && drawsOK E.ty E.nt E.plan b) = true := h
    simp only [Bool.and_eq_true] at hk' h'
    exact ⟨draws_sound hm a hk'.1 h'.1, draws_sound hm b hk'.2 h'.2⟩
  | .block _ a, hk, h => draws_sound hm a hk h
  | .loop a, hk, h => draws_sound hm a hk h
  | .skip, hk, h => trivial
  | .rangeFunc _ _ _ _, hk, h => trivial
  | .scope _, hk, h => trivial
  | .refuse _, hk, h => trivial
  | .exit _, hk, h => trivial
  | .ret, hk, h => trivial
  | .label _, hk, h => trivial
  | .goto _, hk, h => trivial
end Go.Den
namespace Go.Den
open Go Go.RowKit
set_option linter.unusedVariables false
/-- What a call leaves as it was but for a row's block. -/
structure Left (w w' : World) (v : Value) : Prop where
  os : w'.os = w.os
  tape : w'.tape = w.tape
  output : w'.output = w.output
  size : w.heap.size ≤ w'.heap.size
  keep : ∀ g, g < w.heap.size → v.ownBlock ≠ some g → w'.heap[g]? = w.heap[g]?
theorem calls_reaches {P : Program} {f : Nat} {fn : Func} {vals : Array Value} {W : World} {R : Value → World → Prop} (hf : P.funcs[f]? = some fn) (hn : (fn.name == "runtime.NumGoroutine") = false) (hb : fn.body.isSome = true) (h : Calls P f vals W fun e w' => ∃ v, e = .returned v ∧ R v w') : Reaches P f vals W R := by
  obtain ⟨code, hbd⟩ := Option.isSome_iff_exists.1 hb
  have hent : (callFunc f vals).run P W = .ok (.enter f vals) W := by
    have h1 : fn.name ≠ "runtime.NumGoroutine" := by simpa using hn
    simp [callFunc, hf, h1, hbd, mark]
  unfold Reaches
  rw [hent]
  refine Calls.mono h fun e w' he => ?_
  obtain ⟨v, rfl, hr⟩ := he
  exact hr
/-- A row of one-cell elements that is lent, turned in place. -/
def extLent (e : Nat) (φ : List Dat → Option (List Dat)) (args : List D) (u : List (List D)) (l : List (Option Row)) : Option (List D × List (List D) × List (Option Row)) :=
  match args, u, l with
  | [.bor (.lent 0) none], [], [some (e', es)] => match Nat.beq e' e with
    | true => (φ es).map fun es' => ([], [], [some (e, es')])
    | false => none
  | _, _, _ => none
/-- A row of one-cell elements that goes over and comes back, another. -/
def extOver (e : Nat) (φ : List Dat → Option (List Dat)) (args : List D) (u : List (List D)) (l : List (Option Row)) : Option (List D × List (List D) × List (Option Row)) :=
  match args, u, l with
  | [.own e' es], [], [] => match Nat.beq e' e with
    | true => (φ es).map fun es' => ([.own e es'], [], [])
    | false => none
  | _, _, _ => none
def rowCells (es : List Dat) (xs : List Value) : Prop := es.length = xs.length ∧ ∀ (j : Nat) (d : Dat) (v : Value), es[j]? = some d → xs[j]? = some v → d = .val v ∧ scal v = true
theorem repRow_cells {ρ : Nat → Role} {W : World} {es : List Dat} {xs : List Value} (h : rowCells es xs) : RepRow ρ W 1 es xs := by
  obtain ⟨hl, h⟩ := h
  refine ⟨by omega, fun j d hj => ?_, fun j d hj => ?_⟩
  · have hlt := (List.getElem?_eq_some_iff.1 hj).1
    have hx := List.getElem?_eq_getElem (show j < xs.length by omega)
    obtain ⟨rfl, hs⟩ := h j d _ hj hx
    have e1 : (xs.drop (j * 1)).take 1 = [xs[j]] := by
      rw [Nat.mul_one, List.drop_eq_getElem_cons (by omega)]
      rfl
    rw [e1]
    exact .val hs
  · have hlt := (List.getElem?_eq_some_iff.1 hj).1
    have hx := List.getElem?_eq_getElem (show j < xs.length by omega)
    obtain ⟨rfl, hs⟩ := h j d _ hj hx
    rfl
/-- Scalars read back. -/
theorem cells_repRow {ρ : Nat → Role} {W : World} {es : List Dat} {xs : List Value} (h : RepRow ρ W 1 es xs) (hv : ∀ d ∈ es, ∃ v, d = .val v) : rowCells es xs := by
  refine ⟨by have := h.len; omega, fun j d v hd hx => ?_⟩
  obtain ⟨u, rfl⟩ := hv d (List.mem_of_getElem? hd)
  have hr := h.rep j _ hd
  have hlt := (List.getElem?_eq_some_iff.1 hx).1
  have e1 : (xs.drop (j * 1)).take 1 = [v] := by
    rw [Nat.mul_one, List.drop_eq_getElem_cons hlt, (List.getElem?_eq_some_iff.1 hx).2]
    rfl
  rw [e1] at hr
  cases hr with
  | val hs => exact ⟨rfl, hs⟩
theorem extLent_ok {P : Program} {ty : Nat → Option TI} {f e : Nat} {i : TI} {φ : List Dat → Option (List Dat)} (hty : ty e = some i) (hsz : i.sz = 1)
    (hall : ∀ es es', φ es = some es' → ∀ d ∈ es, ∃ v, d = .val v)
    (h : ∀ (es es' : List Dat) (xs : List Value) (W : World) (v : Value), φ es = some es' → rowCells es xs → W.ownsRow 0 e 1 v es.length xs → Reaches P f #[v] W fun r W' => r = undef ∧ Left W W' v ∧ es'.length = es.length ∧ ∃ xs', rowCells es' xs' ∧ W'.ownsRow 0 e 1 v es'.length xs') :
    CallOK P ty fun f' args u l => if f' = f then extLent e φ args u l else none := by
  intro f' args u l rs u' l' hc c vals hcty hcs hsz2 hs
  simp only at hc
  split at hc
  · rename_i hff
    subst hff
    unfold extLent at hc
    split at hc
    · rename_i args u l e' es
      split at hc
      · rename_i hb
        have hb := Nat.eq_of_beq_eq_true hb
        subst hb
        obtain ⟨es', hφ, hq⟩ := Option.map_eq_some_iff.1 hc
        cases hq
        have hrow := hs.lent 0 (e', es) (by rw [hcs]; rfl)
        have hslot := hs.slots 0
        rw [hcs] at hslot
        have hslot : VR c (.slot 0 []) (.bor (.lent 0) none) (vals.getD 0 undef) := hslot
        obtain ⟨e2, es2, A, k, hg, hH, hv⟩ := hslot
        have hg' : c.s.get (.lent 0) = some (e', es) := by rw [hcs]; rfl
        rw [hg'] at hg
        cases hg
        obtain ⟨i2, xs, h1, h2, h3, h4⟩ := hrow.out
        rw [hcty, hty] at h1
        cases h1
        rw [hsz] at h2 h3
        have hvv : vals.getD 0 undef = c.H (.lent 0) := by rw [hH]; exact hv
        have hvals : vals = #[c.H (.lent 0)] := by
          have hsz3 : vals.size = 1 := hsz2
          obtain ⟨⟨a⟩⟩ := vals
          · simp at hsz3
          · rename_i a l
            have : l = [] := by
              simp at hsz3
              exact hsz3
            subst this
            have : a = c.H (.lent 0) := by simpa [Array.getD] using hvv
            rw [this]
        have hcells := cells_repRow h3 (hall es es' hφ)
        rw [hvals]
        refine (h es es' xs c.W (c.H (.lent 0)) hφ hcells h2).mono fun r W' hr => ?_
        obtain ⟨rfl, hL, hlen, xs', hx1, hx2⟩ := hr
        refine ⟨{ c with W := W', s := ⟨fun x => match Nat.beq x 0 with | true => .undef | false => .junk, fun _ => none, [], [some (e', es')]⟩ }, rfl, ?_, rfl, ?_, rfl, ?_⟩
        · refine ⟨hL.os, hL.tape, hL.output, hL.size, fun g hg hst => ⟨rfl, hL.keep g hg fun hob => ?_⟩, rfl, fun _ => rfl, fun _ => rfl⟩
          rw [h4 g hob] at hst
          exact hst.elim
        · refine ⟨fun x => ?_, fun r cs hb => ?_, fun j r hgj => ?_⟩
          · show VR _ _ (match Nat.beq x 0 with | true => .undef | false => .junk) _
            cases hx : Nat.beq x 0 with
            | true =>
              have := Nat.eq_of_beq_eq_true hx
              subst this
              rfl
            | false => trivial
          · cases r with
            | loc n => cases hb
            | up n =>
              have hb' : ([] : List (List D))[n]? = some cs := hb
              simp at hb'
          · have hgj' : (([some (e', es')] : List (Option Row))[j]?).bind id = some r := hgj
            cases j with
            | zero =>
              cases hgj'
              refine ⟨i, xs', by show c.ty e' = some i; rw [hcty]; exact hty, by rw [hsz]; exact hx2, by rw [hsz]; exact repRow_cells hx1, h4⟩
            | succ j => simp at hgj'
        · rw [hcs]
          rfl
      · cases hc
    · cases hc
  · cases hc
theorem extOver_ok {P : Program} {ty : Nat → Option TI} {f e : Nat} {i : TI} {φ : List Dat → Option (List Dat)} (hty : ty e = some i) (hsz : i.sz = 1)
    (hall : ∀ es es', φ es = some es' → ∀ d ∈ es, ∃ v, d = .val v)
    (h : ∀ (es es' : List Dat) (xs : List Value) (W : World) (v : Value), φ es = some es' → rowCells es xs → W.ownsRow 0 e 1 v es.length xs → Reaches P f #[v] W fun r W' => Left W W' v ∧ (∀ g, r.ownBlock = some g → v.ownBlock = some g) ∧ ∃ xs', rowCells es' xs' ∧ W'.ownsRow 0 e 1 r es'.length xs') :
    CallOK P ty fun f' args u l => if f' = f then extOver e φ args u l else none := by
  intro f' args u l rs u' l' hc c vals hcty hcs hsz2 hs
  simp only at hc
  split at hc
  · rename_i hff
    subst hff
    unfold extOver at hc
    split at hc
    · rename_i args u l e' es
      split at hc
      · rename_i hb
        have hb := Nat.eq_of_beq_eq_true hb
        subst hb
        obtain ⟨es', hφ, hq⟩ := Option.map_eq_some_iff.1 hc
        cases hq
        have hslot := hs.slots 0
        rw [hcs] at hslot
        have hslot : VR c (.slot 0 []) (.own e' es) (vals.getD 0 undef) := hslot
        obtain ⟨hvv, hrow⟩ := hslot
        obtain ⟨i2, xs, h1, h2, h3, h4⟩ := hrow.out
        rw [hcty, hty] at h1
        cases h1
        rw [hsz] at h2 h3
        have hvals : vals = #[c.H (.slot 0 [])] := by
          have hsz3 : vals.size = 1 := hsz2
          obtain ⟨⟨a⟩⟩ := vals
          · simp at hsz3
          · rename_i a l
            have : l = [] := by
              simp at hsz3
              exact hsz3
            subst this
            have : a = c.H (.slot 0 []) := by simpa [Array.getD] using hvv
            rw [this]
        have hcells := cells_repRow h3 (hall es es' hφ)
        rw [hvals]
        refine (h es es' xs c.W (c.H (.slot 0 [])) hφ hcells h2).mono fun r W' hr => ?_
        obtain ⟨hL, hob, xs', hx1, hx2⟩ := hr
        refine ⟨{ c with W := W', H := fun q => match q with | .slot 0 [] => r | q => c.H q, s := ⟨fun x => match Nat.beq x 0 with | true => .own e' es' | false => .junk, fun _ => none, [], []⟩ }, rfl, ?_, rfl, ?_, rfl, ?_⟩
        · refine ⟨hL.os, hL.tape, hL.output, hL.size, fun g hg hst => ⟨rfl, hL.keep g hg fun hob => ?_⟩, rfl, fun _ => rfl, fun _ => rfl⟩
          rw [h4 g hob] at hst
          exact hst.elim
        · refine ⟨fun x => ?_, fun r cs hb => ?_, fun j r hgj => ?_⟩
          · show VR _ (.slot x []) (match Nat.beq x 0 with | true => .own e' es' | false => .junk) _
            cases hx : Nat.beq x 0 with
            | true =>
              have := Nat.eq_of_beq_eq_true hx
              subst this
              refine ⟨rfl, ⟨i, xs', by show c.ty e' = some i; rw [hcty]; exact hty, by rw [hsz]; exact hx2, by rw [hsz]; exact repRow_cells hx1, fun g hg => h4 g (hob g hg)⟩⟩
            | false => trivial
          · cases r with
            | loc n => cases hb
            | up n =>
              have hb' : ([] : List (List D))[n]? = some cs := hb
              simp at hb'
          · have hgj' : (([] : List (Option Row))[j]?).bind id = some r := hgj
            simp at hgj'
        · rw [hcs]
          rfl
      · cases hc
    · cases hc
  · cases hc
end Go.Den
namespace Go.Den
open Go Go.RowKit
set_option linter.unusedVariables false
/-- A contract is kept. -/
structure ExtOK (P : Program) (ty : Nat → Option TI) (f : Nat) (g : List D → List (List D) → List (Option Row) → Option (List D × List (List D) × List (Option Row))) : Prop where mk ::
  out : CallOK P ty fun f' args u l => if f' = f then g args u l else none
/-- A configuration whose contracts are kept is sound. -/
theorem cfgOK_of {P : Program} {C : Cfg} (h1 : TyOk P C.ty) (h2 : ∀ f fn, C.ext f = none → C.fn f = some fn → FnOK P C f fn) (h3 : ∀ f g, C.ext f = some g → ExtOK P C.ty f g) : CfgOK P C := ⟨h1, h2, fun f g h => (h3 f g h).out⟩
def intsOf : List Dat → Option (List Int)
  | [] => some []
  | .val (.int .i64 n) :: l => (intsOf l).map (n :: ·)
  | _ => none
def DI (n : Int) : Dat := .val (.int .i64 n)
theorem intsOf_map : ∀ zs : List Int, intsOf (zs.map DI) = some zs
  | [] => rfl
  | z :: zs => by
    show (intsOf (zs.map DI)).map (z :: ·) = _
    rw [intsOf_map zs]
    rfl
theorem intsOf_some : ∀ {es : List Dat} {zs : List Int}, intsOf es = some zs → es = zs.map DI
  | [], zs, h => by cases h; rfl
  | d :: es, zs, h => by
    unfold intsOf at h
    split at h
    · rename_i h0; cases h0
    · rename_i n l h0
      cases h0
      obtain ⟨ys, h1, rfl⟩ := Option.map_eq_some_iff.1 h
      rw [intsOf_some h1]
      rfl
    · cases h
def sortI (es : List Dat) : Option (List Dat) := (intsOf es).map fun zs => (zs.mergeSort fun x y => decide (x ≤ y)).map DI
def compI (es : List Dat) : Option (List Dat) := (intsOf es).map fun zs => (Lib.compact zs).map DI
def extSort (e : Nat) := extLent e fun es => match Nat.ble es.length 1000000 with | true => sortI es | false => none
def extComp (e : Nat) := extOver e fun es => match Nat.ble es.length 1000000 with | true => compI es | false => none
theorem cells_ints {zs : List Int} {xs : List Value} (h : rowCells (zs.map DI) xs) : xs = zs.map (Value.int .i64) := by
  obtain ⟨hl, h⟩ := h
  apply List.ext_getElem?
  intro j
  cases hx : xs[j]? with
  | none =>
    have := List.getElem?_eq_none_iff.1 hx
    have hl' : zs.length ≤ j := by simp at hl; omega
    simp [List.getElem?_eq_none hl']
  | some v =>
    have hlt := (List.getElem?_eq_some_iff.1 hx).1
    have hz : j < zs.length := by simp at hl; omega
    have hd : (zs.map DI)[j]? = some (DI zs[j]) := by simp [hz]
    obtain ⟨h1, _⟩ := h j _ _ hd hx
    have : v = .int .i64 zs[j] := by unfold DI at h1; injection h1 with h1; exact h1.symm
    rw [this]
    simp [hz]
theorem ints_cells (zs : List Int) : rowCells (zs.map DI) (zs.map (Value.int .i64)) := by
  refine ⟨by simp, fun j d v hd hv => ?_⟩
  rw [List.getElem?_map] at hd hv
  cases hz : zs[j]? with
  | none => rw [hz] at hd; cases hd
  | some z =>
    rw [hz] at hd hv
    cases hd; cases hv
    exact ⟨rfl, rfl⟩
theorem row_holds {w : World} {g e cap : Nat} {cur : Array Value} {zs : List Int} (hg : w.heap[g]? = some (.cells cur e (0, 0))) (hc : zs.length ≤ cap) (hs : cur.size = cap * 1) (ht : cur.toList.take (zs.length * 1) = zs.map (Value.int .i64)) : Sort.Holds (Value.int .i64) w g 0 zs.toArray := by
  intro j hj
  have hj : j < zs.length := by simpa using hj
  refine ⟨?_, ?_⟩
  · unfold World.cell?
    simp only [hg]
    have e1 : (cur.toList.take (zs.length * 1))[j]? = (zs.map (Value.int .i64))[j]? := by rw [ht]
    rw [List.getElem?_take, if_pos (by omega), List.getElem?_map, List.getElem?_eq_getElem hj] at e1
    have e2 : (zs.toArray)[j]! = zs[j] := by simp [hj]
    rw [e2]
    simpa using e1
  · unfold World.frozen?
    simp only [hg]
    simp
theorem put_row {w : World} {g e cap n : Nat} {cur : Array Value} {zs : List Int} {os : Array Obj} (hg : w.heap[g]? = some (.cells cur e (0, 0))) (hc : zs.length ≤ cap) (hm : cap ≤ maxLen) (hs : cur.size = cap * 1) {m : Nat} (hmz : m ≤ zs.length) :
    let W' := Sort.grow (Sort.putRow (Value.int .i64) (Sort.ahead w n) g 0 zs.toArray) os
    Left w W' (.slice (some ⟨g, 0, none⟩) m cap) ∧ W'.ownsRow 0 e 1 (.slice (some ⟨g, 0, none⟩) m cap) m ((zs.take m).map (Value.int .i64)) := by
  intro W'
  have hglt : g < w.heap.size := by
    rcases Nat.lt_or_ge g w.heap.size with h | h
    · exact h
    · rw [Array.getElem?_eq_none h] at hg; cases hg
  have hheap : ∀ k, k < w.heap.size → W'.heap[k]? = (w.heap.modify g (Sort.onCells (Sort.putCells (Value.int .i64) 0 zs.toArray)))[k]? := fun k hk => by
    show ((w.heap.modify g _) ++ os)[k]? = _
    rw [Array.getElem?_append_left (by simpa using hk)]
  refine ⟨⟨rfl, rfl, rfl, ?_, fun k hk hne => ?_⟩, ?_⟩
  · show w.heap.size ≤ ((w.heap.modify g _) ++ os).size
    simp
  · rw [hheap k hk, Array.getElem?_modify, if_neg]
    intro h
    subst h
    exact hne rfl
  · refine ⟨by simp; omega, .inr ⟨g, cap, Sort.putCells (Value.int .i64) 0 zs.toArray cur, rfl, Nat.zero_le _, ?_, by omega, hm, ?_, ?_⟩⟩
    · rw [hheap g hglt, Array.getElem?_modify, if_pos rfl, hg]
      rfl
    · unfold Sort.putCells
      simpa using hs
    · apply List.ext_getElem?
      intro j
      rw [List.getElem?_take, List.getElem?_map, List.getElem?_take]
      by_cases hj : j < m
      · have hj1 : j < m * 1 := by omega
        rw [if_pos hj1, if_pos hj]
        have hjc : j < cur.size := by omega
        have hjz : j < zs.length := by omega
        unfold Sort.putCells
        rw [Array.getElem?_toList, Array.getElem?_mapIdx, Array.getElem?_eq_getElem hjc]
        simp only [Option.map_some]
        rw [if_pos ⟨Nat.zero_le _, by simpa using hjz⟩, List.getElem?_eq_getElem hjz]
        simp [hjz]
      · rw [if_neg (by omega), if_neg hj]
        rfl
theorem sort_ok {P : Program} {ty : Nat → Option TI} {f e : Nat} {fn : Func} (hts : (ty e).map TI.sz = some 1) (hf : P.funcs[f]? = some fn) (hn : (fn.name == "runtime.NumGoroutine") = false) (hb : fn.body.isSome = true)
    (h1 : ∀ (blk off cap : Nat) (zs : List Int) (w : World), Sort.Holds (Value.int .i64) w blk off zs.toArray → blk < w.heap.size → zs.length < 4611686018427387904 →
      Calls P f #[.slice (some ⟨blk, off, none⟩) zs.length cap] w fun e w' => e = .returned (.tuple #[]) ∧ ∃ n os, w' = Sort.grow (Sort.putRow (Value.int .i64) (Sort.ahead w n) blk off (zs.mergeSort fun x y => decide (x ≤ y)).toArray) os)
    (h0 : ∀ (p : Option Addr) (cap : Nat) (w : World), Calls P f #[.slice p 0 cap] w fun e w' => e = .returned (.tuple #[]) ∧ w' = w) :
    ExtOK P ty f (extSort e) := by
  constructor
  obtain ⟨i, hty, hsz⟩ := Option.map_eq_some_iff.1 hts
  refine extLent_ok hty hsz (fun es es' hφ d hd => ?_) (fun es es' xs W v hφ hc ho => calls_reaches hf hn hb ?_)
  · split at hφ
    · obtain ⟨zs, hz, _⟩ := Option.map_eq_some_iff.1 hφ
      rw [intsOf_some hz] at hd
      obtain ⟨z, _, rfl⟩ := List.mem_map.1 hd
      exact ⟨_, rfl⟩
    · cases hφ
  · split at hφ
    · rename_i hle
      have hle := Nat.le_of_ble_eq_true hle
      obtain ⟨zs, hz, rfl⟩ := Option.map_eq_some_iff.1 hφ
      have := intsOf_some hz
      subst this
      have hx := cells_ints hc
      subst hx
      have hl : (zs.map DI).length = zs.length := by simp
      rw [hl] at ho hle
      obtain ⟨_, ho⟩ := ho
      rcases ho with ⟨rfl, hz0⟩ | ⟨g, cap, cur, rfl, _, hg, hcap, hm, hs, ht⟩
      · have : zs = [] := List.eq_nil_of_length_eq_zero hz0
        subst this
        refine (h0 none 0 W).mono ?_
        rintro e' w' ⟨rfl, rfl⟩
        refine ⟨_, rfl, rfl, ⟨rfl, rfl, rfl, Nat.le_refl _, fun _ _ _ => rfl⟩, by simp, [], by simpa using ints_cells [], by simp, .inl ⟨rfl, by simp⟩⟩
      · have hglt : g < W.heap.size := by
          rcases Nat.lt_or_ge g W.heap.size with h | h
          · exact h
          · rw [Array.getElem?_eq_none h] at hg; cases hg
        refine (h1 g 0 cap zs W (row_holds hg hcap hs ht) hglt (by omega)).mono ?_
        rintro e' w' ⟨rfl, n, os, rfl⟩
        have hlm : (zs.mergeSort fun x y => decide (x ≤ y)).length = zs.length := by simp
        obtain ⟨hL, hO⟩ := put_row (n := n) (os := os) (zs := zs.mergeSort fun x y => decide (x ≤ y)) hg (by omega) hm hs (m := zs.length) (by omega)
        refine ⟨_, rfl, rfl, hL, by simp, _, ints_cells _, ?_⟩
        rw [List.take_of_length_le (by omega)] at hO
        simpa using hO
    · cases hφ
theorem comp_le (zs : List Int) : (Lib.compact zs).length ≤ zs.length := by
  unfold Lib.compact Lib.compactUpTo
  rw [List.length_map]
  exact Nat.le_trans (List.length_filter_le _ _) (by simp)
theorem comp_ok {P : Program} {ty : Nat → Option TI} {f e : Nat} {fn : Func} (hts : (ty e).map TI.sz = some 1) (hf : P.funcs[f]? = some fn) (hn : (fn.name == "runtime.NumGoroutine") = false) (hb : fn.body.isSome = true)
    (h1 : ∀ (blk off cap : Nat) (zs : List Int) (w : World), Sort.Holds (Value.int .i64) w blk off zs.toArray → zs.length ≤ 9223372036854775807 → zs.length ≤ cap →
      Calls P f #[.slice (some ⟨blk, off, none⟩) zs.length cap] w fun e w' => e = .returned (.slice (some ⟨blk, off, none⟩) (Lib.compact zs).length cap) ∧ ∃ q, w' = Sort.putRow (Value.int .i64) (Sort.ahead w q) blk off (Lib.compact zs ++ List.replicate (zs.length - (Lib.compact zs).length) 0).toArray)
    (h0 : ∀ (p : Option Addr) (cap : Nat) (w : World), Calls P f #[.slice p 0 cap] w fun e w' => e = .returned (.slice p 0 cap) ∧ w' = w) :
    ExtOK P ty f (extComp e) := by
  constructor
  obtain ⟨i, hty, hsz⟩ := Option.map_eq_some_iff.1 hts
  refine extOver_ok hty hsz (fun es es' hφ d hd => ?_) (fun es es' xs W v hφ hc ho => calls_reaches hf hn hb ?_)
  · split at hφ
    · obtain ⟨zs, hz, _⟩ := Option.map_eq_some_iff.1 hφ
      rw [intsOf_some hz] at hd
      obtain ⟨z, _, rfl⟩ := List.mem_map.1 hd
      exact ⟨_, rfl⟩
    · cases hφ
  · split at hφ
    · rename_i hle
      have hle := Nat.le_of_ble_eq_true hle
      obtain ⟨zs, hz, rfl⟩ := Option.map_eq_some_iff.1 hφ
      have := intsOf_some hz
      subst this
      have hx := cells_ints hc
      subst hx
      have hl : (zs.map DI).length = zs.length := by simp
      rw [hl] at ho hle
      obtain ⟨_, ho⟩ := ho
      rcases ho with ⟨rfl, hz0⟩ | ⟨g, cap, cur, rfl, _, hg, hcap, hm, hs, ht⟩
      · have : zs = [] := List.eq_nil_of_length_eq_zero hz0
        subst this
        refine (h0 none 0 W).mono ?_
        rintro e' w' ⟨rfl, rfl⟩
        refine ⟨_, rfl, ⟨rfl, rfl, rfl, Nat.le_refl _, fun _ _ _ => rfl⟩, fun g hg => (by cases hg), [], ints_cells [], rfl, .inl ⟨rfl, rfl⟩⟩
      · refine (h1 g 0 cap zs W (row_holds hg hcap hs ht) (by omega) hcap).mono ?_
        rintro e' w' ⟨rfl, n, rfl⟩
        have hcz := comp_le zs
        have hl2 : (Lib.compact zs ++ List.replicate (zs.length - (Lib.compact zs).length) 0).length = zs.length := by simp; omega
        obtain ⟨hL, hO⟩ := put_row (n := n) (os := #[]) (zs := Lib.compact zs ++ List.replicate (zs.length - (Lib.compact zs).length) 0) hg (by omega) hm hs (m := (Lib.compact zs).length) (by simp)
        rw [Sort.grow_empty] at hL hO
        refine ⟨_, rfl, ⟨hL.os, hL.tape, hL.output, hL.size, hL.keep⟩, fun g' hg' => hg', _, ints_cells _, ?_⟩
        rw [List.take_left' rfl] at hO
        simpa using hO
    · cases hφ
end Go.Den
namespace Go.Den
open Go
def tys : List (Nat × TI) := [(3, ⟨.int .i64, 1, 8, [], [.dat (.val (.int .i64 0))]⟩), (4, ⟨.bool, 1, 1, [], [.dat (.val (.bool false))]⟩), (5, ⟨.int .u8, 1, 1, [], [.dat (.val (.int .u8 0))]⟩), (9, ⟨.str, 1, 16, [], [.dat (.val (.string ByteArray.empty))]⟩), (22, ⟨.slice 52, 1, 24, [], [.own 52 []]⟩), (24, ⟨.slice 50, 1, 24, [], [.own 50 []]⟩), (44, ⟨.slice 46, 1, 24, [], [.own 46 []]⟩), (46, ⟨.struct, 3, 40, [(0, 3), (1, 3), (2, 44)], [.dat (.val (.int .i64 0)), .dat (.val (.int .i64 0)), .own 46 []]⟩), (50, ⟨.struct, 3, 24, [(0, 3), (1, 3), (2, 3)], [.dat (.val (.int .i64 0)), .dat (.val (.int .i64 0)), .dat (.val (.int .i64 0))]⟩), (52, ⟨.struct, 3, 24, [(0, 3), (1, 3), (2, 3)], [.dat (.val (.int .i64 0)), .dat (.val (.int .i64 0)), .dat (.val (.int .i64 0))]⟩), (53, ⟨.slice 55, 1, 24, [], [.own 55 []]⟩), (55, ⟨.struct, 3, 40, [(0, 3), (1, 3), (2, 53)], [.dat (.val (.int .i64 0)), .dat (.val (.int .i64 0)), .own 55 []]⟩), (66, ⟨.slice 3, 1, 24, [], [.own 3 []]⟩), (73, ⟨.other, 1, 8, [], [.dat (.val .nilFunc)]⟩), (79, ⟨.other, 1, 8, [], [.dat (.val .nilFunc)]⟩), (80, ⟨.other, 1, 8, [], [.dat (.val .nilFunc)]⟩), (94, ⟨.other, 1, 8, [], [.dat (.val .nilFunc)]⟩), (101, ⟨.other, 1, 8, [], [.dat (.val .nilFunc)]⟩), (111, ⟨.int .u64, 1, 8, [], [.dat (.val (.int .u64 0))]⟩), (113, ⟨.other, 1, 8, [], [.dat (.val .nilFunc)]⟩), (114, ⟨.slice 4, 1, 24, [], [.own 4 []]⟩), (117, ⟨.int .i64, 1, 8, [], [.dat (.val (.int .i64 0))]⟩), (126, ⟨.int .u32, 1, 4, [], [.dat (.val (.int .u32 0))]⟩), (128, ⟨.int .u64, 1, 8, [], [.dat (.val (.int .u64 0))]⟩), (130, ⟨.int .u64, 1, 8, [], [.dat (.val (.int .u64 0))]⟩), (134, ⟨.other, 1, 8, [], [.dat (.val (.pointer none))]⟩)]
def assoc {α : Type} : List (Nat × α) → Nat → Option α
  | [], _ => none
  | (a, x) :: l, n => match Nat.beq a n with | true => some x | false => assoc l n
def livesOf : List (Nat × List (Nat × List Nat)) := [(17, [(3, [0, 3, 4])]), (19, [(4, [0, 1, 5])]), (20, [(2, [0, 1, 5])]), (21, [(2, [0, 1, 5])]), (44, [(4, [0, 14, 15, 16]), (10, [0, 3, 4, 5, 6, 14, 15, 16]), (15, [0, 3, 4, 5, 7, 8, 14, 15, 16])]), (48, [(3, [0, 4, 5, 21, 22, 23])]), (54, [(3, [1, 2, 4, 15, 16, 17])]), (55, [(10, [2, 9, 60, 61, 62])]), (57, [(2, [1, 7, 8, 9])]), (58, [(3, [0, 3, 6, 7, 8])]), (59, [(6, [1, 4, 6, 21, 22, 23])]), (61, [(6, [1, 5, 18, 19, 20])]), (62, [(6, [1, 4, 5, 21, 22, 23])]), (63, [(3, [0, 1, 7])]), (70, [(9, [1, 2, 3, 6, 8, 41, 42, 43])]), (85, [(3, [1, 2, 3, 6, 9])]), (88, [(3, [0, 1, 5, 6])]), (89, [(4, [0, 7, 22, 23, 24])]), (90, [(5, [0, 1, 6, 9, 10, 59, 60])]), (97, [(4, [3, 6, 21, 22, 23])]), (98, [(2, [0, 1, 7, 8])]), (99, [(3, [3, 7, 8, 9])]), (102, [(3, [1, 2, 3, 6, 9])]), (104, [(2, [0, 1, 7, 8])]), (105, [(6, [1, 2, 29, 30, 31])]), (108, [(4, [0, 3]), (9, [0, 3, 4, 5])]), (113, [(3, [3, 7, 8, 9])]), (115, [(7, [4, 5, 16, 17, 18])]), (116, [(2, [0, 1, 2, 3, 8, 9])]), (120, [(4, [1, 2, 3, 24, 25, 26])]), (121, [(1, [0, 1, 2, 6]), (4, [0, 1, 2, 6, 7])]), (122, [(4, [0, 6, 7, 8, 9]), (8, [0, 6, 7, 10])]), (123, [(5, [0, 1, 6, 7, 8, 9])]), (125, [(2, [0, 6, 7])]), (126, [(3, [0, 1, 2, 7, 8]), (5, [0, 1, 2, 7, 8]), (14, [0, 1, 2, 7, 8, 9]), (20, [0, 1, 2, 7, 8, 10])]), (128, [(0, [0, 1, 9, 10]), (3, [0, 1, 9, 10]), (5, [0, 1, 9, 10])]), (129, [(0, [0, 1, 10, 11]), (3, [0, 1, 10, 11]), (5, [0, 1, 10, 11]), (13, [0, 1, 10, 11]), (15, [0, 1, 10, 11])]), (132, [(2, [0, 1, 7, 8])]), (133, [(1, [0, 2, 3, 8])])]
def outsOf : List (Nat × List (Nat × List Nat)) := [(17, [(3, [3])]), (19, [(4, [4])]), (20, [(2, [1])]), (21, [(2, [1, 4])]), (44, [(4, [2]), (10, [0, 3, 4, 5, 14, 15, 16]), (15, [0, 3, 4, 5, 7, 14, 15, 16])]), (48, [(3, [4, 5])]), (54, [(3, [1, 2, 3, 4])]), (55, [(10, [2, 3, 9])]), (57, [(2, [4])]), (58, [(3, [3])]), (59, [(6, [1, 4, 6])]), (61, [(6, [5])]), (62, [(6, [4, 5])]), (63, [(3, [4, 5, 6])]), (70, [(9, [6, 7, 8])]), (85, [(3, [6, 7, 8])]), (88, [(3, [5])]), (89, [(4, [0])]), (90, [(5, [6, 7, 8, 9, 10])]), (97, [(4, [])]), (98, [(2, [4])]), (99, [(3, [3])]), (102, [(3, [6, 7, 8])]), (104, [(2, [4])]), (105, [(6, [])]), (108, [(4, [0, 2]), (9, [0, 3])]), (113, [(3, [3])]), (115, [(7, [5])]), (116, [(2, [])]), (120, [(4, [])]), (121, [(1, []), (4, [0, 1, 2, 6])]), (122, [(4, [0, 6, 7, 8]), (8, [])]), (123, [(5, [])]), (125, [(2, [])]), (126, [(3, [6]), (5, [0, 1, 2, 7, 8]), (14, [0, 1, 2, 7, 8]), (20, [0, 1, 2, 7, 8])]), (128, [(0, [9]), (3, [0, 1, 9, 10]), (5, [0, 1, 9, 10])]), (129, [(0, [0, 1, 11]), (3, [0, 1, 10, 11]), (5, [0, 1, 10, 11]), (13, [0, 1, 10, 11]), (15, [0, 1, 10, 11])]), (132, [(2, [4])]), (133, [(1, [])])]
def modesOf : List (Nat × List Nat) := [(20, [1]), (21, [0]), (63, [2]), (89, [2]), (107, [1]), (108, [2]), (120, [0, 0, 1])]
def plansOf : List (Nat × List (Nat × Plan)) := [(19, [(6, (none, [(0, 0, []), (1, 0, []), (2, 0, []), (3, 1, []), (4, 0, []), (5, 0, []), (6, 0, []), (7, 1, []), (8, 2, []), (9, 0, [])]))]), (47, [(9, (none, [(0, 0, []), (1, 1, []), (2, 0, []), (3, 1, []), (4, 0, []), (5, 1, []), (6, 0, []), (7, 0, []), (8, 2, []), (9, 2, []), (10, 2, [])])), (10, (none, [(0, 0, []), (1, 1, []), (2, 0, []), (3, 1, []), (4, 0, []), (5, 1, []), (6, 0, []), (8, 0, []), (9, 1, []), (10, 0, []), (11, 1, []), (12, 0, []), (13, 1, []), (14, 0, []), (7, 4, []), (15, 2, []), (16, 2, []), (17, 2, [])]))]), (48, [(1, (none, [(0, 0, [5]), (1, 0, [5]), (2, 0, [5]), (3, 0, [5]), (4, 1, [5]), (5, 0, [5]), (6, 0, [5]), (7, 0, [5]), (8, 0, [5]), (9, 1, [5]), (10, 0, [5]), (11, 3, [5]), (12, 2, [])])), (5, (none, [(0, 0, []), (1, 1, []), (2, 0, []), (3, 0, []), (4, 4, []), (5, 4, []), (6, 2, []), (7, 0, []), (8, 2, [])]))]), (50, [(4, (none, [(0, 1, []), (1, 0, []), (2, 0, []), (3, 0, []), (4, 0, []), (5, 0, []), (6, 0, []), (7, 0, []), (8, 0, []), (9, 1, []), (10, 4, []), (11, 0, []), (12, 2, []), (13, 0, [])]))]), (54, [(12, (none, [(0, 1, []), (1, 1, []), (2, 4, []), (3, 2, []), (4, 0, [])]))]), (55, [(7, (none, [(0, 1, []), (1, 1, []), (2, 4, []), (3, 2, []), (4, 0, [])])), (17, (none, [(0, 1, []), (1, 1, []), (2, 4, []), (3, 2, []), (4, 0, [])]))]), (62, [(10, (none, [(0, 0, []), (1, 1, []), (2, 1, []), (3, 0, []), (4, 4, []), (5, 4, []), (6, 2, []), (7, 0, []), (8, 2, [])]))]), (63, [(8, (none, [(0, 0, [9]), (2, 0, [9]), (3, 0, [9]), (4, 1, [9]), (1, 4, [9]), (5, 2, [9]), (6, 0, [9]), (7, 0, [9]), (8, 0, [9]), (9, 3, [9]), (10, 2, []), (11, 0, [])]))]), (67, [(2, (none, [(0, 1, []), (1, 0, []), (2, 0, []), (3, 1, []), (4, 4, []), (5, 0, []), (6, 0, []), (7, 0, []), (8, 2, []), (9, 0, [])]))]), (70, [(4, (some [3], [(0, 0, []), (1, 1, []), (2, 0, []), (3, 0, []), (5, 0, []), (6, 1, []), (7, 0, []), (8, 0, []), (9, 0, []), (10, 0, []), (4, 4, []), (11, 4, []), (12, 0, [])]))]), (75, [(3, (none, [(1, 0, []), (2, 1, []), (3, 0, []), (0, 4, []), (4, 2, []), (5, 2, []), (6, 2, []), (7, 2, [])])), (5, (none, [(1, 0, []), (2, 1, []), (3, 0, []), (4, 1, []), (0, 4, []), (5, 2, []), (6, 2, []), (7, 2, []), (8, 2, []), (9, 2, []), (10, 2, [])])), (9, (none, [(0, 1, []), (1, 1, []), (2, 1, []), (3, 4, []), (4, 4, []), (5, 2, []), (6, 2, []), (7, 2, [])]))]), (76, [(3, (none, [(1, 0, []), (2, 1, []), (3, 0, []), (0, 4, []), (4, 2, []), (5, 2, []), (6, 2, []), (7, 2, [])])), (5, (none, [(1, 1, []), (0, 4, []), (2, 2, []), (3, 2, []), (4, 2, []), (5, 2, []), (6, 2, [])])), (7, (none, [(0, 0, [4]), (1, 1, [4]), (2, 0, [4]), (3, 1, [4]), (6, 1, [4]), (4, 4, [4]), (5, 4, [4]), (7, 2, [4]), (8, 2, [4]), (9, 3, [4]), (10, 2, [])])), (8, (none, [(0, 0, []), (1, 1, []), (2, 0, []), (3, 1, []), (6, 1, []), (4, 4, []), (5, 4, []), (7, 2, []), (8, 2, []), (9, 2, [])]))]), (90, [(3, (none, [(0, 0, [9]), (1, 0, [9]), (2, 0, [9]), (3, 0, [9]), (4, 1, [9]), (5, 0, [9]), (6, 0, [9]), (7, 0, [9]), (8, 0, [9]), (9, 1, [9]), (10, 0, [9]), (11, 0, [9]), (12, 0, [9]), (13, 3, [9]), (14, 2, []), (15, 0, [])]))]), (92, [(7, (some [3], [(0, 0, []), (1, 1, []), (2, 0, []), (3, 1, []), (4, 0, []), (5, 0, []), (7, 0, []), (8, 1, []), (9, 0, []), (10, 1, []), (11, 0, []), (12, 0, []), (6, 4, []), (13, 2, []), (14, 2, []), (15, 2, [])]))]), (95, [(1, (none, [(0, 0, []), (1, 1, []), (2, 0, []), (3, 0, []), (4, 1, []), (5, 0, []), (6, 1, []), (7, 0, []), (8, 1, []), (9, 0, []), (10, 1, []), (11, 2, []), (12, 2, [])]))]), (100, [(1, (none, [(0, 0, []), (1, 1, []), (2, 0, []), (3, 0, []), (4, 1, []), (5, 0, []), (6, 1, []), (7, 0, []), (8, 1, []), (9, 0, []), (10, 1, []), (11, 2, []), (12, 2, [])]))]), (108, [(6, (none, [(0, 0, []), (1, 0, []), (2, 0, []), (3, 1, []), (4, 0, []), (5, 0, []), (6, 0, []), (7, 0, []), (8, 1, []), (9, 0, [])])), (11, (none, [(0, 0, []), (1, 0, []), (2, 0, []), (3, 1, []), (4, 0, []), (5, 0, []), (6, 0, []), (7, 0, []), (8, 1, []), (9, 0, [])]))]), (111, [(6, (none, [(0, 0, []), (1, 1, []), (2, 0, []), (3, 1, []), (6, 0, []), (7, 1, []), (8, 0, []), (9, 1, []), (10, 0, []), (4, 4, []), (5, 0, []), (11, 2, []), (12, 0, []), (13, 0, [])]))]), (116, [(17, (none, [(0, 0, []), (1, 0, []), (2, 0, []), (3, 0, []), (4, 0, []), (5, 0, []), (6, 0, []), (7, 1, []), (8, 0, []), (9, 0, []), (10, 0, []), (11, 1, []), (12, 2, []), (13, 0, []), (14, 0, [])]))]), (121, [(4, (none, [(0, 0, []), (1, 0, []), (2, 0, []), (3, 0, []), (4, 0, []), (5, 0, []), (6, 0, []), (7, 1, []), (8, 0, []), (9, 0, []), (10, 0, []), (11, 0, []), (12, 1, []), (13, 2, []), (14, 0, [])])), (6, (none, [(0, 0, []), (1, 0, []), (2, 0, []), (3, 0, []), (4, 0, []), (5, 0, []), (6, 0, []), (7, 0, []), (8, 0, []), (9, 1, []), (10, 0, []), (11, 0, []), (12, 0, []), (13, 1, []), (14, 0, []), (15, 2, []), (16, 0, []), (17, 2, [])]))]), (122, [(10, (none, [(0, 0, []), (1, 0, []), (2, 0, []), (3, 0, []), (4, 0, []), (5, 0, []), (6, 0, []), (7, 0, []), (8, 0, []), (9, 0, []), (10, 0, []), (11, 1, []), (12, 0, []), (13, 0, []), (14, 0, []), (15, 1, []), (16, 0, []), (17, 2, []), (18, 0, []), (19, 2, [])]))]), (123, [(10, (none, [(0, 0, []), (1, 0, []), (2, 0, []), (3, 0, []), (4, 0, []), (5, 0, []), (6, 0, []), (7, 0, []), (8, 0, []), (9, 0, []), (10, 0, []), (11, 1, []), (12, 0, []), (13, 0, []), (14, 0, []), (15, 1, []), (16, 0, []), (17, 2, []), (18, 0, []), (19, 2, [])]))]), (125, [(3, (none, [(0, 0, []), (1, 0, []), (2, 0, []), (3, 0, []), (4, 0, []), (5, 0, []), (6, 0, []), (7, 1, []), (8, 0, []), (9, 0, []), (10, 0, []), (11, 1, []), (12, 0, []), (13, 2, []), (14, 0, []), (15, 2, [])]))]), (126, [(5, (none, [(0, 0, []), (1, 0, []), (2, 0, []), (3, 0, []), (4, 0, []), (5, 0, []), (6, 0, []), (7, 1, []), (8, 0, []), (9, 0, []), (10, 0, []), (11, 0, []), (12, 1, []), (13, 2, []), (14, 0, []), (15, 0, [])])), (11, (none, [(0, 0, []), (1, 0, []), (2, 0, []), (3, 0, []), (4, 0, []), (5, 0, []), (6, 0, []), (7, 0, []), (8, 0, []), (9, 1, []), (10, 0, []), (11, 0, []), (12, 0, []), (13, 1, []), (14, 0, []), (15, 2, []), (16, 0, []), (17, 2, [])])), (16, (none, [(0, 0, []), (1, 0, []), (2, 0, []), (3, 1, []), (4, 0, []), (5, 0, []), (6, 0, []), (7, 0, []), (8, 1, []), (9, 2, []), (10, 0, [])])), (17, (none, [(0, 0, []), (1, 0, []), (2, 0, []), (3, 0, []), (4, 0, []), (5, 0, []), (6, 0, []), (7, 0, []), (8, 0, []), (9, 1, []), (10, 0, []), (11, 0, []), (12, 0, []), (13, 1, []), (14, 0, []), (15, 2, []), (16, 0, []), (17, 2, [])])), (22, (none, [(0, 0, []), (1, 0, []), (2, 0, []), (3, 1, []), (4, 0, []), (5, 0, []), (6, 0, []), (7, 0, []), (8, 1, []), (9, 2, []), (10, 0, [])])), (23, (none, [(0, 0, []), (1, 0, []), (2, 0, []), (3, 0, []), (4, 0, []), (5, 0, []), (6, 0, []), (7, 0, []), (8, 0, []), (9, 1, []), (10, 0, []), (11, 0, []), (12, 0, []), (13, 1, []), (14, 0, []), (15, 2, []), (16, 0, []), (17, 2, [])]))]), (128, [(1, (none, [(0, 0, []), (1, 0, []), (2, 0, []), (3, 0, []), (4, 0, []), (5, 0, []), (6, 0, []), (7, 1, []), (8, 0, []), (9, 0, []), (10, 0, []), (11, 1, []), (12, 0, []), (13, 2, []), (14, 0, []), (15, 2, [])])), (3, (none, [(0, 0, []), (1, 0, []), (2, 0, []), (3, 0, []), (4, 0, []), (5, 0, []), (6, 0, []), (7, 1, []), (8, 0, []), (9, 0, []), (10, 0, []), (11, 1, []), (12, 2, []), (13, 0, []), (14, 0, [])])), (5, (none, [(0, 0, []), (1, 0, []), (2, 0, []), (3, 0, []), (4, 0, []), (5, 0, []), (6, 0, []), (7, 1, []), (8, 0, []), (9, 0, []), (10, 0, []), (11, 1, []), (12, 2, []), (13, 0, [])])), (8, (none, [(0, 0, []), (1, 0, []), (2, 0, []), (3, 0, []), (4, 0, []), (5, 0, []), (6, 0, []), (7, 1, []), (8, 0, []), (9, 0, []), (10, 0, []), (11, 1, []), (12, 0, []), (13, 2, []), (14, 0, []), (15, 2, [])]))]), (129, [(1, (none, [(0, 0, []), (1, 0, []), (2, 0, []), (3, 0, []), (4, 0, []), (5, 0, []), (6, 0, []), (7, 1, []), (8, 0, []), (9, 0, []), (10, 0, []), (11, 1, []), (12, 0, []), (13, 2, []), (14, 0, []), (15, 2, [])])), (3, (none, [(0, 0, []), (1, 0, []), (2, 0, []), (3, 0, []), (4, 0, []), (5, 0, []), (6, 0, []), (7, 1, []), (8, 0, []), (9, 0, []), (10, 0, []), (11, 1, []), (12, 2, []), (13, 0, [])])), (5, (none, [(0, 0, []), (1, 0, []), (2, 0, []), (3, 0, []), (4, 0, []), (5, 0, []), (6, 0, []), (7, 1, []), (8, 0, []), (9, 0, []), (10, 0, []), (11, 1, []), (12, 2, []), (13, 0, []), (14, 0, [])])), (8, (none, [(0, 0, []), (1, 0, []), (2, 0, []), (3, 0, []), (4, 0, []), (5, 0, []), (6, 0, []), (7, 1, []), (8, 0, []), (9, 0, []), (10, 0, []), (11, 1, []), (12, 0, []), (13, 2, []), (14, 0, []), (15, 2, [])])), (10, (none, [(0, 0, []), (1, 0, []), (2, 0, []), (3, 0, []), (4, 0, []), (5, 0, []), (6, 0, []), (7, 1, []), (8, 0, []), (9, 0, []), (10, 0, []), (11, 1, []), (12, 0, []), (13, 2, []), (14, 0, []), (15, 2, [])])), (13, (none, [(0, 0, []), (1, 0, []), (2, 0, []), (3, 0, []), (4, 0, []), (5, 0, []), (6, 0, []), (7, 1, []), (8, 0, []), (9, 0, []), (10, 0, []), (11, 1, []), (12, 2, []), (13, 0, [])])), (15, (none, [(0, 0, []), (1, 0, []), (2, 0, []), (3, 0, []), (4, 0, []), (5, 0, []), (6, 0, []), (7, 1, []), (8, 0, []), (9, 0, []), (10, 0, []), (11, 1, []), (12, 2, []), (13, 0, []), (14, 0, [])])), (18, (none, [(0, 0, []), (1, 0, []), (2, 0, []), (3, 0, []), (4, 0, []), (5, 0, []), (6, 0, []), (7, 1, []), (8, 0, []), (9, 0, []), (10, 0, []), (11, 1, []), (12, 0, []), (13, 2, []), (14, 0, []), (15, 2, [])])), (21, (none, [(0, 0, []), (1, 0, []), (2, 0, []), (3, 0, []), (4, 0, []), (5, 0, []), (6, 0, []), (7, 1, []), (8, 0, []), (9, 0, []), (10, 0, []), (11, 1, []), (12, 0, []), (13, 2, []), (14, 0, []), (15, 2, [])]))]), (133, [(3, (none, [(0, 0, []), (1, 0, []), (2, 0, []), (3, 0, []), (4, 0, []), (5, 0, []), (6, 0, []), (7, 0, []), (8, 0, []), (9, 0, []), (10, 1, []), (11, 0, []), (12, 0, []), (13, 0, []), (14, 0, []), (15, 0, []), (16, 0, []), (17, 1, []), (18, 2, []), (19, 0, [])])), (5, (none, [(0, 0, []), (1, 0, []), (2, 0, []), (3, 0, []), (4, 0, []), (5, 1, []), (6, 0, []), (7, 0, []), (8, 0, []), (9, 0, []), (10, 0, []), (11, 1, []), (12, 2, []), (13, 0, [])])), (6, (none, [(0, 0, []), (1, 0, []), (2, 0, []), (3, 0, []), (4, 0, []), (5, 0, []), (6, 0, []), (7, 0, []), (8, 0, []), (9, 0, []), (10, 0, []), (11, 0, []), (12, 0, []), (13, 1, []), (14, 0, []), (15, 0, []), (16, 0, []), (17, 0, []), (18, 0, []), (19, 1, []), (20, 0, []), (21, 2, []), (22, 0, []), (23, 2, [])]))]), (135, [(1, (none, [(0, 0, []), (1, 0, []), (2, 1, []), (3, 0, []), (4, 0, []), (5, 1, []), (6, 0, []), (7, 0, []), (8, 0, []), (9, 2, [])])), (2, (none, [(0, 0, []), (1, 0, []), (2, 1, []), (3, 0, []), (4, 0, []), (5, 1, []), (6, 0, []), (7, 0, []), (8, 0, []), (9, 2, [])])), (3, (none, [(0, 0, []), (1, 0, []), (2, 1, []), (3, 0, []), (4, 0, []), (5, 1, []), (6, 0, []), (7, 0, []), (8, 0, []), (9, 2, [])]))]), (139, [(1, (none, [(0, 0, []), (1, 0, []), (2, 0, []), (3, 1, []), (4, 0, []), (5, 0, []), (6, 0, []), (7, 1, []), (8, 2, [])]))])]
def cfgN : Nat := 150
def skips : List Nat := [108]
def extsOf : List (Nat × (List D → List (List D) → List (Option Row) → Option (List D × List (List D) × List (Option Row)))) := [(107, extSort 3), (108, extComp 3)]
def extNums : List Nat := [107, 108]
noncomputable def cfg : Cfg where
  ty := assoc tys
  fn := fun f => match Nat.blt f cfgN && !memN f skips && !memN f extNums with | true => Go.Proofs.Try.prog.funcs[f]? | false => none
  mode := fun f => (assoc modesOf f).getD []
  live := fun f r => ((assoc livesOf f).bind fun l => assoc l r).getD []
  out := fun f r => ((assoc outsOf f).bind fun l => assoc l r).getD []
  plan := fun f r => (assoc plansOf f).bind fun l => assoc l r
  ext := assoc extsOf
end Go.Den
namespace Go.Proofs
open Go.Shelf
def Try.lays189_ren : Go.Shelf.Ren := ⟨fun | 189 => 107 | 125 => 117 | 257 => 116 | 128 => 130 | 129 => 131 | 294 => 121 | 295 => 122 | 296 => 123 | 297 => 124 | 298 => 125 | 299 => 126 | 216 => 127 | 300 => 128 | 301 => 129 | 328 => 133 | 329 => 134 | 330 => 135 | 331 => 136 | 332 => 137 | 215 => 138 | 343 => 139 | n => n, fun | 28 => 66 | 3 => 3 | 46 => 111 | 0 => 0 | 51 => 126 | 53 => 128 | 4 => 4 | 183 => 118 | 182 => 117 | 131 => 123 | 5 => 5 | 9 => 9 | 218 => 130 | 222 => 134 | 228 => 136 | 229 => 137 | n => n, fun | n => n⟩
theorem Try.lays189 : Go.Proofs.Lays.n189 Try.prog Try.lays189_ren := {
  mixed := by kernel_rfl
  f125 := Try.func117.trans (congrArg some (by kernel_rfl))
  f128 := Try.func130.trans (congrArg some (by kernel_rfl))
  f129 := Try.func131.trans (congrArg some (by kernel_rfl))
  f189 := Try.func107.trans (congrArg some (by kernel_rfl))
  f215 := Try.func138.trans (congrArg some (by kernel_rfl))
  f216 := Try.func127.trans (congrArg some (by kernel_rfl))
  f257 := Try.func116.trans (congrArg some (by kernel_rfl))
  f294 := Try.func121.trans (congrArg some (by kernel_rfl))
  f295 := Try.func122.trans (congrArg some (by kernel_rfl))
  f296 := Try.func123.trans (congrArg some (by kernel_rfl))
  f297 := Try.func124.trans (congrArg some (by kernel_rfl))
  f298 := Try.func125.trans (congrArg some (by kernel_rfl))
  f299 := Try.func126.trans (congrArg some (by kernel_rfl))
  f300 := Try.func128.trans (congrArg some (by kernel_rfl))
  f301 := Try.func129.trans (congrArg some (by kernel_rfl))
  f328 := Try.func133.trans (congrArg some (by kernel_rfl))
  f329 := Try.func134.trans (congrArg some (by kernel_rfl))
  f330 := Try.func135.trans (congrArg some (by kernel_rfl))
  f331 := Try.func136.trans (congrArg some (by kernel_rfl))
  f332 := Try.func137.trans (congrArg some (by kernel_rfl))
  f343 := Try.func139.trans (congrArg some (by kernel_rfl))
  t0 := Try.underlying0
  a0 := Try.isAgg0
  z0 := Try.sizeOf0
  v0 := Try.zeroValue0
  t3 := Try.underlying3
  a3 := Try.isAgg3
  z3 := Try.sizeOf3
  v3 := Try.zeroValue3
  t4 := Try.underlying4
  a4 := Try.isAgg4
  z4 := Try.sizeOf4
  v4 := Try.zeroValue4
  t5 := Try.underlying5
  a5 := Try.isAgg5
  z5 := Try.sizeOf5
  v5 := Try.zeroValue5
  t9 := Try.underlying9
  a9 := Try.isAgg9
  z9 := Try.sizeOf9
  v9 := Try.zeroValue9
  t28 := Try.underlying66
  a28 := Try.isAgg66
  z28 := Try.sizeOf66
  v28 := Try.zeroValue66
  t46 := Try.underlying111
  a46 := Try.isAgg111
  z46 := Try.sizeOf111
  v46 := Try.zeroValue111
  t51 := Try.underlying126
  a51 := Try.isAgg126
  z51 := Try.sizeOf126
  v51 := Try.zeroValue126
  t53 := Try.underlying128
  a53 := Try.isAgg128
  z53 := Try.sizeOf128
  v53 := Try.zeroValue128
  t131 := Try.underlying123
  a131 := Try.isAgg123
  z131 := Try.sizeOf123
  v131 := Try.zeroValue123
  t182 := Try.underlying117
  a182 := Try.isAgg117
  z182 := Try.sizeOf117
  v182 := Try.zeroValue117
  t183 := Try.underlying118
  a183 := Try.isAgg118
  z183 := Try.sizeOf118
  v183 := Try.zeroValue118
  t218 := Try.underlying130
  a218 := Try.isAgg130
  z218 := Try.sizeOf130
  v218 := Try.zeroValue130
  t222 := Try.underlying134
  a222 := Try.isAgg134
  z222 := Try.sizeOf134
  v222 := Try.zeroValue134
  t228 := Try.underlying136
  a228 := Try.isAgg136
  z228 := Try.sizeOf136
  v228 := Try.zeroValue136
  t229 := Try.underlying137
  a229 := Try.isAgg137
  z229 := Try.sizeOf137
  v229 := Try.zeroValue137 }
open Go.Sort Go.RowKit in
theorem Try.slices_Sort_int (blk off cap : Nat) (zs : List Int) (w : World) (hH : Holds (Value.int .i64) w blk off zs.toArray) (hblk : blk < w.heap.size) (hsz : zs.length < 4611686018427387904) :
    Calls Try.prog 107 #[.slice (some ⟨blk, off, none⟩) zs.length cap] w fun e w' =>
      e = .returned (.tuple #[]) ∧ ∃ n os, w' = grow (putRow (Value.int .i64) (Sort.ahead w n) blk off (zs.mergeSort fun x y => decide (x ≤ y)).toArray) os := Any.slices_Sort_int Try.lays189 blk off cap zs w hH hblk hsz
def Try.laysNm220_ren : Go.Shelf.Ren := ⟨fun | 20 => 108 | n => n, fun | 22 => 66 | 3 => 3 | 4 => 4 | 0 => 0 | n => n, fun | n => n⟩
theorem Try.laysNm220 : Go.Proofs.Lays2.n20 Try.prog Try.laysNm220_ren := {
  mixed := by kernel_rfl
  f20 := Try.func108.trans (congrArg some (by kernel_rfl))
  t0 := Try.underlying0
  a0 := Try.isAgg0
  z0 := Try.sizeOf0
  v0 := Try.zeroValue0
  t3 := Try.underlying3
  a3 := Try.isAgg3
  z3 := Try.sizeOf3
  v3 := Try.zeroValue3
  t4 := Try.underlying4
  a4 := Try.isAgg4
  z4 := Try.sizeOf4
  v4 := Try.zeroValue4
  t22 := Try.underlying66
  a22 := Try.isAgg66
  z22 := Try.sizeOf66
  v22 := Try.zeroValue66
  i3 := by kernel_rfl }
open Go.RowKit Go.Lib Go.Sort in
/-- slices.Compact at []int: "Compact replaces consecutive runs of equal elements with a single copy. This is like the uniq command found on Unix. Compact modifies the contents of the slice s and returns the modified slice, which may have a smaller length. Compact zeroes the elements between the new length and the original length. The result preserves the nilness of s.": IT RETURNS THE SLICE CUT TO 'Lib.compact zs'; ITS CELLS HOLD 'Lib.compact zs', THEN ZERO VALUES up to the old length; all else is as it was, but for the count of draws. IN THE WORDS OF slices.Sort's CONTRACT ('Holds', 'putRow'): so the everyday 'slices.Sort(xs); xs = slices.Compact(xs)' goes from the one contract to the other. It asks 'zs.length ≤ cap' (every slice's: the reslicing 's[:k]' looks at it). Length 0, nil: '.._empty'. (LAID: no walk: one application.) -/
theorem Try.slices_Compact_int (blk off cap : Nat) (zs : List Int) (w : World) (hH : Holds (Value.int .i64) w blk off zs.toArray) (hsz : zs.length ≤ 9223372036854775807) (hcap : zs.length ≤ cap) :
    Calls Try.prog 108 #[.slice (some ⟨blk, off, none⟩) zs.length cap] w fun e w' => e = .returned (.slice (some ⟨blk, off, none⟩) (Lib.compact zs).length cap) ∧ ∃ q, w' = putRow (Value.int .i64) (Sort.ahead w q) blk off (Lib.compact zs ++ List.replicate (zs.length - (Lib.compact zs).length) 0).toArray := Any.slices_Compact_int Try.laysNm220 blk off cap zs w hH hsz hcap
open Go.RowKit Go.Lib Go.Sort in
/-- The same at a slice of length 0, a nil one too: it comes back as it is. (LAID: no walk: one application.) -/
theorem Try.slices_Compact_int_empty (a : Option Addr) (cap : Nat) (w : World) :
    Calls Try.prog 108 #[.slice a 0 cap] w fun e w' => e = .returned (.slice a 0 cap) ∧ w' = w := Any.slices_Compact_int_empty Try.laysNm220 a cap w
open Go.RowKit Go.Sort in
/-- .. and plain. (LAID: no walk: one application.) -/
theorem Try.slices_Sort_int_none (p : Option Addr) (cap : Nat) (w : World) :
    Calls Try.prog 107 #[.slice p 0 cap] w fun e w' => e = .returned (.tuple #[]) ∧ w' = w := Any.slices_Sort_int_none Try.lays189 p cap w
end Go.Proofs
namespace Go.Den
open Go
set_option linter.unusedVariables false
theorem assoc_mem {α : Type} {n : Nat} {x : α} : ∀ {l : List (Nat × α)}, assoc l n = some x → (n, x) ∈ l
  | [], h => by cases h
  | (a, y) :: l, h => by
    unfold assoc at h
    split at h
    · rename_i hb
      cases h
      rw [beq_eq.1 hb]
      exact List.mem_cons_self
    · exact List.mem_cons_of_mem _ (assoc_mem h)
noncomputable def tysGood : Bool := tys.all fun p => tyIs Go.Proofs.Try.prog (assoc tys) p.1 p.2
theorem tys_good : tysGood = true := by kernel_rfl
theorem cfg_ty : TyOk Go.Proofs.Try.prog cfg.ty := fun t i h => (List.all_eq_true.1 tys_good) (t, i) (assoc_mem h)
def fnGood (C : Cfg) (f : Nat) : Bool :=
  match C.fn f with
  | some fn => !(fn.name == "runtime.NumGoroutine") && (match fn.body with | some c => codeOK fn.ntmps c && drawsOK C.ty fn.ntmps (C.plan f) c | none => true)
  | none => true
noncomputable def fnsGood : Bool := (List.range cfgN).all (fnGood cfg)
theorem fns_good : fnsGood = true := by kernel_rfl
theorem follows_any : Go.Proofs.Try.prog.follows .mixedOrders = true := by kernel_rfl
theorem cfg_fn {f : Nat} {fn : Func} (h : cfg.fn f = some fn) : FnOK Go.Proofs.Try.prog cfg f fn := by
  have hlt : f < cfgN ∧ Go.Proofs.Try.prog.funcs[f]? = some fn := by
    unfold cfg at h
    simp only at h
    split at h
    · rename_i hb
      simp only [Bool.and_eq_true] at hb
      have : f + 1 ≤ cfgN := by simpa [Nat.blt] using hb.1.1
      exact ⟨by omega, h⟩
    · cases h
  have hg := (List.all_eq_true.1 fns_good) f (List.mem_range.2 hlt.1)
  unfold fnGood at hg
  rw [h] at hg
  simp only [Bool.and_eq_true, Bool.not_eq_true'] at hg
  refine ⟨hlt.2, hg.1, fun c hc => ?_, fun c hc call _ => ?_⟩
  · have := hg.2
    rw [hc] at this
    simp only [Bool.and_eq_true] at this
    exact this.1
  · have := hg.2
    rw [hc] at this
    simp only [Bool.and_eq_true] at this
    exact draws_sound (E := ⟨cfg.ty, cfg.mode, fn.ntmps, cfg.live f, cfg.out f, cfg.plan f, call⟩) follows_any c this.1 this.2
theorem cfg_e {f : Nat} {g : List D → List (List D) → List (Option Row) → Option (List D × List (List D) × List (Option Row))} (h : cfg.ext f = some g) : ExtOK Go.Proofs.Try.prog cfg.ty f g := by
  have hm := assoc_mem (show assoc extsOf f = some g from h)
  simp only [extsOf, List.mem_cons, Prod.mk.injEq, List.not_mem_nil, or_false] at hm
  rcases hm with ⟨rfl, rfl⟩ | ⟨rfl, rfl⟩
  · exact sort_ok (fn := Go.Proofs.Try.f107) (by kernel_rfl) (by kernel_rfl) (by kernel_rfl) (by kernel_rfl) (fun blk off cap zs w h1 h2 h3 => Go.Proofs.Try.slices_Sort_int blk off cap zs w h1 h2 h3) (fun p cap w => Go.Proofs.Try.slices_Sort_int_none p cap w)
  · exact comp_ok (fn := Go.Proofs.Try.f108) (by kernel_rfl) (by kernel_rfl) (by kernel_rfl) (by kernel_rfl) (fun blk off cap zs w h1 h2 h3 => Go.Proofs.Try.slices_Compact_int blk off cap zs w h1 h2 h3) (fun p cap w => Go.Proofs.Try.slices_Compact_int_empty p cap w)
theorem cfg_ok : CfgOK Go.Proofs.Try.prog cfg := cfgOK_of cfg_ty (fun f fn _ h => cfg_fn h) (fun f g h => cfg_e h)
structure Says (P : Program) (C : Cfg) : Prop where mk ::
  out : ∀ k, CallOK P C.ty (den C k)
theorem says_of {P : Program} {C : Cfg} (h : CfgOK P C) : Says P C := ⟨den_sound h⟩
theorem den_true : Says Go.Proofs.Try.prog cfg := @says_of _ _ cfg_ok
end Go.Den
namespace Go.Den
open Go Go.RowKit Go.ChangeShapes Go.WideShapes Go.Deep
set_option linter.unusedVariables false
/-- Data of a type. -/
inductive WT (ty : Nat → Option TI) : Nat → Dat → Prop where
  | int {t : Nat} {i : TI} {k : IntKind} {n : Int} (ht : ty t = some i) (hk : i.kind = .int k) (h : (Lit.int k n).wf = true) : WT ty t (.val (.int k n))
  | bool {t : Nat} {i : TI} {b : Bool} (ht : ty t = some i) (hk : i.kind = .bool) : WT ty t (.val (.bool b))
  | str {t : Nat} {i : TI} {s : ByteArray} (ht : ty t = some i) (hk : i.kind = .str) (h : s.size ≤ maxLen) : WT ty t (.val (.string s))
  | lst {t : Nat} {i : TI} {e : Nat} {es : List Dat} (ht : ty t = some i) (hk : i.kind = .slice e) (hl : es.length ≤ maxLen) (h : ∀ d ∈ es, WT ty e d) : WT ty t (.lst false es)
  | agg {t : Nat} {i : TI} {cs : List Dat} (ht : ty t = some i) (hk : i.kind = .struct) (hl : cs.length = i.fs.length) (h : ∀ (j : Nat) (f : Nat × Nat) (d : Dat), i.fs[j]? = some f → cs[j]? = some d → WT ty f.2 d) : WT ty t (.agg cs)
/-- Types of which arguments are read: numbers, bools, strings, structs of one-cell fields, slices. -/
def plainTy (ty : Nat → Option TI) : Nat → Nat → Bool
  | 0, _ => false
  | n + 1, t => match ty t with
    | none => false
    | some i => match i.kind with
      | .int _ => true
      | .bool => true
      | .str => true
      | .slice e => plainTy ty n e && (match ty e with | some j => Nat.blt 0 j.sz | none => false)
      | .struct => Nat.beq i.sz i.fs.length && (List.range i.fs.length).all fun j => match i.fs[j]? with
        | some f => Nat.beq f.1 j && (plainTy ty n f.2 && (match ty f.2 with | some k => Nat.beq k.sz 1 && !k.agg | none => false))
        | none => false
      | .other => false
theorem cellsOf_eq {P : Program} {ty : Nat → Option TI} {t : Nat} {i : TI} {inf : TypeInfo} {d : TypeDesc} {z : Value} (h : TyFacts P ty t i inf d z) : P.cellsOf t = i.sz := by
  unfold Program.cellsOf
  rw [h.info]
  simpa using h.size
theorem spot_none {w : World} {a : Addr} {v : Value} (h : w.cell? a = some v) : a.spot = none := by
  unfold World.cell? at h
  split at h
  · split at h
    · cases h
    · rename_i hs
      simpa using hs
  · cases h
theorem addr_lit {a : Addr} (h : a.spot = none) : a = ⟨a.block, a.off, none⟩ := by cases a; simp at h; subst h; rfl
/-- What reads as data of a type stands as data of that type. -/
theorem rd_dat {P : Program} {ty : Nat → Option TI} (hty : TyOk P ty) : ∀ (n t : Nat), plainTy ty n t = true → ∀ {H : Type} (enc : TypeId × Value → H) (w : World) (base : Nat) (spare : Nat → Bool) (held : Bool) (fuel : Nat) (cs : List Value) (x : DataW H × List MemPlace),
    DataW.trod enc P w base spare held fuel t cs = some x → ∃ d, Rep (fun _ => .set) w d cs ∧ WT ty t d
  | 0, t, hp => by cases hp
  | n + 1, t, hp => by
    intro enc w base spare held fuel cs x h
    unfold plainTy at hp
    split at hp
    · cases hp
    · rename_i i hi
      obtain ⟨inf, de, z, hf⟩ := hty.facts hi
      have hkk := hf.kind
      split at hp
      · rename_i k hk
        have hu : P.underlying t = some (.int k) := by
          rw [hf.und]
          cases de <;> simp [kindIs, hk] at hkk ⊢
          exact hkk
        obtain ⟨m, rfl, _, hw⟩ := DataW.trod_int hu h
        exact ⟨.val (.int k m), .val rfl, .int hi hk hw⟩
      · rename_i hk
        have hu : P.underlying t = some .bool := by
          rw [hf.und]
          cases de <;> simp [kindIs, hk] at hkk ⊢
        obtain ⟨m, rfl, _⟩ := DataW.trod_bool hu h
        exact ⟨.val (.bool m), .val rfl, .bool hi hk⟩
      · rename_i hk
        have hu : P.underlying t = some .string := by
          rw [hf.und]
          cases de <;> simp [kindIs, hk] at hkk ⊢
        obtain ⟨m, rfl, _, hs⟩ := DataW.trod_string hu h
        exact ⟨.val (.string m), .val rfl, .str hi hk hs⟩
      · rename_i e hk
        simp only [Bool.and_eq_true] at hp
        obtain ⟨hp1, hp2⟩ := hp
        have hu : P.underlying t = some (.slice e) := by
          rw [hf.und]
          cases de <;> simp [kindIs, hk] at hkk ⊢
          exact hkk.1
        cases hj : ty e with
        | none => rw [hj] at hp2; cases hp2
        | some j =>
        rw [hj] at hp2
        have hsz : 0 < j.sz := by
          have : 0 + 1 ≤ j.sz := by simpa [Nat.blt] using hp2
          omega
        obtain ⟨_, _, _, hfe⟩ := hty.facts hj
        have hce := cellsOf_eq hfe
        rcases open_slice hu h with ⟨rfl, _⟩ | ⟨a, len, cap, m, n', D, Pl, rfl, _, hl, hm, hmm, _, hx⟩
        · exact ⟨.lst false [], .nil, .lst hi hk (Nat.zero_le _) (fun d hd => by cases hd)⟩
        · have hlm : len ≤ m := by rw [hmm]; split <;> omega
          have hex : ∀ k, k < len → ∃ p : Dat × List Value, Rep (fun _ => .set) w p.1 p.2 ∧ WT ty e p.1 ∧ p.2.length = j.sz ∧ ∀ i u, p.2[i]? = some u → w.cell? (a.add (k * j.sz + i)) = some u := by
            intro k hlt
            obtain ⟨cs', hc, ht'⟩ := hx k (by omega)
            obtain ⟨d, hr, hw⟩ := rd_dat hty n e hp1 enc w base spare held n' cs' _ ht'
            obtain ⟨_, hcl, hat⟩ := World.cells?_some hc
            rw [hce] at hcl hat
            refine ⟨(d, cs'), hr, hw, hcl, fun i u hu => ?_⟩
            have hi2 : i < j.sz := by rw [← hcl]; exact (List.getElem?_eq_some_iff.1 hu).1
            have := hat i hi2
            rw [Go.Deep.add_add] at this
            rw [this, hu]
          cases len with
          | zero => exact ⟨.lst false [], .nil, .lst hi hk (Nat.zero_le _) (fun d hd => by cases hd)⟩
          | succ len =>
            obtain ⟨p0, q1, q2, q3, q4⟩ := hex 0 (by omega)
            haveI : Inhabited (Dat × List Value) := ⟨p0⟩
            obtain ⟨f, hfx⟩ := choose_lt hex
            have hpos : 0 < p0.2.length := by omega
            have h0 := q4 0 _ (List.getElem?_eq_getElem hpos)
            have hspot : a.spot = none := by
              have := spot_none h0
              simpa [Addr.add] using this
            have hal := addr_lit hspot
            have hlt := World.block_lt_of_cell? w _ h0
            have hblk : a.block < w.heap.size := by simpa [Addr.add] using hlt
            refine ⟨.lst false ((List.range (len + 1)).map fun k => (f k).1), ?_, .lst hi hk (by simp; omega) ?_⟩
            · have hlen : ((List.range (len + 1)).map fun k => (f k).1).length = len + 1 := by simp
              have hat : ∀ (k : Nat) (d : Dat), ((List.range (len + 1)).map fun k => (f k).1)[k]? = some d → k < len + 1 ∧ d = (f k).1 := fun k d hd => by
                have hk2 : k < len + 1 := by
                  have := (List.getElem?_eq_some_iff.1 hd).1
                  simpa using this
                rw [List.getElem?_map, List.getElem?_range hk2] at hd
                exact ⟨hk2, by simpa using hd.symm⟩
              have hres := Rep.lst (ρ := fun _ => Role.set) (W := w) (b := false) (es := (List.range (len + 1)).map fun k => (f k).1) (g := a.block) (o := a.off) (c := cap) (sz := j.sz) (fun k => (f k).2) (by rw [hlen]; exact hl) hm (.inl rfl) hblk
                (fun k d hd => (hfx k (hat k d hd).1).2.2.1) (fun k d hd i u hu => by
                  have := (hfx k (hat k d hd).1).2.2.2 i u hu
                  rw [hal, Addr.add_lit, ← Nat.add_assoc] at this
                  exact this) (fun k d hd => by
                  obtain ⟨h1, rfl⟩ := hat k d hd
                  exact (hfx k h1).1)
              rw [hlen] at hres
              rw [hal]
              exact hres
            · intro d hd
              obtain ⟨k, hk1, rfl⟩ := List.mem_map.1 hd
              exact (hfx k (by simpa using hk1)).2.1
      · rename_i hk
        have ha : i.agg = true := by unfold TI.agg; rw [hk]
        simp only [Bool.and_eq_true] at hp
        obtain ⟨hsz, hall⟩ := hp
        have hsz := Nat.eq_of_beq_eq_true hsz
        obtain ⟨fs, h1, h2, h3⟩ := hf.struct ha
        obtain ⟨xs, n', _, _, hl, hlen, hg⟩ := DataW.trod_struct h1 h
        rw [cellsOf_eq hf, hsz] at hl
        have hone : ∀ (j : Nat) (f : Nat × Nat), i.fs[j]? = some f → f.1 = j ∧ plainTy ty n f.2 = true ∧ ∃ k, ty f.2 = some k ∧ k.sz = 1 ∧ k.agg = false := fun j f hj => by
          have hjl := (List.getElem?_eq_some_iff.1 hj).1
          have := (List.all_eq_true.1 hall) j (List.mem_range.2 hjl)
          rw [hj] at this
          simp only [Bool.and_eq_true] at this
          obtain ⟨a1, a2, a3⟩ := this
          refine ⟨Nat.eq_of_beq_eq_true a1, a2, ?_⟩
          cases hk2 : ty f.2 with
          | none => rw [hk2] at a3; cases a3
          | some k =>
            rw [hk2] at a3
            simp only [Bool.and_eq_true, Bool.not_eq_true'] at a3
            exact ⟨k, rfl, Nat.eq_of_beq_eq_true a3.1, a3.2⟩
        have hex : ∀ k, k < cs.length → ∃ d : Dat, ∃ v f, cs[k]? = some v ∧ i.fs[k]? = some f ∧ d.cells = [d] ∧ Rep (fun _ => .set) w d [v] ∧ WT ty f.2 d := by
          intro k hkl
          obtain ⟨ff, hfk⟩ : ∃ ff, i.fs[k]? = some ff := ⟨_, List.getElem?_eq_getElem (show k < i.fs.length by omega)⟩
          have hck := List.getElem?_eq_getElem hkl
          obtain ⟨o1, o2, kk, o3, o4, o5⟩ := hone k _ hfk
          obtain ⟨_, _, _, hfk2⟩ := hty.facts o3
          have hfl : ∃ fl, fs[k]? = some fl ∧ fl.offset = k ∧ fl.type = ff.2 := by
            have h4 := hfk
            rw [← h2, List.getElem?_map] at h4
            simp only [Option.map_eq_some_iff] at h4
            obtain ⟨fl, h5, h6⟩ := h4
            refine ⟨fl, by simpa using h5, ?_, ?_⟩
            · rw [← o1, ← h6]
            · rw [← h6]
          obtain ⟨fl, h5, h6, h7⟩ := hfl
          have h8 := hg k fl h5
          have hxk : ∃ y, xs[k]? = some y := ⟨_, List.getElem?_eq_getElem (by have := (Array.getElem?_eq_some_iff.1 h5).1; omega)⟩
          obtain ⟨y, hy⟩ := hxk
          rw [hy, h6, h7, cellsOf_eq hfk2, o4] at h8
          have h9 : (cs.drop k).take 1 = [cs[k]] := by
            rw [List.drop_eq_getElem_cons hkl]; rfl
          rw [h9] at h8
          obtain ⟨d, hr, hw⟩ := rd_dat hty n _ o2 enc w base spare held n' _ _ h8
          refine ⟨d, cs[k], _, hck, hfk, ?_, hr, hw⟩
          cases hw with
          | agg ht' hk' _ _ =>
            rw [o3] at ht'
            cases ht'
            unfold TI.agg at o5
            rw [hk'] at o5
            cases o5
          | _ => rfl
        haveI : Inhabited Dat := ⟨.val (.bool false)⟩
        obtain ⟨f, hfx⟩ := choose_lt hex
        have hat : ∀ (k : Nat) (d : Dat), ((List.range cs.length).map f)[k]? = some d → k < cs.length ∧ d = f k := fun k d hd => by
          have hk2 : k < cs.length := by
            have := (List.getElem?_eq_some_iff.1 hd).1
            simpa using this
          rw [List.getElem?_map, List.getElem?_range hk2] at hd
          exact ⟨hk2, by simpa using hd.symm⟩
        refine ⟨.agg ((List.range cs.length).map f), .agg (by simp) (fun k d v hd hv => ?_) (fun k d v hd hv => ?_), .agg hi hk (by simp; omega) (fun k ff d hff hd => ?_)⟩
        · obtain ⟨h4, rfl⟩ := hat k d hd
          obtain ⟨v', f', e1, e2, e3, e4, e5⟩ := hfx k h4
          exact e3
        · obtain ⟨h4, rfl⟩ := hat k d hd
          obtain ⟨v', f', e1, e2, e3, e4, e5⟩ := hfx k h4
          rw [hv] at e1
          cases e1
          exact e4
        · obtain ⟨h4, rfl⟩ := hat k d hd
          obtain ⟨v', f', e1, e2, e3, e4, e5⟩ := hfx k h4
          rw [hff] at e2
          cases e2
          exact e5
      · cases hp
end Go.Den
namespace Go.Den
open Go Go.RowKit Go.ChangeShapes Go.WideShapes
open Go.ChangeMaps (open_string shut_string)
set_option linter.unusedVariables false
/-- An argument as data. -/
theorem arg_dat {P : Program} {ty : Nat → Option TI} (hty : TyOk P ty) {n t : Nat} (hp : plainTy ty n t = true) {H : Type} {enc : TypeId × Value → H} {w : World} {base b0 : Nat} {spare : Nat → Bool} {held : Bool} {r : Reach} {v : Value} {y : DataW H} {p : List MemPlace}
    (hv : Value.okWide P w r b0 t v) (h : DataW.Trod enc P w base spare held t v y p) : ∃ d cv, Rep (fun _ => .set) w d cv ∧ IsV d cv v ∧ WT ty t d := by
  obtain ⟨fuel, hf⟩ := id h
  obtain ⟨d, hr, hw⟩ := rd_dat hty n t hp enc w base spare held fuel _ _ hf
  refine ⟨d, v.cells.toList, hr, ?_, hw⟩
  cases hw with
  | int ht hk _ =>
    rename_i i k m _
    obtain ⟨_, de, _, hfa⟩ := hty.facts ht
    have hkk := hfa.kind
    have hu : P.underlying t = some (.int k) := by
      rw [hfa.und]
      cases de <;> simp [kindIs, hk] at hkk ⊢
      exact hkk
    obtain ⟨a, rfl, _⟩ := open_int hu hv h
    rfl
  | bool ht hk =>
    obtain ⟨_, de, _, hfa⟩ := hty.facts ht
    have hkk := hfa.kind
    have hu : P.underlying t = some .bool := by
      rw [hfa.und]
      cases de <;> simp [kindIs, hk] at hkk ⊢
    obtain ⟨a, rfl, _⟩ := open_bool hu hv h
    rfl
  | str ht hk _ =>
    obtain ⟨_, de, _, hfa⟩ := hty.facts ht
    have hkk := hfa.kind
    have hu : P.underlying t = some .string := by
      rw [hfa.und]
      cases de <;> simp [kindIs, hk] at hkk ⊢
    obtain ⟨a, rfl, _⟩ := open_string hu hv h
    rfl
  | lst ht hk _ _ =>
    rename_i i e es _ _
    obtain ⟨_, de, _, hfa⟩ := hty.facts ht
    have hkk := hfa.kind
    have hu : P.underlying t = some (.slice e) := by
      rw [hfa.und]
      cases de <;> simp [kindIs, hk] at hkk ⊢
      exact hkk.1
    obtain ⟨a, len, cap, rfl⟩ := okWide_slice hu hv
    rfl
  | agg ht hk _ _ =>
    rename_i i cs _ _
    obtain ⟨_, _, _, hfa⟩ := hty.facts ht
    have ha : i.agg = true := by unfold TI.agg; rw [hk]
    obtain ⟨fs, h1, _, _⟩ := hfa.struct ha
    obtain ⟨xs, rfl, _⟩ := okWide_struct h1 hv
    show Value.agg xs = .agg (Value.cells (.agg xs)).toList.toArray
    simp [Value.cells]
/-- A law, by den. -/
theorem law_calls {P : Program} {C : Cfg} {f : Nat} {fn : Func} {vals : Array Value} {ds : List Dat} {W : World} {b : Bool} (hS : ∀ k, CallOK P C.ty (den C k)) (hF : FnOK P C f fn) (hb : fn.body.isSome = true) (hl : vals.size = ds.length)
    (hd : ∀ (j : Nat) (d : Dat) (v : Value), ds[j]? = some d → vals[j]? = some v → ∃ cv, Rep (fun _ => .set) W d cv ∧ IsV d cv v) (h : ∃ k, den C k f (ds.map .dat) [] [] = some ([.dat (.val (.bool b))], [], [])) :
    Calls P f vals W fun e W' => e = .returned (.bool b) ∧ Below W.heap.size W W' := by
  obtain ⟨k, hk⟩ := h
  let c : Cx := { ty := C.ty, ρ := fun _ => .set, β := fun _ => 0, H := fun _ => undef, W := W, s := start (ds.map .dat) [] [] }
  have hsim : Sim c vals := by
    refine ⟨fun y => ?_, fun r cs hb => ?_, fun j r hg => ?_⟩
    · show VR c (.slot y []) ((ds.map .dat).getD y .undef) (vals.getD y undef)
      by_cases hy : y < ds.length
      · have h1 := List.getElem?_eq_getElem hy
        have h2 : vals[y]? = some (vals[y]'(by omega)) := Array.getElem?_eq_getElem (by omega)
        have e1 : (ds.map D.dat).getD y .undef = .dat ds[y] := by simp [List.getD_eq_getElem?_getD, hy]
        have e2 : vals.getD y undef = vals[y]'(by omega) := by simp [Array.getD, show y < vals.size by omega]
        rw [e1, e2]
        exact hd y _ _ h1 h2
      · have e1 : (ds.map D.dat).getD y .undef = .undef := by simp [List.getD_eq_getElem?_getD, hy]
        have e2 : vals.getD y undef = undef := by simp [Array.getD, show ¬ y < vals.size by omega]
        rw [e1, e2]
        rfl
    · cases r with
      | loc n => cases hb
      | up n =>
        have hb' : ([] : List (List D))[n]? = some cs := hb
        simp at hb'
    · have hg' : (([] : List (Option Row))[j]?).bind id = some r := hg
      simp at hg'
  have hr := hS k f _ _ _ _ _ _ hk c vals rfl rfl (by simpa using hl) hsim
  have hent : (callFunc f vals).run P W = .ok (.enter f vals) W := by
    have h1 : fn.name ≠ "runtime.NumGoroutine" := by simpa using hF.name
    obtain ⟨code, hbd⟩ := Option.isSome_iff_exists.1 hb
    simp [callFunc, hF.there, h1, hbd, mark]
  unfold Reaches at hr
  have hent' : (callFunc f vals).run P c.W = .ok (.enter f vals) W := hent
  rw [hent'] at hr
  refine Calls.mono hr fun e W' he => ?_
  cases e with
  | returned v =>
    obtain ⟨c', rfl, ha⟩ := he
    refine ⟨?_, ha.ext.os, ha.ext.tape, ha.ext.output, ha.ext.size, fun g hg => (ha.ext.keep g hg trivial).2⟩
    have hv := ha.sim.slots 0
    rw [ha.s] at hv
    have hv' : VR c' (.slot 0 []) (.dat (.val (.bool b))) v := hv
    rw [(vr_val hv').1]
  | _ => exact he.elim
end Go.Den
namespace Go.Den
open Go
set_option linter.unusedVariables false
inductive Hint where
  | yes
  | no
  | put (d : D)
  | to (f : St → St)
  | at (d : Dat)
  | ok
  | ret (rs : List D)
  | back (rs : List D) (u : List (List D)) (l : List (Option Row))
  | loop (s0 : St) (x : X) (s : St)
def Obs : List Prop → Prop
  | [] => True
  | p :: l => p ∧ Obs l
theorem obs_append : ∀ {a b : List Prop}, Obs (a ++ b) → Obs a ∧ Obs b
  | [], b, h => ⟨trivial, h⟩
  | p :: a, b, h => by
    have h' : p ∧ Obs (a ++ b) := h
    obtain ⟨h1, h2⟩ := obs_append h'.2
    exact ⟨⟨h'.1, h1⟩, h2⟩
abbrev Hints := List (Nat × Hint)
def hintAt : Hints → Nat → Option Hint
  | [], _ => none
  | (a, x) :: l, n => match Nat.beq a n with | true => some x | false => hintAt l n
/-- keys: an operation's temporary; 100000 + the address' temporary of a store; 200000 + a condition's temporary; 300000 + a loop's first region -/
def keyOf (o : Oper) : Option Nat :=
  match o.dst, o.op with
  | some n, _ => some n
  | none, .store _ (.tmp a) _ => some (100000 + a)
  | _, _ => none
def hadd {α : Type} (p : Prop) : Option (List Prop × α) → Option (List Prop × α)
  | some r => some (p :: r.1, r.2)
  | none => none
/-- A condition's answer. -/
def hbool {α : Type} (hs : Hints) (s : St) (x : Nat) (yes no : St → Option (List Prop × α)) (und : Option (List Prop × α)) : Option (List Prop × α) :=
  match s.t x with
  | .dat (.val (.bool b)) => match hintAt hs (200000 + x) with
    | some .yes => hadd (b = true) (yes (s.force x true))
    | some .no => hadd (b = false) (no (s.force x false))
    | _ => match b with | true => yes (s.force x true) | false => no (s.force x false)
  | .undef => und
  | _ => none
def hcond {α : Type} (hs : Hints) (s : St) (c : Operand) (yes no : St → Option (List Prop × α)) : Option (List Prop × α) :=
  match c with
  | .tmp x => hbool hs s x yes no none
  | .const (.bool v) => match v with | true => yes s | false => no s
  | _ => none
def hguard {α : Type} (hs : Hints) (ops : Array Oper) (s : St) (g : Option (Nat × Bool)) (k z : St → Option (List Prop × α)) : Option (List Prop × α) :=
  match g with
  | none => k s
  | some (j, want) => match (ops[j]?).bind (·.dst) with
    | none => none
    | some x => match want with
      | true => hbool hs s x k z (z s)
      | false => hbool hs s x z k (z s)
def Env.with (E : Env) (q : List D × List (List D) × List (Option Row)) : Env := { E with call := fun _ _ _ _ => some q }
/-- The call that an operation makes on data. -/
def callEv (E : Env) (s : St) (o : Oper) : Option (Nat × List D × Bool) :=
  match o.op with
  | .call ca => match ca.callee with
    | .value z => match s.look z with
      | .fn f [] => match allZero (E.mode f) with
        | true => (match views s.get (argsD E s.look ca.args.toList ca.argTypes.toList) with
          | some r => some (f, r.1.map .dat, r.2)
          | none => none)
        | false => none
      | _ => none
    | _ => none
  | _ => none
/-- The call that it makes otherwise. -/
def callDo (E : Env) (s : St) (f : Nat) (cap : List Ref) (args : List D) : Option (List D × List (List D) × List (Option Row)) :=
  (readyArgs (E.mode f) args s).bind fun a =>
  (lendArgs a.2.get (E.mode f) a.1).bind fun ls =>
  match distinctPl ls with
  | false => none
  | true => match cap.isEmpty && a.1.all noRef with
    | true => (passArgs (hide ls false a.2.get) 0 [] (E.mode f) 0 a.1).map fun v => (v.1, [], ls.map fun p => some p.2)
    | false => match ls.all fun p => !p.1.ofCell with
      | false => none
      | true =>
        let keys := a.2.sent E.nt cap a.1; let m := a.2.u.length
        (passArgs (hide ls true a.2.get) m keys (E.mode f) 0 a.1).bind fun v =>
        (liftRefs m keys cap).bind fun caps =>
        (boxesOf a.2 keys).bind fun bs => (liftBoxes m keys (a.2.u ++ bs)).map fun us => (v.1 ++ caps.map (fun r => D.ptr r 0), us, ls.map fun p => some p.2)
def callOf (E : Env) (s : St) (o : Oper) : Option (Nat × List D × List (List D) × List (Option Row)) :=
  match o.op with
  | .call ca => match ca.callee with
    | .value z => match s.look z with
      | .fn f cap => match cap.isEmpty && (allZero (E.mode f) && (views s.get (argsD E s.look ca.args.toList ca.argTypes.toList)).isSome) with
        | true => none
        | false => (callDo E s f cap (argsD E s.look ca.args.toList ca.argTypes.toList)).map fun r => (f, r)
      | _ => none
    | _ => none
  | _ => none
theorem evOp_with {E : Env} {s : St} {o : Oper} {rs : List D} {f : Nat} {args : List D} {fl : Bool} (h : callEv E s o = some (f, args, fl)) (hfl : fl = true → D.cleans rs = true) (hc : E.call f args [] [] = some (rs, [], [])) : evOp E s.look s.get s.box o.type o.op = some (.pure (retD rs)) ∧ evOp (E.with (rs, [], [])) s.look s.get s.box o.type o.op = some (.pure (retD rs)) := by
  unfold callEv at h
  split at h
  · rename_i ca ho
    split at h
    · rename_i z hz
      split at h
      · rename_i f' hf
        split at h
        · rename_i hm
          split at h
          · rename_i r hr
            · cases h
              have hcl : (r.2 && !D.cleans rs) = false := by
                cases hr2 : r.2 with
                | false => rfl
                | true => rw [hfl hr2]; rfl
              rw [ho]
              refine ⟨?_, ?_⟩
              · simp only [evOp, hz, hf, evCall, hm, hr, Option.bind_some, hc, hcl, Option.map_some]
              · have hm' : allZero ((E.with (rs, [], [])).mode f) = true := hm
                have hr' : views s.get (argsD (E.with (rs, [], [])) s.look ca.args.toList ca.argTypes.toList) = some r := by
                  rw [← hr]
                  congr 1
                  generalize ca.args.toList = zs
                  generalize ca.argTypes.toList = ts
                  induction zs generalizing ts with
                  | nil => rfl
                  | cons z zs ih => simp only [argsD, ih]; rfl
                have hcc : (E.with (rs, [], [])).call f (r.1.map .dat) [] [] = some (rs, [], []) := rfl
                simp only [evOp, hz, hf, evCall, hm', hr', Option.bind_some, hcc, hcl, Option.map_some]
          · cases h
        · cases h
      · cases h
    · cases h
  · cases h
theorem argsD_with {E : Env} {q : List D × List (List D) × List (Option Row)} {lk : Operand → D} : ∀ (zs : List Operand) (ts : List Nat), argsD (E.with q) lk zs ts = argsD E lk zs ts
  | [], ts => rfl
  | z :: zs, ts => by simp only [argsD, argsD_with zs]; rfl
theorem step_callOf {E : Env} {s : St} {o : Oper} {q : List D × List (List D) × List (Option Row)} {r : Nat × List D × List (List D) × List (Option Row)} (h : callOf E s o = some r) (hc : E.call r.1 r.2.1 r.2.2.1 r.2.2.2 = some q) : step E s o = step (E.with q) s o := by
  unfold callOf at h
  split at h
  · rename_i ca ho
    split at h
    · rename_i z hz
      split at h
      · rename_i f cap hf
        split at h
        · cases h
        · rename_i hdead
          simp only [Option.map_eq_some_iff] at h
          obtain ⟨⟨a, u, l⟩, hdo, rfl⟩ := h
          simp only at hc
          have hev : ∀ E', E'.mode = E.mode → argsD E' s.look ca.args.toList ca.argTypes.toList = argsD E s.look ca.args.toList ca.argTypes.toList → evOp E' s.look s.get s.box o.type o.op = none := by
            intro E' hm ha
            rw [ho]
            simp only [evOp, hz, hf]
            cases cap with
            | cons r rs => rfl
            | nil =>
              simp only [List.isEmpty_nil, Bool.true_and] at hdead
              simp only [evCall, hm, ha]
              cases hz : allZero (E.mode f) with
              | false => rfl
              | true =>
                rw [hz, Bool.true_and] at hdead
                cases hv : views s.get (argsD E s.look ca.args.toList ca.argTypes.toList) with
                | none => rfl
                | some r => rw [hv] at hdead; cases hdead
          unfold step
          rw [hev E rfl rfl, hev (E.with q) rfl (argsD_with _ _)]
          simp only [ho, doOp, hz, hf, argsD_with]
          unfold callDo at hdo
          unfold doCall
          simp only [Option.bind_eq_some_iff] at hdo
          obtain ⟨a1, h1, ls, h2, hdo⟩ := hdo
          have h1' : readyArgs ((E.with q).mode f) (argsD E s.look ca.args.toList ca.argTypes.toList) s = some a1 := h1
          have h2' : lendArgs a1.2.get ((E.with q).mode f) a1.1 = some ls := h2
          simp only [h1, h1', h2, h2', Option.bind_some]
          split at hdo
          · cases hdo
          · rename_i hdis
            simp only [hdis]
            split at hdo
            · rename_i hcl
              simp only [hcl]
              simp only [Option.map_eq_some_iff, Prod.mk.injEq] at hdo
              obtain ⟨v, hv, rfl, rfl, rfl⟩ := hdo
              have hv' : passArgs (hide ls false a1.2.get) 0 [] ((E.with q).mode f) 0 a1.1 = some v := hv
              simp only [hv, hv', Option.bind_some, hc]
              rfl
            · rename_i hcl
              simp only [hcl]
              split at hdo
              · cases hdo
              · rename_i hnc
                simp only [hnc]
                simp only [Option.bind_eq_some_iff, Option.map_eq_some_iff, Prod.mk.injEq] at hdo
                obtain ⟨v, hv, caps, hcaps, bs, hbs, us, hus, rfl, rfl, rfl⟩ := hdo
                have hv' : passArgs (hide ls true a1.2.get) a1.2.u.length (a1.2.sent (E.with q).nt cap a1.1) ((E.with q).mode f) 0 a1.1 = some v := hv
                have e2 : (E.with q).nt = E.nt := rfl
                simp only [e2] at hv' ⊢
                simp only [hv, hv', Option.bind_some, hcaps, hbs, hus, hc]
                rfl
      · cases h
    · cases h
  · cases h
/-- What an operation yields, if its conditions hold. -/
def askEv (E : Env) (s : St) (hd : Option Dat) : Op → Option (Prop × D)
  | .indexAddr t x i => (E.ty t).bind fun k => match k.kind with
    | .slice e => (E.ty e).bind fun j => (intOf (s.look i)).bind fun n => match s.look x, hd with
      | .dat (.lst b es), some d => (match Nat.beq d.cells.length j.sz with | true => some ((0 ≤ n ∧ n < es.length) ∧ es[n.toNat]? = some d, .ep b d.cells) | false => none)
      | .bor p m, none => (s.get p).bind fun r => match Nat.beq r.1 e with | true => some (0 ≤ n ∧ n < (cutTo m r.2).length, .bp p n.toNat 0) | false => none
      | _, _ => none
    | _ => none
  | .load t x => (E.ty t).bind fun i => match s.look x, hd with
    | .bp p j o, some d => (s.get p).bind fun r => (loadDat i (d.cells.drop o)).map fun x => (r.2[j]? = some d, .dat x)
    | _, _ => none
  | .slice t x lo hi mx => match mx with
    | none => (sliceTy E.ty t).bind fun st => (optInt s.look lo).bind fun l => (optInt s.look hi).bind fun h => match st, s.look x with
      | none, .dat (.val (.string b)) => some (0 ≤ l.getD 0 ∧ l.getD 0 ≤ h.getD b.size ∧ h.getD b.size ≤ b.size, .dat (.val (.string (b.extract (l.getD 0).toNat (h.getD b.size).toNat))))
      | some n, .dat (.lst b es) => some ((0 ≤ l.getD 0 ∧ l.getD 0 ≤ h.getD es.length ∧ h.getD es.length ≤ es.length) ∧ wid n es = true, .dat (.lst b ((es.take (h.getD es.length).toNat).drop (l.getD 0).toNat)))
      | some n, .bor p m => (match l, h with
        | none, some h => (s.get p).bind fun r => some (0 ≤ h ∧ h ≤ (cutTo m r.2).length, .bor p (some h.toNat))
        | _, _ => none)
      | _, _ => none
    | some _ => none
  | .index t x i => (E.ty t).bind fun k => (intOf (s.look i)).bind fun n => match s.look x, k.kind with
    | .dat (.val (.string s)), .str => some (0 ≤ n ∧ n < s.size, .dat (.val (.int .u8 ((s[n.toNat]?).getD 0).toNat)))
    | _, _ => none
  | .makeSlice t l c => (E.ty t).bind fun i => match i.kind with
    | .slice e => (E.ty e).bind fun j => j.zeroD.bind fun z => (intOf (s.look l)).bind fun n => (intOf (s.look c)).bind fun m =>
      match Nat.ble j.bytes 65536 with
      | true => some (0 ≤ n ∧ n ≤ m ∧ m ≤ 2147483648, .own e (List.replicate n.toNat z))
      | false => none
    | _ => none
  | _ => none
theorem askEv_sound {E : Env} {s : St} {hd : Option Dat} {op : Op} {ty : Nat} {p : Prop} {d : D} (h : askEv E s hd op = some (p, d)) (hp : p) : evOp E s.look s.get s.box ty op = some (.pure d) := by
  unfold askEv at h
  split at h
  · rename_i t x i
    simp only [Option.bind_eq_some_iff] at h
    obtain ⟨k, hk, h⟩ := h
    simp only [evOp, hk, Option.bind_some]
    split at h
    · rename_i e hke
      simp only [Option.bind_eq_some_iff] at h
      obtain ⟨j, hj, n, hn, h⟩ := h
      simp only [hke, hj, Option.bind_some, hn]
      split at h
      · rename_i b es dd hx
        split at h
        · rename_i hb
          cases h
          obtain ⟨h1, h2⟩ := hp
          simp only [hx, evIndexAddr, h1, h2, and_self, if_true, Option.bind_some, hb, Option.map_some]
        · cases h
      · rename_i pl m hx
        simp only [Option.bind_eq_some_iff] at h
        obtain ⟨r, hr, h⟩ := h
        split at h
        · rename_i hb
          cases h
          simp only [hx, evIndexAddr, hr, Option.bind_some, hb, hp, and_self, if_true, Option.map_some]
        · cases h
      · cases h
    · cases h
  · rename_i t x
    simp only [Option.bind_eq_some_iff] at h
    obtain ⟨i, hi, h⟩ := h
    simp only [evOp, hi, Option.bind_some]
    split at h
    · rename_i pl j o dd hx
      simp only [Option.bind_eq_some_iff, Option.map_eq_some_iff, Prod.mk.injEq] at h
      obtain ⟨r, hr, y, hy, rfl, rfl⟩ := h
      simp only [hx, evLoad, hr, Option.bind_some, hp, hy, Option.map_some]
    · cases h
  · rename_i t x lo hi mx
    split at h
    · simp only [Option.bind_eq_some_iff] at h
      obtain ⟨st, hst, l, hl, hh, hhi, h⟩ := h
      simp only [evOp, hst, hl, hhi, Option.bind_some]
      split at h
      · rename_i b hx
        cases h
        simp only [hx, evCut, evSlice, hp, and_self, if_true, Option.map_some]
      · rename_i n b es hx
        cases h
        obtain ⟨h1, h2⟩ := hp
        simp only [hx, evCut, evSlice, h1, h2, and_self, if_true, Option.map_some]
      · rename_i n pl m hx
        split at h
        · rename_i hhv
          simp only [Option.bind_eq_some_iff] at h
          obtain ⟨r, hr, h⟩ := h
          cases h
          simp only [hx, evCut, hr, Option.bind_some, hp, and_self, if_true, Option.map_some]
        · cases h
      · cases h
    · cases h
  · rename_i t x i
    simp only [Option.bind_eq_some_iff] at h
    obtain ⟨k, hk, n, hn, h⟩ := h
    simp only [evOp, hk, hn, Option.bind_some]
    split at h
    · rename_i b hx hkk
      cases h
      simp only [hx, hkk]
      rw [dif_pos hp]
      have : b[n.toNat]? = some (b[n.toNat]'(by omega)) := getElem?_pos b n.toNat (by omega)
      rw [this]
      rfl
    · cases h
  · rename_i t l c
    simp only [Option.bind_eq_some_iff] at h
    obtain ⟨i, hi, h⟩ := h
    simp only [evOp, hi, Option.bind_some]
    split at h
    · rename_i e hk
      simp only [Option.bind_eq_some_iff] at h
      obtain ⟨j, hj, z, hz, n, hn, m, hm, h⟩ := h
      split at h
      · rename_i hb
        cases h
        simp only [hk, hj, hz, hn, hm, Option.bind_some, hp, and_self, if_true, hb]
      · cases h
    · cases h
  · cases h
def askApp (E : Env) (s : St) (x : Option Nat) : Op → Option (Prop × St)
  | .call c => match c.callee with
    | .builtin .append => match c.args.toList, c.argTypes.toList with
      | [a, b], [t, u] => (E.ty t).bind fun i => match i.kind with
        | .slice e => match Nat.beq t u with
          | true => (rowOf s.get (s.look b)).bind fun es2 => (takeBase s e a).bind fun r => (E.ty e).bind fun i =>
            match Nat.beq r.1.1 e && Nat.ble i.bytes 65536 && Nat.blt 0 i.sz with
            | true => some (es2.all (fun d => Nat.beq d.cells.length i.sz) = true ∧ r.1.2.length + es2.length ≤ 2147483648, r.2.putO x (.own e (r.1.2 ++ es2)))
            | false => none
          | false => none
        | _ => none
      | _, _ => none
    | _ => none
  | _ => none
theorem askApp_sound {E : Env} {s : St} {o : Oper} {p : Prop} {s' : St} (h : askApp E s o.dst o.op = some (p, s')) (hp : p) : step E s o = some s' := by
  unfold askApp at h
  split at h
  · rename_i c ho
    split at h
    · rename_i hc
      split at h
      · rename_i a b t u ha hat
        simp only [Option.bind_eq_some_iff] at h
        obtain ⟨i, hi, h⟩ := h
        split at h
        · rename_i e hk
          split at h
          · rename_i htu
            simp only [Option.bind_eq_some_iff] at h
            obtain ⟨es2, hes, r, hr, i2, hi2, h⟩ := h
            split at h
            · rename_i hcond
              cases h
              have hev : evOp E s.look s.get s.box o.type o.op = none := by rw [ho]; simp only [evOp, hc]
              unfold step
              rw [hev]
              simp only [ho, doOp, hc, ha, hat, hi, Option.bind_some, hk, htu, doAppend, hes, hr, hi2, hcond, hp.1, Bool.and_self, hp.2, if_true]
            · cases h
          · cases h
        · cases h
      · cases h
    · cases h
  · cases h
/-- A store into an element of a slice that the frame holds. -/
def askSt (E : Env) (s : St) (hd : Dat) : Op → Option (Prop × St)
  | .store t a y => match isNil y with
    | true => none
    | false => (E.ty t).bind fun i => match s.look a with
      | .bp p j o => (s.datD (s.look y)).bind fun q => match Nat.beq q.1.cells.length i.sz with
        | false => none
        | true => (q.2.get p).bind fun r => (elemSet hd o q.1.cells).map fun d' => (r.2[j]? = some hd, q.2.setPl p (.own r.1 (r.2.set j d')))
      | _ => none
  | _ => none
theorem askSt_sound {E : Env} {s : St} {hd : Dat} {o : Oper} {p : Prop} {s' : St} (h : askSt E s hd o.op = some (p, s')) (hp : p) : step E s o = some s' := by
  unfold askSt at h
  split at h
  · rename_i t a y ho
    split at h
    · cases h
    · rename_i hn
      simp only [Option.bind_eq_some_iff] at h
      obtain ⟨i, hi, h⟩ := h
      split at h
      · rename_i pl j off ha
        simp only [Option.bind_eq_some_iff] at h
        obtain ⟨q, hq, h⟩ := h
        split at h
        · cases h
        · rename_i hb
          simp only [Option.bind_eq_some_iff, Option.map_eq_some_iff, Prod.mk.injEq] at h
          obtain ⟨r, hr, d', hd', rfl, rfl⟩ := h
          have hev : evOp E s.look s.get s.box o.type o.op = none := by rw [ho]; simp only [evOp]
          unfold step
          rw [hev]
          simp only [ho, doOp, hn, doStore, hi, Option.bind_some, ha, hq, hb, hr, hp, hd', Option.map_some]
      · cases h
  · cases h
def haddIf {α : Type} (b : Bool) (p : Prop) (r : Option (List Prop × α)) : Option (List Prop × α) := match b with | true => hadd p r | false => r
/-- What a call leads to, with what it answers put in. -/
def doCallH (E : Env) (s : St) (x : Option Nat) (f : Nat) (cap : List Ref) (args : List D) (q : List D × List (List D) × List (Option Row)) : Option (Prop × St) :=
  (readyArgs (E.mode f) args s).bind fun a =>
  (lendArgs a.2.get (E.mode f) a.1).bind fun ls =>
  match distinctPl ls with
  | false => none
  | true => match cap.isEmpty && a.1.all noRef with
    | true => (passArgs (hide ls false a.2.get) 0 [] (E.mode f) 0 a.1).bind fun v =>
      (giveBack a.2 ls q.2.2).map fun s => (((v.2 && !(D.cleans q.1 && cleanRows q.2.2)) || !D.plains q.1) = false, s.putO x (retD q.1))
    | false => match ls.all fun p => !p.1.ofCell with
      | false => none
      | true =>
        let keys := a.2.sent E.nt cap a.1; let m := a.2.u.length
        (passArgs (hide ls true a.2.get) m keys (E.mode f) 0 a.1).bind fun v =>
        (giveBack (a.2.regain m keys q.2.1) ls q.2.2).map fun s => (((v.2 && !(D.cleans q.1 && (cleanRows q.2.2 && cleanBoxes q.2.1))) || !D.plains q.1) = false, s.putO x (retD q.1))
def callH (E : Env) (s : St) (o : Oper) (q : List D × List (List D) × List (Option Row)) : Option (Prop × St) :=
  match o.op with
  | .call ca => match ca.callee with
    | .value z => match s.look z with
      | .fn f cap => doCallH E s o.dst f cap (argsD E s.look ca.args.toList ca.argTypes.toList) q
      | _ => none
    | _ => none
  | _ => none
theorem callH_sound {E : Env} {s : St} {o : Oper} {q : List D × List (List D) × List (Option Row)} {r : Nat × List D × List (List D) × List (Option Row)} {p : Prop} {s' : St} (h : callOf E s o = some r) (hc : E.call r.1 r.2.1 r.2.2.1 r.2.2.2 = some q) (hh : callH E s o q = some (p, s')) (hp : p) : step E s o = some s' := by
  unfold callOf at h
  unfold callH at hh
  split at h
  · rename_i ca ho
    simp only [ho] at hh
    split at h
    · rename_i z hz
      simp only [hz] at hh
      split at h
      · rename_i f cap hf
        simp only [hf] at hh
        split at h
        · cases h
        · rename_i hdead
          simp only [Option.map_eq_some_iff] at h
          obtain ⟨⟨a, u, l⟩, hdo, rfl⟩ := h
          simp only at hc
          have hev : evOp E s.look s.get s.box o.type o.op = none := by
            rw [ho]
            simp only [evOp, hz, hf]
            cases cap with
            | cons r rs => rfl
            | nil =>
              simp only [List.isEmpty_nil, Bool.true_and] at hdead
              simp only [evCall]
              cases hz : allZero (E.mode f) with
              | false => rfl
              | true =>
                rw [hz, Bool.true_and] at hdead
                cases hv : views s.get (argsD E s.look ca.args.toList ca.argTypes.toList) with
                | none => rfl
                | some r => rw [hv] at hdead; cases hdead
          unfold step
          rw [hev]
          simp only [ho, doOp, hz, hf]
          unfold callDo at hdo
          unfold doCall
          unfold doCallH at hh
          simp only [Option.bind_eq_some_iff] at hdo
          obtain ⟨a1, h1, ls, h2, hdo⟩ := hdo
          simp only [h1, h2, Option.bind_some] at hh ⊢
          split at hdo
          · cases hdo
          · rename_i hdis
            simp only [hdis] at hh ⊢
            split at hdo
            · rename_i hcl
              simp only [hcl] at hh ⊢
              simp only [Option.map_eq_some_iff, Prod.mk.injEq] at hdo
              obtain ⟨v, hv, rfl, rfl, rfl⟩ := hdo
              simp only [hv, Option.bind_some, Option.map_eq_some_iff, Prod.mk.injEq] at hh ⊢
              obtain ⟨s3, hg, rfl, rfl⟩ := hh
              simp only [hc, Option.bind_some, hp, hg, Option.map_some]
            · rename_i hcl
              simp only [hcl] at hh ⊢
              split at hdo
              · cases hdo
              · rename_i hnc
                simp only [hnc] at hh ⊢
                simp only [Option.bind_eq_some_iff, Option.map_eq_some_iff, Prod.mk.injEq] at hdo
                obtain ⟨v, hv, caps, hcaps, bs, hbs, us, hus, rfl, rfl, rfl⟩ := hdo
                simp only [hv, Option.bind_some, Option.map_eq_some_iff, Prod.mk.injEq] at hh ⊢
                obtain ⟨s3, hg, rfl, rfl⟩ := hh
                simp only [hcaps, hbs, hus, Option.bind_some, hc, hp, hg, Option.map_some]
      · cases h
    · cases h
  · cases h
/-- One operation: as a hint says, or as it is. -/
def hop {α : Type} (E : Env) (hs : Hints) (run : Env → St → Oper → Option St) (view : St → St) (pu ap : Oper → Bool) (s : St) (o : Oper) (k : St → Option (List Prop × α)) : Option (List Prop × α) :=
  match (keyOf o).bind (hintAt hs) with
  | some (.put d) => hadd (run E s o = some (s.putO o.dst d)) (k (s.putO o.dst d))
  | some (.to f) => hadd (run E s o = some (f s)) (k (f s))
  | some (.at d) => match askEv E s (some d) o.op with
    | some (p, d) => (match o.dst, pu o with | some n, true => hadd p (k (s.put n d)) | _, _ => none)
    | none => (match askSt E s d o.op, ap o with | some (p, s'), true => hadd p (k s') | _, _ => none)
  | some .ok => match askEv E s none o.op with
    | some (p, d) => (match o.dst, pu o with | some n, true => hadd p (k (s.put n d)) | _, _ => none)
    | none => (match askApp E s o.dst o.op, ap o with | some (p, s'), true => hadd p (k s') | _, _ => none)
  | some (.ret rs) => match callEv E (view s) o with
    | some (f, args, fl) => haddIf fl (D.cleans rs = true) (hadd (E.call f args [] [] = some (rs, [], [])) (match pu o, o.dst with | true, some n => k (s.put n (retD rs)) | _, _ => (run (E.with (rs, [], [])) s o).bind k))
    | none => none
  | some (.back rs u l) => match callOf E (view s) o with
    | some (f, args, us, ls) => hadd (E.call f args us ls = some (rs, u, l)) (match ap o with
      | true => (match callH E s o (rs, u, l) with | some (p, s') => hadd p (k s') | none => none)
      | false => (run (E.with (rs, u, l)) s o).bind k)
    | none => none
  | _ => (run E s o).bind k
def hops (E : Env) (hs : Hints) (ops : Array Oper) : List Oper → St → Option (List Prop × St)
  | [], s => some ([], s)
  | o :: l, s => hguard hs ops s o.guard (fun s => hop E hs step (fun s => s) (fun _ => true) (fun _ => true) s o (hops E hs ops l)) (fun s => hops E hs ops l (s.putO o.dst .undef))
def rowView (M : Option (List Nat)) (k : Nat) (s : St) : St :=
  match k with
  | 0 => s
  | 1 => s
  | 2 => s
  | 3 => s
  | _ => match M with | none => s | some M => s.hid M
def isLoad : Op → Bool
  | .load _ _ => true
  | _ => false
def rowPu (M : Option (List Nat)) (k : Nat) (o : Oper) : Bool :=
  match k with
  | 0 => isCalm o.op
  | 1 => isLoad o.op && M.isNone
  | 2 => true
  | 3 => false
  | _ => M.isNone
def hopsD (E : Env) (hs : Hints) (ops : Array Oper) (M : Option (List Nat)) : Bool → List PRow → St → Option (List Prop × St)
  | _, [], s => some ([], s)
  | first, (i, k, ds) :: l, s => match allJunk s ds with
    | false => none
    | true => match ops[i]? with
      | none => none
      | some o => hguard hs ops s o.guard (fun s => hop E hs (fun E => rowStep E M first k) (rowView M k) (rowPu M k) (fun _ => Nat.beq k 2) s o (hopsD E hs ops M (first && stays k) l)) (fun s => hopsD E hs ops M (first && stays k) l (s.putO o.dst .undef))
def hplan (E : Env) (hs : Hints) (ops : Array Oper) (p : Plan) (s : St) : Option (List Prop × St) :=
  match p.2 with
  | [] => some ([], s)
  | (i, k, ds) :: l => match noOwns s ds with
    | true => hopsD E hs ops p.1 true ((i, k, ds) :: l) (s.junks ds)
    | false => none
def hregion (E : Env) (hs : Hints) (id : Nat) (ops : Array Oper) (draw : Bool) (s : St) : Option (List Prop × St) :=
  match draw with
  | false => hops E hs ops ops.toList s
  | true => match E.plan id with
    | some p => hplan E hs ops p s
    | none => none
def hthen (r : Option (List Prop × X × St)) (k : X → St → Option (List Prop × X × St)) : Option (List Prop × X × St) :=
  match r with
  | some (ps, x, s) => match k x s with
    | some q => some (ps ++ q.1, q.2)
    | none => none
  | none => none
def pickD : List Nat → List D → Nat → D
  | a :: L, d :: ds, x => match Nat.beq a x with | true => d | false => pickD L ds x
  | _, _, _ => .junk
def pickB : List Nat → List (Option (List D)) → Nat → Option (List D)
  | a :: L, d :: ds, x => match Nat.beq a x with | true => d | false => pickB L ds x
  | _, _, _ => none
/-- What lives, in a form that is the same whenever its parts are. -/
def Nm (L : List Nat) (ds : List D) (bs : List (Option (List D))) (u : List (List D)) (l : List (Option Row)) : St := ⟨pickD L ds, pickB L bs, u, l⟩
/-- What lives of a state. -/
def nmOf (L : List Nat) (s : St) : St := Nm L (L.map fun x => (s.t x).kill (Kill.but L)) (L.map fun x => (s.b x).map (D.kills (Kill.but L))) (s.u.map (D.kills (Kill.but L))) s.l
def LoopOb (E : Env) (n : Nat) (c : Code) (s0 : St) (x : X) (s' : St) : Prop := ∀ s : St, s.norm (E.live (firstRegion c)) = s0 → exec E n (.loop c) s = some (x, s')
def hexec (E : Env) (n : Nat) (hs : Hints) : Code → St → Option (List Prop × X × St)
  | .skip, s => some ([], .normal, s)
  | .region id ops draw, s => match hregion E hs id ops draw s with | some r => some (r.1, .normal, r.2) | none => none
  | .seq a b, s => hthen (hexec E n hs a s) fun x s' => match x with
    | .normal => hexec E n hs b s'
    | x => some ([], x, s')
  | .cond c a b, s => hcond hs s c (hexec E n hs a) (hexec E n hs b)
  | .block id c, s => hthen (hexec E n hs c s) fun x s' => match x with
    | .exit i => (match Nat.beq i id with | true => some ([], .normal, s') | false => some ([], .exit i, s'))
    | x => some ([], x, s')
  | .loop c, s => match hintAt hs (300000 + firstRegion c) with
    | some (.loop s0 x s') => some ([nmOf (E.live (firstRegion c)) s = s0, LoopOb E n c s0 x s'], x, s')
    | _ => none
  | .exit id, s => some ([], .exit id, s)
  | .ret, s => some ([], .ret, s)
  | _, _ => none
theorem nbeq_eq {a b : Nat} : Nat.beq a b = true ↔ a = b := ⟨Nat.eq_of_beq_eq_true, fun h => by rw [h]; exact Nat.beq_refl b⟩
theorem nbeq_ne {a b : Nat} : Nat.beq a b = false ↔ a ≠ b := ⟨Nat.ne_of_beq_eq_false, fun h => by
  cases hb : Nat.beq a b with
  | false => rfl
  | true => exact (h (Nat.eq_of_beq_eq_true hb)).elim⟩
theorem memN_cons' {a x : Nat} {l : List Nat} : memN x (a :: l) = (Nat.beq x a || memN x l) := by
  show (match Nat.beq x a with | true => true | false => memN x l) = _
  cases Nat.beq x a <;> rfl
theorem pickD_map {f : Nat → D} {x : Nat} : ∀ {L : List Nat}, pickD L (L.map f) x = match memN x L with | true => f x | false => .junk
  | [] => rfl
  | a :: L => by
    simp only [List.map_cons, pickD]
    cases h : Nat.beq a x with
    | true => rw [nbeq_eq.1 h, memN_cons']; simp
    | false =>
      have h2 : Nat.beq x a = false := nbeq_ne.2 (fun e => nbeq_ne.1 h e.symm)
      simp only [pickD_map (L := L), memN_cons', h2, Bool.false_or]
theorem pickB_map {f : Nat → Option (List D)} {x : Nat} : ∀ {L : List Nat}, pickB L (L.map f) x = match memN x L with | true => f x | false => none
  | [] => rfl
  | a :: L => by
    simp only [List.map_cons, pickB]
    cases h : Nat.beq a x with
    | true => rw [nbeq_eq.1 h, memN_cons']; simp
    | false =>
      have h2 : Nat.beq x a = false := nbeq_ne.2 (fun e => nbeq_ne.1 h e.symm)
      simp only [pickB_map (L := L), memN_cons', h2, Bool.false_or]
theorem norm_eq (L : List Nat) (s : St) : s.norm L = nmOf L s := by
  simp only [St.norm, nmOf, Nm, St.mk.injEq, and_true]
  refine ⟨funext fun x => ?_, funext fun x => ?_⟩
  · rw [pickD_map]; cases memN x L <;> rfl
  · rw [pickB_map]; cases memN x L <;> rfl
theorem hadd_some {α : Type} {p : Prop} {r : Option (List Prop × α)} {q : List Prop × α} (h : hadd p r = some q) : ∃ ps, r = some (ps, q.2) ∧ q.1 = p :: ps := by
  unfold hadd at h
  split at h
  · rename_i r'
    cases h
    exact ⟨r'.1, rfl, rfl⟩
  · cases h
section
variable {E : Env} {hs : Hints} {ops : Array Oper}
/-- What follows a condition. -/
theorem hbool_sound {α β : Type} {s : St} {x : Nat} {yes no : St → Option (List Prop × α)} {und : Option (List Prop × α)} {q : List Prop × α} {yes' no' : St → Option β} {und' : Option β} {b : β}
    (h : hbool hs s x yes no und = some q) (hq : Obs q.1) (hy : ∀ s ps, yes s = some (ps, q.2) → Obs ps → yes' s = some b) (hn : ∀ s ps, no s = some (ps, q.2) → Obs ps → no' s = some b) (hu : ∀ ps, und = some (ps, q.2) → Obs ps → und' = some b) :
    (match s.t x with
      | .dat (.val (.bool v)) => match v with | true => yes' (s.force x true) | false => no' (s.force x false)
      | .undef => und'
      | _ => none) = some b := by
  unfold hbool at h
  cases hx : s.t x with
  | undef => rw [hx] at h; exact hu q.1 h hq
  | dat d =>
    rw [hx] at h
    cases d with
    | val v =>
      cases v with
      | bool v =>
        simp only at h ⊢
        split at h
        · obtain ⟨ps, h1, h2⟩ := hadd_some h
          rw [h2] at hq
          have hv : v = true := hq.1
          rw [hv]
          exact hy _ ps h1 hq.2
        · obtain ⟨ps, h1, h2⟩ := hadd_some h
          rw [h2] at hq
          have hv : v = false := hq.1
          rw [hv]
          exact hn _ ps h1 hq.2
        · cases v with
          | true => exact hy _ q.1 h hq
          | false => exact hn _ q.1 h hq
      | _ => cases h
    | _ => cases h
  | _ => rw [hx] at h; cases h
theorem hcond_sound {α β : Type} {s : St} {c : Operand} {yes no : St → Option (List Prop × α)} {q : List Prop × α} {yes' no' : St → Option β} {b : β}
    (h : hcond hs s c yes no = some q) (hq : Obs q.1) (hy : ∀ s ps, yes s = some (ps, q.2) → Obs ps → yes' s = some b) (hn : ∀ s ps, no s = some (ps, q.2) → Obs ps → no' s = some b) : condD s c yes' no' = some b := by
  unfold hcond at h
  unfold condD
  split at h
  · rename_i x
    have := hbool_sound (und' := (none : Option β)) h hq hy hn (fun ps h => by cases h)
    simp only
    revert this
    cases s.t x with
    | dat d =>
      cases d with
      | val v => cases v <;> exact id
      | _ => exact id
    | _ => intro h; first | exact h | cases h
  · rename_i v
    cases v with
    | true => exact hy _ q.1 h hq
    | false => exact hn _ q.1 h hq
  · cases h
theorem hguard_sound {α β : Type} {s : St} {g : Option (Nat × Bool)} {k z : St → Option (List Prop × α)} {q : List Prop × α} {k' z' : St → Option β} {b : β}
    (h : hguard hs ops s g k z = some q) (hq : Obs q.1) (hk : ∀ s ps, k s = some (ps, q.2) → Obs ps → k' s = some b) (hz : ∀ s ps, z s = some (ps, q.2) → Obs ps → z' s = some b) : guarded ops s g k' z' = some b := by
  unfold hguard at h
  unfold guarded
  split at h
  · exact hk _ q.1 h hq
  · rename_i j want
    simp only
    split at h
    · cases h
    · rename_i x hx
      rw [hx]
      simp only
      split at h
      · have := hbool_sound (und' := z' s) h hq hk hz (fun ps h h2 => hz _ ps h h2)
        revert this
        cases s.t x with
        | dat d =>
          cases d with
          | val v =>
            cases v with
            | bool v => cases v <;> exact id
            | _ => exact id
          | _ => exact id
        | _ => exact id
      · have := hbool_sound (und' := z' s) h hq hz hk (fun ps h h2 => hz _ ps h h2)
        revert this
        cases s.t x with
        | dat d =>
          cases d with
          | val v =>
            cases v with
            | bool v => cases v <;> exact id
            | _ => exact id
          | _ => exact id
        | _ => exact id
/-- What a step does, it does with the calls' answers put in. -/
structure RunOK (E : Env) (run : Env → St → Oper → Option St) (view : St → St) (pu ap : Oper → Bool) : Prop where
  pure : ∀ s o n d, evOp E s.look s.get s.box o.type o.op = some (.pure d) → o.dst = some n → pu o = true → run E s o = some (s.put n d)
  app : ∀ s o s', step E s o = some s' → ap o = true → run E s o = some s'
  vw : ∀ s o, pu o = true → view s = s
  vw2 : ∀ s o, ap o = true → view s = s
  ev : ∀ s o rs f args fl, callEv E (view s) o = some (f, args, fl) → (fl = true → D.cleans rs = true) → E.call f args [] [] = some (rs, [], []) → run E s o = run (E.with (rs, [], [])) s o
  go : ∀ s o r q, callOf E (view s) o = some r → E.call r.1 r.2.1 r.2.2.1 r.2.2.2 = some q → ∀ s', run (E.with q) s o = some s' → run E s o = some s'
theorem step_ok : RunOK E step (fun s => s) (fun _ => true) (fun _ => true) :=
  ⟨fun s o n d h hd _ => by
    unfold step
    rw [h, hd]
    rfl, fun s o s' h _ => h, fun _ _ _ => rfl, fun _ _ _ => rfl, fun s o rs f args fl h hfl hc => by
    obtain ⟨h1, h2⟩ := evOp_with h hfl hc
    unfold step
    rw [h1, h2], fun s o r q h hc s' hr => by rw [step_callOf h hc]; exact hr⟩
theorem rowStep_ok {M : Option (List Nat)} {first : Bool} {k : Nat} : RunOK E (fun E => rowStep E M first k) (rowView M k) (rowPu M k) (fun _ => Nat.beq k 2) := by
  have hcall : ∀ (s : St) (o : Oper) r, callEv E s o = some r → ∃ ca z, o.op = .call ca ∧ ca.callee = .value z := fun s o r h => by
    unfold callEv at h
    split at h
    · rename_i ca ho
      split at h
      · rename_i z hz; exact ⟨ca, z, ho, hz⟩
      · cases h
    · cases h
  have hcall2 : ∀ (s : St) (o : Oper) r, callOf E s o = some r → ∃ ca z, o.op = .call ca ∧ ca.callee = .value z := fun s o r h => by
    unfold callOf at h
    split at h
    · rename_i ca ho
      split at h
      · rename_i z hz; exact ⟨ca, z, ho, hz⟩
      · cases h
    · cases h
  have hno : ∀ (s : St) (o : Oper) (q : List D × List (List D) × List (Option Row)), (∃ ca z, o.op = .call ca ∧ ca.callee = .value z) → (k = 0 ∨ k = 1 ∨ k = 3) → ∀ E, rowStep E M first k s o = none := by
    rintro s o q ⟨ca, z, ho, hz⟩ hk E
    rcases hk with rfl | rfl | rfl
    · simp only [rowStep, calmStep, ho, isCalm, hz]
    · simp only [rowStep, loadStep, ho]
    · simp only [rowStep, allocStep, ho]
  have hev : ∀ (s : St) (o : Oper) (r : Nat × List D × List (List D) × List (Option Row)), callOf E s o = some r → ∀ E', E'.mode = E.mode → (∀ zs ts, argsD E' s.look zs ts = argsD E s.look zs ts) → evOp E' s.look s.get s.box o.type o.op = none := by
    intro s o r h E' hm ha
    unfold callOf at h
    split at h
    · rename_i ca ho
      split at h
      · rename_i z hz
        split at h
        · rename_i f cap hf
          split at h
          · cases h
          · rename_i hdead
            rw [ho]
            simp only [evOp, hz, hf]
            cases cap with
            | cons r rs => rfl
            | nil =>
              simp only [List.isEmpty_nil, Bool.true_and] at hdead
              simp only [evCall, hm, ha]
              cases hzz : allZero (E.mode f) with
              | false => rfl
              | true =>
                rw [hzz, Bool.true_and] at hdead
                cases hv : views s.get (argsD E s.look ca.args.toList ca.argTypes.toList) with
                | none => rfl
                | some r => rw [hv] at hdead; cases hdead
        · cases h
      · cases h
    · cases h
  have hpure : ∀ s o n d, evOp E s.look s.get s.box o.type o.op = some (.pure d) → o.dst = some n → rowPu M k o = true → rowStep E M first k s o = some (s.put n d) := by
    intro s o n d h hd hpu
    match k, hpu with
    | 0, hpu =>
      have hpu : isCalm o.op = true := hpu
      simp only [rowStep, calmStep, hpu, hd, h]
    | 1, hpu =>
      have hpu : (isLoad o.op && M.isNone) = true := hpu
      simp only [Bool.and_eq_true, Option.isNone_iff_eq_none] at hpu
      obtain ⟨h1, rfl⟩ := hpu
      unfold isLoad at h1
      split at h1
      · rename_i t x ho
        rw [ho] at h
        simp only [evOp, Option.bind_eq_some_iff, Option.map_eq_some_iff] at h
        obtain ⟨i, hi, y, hy, he⟩ := h
        cases he
        simp only [rowStep, loadStep, ho, hd, hi, Option.bind_some, hy, Option.map_some]
      · cases h1
    | 2, hpu => exact step_ok.pure s o n d h hd rfl
    | m + 4, hpu =>
      have hpu : M.isNone = true := hpu
      simp only [Option.isNone_iff_eq_none] at hpu
      subst hpu
      simp only [rowStep, flagStep, h, hd, Option.bind_some, St.apply, Option.map_some]
  have hvw : ∀ (s : St) (o : Oper), rowPu M k o = true → rowView M k s = s := by
    intro s o hpu
    match k, hpu with
    | 0, _ => rfl
    | 1, _ => rfl
    | 2, _ => rfl
    | m + 4, hpu =>
      have hpu : M.isNone = true := hpu
      simp only [Option.isNone_iff_eq_none] at hpu
      subst hpu
      rfl
  refine ⟨hpure, fun s o s' h hk => by rw [Nat.eq_of_beq_eq_true hk]; exact h, hvw, fun s o hk => by rw [Nat.eq_of_beq_eq_true hk]; rfl, fun s o rs f args fl h hfl hc => ?_, fun s o r q h hc s' hr => ?_⟩
  · have hk5 : (k = 0 ∨ k = 1 ∨ k = 3) ∨ k = 2 ∨ ∃ m, k = m + 4 := by
      match k with
      | 0 => exact .inl (.inl rfl)
      | 1 => exact .inl (.inr (.inl rfl))
      | 2 => exact .inr (.inl rfl)
      | 3 => exact .inl (.inr (.inr rfl))
      | m + 4 => exact .inr (.inr ⟨m, rfl⟩)
    rcases hk5 with hk | rfl | ⟨m, rfl⟩
    · rw [hno s o (rs, [], []) (hcall _ _ _ h) hk, hno s o (rs, [], []) (hcall _ _ _ h) hk]
    · exact step_ok.ev s o rs f args fl h hfl hc
    · show flagStep E M s o = flagStep (E.with (rs, [], [])) M s o
      unfold flagStep
      cases M with
      | none =>
        obtain ⟨h1, h2⟩ := evOp_with (s := s) h hfl hc
        simp only [h1, h2]
      | some M =>
        have h' := step_ok.ev (s.hid M) o rs f args fl h hfl hc
        simp only [h']
  · have hk5 : (k = 0 ∨ k = 1 ∨ k = 3) ∨ k = 2 ∨ ∃ m, k = m + 4 := by
      match k with
      | 0 => exact .inl (.inl rfl)
      | 1 => exact .inl (.inr (.inl rfl))
      | 2 => exact .inr (.inl rfl)
      | 3 => exact .inl (.inr (.inr rfl))
      | m + 4 => exact .inr (.inr ⟨m, rfl⟩)
    rcases hk5 with hk | rfl | ⟨m, rfl⟩
    · rw [hno s o q (hcall2 _ _ _ h) hk] at hr
      cases hr
    · exact step_ok.go s o r q h hc s' hr
    · have hr' : flagStep (E.with q) M s o = some s' := hr
      show flagStep E M s o = some s'
      unfold flagStep at hr' ⊢
      cases M with
      | none =>
        simp only at hr'
        rw [hev s o r h (E.with q) rfl (fun zs ts => argsD_with zs ts)] at hr'
        cases hr'
      | some M =>
        have h' := step_callOf (s := s.hid M) h hc
        simp only [h']
        exact hr'
theorem hop_sound {α β : Type} {run : Env → St → Oper → Option St} {view : St → St} {pu ap : Oper → Bool} (hrun : RunOK E run view pu ap) {s : St} {o : Oper} {k : St → Option (List Prop × α)} {q : List Prop × α} {k' : St → Option β} {b : β}
    (h : hop E hs run view pu ap s o k = some q) (hq : Obs q.1) (hk : ∀ s ps, k s = some (ps, q.2) → Obs ps → k' s = some b) : (run E s o).bind k' = some b := by
  unfold hop at h
  split at h
  · obtain ⟨ps, h1, h2⟩ := hadd_some h
    rw [h2] at hq
    rw [hq.1]
    exact hk _ ps h1 hq.2
  · obtain ⟨ps, h1, h2⟩ := hadd_some h
    rw [h2] at hq
    rw [hq.1]
    exact hk _ ps h1 hq.2
  · split at h
    · rename_i p d hask
      split at h
      · rename_i n hdn hpu
        obtain ⟨ps, h1, h2⟩ := hadd_some h
        rw [h2] at hq
        rw [hrun.pure s o _ _ (askEv_sound hask hq.1) hdn hpu]
        exact hk _ ps h1 hq.2
      · cases h
    · split at h
      · rename_i p s' hask hap
        obtain ⟨ps, h1, h2⟩ := hadd_some h
        rw [h2] at hq
        rw [hrun.app s o _ (askSt_sound hask hq.1) hap]
        exact hk _ ps h1 hq.2
      · cases h
  · split at h
    · rename_i p d hask
      split at h
      · rename_i n hdn hpu
        obtain ⟨ps, h1, h2⟩ := hadd_some h
        rw [h2] at hq
        rw [hrun.pure s o _ _ (askEv_sound hask hq.1) hdn hpu]
        exact hk _ ps h1 hq.2
      · cases h
    · split at h
      · rename_i p s' hask hap
        obtain ⟨ps, h1, h2⟩ := hadd_some h
        rw [h2] at hq
        rw [hrun.app s o _ (askApp_sound hask hq.1) hap]
        exact hk _ ps h1 hq.2
      · cases h
  · rename_i rs hhint
    split at h
    · rename_i f args fl hcv
      have hkey : ∃ ps, hadd (E.call f args [] [] = some (rs, [], [])) (match pu o, o.dst with | true, some n => k (s.put n (retD rs)) | _, _ => (run (E.with (rs, [], [])) s o).bind k) = some (ps, q.2) ∧ Obs ps ∧ (fl = true → D.cleans rs = true) := by
        cases fl with
        | false => exact ⟨q.1, h, hq, fun e => by cases e⟩
        | true =>
          obtain ⟨ps, h1, h2⟩ := hadd_some h
          rw [h2] at hq
          exact ⟨ps, h1, hq.2, fun _ => hq.1⟩
      obtain ⟨ps0, h0, hq0, hfl⟩ := hkey
      obtain ⟨ps, h1, h2⟩ := hadd_some h0
      simp only at h2
      rw [h2] at hq0
      split at h1
      · rename_i n hpu hdn
        have hv := hrun.vw s o hpu
        rw [hv] at hcv
        rw [hrun.pure s o _ _ (evOp_with hcv hfl hq0.1).1 hdn hpu]
        exact hk _ ps h1 hq0.2
      · rw [hrun.ev s o _ _ _ _ hcv hfl hq0.1]
        simp only [Option.bind_eq_some_iff] at h1
        obtain ⟨s', hr, h1⟩ := h1
        rw [hr]
        exact hk s' ps h1 hq0.2
    · cases h
  · split at h
    · rename_i f args us ls hcv
      obtain ⟨ps, h1, h2⟩ := hadd_some h
      rw [h2] at hq
      split at h1
      · rename_i hap
        split at h1
        · rename_i p s' hch
          obtain ⟨ps2, h3, h4⟩ := hadd_some h1
          simp only at h4
          rw [h4] at hq
          have hv : view s = s := hrun.vw2 s o hap
          rw [hv] at hcv
          rw [hrun.app s o _ (callH_sound hcv hq.1 hch hq.2.1) hap]
          exact hk s' ps2 h3 hq.2.2
        · cases h1
      · simp only [Option.bind_eq_some_iff] at h1
        obtain ⟨s', hr, h1⟩ := h1
        rw [hrun.go s o _ _ hcv hq.1 s' hr]
        exact hk s' ps h1 hq.2
    · cases h
  · cases hr : run E s o with
    | none => rw [hr] at h; cases h
    | some s' => rw [hr] at h; exact hk s' q.1 h hq
theorem hops_sound : ∀ (l : List Oper) (s : St) (q : List Prop × St), hops E hs ops l s = some q → Obs q.1 → runOps E ops l s = some q.2
  | [], s, q, h, hq => by cases h; rfl
  | o :: l, s, q, h, hq => by
    unfold hops at h
    unfold runOps
    exact hguard_sound h hq (fun s ps h1 h2 => hop_sound step_ok h1 h2 fun s ps h3 h4 => hops_sound l s (ps, q.2) h3 h4) (fun s ps h1 h2 => hops_sound l _ (ps, q.2) h1 h2)
theorem hopsD_sound {M : Option (List Nat)} : ∀ (l : List PRow) (first : Bool) (s : St) (q : List Prop × St), hopsD E hs ops M first l s = some q → Obs q.1 → runOpsD E ops M first l s = some q.2
  | [], first, s, q, h, hq => by cases h; rfl
  | (i, k, ds) :: l, first, s, q, h, hq => by
    unfold hopsD at h
    unfold runOpsD
    split at h
    · cases h
    · rename_i hj
      simp only [hj]
      split at h
      · cases h
      · rename_i o ho
        simp only [ho]
        exact hguard_sound h hq (fun s ps h1 h2 => hop_sound rowStep_ok h1 h2 fun s ps h3 h4 => hopsD_sound l _ s (ps, q.2) h3 h4) (fun s ps h1 h2 => hopsD_sound l _ _ (ps, q.2) h1 h2)
theorem hregion_sound {id : Nat} {draw : Bool} {s : St} {q : List Prop × St} (h : hregion E hs id ops draw s = some q) (hq : Obs q.1) : runRegion E id ops draw s = some q.2 := by
  unfold hregion at h
  unfold runRegion
  cases draw with
  | false => exact hops_sound _ _ _ h hq
  | true =>
    simp only at h ⊢
    split at h
    · rename_i p hp
      simp only [hp]
      unfold hplan at h
      unfold runPlan
      split at h
      · rename_i e
        simp only [e]
        cases h; rfl
      · rename_i i k ds l e
        simp only [e]
        split at h
        · rename_i hn
          simp only [hn]
          exact hopsD_sound _ _ _ _ h hq
        · cases h
    · cases h
theorem hthen_some {r : Option (List Prop × X × St)} {k : X → St → Option (List Prop × X × St)} {q : List Prop × X × St} (h : hthen r k = some q) (hq : Obs q.1) : ∃ ps x s qs, r = some (ps, x, s) ∧ k x s = some (qs, q.2) ∧ Obs ps ∧ Obs qs := by
  unfold hthen at h
  split at h
  · rename_i ps x s
    split at h
    · rename_i q' hk
      cases h
      obtain ⟨h1, h2⟩ := obs_append hq
      exact ⟨ps, x, s, q'.1, rfl, hk, h1, h2⟩
    · cases h
  · cases h
/-- What the hints lead to is what the code does, if all that they claim holds. -/
theorem hexec_sound {n : Nat} : ∀ (c : Code) (s : St) (q : List Prop × X × St), hexec E n hs c s = some q → Obs q.1 → exec E n c s = some q.2
  | .skip, s, q, h, hq => by cases h; rfl
  | .region id ops draw, s, q, h, hq => by
    simp only [hexec] at h
    split at h
    · rename_i r hr
      cases h
      simp only [exec]
      rw [hregion_sound hr hq]
      rfl
    · cases h
  | .seq a b, s, q, h, hq => by
    obtain ⟨pq, r⟩ := q
    simp only [hexec] at h
    obtain ⟨ps, x, s1, qs, h1, h2, h3, h4⟩ := hthen_some h hq
    have := hexec_sound a s _ h1 h3
    simp only [exec, this]
    cases x with
    | normal => exact hexec_sound b s1 (qs, r) h2 h4
    | exit i => cases h2; rfl
    | ret => cases h2; rfl
  | .cond c a b, s, q, h, hq => by
    simp only [hexec] at h
    simp only [exec]
    exact hcond_sound h hq (fun s ps h1 h2 => hexec_sound a s (ps, q.2) h1 h2) (fun s ps h1 h2 => hexec_sound b s (ps, q.2) h1 h2)
  | .block id c, s, q, h, hq => by
    obtain ⟨pq, r⟩ := q
    simp only [hexec] at h
    obtain ⟨ps, x, s1, qs, h1, h2, h3, h4⟩ := hthen_some h hq
    have := hexec_sound c s _ h1 h3
    simp only [exec, this]
    cases x with
    | normal => cases h2; rfl
    | exit i =>
      simp only at h2 ⊢
      split at h2
      · rename_i hb; simp only [hb]; cases h2; rfl
      · rename_i hb; simp only [hb]; cases h2; rfl
    | ret => cases h2; rfl
  | .loop c, s, q, h, hq => by
    simp only [hexec] at h
    split at h
    · cases h; exact hq.2.1 s ((norm_eq _ s).trans hq.1)
    · cases h
  | .exit id, s, q, h, hq => by cases h; rfl
  | .ret, s, q, h, hq => by cases h; rfl
  | .label _, s, q, h, hq => by cases h
  | .goto _, s, q, h, hq => by cases h
  | .rangeFunc _ _ _ _, s, q, h, hq => by cases h
  | .scope _, s, q, h, hq => by cases h
  | .refuse _, s, q, h, hq => by cases h
end
end Go.Den
namespace Go.Den
open Go
set_option linter.unusedVariables false
abbrev Res := List D × List (List D) × List (Option Row)
def hrun (C : Cfg) (n : Nat) (call : Nat → List D → List (List D) → List (Option Row) → Option Res) (hs : Hints) (f : Nat) (fn : Func) (args : List D) (u : List (List D)) (l : List (Option Row)) : Option (List Prop × Res) :=
  match fn.body with
  | none => none
  | some c => match hexec ⟨C.ty, C.mode, fn.ntmps, C.live f, C.out f, C.plan f, call⟩ n hs c (start args u l) with
    | some (_, .exit _, _) => none
    | some (ps, _, s) => (results C.ty fn.results.toList s).bind fun r => match Nat.beq r.2.u.length u.length with | true => some (ps, r.1, r.2.u.map (D.kills (Kill.but [])), r.2.l) | false => none
    | none => none
theorem hrun_sound {C : Cfg} {n : Nat} {call : Nat → List D → List (List D) → List (Option Row) → Option Res} (hs : Hints) {f : Nat} {fn : Func} {args : List D} {u : List (List D)} {l : List (Option Row)} {q : List Prop × Res} (h : hrun C n call hs f fn args u l = some q) (hq : Obs q.1) : runFn C n call f fn args u l = some q.2 := by
  unfold hrun at h
  unfold runFn
  split at h
  · cases h
  · rename_i c hc
    rw [hc]
    simp only
    split at h
    · cases h
    · rename_i ps x s hne he
      simp only [Option.bind_eq_some_iff] at h
      obtain ⟨r, hr, h⟩ := h
      split at h
      · rename_i hb
        cases h
        have := hexec_sound _ _ _ he hq
        rw [this]
        cases x with
        | exit i => exact (hne _ rfl).elim
        | normal => simp only [hr, Option.bind_some, hb]
        | ret => simp only [hr, Option.bind_some, hb]
      · cases h
    · cases h
theorem hrun_ok {C : Cfg} {n : Nat} {call : Nat → List D → List (List D) → List (Option Row) → Option Res} (hs : Hints) {f : Nat} {fn : Func} {args : List D} {u : List (List D)} {l : List (Option Row)} {ps : List Prop} {r : Res} (hq : Obs ps) (h : hrun C n call hs f fn args u l = some (ps, r)) : runFn C n call f fn args u l = some r := hrun_sound hs h hq
theorem ob0 : Obs [] := trivial
theorem ob {p : Prop} {l : List Prop} (h : p) (hl : Obs l) : Obs (p :: l) := ⟨h, hl⟩
theorem obT {p : Prop} (h : p) : true = true ∧ p := ⟨rfl, h⟩
def loopIn (r : Nat) : Code → Option Code
  | .seq a b => match loopIn r a with | some c => some c | none => loopIn r b
  | .cond _ a b => match loopIn r a with | some c => some c | none => loopIn r b
  | .block _ a => loopIn r a
  | .loop a => match Nat.beq (firstRegion a) r with | true => some a | false => loopIn r a
  | _ => none
/-- The body of a function's loop. -/
def lp (fn : Func) (r : Nat) : Code := match fn.body with | some c => (loopIn r c).getD .skip | none => .skip
def envOf (C : Cfg) (k f : Nat) (fn : Func) : Env := ⟨C.ty, C.mode, fn.ntmps, C.live f, C.out f, C.plan f, den C k⟩
def LoopAt (C : Cfg) (k f : Nat) (fn : Func) (r : Nat) (s0 : St) (x : X) (s' : St) : Prop := LoopOb (envOf C k f fn) k (lp fn r) s0 x s'
section
variable {E : Env} {n m : Nat} {c : Code} {L : List Nat} {s s0 s1 s2 : St} {ps : List Prop} {hs : Hints}
def stOf (r : Option (List Prop × X × St)) : St := match r with | some q => q.2.2 | none => start [] [] []
def wayOf (r : Option (List Prop × X × St)) : Option (List Prop × X) := match r with | some q => some (q.1, q.2.1) | none => none
def Rounds (E : Env) (n : Nat) (c : Code) (m : Nat) (s : St) (K : X → St → Prop) : Prop := ∃ x s1, iter (exec E n c) (St.norm (E.live (firstRegion c))) m s = some (x, s1) ∧ K x (s1.norm (E.out (firstRegion c)))
theorem wayOf_some {r : Option (List Prop × X × St)} {p : List Prop × X} (h : wayOf r = some p) : r = some (p.1, p.2, stOf r) := by
  unfold wayOf at h
  split at h
  · cases h; rfl
  · cases h
theorem rounds_go {K : X → St → Prop} (hs : Hints) (hL : s.norm (E.live (firstRegion c)) = s0) (h : wayOf (hexec E n hs c s0) = some (ps, .normal)) (ho : Obs ps) (hst : nmOf (E.live (firstRegion c)) (stOf (hexec E n hs c s0)) = s2) (hn : ∀ s, s.norm (E.live (firstRegion c)) = s2 → Rounds E n c m s K) : Rounds E n c (m + 1) s K := by
  obtain ⟨x, s1, h1, h2⟩ := hn (stOf (hexec E n hs c s0)) ((norm_eq _ _).trans hst)
  have := hexec_sound _ _ _ (wayOf_some h) ho
  refine ⟨x, s1, ?_, h2⟩
  simp only [iter, hL, this]
  exact h1
theorem rounds_end {K : X → St → Prop} {x : X} (hs : Hints) (hL : s.norm (E.live (firstRegion c)) = s0) (h : wayOf (hexec E n hs c s0) = some (ps, x)) (hx : (match x with | .normal => false | _ => true) = true) (ho : Obs ps) (hst : nmOf (E.out (firstRegion c)) (stOf (hexec E n hs c s0)) = s2) (hK : K x s2) : Rounds E n c (m + 1) s K := by
  have := hexec_sound _ _ _ (wayOf_some h) ho
  refine ⟨x, stOf (hexec E n hs c s0), ?_, by rw [norm_eq, hst]; exact hK⟩
  simp only [iter, hL, this]
  cases x with
  | normal => cases hx
  | _ => rfl
theorem loop_rounds {K : X → St → Prop} (h : Rounds E n c n s K) : ∃ x s', exec E n (.loop c) s = some (x, s') ∧ K x s' := by
  obtain ⟨x, s1, h1, h2⟩ := h
  exact ⟨x, _, by simp only [exec, h1, Option.map_some], h2⟩
theorem loopOb_of {x : X} (h : ∀ s : St, s.norm (E.live (firstRegion c)) = s0 → Rounds E n c n s (fun x' s' => x' = x ∧ s' = s1)) : LoopOb E n c s0 x s1 := fun s hL => by
  obtain ⟨x', s', h1, rfl, rfl⟩ := loop_rounds (h s hL)
  exact h1
end
end Go.Den
namespace Go.Den
open Go
abbrev I (n : Int) : Dat := .val (.int .i64 n)
abbrev B (b : Bool) : Dat := .val (.bool b)
abbrev S (s : ByteArray) : Dat := .val (.string s)
abbrev w64 (n : Int) : Int := IntKind.i64.wrap n
abbrev T (k n : Int) (ds : List Dat) : Dat := .agg [I k, I n, .lst false ds]
abbrev N3 (a b c : Int) : Dat := .agg [I a, I b, I c]
end Go.Den
