/- Merged out of: D32 D37 D38 D39 Shelf CN D40 DK D41 D42 D43 Cf Fa D35 D36 D33 (prune.py, a program of this work's). -/
import Derived.Test.YtcmcfebihbmmeaaDoorZk4
import Derived.Sort.Grow
import Derived.Sort.Row
import Derived.Lib.SlicesCompact
import Derived.Shelf.Spec.SlicesInsert
import Derived.Shelf.Spec.SlicesInsertGrow
import Derived.Shelf.Strconv.Atoi
import Derived.Shelf.Strconv.Itoa0
import Derived.Shelf.Strconv.Itoa1
import Derived.Shelf.LaysM
import Derived.Shelf.Strconv.Itoa2
import Derived.Shelf.Strconv.Itoa3
import Derived.Shelf.Strconv.AtoiErrFast
import Derived.Shelf.Strconv.ParseIntEmpty
import Derived.Shelf.Strconv.AtoiFail
import Derived.Shelf.Strconv.Clone
import Derived.Shelf.Strconv.SyntaxError
import Derived.Shelf.LaysC
import Derived.Shelf.Strconv.ToError
import Derived.Shelf.Strconv.AtoiErr
import Derived.Shelf.Strconv.ErrVar
import Derived.Shelf.Strconv.AppendUint10
import Derived.Shelf.Strconv.AppendInt10
import Derived.Shelf.Strconv.AppendIntPublic10
import Derived.Shelf.Slices.Turned
import Derived.Shelf.Slices.Reverse
import Derived.Ground.Names2Prog
import Derived.Shelf.Slices.SearchI
import Derived.Shelf.Slices.Delete
import Derived.Shelf.Slices.Cells
import Derived.Shelf.Slices.Empties
import Derived.Ground.SlgnProg
import Derived.Shelf.SlicesE.Clone
import Derived.Test.YtcmcfebihbmmeaaDoorProg
import Derived.Test.YtcmcfebihbmmeaaDoorChecked
import Derived.WalkKit
import Derived.Deep.RegionWith
import Derived.Laws.IdiomStrings
import Derived.KernelRfl
import Derived.Test.YtcmcfebihbmmeaaDoorZk2
import Derived.Deep.Slices
import Derived.Deep.Fields
import Derived.ChangeSame
import Derived.ProofKit
import Derived.Lib.SmallJoins
import Derived.OpenShut
import Derived.ShutString
import Derived.ChangeOld
import Derived.Below
import Derived.Test.YtcmcfebihbmmeaaDoorZk1
set_option linter.unusedVariables false
set_option linter.unusedSimpArgs false
set_option linter.unnecessarySimpa false
namespace Go.Den
open Go Go.RowKit
set_option linter.unusedVariables false
variable {B : Nat → Option Obj}
theorem zpf {c : Cx} {a : Act} {X : Nat} (hf : Fr X c a) : Fr X { c with W := { c.W with drawn := c.W.drawn + 1 } } a ∧ Ext c { c with W := { c.W with drawn := c.W.drawn + 1 } } := by
 refine ⟨⟨Sim.same (Z := fun _ => False) hf.sim rfl (fun _ _ _ h => h) ⟨rfl, fun b g h _ => ⟨h, rfl⟩, fun q r hq _ => ⟨hq, rfl⟩, fun r hr _ => ⟨hr, rfl⟩, fun q _ => ⟨rfl, fun g h _ => ⟨h, rfl⟩⟩⟩ fun r hr => ?_, hf.ghost.out, hf.ghost.own⟩, rfl, rfl, rfl, Nat.le_refl _, fun _ _ _ => ⟨rfl, rfl⟩, rfl, fun _ => rfl, fun _ => rfl⟩
 obtain ⟨cs, hb⟩ := Option.isSome_iff_exists.1 hr
 obtain ⟨vs, T, h1, h2, _⟩ := (hf.sim.boxes r cs hb).out
 exact ⟨h2, rfl⟩
theorem zfT {s : St} : ∀ {ds : List Nat}, zgh s ds = true → ∀ n ∈ ds, (s.t n).hasOwn = false
 | [], h, n, hn => by cases hn
 | m :: ds, h, n, hn => by
   have h' : (!(s.t m).hasOwn && zgh s ds) = true := h
   simp only [Bool.and_eq_true, Bool.not_eq_true'] at h'
   rcases List.mem_cons.1 hn with rfl | hn
   · exact h'.1
   · exact zfT h'.2 n hn
theorem zom {c : Cx} {a : Act} {X : Nat} {ds : List Nat} (hf : Fr X c a) (h : zgh c.s ds = true) : Fr X { c with s := c.s.junks ds } a := by
 refine ⟨zcT (K := Kill.none) hf.sim (fun y => ?_) (fun r cs' h => ⟨cs', by cases r <;> exact h, (zen _).symm⟩) rfl (fun q r hq _ => ?_) (fun r hr _ => by cases r <;> exact hr), hf.ghost.out, ?_⟩
 · cases hm : memN y ds with
   | true => left; simp only [St.junks, hm]
   | false => right; simp only [St.junks, hm, zbf, and_self]
 · cases q with
   | slot y l =>
     show (D.at_ l ((c.s.junks ds).t y)).row? = _
     cases hm : memN y ds with
     | true =>
       have hq' : (D.at_ l (c.s.t y)).row? = some r := hq
       rw [zbw l _ (zfT h y (memN_iff.1 hm))] at hq'
       cases hq'
     | false => simp only [St.junks, hm]; exact hq
   | cell r0 o => cases r0 <;> exact hq
   | lent j => exact hq
 · show ((c.s.junks ds).t X).hasOwn = false
   cases hm : memN X ds with
   | true => simp only [St.junks, hm]; rfl
   | false => simp only [St.junks, hm]; exact hf.ghost.own
theorem zla {P : Program} {E : Env} {X id : Nat} {ops : Array Oper} {p : Plan} (hm : P.follows .mixedOrders = true) (hp : E.plan id = some p) (hok : zkI E.ty ops p = true) (hops : ∀ o ∈ ops.toList, za9 E.nt o = true) : zoY P B E X id ops := by
 intro c a s' Q hE hf h hEnd
 unfold zkI at hok
 simp only [Bool.and_eq_true] at hok
 obtain ⟨⟨hsel, hdst, hlen⟩, hMc, hgo⟩ := hok
 have hlen : p.2.length ≤ ops.size := by simpa using hlen
 have hM : ∀ M, p.1 = some M → ∀ o ∈ ops.toList, ∀ n ∈ M, o.dst ≠ some n := by
  intro M hM o ho n hn e
  rw [hM] at hMc
  simp only at hMc
  have h1 := (Array.all_eq_true_iff_forall_mem.1 hMc) o (Array.mem_toList_iff.1 ho)
  have h2 := (List.all_eq_true.1 h1) n hn
  simp [zov, e] at h2
 obtain ⟨hf1, he1⟩ := zpf hf
 let Q0 : Exit → Act → World → Prop := fun x a w => match x with | .normal => Q .normal a w | _ => False
 refine Code.wp_mono (Q := Q0) (fun e a w hq => ?_) (wp_region_any hm (zgA (R := RG (Gd { c with W := { c.W with drawn := c.W.drawn + 1 } } a p.1)) (str := zjK p.2) _ _ _ _ ?_))
 · cases e <;> first | exact hq | exact hq.elim
 · simp only [zcd, hp, zjB] at h
   have hstill : zcE [] p.2 ≤ ops.size := by
    unfold zcE
    exact Nat.le_trans List.countP_le_length hlen
   have key : ∀ (s0 : St), Fr X { c with W := { c.W with drawn := c.W.drawn + 1 }, s := s0 } a → zaP E ops p.1 true p.2 s0 = some s' →
    zb1 P .any ops Q0 (RG (Gd { c with W := { c.W with drawn := c.W.drawn + 1 } } a p.1)) (zjK p.2) ops.size (Array.replicate ops.size false) a { c.W with drawn := c.W.drawn + 1 } := by
    intro s0 hf0 h0
    have he0 : Ext c { c with W := { c.W with drawn := c.W.drawn + 1 }, s := s0 } := ⟨rfl, rfl, rfl, Nat.le_refl _, fun _ _ _ => ⟨rfl, rfl⟩, rfl, fun _ => rfl, fun _ => rfl⟩
    have hE0 := hE.next he0 rfl
    refine zll (E := E) (X := X) (Q0 := Q0) (c0 := { c with W := { c.W with drawn := c.W.drawn + 1 }, s := s0 }) (a0 := a) hE0.tys hops hsel hdst hM (fun _ _ _ h => h) (hEnd.from he0 rfl rfl) p.2 ops.size true (Array.replicate ops.size false) _ [] (fun _ => 0)
     { c with W := { c.W with drawn := c.W.drawn + 1 }, s := s0 } a hgo (Sup.refl _) (fun j hj => by cases hj) hstill ⟨hE0.inv, hf0, hE0, Ext.refl _, rfl, rfl, fun _ _ _ _ => rfl, fun _ b g hr hg => ⟨hg, hr.stable⟩, fun j hj => (by cases hj), fun j k hj => (by cases hj)⟩ h0
   split at h
   · rename_i hnil
     refine key c.s hf1 ?_
     rw [hnil]
     exact h
   · rename_i i k ds l hcons
     split at h
     · rename_i hno
       refine key (c.s.junks ds) (zom hf1 hno) ?_
       rw [hcons]
       exact h
     · cases h
def zbE (ty : Nat → Option TI) (nt : Nat) (plan : Nat → Option Plan) : Code → Bool
 | .region id ops draw => match draw with
   | true => (match plan id with | some p => zkI ty ops p | none => true)
   | false => true
 | .seq a b => zbE ty nt plan a && zbE ty nt plan b
 | .cond _ a b => zbE ty nt plan a && zbE ty nt plan b
 | .block _ a => zbE ty nt plan a
 | .loop a => zbE ty nt plan a
 | _ => true
theorem zbh {P : Program} {E : Env} {X : Nat} (hm : P.follows .mixedOrders = true) : ∀ (code : Code), zbr E.nt code = true → zbE E.ty E.nt E.plan code = true → zcq P B E X code
 | .region id ops draw, hk, h => fun hd => by
   subst hd
   have hops : ∀ o ∈ ops.toList, za9 E.nt o = true := List.all_eq_true.1 hk
   have h' : (match E.plan id with | some p => zkI E.ty ops p | none => true) = true := h
   cases hp : E.plan id with
   | none =>
     intro c a s' Q hE hf hr
     simp only [zcd, hp] at hr
     cases hr
   | some p =>
     rw [hp] at h'
     exact zla hm hp h' hops
 | .seq a b, hk, h => by
   have hk' : (zbr E.nt a && zbr E.nt b) = true := hk
   have h' : (zbE E.ty E.nt E.plan a && zbE E.ty E.nt E.plan b) = true := h
   simp only [Bool.and_eq_true] at hk' h'
   exact ⟨zbh hm a hk'.1 h'.1, zbh hm b hk'.2 h'.2⟩
 | .cond _ a b, hk, h => by
   have hk' : (zbr E.nt a && zbr E.nt b) = true := hk
   have h' : (zbE E.ty E.nt E.plan a && zbE E.ty E.nt E.plan b) = true := h
   simp only [Bool.and_eq_true] at hk' h'
   exact ⟨zbh hm a hk'.1 h'.1, zbh hm b hk'.2 h'.2⟩
 | .block _ a, hk, h => zbh hm a hk h
 | .loop a, hk, h => zbh hm a hk h
 | .skip, hk, h => trivial
 | .rangeFunc _ _ _ _, hk, h => trivial
 | .scope _, hk, h => trivial
 | .refuse _, hk, h => trivial
 | .exit _, hk, h => trivial
 | .ret, hk, h => trivial
 | .label _, hk, h => trivial
 | .goto _, hk, h => trivial
end Go.Den
namespace Go.Den
open Go Go.RowKit
set_option linter.unusedVariables false
variable {B : Nat → Option Obj}
structure Left (w w' : World) (v : Value) : Prop where
 os : w'.os = w.os
 tape : w'.tape = w.tape
 output : w'.output = w.output
 size : w.heap.size ≤ w'.heap.size
 keep : ∀ g, g < w.heap.size → v.ownBlock ≠ some g → w'.heap[g]? = w.heap[g]?
theorem zan {P : Program} {f : Nat} {fn : Func} {vals : Array Value} {W : World} {R : Value → World → Prop} (hf : P.funcs[f]? = some fn) (hn : (fn.name == "runtime.NumGoroutine") = false) (hb : fn.body.isSome = true) (h : Calls P f vals W fun e w' => ∃ v, e = .returned v ∧ R v w') : Reaches P f vals W R := by
 obtain ⟨code, hbd⟩ := Option.isSome_iff_exists.1 hb
 have hent : (callFunc f vals).run P W = .ok (.enter f vals) W := by
  have h1 : fn.name ≠ "runtime.NumGoroutine" := by simpa using hn
  simp [callFunc, hf, h1, hbd, mark]
 unfold Reaches
 rw [hent]
 refine Calls.mono h fun e w' he => ?_
 obtain ⟨v, rfl, hr⟩ := he
 exact hr
def zeX (es : List Dat) (xs : List Value) : Prop := es.length = xs.length ∧ ∀ (j : Nat) (d : Dat) (v : Value), es[j]? = some d → xs[j]? = some v → d = .val v ∧ scal v = true
theorem zeq {ρ : Nat → Role} {W : World} {es : List Dat} {xs : List Value} (h : zeX es xs) : RepRow ρ W 1 es xs := by
 obtain ⟨hl, h⟩ := h
 refine ⟨by omega, fun j d hj => ?_, fun j d hj => ?_⟩
 · have hlt := (List.getElem?_eq_some_iff.1 hj).1
   have hx := List.getElem?_eq_getElem (show j < xs.length by omega)
   obtain ⟨rfl, hs⟩ := h j d _ hj hx
   have e1 : (xs.drop (j * 1)).take 1 = [xs[j]] := by
    rw [Nat.mul_one, List.drop_eq_getElem_cons (by omega)]
    rfl
   rw [e1]
   exact .val hs
 · have hlt := (List.getElem?_eq_some_iff.1 hj).1
   have hx := List.getElem?_eq_getElem (show j < xs.length by omega)
   obtain ⟨rfl, hs⟩ := h j d _ hj hx
   rfl
theorem zbZ {ρ : Nat → Role} {W : World} {es : List Dat} {xs : List Value} (h : RepRow ρ W 1 es xs) (hv : ∀ d ∈ es, ∃ v, d = .val v) : zeX es xs := by
 refine ⟨by have := h.len; omega, fun j d v hd hx => ?_⟩
 obtain ⟨u, rfl⟩ := hv d (List.mem_of_getElem? hd)
 have hr := h.rep j _ hd
 have hlt := (List.getElem?_eq_some_iff.1 hx).1
 have e1 : (xs.drop (j * 1)).take 1 = [v] := by
  rw [Nat.mul_one, List.drop_eq_getElem_cons hlt, (List.getElem?_eq_some_iff.1 hx).2]
  rfl
 rw [e1] at hr
 cases hr with
 | val hs => exact ⟨rfl, hs⟩
end Go.Den
namespace Go.Den
open Go Go.RowKit
set_option linter.unusedVariables false
variable {B : Nat → Option Obj}
structure ExtOK (P : Program) (ty : Nat → Option TI) (B : Nat → Option Obj) (f : Nat) (g : List D → List (List D) → List (Option Row) → Option (List D × List (List D) × List (Option Row))) : Prop where mk ::
 out : zcz P ty B fun f' args u l => if f' = f then g args u l else none
theorem zoA {P : Program} {C : Cfg} (h1 : TyOk P C.ty) (h2 : ∀ f fn, C.fn f = some fn → FnOK P B C f fn) (h3 : ∀ f g, C.ext f = some g → ExtOK P C.ty B f g) : CfgOK P B C := ⟨h1, h2, fun f g h => (h3 f g h).out⟩
def zeK : List Dat → Option (List Int)
 | [] => some []
 | .val (.int .i64 n) :: l => (zeK l).map (n :: ·)
 | _ => none
def DI (n : Int) : Dat := .val (.int .i64 n)
theorem zcl : ∀ {es : List Dat} {zs : List Int}, zeK es = some zs → es = zs.map DI
 | [], zs, h => by cases h; rfl
 | d :: es, zs, h => by
   unfold zeK at h
   split at h
   · rename_i h0; cases h0
   · rename_i n l h0
     cases h0
     obtain ⟨ys, h1, rfl⟩ := Option.map_eq_some_iff.1 h
     rw [zcl h1]
     rfl
   · cases h
theorem zc9 {zs : List Int} {xs : List Value} (h : zeX (zs.map DI) xs) : xs = zs.map (Value.int .i64) := by
 obtain ⟨hl, h⟩ := h
 apply List.ext_getElem?
 intro j
 cases hx : xs[j]? with
 | none =>
   have := List.getElem?_eq_none_iff.1 hx
   have hl' : zs.length ≤ j := by simp at hl; omega
   simp [List.getElem?_eq_none hl']
 | some v =>
   have hlt := (List.getElem?_eq_some_iff.1 hx).1
   have hz : j < zs.length := by simp at hl; omega
   have hd : (zs.map DI)[j]? = some (DI zs[j]) := by simp [hz]
   obtain ⟨h1, _⟩ := h j _ _ hd hx
   have : v = .int .i64 zs[j] := by unfold DI at h1; injection h1 with h1; exact h1.symm
   rw [this]
   simp [hz]
theorem zgF (zs : List Int) : zeX (zs.map DI) (zs.map (Value.int .i64)) := by
 refine ⟨by simp, fun j d v hd hv => ?_⟩
 rw [List.getElem?_map] at hd hv
 cases hz : zs[j]? with
 | none => rw [hz] at hd; cases hd
 | some z =>
   rw [hz] at hd hv
   cases hd; cases hv
   exact ⟨rfl, rfl⟩
theorem zmh {w : World} {g e cap : Nat} {cur : Array Value} {zs : List Int} (hg : w.heap[g]? = some (.cells cur e (0, 0))) (hc : zs.length ≤ cap) (hs : cur.size = cap * 1) (ht : cur.toList.take (zs.length * 1) = zs.map (Value.int .i64)) : Sort.Holds (Value.int .i64) w g 0 zs.toArray := by
 intro j hj
 have hj : j < zs.length := by simpa using hj
 refine ⟨?_, ?_⟩
 · unfold World.cell?
   simp only [hg]
   have e1 : (cur.toList.take (zs.length * 1))[j]? = (zs.map (Value.int .i64))[j]? := by rw [ht]
   rw [List.getElem?_take, if_pos (by omega), List.getElem?_map, List.getElem?_eq_getElem hj] at e1
   have e2 : (zs.toArray)[j]! = zs[j] := by simp [hj]
   rw [e2]
   simpa using e1
 · unfold World.frozen?
   simp only [hg]
   simp
theorem zpI {w : World} {g e cap n : Nat} {cur : Array Value} {zs : List Int} {os : Array Obj} (hg : w.heap[g]? = some (.cells cur e (0, 0))) (hc : zs.length ≤ cap) (hm : cap ≤ maxLen) (hs : cur.size = cap * 1) {m : Nat} (hmz : m ≤ zs.length) :
 let W' := Sort.grow (Sort.putRow (Value.int .i64) (Sort.ahead w n) g 0 zs.toArray) os
 Left w W' (.slice (some ⟨g, 0, none⟩) m cap) ∧ W'.ownsRow 0 e 1 (.slice (some ⟨g, 0, none⟩) m cap) m ((zs.take m).map (Value.int .i64)) := by
 intro W'
 have hglt : g < w.heap.size := by
  rcases Nat.lt_or_ge g w.heap.size with h | h
  · exact h
  · rw [Array.getElem?_eq_none h] at hg; cases hg
 have hheap : ∀ k, k < w.heap.size → W'.heap[k]? = (w.heap.modify g (Sort.onCells (Sort.putCells (Value.int .i64) 0 zs.toArray)))[k]? := fun k hk => by
  show ((w.heap.modify g _) ++ os)[k]? = _
  rw [Array.getElem?_append_left (by simpa using hk)]
 refine ⟨⟨rfl, rfl, rfl, ?_, fun k hk hne => ?_⟩, ?_⟩
 · show w.heap.size ≤ ((w.heap.modify g _) ++ os).size
   simp
 · rw [hheap k hk, Array.getElem?_modify, if_neg]
   intro h
   subst h
   exact hne rfl
 · refine ⟨by simp; omega, .inr ⟨g, cap, Sort.putCells (Value.int .i64) 0 zs.toArray cur, rfl, Nat.zero_le _, ?_, by omega, hm, ?_, ?_⟩⟩
   · rw [hheap g hglt, Array.getElem?_modify, if_pos rfl, hg]
     rfl
   · unfold Sort.putCells
     simpa using hs
   · apply List.ext_getElem?
     intro j
     rw [List.getElem?_take, List.getElem?_map, List.getElem?_take]
     by_cases hj : j < m
     · have hj1 : j < m * 1 := by omega
       rw [if_pos hj1, if_pos hj]
       have hjc : j < cur.size := by omega
       have hjz : j < zs.length := by omega
       unfold Sort.putCells
       rw [Array.getElem?_toList, Array.getElem?_mapIdx, Array.getElem?_eq_getElem hjc]
       simp only [Option.map_some]
       rw [if_pos ⟨Nat.zero_le _, by simpa using hjz⟩, List.getElem?_eq_getElem hjz]
       simp [hjz]
     · rw [if_neg (by omega), if_neg hj]
       rfl
end Go.Den
namespace Go.Den
open Go Go.RowKit
set_option linter.unusedVariables false
variable {B : Nat → Option Obj}
structure Kept0 (w w' : World) : Prop where
 os : w'.os = w.os
 tape : w'.tape = w.tape
 output : w'.output = w.output
 size : w.heap.size ≤ w'.heap.size
 keep : ∀ g, g < w.heap.size → w'.heap[g]? = w.heap[g]?
theorem Kept0.refl (w : World) : Kept0 w w := ⟨rfl, rfl, rfl, Nat.le_refl _, fun _ _ => rfl⟩
theorem Kept0.trans {a b c : World} (h : Kept0 a b) (k : Kept0 b c) : Kept0 a c :=
 ⟨k.os.trans h.os, k.tape.trans h.tape, k.output.trans h.output, Nat.le_trans h.size k.size, fun g hg => (k.keep g (Nat.lt_of_lt_of_le hg h.size)).trans (h.keep g hg)⟩
theorem Kept0.alloc (w : World) (o : Obj) : Kept0 w (w.alloc o) := ⟨rfl, rfl, rfl, by simp, fun g hg => Below.heap_alloc w o g hg⟩
theorem Kept0.drew (w : World) : Kept0 w w.drew := ⟨rfl, rfl, rfl, Nat.le_refl _, fun _ _ => rfl⟩
def ziw : List D → Option (List Value)
 | [] => some []
 | .dat (.val v) :: ds => (ziw ds).map (v :: ·)
 | _ => none
def DV (v : Value) : D := .dat (.val v)
def zeo (φ : List Value → Option (List Value)) (args : List D) (u : List (List D)) (l : List (Option Row)) : Option (List D × List (List D) × List (Option Row)) :=
 match u, l with
 | [], [] => (ziw args).bind fun vs => (φ vs).map fun rs => (rs.map DV, [], [])
 | _, _ => none
def retV : List Value → Value
 | [v] => v
 | vs => .tuple vs.toArray
theorem zh1 {c : Cx} {tm : Array Value} (hs : ∀ x, VR c (.slot x []) (c.s.t x) (tm.getD x undef)) : ∀ {args : List D} {vs : List Value} (k : Nat), ziw args = some vs → (∀ i d, args[i]? = some d → c.s.t (k + i) = d) → vs.length = args.length ∧ ∀ i v, vs[i]? = some v → tm.getD (k + i) undef = v
 | [], vs, k, h, ht => by cases h; exact ⟨rfl, fun i v hv => by simp at hv⟩
 | d :: ds, vs, k, h, ht => by
   unfold ziw at h
   split at h
   · rename_i h0; cases h0
   · rename_i w ds' h0
     cases h0
     obtain ⟨ws, hw, rfl⟩ := Option.map_eq_some_iff.1 h
     obtain ⟨h1, h2⟩ := zh1 hs (k + 1) hw (fun i d hd => by rw [show k + 1 + i = k + (i + 1) by omega]; exact ht (i + 1) d (by simpa using hd))
     refine ⟨by simp [h1], fun i v hv => ?_⟩
     cases i with
     | zero =>
       cases hv
       have h3 := hs (k + 0)
       rw [ht 0 _ rfl] at h3
       exact (zau h3).1
     | succ i => rw [show k + (i + 1) = k + 1 + i by omega]; exact h2 i v (by simpa using hv)
   · cases h
theorem zlL {c : Cx} {p : Pl} : ∀ (rs : List Value) (i : Nat), (∀ r ∈ rs, scal r = true) → VRs c p i (rs.map DV) rs
 | [], i, h => rfl
 | r :: rs, i, h => ⟨r, rs, rfl, zaH (h r (by simp)), zlL rs (i + 1) fun x hx => h x (List.mem_cons_of_mem _ hx)⟩
theorem zfl (b : Bool) : ∀ rs : List Value, D.tights b (rs.map DV) = true
 | [] => rfl
 | r :: rs => by
   show (D.tight b (DV r) && D.tights b (rs.map DV)) = true
   rw [zfl b rs]
   rfl
theorem zfR : ∀ rs : List Value, D.plains (rs.map DV) = true
 | [] => rfl
 | r :: rs => by
   show (D.plain (DV r) && D.plains (rs.map DV)) = true
   rw [zfR rs]
   rfl
theorem zfW {P : Program} {ty : Nat → Option TI} {f : Nat} {φ : List Value → Option (List Value)}
 (h : ∀ vs rs W, (∀ (g : Nat) (o : Obj), B g = some o → W.heap[g]? = some o) → φ vs = some rs → rs ≠ [] ∧ (∀ r ∈ rs, scal r = true) ∧ Reaches P f vs.toArray W fun r W' => r = retV rs ∧ Kept0 W W') :
 zcz P ty B fun f' args u l => if f' = f then zeo φ args u l else none := by
 intro f' args u l rs u' l' hc c vals hcty hI hcs hsz2 hs
 simp only at hc
 split at hc
 · rename_i hff
   subst hff
   unfold zeo at hc
   split at hc
   · simp only [Option.bind_eq_some_iff, Option.map_eq_some_iff] at hc
     obtain ⟨vs, hv, ws, hw, hq⟩ := hc
     cases hq
     obtain ⟨hne, hsc, hr⟩ := h vs ws c.W (fun g o hg => (hI g o hg).2) hw
     obtain ⟨h1, h2⟩ := zh1 (c := c) (tm := vals) hs.slots 0 hv (fun i d hd => by
      rw [hcs]
      show args.getD (0 + i) .undef = d
      rw [Nat.zero_add, List.getD_eq_getElem?_getD, hd]
      rfl)
     have hvals : vals = vs.toArray := by
      apply Array.ext
      · simp [hsz2, h1]
      · intro i hi1 hi2
        have hi3 : i < vs.length := by simpa using hi2
        have := h2 i vs[i] (List.getElem?_eq_getElem hi3)
        rw [Nat.zero_add] at this
        simpa [Array.getD, hi1] using this
     rw [hvals]
     refine hr.mono fun r W' hrr => ?_
     obtain ⟨rfl, hk⟩ := hrr
     refine ⟨{ c with W := W', s := ⟨fun x => match Nat.beq x 0 with | true => retD (ws.map DV) | false => .junk, fun _ => none, [], []⟩ }, rfl, Ans.of (zfR ws) ⟨?_, rfl, ?_, ?_, ?_⟩⟩
     · exact ⟨hk.os, hk.tape, hk.output, hk.size, fun g hg _ => ⟨rfl, hk.keep g hg⟩, rfl, fun _ => rfl, fun _ => rfl⟩
     · refine ⟨fun x => ?_, fun r cs hb => ?_, fun j r hgj => ?_⟩
       · show VR _ _ (match Nat.beq x 0 with | true => retD (ws.map DV) | false => .junk) _
         cases hx : Nat.beq x 0 with
         | true =>
           have := Nat.eq_of_beq_eq_true hx
           subst this
           match ws, hne, hsc with
           | [w], _, hsc => exact zaH (hsc w (by simp))
           | w :: w2 :: ws, _, hsc => exact ⟨w :: w2 :: ws, rfl, fun e => (by cases e), zlL (w :: w2 :: ws) 0 hsc⟩
         | false => trivial
       · cases r with
         | loc n => cases hb
         | up n =>
           have hb' : ([] : List (List D))[n]? = some cs := hb
           simp at hb'
       · have hgj' : (([] : List (Option Row))[j]?).bind id = some r := hgj
         simp at hgj'
     · match ws, hne with
       | [w], _ => rfl
       | w :: w2 :: ws, _ => exact zfl false (w :: w2 :: ws)
     · rw [hcs]
       rfl
   · cases hc
 · cases hc
theorem zlQ {P : Program} {ty : Nat → Option TI} {f : Nat} {fn : Func} {φ : List Value → Option (List Value)} (hf : P.funcs[f]? = some fn) (hn : (fn.name == "runtime.NumGoroutine") = false) (hb : fn.body.isSome = true)
 (h : ∀ vs rs W, φ vs = some rs → rs ≠ [] ∧ (∀ r ∈ rs, scal r = true) ∧ Calls P f vs.toArray W fun e w' => ∃ v, e = .returned v ∧ (v = retV rs ∧ Kept0 W w')) : ExtOK P ty B f (zeo φ) :=
 ⟨zfW fun vs rs W _ hv => ⟨(h vs rs W hv).1, (h vs rs W hv).2.1, zan hf hn hb (h vs rs W hv).2.2⟩⟩
theorem zlA {P : Program} {ty : Nat → Option TI} {f : Nat} {fn : Func} {φ : List Value → Option (List Value)} (hf : P.funcs[f]? = some fn) (hn : (fn.name == "runtime.NumGoroutine") = false) (hb : fn.body.isSome = true)
 (h : ∀ vs rs W, (∀ (g : Nat) (o : Obj), B g = some o → W.heap[g]? = some o) → φ vs = some rs → rs ≠ [] ∧ (∀ r ∈ rs, scal r = true) ∧ Calls P f vs.toArray W fun e w' => ∃ v, e = .returned v ∧ (v = retV rs ∧ Kept0 W w')) : ExtOK P ty B f (zeo φ) :=
 ⟨zfW fun vs rs W hB hv => ⟨(h vs rs W hB hv).1, (h vs rs W hB hv).2.1, zan hf hn hb (h vs rs W hB hv).2.2⟩⟩
end Go.Den
namespace Go.Proofs
open Go.Shelf
def Tryd.laysM246_ren : Go.Shelf.Ren := ⟨fun | 246 => 120 | 283 => 133 | 284 => 134 | 285 => 135 | 286 => 136 | 129 => 142 | 317 => 141 | 318 => 143 | 319 => 144 | 320 => 145 | 337 => 152 | 338 => 153 | n => n, fun | 2 => 2 | 3 => 3 | 9 => 9 | 4 => 4 | 171 => 154 | 0 => 0 | 53 => 90 | 37 => 45 | 5 => 5 | 173 => 157 | 212 => 162 | 51 => 163 | 20 => 20 | 213 => 164 | 46 => 137 | 232 => 180 | 233 => 181 | n => n, fun | 17 => 0 | 18 => 3 | 19 => 4 | n => n⟩
def Tryd.laysM243_ren : Go.Shelf.Ren := ⟨fun | 243 => 90 | 246 => 120 | 283 => 133 | 284 => 134 | 285 => 135 | 286 => 136 | 129 => 142 | 317 => 141 | 318 => 143 | 319 => 144 | 320 => 145 | 337 => 152 | 338 => 153 | n => n, fun | 3 => 3 | 9 => 9 | 2 => 2 | 4 => 4 | 171 => 154 | 0 => 0 | 53 => 90 | 37 => 45 | 5 => 5 | 173 => 157 | 212 => 162 | 51 => 163 | 20 => 20 | 213 => 164 | 46 => 137 | 232 => 180 | 233 => 181 | n => n, fun | 17 => 0 | 18 => 3 | 19 => 4 | n => n⟩
def Tryd.laysM171_ren : Go.Shelf.Ren := ⟨fun | 171 => 74 | 243 => 90 | 246 => 120 | 283 => 133 | 284 => 134 | 285 => 135 | 286 => 136 | 129 => 142 | 317 => 141 | 318 => 143 | 319 => 144 | 320 => 145 | 337 => 152 | 338 => 153 | n => n, fun | 3 => 3 | 9 => 9 | 2 => 2 | 4 => 4 | 171 => 154 | 0 => 0 | 53 => 90 | 37 => 45 | 5 => 5 | 173 => 157 | 212 => 162 | 51 => 163 | 20 => 20 | 213 => 164 | 46 => 137 | 232 => 180 | 233 => 181 | n => n, fun | 17 => 0 | 18 => 3 | 19 => 4 | n => n⟩
theorem Tryd.laysM171 : Go.Proofs.LaysM.n171 Tryd.prog Tryd.laysM171_ren := {
 mixed := by kernel_rfl
 f129 := Tryd.func142.trans (congrArg some (by kernel_rfl))
 f171 := Tryd.func74.trans (congrArg some (by kernel_rfl))
 f243 := Tryd.func90.trans (congrArg some (by kernel_rfl))
 f246 := Tryd.func120.trans (congrArg some (by kernel_rfl))
 f283 := Tryd.func133.trans (congrArg some (by kernel_rfl))
 f284 := Tryd.func134.trans (congrArg some (by kernel_rfl))
 f285 := Tryd.func135.trans (congrArg some (by kernel_rfl))
 f286 := Tryd.func136.trans (congrArg some (by kernel_rfl))
 f317 := Tryd.func141.trans (congrArg some (by kernel_rfl))
 f318 := Tryd.func143.trans (congrArg some (by kernel_rfl))
 f319 := Tryd.func144.trans (congrArg some (by kernel_rfl))
 f320 := Tryd.func145.trans (congrArg some (by kernel_rfl))
 f337 := Tryd.func152.trans (congrArg some (by kernel_rfl))
 f338 := Tryd.func153.trans (congrArg some (by kernel_rfl))
 t0 := Tryd.underlying0
 a0 := Tryd.isAgg0
 z0 := Tryd.sizeOf0
 v0 := Tryd.zeroValue0
 t2 := Tryd.underlying2
 a2 := Tryd.isAgg2
 z2 := Tryd.sizeOf2
 v2 := Tryd.zeroValue2
 t3 := Tryd.underlying3
 a3 := Tryd.isAgg3
 z3 := Tryd.sizeOf3
 v3 := Tryd.zeroValue3
 t4 := Tryd.underlying4
 a4 := Tryd.isAgg4
 z4 := Tryd.sizeOf4
 v4 := Tryd.zeroValue4
 t5 := Tryd.underlying5
 a5 := Tryd.isAgg5
 z5 := Tryd.sizeOf5
 v5 := Tryd.zeroValue5
 t9 := Tryd.underlying9
 a9 := Tryd.isAgg9
 z9 := Tryd.sizeOf9
 v9 := Tryd.zeroValue9
 t20 := Tryd.underlying20
 a20 := Tryd.isAgg20
 z20 := Tryd.sizeOf20
 v20 := Tryd.zeroValue20
 t37 := Tryd.underlying45
 a37 := Tryd.isAgg45
 z37 := Tryd.sizeOf45
 v37 := Tryd.zeroValue45
 t46 := Tryd.underlying137
 a46 := Tryd.isAgg137
 z46 := Tryd.sizeOf137
 v46 := Tryd.zeroValue137
 t51 := Tryd.underlying163
 a51 := Tryd.isAgg163
 z51 := Tryd.sizeOf163
 v51 := Tryd.zeroValue163
 t53 := Tryd.underlying90
 a53 := Tryd.isAgg90
 z53 := Tryd.sizeOf90
 v53 := Tryd.zeroValue90
 t171 := Tryd.underlying154
 a171 := Tryd.isAgg154
 z171 := Tryd.sizeOf154
 v171 := Tryd.zeroValue154
 t173 := Tryd.underlying157
 a173 := Tryd.isAgg157
 z173 := Tryd.sizeOf157
 v173 := Tryd.zeroValue157
 t212 := Tryd.underlying162
 a212 := Tryd.isAgg162
 z212 := Tryd.sizeOf162
 v212 := Tryd.zeroValue162
 t213 := Tryd.underlying164
 a213 := Tryd.isAgg164
 z213 := Tryd.sizeOf164
 t232 := Tryd.underlying180
 a232 := Tryd.isAgg180
 z232 := Tryd.sizeOf180
 v232 := Tryd.zeroValue180
 t233 := Tryd.underlying181
 a233 := Tryd.isAgg181
 z233 := Tryd.sizeOf181
 v233 := Tryd.zeroValue181
 g17 := by kernel_rfl
 g18 := by kernel_rfl
 g19 := by kernel_rfl
 i0 := by kernel_rfl
 i2 := by kernel_rfl
 i3 := by kernel_rfl
 i4 := by kernel_rfl
 i5 := by kernel_rfl
 i9 := by kernel_rfl
 i20 := by kernel_rfl
 i37 := by kernel_rfl
 i46 := by kernel_rfl
 i51 := by kernel_rfl
 i53 := by kernel_rfl
 i171 := by kernel_rfl
 i173 := by kernel_rfl
 i212 := by kernel_rfl
 i232 := by kernel_rfl
 i233 := by kernel_rfl
 m17 := by kernel_rfl
 m18 := by kernel_rfl
 m19 := by kernel_rfl }
open Go.RowKit Go.Sort Go.Lib in
theorem Tryd.strconv_Itoa (n : Int) (h0 : -9223372036854775808 ≤ n) (h1 : n ≤ 9223372036854775807) (w : World) (htab : Lib.TabIs Tryd.prog w "internal/strconv.uint64pow10" .u64 Lib.pow10Tab) :
 Calls Tryd.prog 74 #[.int .i64 n] w fun e w' => e = .returned (.string ⟨(Lib.itoa n).toArray⟩) ∧ ∃ k os, w' = grow (w.drewN k) os := Any.strconv_Itoa Tryd.laysM171 n h0 h1 w htab
def Tryd.laysNm225_ren : Go.Shelf.Ren := ⟨fun | 25 => 83 | 31 => 114 | 32 => 115 | 37 => 131 | n => n, fun | 22 => 23 | 3 => 3 | 4 => 4 | 40 => 137 | 0 => 0 | n => n, fun | n => n⟩
theorem Tryd.laysNm225 : Go.Proofs.Lays2.n25 Tryd.prog Tryd.laysNm225_ren := {
 mixed := by kernel_rfl
 f25 := Tryd.func83.trans (congrArg some (by kernel_rfl))
 f31 := Tryd.func114.trans (congrArg some (by kernel_rfl))
 f32 := Tryd.func115.trans (congrArg some (by kernel_rfl))
 f37 := Tryd.func131.trans (congrArg some (by kernel_rfl))
 t0 := Tryd.underlying0
 a0 := Tryd.isAgg0
 z0 := Tryd.sizeOf0
 v0 := Tryd.zeroValue0
 t3 := Tryd.underlying3
 a3 := Tryd.isAgg3
 z3 := Tryd.sizeOf3
 v3 := Tryd.zeroValue3
 t4 := Tryd.underlying4
 a4 := Tryd.isAgg4
 z4 := Tryd.sizeOf4
 v4 := Tryd.zeroValue4
 t22 := Tryd.underlying23
 a22 := Tryd.isAgg23
 z22 := Tryd.sizeOf23
 v22 := Tryd.zeroValue23
 t40 := Tryd.underlying137
 a40 := Tryd.isAgg137
 z40 := Tryd.sizeOf137
 v40 := Tryd.zeroValue137 }
open Go.RowKit Go.Lib in
theorem Tryd.slices_BinarySearch_int (b off n c : Nat) (zs : List Int) (x : Int) (w : World) (hz : n ≤ zs.length) (hbig : n < 4611686018427387904) (hc : ∀ j, j < zs.length → w.cell? ⟨b, off + j, none⟩ = some (.int .i64 (zs.getD j 0))) (hs : (zs.take n).Pairwise (· ≤ ·)) :
 Calls Tryd.prog 83 #[.slice (some ⟨b, off, none⟩) n c, .int .i64 x] w fun e w' => e = .returned (.tuple #[.int .i64 ((zs.take n).countP (· < x) : Nat), .bool ((zs.take n).contains x)]) ∧ ∃ q, w' = w.drewN q := Any.slices_BinarySearch_int Tryd.laysNm225 b off n c zs x w hz hbig hc hs
def Tryd.laysNm223_ren : Go.Shelf.Ren := ⟨fun | 23 => 109 | n => n, fun | 22 => 23 | 3 => 3 | 4 => 4 | 0 => 0 | n => n, fun | n => n⟩
theorem Tryd.laysNm223 : Go.Proofs.Lays2.n23 Tryd.prog Tryd.laysNm223_ren := {
 mixed := by kernel_rfl
 f23 := Tryd.func109.trans (congrArg some (by kernel_rfl))
 t0 := Tryd.underlying0
 a0 := Tryd.isAgg0
 z0 := Tryd.sizeOf0
 v0 := Tryd.zeroValue0
 t3 := Tryd.underlying3
 a3 := Tryd.isAgg3
 z3 := Tryd.sizeOf3
 v3 := Tryd.zeroValue3
 t4 := Tryd.underlying4
 a4 := Tryd.isAgg4
 z4 := Tryd.sizeOf4
 v4 := Tryd.zeroValue4
 t22 := Tryd.underlying23
 a22 := Tryd.isAgg23
 z22 := Tryd.sizeOf23
 v22 := Tryd.zeroValue23
 i3 := by kernel_rfl }
open Go.RowKit Go.Lib Go.Sort in
theorem Tryd.slices_Delete_int (blk off cap i j : Nat) (zs : List Int) (w : World) (hH : Holds (Value.int .i64) w blk off zs.toArray) (hcap : zs.length ≤ cap) (hm : cap ≤ 9223372036854775807) (hij : i ≤ j) (hj : j ≤ zs.length) :
 Calls Tryd.prog 109 #[.slice (some ⟨blk, off, none⟩) zs.length cap, .int .i64 i, .int .i64 j] w fun e w' => e = .returned (.slice (some ⟨blk, off, none⟩) (zs.length - (j - i)) cap) ∧ ∃ q, w' = putRow (Value.int .i64) (Sort.ahead w q) blk off (zs.take i ++ zs.drop j ++ List.replicate (j - i) 0).toArray := Any.slices_Delete_int Tryd.laysNm223 blk off cap i j zs w hH hcap hm hij hj
open Go.RowKit Go.Lib in
theorem Tryd.slices_BinarySearch_int_empty (a : Option Addr) (c : Nat) (x : Int) (w : World) :
 Calls Tryd.prog 83 #[.slice a 0 c, .int .i64 x] w fun e w' => e = .returned (.tuple #[.int .i64 0, .bool false]) ∧ w' = w := Any.slices_BinarySearch_int_empty Tryd.laysNm225 a c x w
open Go.RowKit Go.Lib in
theorem Tryd.slices_Delete_int_empty (a : Option Addr) (c : Nat) (w : World) :
 Calls Tryd.prog 109 #[.slice a 0 c, .int .i64 0, .int .i64 0] w fun e w' => e = .returned (.slice a 0 c) ∧ w' = w := Any.slices_Delete_int_empty Tryd.laysNm223 a c w
def Tryd.laysSlE041_f82_ren : Go.Shelf.Ren := ⟨fun | 41 => 82 | n => n, fun | 22 => 23 | 23 => 3 | 4 => 4 | n => n, fun | n => n⟩
theorem Tryd.laysSlE041_f82 : Go.Proofs.SlLaysE0.n41 Tryd.prog Tryd.laysSlE041_f82_ren := {
 mixed := by kernel_rfl
 f41 := ⟨Tryd.f82.name, by decide, Tryd.func82.trans (congrArg some (by kernel_rfl))⟩
 t4 := Tryd.underlying4
 a4 := Tryd.isAgg4
 z4 := Tryd.sizeOf4
 v4 := Tryd.zeroValue4
 t22 := Tryd.underlying23
 a22 := Tryd.isAgg23
 z22 := Tryd.sizeOf23
 v22 := Tryd.zeroValue23 }
def Tryd.laysNm221_ren : Go.Shelf.Ren := ⟨fun | 21 => 84 | 27 => 116 | 28 => 117 | 35 => 132 | 39 => 140 | n => n, fun | 22 => 23 | 3 => 3 | 4 => 4 | 0 => 0 | n => n, fun | n => n⟩
theorem Tryd.laysNm221 : Go.Proofs.Lays2.n21 Tryd.prog Tryd.laysNm221_ren := {
 mixed := by kernel_rfl
 f21 := Tryd.func84.trans (congrArg some (by kernel_rfl))
 f27 := Tryd.func116.trans (congrArg some (by kernel_rfl))
 f28 := Tryd.func117.trans (congrArg some (by kernel_rfl))
 f35 := Tryd.func132.trans (congrArg some (by kernel_rfl))
 f39 := Tryd.func140.trans (congrArg some (by kernel_rfl))
 t0 := Tryd.underlying0
 a0 := Tryd.isAgg0
 z0 := Tryd.sizeOf0
 v0 := Tryd.zeroValue0
 t3 := Tryd.underlying3
 a3 := Tryd.isAgg3
 z3 := Tryd.sizeOf3
 v3 := Tryd.zeroValue3
 t4 := Tryd.underlying4
 a4 := Tryd.isAgg4
 z4 := Tryd.sizeOf4
 v4 := Tryd.zeroValue4
 t22 := Tryd.underlying23
 a22 := Tryd.isAgg23
 z22 := Tryd.sizeOf23
 v22 := Tryd.zeroValue23
 i3 := by kernel_rfl }
def Tryd.laysSlE041_f81_ren : Go.Shelf.Ren := ⟨fun | 41 => 81 | n => n, fun | 22 => 29 | 23 => 97 | 4 => 4 | n => n, fun | n => n⟩
theorem Tryd.laysSlE041_f81 : Go.Proofs.SlLaysE0.n41 Tryd.prog Tryd.laysSlE041_f81_ren := {
 mixed := by kernel_rfl
 f41 := ⟨Tryd.f81.name, by decide, Tryd.func81.trans (congrArg some (by kernel_rfl))⟩
 t4 := Tryd.underlying4
 a4 := Tryd.isAgg4
 z4 := Tryd.sizeOf4
 v4 := Tryd.zeroValue4
 t22 := Tryd.underlying29
 a22 := Tryd.isAgg29
 z22 := Tryd.sizeOf29
 v22 := Tryd.zeroValue29 }
end Go.Proofs
namespace Go.Proofs.YtcmcfebihbmmeaaDoor
open Go Go.RowKit Go.Proofs
open Go.Den (Kept0 ExtOK zeo zfW zan scal retV)
set_option linter.unusedVariables false
theorem hf72 : Tryd.prog.funcs[72]? = some Tryd.f72 := by kernel_rfl
theorem hn72 : Tryd.f72.ntmps = 28 := by kernel_rfl
theorem u45 : Tryd.prog.underlying 45 = some (.slice 5) := by kernel_rfl
theorem u5 : Tryd.prog.underlying 5 = some (.int .u8) := by kernel_rfl
theorem u9 : Tryd.prog.underlying 9 = some .string := by kernel_rfl
theorem zp2 (w : World) (b : Int) (h0 : 0 ≤ b) (h1 : b < 256) : (convert 45 9 (.slice (some ⟨w.heap.size, 0, none⟩) 1 1)).run Tryd.prog (w.alloc (.cells #[.int .u8 b] 5)) = .ok (.string ⟨#[UInt8.ofNat b.toNat]⟩) (w.alloc (.cells #[.int .u8 b] 5)) := by
 have := run_convert_bytes_back (P := Tryd.prog) (w.alloc (.cells #[.int .u8 b] 5)) 45 9 5 ⟨w.heap.size, 0, none⟩ 1 [UInt8.ofNat b.toNat] u45 u5 u9 (fun j hj => by
  have : j = 0 := by simpa using hj
  subst this
  have hb : ((UInt8.ofNat b.toNat).toNat : Int) = b := by
   rw [UInt8.toNat_ofNat']
   omega
  show (w.alloc (.cells #[.int .u8 b] 5)).cell? ⟨w.heap.size, 0, none⟩ = some (.int .u8 ((UInt8.ofNat b.toNat).toNat : Int))
  rw [World.cell?_alloc_mark, hb]
  rfl)
 exact this
set_option maxRecDepth 100000 in
set_option maxHeartbeats 2000000 in
theorem zj6 (n : Int) (h0 : 0 ≤ n) (h9 : n < 10) (w : World) :
 Calls Tryd.prog 72 #[.int .i64 n] w fun e w' => e = .returned (.string ⟨#[UInt8.ofNat (48 + n).toNat]⟩) ∧ Kept0 w w' := by
 have kc := fun w : World => zp2 w (48 + n) (by omega) (by omega)
 go_enter hf72, hn72
 unfold Tryd.f72
 go_wp2
 refine bodyPost_ret (v := .string ⟨#[UInt8.ofNat (48 + n).toNat]⟩) (by simp [results, go_sem]) rfl ?_
 exact ⟨rfl, Kept0.alloc w _⟩
theorem zqg (W : World) (g : Nat) (b : Int) (h0 : 0 ≤ b) (h1 : b < 256) (hc : W.cell? ⟨g, 0, none⟩ = some (.int .u8 b)) : (convert 45 9 (.slice (some ⟨g, 0, none⟩) 1 1)).run Tryd.prog W = .ok (.string ⟨#[UInt8.ofNat b.toNat]⟩) W := by
 have := run_convert_bytes_back (P := Tryd.prog) W 45 9 5 ⟨g, 0, none⟩ 1 [UInt8.ofNat b.toNat] u45 u5 u9 (fun j hj => by
  have : j = 0 := by simpa using hj
  subst this
  have hb : ((UInt8.ofNat b.toNat).toNat : Int) = b := by
   rw [UInt8.toNat_ofNat']
   omega
  show W.cell? ⟨g, 0, none⟩ = some (.int .u8 ((UInt8.ofNat b.toNat).toNat : Int))
  rw [hc, hb])
 exact this
theorem zmn {W w' : World} {g : Nat} {v : Value} (hc : W.cell? ⟨g, 0, none⟩ = some v) (hg : g < W.heap.size) (hk : Kept0 W w') : w'.cell? ⟨g, 0, none⟩ = some v := by
 have h1 := hk.keep g hg
 unfold World.cell? at hc ⊢
 rw [h1]
 exact hc
set_option maxRecDepth 100000 in
set_option maxHeartbeats 2000000 in
theorem zo2 (n : Int) (h0 : 10 ≤ n) (h9 : n ≤ 9223372036854775807) (q : ByteArray) (hq : ∀ w, Calls Tryd.prog 72 #[.int .i64 (IntKind.i64.wrap (n.tdiv 10))] w fun e w' => e = .returned (.string q) ∧ Kept0 w w') (hsz : q.size ≤ 30) (w : World) :
 Calls Tryd.prog 72 #[.int .i64 n] w fun e w' => e = .returned (.string (q ++ ⟨#[UInt8.ofNat (IntKind.u8.wrap (IntKind.i64.wrap (48 + n.tmod 10))).toNat]⟩)) ∧ Kept0 w w' := by
 have hm0 := Int.tmod_nonneg 10 (show 0 ≤ n by omega)
 have hm1 := Int.tmod_lt_of_pos n (show 0 < 10 by omega)
 have hb : IntKind.u8.wrap (IntKind.i64.wrap (48 + n.tmod 10)) = 48 + n.tmod 10 := by simp [IntKind.wrap, IntKind.bits, IntKind.signed]; omega
 have hb0 : 0 ≤ IntKind.u8.wrap (IntKind.i64.wrap (48 + n.tmod 10)) := by rw [hb]; omega
 have hb1 : IntKind.u8.wrap (IntKind.i64.wrap (48 + n.tmod 10)) < 256 := by rw [hb]; omega
 have kc := fun w : World => zp2 w (IntKind.u8.wrap (IntKind.i64.wrap (48 + n.tmod 10))) hb0 hb1
 have kc2 : ∀ w : World, (convert 45 9 (.slice (some ⟨w.heap.size, 0, none⟩) 1 1)).run Tryd.prog (w.alloc (.cells #[.int .u8 (IntKind.u8.wrap (IntKind.i64.wrap (48 + n.tmod 10)))] 5)).drew = .ok (.string ⟨#[UInt8.ofNat (IntKind.u8.wrap (IntKind.i64.wrap (48 + n.tmod 10))).toNat]⟩) (w.alloc (.cells #[.int .u8 (IntKind.u8.wrap (IntKind.i64.wrap (48 + n.tmod 10)))] 5)).drew := fun w => zqg _ _ _ hb0 hb1 (by show (World.alloc _ _).cell? _ = _; rw [World.cell?_alloc_mark]; rfl)
 have hs2 : ¬ (9223372036854775807 < (q.size : Int) + 1) := by omega
 have hs3 : ¬ (9223372036854775807 < q.size + 1) := by omega
 clear hb
 go_enter hf72, hn72
 unfold Tryd.f72
 go_wp2
 go_region_with (go_at_call 72; refine (hq _).mono ?_; rintro e w' ⟨rfl, hk⟩; try (have kd : (convert 45 9 (.slice (some ⟨w.heap.size, 0, none⟩) 1 1)).run Tryd.prog w' = .ok (.string ⟨#[UInt8.ofNat (IntKind.u8.wrap (IntKind.i64.wrap (48 + n.tmod 10))).toNat]⟩) w' := zqg _ _ _ hb0 hb1 (zmn (by first | (rw [World.cell?_alloc_mark]; rfl) | (show (World.alloc _ _).cell? _ = _; rw [World.cell?_alloc_mark]; rfl) | (go_simp; done) | (simp; done)) (by first | (simp; done) | (show _ < (World.alloc _ _).heap.size; simp; done)) hk)))
 all_goals (try go_wp2)
 all_goals (refine bodyPost_ret (v := .string (q ++ ⟨#[UInt8.ofNat (IntKind.u8.wrap (IntKind.i64.wrap (48 + n.tmod 10))).toNat]⟩)) (by first | (simp [results, go_sem]; done) | rfl) rfl ?_)
 all_goals refine ⟨rfl, ?_⟩
 all_goals first
  | exact (Kept0.drew w).trans (hk.trans (Kept0.alloc _ _))
  | exact (Kept0.alloc w _).trans ((Kept0.drew _).trans hk)
  | exact (Kept0.alloc w _).trans hk
  | exact ((Kept0.drew w).trans (Kept0.alloc _ _)).trans hk
  | exact ((Kept0.drew w).trans (Kept0.alloc _ _)).trans ((Kept0.drew _).trans hk)
  | trace_state
theorem dec_len : ∀ (k u : Nat), u < 10 ^ (k + 1) → (Lib.decDigits u).length ≤ k + 1
 | 0, u, h => by
   rw [Lib.decDigits, dif_pos (by simpa using h)]
   simp
 | k + 1, u, h => by
   rw [Lib.decDigits]
   split
   · simp
   · have h2 : u / 10 < 10 ^ (k + 1) := by
      rw [Nat.div_lt_iff_lt_mul (by omega)]
      rw [Nat.pow_succ] at h
      exact h
     have := dec_len k (u / 10) h2
     simp
     omega
theorem zoX : ∀ (m : Nat) (n : Int), 0 ≤ n → n.toNat ≤ m → n ≤ 9223372036854775807 → ∀ w : World, Calls Tryd.prog 72 #[.int .i64 n] w fun e w' => e = .returned (.string ⟨(Lib.decDigits n.toNat).toArray⟩) ∧ Kept0 w w' := by
 intro m
 induction m with
 | zero =>
   intro n h0 hm h1 w
   have : n = 0 := by omega
   subst this
   have := zj6 0 (by omega) (by omega) w
   rw [show (Lib.decDigits (0 : Int).toNat).toArray = #[UInt8.ofNat (48 + 0 : Int).toNat] by rw [Lib.decDigits, dif_pos (by decide)]; rfl]
   exact this
 | succ m ih =>
   intro n h0 hm h1 w
   by_cases h9 : n < 10
   · have := zj6 n h0 h9 w
     rw [Lib.decDigits, dif_pos (by omega), show 48 + n.toNat = (48 + n).toNat by omega]
     exact this
   · have hq : IntKind.i64.wrap (n.tdiv 10) = n / 10 := by
      rw [Int.tdiv_eq_ediv_of_nonneg (by omega)]
      simp [IntKind.wrap, IntKind.bits, IntKind.signed]; omega
     have hqn : (n / 10).toNat = n.toNat / 10 := by omega
     have h30 : (10 : Nat) ^ (29 + 1) = 1000000000000000000000000000000 := by decide
     have hl : (Lib.decDigits (n.toNat / 10)).length ≤ 30 := dec_len 29 _ (by rw [h30]; omega)
     have := zo2 n (by omega) h1 ⟨(Lib.decDigits (n.toNat / 10)).toArray⟩ (fun w => by
      rw [hq]
      have := ih (n / 10) (by omega) (by omega) (by omega) w
      rw [hqn] at this
      exact this) (by show (Lib.decDigits (n.toNat / 10)).toArray.size ≤ 30; simpa using hl) w
     have hb : IntKind.u8.wrap (IntKind.i64.wrap (48 + n.tmod 10)) = 48 + n % 10 := by
      rw [Int.tmod_eq_emod_of_nonneg (by omega)]
      simp [IntKind.wrap, IntKind.bits, IntKind.signed]; omega
     have hd : Lib.decDigits n.toNat = Lib.decDigits (n.toNat / 10) ++ [UInt8.ofNat (48 + n.toNat % 10)] := by
      rw [Lib.decDigits, dif_neg (by omega)]
     have e : (⟨(Lib.decDigits (n.toNat / 10)).toArray⟩ : ByteArray) ++ ⟨#[UInt8.ofNat (IntKind.u8.wrap (IntKind.i64.wrap (48 + n.tmod 10))).toNat]⟩ = ⟨(Lib.decDigits n.toNat).toArray⟩ := by
      rw [hb, hd, show (48 + n % 10).toNat = 48 + n.toNat % 10 by omega]
      apply ByteArray.ext
      simp
     rw [e] at this
     exact this
set_option maxRecDepth 100000 in
set_option maxHeartbeats 2000000 in
theorem zqD (n : Int) (h0 : n < 0) (h1 : -9223372036854775808 < n) (w : World) : Calls Tryd.prog 72 #[.int .i64 n] w fun e w' => e = .returned (.string (⟨#[45]⟩ ++ ⟨(Lib.decDigits (-n).toNat).toArray⟩)) ∧ Kept0 w w' := by
 have hc := fun w => zoX _ (-n) (by omega) (Nat.le_refl _) (by omega) w
 have h30 : (10 : Nat) ^ (29 + 1) = 1000000000000000000000000000000 := by decide
 have hl : (Lib.decDigits (-n).toNat).length ≤ 30 := dec_len 29 _ (by rw [h30]; omega)
 have hs : (⟨(Lib.decDigits (-n).toNat).toArray⟩ : ByteArray).size ≤ 30 := by show (Lib.decDigits (-n).toNat).toArray.size ≤ 30; simpa using hl
 generalize (⟨(Lib.decDigits (-n).toNat).toArray⟩ : ByteArray) = q at *
 have hw : IntKind.i64.wrap (-n) = -n := by simp [IntKind.wrap, IntKind.bits, IntKind.signed]; omega
 have hw2 : IntKind.i64.wrap (0 - n) = -n := by rw [Int.zero_sub]; exact hw
 have hs2 : ¬ (9223372036854775807 < 1 + q.size) := by omega
 have hs3 : ¬ (9223372036854775807 < 1 + (q.size : Int)) := by omega
 go_enter hf72, hn72
 unfold Tryd.f72
 go_wp2_with (go_at_call 72; (try rw [hw2]); (try rw [hw]); refine (hc _).mono ?_; rintro e w' ⟨rfl, hk⟩)
 refine bodyPost_ret (v := .string (⟨#[45]⟩ ++ q)) (by first | (simp [results, go_sem]; done) | rfl) rfl ?_
 exact ⟨rfl, hk⟩
def decF : Nat → Nat → List UInt8
 | 0, u => []
 | k + 1, u => if u < 10 then [UInt8.ofNat (48 + u)] else decF k (u / 10) ++ [UInt8.ofNat (48 + u % 10)]
theorem zoN : ∀ (k u : Nat), u < 10 ^ (k + 1) → Lib.decDigits u = decF (k + 1) u
 | 0, u, h => by
   rw [Lib.decDigits, dif_pos (by simpa using h)]
   simp only [decF]
   rw [if_pos (by simpa using h)]
 | k + 1, u, h => by
   rw [Lib.decDigits]
   unfold decF
   split
   · rfl
   · rename_i h1
     have h2 : u / 10 < 10 ^ (k + 1) := by
      rw [Nat.div_lt_iff_lt_mul (by omega)]
      rw [Nat.pow_succ] at h
      exact h
     rw [zoN k (u / 10) h2]
theorem zo7 : (⟨(Lib.itoa (-9223372036854775808)).toArray⟩ : ByteArray) = ⟨#[45, 57, 50, 50, 51, 51, 55, 50, 48, 51, 54, 56, 53, 52, 55, 55, 53, 56, 48, 56]⟩ := by
 have h : Lib.itoa (-9223372036854775808) = 45 :: Lib.decDigits 9223372036854775808 := by
  unfold Lib.itoa
  rw [if_pos (by decide)]
  rfl
 rw [h, zoN 20 9223372036854775808 (by decide)]
 rfl
set_option maxRecDepth 100000 in
set_option maxHeartbeats 2000000 in
theorem zpY (w : World) : Calls Tryd.prog 72 #[.int .i64 (-9223372036854775808)] w fun e w' => e = .returned (.string ⟨#[45, 57, 50, 50, 51, 51, 55, 50, 48, 51, 54, 56, 53, 52, 55, 55, 53, 56, 48, 56]⟩) ∧ Kept0 w w' := by
 go_enter hf72, hn72
 unfold Tryd.f72
 go_wp2
 refine bodyPost_ret (v := .string ⟨#[45, 57, 50, 50, 51, 51, 55, 50, 48, 51, 54, 56, 53, 52, 55, 55, 53, 56, 48, 56]⟩) (by first | (simp [results, go_sem]; done) | rfl) rfl ?_
 exact ⟨rfl, Kept0.refl w⟩
def num (n : Int) : ByteArray := ⟨(Lib.itoa n).toArray⟩
def numV : List Value → Option (List Value)
 | [.int .i64 n] => if -9223372036854775808 ≤ n ∧ n ≤ 9223372036854775807 then some [.string (num n)] else none
 | _ => none
theorem zp7 (n : Int) (h0 : -9223372036854775808 ≤ n) (h1 : n ≤ 9223372036854775807) (w : World) : Calls Tryd.prog 72 #[.int .i64 n] w fun e w' => e = .returned (.string (num n)) ∧ Kept0 w w' := by
 by_cases hn : n < 0
 · by_cases hm : n = -9223372036854775808
   · subst hm
     unfold num
     rw [zo7]
     exact zpY w
   · have := zqD n hn (by omega) w
     have e : (⟨#[45]⟩ : ByteArray) ++ ⟨(Lib.decDigits (-n).toNat).toArray⟩ = num n := by
      unfold num Lib.itoa
      rw [if_pos hn, show n.natAbs = (-n).toNat by omega]
      apply ByteArray.ext
      simp
     rw [e] at this
     exact this
 · have := zoX _ n (by omega) (Nat.le_refl _) h1 w
   unfold num Lib.itoa
   rw [if_neg hn]
   exact this
theorem l1_calls (vs rs : List Value) (W : World) (h : numV vs = some rs) : rs ≠ [] ∧ (∀ r ∈ rs, scal r = true) ∧ Calls Tryd.prog 72 vs.toArray W fun e w' => ∃ v, e = .returned v ∧ (v = retV rs ∧ Kept0 W w') := by
 unfold numV at h
 split at h
 · rename_i n
   split at h
   · rename_i hn
     cases h
     refine ⟨by simp, fun r hr => (by rw [List.mem_singleton] at hr; subst hr; rfl), (zp7 n hn.1 hn.2 W).mono fun e w' he => ?_⟩
     obtain ⟨rfl, hk⟩ := he
     exact ⟨_, rfl, rfl, hk⟩
   · cases h
 · cases h
theorem zmJ (w : World) (k : Nat) (os : Array Obj) : Kept0 w (Sort.grow (w.drewN k) os) :=
 ⟨rfl, rfl, rfl, by show (w.drewN k).heap.size ≤ ((w.drewN k).heap ++ os).size; simp, fun g hg => by
  show ((w.drewN k).heap ++ os)[g]? = _
  rw [Array.getElem?_append_left (by exact hg)]
  rfl⟩
def TabAt (B : Nat → Option Obj) : Prop := ∀ W : World, (∀ (g : Nat) (o : Obj), B g = some o → W.heap[g]? = some o) → Lib.TabIs Tryd.prog W "internal/strconv.uint64pow10" .u64 Lib.pow10Tab
noncomputable def zfS (P : Program) (W : World) (n : String) (g : Nat) : Option Obj := if P.globalNamed n = some g then W.heap[g]? else none
theorem znV {P : Program} {W : World} {n : String} {g : Nat} {o : Obj} (h : zfS P W n g = some o) : W.heap[g]? = some o := by
 unfold zfS at h
 split at h
 · exact h
 · cases h
theorem znK {W : World} (h : Lib.TabIs Tryd.prog W "internal/strconv.uint64pow10" .u64 Lib.pow10Tab) : TabAt (zfS Tryd.prog W "internal/strconv.uint64pow10") := fun W' hW => by
 unfold Lib.TabIs World.var? at *
 cases hg : Tryd.prog.globalNamed "internal/strconv.uint64pow10" with
 | none => rw [hg] at h; cases h
 | some g =>
   rw [hg] at h
   simp only [Option.bind_some] at h ⊢
   cases ho : W.heap[g]? with
   | none => rw [ho] at h; cases h
   | some o =>
     have := hW g o (by unfold zfS; rw [if_pos hg]; exact ho)
     rw [this]
     rw [ho] at h
     exact h
theorem itoa_calls {B : Nat → Option Obj} (hB : TabAt B) (vs rs : List Value) (W : World) (hW : ∀ (g : Nat) (o : Obj), B g = some o → W.heap[g]? = some o) (h : numV vs = some rs) : rs ≠ [] ∧ (∀ r ∈ rs, scal r = true) ∧ Calls Tryd.prog 74 vs.toArray W fun e w' => ∃ v, e = .returned v ∧ (v = retV rs ∧ Kept0 W w') := by
 unfold numV at h
 split at h
 · rename_i n
   split at h
   · rename_i hn
     cases h
     refine ⟨by simp, fun r hr => (by rw [List.mem_singleton] at hr; subst hr; rfl), (Tryd.strconv_Itoa n hn.1 hn.2 W (hB W hW)).mono fun e w' he => ?_⟩
     obtain ⟨rfl, k, os, rfl⟩ := he
     exact ⟨_, rfl, rfl, zmJ W k os⟩
   · cases h
 · cases h
end Go.Proofs.YtcmcfebihbmmeaaDoor
namespace Go.Den
open Go Go.RowKit
set_option linter.unusedVariables false
variable {B : Nat → Option Obj}
theorem zfe {c : Cx} {args : List D} {W' : World} {r : Value} {e : Nat} {i : TI} {es' : List Dat} {xs' : List Value} (hcs : c.s = start args [] []) (hos : W'.os = c.W.os) (htape : W'.tape = c.W.tape) (hout : W'.output = c.W.output) (hsize : c.W.heap.size ≤ W'.heap.size)
 (hkeep : ∀ g, g < c.W.heap.size → stable (c.ρ g) → W'.heap[g]? = c.W.heap[g]?) (hob : ∀ g, r.ownBlock = some g → g < c.W.heap.size → ¬ stable (c.ρ g))
 (hi : c.ty e = some i) (hrow : W'.ownsRow 0 e i.sz r es'.length xs') (hrep : ∀ ρ', (∀ b g, Rd c.ρ b g → g < c.W.heap.size → Rd ρ' b g) → RepRow ρ' W' i.sz es' xs') :
 ∃ c', c'.W = W' ∧ Ans c [.own e es'] [] [] r c' := by
 let ρ' : Nat → Role := fun g => if r.ownBlock = some g then .row (.slot 0 []) else if g < c.W.heap.size then c.ρ g else .oth
 have hρ : ∀ g, g < c.W.heap.size → stable (c.ρ g) → ρ' g = c.ρ g := fun g hg hs => by
  show (if r.ownBlock = some g then Role.row (.slot 0 []) else if g < c.W.heap.size then c.ρ g else .oth) = c.ρ g
  rw [if_neg (fun h => hob g h hg hs), if_pos hg]
 refine ⟨{ c with W := W', ρ := ρ', H := fun q => match q with | .slot 0 [] => r | q => c.H q, s := ⟨fun x => match Nat.beq x 0 with | true => .own e es' | false => .junk, fun _ => none, [], []⟩ }, rfl, ?_, rfl, ?_, rfl, ?_⟩
 · exact ⟨hos, htape, hout, hsize, fun g hg hst => ⟨hρ g hg hst, hkeep g hg hst⟩, rfl, fun _ => rfl, fun _ => rfl⟩
 · refine ⟨fun x => ?_, fun r2 cs hb => ?_, fun j r2 hgj => ?_⟩
   · show VR _ (.slot x []) (match Nat.beq x 0 with | true => .own e es' | false => .junk) _
     cases hx : Nat.beq x 0 with
     | true =>
       have := Nat.eq_of_beq_eq_true hx
       subst this
       refine ⟨rfl, ⟨i, xs', hi, hrow, hrep ρ' fun b g hr hg => ?_, fun g hg => if_pos hg⟩⟩
       have := hρ g hg hr.stable
       unfold Rd at *
       rw [this]
       exact hr
     | false => trivial
   · cases r2 with
     | loc n => cases hb
     | up n =>
       have hb' : ([] : List (List D))[n]? = some cs := hb
       simp at hb'
   · have hgj' : (([] : List (Option Row))[j]?).bind id = some r2 := hgj
     simp at hgj'
 · rw [hcs]
   rfl
end Go.Den
namespace Go.Proofs
open Go.Shelf Go.RowKit Go.Lib
variable {P : Program} {ρ : Ren}
set_option maxHeartbeats 2000000 in
set_option maxRecDepth 100000 in
theorem clone_any (L : SlLaysE0.n41 P ρ) (i0 : TypeInfo) (z : Value) (size bytes : Nat) (hi : P.info? (ρ.t 23) = some i0) (hz0 : i0.zero = some z) (hz1 : i0.size = size) (hz2 : i0.bytes = bytes) (hzs : z.cells.size = size) (hsz : 0 < size)
 (z23 : ∀ w, (Go.sizeOf (ρ.t 23)).run P w = .ok size w) (ad : Addr) (n c : Nat) (news : List Value) (w : World) (hl : news.length = n * size) (hn : n ≤ maxLen) (hbig : n * bytes ≤ 140737488355328)
 (hc : ∀ j u, news[j]? = some u → w.cell? (ad.add j) = some u) (h1 : ∀ u ∈ news, u.oneCell' = true) :
 Calls P (ρ.f 41) #[.slice (some ad) n c] w fun e w' => ∃ v', e = .returned v' ∧ w'.ownsRow w.heap.size (ρ.t 23) size v' n news ∧ Below w.heap.size w w' := by
 have mixed := L.mixed; have t4 := L.t4; have a4 := L.a4; have z4 := L.z4; have v4 := L.v4; have t22 := L.t22; have a22 := L.a22; have z22 := L.z22; have v22 := L.v22
 have q22 : ∀ (w : World) (a : Option Addr) (n c n' c' : Nat), (binOp .eql (ρ.t 22) (.slice a n c) (.slice none n' c')).run P w = .ok (.bool a.isNone) w := fun w a n c n' c' => Lib.run_eql_slice_nil w _ _ a n c n' c' L.t22
 have u22 : ∀ w, Sem.run P (underlying (ρ.t 22)) w = .ok (TypeDesc.slice (ρ.t 23)) w := run_underlying t22
 have A : Aside (∀ j u, news[j]? = some u → w.cell? (ad.add j) = some u) := hc
 clear hc
 obtain ⟨_, _, FG⟩ := L.f41
 go_enter FG, SlBodyN.n41_ntmps ρ
 go_wp2_with (at_builtin; refine wpList_append_own _ rfl _ _ (ρ.t 22) rfl w.heap.size (ρ.t 23) i0 z size bytes t22 hi hz0 hz1 hz2 hzs hsz _ _ _ rfl (World.ownsRow_made w #[] 0 (Nat.le_refl _) (Nat.zero_le _) (by simp)) ad n c news rfl hl (fun j u hj => Lib.cell?_alloc_some _ (A.out j u hj)) h1 (by rw [Nat.zero_add]; exact hn) (by rw [Nat.zero_add]; exact hbig) (by simp) ?_)
 intro v' w1 hown hgrow hnil
 go_wp2
 go_ret
 refine ⟨v', rfl, by simpa using hown, ?_⟩
 exact ((Below.refl _ w).alloc (Nat.le_refl _) _).grown hgrow (by simp) (by intro k hk; simp [Value.ownBlock] at hk; omega)
end Go.Proofs
namespace Go.Den
open Go Go.RowKit
set_option linter.unusedVariables false
variable {B : Nat → Option Obj}
def ziB (n : Nat) : List Dat → Bool
 | [] => true
 | d :: l => Nat.beq d.cells.length n && ziB n l
theorem zh3 {n : Nat} : ∀ {es : List Dat}, ziB n es = true → ∀ e ∈ es, e.cells.length = n
 | d :: l, h, e, he => by
   simp only [ziB, Bool.and_eq_true] at h
   rcases List.mem_cons.1 he with h0 | h0
   · rw [h0]; exact beq_eq.1 h.1
   · exact zh3 h.2 e h0
def zc7 (e sz : Nat) (args : List D) (u : List (List D)) (l : List (Option Row)) : Option (List D × List (List D) × List (Option Row)) :=
 match args, u, l with
 | [.dat (.lst _ es)], [], [] => match ziB sz es && Nat.ble es.length 1000000 with
   | true => some ([.own e es], [], [])
   | false => none
 | _, _, _ => none
theorem zpJ {ρ : Nat → Role} {W : World} {d : Dat} {l : List Value} (h : Rep ρ W d l) : ∀ u ∈ l, u.oneCell' = true := by
 induction h with
 | @val v hs => intro u hu; rw [List.mem_singleton] at hu; subst hu; cases u <;> first | rfl | (simp [scal] at hs)
 | agg hl hc h ih =>
   intro u hu
   obtain ⟨j, hj⟩ := List.getElem?_of_mem hu
   rename_i cs vs
   have hlt := (List.getElem?_eq_some_iff.1 hj).1
   have hd := List.getElem?_eq_getElem (show j < cs.length by omega)
   exact ih j _ u hd hj u (by simp)
 | nil => intro u hu; rw [List.mem_singleton] at hu; subst hu; rfl
 | lst => intro u hu; rw [List.mem_singleton] at hu; subst hu; rfl
theorem zpQ {ρ : Nat → Role} {W : World} {sz : Nat} {es : List Dat} {xs : List Value} (h : RepRow ρ W sz es xs) (hsz : 0 < sz) : ∀ u ∈ xs, u.oneCell' = true := by
 intro u hu
 obtain ⟨k, hk⟩ := List.getElem?_of_mem hu
 have hlt := (List.getElem?_eq_some_iff.1 hk).1
 have hq : k / sz < es.length := by rw [Nat.div_lt_iff_lt_mul hsz]; have := h.len; omega
 have := zpJ (h.rep (k / sz) _ (List.getElem?_eq_getElem hq)) u
 refine this (List.mem_of_getElem? (i := k % sz) ?_)
 rw [List.getElem?_take_of_lt (Nat.mod_lt _ hsz), List.getElem?_drop, Nat.mul_comm, Nat.div_add_mod]
 exact hk
theorem vals1 {vals : Array Value} (h : vals.size = 1) : vals = #[vals.getD 0 undef] := by
 obtain ⟨l⟩ := vals
 match l, h with
 | [a], _ => rfl
theorem vals2 {vals : Array Value} (h : vals.size = 2) : vals = #[vals.getD 0 undef, vals.getD 1 undef] := by
 obtain ⟨l⟩ := vals
 match l, h with
 | [a, b], _ => rfl
theorem zqj {vals : Array Value} (h : vals.size = 3) : vals = #[vals.getD 0 undef, vals.getD 1 undef, vals.getD 2 undef] := by
 obtain ⟨l⟩ := vals
 match l, h with
 | [a, b, c], _ => rfl
theorem zkP {P : Program} {ty : Nat → Option TI} {ρ : Go.Shelf.Ren} {i : TI} {fn : Func} (hty : TyOk P ty) (L : Go.Proofs.SlLaysE0.n41 P ρ) (hi : ty (ρ.t 23) = some i) (hsz : 0 < i.sz) (hb16 : i.bytes ≤ 65536) (hf : P.funcs[ρ.f 41]? = some fn) (hn : (fn.name == "runtime.NumGoroutine") = false) (hb : fn.body.isSome = true) : ExtOK P ty B (ρ.f 41) (zc7 (ρ.t 23) i.sz) := by
 constructor
 intro f' args u l rs u' l' hc c vals hcty hI hcs hsz2 hs
 simp only at hc
 split at hc
 · rename_i hff
   subst hff
   unfold zc7 at hc
   split at hc
   · rename_i b es
     split at hc
     · rename_i hw
       simp only [Bool.and_eq_true] at hw
       have hle := Nat.le_of_ble_eq_true hw.2
       injection hc with hc
       injection hc with hc1 hc2
       injection hc2 with hc2 hc3
       subst hc1 hc2 hc3
       have hslot := hs.slots 0
       rw [hcs] at hslot
       have hslot : VR c (.slot 0 []) (.dat (.lst b es)) (vals.getD 0 undef) := hslot
       have hv1 := vals1 hsz2
       obtain ⟨inf, de, z, hfa⟩ := hty.facts hi
       rcases ze8 (gp := c.s.get) hs (fun _ _ h => h) hslot rfl (zh3 hw.1) hsz with ⟨rfl, k, hv⟩ | ⟨ad, k, news, hv, hrep, hcell⟩
       · rw [hv] at hv1
         rw [hv1]
         refine zan hf hn hb ((Go.Proofs.AnyE.slices_Clone_nil L 0 k c.W).mono ?_)
         rintro e' w' ⟨rfl, rfl⟩
         exact ⟨_, rfl, zfe (i := i) (xs' := []) hcs rfl rfl rfl (Nat.le_refl _) (fun _ _ _ => rfl) (fun g hg => by cases hg) (by rw [hcty]; exact hi) (World.ownsRow_nil _ _ _ _) (fun ρ' _ => ⟨by simp, (fun j d hj => by simp at hj), (fun j d hj => by simp at hj)⟩)⟩
       · rw [hv] at hv1
         rw [hv1]
         have hmul : es.length * i.bytes ≤ 1000000 * 65536 := Nat.mul_le_mul hle hb16
         refine zan hf hn hb ((Go.Proofs.clone_any L inf z i.sz i.bytes hfa.info hfa.zero hfa.size hfa.bytes ?_ hsz (fun w => by simp [Go.sizeOf, typeInfo, hfa.info, hfa.size]) ad es.length k news c.W hrep.len (by unfold maxLen; omega) (by omega) hcell (zpQ hrep hsz)).mono ?_)
         · have h1 := zbC hfa.zs
           have h2 := hfa.zlen
           simpa [h2] using h1
         · rintro e' w' ⟨v', rfl, hown, hbel⟩
           refine ⟨_, rfl, zfe (i := i) (xs' := news) hcs hbel.os hbel.tape hbel.output hbel.size (fun g hg _ => hbel.block g hg) (fun g hg hlt => absurd hlt (by have := (World.ownsRow.lt hown g hg).1; omega)) (by rw [hcty]; exact hi) (zer hown (Nat.zero_le _)) fun ρ' hρ => hrep.mono fun b g hr hg => ⟨hρ b g hr hg, hbel.block g hg⟩⟩
     · cases hc
   · cases hc
 · cases hc
def zhM (e : Nat) (args : List D) (u : List (List D)) (l : List (Option Row)) : Option (List D × List (List D) × List (Option Row)) :=
 match args, u, l with
 | [.own e' es, .dat (.val (.int .i64 i)), .dat (.val (.int .i64 j))], [], [] => match Nat.beq e' e && (decide (0 ≤ i) && decide (i ≤ j) && decide (j ≤ es.length)) && Nat.ble es.length 1000000 with
   | true => (zeK es).map fun zs => ([.own e ((zs.take i.toNat ++ zs.drop j.toNat).map DI)], [], [])
   | false => none
 | _, _, _ => none
theorem zqk {P : Program} {ty : Nat → Option TI} {f e : Nat} {fn : Func} (hts : (ty e).map TI.sz = some 1) (hf : P.funcs[f]? = some fn) (hn : (fn.name == "runtime.NumGoroutine") = false) (hb : fn.body.isSome = true)
 (h1 : ∀ (blk off cap i j : Nat) (zs : List Int) (w : World), Sort.Holds (Value.int .i64) w blk off zs.toArray → zs.length ≤ cap → cap ≤ 9223372036854775807 → i ≤ j → j ≤ zs.length →
  Calls P f #[.slice (some ⟨blk, off, none⟩) zs.length cap, .int .i64 i, .int .i64 j] w fun e w' => e = .returned (.slice (some ⟨blk, off, none⟩) (zs.length - (j - i)) cap) ∧ ∃ q, w' = Sort.putRow (Value.int .i64) (Sort.ahead w q) blk off (zs.take i ++ zs.drop j ++ List.replicate (j - i) 0).toArray)
 (h0 : ∀ (p : Option Addr) (cap : Nat) (w : World), Calls P f #[.slice p 0 cap, .int .i64 0, .int .i64 0] w fun e w' => e = .returned (.slice p 0 cap) ∧ w' = w) :
 ExtOK P ty B f (zhM e) := by
 constructor
 obtain ⟨ti, hty, hsz1⟩ := Option.map_eq_some_iff.1 hts
 intro f' args u l rs u' l' hc c vals hcty hI hcs hsz2 hs
 simp only at hc
 split at hc
 · rename_i hff
   subst hff
   unfold zhM at hc
   split at hc
   · rename_i e' es i j
     split at hc
     · rename_i hw
       simp only [Bool.and_eq_true, decide_eq_true_eq] at hw
       obtain ⟨⟨hbe, ⟨hi0, hij⟩, hj⟩, hle⟩ := hw
       have hle := Nat.le_of_ble_eq_true hle
       have hbe := Nat.eq_of_beq_eq_true hbe
       subst hbe
       obtain ⟨zs, hz, hq⟩ := Option.map_eq_some_iff.1 hc
       have := zcl hz
       subst this
       injection hq with hc1 hc2
       injection hc2 with hc2 hc3
       subst hc1 hc2 hc3
       have hl : (zs.map DI).length = zs.length := by simp
       have s0 := hs.slots 0
       have s1 := hs.slots 1
       have s2 := hs.slots 2
       rw [hcs] at s0 s1 s2
       have s0 : VR c (.slot 0 []) (.own e' (zs.map DI)) (vals.getD 0 undef) := s0
       have s1 : VR c (.slot 1 []) (.dat (.val (.int .i64 i))) (vals.getD 1 undef) := s1
       have s2 : VR c (.slot 2 []) (.dat (.val (.int .i64 j))) (vals.getD 2 undef) := s2
       have hv3 := zqj hsz2
       rw [(zau s1).1, (zau s2).1] at hv3
       obtain ⟨hvv, hrow⟩ := s0
       obtain ⟨i2, xs, g1, g2, g3, g4⟩ := hrow.out
       rw [hcty, hty] at g1
       cases g1
       rw [hsz1] at g2 g3
       have hcells := zbZ g3 (fun d hd => by obtain ⟨z, _, rfl⟩ := List.mem_map.1 hd; exact ⟨_, rfl⟩)
       have hx := zc9 hcells
       subst hx
       rw [hl] at g2 hj hle
       rw [hvv] at hv3
       generalize hH : c.H (.slot 0 []) = v0 at *
       rw [hv3]
       obtain ⟨_, ho⟩ := g2
       obtain ⟨i, rfl⟩ := Int.eq_ofNat_of_zero_le hi0
       obtain ⟨j, rfl⟩ := Int.eq_ofNat_of_zero_le (Int.le_trans hi0 hij)
       have hij : i ≤ j := by omega
       have hj : j ≤ zs.length := by omega
       simp only [Int.toNat_natCast] at *
       rcases ho with ⟨rfl, hz0⟩ | ⟨g, cap, cur, rfl, _, hg, hcap, hm, hs1, ht⟩
       · have : zs = [] := List.eq_nil_of_length_eq_zero hz0
         subst this
         have hj0 : j = 0 := by simpa using hj
         have hi0 : i = 0 := by omega
         subst hi0 hj0
         refine zan hf hn hb ((h0 none 0 c.W).mono ?_)
         rintro e2 w' ⟨rfl, rfl⟩
         exact ⟨_, rfl, zfe (i := ti) (xs' := []) hcs rfl rfl rfl (Nat.le_refl _) (fun _ _ _ => rfl) (fun g hg => by cases hg) (by rw [hcty]; exact hty) (World.ownsRow_nil _ _ _ _) (fun ρ' _ => ⟨by simp, (fun j d hj => by simp at hj), (fun j d hj => by simp at hj)⟩)⟩
       · refine zan hf hn hb ((h1 g 0 cap i j zs c.W (zmh hg hcap hs1 ht) hcap hm hij hj).mono ?_)
         rintro e2 w' ⟨rfl, q, rfl⟩
         have hlz : (zs.take i ++ zs.drop j ++ List.replicate (j - i) 0).length = zs.length := by simp; omega
         obtain ⟨hL, hO⟩ := zpI (n := q) (os := #[]) (zs := zs.take i ++ zs.drop j ++ List.replicate (j - i) 0) hg (by omega) hm hs1 (m := zs.length - (j - i)) (by omega)
         rw [Sort.grow_empty] at hL hO
         have htk : (zs.take i ++ zs.drop j ++ List.replicate (j - i) 0).take (zs.length - (j - i)) = zs.take i ++ zs.drop j := List.take_left' (by simp; omega)
         rw [htk] at hO
         have hlm : zs.length - (j - i) = (zs.take i ++ zs.drop j).length := by simp; omega
         refine ⟨_, rfl, zfe (i := ti) (xs' := (zs.take i ++ zs.drop j).map (Value.int .i64)) hcs hL.os hL.tape hL.output hL.size (fun k hk hst => hL.keep k hk fun hob => ?_) (fun k hk _ hst => ?_) (by rw [hcty]; exact hty) (by rw [hsz1, List.length_map]; rw [hlm] at hO ⊢; exact hO) (fun ρ' _ => by rw [hsz1]; exact zeq (zgF _))⟩
         · have := g4 k hob
           rw [this] at hst
           exact hst.elim
         · have := g4 k hk
           rw [this] at hst
           exact hst.elim
     · cases hc
   · cases hc
 · cases hc
end Go.Den
namespace Go.Den
open Go Go.RowKit
set_option linter.unusedVariables false
variable {B : Nat → Option Obj}
theorem zaX (b : Nat) : ∀ (vs : List Value) (o : Nat) (w : World), (w.setCells b o vs).os = w.os ∧ (w.setCells b o vs).tape = w.tape ∧ (w.setCells b o vs).output = w.output ∧ (w.setCells b o vs).heap.size = w.heap.size ∧ ∀ g, g ≠ b → (w.setCells b o vs).heap[g]? = w.heap[g]?
 | [], o, w => ⟨rfl, rfl, rfl, rfl, fun _ _ => rfl⟩
 | v :: vs, o, w => by
   obtain ⟨h1, h2, h3, h4, h5⟩ := zaX b vs (o + 1) (w.setCell ⟨b, o, none⟩ v)
   refine ⟨h1, h2, h3, h4.trans (by simp [World.setCell]), fun g hg => (h5 g hg).trans ?_⟩
   simp only [World.setCell]
   rw [Array.getElem?_modify, if_neg (fun e => hg e.symm)]
theorem zbs (b : Nat) {e : Nat} {fr : Nat × Nat} : ∀ (vs : List Value) (o : Nat) (w : World) (cur : Array Value), w.heap[b]? = some (.cells cur e fr) → ∃ cur', (w.setCells b o vs).heap[b]? = some (.cells cur' e fr) ∧ cur'.size = cur.size ∧ ∀ k, cur'[k]? = if o ≤ k ∧ k < o + vs.length ∧ k < cur.size then vs[k - o]? else cur[k]?
 | [], o, w, cur, h => ⟨cur, h, rfl, fun k => by rw [if_neg (by simp; omega)]⟩
 | v :: vs, o, w, cur, h => by
   have h0 : (w.setCell ⟨b, o, none⟩ v).heap[b]? = some (.cells (cur.setIfInBounds o v) e fr) := by
    simp only [World.setCell]
    rw [Array.getElem?_modify, if_pos rfl, h]
    rfl
   obtain ⟨cur', h1, h2, h3⟩ := zbs b vs (o + 1) _ _ h0
   refine ⟨cur', h1, by rw [h2]; simp, fun k => ?_⟩
   rw [h3 k]
   simp only [Array.size_setIfInBounds, List.length_cons]
   by_cases hk : o + 1 ≤ k ∧ k < o + 1 + vs.length ∧ k < cur.size
   · rw [if_pos hk, if_pos ⟨by omega, by omega, hk.2.2⟩, show k - o = (k - (o + 1)) + 1 by omega, List.getElem?_cons_succ]
   · rw [if_neg hk, Array.getElem?_setIfInBounds]
     by_cases ho : o = k
     · subst ho
       by_cases hc : o < cur.size
       · simp [hc]
       · simp [hc]
     · rw [if_neg ho, if_neg (by omega)]
theorem zbA {w : World} {g e cap : Nat} {cur : Array Value} (hg : w.heap[g]? = some (.cells cur e (0, 0))) (j : Nat) : w.cell? ⟨g, j, none⟩ = cur[j]? ∧ w.frozen? ⟨g, j, none⟩ = false ∧ w.shape? g = some (e, cur.size) := by
 refine ⟨?_, ?_, ?_⟩
 · unfold World.cell?
   simp [hg]
 · unfold World.frozen?
   simp only [hg]
   simp
 · unfold World.shape?
   simp only [hg]
def insZ (zs : List Int) (k : Nat) (z : Int) : List Int := zs.take k ++ z :: zs.drop k
theorem zox {zs : List Int} {k : Nat} {z : Int} (h : k ≤ zs.length) : (insZ zs k z).length = zs.length + 1 := by simp [insZ]; omega
theorem zeY {zs : List Int} {k : Nat} {z : Int} (h : k ≤ zs.length) (j : Nat) : (insZ zs k z)[j]? = if j < k then zs[j]? else if j = k then some z else zs[j - 1]? := by
 unfold insZ
 by_cases h1 : j < k
 · rw [if_pos h1, List.getElem?_append_left (by simp; omega), List.getElem?_take_of_lt h1]
 · rw [if_neg h1, List.getElem?_append_right (by simp; omega)]
   have : (zs.take k).length = k := by simp; omega
   rw [this]
   by_cases h2 : j = k
   · rw [if_pos h2, h2, Nat.sub_self]; rfl
   · rw [if_neg h2, show j - k = (j - k - 1) + 1 by omega, List.getElem?_cons_succ, List.getElem?_drop]
     congr 1
     omega
def zib (e : Nat) (args : List D) (u : List (List D)) (l : List (Option Row)) : Option (List D × List (List D) × List (Option Row)) :=
 match args, u, l with
 | [.own e' es, .dat (.val (.int .i64 k)), .own e2 [.val (.int .i64 z)]], [], [] => match (Nat.beq e' e && Nat.beq e2 e) && (decide (0 ≤ k) && decide (k ≤ es.length)) && Nat.ble es.length 1000000 with
   | true => (zeK es).map fun zs => ([.own e ((insZ zs k.toNat z).map DI)], [], [])
   | false => none
 | _, _, _ => none
theorem zmB {cur : Array Value} {zs : List Int} {n : Nat} (hz : n = zs.length) (h : ∀ j, j < n → cur[j]? = (zs[j]?).map (Value.int .i64)) : cur.toList.take (n * 1) = zs.map (Value.int .i64) := by
 apply List.ext_getElem?
 intro j
 rw [List.getElem?_take, List.getElem?_map, Nat.mul_one]
 split
 · rename_i hj
   rw [Array.getElem?_toList, h j hj]
 · rename_i hj
   rw [List.getElem?_eq_none (by omega)]
   rfl
theorem zhy {cur : Array Value} {zs : List Int} {n : Nat} (ht : cur.toList.take (n * 1) = zs.map (Value.int .i64)) {j : Nat} (hj : j < n) : cur[j]? = (zs[j]?).map (Value.int .i64) := by
 have e1 : (cur.toList.take (n * 1))[j]? = (zs.map (Value.int .i64))[j]? := by rw [ht]
 rw [List.getElem?_take, if_pos (by omega), List.getElem?_map, Array.getElem?_toList] at e1
 exact e1
theorem zfF (n : Nat) : (Builtin.zeroCells (Value.int .i64 0).cells n).size = n := by
 have h : (Value.int .i64 0).cells.size = 1 := rfl
 simp [Builtin.zeroCells, h]
theorem zqc {P : Program} {ty : Nat → Option TI} {ρ : Go.Shelf.Ren} {fn : Func} (L : Go.Proofs.Lays2.n21 P ρ) (hts : (ty (ρ.t 3)).map TI.sz = some 1) (hf : P.funcs[ρ.f 21]? = some fn) (hn : (fn.name == "runtime.NumGoroutine") = false) (hb : fn.body.isSome = true) : ExtOK P ty B (ρ.f 21) (zib (ρ.t 3)) := by
 constructor
 obtain ⟨ti, hty, hsz1⟩ := Option.map_eq_some_iff.1 hts
 intro f' args u l rs u' l' hc c vals hcty hI hcs hsz2 hs
 simp only at hc
 split at hc
 · rename_i hff
   subst hff
   unfold zib at hc
   split at hc
   · rename_i e' es k e2 z
     split at hc
     · rename_i hw
       simp only [Bool.and_eq_true, decide_eq_true_eq] at hw
       obtain ⟨⟨⟨hbe, hbe2⟩, hk0, hk1⟩, hle⟩ := hw
       have hle := Nat.le_of_ble_eq_true hle
       have hbe := Nat.eq_of_beq_eq_true hbe
       have hbe2 := Nat.eq_of_beq_eq_true hbe2
       subst hbe hbe2
       obtain ⟨zs, hz, hq⟩ := Option.map_eq_some_iff.1 hc
       have := zcl hz
       subst this
       injection hq with hc1 hc2
       injection hc2 with hc2 hc3
       subst hc1 hc2 hc3
       have hl : (zs.map DI).length = zs.length := by simp
       have s0 := hs.slots 0
       have s1 := hs.slots 1
       have s2 := hs.slots 2
       rw [hcs] at s0 s1 s2
       have s0 : VR c (.slot 0 []) (.own (ρ.t 3) (zs.map DI)) (vals.getD 0 undef) := s0
       have s1 : VR c (.slot 1 []) (.dat (.val (.int .i64 k))) (vals.getD 1 undef) := s1
       have s2 : VR c (.slot 2 []) (.own (ρ.t 3) [DI z]) (vals.getD 2 undef) := s2
       have hv3 := zqj hsz2
       rw [(zau s1).1] at hv3
       obtain ⟨hvv, hrow⟩ := s0
       obtain ⟨hvv2, hrow2⟩ := s2
       obtain ⟨i2, xs, g1, g2, g3, g4⟩ := hrow.out
       obtain ⟨i3, xs3, p1, p2, p3, p4⟩ := hrow2.out
       rw [hcty, hty] at g1 p1
       cases g1
       cases p1
       rw [hsz1] at g2 g3 p2 p3
       have hx := zc9 (zbZ g3 (fun d hd => by obtain ⟨z, _, rfl⟩ := List.mem_map.1 hd; exact ⟨_, rfl⟩))
       subst hx
       have hx3 := zc9 (zs := [z]) (zbZ p3 (fun d hd => by obtain ⟨z, _, rfl⟩ := List.mem_map.1 hd; exact ⟨_, rfl⟩))
       subst hx3
       rw [hl] at g2 hk1 hle
       rw [hvv, hvv2] at hv3
       generalize hH : c.H (.slot 0 []) = v0 at *
       generalize hH2 : c.H (.slot 2 []) = v2 at *
       rw [hv3]
       obtain ⟨k, rfl⟩ := Int.eq_ofNat_of_zero_le hk0
       have hk1 : k ≤ zs.length := by omega
       simp only [Int.toNat_natCast] at *
       obtain ⟨_, ho⟩ := g2
       obtain ⟨_, ho2⟩ := p2
       -- the one number that comes in
       rcases ho2 with ⟨_, h0⟩ | ⟨vb, vc, vcur, rfl, _, hvb, hvc, hvm, hvs, hvt⟩
       · cases h0
       have hv0 : ∀ j v, ([Value.int .i64 z] : List Value)[j]? = some v → c.W.cell? ⟨vb, 0 + j, none⟩ = some v := fun j v hj => by
        have hlt := (List.getElem?_eq_some_iff.1 hj).1
        have hj0 : j = 0 := by simpa using hlt
        subst hj0
        rw [(zbA (cap := vc) hvb 0).1, zhy (zs := [z]) (n := 1) hvt (by decide)]
        simpa using hj
       have h1v : ∀ v ∈ ([Value.int .i64 z] : List Value), v.oneCell' = true := fun v hv => by rw [List.mem_singleton] at hv; subst hv; rfl
       have h1c : ∀ v ∈ zs.map (Value.int .i64), v.oneCell' = true := fun v hv => by obtain ⟨_, _, rfl⟩ := List.mem_map.1 hv; rfl
       have hcl : (zs.map (Value.int .i64)).length = zs.length := by simp
       have hil := zox (z := z) hk1
       have fin : ∀ (W' : World) (r : Value), W'.os = c.W.os → W'.tape = c.W.tape → W'.output = c.W.output → c.W.heap.size ≤ W'.heap.size → (∀ g, g < c.W.heap.size → stable (c.ρ g) → W'.heap[g]? = c.W.heap[g]?) → (∀ g, r.ownBlock = some g → g < c.W.heap.size → ¬ stable (c.ρ g)) →
        (∃ g cap cur, r = .slice (some ⟨g, 0, none⟩) (zs.length + 1) cap ∧ W'.heap[g]? = some (.cells cur (ρ.t 3) (0, 0)) ∧ zs.length + 1 ≤ cap ∧ cap ≤ maxLen ∧ cur.size = cap ∧ ∀ j, j < zs.length + 1 → cur[j]? = ((insZ zs k z)[j]?).map (Value.int .i64)) →
        ∃ c', c'.W = W' ∧ Ans c [.own (ρ.t 3) ((insZ zs k z).map DI)] [] [] r c' := by
        rintro W' r w1 w2 w3 w4 w5 w6 ⟨g, cap, cur, rfl, hg, hcap, hm, hcs1, hcur⟩
        refine zfe (i := ti) (xs' := (insZ zs k z).map (Value.int .i64)) hcs w1 w2 w3 w4 w5 w6 (by rw [hcty]; exact hty) ?_ (fun ρ' _ => by rw [hsz1]; exact zeq (zgF _))
        rw [hsz1, List.length_map]
        refine ⟨by simp, .inr ⟨g, cap, cur, by rw [hil], Nat.zero_le _, hg, by omega, hm, by omega, ?_⟩⟩
        exact zmB rfl (by rw [hil]; exact hcur)
       rcases ho with ⟨rfl, hz0⟩ | ⟨g, cap, cur, rfl, _, hg, hcap, hm, hs1, ht⟩
       · -- nil
         have : zs = [] := List.eq_nil_of_length_eq_zero hz0
         subst this
         have hk : k = 0 := by simpa using hk1
         subst hk
         refine zan hf hn hb ((Go.Proofs.Any2.slices_Insert_int_end_grow L none 0 0 vb 0 1 vc [] [Value.int .i64 z] c.W (by decide) (by decide) (by decide) (by decide) rfl rfl (fun _ => rfl) (fun a h => by cases h) hv0 h1v).mono ?_)
         rintro e' w' ⟨rfl, rfl⟩
         have hge : 1 ≤ grownCap c.W 1 0 (ρ.t 3) := grownCap_ge c.W (0 + 1) 0 (ρ.t 3)
         have hlm : grownCap c.W 1 0 (ρ.t 3) ≤ maxLen := grownCap_le_maxLen c.W (0 + 1) 0 (ρ.t 3) (by unfold maxLen; omega)
         refine ⟨_, rfl, fin _ _ rfl rfl rfl (by show c.W.heap.size ≤ (c.W.heap.push _).size; simp) (fun g hg _ => by show (c.W.heap.push _)[g]? = _; rw [Array.getElem?_push, if_neg (by omega)]) (fun g hg hlt => by cases hg; exact absurd hlt (Nat.lt_irrefl _)) ⟨c.W.heap.size, _, _, rfl, by show (c.W.heap.push _)[c.W.heap.size]? = _; rw [Array.getElem?_push, if_pos rfl], hge, hlm, ?_, ?_⟩⟩
         · rw [Array.size_append, zfF]; simp; omega
         · intro j hj
           have : j = 0 := by simpa using hj
           subst this
           rw [Array.getElem?_append_left (by simp)]
           simp [insZ]
       · have hgρ := g4 g rfl
         have hvρ := p4 vb rfl
         have hne : vb ≠ g := fun e => by rw [e, hgρ] at hvρ; cases hvρ
         have hglt := (Array.getElem?_eq_some_iff.1 hg).1
         have hunst : ∀ h, h < c.W.heap.size → stable (c.ρ h) → h ≠ g := fun h _ hst e => by rw [e, hgρ] at hst; exact hst
         have hcells : ∀ j v, (zs.map (Value.int .i64))[j]? = some v → c.W.cell? ⟨g, 0 + j, none⟩ = some v := fun j v hj => by
          have hlt := (List.getElem?_eq_some_iff.1 hj).1
          rw [Nat.zero_add, (zbA (cap := cap) hg j).1, zhy ht (by simpa using hlt)]
          rw [List.getElem?_map] at hj
          exact hj
         have hthere : ∀ j, j < cap → (c.W.cell? ⟨g, 0 + j, none⟩).isSome = true := fun j hj => by
          rw [Nat.zero_add, (zbA (cap := cap) hg j).1, Array.getElem?_eq_getElem (by omega)]
          rfl
         have hfrz : ∀ j, c.W.frozen? ⟨g, 0 + j, none⟩ = false := fun j => (zbA (cap := cap) hg _).2.1
         by_cases hroom : zs.length + 1 ≤ cap
         · by_cases hkn : k < zs.length
           · -- there is room
             refine zan hf hn hb ((Go.Proofs.Any2.slices_Insert_int_shift L g 0 zs.length cap k vb 0 1 vc (zs.map (Value.int .i64)) [Value.int .i64 z] c.W hkn (by decide) hroom (by unfold maxLen at hm; omega) hne hcl rfl hcells (fun j hj => hthere j (by omega)) (fun j _ => hfrz j) hv0 h1c h1v _ _ _ _ (zbA (cap := vc) hvb 0).2.2 (zbA (cap := cap) hg 0).2.2 (by omega) (zbA (cap := vc) hvb 0).2.1 (zbA (cap := vc) hvb _).2.1).mono ?_)
             rintro e' w' ⟨rfl, rfl⟩
             obtain ⟨a1, a2, a3, a4, a5⟩ := zaX g [Value.int .i64 z] (0 + k) (c.W.drew.setCells g (0 + (k + 1)) ((zs.map (Value.int .i64)).drop k))
             obtain ⟨b1, b2, b3, b4, b5⟩ := zaX g ((zs.map (Value.int .i64)).drop k) (0 + (k + 1)) c.W.drew
             obtain ⟨cur1, c1, c2, c3⟩ := zbs g ((zs.map (Value.int .i64)).drop k) (0 + (k + 1)) c.W.drew cur hg
             obtain ⟨cur2, d1, d2, d3⟩ := zbs g [Value.int .i64 z] (0 + k) _ cur1 c1
             refine ⟨_, rfl, fin _ _ (a1.trans b1) (a2.trans b2) (a3.trans b3) (by rw [a4, b4]; exact Nat.le_refl _) (fun h hh hst => (a5 h (hunst h hh hst)).trans (b5 h (hunst h hh hst))) (fun h hh _ => by cases hh; rw [hgρ]; exact fun x => x) ⟨g, cap, cur2, rfl, d1, hroom, hm, by omega, fun j hj => ?_⟩⟩
             rw [d3 j, zeY (by omega)]
             by_cases hj1 : j < k
             · rw [if_neg (by omega), if_pos hj1, c3 j, if_neg (by omega), zhy ht (by omega)]
             · rw [if_neg hj1]
               by_cases hj2 : j = k
               · rw [if_pos hj2, if_pos ⟨by omega, by simp; omega, by omega⟩, show j - (0 + k) = 0 by omega]; rfl
               · rw [if_neg hj2, if_neg (by simp; omega), c3 j, if_pos ⟨by omega, by simp; omega, by omega⟩, List.getElem?_drop, List.getElem?_map, show k + (j - (0 + (k + 1))) = j - 1 by omega]
           · have hk : k = zs.length := by omega
             subst hk
             refine zan hf hn hb ((Go.Proofs.Any2.slices_Insert_int_end_room L g 0 zs.length cap vb 0 1 vc [Value.int .i64 z] c.W (by decide) hroom (by unfold maxLen at hm; omega) rfl (fun j hj => by have := hthere (zs.length + j) (by omega); rwa [← Nat.add_assoc] at this) (fun j hj => by have := hfrz (zs.length + j); rwa [← Nat.add_assoc] at this) hv0 h1v).mono ?_)
             rintro e' w' ⟨rfl, rfl⟩
             obtain ⟨a1, a2, a3, a4, a5⟩ := zaX g [Value.int .i64 z] (0 + zs.length) c.W
             obtain ⟨cur2, d1, d2, d3⟩ := zbs g [Value.int .i64 z] (0 + zs.length) _ cur hg
             refine ⟨_, rfl, fin _ _ a1 a2 a3 (by rw [a4]; exact Nat.le_refl _) (fun h hh hst => a5 h (hunst h hh hst)) (fun h hh _ => by cases hh; rw [hgρ]; exact fun x => x) ⟨g, cap, cur2, rfl, d1, hroom, hm, by omega, fun j hj => ?_⟩⟩
             rw [d3 j, zeY (by omega)]
             by_cases hj1 : j < zs.length
             · rw [if_neg (by omega), if_pos hj1, zhy ht (by omega)]
             · have hj2 : j = zs.length := by omega
               rw [if_neg hj1, if_pos hj2, if_pos ⟨by omega, by simp; omega, by omega⟩, show j - (0 + zs.length) = 0 by omega]; rfl
         · have hge := grownCap_ge c.W (zs.length + 1) cap (ρ.t 3)
           have hlm := grownCap_le_maxLen c.W (zs.length + 1) cap (ρ.t 3) (by unfold maxLen; omega)
           by_cases hkn : k < zs.length
           · -- a new row
             refine zan hf hn hb ((Go.Proofs.Any2.slices_Insert_int_grow L g 0 zs.length cap k vb 0 1 vc (zs.map (Value.int .i64)) [Value.int .i64 z] c.W hkn (by decide) hcap (by omega) (by omega) hcl rfl hcells hv0 h1c h1v).mono ?_)
             rintro e' w' ⟨rfl, rfl⟩
             generalize hcp : grownCap c.W (zs.length + 1) cap (ρ.t 3) = cp at *
             let arr : Array Value := ((zs.map (Value.int .i64)).take k).toArray ++ Builtin.zeroCells (Value.int .i64 0).cells (zs.length + 1 - k) ++ Builtin.zeroCells (Value.int .i64 0).cells (cp - (zs.length + 1))
             have harr : arr.size = cp := by simp only [arr, Array.size_append, zfF, List.size_toArray, List.length_take, hcl]; omega
             let W1 := c.W.alloc (.cells arr (ρ.t 3))
             have hW1 : W1.heap[c.W.heap.size]? = some (.cells arr (ρ.t 3) (0, 0)) := by show (c.W.heap.push _)[c.W.heap.size]? = _; rw [Array.getElem?_push, if_pos rfl]
             have hW1s : W1.heap.size = c.W.heap.size + 1 := by show (c.W.heap.push _).size = _; simp
             have hW1k : ∀ h, h < c.W.heap.size → W1.heap[h]? = c.W.heap[h]? := fun h hh => by show (c.W.heap.push _)[h]? = _; rw [Array.getElem?_push, if_neg (by omega)]
             obtain ⟨b1, b2, b3, b4, b5⟩ := zaX c.W.heap.size [Value.int .i64 z] k W1.drew
             obtain ⟨cur1, c1, c2, c3⟩ := zbs c.W.heap.size [Value.int .i64 z] k W1.drew arr hW1
             obtain ⟨a1, a2, a3, a4, a5⟩ := zaX c.W.heap.size ((zs.map (Value.int .i64)).drop k) (k + 1) (W1.drew.setCells c.W.heap.size k [Value.int .i64 z]).drew
             obtain ⟨cur2, d1, d2, d3⟩ := zbs c.W.heap.size ((zs.map (Value.int .i64)).drop k) (k + 1) (W1.drew.setCells c.W.heap.size k [Value.int .i64 z]).drew cur1 c1
             refine ⟨_, rfl, fin _ _ (a1.trans b1) (a2.trans b2) (a3.trans b3) (by rw [a4]; show _ ≤ (W1.drew.setCells c.W.heap.size k [Value.int .i64 z]).heap.size; rw [b4]; show _ ≤ W1.heap.size; omega) (fun h hh hst => (a5 h (by omega)).trans ((b5 h (by omega)).trans (hW1k h hh))) (fun h hh hlt => by cases hh; exact absurd hlt (Nat.lt_irrefl _)) ⟨c.W.heap.size, cp, cur2, rfl, d1, hge, hlm, by omega, fun j hj => ?_⟩⟩
             rw [d3 j, zeY (by omega)]
             by_cases hj1 : j < k
             · rw [if_neg (by omega), if_pos hj1, c3 j, if_neg (by omega)]
               show (((zs.map (Value.int .i64)).take k).toArray ++ Builtin.zeroCells (Value.int .i64 0).cells (zs.length + 1 - k) ++ Builtin.zeroCells (Value.int .i64 0).cells (cp - (zs.length + 1)))[j]? = _
               rw [Array.getElem?_append_left (by simp; omega), Array.getElem?_append_left (by simp; omega)]
               simp [List.getElem?_take_of_lt hj1]
             · rw [if_neg hj1]
               by_cases hj2 : j = k
               · rw [if_pos hj2, if_neg (by omega), c3 j, if_pos ⟨by omega, by simp; omega, by omega⟩, show j - k = 0 by omega]; rfl
               · rw [if_neg hj2, if_pos ⟨by omega, by simp; omega, by omega⟩, List.getElem?_drop, List.getElem?_map, show k + (j - (k + 1)) = j - 1 by omega]
           · have hk : k = zs.length := by omega
             subst hk
             refine zan hf hn hb ((Go.Proofs.Any2.slices_Insert_int_end_grow L (some ⟨g, 0, none⟩) zs.length cap vb 0 1 vc (zs.map (Value.int .i64)) [Value.int .i64 z] c.W (by decide) hcap (by omega) (by omega) hcl rfl (fun h => by cases h) (fun a ha j v hj => by cases ha; rw [Addr.add_lit]; exact hcells j v hj) hv0 h1v).mono ?_)
             rintro e' w' ⟨rfl, rfl⟩
             refine ⟨_, rfl, fin _ _ rfl rfl rfl (by show c.W.heap.size ≤ (c.W.heap.push _).size; simp) (fun g hg _ => by show (c.W.heap.push _)[g]? = _; rw [Array.getElem?_push, if_neg (by omega)]) (fun g hg hlt => by cases hg; exact absurd hlt (Nat.lt_irrefl _)) ⟨c.W.heap.size, _, _, rfl, by show (c.W.heap.push _)[c.W.heap.size]? = _; rw [Array.getElem?_push, if_pos rfl], hge, hlm, ?_, ?_⟩⟩
             · rw [Array.size_append, zfF]; simp; omega
             · intro j hj
               rw [zeY (by omega), Array.getElem?_append_left (by simp; omega)]
               by_cases hj1 : j < zs.length
               · rw [if_pos hj1]
                 simp [List.getElem?_append_left, hj1]
               · rw [if_neg hj1, if_pos (by omega)]
                 have : j = zs.length := by omega
                 subst this
                 simp
     · cases hc
   · cases hc
 · cases hc
end Go.Den
namespace Go.Den
open Go Go.RowKit
set_option linter.unusedVariables false
variable {B : Nat → Option Obj}
theorem zhw {c : Cx} {args : List D} {W' : World} {ws : List Value} (hcs : c.s = start args [] []) (hk : Kept0 c.W W') (hne : ws ≠ []) (hsc : ∀ r ∈ ws, scal r = true) : ∃ c', c'.W = W' ∧ Ans c (ws.map DV) [] [] (retV ws) c' := by
 refine ⟨{ c with W := W', s := ⟨fun x => match Nat.beq x 0 with | true => retD (ws.map DV) | false => .junk, fun _ => none, [], []⟩ }, rfl, Ans.of (zfR ws) ⟨?_, rfl, ?_, ?_, ?_⟩⟩
 · exact ⟨hk.os, hk.tape, hk.output, hk.size, fun g hg _ => ⟨rfl, hk.keep g hg⟩, rfl, fun _ => rfl, fun _ => rfl⟩
 · refine ⟨fun x => ?_, fun r cs hb => ?_, fun j r hgj => ?_⟩
   · show VR _ _ (match Nat.beq x 0 with | true => retD (ws.map DV) | false => .junk) _
     cases hx : Nat.beq x 0 with
     | true =>
       have := Nat.eq_of_beq_eq_true hx
       subst this
       match ws, hne, hsc with
       | [w], _, hsc => exact zaH (hsc w (by simp))
       | w :: w2 :: ws, _, hsc => exact ⟨w :: w2 :: ws, rfl, fun e => (by cases e), zlL (w :: w2 :: ws) 0 hsc⟩
     | false => trivial
   · cases r with
     | loc n => cases hb
     | up n =>
       have hb' : ([] : List (List D))[n]? = some cs := hb
       simp at hb'
   · have hgj' : (([] : List (Option Row))[j]?).bind id = some r := hgj
     simp at hgj'
 · match ws, hne with
   | [w], _ => rfl
   | w :: w2 :: ws, _ => exact zfl false (w :: w2 :: ws)
 · rw [hcs]
   rfl
def upB : List Int → Bool
 | [] => true
 | [_] => true
 | a :: b :: l => decide (a ≤ b) && upB (b :: l)
theorem zjR : ∀ {l : List Int}, upB l = true → l.Pairwise (· ≤ ·)
 | [], _ => .nil
 | [a], _ => List.pairwise_singleton _ _
 | a :: b :: l, h => by
   simp only [upB, Bool.and_eq_true, decide_eq_true_eq] at h
   have h2 := zjR h.2
   refine List.pairwise_cons.2 ⟨fun x hx => ?_, h2⟩
   rcases List.mem_cons.1 hx with rfl | hx
   · exact h.1
   · exact Int.le_trans h.1 ((List.pairwise_cons.1 h2).1 x hx)
def znq (args : List D) (u : List (List D)) (l : List (Option Row)) : Option (List D × List (List D) × List (Option Row)) :=
 match args, u, l with
 | [.dat (.lst _ es), .dat (.val (.int .i64 x))], [], [] => (zeK es).bind fun zs => match upB zs && Nat.ble zs.length 1000000 with
   | true => some ([.int .i64 ((zs.countP (· < x) : Nat) : Int), .bool (zs.contains x)].map DV, [], [])
   | false => none
 | _, _, _ => none
theorem zlk (w : World) (q : Nat) : Kept0 w (w.drewN q) := ⟨rfl, rfl, rfl, Nat.le_refl _, fun _ _ => rfl⟩
theorem bs_ok {P : Program} {ty : Nat → Option TI} {f : Nat} {fn : Func} (hf : P.funcs[f]? = some fn) (hn : (fn.name == "runtime.NumGoroutine") = false) (hb : fn.body.isSome = true)
 (h1 : ∀ (b off n c : Nat) (zs : List Int) (x : Int) (w : World), n ≤ zs.length → n < 4611686018427387904 → (∀ j, j < zs.length → w.cell? ⟨b, off + j, none⟩ = some (.int .i64 (zs.getD j 0))) → (zs.take n).Pairwise (· ≤ ·) →
  Calls P f #[.slice (some ⟨b, off, none⟩) n c, .int .i64 x] w fun e w' => e = .returned (.tuple #[.int .i64 (((zs.take n).countP (· < x) : Nat) : Int), .bool ((zs.take n).contains x)]) ∧ ∃ q, w' = w.drewN q)
 (h0 : ∀ (a : Option Addr) (c : Nat) (x : Int) (w : World), Calls P f #[.slice a 0 c, .int .i64 x] w fun e w' => e = .returned (.tuple #[.int .i64 0, .bool false]) ∧ w' = w) :
 ExtOK P ty B f znq := by
 constructor
 intro f' args u l rs u' l' hc c vals hcty hI hcs hsz2 hs
 simp only at hc
 split at hc
 · rename_i hff
   subst hff
   unfold znq at hc
   split at hc
   · rename_i b es x
     obtain ⟨zs, hz, hq⟩ := Option.bind_eq_some_iff.1 hc
     clear hc
     have := zcl hz
     subst this
     clear hz
     split at hq
     · rename_i hw
       simp only [Bool.and_eq_true] at hw
       have hle := Nat.le_of_ble_eq_true hw.2
       injection hq with hq
       injection hq with hc1 hc2
       injection hc2 with hc2 hc3
       subst hc1 hc2 hc3
       have s0 := hs.slots 0
       have s1 := hs.slots 1
       rw [hcs] at s0 s1
       have s0 : VR c (.slot 0 []) (.dat (.lst b (zs.map DI))) (vals.getD 0 undef) := s0
       have s1 : VR c (.slot 1 []) (.dat (.val (.int .i64 x))) (vals.getD 1 undef) := s1
       have hv2 := vals2 hsz2
       rw [(zau s1).1] at hv2
       have hne : ([.int .i64 ((zs.countP (· < x) : Nat) : Int), .bool (zs.contains x)] : List Value) ≠ [] := by simp
       have hsc : ∀ r ∈ ([.int .i64 ((zs.countP (· < x) : Nat) : Int), .bool (zs.contains x)] : List Value), scal r = true := fun r hr => by
        rcases List.mem_cons.1 hr with rfl | hr
        · rfl
        · rw [List.mem_singleton] at hr; subst hr; rfl
       cases hzs : zs with
       | nil =>
         subst hzs
         have h2 := zf4 s0
         generalize hd : vals.getD 0 undef = v0 at *
         cases h2 with
         | nil =>
           rw [hv2]
           refine zan hf hn hb ((h0 _ _ x c.W).mono ?_)
           rintro e' w' ⟨rfl, rfl⟩
           exact ⟨_, rfl, zhw hcs ⟨rfl, rfl, rfl, Nat.le_refl _, fun _ _ => rfl⟩ hne hsc⟩
         | lst _ _ _ _ _ _ _ _ =>
           rw [hv2]
           refine zan hf hn hb ((h0 _ _ x c.W).mono ?_)
           rintro e' w' ⟨rfl, rfl⟩
           exact ⟨_, rfl, zhw hcs ⟨rfl, rfl, rfl, Nat.le_refl _, fun _ _ => rfl⟩ hne hsc⟩
       | cons z0 zs0 =>
         rw [← hzs]
         have hfull : ∃ g o n k, vals.getD 0 undef = .slice (some ⟨g, o, none⟩) n k := by
          rw [hzs] at s0
          exact zjq s0
         obtain ⟨g, o, n, k, hg⟩ := hfull
         have hw1 : ∀ e ∈ zs.map DI, e.cells.length = 1 := fun e he => by obtain ⟨_, _, rfl⟩ := List.mem_map.1 he; rfl
         rcases ze8 (gp := c.s.get) hs (fun _ _ h => h) s0 rfl hw1 (by decide) with ⟨h2, _⟩ | ⟨ad, k2, news, hv, hrep, hcell⟩
         · rw [hzs] at h2; cases h2
         · have hnews := zc9 (zbZ hrep fun d hd => by obtain ⟨z, _, rfl⟩ := List.mem_map.1 hd; exact ⟨_, rfl⟩)
           rw [hg] at hv
           injection hv with hv1 hv3 hv4
           injection hv1 with hv1
           subst hv1 hv3 hv4
           rw [hg] at hv2
           rw [hv2]
           have hl : (zs.map DI).length = zs.length := by simp
           rw [hl]
           refine zan hf hn hb ((h1 g o zs.length k zs x c.W (Nat.le_refl _) (by omega) (fun j hj => ?_) (by rw [List.take_length]; exact zjR hw.1)).mono ?_)
           · have := hcell j (.int .i64 (zs.getD j 0)) (by rw [hnews, List.getElem?_map, List.getElem?_eq_getElem hj]; simp [List.getD_eq_getElem?_getD, hj])
             rwa [Addr.add_lit] at this
           · rw [List.take_length]
             rintro e' w' ⟨rfl, q, rfl⟩
             exact ⟨_, rfl, zhw hcs (zlk _ _) hne hsc⟩
     · cases hq
   · cases hc
 · cases hc
end Go.Den
namespace Go.Den
open Go
def tys : List (Nat × TI) := [(2, ⟨.int .i64, 1, 8, [], [.dat (.val (.int .i64 0))]⟩), (3, ⟨.int .i64, 1, 8, [], [.dat (.val (.int .i64 0))]⟩), (4, ⟨.bool, 1, 1, [], [.dat (.val (.bool false))]⟩), (5, ⟨.int .u8, 1, 1, [], [.dat (.val (.int .u8 0))]⟩), (9, ⟨.str, 1, 16, [], [.dat (.val (.string ByteArray.empty))]⟩), (21, ⟨.int .i32, 1, 4, [], [.dat (.val (.int .i32 0))]⟩), (22, ⟨.slice 111, 1, 24, [], [.own 111 []]⟩), (23, ⟨.slice 3, 1, 24, [], [.own 3 []]⟩), (25, ⟨.struct, 4, 80, [(0, 3), (1, 22), (2, 23), (3, 23)], [.dat (.val (.int .i64 0)), .own 111 [], .own 3 [], .own 3 []]⟩), (29, ⟨.slice 97, 1, 24, [], [.own 97 []]⟩), (31, ⟨.struct, 4, 80, [(0, 3), (1, 29), (2, 23), (3, 23)], [.dat (.val (.int .i64 0)), .own 97 [], .own 3 [], .own 3 []]⟩), (35, ⟨.slice 74, 1, 24, [], [.own 74 []]⟩), (38, ⟨.slice 72, 1, 24, [], [.own 72 []]⟩), (45, ⟨.slice 5, 1, 24, [], [.own 5 []]⟩), (67, ⟨.other, 1, 8, [], [.dat (.val (.pointer none))]⟩), (69, ⟨.struct, 9, 120, [(0, 31), (4, 3), (5, 3), (6, 4), (7, 4), (8, 9)], [.dat (.val (.int .i64 0)), .own 97 [], .own 3 [], .own 3 [], .dat (.val (.int .i64 0)), .dat (.val (.int .i64 0)), .dat (.val (.bool false)), .dat (.val (.bool false)), .dat (.val (.string ByteArray.empty))]⟩), (72, ⟨.struct, 3, 24, [(0, 3), (1, 3), (2, 3)], [.dat (.val (.int .i64 0)), .dat (.val (.int .i64 0)), .dat (.val (.int .i64 0))]⟩), (74, ⟨.struct, 3, 24, [(0, 3), (1, 3), (2, 3)], [.dat (.val (.int .i64 0)), .dat (.val (.int .i64 0)), .dat (.val (.int .i64 0))]⟩), (76, ⟨.struct, 8, 128, [(0, 31), (4, 45), (5, 3), (6, 3), (7, 4)], [.dat (.val (.int .i64 0)), .own 97 [], .own 3 [], .own 3 [], .own 5 [], .dat (.val (.int .i64 0)), .dat (.val (.int .i64 0)), .dat (.val (.bool false))]⟩), (77, ⟨.other, 1, 8, [], [.dat (.val (.pointer none))]⟩), (80, ⟨.other, 1, 8, [], [.dat (.val (.pointer none))]⟩), (82, ⟨.struct, 3, 56, [(0, 3), (1, 29), (2, 23)], [.dat (.val (.int .i64 0)), .own 97 [], .own 3 []]⟩), (84, ⟨.struct, 8, 96, [(0, 82), (3, 3), (4, 3), (5, 4), (6, 4), (7, 9)], [.dat (.val (.int .i64 0)), .own 97 [], .own 3 [], .dat (.val (.int .i64 0)), .dat (.val (.int .i64 0)), .dat (.val (.bool false)), .dat (.val (.bool false)), .dat (.val (.string ByteArray.empty))]⟩), (86, ⟨.struct, 7, 104, [(0, 82), (3, 45), (4, 3), (5, 3), (6, 4)], [.dat (.val (.int .i64 0)), .own 97 [], .own 3 [], .own 5 [], .dat (.val (.int .i64 0)), .dat (.val (.int .i64 0)), .dat (.val (.bool false))]⟩), (87, ⟨.other, 1, 8, [], [.dat (.val (.pointer none))]⟩), (89, ⟨.other, 1, 8, [], [.dat (.val (.pointer none))]⟩), (90, ⟨.int .u64, 1, 8, [], [.dat (.val (.int .u64 0))]⟩), (92, ⟨.struct, 3, 40, [(0, 45), (1, 3), (2, 90)], [.own 5 [], .dat (.val (.int .i64 0)), .dat (.val (.int .u64 0))]⟩), (95, ⟨.other, 1, 8, [], [.dat (.val .nilFunc)]⟩), (97, ⟨.struct, 4, 32, [(0, 4), (1, 3), (2, 3), (3, 3)], [.dat (.val (.bool false)), .dat (.val (.int .i64 0)), .dat (.val (.int .i64 0)), .dat (.val (.int .i64 0))]⟩), (102, ⟨.slice 4, 1, 24, [], [.own 4 []]⟩), (111, ⟨.struct, 4, 32, [(0, 4), (1, 3), (2, 3), (3, 3)], [.dat (.val (.bool false)), .dat (.val (.int .i64 0)), .dat (.val (.int .i64 0)), .dat (.val (.int .i64 0))]⟩), (135, ⟨.map 4 9, 1, 8, [], [.dat (.val (.map none))]⟩), (137, ⟨.int .u64, 1, 8, [], [.dat (.val (.int .u64 0))]⟩), (148, ⟨.slice 9, 1, 24, [], [.own 9 []]⟩), (150, ⟨.other, 1, 16, [], [.dat (.val .nilIface)]⟩), (163, ⟨.int .u32, 1, 4, [], [.dat (.val (.int .u32 0))]⟩), (169, ⟨.other, 1, 8, [], [.dat (.val (.pointer none))]⟩), (184, ⟨.other, 1, 8, [], [.dat (.val (.pointer none))]⟩), (187, ⟨.struct, 1, 16, [(0, 9)], [.dat (.val (.string ByteArray.empty))]⟩)]
def zda {α : Type} : List (Nat × α) → Nat → Option α
 | [], _ => none
 | (a, x) :: l, n => match Nat.beq a n with | true => some x | false => zda l n
def zpF : List (Nat × List (Nat × List Nat)) := [(47, [(1, [0, 6, 7, 8])]), (49, [(3, [7, 13, 14, 15, 16])]), (58, [(8, [1, 4, 8, 9, 10, 49, 50, 51])]), (59, [(3, [1, 2, 3, 13, 14, 15]), (11, [1, 2, 7, 41, 42])]), (62, [(2, [0, 2, 7, 8])]), (68, [(6, [0, 3, 4, 5])]), (71, [(2, [1, 7, 8, 9])]), (83, [(3, [0, 1, 6, 7, 8])]), (89, [(2, [0, 1, 7, 8])]), (93, [(3, [1, 2, 3, 15, 16, 17]), (8, [1, 2, 3, 27, 28, 29]), (16, [1, 2, 3, 9])]), (118, [(4, [0, 1, 2, 8, 9, 10, 11, 23, 24, 25]), (11, [1, 2, 8, 9, 10, 38, 39, 40]), (19, [8, 9, 10, 70, 71, 72])]), (122, [(4, [1, 2, 4, 5, 6, 18, 19, 20]), (12, [1, 2, 4, 5, 9, 36, 37, 38]), (21, [4, 5, 9, 71, 72, 73])]), (123, [(3, [1, 3, 11, 12, 13])]), (135, [(1, [0, 1, 4])]), (136, [(11, [0, 1, 3, 4, 10, 11, 12, 13, 14, 15, 16]), (18, [0, 1, 3, 4, 10, 11, 12, 13, 17])]), (140, [(1, [0, 2, 3])])]
def zqt : List (Nat × List (Nat × List Nat)) := [(47, [(1, [])]), (49, [(3, [7, 13])]), (58, [(8, [1, 4, 8, 9, 10])]), (59, [(3, [1, 2, 3]), (11, [1, 2, 7])]), (62, [(2, [7])]), (68, [(6, [0, 3])]), (71, [(2, [4])]), (83, [(3, [0, 1, 6, 7])]), (89, [(2, [4])]), (93, [(3, [1, 2, 3]), (8, [1, 2, 3]), (16, [1, 2, 3])]), (118, [(4, [0, 1, 2, 8, 9, 10]), (11, [1, 8, 9, 10]), (19, [9, 10])]), (122, [(4, [1, 2, 4, 5, 6]), (12, [2, 4, 5, 9]), (21, [4, 9])]), (123, [(3, [3])]), (135, [(1, [0, 1, 4])]), (136, [(11, [0, 1, 3, 4, 10, 11, 12, 13]), (18, [0, 1, 3, 4, 10, 11, 12, 13])]), (140, [(1, [])])]
def zpL : List (Nat × List Nat) := [(62, [0, 3, 0]), (84, [2, 0, 2]), (109, [2, 0, 0]), (124, [0, 0, 1, 0]), (128, [0, 2]), (130, [2, 0, 0]), (139, [2, 0, 0]), (151, [2, 0, 0]), (1000031, [1]), (1000082, [1])]
def zpz : List (Nat × List (Nat × Plan)) := [(21, [(5, (none, [(0, 0, []), (1, 0, []), (2, 0, []), (3, 1, []), (4, 0, []), (5, 0, []), (6, 0, []), (7, 1, []), (8, 0, []), (9, 0, []), (10, 0, [])]))]), (22, [(4, (none, [(0, 0, []), (1, 0, []), (2, 0, []), (3, 1, []), (5, 0, []), (6, 0, []), (7, 0, []), (8, 1, []), (4, 9, []), (9, 0, []), (10, 0, []), (11, 0, [])]))]), (40, [(6, (none, [(0, 0, []), (1, 0, []), (2, 1, []), (3, 0, []), (4, 0, []), (8, 0, []), (9, 0, []), (10, 1, []), (11, 0, []), (12, 0, []), (5, 4, []), (6, 0, []), (7, 0, []), (13, 2, []), (14, 0, []), (15, 0, []), (16, 0, [])]))]), (44, [(2, (none, [(0, 1, []), (1, 0, []), (2, 1, []), (3, 0, []), (4, 0, []), (8, 1, []), (9, 0, []), (10, 1, []), (11, 0, []), (12, 0, []), (5, 4, []), (6, 0, []), (7, 0, []), (13, 2, []), (14, 0, []), (15, 0, []), (16, 0, [])]))]), (60, [(1, (some [1], [(0, 1, []), (1, 0, []), (2, 1, []), (3, 0, []), (4, 1, []), (5, 4, []), (6, 2, []), (7, 2, [])]))]), (62, [(1, (none, [(0, 0, [15, 13]), (1, 0, [15, 13]), (3, 0, [15, 13]), (4, 7, [15, 13]), (2, 8, []), (5, 2, []), (6, 2, [])]))]), (76, [(6, (none, [(0, 0, []), (1, 0, []), (2, 0, []), (3, 0, []), (4, 1, []), (5, 0, []), (6, 0, []), (7, 0, []), (8, 0, []), (9, 1, []), (10, 0, []), (11, 1, []), (12, 0, []), (13, 1, []), (14, 0, []), (15, 1, []), (16, 2, [])])), (16, (none, [(0, 0, []), (1, 0, []), (2, 0, []), (3, 0, []), (4, 0, []), (5, 1, []), (6, 0, []), (7, 1, []), (8, 4, []), (9, 2, []), (10, 0, []), (11, 0, []), (12, 0, []), (13, 2, [])])), (17, (none, [(0, 0, []), (1, 0, []), (2, 0, []), (3, 0, []), (4, 0, []), (5, 1, []), (6, 0, []), (7, 1, []), (8, 4, []), (9, 2, []), (10, 0, []), (11, 0, []), (12, 0, []), (13, 2, [])])), (20, (some [0, 3], [(0, 0, []), (2, 0, []), (3, 0, []), (4, 0, []), (5, 0, []), (6, 1, []), (7, 0, []), (8, 1, []), (9, 0, []), (11, 0, []), (12, 0, []), (13, 0, []), (14, 0, []), (15, 1, []), (16, 0, []), (17, 1, []), (18, 0, []), (19, 0, []), (1, 6, []), (10, 5, []), (20, 2, []), (21, 0, []), (22, 0, []), (23, 0, []), (24, 2, [])])), (23, (none, [(0, 0, []), (1, 0, []), (2, 0, []), (3, 1, []), (4, 0, []), (5, 0, []), (6, 0, []), (7, 0, []), (8, 1, []), (9, 0, []), (10, 0, []), (11, 0, []), (12, 0, []), (13, 1, []), (14, 0, []), (15, 1, []), (16, 0, []), (17, 1, []), (18, 4, []), (19, 0, []), (20, 0, []), (21, 0, []), (22, 0, []), (23, 2, [])])), (27, (none, [(0, 0, []), (1, 0, []), (2, 0, []), (3, 0, []), (4, 1, []), (5, 0, []), (6, 0, []), (7, 0, []), (8, 0, []), (9, 1, []), (10, 0, []), (11, 1, []), (12, 0, []), (13, 1, []), (14, 0, []), (15, 1, []), (16, 0, []), (17, 0, []), (18, 0, []), (19, 0, []), (20, 0, []), (21, 1, []), (22, 0, []), (23, 1, []), (24, 0, []), (25, 1, []), (26, 2, []), (27, 0, []), (28, 0, []), (29, 2, [])])), (29, (none, [(0, 0, []), (1, 0, []), (2, 0, []), (3, 0, []), (4, 0, []), (5, 0, []), (6, 0, []), (7, 0, []), (8, 0, []), (9, 1, []), (10, 0, []), (11, 1, []), (12, 0, []), (13, 1, []), (14, 0, []), (15, 0, []), (16, 0, []), (17, 0, []), (18, 1, []), (19, 0, []), (20, 1, []), (21, 0, []), (22, 1, []), (23, 0, []), (24, 0, [])]))]), (80, [(2, (none, [(0, 0, []), (1, 0, []), (2, 0, []), (3, 1, []), (4, 0, []), (5, 0, []), (6, 0, []), (7, 1, []), (8, 0, []), (9, 0, [])])), (3, (none, [(0, 0, []), (1, 0, []), (2, 0, []), (3, 1, []), (4, 0, []), (5, 0, []), (6, 0, []), (7, 1, []), (8, 0, []), (9, 1, []), (10, 0, []), (11, 0, [])])), (6, (none, [(0, 0, []), (1, 0, []), (2, 0, []), (3, 1, []), (4, 0, []), (5, 0, []), (6, 0, []), (7, 1, []), (8, 0, []), (9, 0, [])]))]), (84, [(11, (none, [(0, 0, []), (1, 0, []), (2, 0, []), (3, 0, []), (4, 0, []), (5, 0, []), (6, 0, []), (7, 0, []), (8, 2, [])])), (15, (none, [(0, 0, []), (1, 0, []), (2, 0, []), (3, 0, []), (4, 0, []), (5, 0, []), (6, 0, []), (7, 0, []), (8, 2, [])]))]), (91, [(5, (none, [(0, 0, []), (1, 0, []), (2, 0, []), (3, 0, []), (4, 1, []), (5, 0, []), (6, 1, []), (7, 0, []), (8, 1, []), (9, 0, []), (10, 0, []), (11, 0, []), (12, 0, []), (13, 1, []), (14, 0, []), (15, 1, []), (16, 0, []), (17, 1, []), (18, 0, []), (19, 2, [])])), (6, (none, [(0, 0, []), (1, 0, []), (2, 0, []), (3, 0, []), (4, 0, []), (5, 1, []), (6, 1, []), (7, 4, []), (8, 2, []), (9, 0, []), (10, 0, []), (11, 0, []), (12, 2, [])])), (7, (none, [(0, 0, []), (1, 0, []), (2, 0, []), (3, 0, []), (4, 0, []), (5, 1, []), (6, 0, []), (7, 0, []), (8, 0, []), (9, 0, []), (10, 1, []), (11, 0, []), (12, 0, []), (13, 4, []), (14, 2, []), (15, 0, []), (16, 0, []), (17, 0, []), (18, 2, [])]))]), (92, [(1, (none, [(0, 1, []), (1, 1, []), (2, 4, []), (3, 2, []), (4, 2, [])]))]), (94, [(5, (none, [(0, 0, []), (1, 0, []), (2, 0, []), (3, 0, []), (4, 1, []), (5, 0, []), (6, 0, []), (7, 0, []), (8, 0, []), (9, 0, []), (10, 1, []), (11, 0, []), (12, 0, []), (13, 0, []), (14, 0, []), (15, 1, []), (16, 0, [])])), (7, (none, [(0, 0, []), (1, 0, []), (2, 0, []), (3, 0, []), (4, 1, []), (5, 0, []), (6, 0, []), (7, 0, []), (8, 0, []), (9, 1, []), (10, 0, [])])), (9, (none, [(0, 0, []), (1, 0, []), (2, 0, []), (3, 0, []), (4, 0, []), (5, 1, []), (6, 0, []), (7, 0, []), (8, 0, []), (9, 0, []), (10, 1, []), (11, 0, []), (12, 0, []), (13, 0, []), (14, 2, [])]))]), (95, [(1, (none, [(0, 0, []), (1, 0, []), (2, 0, []), (3, 0, []), (4, 0, []), (5, 1, []), (6, 0, []), (7, 0, []), (8, 0, []), (9, 0, []), (10, 1, []), (11, 0, []), (12, 4, []), (13, 2, []), (14, 0, []), (15, 0, []), (16, 0, []), (17, 2, [])])), (2, (none, [(0, 0, []), (1, 0, []), (2, 0, []), (3, 0, []), (4, 0, []), (5, 1, []), (6, 1, []), (7, 4, []), (8, 2, []), (9, 0, []), (10, 0, []), (11, 0, []), (12, 2, [])]))]), (97, [(6, (none, [(0, 0, []), (1, 0, []), (2, 0, []), (3, 0, []), (4, 0, []), (5, 1, []), (7, 0, []), (8, 1, []), (9, 0, []), (10, 1, []), (11, 0, []), (6, 4, []), (12, 2, []), (13, 0, []), (14, 0, []), (15, 0, []), (16, 2, [])]))]), (98, [(4, (none, [(0, 0, []), (1, 0, []), (2, 0, []), (3, 0, []), (4, 0, []), (5, 1, []), (6, 0, []), (7, 1, []), (8, 0, []), (9, 1, []), (10, 0, []), (11, 0, []), (12, 0, []), (13, 0, []), (14, 1, []), (15, 0, []), (16, 1, []), (17, 0, []), (18, 1, []), (19, 0, []), (20, 2, [])])), (8, (none, [(0, 0, []), (1, 0, []), (2, 0, []), (3, 0, []), (4, 0, []), (5, 1, []), (6, 0, []), (7, 0, []), (8, 2, [])]))]), (109, [(5, (none, [(0, 0, []), (1, 0, []), (2, 0, []), (3, 0, []), (4, 0, []), (5, 0, []), (6, 2, []), (7, 2, [])]))]), (118, [(15, (none, [(0, 0, [62]), (1, 0, [62]), (2, 1, [62]), (3, 0, [62]), (4, 1, [62]), (5, 0, [62]), (6, 0, [62]), (7, 1, [62]), (8, 0, [62]), (10, 0, [62]), (9, 10, [62]), (11, 11, []), (12, 0, []), (13, 2, [])]))]), (121, [(1, (none, [(0, 0, []), (1, 0, []), (2, 0, []), (3, 0, []), (4, 1, []), (5, 0, []), (6, 0, []), (7, 0, []), (8, 0, []), (9, 0, []), (10, 1, []), (11, 0, []), (12, 0, []), (13, 0, []), (14, 0, []), (15, 1, []), (16, 0, [])])), (3, (none, [(0, 0, []), (1, 0, []), (2, 0, []), (3, 0, []), (4, 1, []), (5, 0, []), (6, 0, []), (7, 0, []), (8, 0, []), (9, 1, []), (10, 0, [])])), (5, (none, [(0, 0, []), (1, 0, []), (2, 0, []), (3, 0, []), (4, 0, []), (5, 1, []), (6, 0, []), (7, 0, []), (8, 0, []), (9, 0, []), (10, 1, []), (11, 0, []), (12, 0, []), (13, 0, []), (14, 2, [])]))]), (122, [(23, (none, [(0, 0, []), (1, 1, []), (2, 0, []), (3, 0, []), (4, 0, []), (5, 1, []), (6, 4, []), (7, 2, []), (8, 0, []), (9, 2, [])]))]), (125, [(4, (none, [(0, 0, []), (1, 0, []), (2, 0, []), (3, 0, []), (4, 0, []), (5, 1, []), (6, 0, []), (7, 1, []), (8, 4, []), (9, 2, []), (10, 0, []), (11, 0, []), (12, 0, []), (13, 2, [])]))]), (135, [(7, (none, [(0, 0, []), (1, 0, []), (2, 0, []), (3, 0, []), (4, 0, []), (5, 0, []), (6, 0, []), (7, 0, []), (8, 0, []), (9, 0, []), (10, 0, []), (11, 0, []), (12, 2, []), (13, 0, []), (14, 2, [])])), (8, (none, [(0, 0, []), (1, 0, []), (2, 0, []), (3, 0, []), (4, 0, []), (5, 0, []), (6, 0, []), (7, 0, []), (8, 0, []), (9, 0, []), (10, 0, []), (11, 0, []), (12, 2, []), (13, 0, []), (14, 2, [])])), (9, (none, [(0, 0, []), (1, 0, []), (2, 0, []), (3, 0, []), (4, 0, []), (5, 0, []), (6, 0, []), (7, 0, []), (8, 0, []), (9, 0, []), (10, 0, []), (11, 0, []), (12, 2, []), (13, 0, []), (14, 2, [])])), (10, (none, [(0, 0, []), (1, 0, []), (2, 0, []), (3, 0, []), (4, 0, []), (5, 0, []), (6, 0, []), (7, 0, []), (8, 0, []), (9, 0, []), (10, 0, []), (11, 0, []), (12, 2, []), (13, 0, []), (14, 2, [])])), (17, (none, [(0, 0, []), (1, 0, []), (2, 0, []), (3, 0, []), (4, 0, []), (5, 0, []), (6, 0, []), (7, 0, []), (8, 0, []), (9, 0, []), (10, 0, []), (11, 0, []), (12, 2, []), (13, 0, []), (14, 2, [])])), (18, (none, [(0, 0, []), (1, 0, []), (2, 0, []), (3, 0, []), (4, 0, []), (5, 0, []), (6, 0, []), (7, 0, []), (8, 0, []), (9, 0, []), (10, 0, []), (11, 0, []), (12, 2, []), (13, 0, []), (14, 2, [])])), (23, (none, [(0, 0, []), (1, 0, []), (2, 0, []), (3, 0, []), (4, 0, []), (5, 0, []), (6, 0, []), (7, 0, []), (8, 0, []), (9, 0, []), (10, 0, []), (11, 0, []), (12, 2, []), (13, 0, []), (14, 2, [])]))]), (140, [(3, (none, [(0, 0, []), (1, 0, []), (2, 0, []), (3, 0, []), (4, 0, []), (5, 0, []), (6, 0, []), (7, 1, []), (8, 0, []), (9, 0, []), (10, 0, []), (11, 1, []), (12, 0, []), (13, 2, []), (14, 0, []), (15, 2, [])]))])]
def cfgN : Nat := 188
def skips : List Nat := [0, 1, 2, 74, 81, 82, 84, 90, 109, 114, 115, 116, 117, 120, 129, 131, 132, 133, 134, 135, 136, 137, 138, 140, 141, 142, 143, 144, 145, 146, 147, 148, 149, 150, 151, 152, 153, 154, 155, 156, 157, 158, 159, 160, 161, 162, 163, 164, 165, 166, 167, 168, 169, 170, 171, 172, 173, 175, 176, 177, 178, 179, 180, 181, 182, 183, 184, 185, 186, 187]
def extsOf : List (Nat × (List D → List (List D) → List (Option Row) → Option (List D × List (List D) × List (Option Row)))) := [(72, zeo Go.Proofs.YtcmcfebihbmmeaaDoor.numV), (74, zeo Go.Proofs.YtcmcfebihbmmeaaDoor.numV), (81, zc7 97 4), (82, zc7 3 1), (83, znq), (84, zib 3), (109, zhM 3)]
def zmV : List Nat := [72, 74, 81, 82, 83, 84, 109]
def zhp : List Nat := []
noncomputable def cfg : Cfg where
 ty := zda tys
 fn := fun f => match Nat.blt f cfgN && !memN f skips && (!memN f zmV || memN f zhp) with | true => Go.Proofs.Tryd.prog.funcs[f]? | false => none
 mode := fun f => (zda zpL f).getD []
 live := fun f r => ((zda zpF f).bind fun l => zda l r).getD []
 out := fun f r => ((zda zqt f).bind fun l => zda l r).getD []
 plan := fun f r => (zda zpz f).bind fun l => zda l r
 liv := fun f => memN f [56, 58, 59, 60, 86, 92, 93, 101, 102, 112, 113, 122, 127]
 ext := zda extsOf
end Go.Den
namespace Go.Den
open Go
set_option linter.unusedVariables false
theorem zfI {α : Type} {n : Nat} {x : α} : ∀ {l : List (Nat × α)}, zda l n = some x → (n, x) ∈ l
 | [], h => by cases h
 | (a, y) :: l, h => by
   unfold zda at h
   split at h
   · rename_i hb
     cases h
     rw [beq_eq.1 hb]
     exact List.mem_cons_self
   · exact List.mem_cons_of_mem _ (zfI h)
noncomputable def zpq : Bool := tys.all fun p => tyIs Go.Proofs.Tryd.prog (zda tys) p.1 p.2
theorem zoq : zpq = true := by kernel_rfl
theorem zkl : TyOk Go.Proofs.Tryd.prog cfg.ty := fun t i h => (List.all_eq_true.1 zoq) (t, i) (zfI h)
def fnGood (C : Cfg) (f : Nat) : Bool :=
 match C.fn f with
 | some fn => !(fn.name == "runtime.NumGoroutine") && (match fn.body with | some c => zbr fn.ntmps c && zbE C.ty fn.ntmps (C.plan f) c | none => true)
 | none => true
noncomputable def fnsGood : Bool := (List.range cfgN).all (fnGood cfg)
theorem fns_good : fnsGood = true := by kernel_rfl
theorem zi5 : Go.Proofs.Tryd.prog.follows .mixedOrders = true := by kernel_rfl
theorem zoT {B : Nat → Option Obj} {f : Nat} {fn : Func} (h : cfg.fn f = some fn) : FnOK Go.Proofs.Tryd.prog B cfg f fn := by
 have hlt : f < cfgN ∧ Go.Proofs.Tryd.prog.funcs[f]? = some fn := by
  unfold cfg at h
  simp only at h
  split at h
  · rename_i hb
    simp only [Bool.and_eq_true] at hb
    have : f + 1 ≤ cfgN := by simpa [Nat.blt] using hb.1.1
    exact ⟨by omega, h⟩
  · cases h
 have hg := (List.all_eq_true.1 fns_good) f (List.mem_range.2 hlt.1)
 unfold fnGood at hg
 rw [h] at hg
 simp only [Bool.and_eq_true, Bool.not_eq_true'] at hg
 refine ⟨hlt.2, hg.1, fun c hc => ?_, fun c hc call _ => ?_⟩
 · have := hg.2
   rw [hc] at this
   simp only [Bool.and_eq_true] at this
   exact this.1
 · have := hg.2
   rw [hc] at this
   simp only [Bool.and_eq_true] at this
   exact zbh (E := ⟨cfg.ty, cfg.mode, fn.ntmps, cfg.live f, cfg.out f, cfg.plan f, call⟩) zi5 c this.1 this.2
theorem cfg_e {B : Nat → Option Obj} (hB : Go.Proofs.YtcmcfebihbmmeaaDoor.TabAt B) {f : Nat} {g : List D → List (List D) → List (Option Row) → Option (List D × List (List D) × List (Option Row))} (h : cfg.ext f = some g) : ExtOK Go.Proofs.Tryd.prog cfg.ty B f g := by
 have hm := zfI (show zda extsOf f = some g from h)
 simp only [extsOf, List.mem_cons, Prod.mk.injEq, List.not_mem_nil, or_false] at hm
 rcases hm with ⟨rfl, rfl⟩ | ⟨rfl, rfl⟩ | ⟨rfl, rfl⟩ | ⟨rfl, rfl⟩ | ⟨rfl, rfl⟩ | ⟨rfl, rfl⟩ | ⟨rfl, rfl⟩
 · exact zlQ (fn := Go.Proofs.Tryd.f72) (by kernel_rfl) (by kernel_rfl) (by kernel_rfl) Go.Proofs.YtcmcfebihbmmeaaDoor.l1_calls
 · exact zlA (fn := Go.Proofs.Tryd.f74) (by kernel_rfl) (by kernel_rfl) (by kernel_rfl) (Go.Proofs.YtcmcfebihbmmeaaDoor.itoa_calls hB)
 · exact zkP (fn := Go.Proofs.Tryd.f81) (i := ⟨.struct, 4, 32, [(0, 4), (1, 3), (2, 3), (3, 3)], [.dat (.val (.bool false)), .dat (.val (.int .i64 0)), .dat (.val (.int .i64 0)), .dat (.val (.int .i64 0))]⟩) zkl Go.Proofs.Tryd.laysSlE041_f81 (by kernel_rfl) (by decide) (by decide) (by kernel_rfl) (by kernel_rfl) (by kernel_rfl)
 · exact zkP (fn := Go.Proofs.Tryd.f82) (i := ⟨.int .i64, 1, 8, [], [.dat (.val (.int .i64 0))]⟩) zkl Go.Proofs.Tryd.laysSlE041_f82 (by kernel_rfl) (by decide) (by decide) (by kernel_rfl) (by kernel_rfl) (by kernel_rfl)
 · exact bs_ok (fn := Go.Proofs.Tryd.f83) (by kernel_rfl) (by kernel_rfl) (by kernel_rfl) (fun b off n c zs x w h1 h2 h3 h4 => Go.Proofs.Tryd.slices_BinarySearch_int b off n c zs x w h1 h2 h3 h4) (fun a c x w => Go.Proofs.Tryd.slices_BinarySearch_int_empty a c x w)
 · exact zqc (fn := Go.Proofs.Tryd.f84) Go.Proofs.Tryd.laysNm221 (by kernel_rfl) (by kernel_rfl) (by kernel_rfl) (by kernel_rfl)
 · exact zqk (fn := Go.Proofs.Tryd.f109) (by kernel_rfl) (by kernel_rfl) (by kernel_rfl) (by kernel_rfl) (fun blk off cap i j zs w h1 h2 h3 h4 h5 => Go.Proofs.Tryd.slices_Delete_int blk off cap i j zs w h1 h2 h3 h4 h5) (fun a c w => Go.Proofs.Tryd.slices_Delete_int_empty a c w)
theorem zpW {B : Nat → Option Obj} (hB : Go.Proofs.YtcmcfebihbmmeaaDoor.TabAt B) : CfgOK Go.Proofs.Tryd.prog B cfg := zoA zkl (fun f fn h => zoT h) (fun f g h => cfg_e hB h)
structure Says (P : Program) (B : Nat → Option Obj) (C : Cfg) : Prop where mk ::
 out : ∀ k, zcz P C.ty B (den C k)
theorem zpO {P : Program} {B : Nat → Option Obj} {C : Cfg} (h : CfgOK P B C) : Says P B C := ⟨zdT h⟩
theorem zoB {B : Nat → Option Obj} (hB : Go.Proofs.YtcmcfebihbmmeaaDoor.TabAt B) : Says Go.Proofs.Tryd.prog B cfg := zpO (zpW hB)
end Go.Den
namespace Go.Den
open Go Go.RowKit Go.ChangeShapes Go.WideShapes Go.Deep
set_option linter.unusedVariables false
inductive WT (ty : Nat → Option TI) : Nat → Dat → Prop where
 | int {t : Nat} {i : TI} {k : IntKind} {n : Int} (ht : ty t = some i) (hk : i.kind = .int k) (h : (Lit.int k n).wf = true) : WT ty t (.val (.int k n))
 | bool {t : Nat} {i : TI} {b : Bool} (ht : ty t = some i) (hk : i.kind = .bool) : WT ty t (.val (.bool b))
 | str {t : Nat} {i : TI} {s : ByteArray} (ht : ty t = some i) (hk : i.kind = .str) (h : s.size ≤ maxLen) : WT ty t (.val (.string s))
 | lst {t : Nat} {i : TI} {e : Nat} {es : List Dat} (ht : ty t = some i) (hk : i.kind = .slice e) (hl : es.length ≤ maxLen) (h : ∀ d ∈ es, WT ty e d) : WT ty t (.lst false es)
 | agg {t : Nat} {i : TI} {cs : List Dat} (ht : ty t = some i) (hk : i.kind = .struct) (hl : cs.length = i.fs.length) (h : ∀ (j : Nat) (f : Nat × Nat) (d : Dat), i.fs[j]? = some f → cs[j]? = some d → WT ty f.2 d) : WT ty t (.agg cs)
def zdk (ty : Nat → Option TI) : Nat → Nat → Bool
 | 0, _ => false
 | n + 1, t => match ty t with
   | none => false
   | some i => match i.kind with
     | .int _ => true
     | .bool => true
     | .str => true
     | .slice e => zdk ty n e && (match ty e with | some j => Nat.blt 0 j.sz | none => false)
     | .struct => Nat.beq i.sz i.fs.length && (List.range i.fs.length).all fun j => match i.fs[j]? with
       | some f => Nat.beq f.1 j && (zdk ty n f.2 && (match ty f.2 with | some k => Nat.beq k.sz 1 && !k.agg | none => false))
       | none => false
     | .map _ _ => false
     | .other => false
theorem zek {P : Program} {ty : Nat → Option TI} {t : Nat} {i : TI} {inf : TypeInfo} {d : TypeDesc} {z : Value} (h : TyFacts P ty t i inf d z) : P.cellsOf t = i.sz := by
 unfold Program.cellsOf
 rw [h.info]
 simpa using h.size
theorem zm3 {w : World} {a : Addr} {v : Value} (h : w.cell? a = some v) : a.spot = none := by
 unfold World.cell? at h
 split at h
 · split at h
   · cases h
   · rename_i hs
     simpa using hs
 · cases h
theorem zoc {a : Addr} (h : a.spot = none) : a = ⟨a.block, a.off, none⟩ := by cases a; simp at h; subst h; rfl
theorem zlO {P : Program} {ty : Nat → Option TI} (hty : TyOk P ty) : ∀ (n t : Nat), zdk ty n t = true → ∀ {H : Type} (enc : TypeId × Value → H) (w : World) (base : Nat) (spare : Nat → Bool) (held : Bool) (fuel : Nat) (cs : List Value) (x : DataW H × List MemPlace),
 DataW.trod enc P w base spare held fuel t cs = some x → ∃ d, Rep (fun _ => .set) w d cs ∧ WT ty t d
 | 0, t, hp => by cases hp
 | n + 1, t, hp => by
   intro enc w base spare held fuel cs x h
   unfold zdk at hp
   split at hp
   · cases hp
   · rename_i i hi
     obtain ⟨inf, de, z, hf⟩ := hty.facts hi
     have hkk := hf.kind
     split at hp
     · rename_i k hk
       have hu : P.underlying t = some (.int k) := by
        rw [hf.und]
        cases de <;> simp [zaK, hk] at hkk ⊢
        exact hkk
       obtain ⟨m, rfl, _, hw⟩ := DataW.trod_int hu h
       exact ⟨.val (.int k m), .val rfl, .int hi hk hw⟩
     · rename_i hk
       have hu : P.underlying t = some .bool := by
        rw [hf.und]
        cases de <;> simp [zaK, hk] at hkk ⊢
       obtain ⟨m, rfl, _⟩ := DataW.trod_bool hu h
       exact ⟨.val (.bool m), .val rfl, .bool hi hk⟩
     · rename_i hk
       have hu : P.underlying t = some .string := by
        rw [hf.und]
        cases de <;> simp [zaK, hk] at hkk ⊢
       obtain ⟨m, rfl, _, hs⟩ := DataW.trod_string hu h
       exact ⟨.val (.string m), .val rfl, .str hi hk hs⟩
     · rename_i e hk
       simp only [Bool.and_eq_true] at hp
       obtain ⟨hp1, hp2⟩ := hp
       have hu : P.underlying t = some (.slice e) := by
        rw [hf.und]
        cases de <;> simp [zaK, hk] at hkk ⊢
        exact hkk.1
       cases hj : ty e with
       | none => rw [hj] at hp2; cases hp2
       | some j =>
       rw [hj] at hp2
       have hsz : 0 < j.sz := by
        have : 0 + 1 ≤ j.sz := by simpa [Nat.blt] using hp2
        omega
       obtain ⟨_, _, _, hfe⟩ := hty.facts hj
       have hce := zek hfe
       rcases open_slice hu h with ⟨rfl, _⟩ | ⟨a, len, cap, m, n', D, Pl, rfl, _, hl, hm, hmm, _, hx⟩
       · exact ⟨.lst false [], .nil, .lst hi hk (Nat.zero_le _) (fun d hd => by cases hd)⟩
       · have hlm : len ≤ m := by rw [hmm]; split <;> omega
         have hex : ∀ k, k < len → ∃ p : Dat × List Value, Rep (fun _ => .set) w p.1 p.2 ∧ WT ty e p.1 ∧ p.2.length = j.sz ∧ ∀ i u, p.2[i]? = some u → w.cell? (a.add (k * j.sz + i)) = some u := by
          intro k hlt
          obtain ⟨cs', hc, ht'⟩ := hx k (by omega)
          obtain ⟨d, hr, hw⟩ := zlO hty n e hp1 enc w base spare held n' cs' _ ht'
          obtain ⟨_, hcl, hat⟩ := World.cells?_some hc
          rw [hce] at hcl hat
          refine ⟨(d, cs'), hr, hw, hcl, fun i u hu => ?_⟩
          have hi2 : i < j.sz := by rw [← hcl]; exact (List.getElem?_eq_some_iff.1 hu).1
          have := hat i hi2
          rw [Go.Deep.add_add] at this
          rw [this, hu]
         cases len with
         | zero => exact ⟨.lst false [], .nil, .lst hi hk (Nat.zero_le _) (fun d hd => by cases hd)⟩
         | succ len =>
           obtain ⟨p0, q1, q2, q3, q4⟩ := hex 0 (by omega)
           haveI : Inhabited (Dat × List Value) := ⟨p0⟩
           obtain ⟨f, hfx⟩ := choose_lt hex
           have hpos : 0 < p0.2.length := by omega
           have h0 := q4 0 _ (List.getElem?_eq_getElem hpos)
           have hspot : a.spot = none := by
            have := zm3 h0
            simpa [Addr.add] using this
           have hal := zoc hspot
           have hlt := World.block_lt_of_cell? w _ h0
           have hblk : a.block < w.heap.size := by simpa [Addr.add] using hlt
           refine ⟨.lst false ((List.range (len + 1)).map fun k => (f k).1), ?_, .lst hi hk (by simp; omega) ?_⟩
           · have hlen : ((List.range (len + 1)).map fun k => (f k).1).length = len + 1 := by simp
             have hat : ∀ (k : Nat) (d : Dat), ((List.range (len + 1)).map fun k => (f k).1)[k]? = some d → k < len + 1 ∧ d = (f k).1 := fun k d hd => by
              have hk2 : k < len + 1 := by
               have := (List.getElem?_eq_some_iff.1 hd).1
               simpa using this
              rw [List.getElem?_map, List.getElem?_range hk2] at hd
              exact ⟨hk2, by simpa using hd.symm⟩
             have hres := Rep.lst (ρ := fun _ => Role.set) (W := w) (b := false) (es := (List.range (len + 1)).map fun k => (f k).1) (g := a.block) (o := a.off) (c := cap) (sz := j.sz) (fun k => (f k).2) (by rw [hlen]; exact hl) hm (.inl rfl) hblk
              (fun k d hd => (hfx k (hat k d hd).1).2.2.1) (fun k d hd i u hu => by
               have := (hfx k (hat k d hd).1).2.2.2 i u hu
               rw [hal, Addr.add_lit, ← Nat.add_assoc] at this
               exact this) (fun k d hd => by
               obtain ⟨h1, rfl⟩ := hat k d hd
               exact (hfx k h1).1)
             rw [hlen] at hres
             rw [hal]
             exact hres
           · intro d hd
             obtain ⟨k, hk1, rfl⟩ := List.mem_map.1 hd
             exact (hfx k (by simpa using hk1)).2.1
     · rename_i hk
       have ha : i.agg = true := by unfold TI.agg; rw [hk]
       simp only [Bool.and_eq_true] at hp
       obtain ⟨hsz, hall⟩ := hp
       have hsz := Nat.eq_of_beq_eq_true hsz
       obtain ⟨fs, h1, h2, h3⟩ := hf.struct ha
       obtain ⟨xs, n', _, _, hl, hlen, hg⟩ := DataW.trod_struct h1 h
       rw [zek hf, hsz] at hl
       have hone : ∀ (j : Nat) (f : Nat × Nat), i.fs[j]? = some f → f.1 = j ∧ zdk ty n f.2 = true ∧ ∃ k, ty f.2 = some k ∧ k.sz = 1 ∧ k.agg = false := fun j f hj => by
        have hjl := (List.getElem?_eq_some_iff.1 hj).1
        have := (List.all_eq_true.1 hall) j (List.mem_range.2 hjl)
        rw [hj] at this
        simp only [Bool.and_eq_true] at this
        obtain ⟨a1, a2, a3⟩ := this
        refine ⟨Nat.eq_of_beq_eq_true a1, a2, ?_⟩
        cases hk2 : ty f.2 with
        | none => rw [hk2] at a3; cases a3
        | some k =>
          rw [hk2] at a3
          simp only [Bool.and_eq_true, Bool.not_eq_true'] at a3
          exact ⟨k, rfl, Nat.eq_of_beq_eq_true a3.1, a3.2⟩
       have hex : ∀ k, k < cs.length → ∃ d : Dat, ∃ v f, cs[k]? = some v ∧ i.fs[k]? = some f ∧ d.cells = [d] ∧ Rep (fun _ => .set) w d [v] ∧ WT ty f.2 d := by
        intro k hkl
        obtain ⟨ff, hfk⟩ : ∃ ff, i.fs[k]? = some ff := ⟨_, List.getElem?_eq_getElem (show k < i.fs.length by omega)⟩
        have hck := List.getElem?_eq_getElem hkl
        obtain ⟨o1, o2, kk, o3, o4, o5⟩ := hone k _ hfk
        obtain ⟨_, _, _, hfk2⟩ := hty.facts o3
        have hfl : ∃ fl, fs[k]? = some fl ∧ fl.offset = k ∧ fl.type = ff.2 := by
         have h4 := hfk
         rw [← h2, List.getElem?_map] at h4
         simp only [Option.map_eq_some_iff] at h4
         obtain ⟨fl, h5, h6⟩ := h4
         refine ⟨fl, by simpa using h5, ?_, ?_⟩
         · rw [← o1, ← h6]
         · rw [← h6]
        obtain ⟨fl, h5, h6, h7⟩ := hfl
        have h8 := hg k fl h5
        have hxk : ∃ y, xs[k]? = some y := ⟨_, List.getElem?_eq_getElem (by have := (Array.getElem?_eq_some_iff.1 h5).1; omega)⟩
        obtain ⟨y, hy⟩ := hxk
        rw [hy, h6, h7, zek hfk2, o4] at h8
        have h9 : (cs.drop k).take 1 = [cs[k]] := by
         rw [List.drop_eq_getElem_cons hkl]; rfl
        rw [h9] at h8
        obtain ⟨d, hr, hw⟩ := zlO hty n _ o2 enc w base spare held n' _ _ h8
        refine ⟨d, cs[k], _, hck, hfk, ?_, hr, hw⟩
        cases hw with
        | agg ht' hk' _ _ =>
          rw [o3] at ht'
          cases ht'
          unfold TI.agg at o5
          rw [hk'] at o5
          cases o5
        | _ => rfl
       haveI : Inhabited Dat := ⟨.val (.bool false)⟩
       obtain ⟨f, hfx⟩ := choose_lt hex
       have hat : ∀ (k : Nat) (d : Dat), ((List.range cs.length).map f)[k]? = some d → k < cs.length ∧ d = f k := fun k d hd => by
        have hk2 : k < cs.length := by
         have := (List.getElem?_eq_some_iff.1 hd).1
         simpa using this
        rw [List.getElem?_map, List.getElem?_range hk2] at hd
        exact ⟨hk2, by simpa using hd.symm⟩
       refine ⟨.agg ((List.range cs.length).map f), .agg (by simp) (fun k d v hd hv => ?_) (fun k d v hd hv => ?_), .agg hi hk (by simp; omega) (fun k ff d hff hd => ?_)⟩
       · obtain ⟨h4, rfl⟩ := hat k d hd
         obtain ⟨v', f', e1, e2, e3, e4, e5⟩ := hfx k h4
         exact e3
       · obtain ⟨h4, rfl⟩ := hat k d hd
         obtain ⟨v', f', e1, e2, e3, e4, e5⟩ := hfx k h4
         rw [hv] at e1
         cases e1
         exact e4
       · obtain ⟨h4, rfl⟩ := hat k d hd
         obtain ⟨v', f', e1, e2, e3, e4, e5⟩ := hfx k h4
         rw [hff] at e2
         cases e2
         exact e5
     · cases hp
     · cases hp
end Go.Den
namespace Go.Den
open Go Go.RowKit Go.ChangeShapes Go.WideShapes
open Go.ChangeMaps (open_string shut_string)
set_option linter.unusedVariables false
variable {B : Nat → Option Obj}
theorem zpM {P : Program} {ty : Nat → Option TI} (hty : TyOk P ty) {n t : Nat} (hp : zdk ty n t = true) {H : Type} {enc : TypeId × Value → H} {w : World} {base b0 : Nat} {spare : Nat → Bool} {held : Bool} {r : Reach} {v : Value} {y : DataW H} {p : List MemPlace}
 (hv : Value.okWide P w r b0 t v) (h : DataW.Trod enc P w base spare held t v y p) : ∃ d cv, Rep (fun _ => .set) w d cv ∧ IsV d cv v ∧ WT ty t d := by
 obtain ⟨fuel, hf⟩ := id h
 obtain ⟨d, hr, hw⟩ := zlO hty n t hp enc w base spare held fuel _ _ hf
 refine ⟨d, v.cells.toList, hr, ?_, hw⟩
 cases hw with
 | int ht hk _ =>
   rename_i i k m _
   obtain ⟨_, de, _, hfa⟩ := hty.facts ht
   have hkk := hfa.kind
   have hu : P.underlying t = some (.int k) := by
    rw [hfa.und]
    cases de <;> simp [zaK, hk] at hkk ⊢
    exact hkk
   obtain ⟨a, rfl, _⟩ := open_int hu hv h
   rfl
 | bool ht hk =>
   obtain ⟨_, de, _, hfa⟩ := hty.facts ht
   have hkk := hfa.kind
   have hu : P.underlying t = some .bool := by
    rw [hfa.und]
    cases de <;> simp [zaK, hk] at hkk ⊢
   obtain ⟨a, rfl, _⟩ := open_bool hu hv h
   rfl
 | str ht hk _ =>
   obtain ⟨_, de, _, hfa⟩ := hty.facts ht
   have hkk := hfa.kind
   have hu : P.underlying t = some .string := by
    rw [hfa.und]
    cases de <;> simp [zaK, hk] at hkk ⊢
   obtain ⟨a, rfl, _⟩ := open_string hu hv h
   rfl
 | lst ht hk _ _ =>
   rename_i i e es _ _
   obtain ⟨_, de, _, hfa⟩ := hty.facts ht
   have hkk := hfa.kind
   have hu : P.underlying t = some (.slice e) := by
    rw [hfa.und]
    cases de <;> simp [zaK, hk] at hkk ⊢
    exact hkk.1
   obtain ⟨a, len, cap, rfl⟩ := okWide_slice hu hv
   rfl
 | agg ht hk _ _ =>
   rename_i i cs _ _
   obtain ⟨_, _, _, hfa⟩ := hty.facts ht
   have ha : i.agg = true := by unfold TI.agg; rw [hk]
   obtain ⟨fs, h1, _, _⟩ := hfa.struct ha
   obtain ⟨xs, rfl, _⟩ := okWide_struct h1 hv
   show Value.agg xs = .agg (Value.cells (.agg xs)).toList.toArray
   simp [Value.cells]
theorem zl9 {P : Program} {C : Cfg} {f : Nat} {fn : Func} {vals : Array Value} {ds : List Dat} {W : World} {b : Bool} (hS : ∀ k, zcz P C.ty B (den C k)) (hF : FnOK P B C f fn) (hb : fn.body.isSome = true) (hl : vals.size = ds.length)
 (hd : ∀ (j : Nat) (d : Dat) (v : Value), ds[j]? = some d → vals[j]? = some v → ∃ cv, Rep (fun _ => .set) W d cv ∧ IsV d cv v) (hB : ∀ (g : Nat) (o : Obj), B g = some o → W.heap[g]? = some o) (h : ∃ k, den C k f (ds.map .dat) [] [] = some ([.dat (.val (.bool b))], [], [])) :
 Calls P f vals W fun e W' => e = .returned (.bool b) ∧ Below W.heap.size W W' := by
 obtain ⟨k, hk⟩ := h
 let c : Cx := { ty := C.ty, ρ := fun _ => .set, β := fun _ => 0, H := fun _ => undef, W := W, s := start (ds.map .dat) [] [] }
 have hsim : Sim c vals := by
  refine ⟨fun y => ?_, fun r cs hb => ?_, fun j r hg => ?_⟩
  · show VR c (.slot y []) ((ds.map .dat).getD y .undef) (vals.getD y undef)
    by_cases hy : y < ds.length
    · have h1 := List.getElem?_eq_getElem hy
      have h2 : vals[y]? = some (vals[y]'(by omega)) := Array.getElem?_eq_getElem (by omega)
      have e1 : (ds.map D.dat).getD y .undef = .dat ds[y] := by simp [List.getD_eq_getElem?_getD, hy]
      have e2 : vals.getD y undef = vals[y]'(by omega) := by simp [Array.getD, show y < vals.size by omega]
      rw [e1, e2]
      exact hd y _ _ h1 h2
    · have e1 : (ds.map D.dat).getD y .undef = .undef := by simp [List.getD_eq_getElem?_getD, hy]
      have e2 : vals.getD y undef = undef := by simp [Array.getD, show ¬ y < vals.size by omega]
      rw [e1, e2]
      rfl
  · cases r with
    | loc n => cases hb
    | up n =>
      have hb' : ([] : List (List D))[n]? = some cs := hb
      simp at hb'
  · have hg' : (([] : List (Option Row))[j]?).bind id = some r := hg
    simp at hg'
 have hr := hS k f _ _ _ _ _ _ hk c vals rfl (fun g o hg => ⟨trivial, hB g o hg⟩) rfl (by simpa using hl) hsim
 have hent : (callFunc f vals).run P W = .ok (.enter f vals) W := by
  have h1 : fn.name ≠ "runtime.NumGoroutine" := by simpa using hF.name
  obtain ⟨code, hbd⟩ := Option.isSome_iff_exists.1 hb
  simp [callFunc, hF.there, h1, hbd, mark]
 unfold Reaches at hr
 have hent' : (callFunc f vals).run P c.W = .ok (.enter f vals) W := hent
 rw [hent'] at hr
 refine Calls.mono hr fun e W' he => ?_
 cases e with
 | returned v =>
   obtain ⟨c', rfl, ha⟩ := he
   have ha := ha.plain rfl
   refine ⟨?_, ha.ext.os, ha.ext.tape, ha.ext.output, ha.ext.size, fun g hg => (ha.ext.keep g hg trivial).2⟩
   have hv := ha.sim.slots 0
   rw [ha.s] at hv
   have hv' : VR c' (.slot 0 []) (.dat (.val (.bool b))) v := hv
   rw [(zau hv').1]
 | _ => exact he.elim
end Go.Den
namespace Go.Den
open Go
set_option linter.unusedVariables false
inductive Hint where
 | yes
 | no
 | put (d : D)
 | to (f : St → St)
 | at (d : Dat)
 | ok
 | ret (rs : List D)
 | back (rs : List D) (u : List (List D)) (l : List (Option Row))
 | loop (s0 : St) (x : X) (s : St)
def Obs : List Prop → Prop
 | [] => True
 | p :: l => p ∧ Obs l
theorem zgC : ∀ {a b : List Prop}, Obs (a ++ b) → Obs a ∧ Obs b
 | [], b, h => ⟨trivial, h⟩
 | p :: a, b, h => by
   have h' : p ∧ Obs (a ++ b) := h
   obtain ⟨h1, h2⟩ := zgC h'.2
   exact ⟨⟨h'.1, h1⟩, h2⟩
abbrev zcU := List (Nat × Hint)
def zkB : zcU → Nat → Option Hint
 | [], _ => none
 | (a, x) :: l, n => match Nat.beq a n with | true => some x | false => zkB l n
def keyOf (o : Oper) : Option Nat :=
 match o.dst, o.op with
 | some n, _ => some n
 | none, .store _ (.tmp a) _ => some (100000 + a)
 | _, _ => none
def hadd {α : Type} (p : Prop) : Option (List Prop × α) → Option (List Prop × α)
 | some r => some (p :: r.1, r.2)
 | none => none
def zmM {α : Type} (hs : zcU) (s : St) (x : Nat) (yes no : St → Option (List Prop × α)) (und : Option (List Prop × α)) : Option (List Prop × α) :=
 match s.t x with
 | .dat (.val (.bool b)) => match zkB hs (200000 + x) with
   | some .yes => hadd (b = true) (yes (s.force x true))
   | some .no => hadd (b = false) (no (s.force x false))
   | _ => match b with | true => yes (s.force x true) | false => no (s.force x false)
 | .undef => und
 | _ => none
def hcond {α : Type} (hs : zcU) (s : St) (c : Operand) (yes no : St → Option (List Prop × α)) : Option (List Prop × α) :=
 match c with
 | .tmp x => zmM hs s x yes no none
 | .const (.bool v) => match v with | true => yes s | false => no s
 | _ => none
def zjZ {α : Type} (hs : zcU) (ops : Array Oper) (s : St) (g : Option (Nat × Bool)) (k z : St → Option (List Prop × α)) : Option (List Prop × α) :=
 match g with
 | none => k s
 | some (j, want) => match (ops[j]?).bind (·.dst) with
   | none => none
   | some x => match want with
     | true => zmM hs s x k z (z s)
     | false => zmM hs s x z k (z s)
def Env.with (E : Env) (q : List D × List (List D) × List (Option Row)) : Env := { E with call := fun _ _ _ _ => some q }
def zdV (E : Env) (s : St) (o : Oper) : Option (Nat × List D × Bool) :=
 match o.op with
 | .call ca => match ca.callee with
   | .value z => match s.look z with
     | .fn f [] => match zcN (E.mode f) with
       | true => (match zf9 s.get (zaY E s.look ca.args.toList ca.argTypes.toList) with
         | some r => some (f, r.1.map .dat, r.2)
         | none => none)
       | false => none
     | _ => none
   | _ => none
 | _ => none
def zlZ (E : Env) (s : St) (f : Nat) (cap : List Ref) (args : List D) : Option (List D × List (List D) × List (Option Row)) :=
 (zaE (E.mode f) args s).bind fun a =>
 (zbg a.2.get (E.mode f) a.1).bind fun ls =>
 match zaU ls with
 | false => none
 | true => match cap.isEmpty && a.1.all ziV with
   | true => (zaG (hide ls false a.2.get) 0 [] (E.mode f) 0 a.1).map fun v => (v.1, [], ls.map fun p => some p.2)
   | false => match ls.all fun p => !p.1.ofCell with
     | false => none
     | true =>
       let keys := a.2.sent E.nt cap a.1; let m := a.2.u.length
       (zaG (hide ls true a.2.get) m keys (E.mode f) 0 a.1).bind fun v =>
       (zb2 m keys cap).bind fun caps =>
       (zf1 a.2 keys).bind fun bs => (zcI m keys (a.2.u ++ bs)).map fun us => (v.1 ++ caps.map (fun r => D.ptr r 0), us, ls.map fun p => some p.2)
def zdb (E : Env) (s : St) (o : Oper) : Option (Nat × List D × List (List D) × List (Option Row)) :=
 match o.op with
 | .call ca => match ca.callee with
   | .value z => match s.look z with
     | .fn f cap => match cap.isEmpty && (zcN (E.mode f) && (zf9 s.get (zaY E s.look ca.args.toList ca.argTypes.toList)).isSome) with
       | true => none
       | false => (zlZ E s f cap (zaY E s.look ca.args.toList ca.argTypes.toList)).map fun r => (f, r)
     | _ => none
   | _ => none
 | _ => none
theorem zfL {E : Env} {s : St} {o : Oper} {rs : List D} {f : Nat} {args : List D} {fl : Bool} (h : zdV E s o = some (f, args, fl)) (hpl : D.plains rs = true) (hfl : fl = true → D.cleans rs = true) (hc : E.call f args [] [] = some (rs, [], [])) : evOp E s.look s.get s.box o.type o.op = some (.pure (retD rs)) ∧ evOp (E.with (rs, [], [])) s.look s.get s.box o.type o.op = some (.pure (retD rs)) := by
 unfold zdV at h
 split at h
 · rename_i ca ho
   split at h
   · rename_i z hz
     split at h
     · rename_i f' hf
       split at h
       · rename_i hm
         split at h
         · rename_i r hr
           · cases h
             have hcl : (r.2 && !D.cleans rs) = false := by
              cases hr2 : r.2 with
              | false => rfl
              | true => rw [hfl hr2]; rfl
             rw [ho]
             refine ⟨?_, ?_⟩
             · simp only [evOp, hz, hf, zdZ, hm, hr, Option.bind_some, hc, zlI, hpl, hcl]
             · have hm' : zcN ((E.with (rs, [], [])).mode f) = true := hm
               have hr' : zf9 s.get (zaY (E.with (rs, [], [])) s.look ca.args.toList ca.argTypes.toList) = some r := by
                rw [← hr]
                congr 1
                generalize ca.args.toList = zs
                generalize ca.argTypes.toList = ts
                induction zs generalizing ts with
                | nil => rfl
                | cons z zs ih => simp only [zaY, ih]; rfl
               have hcc : (E.with (rs, [], [])).call f (r.1.map .dat) [] [] = some (rs, [], []) := rfl
               simp only [evOp, hz, hf, zdZ, hm', hr', Option.bind_some, hcc, zlI, hpl, hcl]
         · cases h
       · cases h
     · cases h
   · cases h
 · cases h
theorem zl2 {E : Env} {s : St} {o : Oper} {rs : List D} {f : Nat} {args : List D} {cs : List D} {l : List (Option Row)} (h : zdV E s o = some (f, args, false)) (hpl : D.plains rs = false) (hc : E.call f args [] [] = some (rs, [cs], l)) : evOp E s.look s.get s.box o.type o.op = some (.made cs) := by
 unfold zdV at h
 split at h
 · rename_i ca ho
   split at h
   · rename_i z hz
     split at h
     · rename_i f' hf
       split at h
       · rename_i hm
         split at h
         · rename_i r hr
           have h1 : r.2 = false := by injection h with h; injection h with _ h; injection h with _ h
           have h2 : f' = f ∧ r.1.map D.dat = args := by injection h with h; injection h with h3 h; injection h with h4 _; exact ⟨h3, h4⟩
           obtain ⟨rfl, rfl⟩ := h2
           rw [ho]
           simp only [evOp, hz, hf, zdZ, hm, hr, Option.bind_some, hc, zlI, hpl, h1]
         · cases h
       · cases h
     · cases h
   · cases h
 · cases h
theorem zc3 {E : Env} {q : List D × List (List D) × List (Option Row)} {lk : Operand → D} : ∀ (zs : List Operand) (ts : List Nat), zaY (E.with q) lk zs ts = zaY E lk zs ts
 | [], ts => rfl
 | z :: zs, ts => by simp only [zaY, zc3 zs]; rfl
theorem zfk {E : Env} {s : St} {o : Oper} {q : List D × List (List D) × List (Option Row)} {r : Nat × List D × List (List D) × List (Option Row)} (h : zdb E s o = some r) (hc : E.call r.1 r.2.1 r.2.2.1 r.2.2.2 = some q) : step E s o = step (E.with q) s o := by
 unfold zdb at h
 split at h
 · rename_i ca ho
   split at h
   · rename_i z hz
     split at h
     · rename_i f cap hf
       split at h
       · cases h
       · rename_i hdead
         simp only [Option.map_eq_some_iff] at h
         obtain ⟨⟨a, u, l⟩, hdo, rfl⟩ := h
         simp only at hc
         have hev : ∀ E', E'.mode = E.mode → zaY E' s.look ca.args.toList ca.argTypes.toList = zaY E s.look ca.args.toList ca.argTypes.toList → evOp E' s.look s.get s.box o.type o.op = none := by
          intro E' hm ha
          rw [ho]
          simp only [evOp, hz, hf]
          cases cap with
          | cons r rs => rfl
          | nil =>
            simp only [List.isEmpty_nil, Bool.true_and] at hdead
            simp only [zdZ, hm, ha]
            cases hz : zcN (E.mode f) with
            | false => rfl
            | true =>
              rw [hz, Bool.true_and] at hdead
              cases hv : zf9 s.get (zaY E s.look ca.args.toList ca.argTypes.toList) with
              | none => rfl
              | some r => rw [hv] at hdead; cases hdead
         unfold step
         rw [hev E rfl rfl, hev (E.with q) rfl (zc3 _ _)]
         simp only [ho, doOp, hz, hf, zc3]
         unfold zlZ at hdo
         unfold zhO
         simp only [Option.bind_eq_some_iff] at hdo
         obtain ⟨a1, h1, ls, h2, hdo⟩ := hdo
         have h1' : zaE ((E.with q).mode f) (zaY E s.look ca.args.toList ca.argTypes.toList) s = some a1 := h1
         have h2' : zbg a1.2.get ((E.with q).mode f) a1.1 = some ls := h2
         simp only [h1, h1', h2, h2', Option.bind_some]
         split at hdo
         · cases hdo
         · rename_i hdis
           simp only [hdis]
           split at hdo
           · rename_i hcl
             simp only [hcl]
             simp only [Option.map_eq_some_iff, Prod.mk.injEq] at hdo
             obtain ⟨v, hv, rfl, rfl, rfl⟩ := hdo
             have hv' : zaG (hide ls false a1.2.get) 0 [] ((E.with q).mode f) 0 a1.1 = some v := hv
             simp only [hv, hv', Option.bind_some, hc]
             rfl
           · rename_i hcl
             simp only [hcl]
             split at hdo
             · cases hdo
             · rename_i hnc
               simp only [hnc]
               simp only [Option.bind_eq_some_iff, Option.map_eq_some_iff, Prod.mk.injEq] at hdo
               obtain ⟨v, hv, caps, hcaps, bs, hbs, us, hus, rfl, rfl, rfl⟩ := hdo
               have hv' : zaG (hide ls true a1.2.get) a1.2.u.length (a1.2.sent (E.with q).nt cap a1.1) ((E.with q).mode f) 0 a1.1 = some v := hv
               have e2 : (E.with q).nt = E.nt := rfl
               simp only [e2] at hv' ⊢
               simp only [hv, hv', Option.bind_some, hcaps, hbs, hus, hc]
               rfl
     · cases h
   · cases h
 · cases h
def znX (E : Env) (s : St) (hd : Option Dat) : Op → Option (Prop × D)
 | .indexAddr t x i => (E.ty t).bind fun k => match k.kind with
   | .slice e => (E.ty e).bind fun j => (intOf (s.look i)).bind fun n => match s.look x, hd with
     | .dat (.lst b es), some d => (match Nat.beq d.cells.length j.sz with | true => some ((0 ≤ n ∧ n < es.length) ∧ es[n.toNat]? = some d, .ep b d.cells) | false => none)
     | .bor p m, none => (s.get p).bind fun r => match Nat.beq r.1 e with | true => some (0 ≤ n ∧ n < (zaO m r.2).length, .bp p n.toNat 0) | false => none
     | _, _ => none
   | _ => none
 | .load t x => (E.ty t).bind fun i => match s.look x, hd with
   | .bp p j o, some d => (s.get p).bind fun r => (zcD i (d.cells.drop o)).map fun x => (r.2[j]? = some d, .dat x)
   | _, _ => none
 | .slice t x lo hi mx => match mx with
   | none => (zcM E.ty t).bind fun st => (zct s.look lo).bind fun l => (zct s.look hi).bind fun h => match st, s.look x with
     | none, .dat (.val (.string b)) => some (0 ≤ l.getD 0 ∧ l.getD 0 ≤ h.getD b.size ∧ h.getD b.size ≤ b.size, .dat (.val (.string (b.extract (l.getD 0).toNat (h.getD b.size).toNat))))
     | some n, .dat (.lst b es) => some ((0 ≤ l.getD 0 ∧ l.getD 0 ≤ h.getD es.length ∧ h.getD es.length ≤ es.length) ∧ wid n es = true, .dat (.lst b ((es.take (h.getD es.length).toNat).drop (l.getD 0).toNat)))
     | some n, .bor p m => (match l, h with
       | none, some h => (s.get p).bind fun r => some (0 ≤ h ∧ h ≤ (zaO m r.2).length, .bor p (some h.toNat))
       | some l, none => (match m with | none => (s.get p).bind fun r => (E.ty r.1).bind fun i => (match Nat.beq i.sz n with | true => some (0 ≤ l ∧ l ≤ r.2.length, .sb p l.toNat n) | false => none) | some _ => none)
       | _, _ => none)
     | _, _ => none
   | some _ => none
 | .index t x i => (E.ty t).bind fun k => (intOf (s.look i)).bind fun n => match s.look x, k.kind with
   | .dat (.val (.string s)), .str => some (0 ≤ n ∧ n < s.size, .dat (.val (.int .u8 ((s[n.toNat]?).getD 0).toNat)))
   | _, _ => none
 | .binOp op t x y _ => match op, s.look x, s.look y, hd with
   | .rem, .dat (.val (.int k a)), .dat (.val (.int k' b)), none => match decide (k = k') with
     | true => some (b ≠ 0, .dat (.val (.int k (a.tmod b))))
     | false => none
   | .quo, .dat (.val (.int k a)), .dat (.val (.int k' b)), none => match decide (k = k') with
     | true => some (b ≠ 0, .dat (.val (.int k (k.wrap (a.tdiv b)))))
     | false => none
   | .add, .dat (.val (.string a)), .dat (.val (.string b)), none => some (a.size + b.size ≤ 9223372036854775807, .dat (.val (.string (a ++ b))))
   | _, _, _, _ => none
 | .makeSlice t l c => (E.ty t).bind fun i => match i.kind with
   | .slice e => (E.ty e).bind fun j => j.zeroD.bind fun z => (intOf (s.look l)).bind fun n => (intOf (s.look c)).bind fun m =>
     match Nat.ble j.bytes 65536 with
     | true => some (0 ≤ n ∧ n ≤ m ∧ m ≤ 2147483648, .own e (List.replicate n.toNat z))
     | false => none
   | _ => none
 | .lookup t m k ok => (E.ty t).bind fun i => match i.kind with
   | .map kt et => (E.ty kt).bind fun kj => (E.ty et).bind fun ej => match zlt kj.kind, s.look m, s.look k, hd, ok with
     | true, .etc (.map r), .dat (.val kv), some (.val b), false => (s.box r).bind fun cs => match isM cs with
       | true => some (zdd kj.kind kv cs.tail = some (some b), .dat (.val b))
       | false => none
     | _, _, _, _, _ => none
   | _ => none
 | _ => none
theorem zfb {E : Env} {s : St} {hd : Option Dat} {op : Op} {ty : Nat} {p : Prop} {d : D} (h : znX E s hd op = some (p, d)) (hp : p) : evOp E s.look s.get s.box ty op = some (.pure d) := by
 unfold znX at h
 split at h
 · rename_i t x i
   simp only [Option.bind_eq_some_iff] at h
   obtain ⟨k, hk, h⟩ := h
   simp only [evOp, hk, Option.bind_some]
   split at h
   · rename_i e hke
     simp only [Option.bind_eq_some_iff] at h
     obtain ⟨j, hj, n, hn, h⟩ := h
     simp only [hke, hj, Option.bind_some, hn]
     split at h
     · rename_i b es dd hx
       split at h
       · rename_i hb
         cases h
         obtain ⟨h1, h2⟩ := hp
         simp only [hx, zbP, h1, h2, and_self, if_true, Option.bind_some, hb, Option.map_some]
       · cases h
     · rename_i pl m hx
       simp only [Option.bind_eq_some_iff] at h
       obtain ⟨r, hr, h⟩ := h
       split at h
       · rename_i hb
         cases h
         simp only [hx, zbP, hr, Option.bind_some, hb, hp, and_self, if_true, Option.map_some]
       · cases h
     · cases h
   · cases h
 · rename_i t x
   simp only [Option.bind_eq_some_iff] at h
   obtain ⟨i, hi, h⟩ := h
   simp only [evOp, hi, Option.bind_some]
   split at h
   · rename_i pl j o dd hx
     simp only [Option.bind_eq_some_iff, Option.map_eq_some_iff, Prod.mk.injEq] at h
     obtain ⟨r, hr, y, hy, rfl, rfl⟩ := h
     simp only [hx, zdg, hr, Option.bind_some, hp, hy, Option.map_some]
   · cases h
 · rename_i t x lo hi mx
   split at h
   · simp only [Option.bind_eq_some_iff] at h
     obtain ⟨st, hst, l, hl, hh, hhi, h⟩ := h
     simp only [evOp, hst, hl, hhi, Option.bind_some]
     split at h
     · rename_i b hx
       cases h
       simp only [hx, zhE, zb9, hp, and_self, if_true, Option.map_some]
     · rename_i n b es hx
       cases h
       obtain ⟨h1, h2⟩ := hp
       simp only [hx, zhE, zb9, h1, h2, and_self, if_true, Option.map_some]
     · rename_i n pl m hx
       split at h
       · rename_i hhv
         simp only [Option.bind_eq_some_iff] at h
         obtain ⟨r, hr, h⟩ := h
         cases h
         simp only [hx, zhE, hr, Option.bind_some, hp, and_self, if_true, Option.map_some]
       · cases m with
         | none =>
           simp only [Option.bind_eq_some_iff] at h
           obtain ⟨r, hr, ii, hii, h⟩ := h
           split at h
           · rename_i hb
             cases h
             simp only [hx, zhE, hr, Option.bind_some, hii, hb, hp, and_self, if_true, Option.map_some]
           · cases h
         | some m => cases h
       · cases h
     · cases h
   · cases h
 · rename_i t x i
   simp only [Option.bind_eq_some_iff] at h
   obtain ⟨k, hk, n, hn, h⟩ := h
   simp only [evOp, hk, hn, Option.bind_some]
   split at h
   · rename_i b hx hkk
     cases h
     simp only [hx, hkk]
     rw [dif_pos hp]
     have : b[n.toNat]? = some (b[n.toNat]'(by omega)) := getElem?_pos b n.toNat (by omega)
     rw [this]
     rfl
   · cases h
 · rename_i op t x y ky
   split at h
   · rename_i k a k' b hx hy
     split at h
     · rename_i hk
       cases h
       simp [evOp, hx, hy, zgM, binD, binV, zis, hk, hp]
     · cases h
   · rename_i k a k' b hx hy
     split at h
     · rename_i hk
       cases h
       simp [evOp, hx, hy, zgM, binD, binV, zis, hk, hp]
     · cases h
   · rename_i a b hx hy
     cases h
     simp only [evOp, hx, hy, zgM, binD, binV, zis]
     rw [if_pos hp]
     rfl
   · cases h
 · rename_i t l c
   simp only [Option.bind_eq_some_iff] at h
   obtain ⟨i, hi, h⟩ := h
   simp only [evOp, hi, Option.bind_some]
   split at h
   · rename_i e hk
     simp only [Option.bind_eq_some_iff] at h
     obtain ⟨j, hj, z, hz, n, hn, m, hm, h⟩ := h
     split at h
     · rename_i hb
       cases h
       simp only [hk, hj, hz, hn, hm, Option.bind_some, hp, and_self, if_true, hb]
     · cases h
   · cases h
 · rename_i t m k ok
   simp only [Option.bind_eq_some_iff] at h
   obtain ⟨i, hi, h⟩ := h
   split at h
   · rename_i kt et hk
     simp only [Option.bind_eq_some_iff] at h
     obtain ⟨kj, hkj, ej, hej, h⟩ := h
     split at h
     · rename_i r kv b hkt hm hkk
       simp only [Option.bind_eq_some_iff] at h
       obtain ⟨cs, hcs, h⟩ := h
       split at h
       · rename_i hM
         cases h
         simp only [evOp, hi, Option.bind_some, hk, hkj, hej, hkt, hm, hkk, hcs, hM, hp, zj4, Option.map_some]
       · cases h
     · cases h
   · cases h
 · cases h
def zlM (E : Env) (s : St) (x : Option Nat) : Op → Option (Prop × St)
 | .call c => match c.callee with
   | .builtin .append => match c.args.toList, c.argTypes.toList with
     | [a, b], [t, u] => (E.ty t).bind fun i => match i.kind with
       | .slice e => match Nat.beq t u with
         | true => (zfs s.get (s.look b)).bind fun es2 => (zbn s e a).bind fun r => (E.ty e).bind fun i =>
           match Nat.beq r.1.1 e && Nat.ble i.bytes 65536 && Nat.blt 0 i.sz with
           | true => some (es2.all (fun d => Nat.beq d.cells.length i.sz) = true ∧ r.1.2.length + es2.length ≤ 2147483648, r.2.putO x (.own e (r.1.2 ++ es2)))
           | false => none
         | false => (E.ty e).bind fun j => (E.ty u).bind fun k => match zir j, k.kind, s.look b with
           | true, .str, .dat (.val (.string w)) => (zbn s e a).bind fun r => match Nat.beq r.1.1 e && Nat.ble j.bytes 65536 && Nat.blt 0 j.sz with
             | true => some ((zai w).all (fun d => Nat.beq d.cells.length j.sz) = true ∧ r.1.2.length + (zai w).length ≤ 2147483648, r.2.putO x (.own e (r.1.2 ++ zai w)))
             | false => none
           | _, .int _, .dat (.val (.int .i64 n)) => (zbn s e a).bind fun r => j.zeroD.bind fun z => match Nat.beq r.1.1 e && Nat.ble j.bytes 65536 && Nat.blt 0 j.sz && decide (0 ≤ n) with
             | true => some (r.1.2.length + n.toNat ≤ 2147483648, r.2.putO x (.own e (r.1.2 ++ List.replicate n.toNat z)))
             | false => none
           | _, _, _ => none
       | _ => none
     | _, _ => none
   | _ => none
 | .convert t u y => (E.ty t).bind fun i => match i.kind with
   | .slice e => (E.ty e).bind fun j => (E.ty u).bind fun k => match j.kind, k.kind with
     | .int .u8, .str => (zfs s.get (s.look y)).bind fun es => x.map fun n => (zdW es ≠ none, s.put n (.dat (.val ((zdW es).getD (.string ByteArray.empty)))))
     | _, _ => none
   | _ => none
 | _ => none
theorem zhR {E : Env} {s : St} {o : Oper} {p : Prop} {s' : St} (h : zlM E s o.dst o.op = some (p, s')) (hp : p) : step E s o = some s' := by
 unfold zlM at h
 split at h
 · rename_i c ho
   split at h
   · rename_i hc
     split at h
     · rename_i a b t u ha hat
       simp only [Option.bind_eq_some_iff] at h
       obtain ⟨i, hi, h⟩ := h
       split at h
       · rename_i e hk
         split at h
         · rename_i htu
           simp only [Option.bind_eq_some_iff] at h
           obtain ⟨es2, hes, r, hr, i2, hi2, h⟩ := h
           split at h
           · rename_i hcond
             cases h
             have hev : evOp E s.look s.get s.box o.type o.op = none := by rw [ho]; simp only [evOp, hc]
             unfold step
             rw [hev]
             have hes' : ziF s.get false (s.look b) = some es2 := by
              unfold ziF
              split
              · rename_i he
                rw [he] at hes
                cases hes
              · exact hes
             simp only [ho, doOp, hc, ha, hat, hi, Option.bind_some, hk, htu, zcm, hes', hr, hi2, hcond, hp.1, Bool.and_self, hp.2, if_true]
           · cases h
         · rename_i htu
           simp only [Option.bind_eq_some_iff] at h
           obtain ⟨j, hj, k, hkj, h⟩ := h
           split at h
           · rename_i w hib huk hw
             simp only [Option.bind_eq_some_iff] at h
             obtain ⟨r, hr, h⟩ := h
             split at h
             · rename_i hcond
               cases h
               have hev : evOp E s.look s.get s.box o.type o.op = none := by rw [ho]; simp only [evOp, hc]
               unfold step
               rw [hev]
               have hes' : ziF s.get true (s.look b) = some (zai w) := by rw [hw]; rfl
               simp only [ho, doOp, hc, ha, hat, hi, Option.bind_some, hk, htu, hj, hkj, hib, huk, zcm, hes', hr, hcond, hp.1, Bool.and_self, hp.2, if_true]
             · cases h
           · rename_i nn huk hw
             simp only [Option.bind_eq_some_iff] at h
             obtain ⟨r, hr, z, hz, h⟩ := h
             split at h
             · rename_i hcond
               cases h
               have hev : evOp E s.look s.get s.box o.type o.op = none := by rw [ho]; simp only [evOp, hc]
               unfold step
               rw [hev]
               have hes' : intOf (s.look b) = some nn := by rw [hw]; exact rfl
               simp only [ho, doOp, hc, ha, hat, hi, Option.bind_some, hk, htu, hj, hkj, huk]
               simp only [zfx, hes', hr, hz, hj, Option.bind_some, hcond, hp, if_true]
             · cases h
           · cases h
       · cases h
     · cases h
   · cases h
 · rename_i t u y ho
   simp only [Option.bind_eq_some_iff] at h
   obtain ⟨i, hi, h⟩ := h
   split at h
   · rename_i e hk
     simp only [Option.bind_eq_some_iff] at h
     obtain ⟨j, hj, k, hkk, h⟩ := h
     split at h
     · rename_i hjk hku
       simp only [Option.bind_eq_some_iff, Option.map_eq_some_iff, Prod.mk.injEq] at h
       obtain ⟨es, hes, n, hn, rfl, rfl⟩ := h
       obtain ⟨v, hv⟩ := Option.ne_none_iff_exists'.1 hp
       have hconv : znJ (some i) (some k) (s.look y) = none := by
        cases hy : s.look y with
        | dat d => cases d with
          | val w => rw [hy] at hes; cases hes
          | agg cs => rfl
          | lst b l => rfl
        | _ => rfl
       have hev : evOp E s.look s.get s.box o.type o.op = none := by rw [ho]; simp only [evOp, hi, hkk, Option.bind_some, hconv, Option.map_none]
       unfold step
       rw [hev]
       simp only [ho, doOp, zcw, hi, hj, hkk, Option.bind_some, hk, hjk, hku, hes, hv, hn, Option.map_some, Option.getD_some]
     · cases h
   · cases h
 · cases h
def zps (E : Env) (s : St) (hd : Dat) : Op → Option (Prop × St)
 | .store t a y => match zfu y with
   | true => none
   | false => (E.ty t).bind fun i => match s.look a with
     | .bp p j o => (s.datD (s.look y)).bind fun q => match Nat.beq q.1.cells.length i.sz with
       | false => none
       | true => (q.2.get p).bind fun r => (zfw hd o q.1.cells).map fun d' => (r.2[j]? = some hd, q.2.setPl p (.own r.1 (r.2.set j d')))
     | _ => none
 | _ => none
theorem zi1 {E : Env} {s : St} {hd : Dat} {o : Oper} {p : Prop} {s' : St} (h : zps E s hd o.op = some (p, s')) (hp : p) : step E s o = some s' := by
 unfold zps at h
 split at h
 · rename_i t a y ho
   split at h
   · cases h
   · rename_i hn
     simp only [Option.bind_eq_some_iff] at h
     obtain ⟨i, hi, h⟩ := h
     split at h
     · rename_i pl j off ha
       simp only [Option.bind_eq_some_iff] at h
       obtain ⟨q, hq, h⟩ := h
       split at h
       · cases h
       · rename_i hb
         simp only [Option.bind_eq_some_iff, Option.map_eq_some_iff, Prod.mk.injEq] at h
         obtain ⟨r, hr, d', hd', rfl, rfl⟩ := h
         have hev : evOp E s.look s.get s.box o.type o.op = none := by rw [ho]; simp only [evOp]
         unfold step
         rw [hev]
         simp only [ho, doOp, hn, zco, hi, Option.bind_some, ha, hq, hb, hr, hp, hd', Option.map_some]
     · cases h
 · cases h
def zp9 {α : Type} (b : Bool) (p : Prop) (r : Option (List Prop × α)) : Option (List Prop × α) := match b with | true => hadd p r | false => r
def zmw (E : Env) (s : St) (x : Option Nat) (f : Nat) (cap : List Ref) (args : List D) (q : List D × List (List D) × List (Option Row)) : Option (Prop × St) :=
 (zaE (E.mode f) args s).bind fun a =>
 (zbg a.2.get (E.mode f) a.1).bind fun ls =>
 match zaU ls with
 | false => none
 | true => match cap.isEmpty && a.1.all ziV with
   | true => (zaG (hide ls false a.2.get) 0 [] (E.mode f) 0 a.1).bind fun v =>
     (zbx a.2 ls q.2.2).map fun s => (((v.2 && !(D.cleans q.1 && zbd q.2.2)) || !D.plains q.1) = false, s.putO x (retD q.1))
   | false => match ls.all fun p => !p.1.ofCell with
     | false => none
     | true =>
       let keys := a.2.sent E.nt cap a.1; let m := a.2.u.length
       (zaG (hide ls true a.2.get) m keys (E.mode f) 0 a.1).bind fun v =>
       (zbx (a.2.regain m keys q.2.1) ls q.2.2).map fun s => (((v.2 && !(D.cleans q.1 && (zbd q.2.2 && zax q.2.1))) || !D.plains q.1) = false, s.putO x (retD q.1))
def zpu (E : Env) (s : St) (o : Oper) (q : List D × List (List D) × List (Option Row)) : Option (Prop × St) :=
 match o.op with
 | .call ca => match ca.callee with
   | .value z => match s.look z with
     | .fn f cap => zmw E s o.dst f cap (zaY E s.look ca.args.toList ca.argTypes.toList) q
     | _ => none
   | _ => none
 | _ => none
theorem zi6 {E : Env} {s : St} {o : Oper} {q : List D × List (List D) × List (Option Row)} {r : Nat × List D × List (List D) × List (Option Row)} {p : Prop} {s' : St} (h : zdb E s o = some r) (hc : E.call r.1 r.2.1 r.2.2.1 r.2.2.2 = some q) (hh : zpu E s o q = some (p, s')) (hp : p) : step E s o = some s' := by
 unfold zdb at h
 unfold zpu at hh
 split at h
 · rename_i ca ho
   simp only [ho] at hh
   split at h
   · rename_i z hz
     simp only [hz] at hh
     split at h
     · rename_i f cap hf
       simp only [hf] at hh
       split at h
       · cases h
       · rename_i hdead
         simp only [Option.map_eq_some_iff] at h
         obtain ⟨⟨a, u, l⟩, hdo, rfl⟩ := h
         simp only at hc
         have hev : evOp E s.look s.get s.box o.type o.op = none := by
          rw [ho]
          simp only [evOp, hz, hf]
          cases cap with
          | cons r rs => rfl
          | nil =>
            simp only [List.isEmpty_nil, Bool.true_and] at hdead
            simp only [zdZ]
            cases hz : zcN (E.mode f) with
            | false => rfl
            | true =>
              rw [hz, Bool.true_and] at hdead
              cases hv : zf9 s.get (zaY E s.look ca.args.toList ca.argTypes.toList) with
              | none => rfl
              | some r => rw [hv] at hdead; cases hdead
         unfold step
         rw [hev]
         simp only [ho, doOp, hz, hf]
         unfold zlZ at hdo
         unfold zhO
         unfold zmw at hh
         simp only [Option.bind_eq_some_iff] at hdo
         obtain ⟨a1, h1, ls, h2, hdo⟩ := hdo
         simp only [h1, h2, Option.bind_some] at hh ⊢
         split at hdo
         · cases hdo
         · rename_i hdis
           simp only [hdis] at hh ⊢
           split at hdo
           · rename_i hcl
             simp only [hcl] at hh ⊢
             simp only [Option.map_eq_some_iff, Prod.mk.injEq] at hdo
             obtain ⟨v, hv, rfl, rfl, rfl⟩ := hdo
             simp only [hv, Option.bind_some, Option.map_eq_some_iff, Prod.mk.injEq] at hh ⊢
             obtain ⟨s3, hg, rfl, rfl⟩ := hh
             simp only [hc, Option.bind_some, hp, hg, Option.map_some]
           · rename_i hcl
             simp only [hcl] at hh ⊢
             split at hdo
             · cases hdo
             · rename_i hnc
               simp only [hnc] at hh ⊢
               simp only [Option.bind_eq_some_iff, Option.map_eq_some_iff, Prod.mk.injEq] at hdo
               obtain ⟨v, hv, caps, hcaps, bs, hbs, us, hus, rfl, rfl, rfl⟩ := hdo
               simp only [hv, Option.bind_some, Option.map_eq_some_iff, Prod.mk.injEq] at hh ⊢
               obtain ⟨s3, hg, rfl, rfl⟩ := hh
               simp only [hcaps, hbs, hus, Option.bind_some, hc, hp, hg, Option.map_some]
     · cases h
   · cases h
 · cases h
def hop {α : Type} (E : Env) (hs : zcU) (run : Env → St → Oper → Option St) (view : St → St) (pu ap : Oper → Bool) (s : St) (o : Oper) (k : St → Option (List Prop × α)) : Option (List Prop × α) :=
 match (keyOf o).bind (zkB hs) with
 | some (.put d) => hadd (run E s o = some (s.putO o.dst d)) (k (s.putO o.dst d))
 | some (.to f) => hadd (run E s o = some (f s)) (k (f s))
 | some (.at d) => match znX E s (some d) o.op with
   | some (p, d) => (match o.dst, pu o with | some n, true => hadd p (k (s.put n d)) | _, _ => none)
   | none => (match zps E s d o.op, ap o with | some (p, s'), true => hadd p (k s') | _, _ => none)
 | some .ok => match znX E s none o.op with
   | some (p, d) => (match o.dst, pu o with | some n, true => hadd p (k (s.put n d)) | _, _ => none)
   | none => (match zlM E s o.dst o.op, ap o with | some (p, s'), true => hadd p (k s') | _, _ => none)
 | some (.ret rs) => match D.plains rs, zdV E (view s) o with
   | true, some (f, args, fl) => zp9 fl (D.cleans rs = true) (hadd (E.call f args [] [] = some (rs, [], [])) (match pu o, o.dst with | true, some n => k (s.put n (retD rs)) | _, _ => (run (E.with (rs, [], [])) s o).bind k))
   | _, _ => none
 | some (.back rs u l) => match zdb E (view s) o with
   | some (f, args, us, ls) => hadd (E.call f args us ls = some (rs, u, l)) (match ap o with
     | true => (match zpu E s o (rs, u, l) with | some (p, s') => hadd p (k s') | none => none)
     | false => (run (E.with (rs, u, l)) s o).bind k)
   | none => match zdV E (view s) o, D.plains rs, u, ap o with
     | some (f, args, false), false, [cs], true => hadd (E.call f args [] [] = some (rs, [cs], l)) ((s.apply o.dst (.made cs)).bind k)
     | _, _, _, _ => none
 | _ => (run E s o).bind k
def hops (E : Env) (hs : zcU) (ops : Array Oper) : List Oper → St → Option (List Prop × St)
 | [], s => some ([], s)
 | o :: l, s => zjZ hs ops s o.guard (fun s => hop E hs step (fun s => s) (fun _ => true) (fun _ => true) s o (hops E hs ops l)) (fun s => hops E hs ops l (s.putO o.dst .undef))
def zei (M : Option (List Nat)) (k : Nat) (s : St) : St :=
 match k with
 | 0 => s
 | 1 => s
 | 2 => s
 | 3 => s
 | _ => match M with | none => s | some M => s.hid M
def znk : Op → Bool
 | .load _ _ => true
 | _ => false
def ziX (M : Option (List Nat)) (k : Nat) (o : Oper) : Bool :=
 match k with
 | 0 => zgT o.op
 | 1 => znk o.op && M.isNone
 | 2 => true
 | 3 => false
 | _ => M.isNone
def zeM (E : Env) (hs : zcU) (ops : Array Oper) (M : Option (List Nat)) : Bool → List PRow → St → Option (List Prop × St)
 | _, [], s => some ([], s)
 | first, (i, k, ds) :: l, s => match zf3 s ds with
   | false => none
   | true => match ops[i]? with
     | none => none
     | some o => zjZ hs ops s o.guard (fun s => match k with
       | 5 => (match znz M s o with | true => hop E hs step (fun s => s) (fun _ => true) (fun _ => true) s o (zeM E hs ops M (first && zbV k) l) | false => none)
       | 6 => hop E hs (fun E => zaS E none first 4) (zei none 4) (ziX none 4) (fun _ => false) s o (zeM E hs ops M (first && zbV k) l)
       | 7 => hop E hs (fun E => zaS E none first 4) (zei none 4) (ziX none 4) (fun _ => false) s o (zeM E hs ops M (first && zbV k) l)
       | 8 => hop E hs (fun E => zaS E none first 4) (zei none 4) (ziX none 4) (fun _ => false) s o (zeM E hs ops M (first && zbV k) l)
       | 9 => (match zlY o.op with | true => hop E hs step (fun s => s) (fun _ => true) (fun _ => true) s o (zeM E hs ops M (first && zbV k) l) | false => none)
       | 10 => (match zbO s o with | true => hop E hs step (fun s => s) (fun _ => true) (fun _ => true) s o (zeM E hs ops M (first && zbV k) l) | false => none)
       | 11 => (match zbI s o with | true => hop E hs step (fun s => s) (fun _ => true) (fun _ => true) s o (zeM E hs ops M (first && zbV k) l) | false => none)
       | k => hop E hs (fun E => zaS E M first k) (zei M k) (ziX M k) (fun _ => Nat.beq k 2) s o (zeM E hs ops M (first && zbV k) l)) (fun s => zeM E hs ops M (first && zbV k) l (s.putO o.dst .undef))
def zqw (E : Env) (hs : zcU) (ops : Array Oper) (p : Plan) (s : St) : Option (List Prop × St) :=
 match p.2 with
 | [] => some ([], s)
 | (i, k, ds) :: l => match zgh s ds with
   | true => zeM E hs ops p.1 true ((i, k, ds) :: l) (s.junks ds)
   | false => none
def ziU (E : Env) (hs : zcU) (id : Nat) (ops : Array Oper) (draw : Bool) (s : St) : Option (List Prop × St) :=
 match draw with
 | false => hops E hs ops ops.toList s
 | true => match E.plan id with
   | some p => zqw E hs ops p s
   | none => none
def zow (r : Option (List Prop × X × St)) (k : X → St → Option (List Prop × X × St)) : Option (List Prop × X × St) :=
 match r with
 | some (ps, x, s) => match k x s with
   | some q => some (ps ++ q.1, q.2)
   | none => none
 | none => none
def znZ : List Nat → List D → Nat → D
 | a :: L, d :: ds, x => match Nat.beq a x with | true => d | false => znZ L ds x
 | _, _, _ => .junk
def zn1 : List Nat → List (Option (List D)) → Nat → Option (List D)
 | a :: L, d :: ds, x => match Nat.beq a x with | true => d | false => zn1 L ds x
 | _, _, _ => none
def Nm (L : List Nat) (ds : List D) (bs : List (Option (List D))) (u : List (List D)) (l : List (Option Row)) : St := ⟨znZ L ds, zn1 L bs, u, l⟩
def nmOf (L : List Nat) (s : St) : St := Nm L (L.map fun x => (s.t x).kill (Kill.but L)) (L.map fun x => (s.b x).map (D.kills (Kill.but L))) (s.u.map (D.kills (Kill.but L))) s.l
def zlS (E : Env) (n : Nat) (c : Code) (s0 : St) (x : X) (s' : St) : Prop := ∀ s : St, s.norm (E.live (zaa c)) = s0 → exec E n (.loop c) s = some (x, s')
def zcu (E : Env) (n : Nat) (hs : zcU) : Code → St → Option (List Prop × X × St)
 | .skip, s => some ([], .normal, s)
 | .region id ops draw, s => match ziU E hs id ops draw s with | some r => some (r.1, .normal, r.2) | none => none
 | .seq a b, s => zow (zcu E n hs a s) fun x s' => match x with
   | .normal => zcu E n hs b s'
   | x => some ([], x, s')
 | .cond c a b, s => hcond hs s c (zcu E n hs a) (zcu E n hs b)
 | .block id c, s => zow (zcu E n hs c s) fun x s' => match x with
   | .exit i => (match Nat.beq i id with | true => some ([], .normal, s') | false => some ([], .exit i, s'))
   | x => some ([], x, s')
 | .loop c, s => match zkB hs (300000 + zaa c) with
   | some (.loop s0 x s') => some ([nmOf (E.live (zaa c)) s = s0, zlS E n c s0 x s'], x, s')
   | _ => none
 | .exit id, s => some ([], .exit id, s)
 | .ret, s => some ([], .ret, s)
 | _, _ => none
theorem nbeq_eq {a b : Nat} : Nat.beq a b = true ↔ a = b := ⟨Nat.eq_of_beq_eq_true, fun h => by rw [h]; exact Nat.beq_refl b⟩
theorem nbeq_ne {a b : Nat} : Nat.beq a b = false ↔ a ≠ b := ⟨Nat.ne_of_beq_eq_false, fun h => by
 cases hb : Nat.beq a b with
 | false => rfl
 | true => exact (h (Nat.eq_of_beq_eq_true hb)).elim⟩
theorem zc5 {a x : Nat} {l : List Nat} : memN x (a :: l) = (Nat.beq x a || memN x l) := by
 show (match Nat.beq x a with | true => true | false => memN x l) = _
 cases Nat.beq x a <;> rfl
theorem zim {f : Nat → D} {x : Nat} : ∀ {L : List Nat}, znZ L (L.map f) x = match memN x L with | true => f x | false => .junk
 | [] => rfl
 | a :: L => by
   simp only [List.map_cons, znZ]
   cases h : Nat.beq a x with
   | true => rw [nbeq_eq.1 h, zc5]; simp
   | false =>
     have h2 : Nat.beq x a = false := nbeq_ne.2 (fun e => nbeq_ne.1 h e.symm)
     simp only [zim (L := L), zc5, h2, Bool.false_or]
theorem zio {f : Nat → Option (List D)} {x : Nat} : ∀ {L : List Nat}, zn1 L (L.map f) x = match memN x L with | true => f x | false => none
 | [] => rfl
 | a :: L => by
   simp only [List.map_cons, zn1]
   cases h : Nat.beq a x with
   | true => rw [nbeq_eq.1 h, zc5]; simp
   | false =>
     have h2 : Nat.beq x a = false := nbeq_ne.2 (fun e => nbeq_ne.1 h e.symm)
     simp only [zio (L := L), zc5, h2, Bool.false_or]
theorem ziT (L : List Nat) (s : St) : s.norm L = nmOf L s := by
 simp only [St.norm, nmOf, Nm, St.mk.injEq, and_true]
 refine ⟨funext fun x => ?_, funext fun x => ?_⟩
 · rw [zim]; cases memN x L <;> rfl
 · rw [zio]; cases memN x L <;> rfl
theorem zaR {α : Type} {p : Prop} {r : Option (List Prop × α)} {q : List Prop × α} (h : hadd p r = some q) : ∃ ps, r = some (ps, q.2) ∧ q.1 = p :: ps := by
 unfold hadd at h
 split at h
 · rename_i r'
   cases h
   exact ⟨r'.1, rfl, rfl⟩
 · cases h
section
variable {E : Env} {hs : zcU} {ops : Array Oper}
theorem zdi {α β : Type} {s : St} {x : Nat} {yes no : St → Option (List Prop × α)} {und : Option (List Prop × α)} {q : List Prop × α} {yes' no' : St → Option β} {und' : Option β} {b : β}
 (h : zmM hs s x yes no und = some q) (hq : Obs q.1) (hy : ∀ s ps, yes s = some (ps, q.2) → Obs ps → yes' s = some b) (hn : ∀ s ps, no s = some (ps, q.2) → Obs ps → no' s = some b) (hu : ∀ ps, und = some (ps, q.2) → Obs ps → und' = some b) :
 (match s.t x with
  | .dat (.val (.bool v)) => match v with | true => yes' (s.force x true) | false => no' (s.force x false)
  | .undef => und'
  | _ => none) = some b := by
 unfold zmM at h
 cases hx : s.t x with
 | undef => rw [hx] at h; exact hu q.1 h hq
 | dat d =>
   rw [hx] at h
   cases d with
   | val v =>
     cases v with
     | bool v =>
       simp only at h ⊢
       split at h
       · obtain ⟨ps, h1, h2⟩ := zaR h
         rw [h2] at hq
         have hv : v = true := hq.1
         rw [hv]
         exact hy _ ps h1 hq.2
       · obtain ⟨ps, h1, h2⟩ := zaR h
         rw [h2] at hq
         have hv : v = false := hq.1
         rw [hv]
         exact hn _ ps h1 hq.2
       · cases v with
         | true => exact hy _ q.1 h hq
         | false => exact hn _ q.1 h hq
     | _ => cases h
   | _ => cases h
 | _ => rw [hx] at h; cases h
theorem zjg {α β : Type} {s : St} {c : Operand} {yes no : St → Option (List Prop × α)} {q : List Prop × α} {yes' no' : St → Option β} {b : β}
 (h : hcond hs s c yes no = some q) (hq : Obs q.1) (hy : ∀ s ps, yes s = some (ps, q.2) → Obs ps → yes' s = some b) (hn : ∀ s ps, no s = some (ps, q.2) → Obs ps → no' s = some b) : znC s c yes' no' = some b := by
 unfold hcond at h
 unfold znC
 split at h
 · rename_i x
   have := zdi (und' := (none : Option β)) h hq hy hn (fun ps h => by cases h)
   simp only
   revert this
   cases s.t x with
   | dat d =>
     cases d with
     | val v => cases v <;> exact id
     | _ => exact id
   | _ => intro h; first | exact h | cases h
 · rename_i v
   cases v with
   | true => exact hy _ q.1 h hq
   | false => exact hn _ q.1 h hq
 · cases h
theorem zeA {α β : Type} {s : St} {g : Option (Nat × Bool)} {k z : St → Option (List Prop × α)} {q : List Prop × α} {k' z' : St → Option β} {b : β}
 (h : zjZ hs ops s g k z = some q) (hq : Obs q.1) (hk : ∀ s ps, k s = some (ps, q.2) → Obs ps → k' s = some b) (hz : ∀ s ps, z s = some (ps, q.2) → Obs ps → z' s = some b) : zb4 ops s g k' z' = some b := by
 unfold zjZ at h
 unfold zb4
 split at h
 · exact hk _ q.1 h hq
 · rename_i j want
   simp only
   split at h
   · cases h
   · rename_i x hx
     rw [hx]
     simp only
     split at h
     · have := zdi (und' := z' s) h hq hk hz (fun ps h h2 => hz _ ps h h2)
       revert this
       cases s.t x with
       | dat d =>
         cases d with
         | val v =>
           cases v with
           | bool v => cases v <;> exact id
           | _ => exact id
         | _ => exact id
       | _ => exact id
     · have := zdi (und' := z' s) h hq hz hk (fun ps h h2 => hz _ ps h h2)
       revert this
       cases s.t x with
       | dat d =>
         cases d with
         | val v =>
           cases v with
           | bool v => cases v <;> exact id
           | _ => exact id
         | _ => exact id
       | _ => exact id
structure RunOK (E : Env) (run : Env → St → Oper → Option St) (view : St → St) (pu ap : Oper → Bool) : Prop where
 pure : ∀ s o n d, evOp E s.look s.get s.box o.type o.op = some (.pure d) → o.dst = some n → pu o = true → run E s o = some (s.put n d)
 app : ∀ s o s', step E s o = some s' → ap o = true → run E s o = some s'
 vw : ∀ s o, pu o = true → view s = s
 vw2 : ∀ s o, ap o = true → view s = s
 ev : ∀ s o rs f args fl, zdV E (view s) o = some (f, args, fl) → D.plains rs = true → (fl = true → D.cleans rs = true) → E.call f args [] [] = some (rs, [], []) → run E s o = run (E.with (rs, [], [])) s o
 go : ∀ s o r q, zdb E (view s) o = some r → E.call r.1 r.2.1 r.2.2.1 r.2.2.2 = some q → ∀ s', run (E.with q) s o = some s' → run E s o = some s'
theorem step_ok : RunOK E step (fun s => s) (fun _ => true) (fun _ => true) :=
 ⟨fun s o n d h hd _ => by
  unfold step
  rw [h, hd]
  rfl, fun s o s' h _ => h, fun _ _ _ => rfl, fun _ _ _ => rfl, fun s o rs f args fl h hpl hfl hc => by
  obtain ⟨h1, h2⟩ := zfL h hpl hfl hc
  unfold step
  rw [h1, h2], fun s o r q h hc s' hr => by rw [zfk h hc]; exact hr⟩
theorem zc2 {M : Option (List Nat)} {first : Bool} {k : Nat} : RunOK E (fun E => zaS E M first k) (zei M k) (ziX M k) (fun _ => Nat.beq k 2) := by
 have hcall : ∀ (s : St) (o : Oper) r, zdV E s o = some r → ∃ ca z, o.op = .call ca ∧ ca.callee = .value z := fun s o r h => by
  unfold zdV at h
  split at h
  · rename_i ca ho
    split at h
    · rename_i z hz; exact ⟨ca, z, ho, hz⟩
    · cases h
  · cases h
 have hcall2 : ∀ (s : St) (o : Oper) r, zdb E s o = some r → ∃ ca z, o.op = .call ca ∧ ca.callee = .value z := fun s o r h => by
  unfold zdb at h
  split at h
  · rename_i ca ho
    split at h
    · rename_i z hz; exact ⟨ca, z, ho, hz⟩
    · cases h
  · cases h
 have hno : ∀ (s : St) (o : Oper) (q : List D × List (List D) × List (Option Row)), (∃ ca z, o.op = .call ca ∧ ca.callee = .value z) → (k = 0 ∨ k = 1 ∨ k = 3) → ∀ E, zaS E M first k s o = none := by
  rintro s o q ⟨ca, z, ho, hz⟩ hk E
  rcases hk with rfl | rfl | rfl
  · simp only [zaS, ze4, ho, zgT, hz]
  · simp only [zaS, zeW, ho]
  · simp only [zaS, zfM, ho]
 have hev : ∀ (s : St) (o : Oper) (r : Nat × List D × List (List D) × List (Option Row)), zdb E s o = some r → ∀ E', E'.mode = E.mode → (∀ zs ts, zaY E' s.look zs ts = zaY E s.look zs ts) → evOp E' s.look s.get s.box o.type o.op = none := by
  intro s o r h E' hm ha
  unfold zdb at h
  split at h
  · rename_i ca ho
    split at h
    · rename_i z hz
      split at h
      · rename_i f cap hf
        split at h
        · cases h
        · rename_i hdead
          rw [ho]
          simp only [evOp, hz, hf]
          cases cap with
          | cons r rs => rfl
          | nil =>
            simp only [List.isEmpty_nil, Bool.true_and] at hdead
            simp only [zdZ, hm, ha]
            cases hzz : zcN (E.mode f) with
            | false => rfl
            | true =>
              rw [hzz, Bool.true_and] at hdead
              cases hv : zf9 s.get (zaY E s.look ca.args.toList ca.argTypes.toList) with
              | none => rfl
              | some r => rw [hv] at hdead; cases hdead
      · cases h
    · cases h
  · cases h
 have hpure : ∀ s o n d, evOp E s.look s.get s.box o.type o.op = some (.pure d) → o.dst = some n → ziX M k o = true → zaS E M first k s o = some (s.put n d) := by
  intro s o n d h hd hpu
  match k, hpu with
  | 0, hpu =>
    have hpu : zgT o.op = true := hpu
    simp only [zaS, ze4, hpu, hd, h]
  | 1, hpu =>
    have hpu : (znk o.op && M.isNone) = true := hpu
    simp only [Bool.and_eq_true, Option.isNone_iff_eq_none] at hpu
    obtain ⟨h1, rfl⟩ := hpu
    unfold znk at h1
    split at h1
    · rename_i t x ho
      rw [ho] at h
      simp only [evOp, Option.bind_eq_some_iff, Option.map_eq_some_iff] at h
      obtain ⟨i, hi, y, hy, he⟩ := h
      cases he
      simp only [zaS, zeW, ho, hd, hi, Option.bind_some, hy, Option.map_some]
    · cases h1
  | 2, hpu => exact step_ok.pure s o n d h hd rfl
  | m + 4, hpu =>
    have hpu : M.isNone = true := hpu
    simp only [Option.isNone_iff_eq_none] at hpu
    subst hpu
    simp only [zaS, zaB, h, hd, Option.bind_some, St.apply, Option.map_some]
 have hvw : ∀ (s : St) (o : Oper), ziX M k o = true → zei M k s = s := by
  intro s o hpu
  match k, hpu with
  | 0, _ => rfl
  | 1, _ => rfl
  | 2, _ => rfl
  | m + 4, hpu =>
    have hpu : M.isNone = true := hpu
    simp only [Option.isNone_iff_eq_none] at hpu
    subst hpu
    rfl
 refine ⟨hpure, fun s o s' h hk => by rw [Nat.eq_of_beq_eq_true hk]; exact h, hvw, fun s o hk => by rw [Nat.eq_of_beq_eq_true hk]; rfl, fun s o rs f args fl h hpl hfl hc => ?_, fun s o r q h hc s' hr => ?_⟩
 · have hk5 : (k = 0 ∨ k = 1 ∨ k = 3) ∨ k = 2 ∨ ∃ m, k = m + 4 := by
    match k with
    | 0 => exact .inl (.inl rfl)
    | 1 => exact .inl (.inr (.inl rfl))
    | 2 => exact .inr (.inl rfl)
    | 3 => exact .inl (.inr (.inr rfl))
    | m + 4 => exact .inr (.inr ⟨m, rfl⟩)
   rcases hk5 with hk | rfl | ⟨m, rfl⟩
   · rw [hno s o (rs, [], []) (hcall _ _ _ h) hk, hno s o (rs, [], []) (hcall _ _ _ h) hk]
   · exact step_ok.ev s o rs f args fl h hpl hfl hc
   · show zaB E M s o = zaB (E.with (rs, [], [])) M s o
     unfold zaB
     cases M with
     | none =>
       obtain ⟨h1, h2⟩ := zfL (s := s) h hpl hfl hc
       simp only [h1, h2]
     | some M =>
       have h' := step_ok.ev (s.hid M) o rs f args fl h hpl hfl hc
       simp only [h']
 · have hk5 : (k = 0 ∨ k = 1 ∨ k = 3) ∨ k = 2 ∨ ∃ m, k = m + 4 := by
    match k with
    | 0 => exact .inl (.inl rfl)
    | 1 => exact .inl (.inr (.inl rfl))
    | 2 => exact .inr (.inl rfl)
    | 3 => exact .inl (.inr (.inr rfl))
    | m + 4 => exact .inr (.inr ⟨m, rfl⟩)
   rcases hk5 with hk | rfl | ⟨m, rfl⟩
   · rw [hno s o q (hcall2 _ _ _ h) hk] at hr
     cases hr
   · exact step_ok.go s o r q h hc s' hr
   · have hr' : zaB (E.with q) M s o = some s' := hr
     show zaB E M s o = some s'
     unfold zaB at hr' ⊢
     cases M with
     | none =>
       simp only at hr'
       rw [hev s o r h (E.with q) rfl (fun zs ts => zc3 zs ts)] at hr'
       cases hr'
     | some M =>
       have h' := zfk (s := s.hid M) h hc
       simp only [h']
       exact hr'
theorem zbp {α β : Type} {run : Env → St → Oper → Option St} {view : St → St} {pu ap : Oper → Bool} (hrun : RunOK E run view pu ap) {s : St} {o : Oper} {k : St → Option (List Prop × α)} {q : List Prop × α} {k' : St → Option β} {b : β}
 (h : hop E hs run view pu ap s o k = some q) (hq : Obs q.1) (hk : ∀ s ps, k s = some (ps, q.2) → Obs ps → k' s = some b) : (run E s o).bind k' = some b := by
 unfold hop at h
 split at h
 · obtain ⟨ps, h1, h2⟩ := zaR h
   rw [h2] at hq
   rw [hq.1]
   exact hk _ ps h1 hq.2
 · obtain ⟨ps, h1, h2⟩ := zaR h
   rw [h2] at hq
   rw [hq.1]
   exact hk _ ps h1 hq.2
 · split at h
   · rename_i p d hask
     split at h
     · rename_i n hdn hpu
       obtain ⟨ps, h1, h2⟩ := zaR h
       rw [h2] at hq
       rw [hrun.pure s o _ _ (zfb hask hq.1) hdn hpu]
       exact hk _ ps h1 hq.2
     · cases h
   · split at h
     · rename_i p s' hask hap
       obtain ⟨ps, h1, h2⟩ := zaR h
       rw [h2] at hq
       rw [hrun.app s o _ (zi1 hask hq.1) hap]
       exact hk _ ps h1 hq.2
     · cases h
 · split at h
   · rename_i p d hask
     split at h
     · rename_i n hdn hpu
       obtain ⟨ps, h1, h2⟩ := zaR h
       rw [h2] at hq
       rw [hrun.pure s o _ _ (zfb hask hq.1) hdn hpu]
       exact hk _ ps h1 hq.2
     · cases h
   · split at h
     · rename_i p s' hask hap
       obtain ⟨ps, h1, h2⟩ := zaR h
       rw [h2] at hq
       rw [hrun.app s o _ (zhR hask hq.1) hap]
       exact hk _ ps h1 hq.2
     · cases h
 · rename_i rs hhint
   split at h
   · rename_i f args fl hpl hcv
     have hkey : ∃ ps, hadd (E.call f args [] [] = some (rs, [], [])) (match pu o, o.dst with | true, some n => k (s.put n (retD rs)) | _, _ => (run (E.with (rs, [], [])) s o).bind k) = some (ps, q.2) ∧ Obs ps ∧ (fl = true → D.cleans rs = true) := by
      cases fl with
      | false => exact ⟨q.1, h, hq, fun e => by cases e⟩
      | true =>
        obtain ⟨ps, h1, h2⟩ := zaR h
        rw [h2] at hq
        exact ⟨ps, h1, hq.2, fun _ => hq.1⟩
     obtain ⟨ps0, h0, hq0, hfl⟩ := hkey
     obtain ⟨ps, h1, h2⟩ := zaR h0
     simp only at h2
     rw [h2] at hq0
     split at h1
     · rename_i n hpu hdn
       have hv := hrun.vw s o hpu
       rw [hv] at hcv
       rw [hrun.pure s o _ _ (zfL hcv hpl hfl hq0.1).1 hdn hpu]
       exact hk _ ps h1 hq0.2
     · rw [hrun.ev s o _ _ _ _ hcv hpl hfl hq0.1]
       simp only [Option.bind_eq_some_iff] at h1
       obtain ⟨s', hr, h1⟩ := h1
       rw [hr]
       exact hk s' ps h1 hq0.2
   · cases h
 · split at h
   · rename_i f args us ls hcv
     obtain ⟨ps, h1, h2⟩ := zaR h
     rw [h2] at hq
     split at h1
     · rename_i hap
       split at h1
       · rename_i p s' hch
         obtain ⟨ps2, h3, h4⟩ := zaR h1
         simp only at h4
         rw [h4] at hq
         have hv : view s = s := hrun.vw2 s o hap
         rw [hv] at hcv
         rw [hrun.app s o _ (zi6 hcv hq.1 hch hq.2.1) hap]
         exact hk s' ps2 h3 hq.2.2
       · cases h1
     · simp only [Option.bind_eq_some_iff] at h1
       obtain ⟨s', hr, h1⟩ := h1
       rw [hrun.go s o _ _ hcv hq.1 s' hr]
       exact hk s' ps h1 hq.2
   · split at h
     · rename_i f args cs hcv hpl hap hkey
       obtain ⟨ps, h1, h2⟩ := zaR h
       rw [h2] at hq
       have hv : view s = s := hrun.vw2 s o hap
       rw [hv] at hcv
       simp only [Option.bind_eq_some_iff] at h1
       obtain ⟨s', hs', h1⟩ := h1
       have hst : step E s o = some s' := by
        unfold step
        rw [zl2 hcv hpl hq.1]
        exact hs'
       rw [hrun.app s o s' hst hap]
       exact hk s' ps h1 hq.2
     · cases h
 · cases hr : run E s o with
   | none => rw [hr] at h; cases h
   | some s' => rw [hr] at h; exact hk s' q.1 h hq
theorem zea : ∀ (l : List Oper) (s : St) (q : List Prop × St), hops E hs ops l s = some q → Obs q.1 → zdN E ops l s = some q.2
 | [], s, q, h, hq => by cases h; rfl
 | o :: l, s, q, h, hq => by
   unfold hops at h
   unfold zdN
   exact zeA h hq (fun s ps h1 h2 => zbp step_ok h1 h2 fun s ps h3 h4 => zea l s (ps, q.2) h3 h4) (fun s ps h1 h2 => zea l _ (ps, q.2) h1 h2)
theorem zaL {M : Option (List Nat)} : ∀ (l : List PRow) (first : Bool) (s : St) (q : List Prop × St), zeM E hs ops M first l s = some q → Obs q.1 → zaP E ops M first l s = some q.2
 | [], first, s, q, h, hq => by cases h; rfl
 | (i, k, ds) :: l, first, s, q, h, hq => by
   unfold zeM at h
   unfold zaP
   split at h
   · cases h
   · rename_i hj
     simp only [hj]
     split at h
     · cases h
     · rename_i o ho
       simp only [ho]
       refine zeA h hq (fun s ps h1 h2 => ?_) (fun s ps h1 h2 => zaL l _ _ (ps, q.2) h1 h2)
       split at h1
       · split at h1
         · rename_i hgr
           have := zbp (hs := hs) step_ok h1 h2 fun s ps h3 h4 => zaL l _ s (ps, q.2) h3 h4
           simp only [zaI, hgr]
           exact this
         · cases h1
       · exact zbp (hs := hs) (zc2 (M := none) (first := first) (k := 4)) h1 h2 fun s ps h3 h4 => zaL l _ s (ps, q.2) h3 h4
       · exact zbp (hs := hs) (zc2 (M := none) (first := first) (k := 4)) h1 h2 fun s ps h3 h4 => zaL l _ s (ps, q.2) h3 h4
       · exact zbp (hs := hs) (zc2 (M := none) (first := first) (k := 4)) h1 h2 fun s ps h3 h4 => zaL l _ s (ps, q.2) h3 h4
       · split at h1
         · rename_i hcv
           have := zbp (hs := hs) step_ok h1 h2 fun s ps h3 h4 => zaL l _ s (ps, q.2) h3 h4
           simp only [zaI, hcv]
           exact this
         · cases h1
       · split at h1
         · rename_i hcv
           have := zbp (hs := hs) step_ok h1 h2 fun s ps h3 h4 => zaL l _ s (ps, q.2) h3 h4
           simp only [zaI, hcv]
           exact this
         · cases h1
       · split at h1
         · rename_i hcv
           have := zbp (hs := hs) step_ok h1 h2 fun s ps h3 h4 => zaL l _ s (ps, q.2) h3 h4
           simp only [zaI, hcv]
           exact this
         · cases h1
       · rename_i n5 n6 n7 n8 n9 n10 n11
         have e : ∀ s, zaI E M first k s o = zaS E M first k s o := fun s => by
          unfold zaI
          split
          · exact absurd rfl n5
          · exact absurd rfl n6
          · exact absurd rfl n7
          · exact absurd rfl n8
          · exact absurd rfl n9
          · exact absurd rfl n10
          · exact absurd rfl n11
          · rfl
         rw [e]
         exact zbp zc2 h1 h2 fun s ps h3 h4 => zaL l _ s (ps, q.2) h3 h4
theorem zhA {id : Nat} {draw : Bool} {s : St} {q : List Prop × St} (h : ziU E hs id ops draw s = some q) (hq : Obs q.1) : zcd E id ops draw s = some q.2 := by
 unfold ziU at h
 unfold zcd
 cases draw with
 | false => exact zea _ _ _ h hq
 | true =>
   simp only at h ⊢
   split at h
   · rename_i p hp
     simp only [hp]
     unfold zqw at h
     unfold zjB
     split at h
     · rename_i e
       simp only [e]
       cases h; rfl
     · rename_i i k ds l e
       simp only [e]
       split at h
       · rename_i hn
         simp only [hn]
         exact zaL _ _ _ _ h hq
       · cases h
   · cases h
theorem zgW {r : Option (List Prop × X × St)} {k : X → St → Option (List Prop × X × St)} {q : List Prop × X × St} (h : zow r k = some q) (hq : Obs q.1) : ∃ ps x s qs, r = some (ps, x, s) ∧ k x s = some (qs, q.2) ∧ Obs ps ∧ Obs qs := by
 unfold zow at h
 split at h
 · rename_i ps x s
   split at h
   · rename_i q' hk
     cases h
     obtain ⟨h1, h2⟩ := zgC hq
     exact ⟨ps, x, s, q'.1, rfl, hk, h1, h2⟩
   · cases h
 · cases h
theorem za1 {n : Nat} : ∀ (c : Code) (s : St) (q : List Prop × X × St), zcu E n hs c s = some q → Obs q.1 → exec E n c s = some q.2
 | .skip, s, q, h, hq => by cases h; rfl
 | .region id ops draw, s, q, h, hq => by
   simp only [zcu] at h
   split at h
   · rename_i r hr
     cases h
     simp only [exec]
     rw [zhA hr hq]
     rfl
   · cases h
 | .seq a b, s, q, h, hq => by
   obtain ⟨pq, r⟩ := q
   simp only [zcu] at h
   obtain ⟨ps, x, s1, qs, h1, h2, h3, h4⟩ := zgW h hq
   have := za1 a s _ h1 h3
   simp only [exec, this]
   cases x with
   | normal => exact za1 b s1 (qs, r) h2 h4
   | exit i => cases h2; rfl
   | ret => cases h2; rfl
 | .cond c a b, s, q, h, hq => by
   simp only [zcu] at h
   simp only [exec]
   exact zjg h hq (fun s ps h1 h2 => za1 a s (ps, q.2) h1 h2) (fun s ps h1 h2 => za1 b s (ps, q.2) h1 h2)
 | .block id c, s, q, h, hq => by
   obtain ⟨pq, r⟩ := q
   simp only [zcu] at h
   obtain ⟨ps, x, s1, qs, h1, h2, h3, h4⟩ := zgW h hq
   have := za1 c s _ h1 h3
   simp only [exec, this]
   cases x with
   | normal => cases h2; rfl
   | exit i =>
     simp only at h2 ⊢
     split at h2
     · rename_i hb; simp only [hb]; cases h2; rfl
     · rename_i hb; simp only [hb]; cases h2; rfl
   | ret => cases h2; rfl
 | .loop c, s, q, h, hq => by
   simp only [zcu] at h
   split at h
   · cases h; exact hq.2.1 s ((ziT _ s).trans hq.1)
   · cases h
 | .exit id, s, q, h, hq => by cases h; rfl
 | .ret, s, q, h, hq => by cases h; rfl
 | .label _, s, q, h, hq => by cases h
 | .goto _, s, q, h, hq => by cases h
 | .rangeFunc _ _ _ _, s, q, h, hq => by cases h
 | .scope _, s, q, h, hq => by cases h
 | .refuse _, s, q, h, hq => by cases h
end
end Go.Den
