/- Merged out of: D35 D36 D33 D34 Dt E0 G1 (prune.py, a program of this work's). -/
import Derived.Test.YtmoocdlfclhgcaaDoorZc2
import Derived.Deep.Slices
import Derived.Deep.Fields
import Derived.ChangeSame
import Derived.ProofKit
import Derived.Lib.SmallJoins
import Derived.Test.YtmoocdlfclhgcaaDoorZc4
import Derived.OpenShut
import Derived.ShutString
import Derived.ChangeOld
import Derived.Below
import Derived.Test.YtmoocdlfclhgcaaDoorZc1
import Derived.Test.YtmoocdlfclhgcaaDoorZc5
import Derived.KernelRfl
import Derived.IntWalk
set_option linter.unusedVariables false
set_option linter.unusedSimpArgs false
set_option linter.unnecessarySimpa false
namespace Go.Den
open Go Go.RowKit Go.ChangeShapes Go.WideShapes Go.Deep
set_option linter.unusedVariables false
inductive WT (ty : Nat → Option TI) : Nat → Dat → Prop where
 | int {t : Nat} {i : TI} {k : IntKind} {n : Int} (ht : ty t = some i) (hk : i.kind = .int k) (h : (Lit.int k n).wf = true) : WT ty t (.val (.int k n))
 | bool {t : Nat} {i : TI} {b : Bool} (ht : ty t = some i) (hk : i.kind = .bool) : WT ty t (.val (.bool b))
 | str {t : Nat} {i : TI} {s : ByteArray} (ht : ty t = some i) (hk : i.kind = .str) (h : s.size ≤ maxLen) : WT ty t (.val (.string s))
 | lst {t : Nat} {i : TI} {e : Nat} {es : List Dat} (ht : ty t = some i) (hk : i.kind = .slice e) (hl : es.length ≤ maxLen) (h : ∀ d ∈ es, WT ty e d) : WT ty t (.lst false es)
 | agg {t : Nat} {i : TI} {cs : List Dat} (ht : ty t = some i) (hk : i.kind = .struct) (hl : cs.length = i.fs.length) (h : ∀ (j : Nat) (f : Nat × Nat) (d : Dat), i.fs[j]? = some f → cs[j]? = some d → WT ty f.2 d) : WT ty t (.agg cs)
def zdb (ty : Nat → Option TI) : Nat → Nat → Bool
 | 0, _ => false
 | n + 1, t => match ty t with
   | none => false
   | some i => match i.kind with
     | .int _ => true
     | .bool => true
     | .str => true
     | .slice e => zdb ty n e && (match ty e with | some j => Nat.blt 0 j.sz | none => false)
     | .struct => Nat.beq i.sz i.fs.length && (List.range i.fs.length).all fun j => match i.fs[j]? with
       | some f => Nat.beq f.1 j && (zdb ty n f.2 && (match ty f.2 with | some k => Nat.beq k.sz 1 && !k.agg | none => false))
       | none => false
     | .map _ _ => false
     | .other => false
theorem zdI {P : Program} {ty : Nat → Option TI} {t : Nat} {i : TI} {inf : TypeInfo} {d : TypeDesc} {z : Value} (h : TyFacts P ty t i inf d z) : P.cellsOf t = i.sz := by
 unfold Program.cellsOf
 rw [h.info]
 simpa using h.size
theorem zjC {w : World} {a : Addr} {v : Value} (h : w.cell? a = some v) : a.spot = none := by
 unfold World.cell? at h
 split at h
 · split at h
   · cases h
   · rename_i hs
     simpa using hs
 · cases h
theorem zkY {a : Addr} (h : a.spot = none) : a = ⟨a.block, a.off, none⟩ := by cases a; simp at h; subst h; rfl
theorem zjB {P : Program} {ty : Nat → Option TI} (hty : TyOk P ty) : ∀ (n t : Nat), zdb ty n t = true → ∀ {H : Type} (enc : TypeId × Value → H) (w : World) (base : Nat) (spare : Nat → Bool) (held : Bool) (fuel : Nat) (cs : List Value) (x : DataW H × List MemPlace),
 DataW.trod enc P w base spare held fuel t cs = some x → ∃ d, Rep (fun _ => .set) w d cs ∧ WT ty t d
 | 0, t, hp => by cases hp
 | n + 1, t, hp => by
   intro enc w base spare held fuel cs x h
   unfold zdb at hp
   split at hp
   · cases hp
   · rename_i i hi
     obtain ⟨inf, de, z, hf⟩ := hty.facts hi
     have hkk := hf.kind
     split at hp
     · rename_i k hk
       have hu : P.underlying t = some (.int k) := by
        rw [hf.und]
        cases de <;> simp [zaH, hk] at hkk ⊢
        exact hkk
       obtain ⟨m, rfl, _, hw⟩ := DataW.trod_int hu h
       exact ⟨.val (.int k m), .val rfl, .int hi hk hw⟩
     · rename_i hk
       have hu : P.underlying t = some .bool := by
        rw [hf.und]
        cases de <;> simp [zaH, hk] at hkk ⊢
       obtain ⟨m, rfl, _⟩ := DataW.trod_bool hu h
       exact ⟨.val (.bool m), .val rfl, .bool hi hk⟩
     · rename_i hk
       have hu : P.underlying t = some .string := by
        rw [hf.und]
        cases de <;> simp [zaH, hk] at hkk ⊢
       obtain ⟨m, rfl, _, hs⟩ := DataW.trod_string hu h
       exact ⟨.val (.string m), .val rfl, .str hi hk hs⟩
     · rename_i e hk
       simp only [Bool.and_eq_true] at hp
       obtain ⟨hp1, hp2⟩ := hp
       have hu : P.underlying t = some (.slice e) := by
        rw [hf.und]
        cases de <;> simp [zaH, hk] at hkk ⊢
        exact hkk.1
       cases hj : ty e with
       | none => rw [hj] at hp2; cases hp2
       | some j =>
       rw [hj] at hp2
       have hsz : 0 < j.sz := by
        have : 0 + 1 ≤ j.sz := by simpa [Nat.blt] using hp2
        omega
       obtain ⟨_, _, _, hfe⟩ := hty.facts hj
       have hce := zdI hfe
       rcases open_slice hu h with ⟨rfl, _⟩ | ⟨a, len, cap, m, n', D, Pl, rfl, _, hl, hm, hmm, _, hx⟩
       · exact ⟨.lst false [], .nil, .lst hi hk (Nat.zero_le _) (fun d hd => by cases hd)⟩
       · have hlm : len ≤ m := by rw [hmm]; split <;> omega
         have hex : ∀ k, k < len → ∃ p : Dat × List Value, Rep (fun _ => .set) w p.1 p.2 ∧ WT ty e p.1 ∧ p.2.length = j.sz ∧ ∀ i u, p.2[i]? = some u → w.cell? (a.add (k * j.sz + i)) = some u := by
          intro k hlt
          obtain ⟨cs', hc, ht'⟩ := hx k (by omega)
          obtain ⟨d, hr, hw⟩ := zjB hty n e hp1 enc w base spare held n' cs' _ ht'
          obtain ⟨_, hcl, hat⟩ := World.cells?_some hc
          rw [hce] at hcl hat
          refine ⟨(d, cs'), hr, hw, hcl, fun i u hu => ?_⟩
          have hi2 : i < j.sz := by rw [← hcl]; exact (List.getElem?_eq_some_iff.1 hu).1
          have := hat i hi2
          rw [Go.Deep.add_add] at this
          rw [this, hu]
         cases len with
         | zero => exact ⟨.lst false [], .nil, .lst hi hk (Nat.zero_le _) (fun d hd => by cases hd)⟩
         | succ len =>
           obtain ⟨p0, q1, q2, q3, q4⟩ := hex 0 (by omega)
           haveI : Inhabited (Dat × List Value) := ⟨p0⟩
           obtain ⟨f, hfx⟩ := choose_lt hex
           have hpos : 0 < p0.2.length := by omega
           have h0 := q4 0 _ (List.getElem?_eq_getElem hpos)
           have hspot : a.spot = none := by
            have := zjC h0
            simpa [Addr.add] using this
           have hal := zkY hspot
           have hlt := World.block_lt_of_cell? w _ h0
           have hblk : a.block < w.heap.size := by simpa [Addr.add] using hlt
           refine ⟨.lst false ((List.range (len + 1)).map fun k => (f k).1), ?_, .lst hi hk (by simp; omega) ?_⟩
           · have hlen : ((List.range (len + 1)).map fun k => (f k).1).length = len + 1 := by simp
             have hat : ∀ (k : Nat) (d : Dat), ((List.range (len + 1)).map fun k => (f k).1)[k]? = some d → k < len + 1 ∧ d = (f k).1 := fun k d hd => by
              have hk2 : k < len + 1 := by
               have := (List.getElem?_eq_some_iff.1 hd).1
               simpa using this
              rw [List.getElem?_map, List.getElem?_range hk2] at hd
              exact ⟨hk2, by simpa using hd.symm⟩
             have hres := Rep.lst (ρ := fun _ => Role.set) (W := w) (b := false) (es := (List.range (len + 1)).map fun k => (f k).1) (g := a.block) (o := a.off) (c := cap) (sz := j.sz) (fun k => (f k).2) (by rw [hlen]; exact hl) hm (.inl rfl) hblk
              (fun k d hd => (hfx k (hat k d hd).1).2.2.1) (fun k d hd i u hu => by
               have := (hfx k (hat k d hd).1).2.2.2 i u hu
               rw [hal, Addr.add_lit, ← Nat.add_assoc] at this
               exact this) (fun k d hd => by
               obtain ⟨h1, rfl⟩ := hat k d hd
               exact (hfx k h1).1)
             rw [hlen] at hres
             rw [hal]
             exact hres
           · intro d hd
             obtain ⟨k, hk1, rfl⟩ := List.mem_map.1 hd
             exact (hfx k (by simpa using hk1)).2.1
     · rename_i hk
       have ha : i.agg = true := by unfold TI.agg; rw [hk]
       simp only [Bool.and_eq_true] at hp
       obtain ⟨hsz, hall⟩ := hp
       have hsz := Nat.eq_of_beq_eq_true hsz
       obtain ⟨fs, h1, h2, h3⟩ := hf.struct ha
       obtain ⟨xs, n', _, _, hl, hlen, hg⟩ := DataW.trod_struct h1 h
       rw [zdI hf, hsz] at hl
       have hone : ∀ (j : Nat) (f : Nat × Nat), i.fs[j]? = some f → f.1 = j ∧ zdb ty n f.2 = true ∧ ∃ k, ty f.2 = some k ∧ k.sz = 1 ∧ k.agg = false := fun j f hj => by
        have hjl := (List.getElem?_eq_some_iff.1 hj).1
        have := (List.all_eq_true.1 hall) j (List.mem_range.2 hjl)
        rw [hj] at this
        simp only [Bool.and_eq_true] at this
        obtain ⟨a1, a2, a3⟩ := this
        refine ⟨Nat.eq_of_beq_eq_true a1, a2, ?_⟩
        cases hk2 : ty f.2 with
        | none => rw [hk2] at a3; cases a3
        | some k =>
          rw [hk2] at a3
          simp only [Bool.and_eq_true, Bool.not_eq_true'] at a3
          exact ⟨k, rfl, Nat.eq_of_beq_eq_true a3.1, a3.2⟩
       have hex : ∀ k, k < cs.length → ∃ d : Dat, ∃ v f, cs[k]? = some v ∧ i.fs[k]? = some f ∧ d.cells = [d] ∧ Rep (fun _ => .set) w d [v] ∧ WT ty f.2 d := by
        intro k hkl
        obtain ⟨ff, hfk⟩ : ∃ ff, i.fs[k]? = some ff := ⟨_, List.getElem?_eq_getElem (show k < i.fs.length by omega)⟩
        have hck := List.getElem?_eq_getElem hkl
        obtain ⟨o1, o2, kk, o3, o4, o5⟩ := hone k _ hfk
        obtain ⟨_, _, _, hfk2⟩ := hty.facts o3
        have hfl : ∃ fl, fs[k]? = some fl ∧ fl.offset = k ∧ fl.type = ff.2 := by
         have h4 := hfk
         rw [← h2, List.getElem?_map] at h4
         simp only [Option.map_eq_some_iff] at h4
         obtain ⟨fl, h5, h6⟩ := h4
         refine ⟨fl, by simpa using h5, ?_, ?_⟩
         · rw [← o1, ← h6]
         · rw [← h6]
        obtain ⟨fl, h5, h6, h7⟩ := hfl
        have h8 := hg k fl h5
        have hxk : ∃ y, xs[k]? = some y := ⟨_, List.getElem?_eq_getElem (by have := (Array.getElem?_eq_some_iff.1 h5).1; omega)⟩
        obtain ⟨y, hy⟩ := hxk
        rw [hy, h6, h7, zdI hfk2, o4] at h8
        have h9 : (cs.drop k).take 1 = [cs[k]] := by
         rw [List.drop_eq_getElem_cons hkl]; rfl
        rw [h9] at h8
        obtain ⟨d, hr, hw⟩ := zjB hty n _ o2 enc w base spare held n' _ _ h8
        refine ⟨d, cs[k], _, hck, hfk, ?_, hr, hw⟩
        cases hw with
        | agg ht' hk' _ _ =>
          rw [o3] at ht'
          cases ht'
          unfold TI.agg at o5
          rw [hk'] at o5
          cases o5
        | _ => rfl
       haveI : Inhabited Dat := ⟨.val (.bool false)⟩
       obtain ⟨f, hfx⟩ := choose_lt hex
       have hat : ∀ (k : Nat) (d : Dat), ((List.range cs.length).map f)[k]? = some d → k < cs.length ∧ d = f k := fun k d hd => by
        have hk2 : k < cs.length := by
         have := (List.getElem?_eq_some_iff.1 hd).1
         simpa using this
        rw [List.getElem?_map, List.getElem?_range hk2] at hd
        exact ⟨hk2, by simpa using hd.symm⟩
       refine ⟨.agg ((List.range cs.length).map f), .agg (by simp) (fun k d v hd hv => ?_) (fun k d v hd hv => ?_), .agg hi hk (by simp; omega) (fun k ff d hff hd => ?_)⟩
       · obtain ⟨h4, rfl⟩ := hat k d hd
         obtain ⟨v', f', e1, e2, e3, e4, e5⟩ := hfx k h4
         exact e3
       · obtain ⟨h4, rfl⟩ := hat k d hd
         obtain ⟨v', f', e1, e2, e3, e4, e5⟩ := hfx k h4
         rw [hv] at e1
         cases e1
         exact e4
       · obtain ⟨h4, rfl⟩ := hat k d hd
         obtain ⟨v', f', e1, e2, e3, e4, e5⟩ := hfx k h4
         rw [hff] at e2
         cases e2
         exact e5
     · cases hp
     · cases hp
end Go.Den
namespace Go.Den
open Go Go.RowKit Go.ChangeShapes Go.WideShapes
open Go.ChangeMaps (open_string shut_string)
set_option linter.unusedVariables false
variable {B : Nat → Option Obj}
theorem zlV {P : Program} {ty : Nat → Option TI} (hty : TyOk P ty) {n t : Nat} (hp : zdb ty n t = true) {H : Type} {enc : TypeId × Value → H} {w : World} {base b0 : Nat} {spare : Nat → Bool} {held : Bool} {r : Reach} {v : Value} {y : DataW H} {p : List MemPlace}
 (hv : Value.okWide P w r b0 t v) (h : DataW.Trod enc P w base spare held t v y p) : ∃ d cv, Rep (fun _ => .set) w d cv ∧ IsV d cv v ∧ WT ty t d := by
 obtain ⟨fuel, hf⟩ := id h
 obtain ⟨d, hr, hw⟩ := zjB hty n t hp enc w base spare held fuel _ _ hf
 refine ⟨d, v.cells.toList, hr, ?_, hw⟩
 cases hw with
 | int ht hk _ =>
   rename_i i k m _
   obtain ⟨_, de, _, hfa⟩ := hty.facts ht
   have hkk := hfa.kind
   have hu : P.underlying t = some (.int k) := by
    rw [hfa.und]
    cases de <;> simp [zaH, hk] at hkk ⊢
    exact hkk
   obtain ⟨a, rfl, _⟩ := open_int hu hv h
   rfl
 | bool ht hk =>
   obtain ⟨_, de, _, hfa⟩ := hty.facts ht
   have hkk := hfa.kind
   have hu : P.underlying t = some .bool := by
    rw [hfa.und]
    cases de <;> simp [zaH, hk] at hkk ⊢
   obtain ⟨a, rfl, _⟩ := open_bool hu hv h
   rfl
 | str ht hk _ =>
   obtain ⟨_, de, _, hfa⟩ := hty.facts ht
   have hkk := hfa.kind
   have hu : P.underlying t = some .string := by
    rw [hfa.und]
    cases de <;> simp [zaH, hk] at hkk ⊢
   obtain ⟨a, rfl, _⟩ := open_string hu hv h
   rfl
 | lst ht hk _ _ =>
   rename_i i e es _ _
   obtain ⟨_, de, _, hfa⟩ := hty.facts ht
   have hkk := hfa.kind
   have hu : P.underlying t = some (.slice e) := by
    rw [hfa.und]
    cases de <;> simp [zaH, hk] at hkk ⊢
    exact hkk.1
   obtain ⟨a, len, cap, rfl⟩ := okWide_slice hu hv
   rfl
 | agg ht hk _ _ =>
   rename_i i cs _ _
   obtain ⟨_, _, _, hfa⟩ := hty.facts ht
   have ha : i.agg = true := by unfold TI.agg; rw [hk]
   obtain ⟨fs, h1, _, _⟩ := hfa.struct ha
   obtain ⟨xs, rfl, _⟩ := okWide_struct h1 hv
   show Value.agg xs = .agg (Value.cells (.agg xs)).toList.toArray
   simp [Value.cells]
theorem zjJ {P : Program} {C : Cfg} {f : Nat} {fn : Func} {vals : Array Value} {ds : List Dat} {W : World} {b : Bool} (hS : ∀ k, zck P C.ty B (den C k)) (hF : FnOK P B C f fn) (hb : fn.body.isSome = true) (hl : vals.size = ds.length)
 (hd : ∀ (j : Nat) (d : Dat) (v : Value), ds[j]? = some d → vals[j]? = some v → ∃ cv, Rep (fun _ => .set) W d cv ∧ IsV d cv v) (hB : ∀ (g : Nat) (o : Obj), B g = some o → W.heap[g]? = some o) (h : ∃ k, den C k f (ds.map .dat) [] [] = some ([.dat (.val (.bool b))], [], [])) :
 Calls P f vals W fun e W' => e = .returned (.bool b) ∧ Below W.heap.size W W' := by
 obtain ⟨k, hk⟩ := h
 let c : Cx := { ty := C.ty, ρ := fun _ => .set, β := fun _ => 0, H := fun _ => undef, W := W, s := start (ds.map .dat) [] [] }
 have hsim : Sim c vals := by
  refine ⟨fun y => ?_, fun r cs hb => ?_, fun j r hg => ?_⟩
  · show VR c (.slot y []) ((ds.map .dat).getD y .undef) (vals.getD y undef)
    by_cases hy : y < ds.length
    · have h1 := List.getElem?_eq_getElem hy
      have h2 : vals[y]? = some (vals[y]'(by omega)) := Array.getElem?_eq_getElem (by omega)
      have e1 : (ds.map D.dat).getD y .undef = .dat ds[y] := by simp [List.getD_eq_getElem?_getD, hy]
      have e2 : vals.getD y undef = vals[y]'(by omega) := by simp [Array.getD, show y < vals.size by omega]
      rw [e1, e2]
      exact hd y _ _ h1 h2
    · have e1 : (ds.map D.dat).getD y .undef = .undef := by simp [List.getD_eq_getElem?_getD, hy]
      have e2 : vals.getD y undef = undef := by simp [Array.getD, show ¬ y < vals.size by omega]
      rw [e1, e2]
      rfl
  · cases r with
    | loc n => cases hb
    | up n =>
      have hb' : ([] : List (List D))[n]? = some cs := hb
      simp at hb'
  · have hg' : (([] : List (Option Row))[j]?).bind id = some r := hg
    simp at hg'
 have hr := hS k f _ _ _ _ _ _ hk c vals rfl (fun g o hg => ⟨trivial, hB g o hg⟩) rfl (by simpa using hl) hsim
 have hent : (callFunc f vals).run P W = .ok (.enter f vals) W := by
  have h1 : fn.name ≠ "runtime.NumGoroutine" := by simpa using hF.name
  obtain ⟨code, hbd⟩ := Option.isSome_iff_exists.1 hb
  simp [callFunc, hF.there, h1, hbd, mark]
 unfold Reaches at hr
 have hent' : (callFunc f vals).run P c.W = .ok (.enter f vals) W := hent
 rw [hent'] at hr
 refine Calls.mono hr fun e W' he => ?_
 cases e with
 | returned v =>
   obtain ⟨c', rfl, ha⟩ := he
   have ha := ha.plain rfl
   refine ⟨?_, ha.ext.os, ha.ext.tape, ha.ext.output, ha.ext.size, fun g hg => (ha.ext.keep g hg trivial).2⟩
   have hv := ha.sim.slots 0
   rw [ha.s] at hv
   have hv' : VR c' (.slot 0 []) (.dat (.val (.bool b))) v := hv
   rw [(zaq hv').1]
 | _ => exact he.elim
end Go.Den
namespace Go.Den
open Go
set_option linter.unusedVariables false
inductive Hint where
 | yes
 | no
 | put (d : D)
 | to (f : St → St)
 | at (d : Dat)
 | ok
 | ret (rs : List D)
 | back (rs : List D) (u : List (List D)) (l : List (Option Row))
 | loop (s0 : St) (x : X) (s : St)
def Obs : List Prop → Prop
 | [] => True
 | p :: l => p ∧ Obs l
theorem zfR : ∀ {a b : List Prop}, Obs (a ++ b) → Obs a ∧ Obs b
 | [], b, h => ⟨trivial, h⟩
 | p :: a, b, h => by
   have h' : p ∧ Obs (a ++ b) := h
   obtain ⟨h1, h2⟩ := zfR h'.2
   exact ⟨⟨h'.1, h1⟩, h2⟩
abbrev zcF := List (Nat × Hint)
def ziG : zcF → Nat → Option Hint
 | [], _ => none
 | (a, x) :: l, n => match Nat.beq a n with | true => some x | false => ziG l n
def keyOf (o : Oper) : Option Nat :=
 match o.dst, o.op with
 | some n, _ => some n
 | none, .store _ (.tmp a) _ => some (100000 + a)
 | _, _ => none
def hadd {α : Type} (p : Prop) : Option (List Prop × α) → Option (List Prop × α)
 | some r => some (p :: r.1, r.2)
 | none => none
def zjQ {α : Type} (hs : zcF) (s : St) (x : Nat) (yes no : St → Option (List Prop × α)) (und : Option (List Prop × α)) : Option (List Prop × α) :=
 match s.t x with
 | .dat (.val (.bool b)) => match ziG hs (200000 + x) with
   | some .yes => hadd (b = true) (yes (s.force x true))
   | some .no => hadd (b = false) (no (s.force x false))
   | _ => match b with | true => yes (s.force x true) | false => no (s.force x false)
 | .undef => und
 | _ => none
def hcond {α : Type} (hs : zcF) (s : St) (c : Operand) (yes no : St → Option (List Prop × α)) : Option (List Prop × α) :=
 match c with
 | .tmp x => zjQ hs s x yes no none
 | .const (.bool v) => match v with | true => yes s | false => no s
 | _ => none
def ziD {α : Type} (hs : zcF) (ops : Array Oper) (s : St) (g : Option (Nat × Bool)) (k z : St → Option (List Prop × α)) : Option (List Prop × α) :=
 match g with
 | none => k s
 | some (j, want) => match (ops[j]?).bind (·.dst) with
   | none => none
   | some x => match want with
     | true => zjQ hs s x k z (z s)
     | false => zjQ hs s x z k (z s)
def Env.with (E : Env) (q : List D × List (List D) × List (Option Row)) : Env := { E with call := fun _ _ _ _ => some q }
def zdE (E : Env) (s : St) (o : Oper) : Option (Nat × List D × Bool) :=
 match o.op with
 | .call ca => match ca.callee with
   | .value z => match s.look z with
     | .fn f [] => match zbh (E.mode f) with
       | true => (match zem s.get (zay E s.look ca.args.toList ca.argTypes.toList) with
         | some r => some (f, r.1.map .dat, r.2)
         | none => none)
       | false => none
     | _ => none
   | _ => none
 | _ => none
def zjG (E : Env) (s : St) (f : Nat) (cap : List Ref) (args : List D) : Option (List D × List (List D) × List (Option Row)) :=
 (zan (E.mode f) args s).bind fun a =>
 (zaB a.2.get (E.mode f) a.1).bind fun ls =>
 match zaM ls with
 | false => none
 | true => match cap.isEmpty && a.1.all zgo with
   | true => (zas (hide ls false a.2.get) 0 [] (E.mode f) 0 a.1).map fun v => (v.1, [], ls.map fun p => some p.2)
   | false => match ls.all fun p => !p.1.ofCell with
     | false => none
     | true =>
       let keys := a.2.sent E.nt cap a.1; let m := a.2.upsSent keys cap a.1
       (zas (hide ls true a.2.get) m keys (E.mode f) 0 a.1).bind fun v =>
       (zbD m keys cap).bind fun caps =>
       (zdQ a.2 keys).bind fun bs => (zb7 m keys (a.2.u.take m ++ bs)).map fun us => (v.1 ++ caps.map (fun r => D.ptr r 0), us, ls.map fun p => some p.2)
def zcY (E : Env) (s : St) (o : Oper) : Option (Nat × List D × List (List D) × List (Option Row)) :=
 match o.op with
 | .call ca => match ca.callee with
   | .value z => match s.look z with
     | .fn f cap => match cap.isEmpty && (zbh (E.mode f) && (zem s.get (zay E s.look ca.args.toList ca.argTypes.toList)).isSome) with
       | true => none
       | false => (zjG E s f cap (zay E s.look ca.args.toList ca.argTypes.toList)).map fun r => (f, r)
     | _ => none
   | _ => none
 | _ => none
theorem zeM {E : Env} {s : St} {o : Oper} {rs : List D} {f : Nat} {args : List D} {fl : Bool} (h : zdE E s o = some (f, args, fl)) (hpl : D.plains rs = true) (hfl : fl = true → D.cleans rs = true) (hc : E.call f args [] [] = some (rs, [], [])) : evOp E s.look s.get s.box o.type o.op = some (.pure (retD rs)) ∧ evOp (E.with (rs, [], [])) s.look s.get s.box o.type o.op = some (.pure (retD rs)) := by
 unfold zdE at h
 split at h
 · rename_i ca ho
   split at h
   · rename_i z hz
     split at h
     · rename_i f' hf
       split at h
       · rename_i hm
         split at h
         · rename_i r hr
           · cases h
             have hcl : (r.2 && !D.cleans rs) = false := by
              cases hr2 : r.2 with
              | false => rfl
              | true => rw [hfl hr2]; rfl
             rw [ho]
             refine ⟨?_, ?_⟩
             · simp only [evOp, hz, hf, zcW, hm, hr, Option.bind_some, hc, zkn, hpl, hcl]
             · have hm' : zbh ((E.with (rs, [], [])).mode f) = true := hm
               have hr' : zem s.get (zay (E.with (rs, [], [])) s.look ca.args.toList ca.argTypes.toList) = some r := by
                rw [← hr]
                congr 1
                generalize ca.args.toList = zs
                generalize ca.argTypes.toList = ts
                induction zs generalizing ts with
                | nil => rfl
                | cons z zs ih => simp only [zay, ih]; rfl
               have hcc : (E.with (rs, [], [])).call f (r.1.map .dat) [] [] = some (rs, [], []) := rfl
               simp only [evOp, hz, hf, zcW, hm', hr', Option.bind_some, hcc, zkn, hpl, hcl]
         · cases h
       · cases h
     · cases h
   · cases h
 · cases h
theorem zkl {E : Env} {s : St} {o : Oper} {rs : List D} {f : Nat} {args : List D} {cs : List D} {l : List (Option Row)} (h : zdE E s o = some (f, args, false)) (hpl : D.plains rs = false) (hc : E.call f args [] [] = some (rs, [cs], l)) : evOp E s.look s.get s.box o.type o.op = some (.made cs) := by
 unfold zdE at h
 split at h
 · rename_i ca ho
   split at h
   · rename_i z hz
     split at h
     · rename_i f' hf
       split at h
       · rename_i hm
         split at h
         · rename_i r hr
           have h1 : r.2 = false := by injection h with h; injection h with _ h; injection h with _ h
           have h2 : f' = f ∧ r.1.map D.dat = args := by injection h with h; injection h with h3 h; injection h with h4 _; exact ⟨h3, h4⟩
           obtain ⟨rfl, rfl⟩ := h2
           rw [ho]
           simp only [evOp, hz, hf, zcW, hm, hr, Option.bind_some, hc, zkn, hpl, h1]
         · cases h
       · cases h
     · cases h
   · cases h
 · cases h
theorem zcJ {E : Env} {q : List D × List (List D) × List (Option Row)} {lk : Operand → D} : ∀ (zs : List Operand) (ts : List Nat), zay (E.with q) lk zs ts = zay E lk zs ts
 | [], ts => rfl
 | z :: zs, ts => by simp only [zay, zcJ zs]; rfl
theorem zeI {E : Env} {s : St} {o : Oper} {q : List D × List (List D) × List (Option Row)} {r : Nat × List D × List (List D) × List (Option Row)} (h : zcY E s o = some r) (hc : E.call r.1 r.2.1 r.2.2.1 r.2.2.2 = some q) : step E s o = step (E.with q) s o := by
 unfold zcY at h
 split at h
 · rename_i ca ho
   split at h
   · rename_i z hz
     split at h
     · rename_i f cap hf
       split at h
       · cases h
       · rename_i hdead
         simp only [Option.map_eq_some_iff] at h
         obtain ⟨⟨a, u, l⟩, hdo, rfl⟩ := h
         simp only at hc
         have hev : ∀ E', E'.mode = E.mode → zay E' s.look ca.args.toList ca.argTypes.toList = zay E s.look ca.args.toList ca.argTypes.toList → evOp E' s.look s.get s.box o.type o.op = none := by
          intro E' hm ha
          rw [ho]
          simp only [evOp, hz, hf]
          cases cap with
          | cons r rs => rfl
          | nil =>
            simp only [List.isEmpty_nil, Bool.true_and] at hdead
            simp only [zcW, hm, ha]
            cases hz : zbh (E.mode f) with
            | false => rfl
            | true =>
              rw [hz, Bool.true_and] at hdead
              cases hv : zem s.get (zay E s.look ca.args.toList ca.argTypes.toList) with
              | none => rfl
              | some r => rw [hv] at hdead; cases hdead
         unfold step
         rw [hev E rfl rfl, hev (E.with q) rfl (zcJ _ _)]
         simp only [ho, doOp, hz, hf, zcJ]
         unfold zjG at hdo
         unfold zfC
         simp only [Option.bind_eq_some_iff] at hdo
         obtain ⟨a1, h1, ls, h2, hdo⟩ := hdo
         have h1' : zan ((E.with q).mode f) (zay E s.look ca.args.toList ca.argTypes.toList) s = some a1 := h1
         have h2' : zaB a1.2.get ((E.with q).mode f) a1.1 = some ls := h2
         simp only [h1, h1', h2, h2', Option.bind_some]
         split at hdo
         · cases hdo
         · rename_i hdis
           simp only [hdis]
           split at hdo
           · rename_i hcl
             simp only [hcl]
             simp only [Option.map_eq_some_iff, Prod.mk.injEq] at hdo
             obtain ⟨v, hv, rfl, rfl, rfl⟩ := hdo
             have hv' : zas (hide ls false a1.2.get) 0 [] ((E.with q).mode f) 0 a1.1 = some v := hv
             simp only [hv, hv', Option.bind_some, hc]
             rfl
           · rename_i hcl
             simp only [hcl]
             split at hdo
             · cases hdo
             · rename_i hnc
               simp only [hnc]
               simp only [Option.bind_eq_some_iff, Option.map_eq_some_iff, Prod.mk.injEq] at hdo
               obtain ⟨v, hv, caps, hcaps, bs, hbs, us, hus, rfl, rfl, rfl⟩ := hdo
               have hv' : zas (hide ls true a1.2.get) (a1.2.upsSent (a1.2.sent (E.with q).nt cap a1.1) cap a1.1) (a1.2.sent (E.with q).nt cap a1.1) ((E.with q).mode f) 0 a1.1 = some v := hv
               have e2 : (E.with q).nt = E.nt := rfl
               simp only [e2] at hv' ⊢
               simp only [hv, hv', Option.bind_some, hcaps, hbs, hus, hc]
               rfl
     · cases h
   · cases h
 · cases h
def zkU (E : Env) (s : St) (hd : Option Dat) : Op → Option (Prop × D)
 | .indexAddr t x i => (E.ty t).bind fun k => match k.kind with
   | .slice e => (E.ty e).bind fun j => (intOf (s.look i)).bind fun n => match s.look x, hd with
     | .dat (.lst b es), some d => (match Nat.beq d.cells.length j.sz with | true => some ((0 ≤ n ∧ n < es.length) ∧ es[n.toNat]? = some d, .ep b d.cells) | false => none)
     | .bor p m, none => (s.get p).bind fun r => match Nat.beq r.1 e with | true => some (0 ≤ n ∧ n < (zaT m r.2).length, .bp p n.toNat 0) | false => none
     | _, _ => none
   | _ => none
 | .load t x => (E.ty t).bind fun i => match s.look x, hd with
   | .bp p j o, some d => (s.get p).bind fun r => (zcv i (d.cells.drop o)).map fun x => (r.2[j]? = some d, .dat x)
   | _, _ => none
 | .slice t x lo hi mx => match mx with
   | none => (zcr E.ty t).bind fun st => (zci s.look lo).bind fun l => (zci s.look hi).bind fun h => match st, s.look x with
     | none, .dat (.val (.string b)) => some (0 ≤ l.getD 0 ∧ l.getD 0 ≤ h.getD b.size ∧ h.getD b.size ≤ b.size, .dat (.val (.string (b.extract (l.getD 0).toNat (h.getD b.size).toNat))))
     | some n, .dat (.lst b es) => some ((0 ≤ l.getD 0 ∧ l.getD 0 ≤ h.getD es.length ∧ h.getD es.length ≤ es.length) ∧ wid n es = true, .dat (.lst b ((es.take (h.getD es.length).toNat).drop (l.getD 0).toNat)))
     | some n, .bor p m => (match l, h with
       | none, some h => (s.get p).bind fun r => some (0 ≤ h ∧ h ≤ (zaT m r.2).length, .bor p (some h.toNat))
       | some l, none => (match m with | none => (s.get p).bind fun r => (E.ty r.1).bind fun i => (match Nat.beq i.sz n with | true => some (0 ≤ l ∧ l ≤ r.2.length, .sb p l.toNat n) | false => none) | some _ => none)
       | _, _ => none)
     | _, _ => none
   | some _ => none
 | .index t x i => (E.ty t).bind fun k => (intOf (s.look i)).bind fun n => match s.look x, k.kind with
   | .dat (.val (.string s)), .str => some (0 ≤ n ∧ n < s.size, .dat (.val (.int .u8 ((s[n.toNat]?).getD 0).toNat)))
   | _, _ => none
 | .binOp op t x y _ => match op, s.look x, s.look y, hd with
   | .rem, .dat (.val (.int k a)), .dat (.val (.int k' b)), none => match decide (k = k') with
     | true => some (b ≠ 0, .dat (.val (.int k (a.tmod b))))
     | false => none
   | .quo, .dat (.val (.int k a)), .dat (.val (.int k' b)), none => match decide (k = k') with
     | true => some (b ≠ 0, .dat (.val (.int k (k.wrap (a.tdiv b)))))
     | false => none
   | .add, .dat (.val (.string a)), .dat (.val (.string b)), none => some (a.size + b.size ≤ 9223372036854775807, .dat (.val (.string (a ++ b))))
   | _, _, _, _ => none
 | .makeSlice t l c => (E.ty t).bind fun i => match i.kind with
   | .slice e => (E.ty e).bind fun j => j.zeroD.bind fun z => (intOf (s.look l)).bind fun n => (intOf (s.look c)).bind fun m =>
     match Nat.ble j.bytes 65536 with
     | true => some (0 ≤ n ∧ n ≤ m ∧ m ≤ 2147483648, .own e (List.replicate n.toNat z))
     | false => none
   | _ => none
 | .lookup t m k ok => (E.ty t).bind fun i => match i.kind with
   | .map kt et => (E.ty kt).bind fun kj => (E.ty et).bind fun ej => match ziU kj.kind, s.look m, s.look k, hd, ok with
     | true, .etc (.map r), .dat (.val kv), some (.val b), false => (s.box r).bind fun cs => match isM cs with
       | true => some (zdo kj.kind kv cs.tail = some (some b), .dat (.val b))
       | false => none
     | _, _, _, _, _ => none
   | _ => none
 | _ => none
theorem zfe {E : Env} {s : St} {hd : Option Dat} {op : Op} {ty : Nat} {p : Prop} {d : D} (h : zkU E s hd op = some (p, d)) (hp : p) : evOp E s.look s.get s.box ty op = some (.pure d) := by
 unfold zkU at h
 split at h
 · rename_i t x i
   simp only [Option.bind_eq_some_iff] at h
   obtain ⟨k, hk, h⟩ := h
   simp only [evOp, hk, Option.bind_some]
   split at h
   · rename_i e hke
     simp only [Option.bind_eq_some_iff] at h
     obtain ⟨j, hj, n, hn, h⟩ := h
     simp only [hke, hj, Option.bind_some, hn]
     split at h
     · rename_i b es dd hx
       split at h
       · rename_i hb
         cases h
         obtain ⟨h1, h2⟩ := hp
         simp only [hx, zbN, h1, h2, and_self, if_true, Option.bind_some, hb, Option.map_some]
       · cases h
     · rename_i pl m hx
       simp only [Option.bind_eq_some_iff] at h
       obtain ⟨r, hr, h⟩ := h
       split at h
       · rename_i hb
         cases h
         simp only [hx, zbN, hr, Option.bind_some, hb, hp, and_self, if_true, Option.map_some]
       · cases h
     · cases h
   · cases h
 · rename_i t x
   simp only [Option.bind_eq_some_iff] at h
   obtain ⟨i, hi, h⟩ := h
   simp only [evOp, hi, Option.bind_some]
   split at h
   · rename_i pl j o dd hx
     simp only [Option.bind_eq_some_iff, Option.map_eq_some_iff, Prod.mk.injEq] at h
     obtain ⟨r, hr, y, hy, rfl, rfl⟩ := h
     simp only [hx, zcp, hr, Option.bind_some, hp, hy, Option.map_some]
   · cases h
 · rename_i t x lo hi mx
   split at h
   · simp only [Option.bind_eq_some_iff] at h
     obtain ⟨st, hst, l, hl, hh, hhi, h⟩ := h
     simp only [evOp, hst, hl, hhi, Option.bind_some]
     split at h
     · rename_i b hx
       cases h
       simp only [hx, zgJ, zb0, hp, and_self, if_true, Option.map_some]
     · rename_i n b es hx
       cases h
       obtain ⟨h1, h2⟩ := hp
       simp only [hx, zgJ, zb0, h1, h2, and_self, if_true, Option.map_some]
     · rename_i n pl m hx
       split at h
       · rename_i hhv
         simp only [Option.bind_eq_some_iff] at h
         obtain ⟨r, hr, h⟩ := h
         cases h
         simp only [hx, zgJ, hr, Option.bind_some, hp, and_self, if_true, Option.map_some]
       · cases m with
         | none =>
           simp only [Option.bind_eq_some_iff] at h
           obtain ⟨r, hr, ii, hii, h⟩ := h
           split at h
           · rename_i hb
             cases h
             simp only [hx, zgJ, hr, Option.bind_some, hii, hb, hp, and_self, if_true, Option.map_some]
           · cases h
         | some m => cases h
       · cases h
     · cases h
   · cases h
 · rename_i t x i
   simp only [Option.bind_eq_some_iff] at h
   obtain ⟨k, hk, n, hn, h⟩ := h
   simp only [evOp, hk, hn, Option.bind_some]
   split at h
   · rename_i b hx hkk
     cases h
     simp only [hx, hkk]
     rw [dif_pos hp]
     have : b[n.toNat]? = some (b[n.toNat]'(by omega)) := getElem?_pos b n.toNat (by omega)
     rw [this]
     rfl
   · cases h
 · rename_i op t x y ky
   split at h
   · rename_i k a k' b hx hy
     split at h
     · rename_i hk
       cases h
       simp [evOp, hx, hy, zfW, binD, binV, zhj, hk, hp]
     · cases h
   · rename_i k a k' b hx hy
     split at h
     · rename_i hk
       cases h
       simp [evOp, hx, hy, zfW, binD, binV, zhj, hk, hp]
     · cases h
   · rename_i a b hx hy
     cases h
     simp only [evOp, hx, hy, zfW, binD, binV, zhj]
     rw [if_pos hp]
     rfl
   · cases h
 · rename_i t l c
   simp only [Option.bind_eq_some_iff] at h
   obtain ⟨i, hi, h⟩ := h
   simp only [evOp, hi, Option.bind_some]
   split at h
   · rename_i e hk
     simp only [Option.bind_eq_some_iff] at h
     obtain ⟨j, hj, z, hz, n, hn, m, hm, h⟩ := h
     split at h
     · rename_i hb
       cases h
       simp only [hk, hj, hz, hn, hm, Option.bind_some, hp, and_self, if_true, hb]
     · cases h
   · cases h
 · rename_i t m k ok
   simp only [Option.bind_eq_some_iff] at h
   obtain ⟨i, hi, h⟩ := h
   split at h
   · rename_i kt et hk
     simp only [Option.bind_eq_some_iff] at h
     obtain ⟨kj, hkj, ej, hej, h⟩ := h
     split at h
     · rename_i r kv b hkt hm hkk
       simp only [Option.bind_eq_some_iff] at h
       obtain ⟨cs, hcs, h⟩ := h
       split at h
       · rename_i hM
         cases h
         simp only [evOp, hi, Option.bind_some, hk, hkj, hej, hkt, hm, hkk, hcs, hM, hp, ziC, Option.map_some]
       · cases h
     · cases h
   · cases h
 · cases h
def zjV (E : Env) (s : St) (x : Option Nat) : Op → Option (Prop × St)
 | .call c => match c.callee with
   | .builtin .append => match c.args.toList, c.argTypes.toList with
     | [a, b], [t, u] => (E.ty t).bind fun i => match i.kind with
       | .slice e => match Nat.beq t u with
         | true => (zfo s.get (s.look b)).bind fun es2 => (zbe s e a).bind fun r => (E.ty e).bind fun i =>
           match Nat.beq r.1.1 e && Nat.ble i.bytes 65536 && Nat.blt 0 i.sz with
           | true => some (es2.all (fun d => Nat.beq d.cells.length i.sz) = true ∧ r.1.2.length + es2.length ≤ 2147483648, r.2.putO x (.own e (r.1.2 ++ es2)))
           | false => none
         | false => (E.ty e).bind fun j => (E.ty u).bind fun k => match zgY j, k.kind, s.look b with
           | true, .str, .dat (.val (.string w)) => (zbe s e a).bind fun r => match Nat.beq r.1.1 e && Nat.ble j.bytes 65536 && Nat.blt 0 j.sz with
             | true => some ((zaV w).all (fun d => Nat.beq d.cells.length j.sz) = true ∧ r.1.2.length + (zaV w).length ≤ 2147483648, r.2.putO x (.own e (r.1.2 ++ zaV w)))
             | false => none
           | _, .int _, .dat (.val (.int .i64 n)) => (zbe s e a).bind fun r => j.zeroD.bind fun z => match Nat.beq r.1.1 e && Nat.ble j.bytes 65536 && Nat.blt 0 j.sz && decide (0 ≤ n) with
             | true => some (r.1.2.length + n.toNat ≤ 2147483648, r.2.putO x (.own e (r.1.2 ++ List.replicate n.toNat z)))
             | false => none
           | _, _, _ => none
       | _ => none
     | _, _ => none
   | _ => none
 | .convert t u y => (E.ty t).bind fun i => match i.kind with
   | .slice e => (E.ty e).bind fun j => (E.ty u).bind fun k => match j.kind, k.kind with
     | .int .u8, .str => (zfo s.get (s.look y)).bind fun es => x.map fun n => (zk0 es ≠ none, s.put n (.dat (.val ((zk0 es).getD (.string ByteArray.empty)))))
     | _, _ => none
   | _ => none
 | _ => none
theorem zhg {E : Env} {s : St} {o : Oper} {p : Prop} {s' : St} (h : zjV E s o.dst o.op = some (p, s')) (hp : p) : step E s o = some s' := by
 unfold zjV at h
 split at h
 · rename_i c ho
   split at h
   · rename_i hc
     split at h
     · rename_i a b t u ha hat
       simp only [Option.bind_eq_some_iff] at h
       obtain ⟨i, hi, h⟩ := h
       split at h
       · rename_i e hk
         split at h
         · rename_i htu
           simp only [Option.bind_eq_some_iff] at h
           obtain ⟨es2, hes, r, hr, i2, hi2, h⟩ := h
           split at h
           · rename_i hcond
             cases h
             have hev : evOp E s.look s.get s.box o.type o.op = none := by rw [ho]; simp only [evOp, hc]
             unfold step
             rw [hev]
             have hes' : zgZ s.get false (s.look b) = some es2 := by
              unfold zgZ
              split
              · rename_i he
                rw [he] at hes
                cases hes
              · exact hes
             simp only [ho, doOp, hc, ha, hat, hi, Option.bind_some, hk, htu, zb9, hes', hr, hi2, hcond, hp.1, Bool.and_self, hp.2, if_true]
           · cases h
         · rename_i htu
           simp only [Option.bind_eq_some_iff] at h
           obtain ⟨j, hj, k, hkj, h⟩ := h
           split at h
           · rename_i w hib huk hw
             simp only [Option.bind_eq_some_iff] at h
             obtain ⟨r, hr, h⟩ := h
             split at h
             · rename_i hcond
               cases h
               have hev : evOp E s.look s.get s.box o.type o.op = none := by rw [ho]; simp only [evOp, hc]
               unfold step
               rw [hev]
               have hes' : zgZ s.get true (s.look b) = some (zaV w) := by rw [hw]; rfl
               simp only [ho, doOp, hc, ha, hat, hi, Option.bind_some, hk, htu, hj, hkj, hib, huk, zb9, hes', hr, hcond, hp.1, Bool.and_self, hp.2, if_true]
             · cases h
           · rename_i nn huk hw
             simp only [Option.bind_eq_some_iff] at h
             obtain ⟨r, hr, z, hz, h⟩ := h
             split at h
             · rename_i hcond
               cases h
               have hev : evOp E s.look s.get s.box o.type o.op = none := by rw [ho]; simp only [evOp, hc]
               unfold step
               rw [hev]
               have hes' : intOf (s.look b) = some nn := by rw [hw]; exact rfl
               simp only [ho, doOp, hc, ha, hat, hi, Option.bind_some, hk, htu, hj, hkj, huk]
               simp only [zeW, hes', hr, hz, hj, Option.bind_some, hcond, hp, if_true]
             · cases h
           · cases h
       · cases h
     · cases h
   · cases h
 · rename_i t u y ho
   simp only [Option.bind_eq_some_iff] at h
   obtain ⟨i, hi, h⟩ := h
   split at h
   · rename_i e hk
     simp only [Option.bind_eq_some_iff] at h
     obtain ⟨j, hj, k, hkk, h⟩ := h
     split at h
     · rename_i hjk hku
       simp only [Option.bind_eq_some_iff, Option.map_eq_some_iff, Prod.mk.injEq] at h
       obtain ⟨es, hes, n, hn, rfl, rfl⟩ := h
       obtain ⟨v, hv⟩ := Option.ne_none_iff_exists'.1 hp
       have hconv : zkL (some i) (some k) (s.look y) = none := by
        cases hy : s.look y with
        | dat d => cases d with
          | val w => rw [hy] at hes; cases hes
          | agg cs => rfl
          | lst b l => rfl
        | _ => rfl
       have hev : evOp E s.look s.get s.box o.type o.op = none := by rw [ho]; simp only [evOp, hi, hkk, Option.bind_some, hconv, Option.map_none]
       unfold step
       rw [hev]
       simp only [ho, doOp, zcq, hi, hj, hkk, Option.bind_some, hk, hjk, hku, hes, hv, hn, Option.map_some, Option.getD_some]
     · cases h
   · cases h
 · cases h
def zlW (E : Env) (s : St) (hd : Dat) : Op → Option (Prop × St)
 | .store t a y => match ze9 y with
   | true => none
   | false => (E.ty t).bind fun i => match s.look a with
     | .bp p j o => (s.datD (s.look y)).bind fun q => match Nat.beq q.1.cells.length i.sz with
       | false => none
       | true => (q.2.get p).bind fun r => (zfk hd o q.1.cells).map fun d' => (r.2[j]? = some hd, q.2.setPl p (.own r.1 (r.2.set j d')))
     | _ => none
 | _ => none
theorem zhL {E : Env} {s : St} {hd : Dat} {o : Oper} {p : Prop} {s' : St} (h : zlW E s hd o.op = some (p, s')) (hp : p) : step E s o = some s' := by
 unfold zlW at h
 split at h
 · rename_i t a y ho
   split at h
   · cases h
   · rename_i hn
     simp only [Option.bind_eq_some_iff] at h
     obtain ⟨i, hi, h⟩ := h
     split at h
     · rename_i pl j off ha
       simp only [Option.bind_eq_some_iff] at h
       obtain ⟨q, hq, h⟩ := h
       split at h
       · cases h
       · rename_i hb
         simp only [Option.bind_eq_some_iff, Option.map_eq_some_iff, Prod.mk.injEq] at h
         obtain ⟨r, hr, d', hd', rfl, rfl⟩ := h
         have hev : evOp E s.look s.get s.box o.type o.op = none := by rw [ho]; simp only [evOp]
         unfold step
         rw [hev]
         simp only [ho, doOp, hn, zcd, hi, Option.bind_some, ha, hq, hb, hr, hp, hd', Option.map_some]
     · cases h
 · cases h
def zmI {α : Type} (b : Bool) (p : Prop) (r : Option (List Prop × α)) : Option (List Prop × α) := match b with | true => hadd p r | false => r
def zjx (E : Env) (s : St) (x : Option Nat) (f : Nat) (cap : List Ref) (args : List D) (q : List D × List (List D) × List (Option Row)) : Option (Prop × St) :=
 (zan (E.mode f) args s).bind fun a =>
 (zaB a.2.get (E.mode f) a.1).bind fun ls =>
 match zaM ls with
 | false => none
 | true => match cap.isEmpty && a.1.all zgo with
   | true => (zas (hide ls false a.2.get) 0 [] (E.mode f) 0 a.1).bind fun v =>
     (zbq a.2 ls q.2.2).map fun s => (((v.2 && !(D.cleans q.1 && za1 q.2.2)) || !D.plains q.1) = false, s.putO x (retD q.1))
   | false => match ls.all fun p => !p.1.ofCell with
     | false => none
     | true =>
       let keys := a.2.sent E.nt cap a.1; let m := a.2.upsSent keys cap a.1
       (zas (hide ls true a.2.get) m keys (E.mode f) 0 a.1).bind fun v =>
       (zbq (a.2.regain m keys q.2.1) ls q.2.2).map fun s => (((v.2 && !(D.cleans q.1 && (za1 q.2.2 && zbd q.2.1))) || !D.plains q.1) = false, s.putO x (retD q.1))
def zms (E : Env) (s : St) (o : Oper) (q : List D × List (List D) × List (Option Row)) : Option (Prop × St) :=
 match o.op with
 | .call ca => match ca.callee with
   | .value z => match s.look z with
     | .fn f cap => zjx E s o.dst f cap (zay E s.look ca.args.toList ca.argTypes.toList) q
     | _ => none
   | _ => none
 | _ => none
theorem zhT {E : Env} {s : St} {o : Oper} {q : List D × List (List D) × List (Option Row)} {r : Nat × List D × List (List D) × List (Option Row)} {p : Prop} {s' : St} (h : zcY E s o = some r) (hc : E.call r.1 r.2.1 r.2.2.1 r.2.2.2 = some q) (hh : zms E s o q = some (p, s')) (hp : p) : step E s o = some s' := by
 unfold zcY at h
 unfold zms at hh
 split at h
 · rename_i ca ho
   simp only [ho] at hh
   split at h
   · rename_i z hz
     simp only [hz] at hh
     split at h
     · rename_i f cap hf
       simp only [hf] at hh
       split at h
       · cases h
       · rename_i hdead
         simp only [Option.map_eq_some_iff] at h
         obtain ⟨⟨a, u, l⟩, hdo, rfl⟩ := h
         simp only at hc
         have hev : evOp E s.look s.get s.box o.type o.op = none := by
          rw [ho]
          simp only [evOp, hz, hf]
          cases cap with
          | cons r rs => rfl
          | nil =>
            simp only [List.isEmpty_nil, Bool.true_and] at hdead
            simp only [zcW]
            cases hz : zbh (E.mode f) with
            | false => rfl
            | true =>
              rw [hz, Bool.true_and] at hdead
              cases hv : zem s.get (zay E s.look ca.args.toList ca.argTypes.toList) with
              | none => rfl
              | some r => rw [hv] at hdead; cases hdead
         unfold step
         rw [hev]
         simp only [ho, doOp, hz, hf]
         unfold zjG at hdo
         unfold zfC
         unfold zjx at hh
         simp only [Option.bind_eq_some_iff] at hdo
         obtain ⟨a1, h1, ls, h2, hdo⟩ := hdo
         simp only [h1, h2, Option.bind_some] at hh ⊢
         split at hdo
         · cases hdo
         · rename_i hdis
           simp only [hdis] at hh ⊢
           split at hdo
           · rename_i hcl
             simp only [hcl] at hh ⊢
             simp only [Option.map_eq_some_iff, Prod.mk.injEq] at hdo
             obtain ⟨v, hv, rfl, rfl, rfl⟩ := hdo
             simp only [hv, Option.bind_some, Option.map_eq_some_iff, Prod.mk.injEq] at hh ⊢
             obtain ⟨s3, hg, rfl, rfl⟩ := hh
             simp only [hc, Option.bind_some, hp, hg, Option.map_some]
           · rename_i hcl
             simp only [hcl] at hh ⊢
             split at hdo
             · cases hdo
             · rename_i hnc
               simp only [hnc] at hh ⊢
               simp only [Option.bind_eq_some_iff, Option.map_eq_some_iff, Prod.mk.injEq] at hdo
               obtain ⟨v, hv, caps, hcaps, bs, hbs, us, hus, rfl, rfl, rfl⟩ := hdo
               simp only [hv, Option.bind_some, Option.map_eq_some_iff, Prod.mk.injEq] at hh ⊢
               obtain ⟨s3, hg, rfl, rfl⟩ := hh
               simp only [hcaps, hbs, hus, Option.bind_some, hc, hp, hg, Option.map_some]
     · cases h
   · cases h
 · cases h
def hop {α : Type} (E : Env) (hs : zcF) (run : Env → St → Oper → Option St) (view : St → St) (pu ap : Oper → Bool) (s : St) (o : Oper) (k : St → Option (List Prop × α)) : Option (List Prop × α) :=
 match (keyOf o).bind (ziG hs) with
 | some (.put d) => hadd (run E s o = some (s.putO o.dst d)) (k (s.putO o.dst d))
 | some (.to f) => hadd (run E s o = some (f s)) (k (f s))
 | some (.at d) => match zkU E s (some d) o.op with
   | some (p, d) => (match o.dst, pu o with | some n, true => hadd p (k (s.put n d)) | _, _ => none)
   | none => (match zlW E s d o.op, ap o with | some (p, s'), true => hadd p (k s') | _, _ => none)
 | some .ok => match zkU E s none o.op with
   | some (p, d) => (match o.dst, pu o with | some n, true => hadd p (k (s.put n d)) | _, _ => none)
   | none => (match zjV E s o.dst o.op, ap o with | some (p, s'), true => hadd p (k s') | _, _ => none)
 | some (.ret rs) => match D.plains rs, zdE E (view s) o with
   | true, some (f, args, fl) => zmI fl (D.cleans rs = true) (hadd (E.call f args [] [] = some (rs, [], [])) (match pu o, o.dst with | true, some n => k (s.put n (retD rs)) | _, _ => (run (E.with (rs, [], [])) s o).bind k))
   | _, _ => none
 | some (.back rs u l) => match zcY E (view s) o with
   | some (f, args, us, ls) => hadd (E.call f args us ls = some (rs, u, l)) (match ap o with
     | true => (match zms E s o (rs, u, l) with | some (p, s') => hadd p (k s') | none => none)
     | false => (run (E.with (rs, u, l)) s o).bind k)
   | none => match zdE E (view s) o, D.plains rs, u, ap o with
     | some (f, args, false), false, [cs], true => hadd (E.call f args [] [] = some (rs, [cs], l)) ((s.apply o.dst (.made cs)).bind k)
     | _, _, _, _ => none
 | _ => (run E s o).bind k
def hops (E : Env) (hs : zcF) (ops : Array Oper) : List Oper → St → Option (List Prop × St)
 | [], s => some ([], s)
 | o :: l, s => ziD hs ops s o.guard (fun s => hop E hs step (fun s => s) (fun _ => true) (fun _ => true) s o (hops E hs ops l)) (fun s => hops E hs ops l (s.putO o.dst .undef))
def zdY (M : Option (List Nat)) (k : Nat) (s : St) : St :=
 match k with
 | 0 => s
 | 1 => s
 | 2 => s
 | 3 => s
 | _ => match M with | none => s | some M => s.hid M
def zjz : Op → Bool
 | .load _ _ => true
 | _ => false
def zif (M : Option (List Nat)) (k : Nat) (o : Oper) : Bool :=
 match k with
 | 0 => zfE o.op
 | 1 => zjz o.op && M.isNone
 | 2 => true
 | 3 => false
 | _ => M.isNone
def zdh (E : Env) (hs : zcF) (ops : Array Oper) (M : Option (List Nat)) : Bool → List PRow → St → Option (List Prop × St)
 | _, [], s => some ([], s)
 | first, (i, k, ds) :: l, s => match zdO s ds with
   | false => none
   | true => match ops[i]? with
     | none => none
     | some o => ziD hs ops s o.guard (fun s => match k with
       | 5 => (match zj5 M s o with | true => hop E hs step (fun s => s) (fun _ => true) (fun _ => true) s o (zdh E hs ops M (first && zbt k) l) | false => none)
       | 6 => hop E hs (fun E => zaL E none first 4) (zdY none 4) (zif none 4) (fun _ => false) s o (zdh E hs ops M (first && zbt k) l)
       | 7 => hop E hs (fun E => zaL E none first 4) (zdY none 4) (zif none 4) (fun _ => false) s o (zdh E hs ops M (first && zbt k) l)
       | 8 => hop E hs (fun E => zaL E none first 4) (zdY none 4) (zif none 4) (fun _ => false) s o (zdh E hs ops M (first && zbt k) l)
       | 9 => (match zjw o.op with | true => hop E hs step (fun s => s) (fun _ => true) (fun _ => true) s o (zdh E hs ops M (first && zbt k) l) | false => none)
       | 10 => (match zbG s o with | true => hop E hs step (fun s => s) (fun _ => true) (fun _ => true) s o (zdh E hs ops M (first && zbt k) l) | false => none)
       | 11 => (match zbE s o with | true => hop E hs step (fun s => s) (fun _ => true) (fun _ => true) s o (zdh E hs ops M (first && zbt k) l) | false => none)
       | 12 => (match M with | none => (match zes E s o with | true => hop E hs step (fun s => s) (fun _ => true) (fun _ => true) s o (zdh E hs ops none (first && zbt k) l) | false => none) | some _ => none)
       | 13 => (match zcL E s o with | true => hop E hs step (fun s => s) (fun _ => true) (fun _ => true) s o (zdh E hs ops M (first && zbt k) l) | false => none)
       | k => hop E hs (fun E => zaL E M first k) (zdY M k) (zif M k) (fun _ => Nat.beq k 2) s o (zdh E hs ops M (first && zbt k) l)) (fun s => zdh E hs ops M (first && zbt k) l (s.putO o.dst .undef))
def zmY (E : Env) (hs : zcF) (ops : Array Oper) (p : Plan) (s : St) : Option (List Prop × St) :=
 match p.2 with
 | [] => some ([], s)
 | (i, k, ds) :: l => match zfQ s ds with
   | true => zdh E hs ops p.1 true ((i, k, ds) :: l) (s.junks ds)
   | false => none
def zhI (E : Env) (hs : zcF) (id : Nat) (ops : Array Oper) (draw : Bool) (s : St) : Option (List Prop × St) :=
 match draw with
 | false => hops E hs ops ops.toList s
 | true => match E.plan id with
   | some p => zmY E hs ops p s
   | none => none
def zkQ (r : Option (List Prop × X × St)) (k : X → St → Option (List Prop × X × St)) : Option (List Prop × X × St) :=
 match r with
 | some (ps, x, s) => match k x s with
   | some q => some (ps ++ q.1, q.2)
   | none => none
 | none => none
def zlc : List Nat → List D → Nat → D
 | a :: L, d :: ds, x => match Nat.beq a x with | true => d | false => zlc L ds x
 | _, _, _ => .junk
def zli : List Nat → List (Option (List D)) → Nat → Option (List D)
 | a :: L, d :: ds, x => match Nat.beq a x with | true => d | false => zli L ds x
 | _, _, _ => none
def Nm (L : List Nat) (ds : List D) (bs : List (Option (List D))) (u : List (List D)) (l : List (Option Row)) : St := ⟨zlc L ds, zli L bs, u, l⟩
def nmOf (L : List Nat) (s : St) : St := Nm L (L.map fun x => (s.t x).kill (Kill.but L)) (L.map fun x => (s.b x).map (D.kills (Kill.but L))) (s.u.map (D.kills (Kill.but L))) s.l
def zjA (E : Env) (n : Nat) (c : Code) (s0 : St) (x : X) (s' : St) : Prop := ∀ s : St, s.norm (E.live (zaa c)) = s0 → exec E n (.loop c) s = some (x, s')
def zcj (E : Env) (n : Nat) (hs : zcF) : Code → St → Option (List Prop × X × St)
 | .skip, s => some ([], .normal, s)
 | .region id ops draw, s => match zhI E hs id ops draw s with | some r => some (r.1, .normal, r.2) | none => none
 | .seq a b, s => zkQ (zcj E n hs a s) fun x s' => match x with
   | .normal => zcj E n hs b s'
   | x => some ([], x, s')
 | .cond c a b, s => hcond hs s c (zcj E n hs a) (zcj E n hs b)
 | .block id c, s => zkQ (zcj E n hs c s) fun x s' => match x with
   | .exit i => (match Nat.beq i id with | true => some ([], .normal, s') | false => some ([], .exit i, s'))
   | x => some ([], x, s')
 | .loop c, s => match ziG hs (300000 + zaa c) with
   | some (.loop s0 x s') => some ([nmOf (E.live (zaa c)) s = s0, zjA E n c s0 x s'], x, s')
   | _ => none
 | .exit id, s => some ([], .exit id, s)
 | .ret, s => some ([], .ret, s)
 | _, _ => none
theorem nbeq_eq {a b : Nat} : Nat.beq a b = true ↔ a = b := ⟨Nat.eq_of_beq_eq_true, fun h => by rw [h]; exact Nat.beq_refl b⟩
theorem nbeq_ne {a b : Nat} : Nat.beq a b = false ↔ a ≠ b := ⟨Nat.ne_of_beq_eq_false, fun h => by
 cases hb : Nat.beq a b with
 | false => rfl
 | true => exact (h (Nat.eq_of_beq_eq_true hb)).elim⟩
theorem zcP {a x : Nat} {l : List Nat} : memN x (a :: l) = (Nat.beq x a || memN x l) := by
 show (match Nat.beq x a with | true => true | false => memN x l) = _
 cases Nat.beq x a <;> rfl
theorem zhz {f : Nat → D} {x : Nat} : ∀ {L : List Nat}, zlc L (L.map f) x = match memN x L with | true => f x | false => .junk
 | [] => rfl
 | a :: L => by
   simp only [List.map_cons, zlc]
   cases h : Nat.beq a x with
   | true => rw [nbeq_eq.1 h, zcP]; simp
   | false =>
     have h2 : Nat.beq x a = false := nbeq_ne.2 (fun e => nbeq_ne.1 h e.symm)
     simp only [zhz (L := L), zcP, h2, Bool.false_or]
theorem zhs {f : Nat → Option (List D)} {x : Nat} : ∀ {L : List Nat}, zli L (L.map f) x = match memN x L with | true => f x | false => none
 | [] => rfl
 | a :: L => by
   simp only [List.map_cons, zli]
   cases h : Nat.beq a x with
   | true => rw [nbeq_eq.1 h, zcP]; simp
   | false =>
     have h2 : Nat.beq x a = false := nbeq_ne.2 (fun e => nbeq_ne.1 h e.symm)
     simp only [zhs (L := L), zcP, h2, Bool.false_or]
theorem zig (L : List Nat) (s : St) : s.norm L = nmOf L s := by
 simp only [St.norm, nmOf, Nm, St.mk.injEq, and_true]
 refine ⟨funext fun x => ?_, funext fun x => ?_⟩
 · rw [zhz]; cases memN x L <;> rfl
 · rw [zhs]; cases memN x L <;> rfl
theorem zaN {α : Type} {p : Prop} {r : Option (List Prop × α)} {q : List Prop × α} (h : hadd p r = some q) : ∃ ps, r = some (ps, q.2) ∧ q.1 = p :: ps := by
 unfold hadd at h
 split at h
 · rename_i r'
   cases h
   exact ⟨r'.1, rfl, rfl⟩
 · cases h
section
variable {E : Env} {hs : zcF} {ops : Array Oper}
theorem zcZ {α β : Type} {s : St} {x : Nat} {yes no : St → Option (List Prop × α)} {und : Option (List Prop × α)} {q : List Prop × α} {yes' no' : St → Option β} {und' : Option β} {b : β}
 (h : zjQ hs s x yes no und = some q) (hq : Obs q.1) (hy : ∀ s ps, yes s = some (ps, q.2) → Obs ps → yes' s = some b) (hn : ∀ s ps, no s = some (ps, q.2) → Obs ps → no' s = some b) (hu : ∀ ps, und = some (ps, q.2) → Obs ps → und' = some b) :
 (match s.t x with
  | .dat (.val (.bool v)) => match v with | true => yes' (s.force x true) | false => no' (s.force x false)
  | .undef => und'
  | _ => none) = some b := by
 unfold zjQ at h
 cases hx : s.t x with
 | undef => rw [hx] at h; exact hu q.1 h hq
 | dat d =>
   rw [hx] at h
   cases d with
   | val v =>
     cases v with
     | bool v =>
       simp only at h ⊢
       split at h
       · obtain ⟨ps, h1, h2⟩ := zaN h
         rw [h2] at hq
         have hv : v = true := hq.1
         rw [hv]
         exact hy _ ps h1 hq.2
       · obtain ⟨ps, h1, h2⟩ := zaN h
         rw [h2] at hq
         have hv : v = false := hq.1
         rw [hv]
         exact hn _ ps h1 hq.2
       · cases v with
         | true => exact hy _ q.1 h hq
         | false => exact hn _ q.1 h hq
     | _ => cases h
   | _ => cases h
 | _ => rw [hx] at h; cases h
theorem zh9 {α β : Type} {s : St} {c : Operand} {yes no : St → Option (List Prop × α)} {q : List Prop × α} {yes' no' : St → Option β} {b : β}
 (h : hcond hs s c yes no = some q) (hq : Obs q.1) (hy : ∀ s ps, yes s = some (ps, q.2) → Obs ps → yes' s = some b) (hn : ∀ s ps, no s = some (ps, q.2) → Obs ps → no' s = some b) : zkO s c yes' no' = some b := by
 unfold hcond at h
 unfold zkO
 split at h
 · rename_i x
   have := zcZ (und' := (none : Option β)) h hq hy hn (fun ps h => by cases h)
   simp only
   revert this
   cases s.t x with
   | dat d =>
     cases d with
     | val v => cases v <;> exact id
     | _ => exact id
   | _ => intro h; first | exact h | cases h
 · rename_i v
   cases v with
   | true => exact hy _ q.1 h hq
   | false => exact hn _ q.1 h hq
 · cases h
theorem zd2 {α β : Type} {s : St} {g : Option (Nat × Bool)} {k z : St → Option (List Prop × α)} {q : List Prop × α} {k' z' : St → Option β} {b : β}
 (h : ziD hs ops s g k z = some q) (hq : Obs q.1) (hk : ∀ s ps, k s = some (ps, q.2) → Obs ps → k' s = some b) (hz : ∀ s ps, z s = some (ps, q.2) → Obs ps → z' s = some b) : zby ops s g k' z' = some b := by
 unfold ziD at h
 unfold zby
 split at h
 · exact hk _ q.1 h hq
 · rename_i j want
   simp only
   split at h
   · cases h
   · rename_i x hx
     rw [hx]
     simp only
     split at h
     · have := zcZ (und' := z' s) h hq hk hz (fun ps h h2 => hz _ ps h h2)
       revert this
       cases s.t x with
       | dat d =>
         cases d with
         | val v =>
           cases v with
           | bool v => cases v <;> exact id
           | _ => exact id
         | _ => exact id
       | _ => exact id
     · have := zcZ (und' := z' s) h hq hz hk (fun ps h h2 => hz _ ps h h2)
       revert this
       cases s.t x with
       | dat d =>
         cases d with
         | val v =>
           cases v with
           | bool v => cases v <;> exact id
           | _ => exact id
         | _ => exact id
       | _ => exact id
structure RunOK (E : Env) (run : Env → St → Oper → Option St) (view : St → St) (pu ap : Oper → Bool) : Prop where
 pure : ∀ s o n d, evOp E s.look s.get s.box o.type o.op = some (.pure d) → o.dst = some n → pu o = true → run E s o = some (s.put n d)
 app : ∀ s o s', step E s o = some s' → ap o = true → run E s o = some s'
 vw : ∀ s o, pu o = true → view s = s
 vw2 : ∀ s o, ap o = true → view s = s
 ev : ∀ s o rs f args fl, zdE E (view s) o = some (f, args, fl) → D.plains rs = true → (fl = true → D.cleans rs = true) → E.call f args [] [] = some (rs, [], []) → run E s o = run (E.with (rs, [], [])) s o
 go : ∀ s o r q, zcY E (view s) o = some r → E.call r.1 r.2.1 r.2.2.1 r.2.2.2 = some q → ∀ s', run (E.with q) s o = some s' → run E s o = some s'
theorem step_ok : RunOK E step (fun s => s) (fun _ => true) (fun _ => true) :=
 ⟨fun s o n d h hd _ => by
  unfold step
  rw [h, hd]
  rfl, fun s o s' h _ => h, fun _ _ _ => rfl, fun _ _ _ => rfl, fun s o rs f args fl h hpl hfl hc => by
  obtain ⟨h1, h2⟩ := zeM h hpl hfl hc
  unfold step
  rw [h1, h2], fun s o r q h hc s' hr => by rw [zeI h hc]; exact hr⟩
theorem zcN {M : Option (List Nat)} {first : Bool} {k : Nat} : RunOK E (fun E => zaL E M first k) (zdY M k) (zif M k) (fun _ => Nat.beq k 2) := by
 have hcall : ∀ (s : St) (o : Oper) r, zdE E s o = some r → ∃ ca z, o.op = .call ca ∧ ca.callee = .value z := fun s o r h => by
  unfold zdE at h
  split at h
  · rename_i ca ho
    split at h
    · rename_i z hz; exact ⟨ca, z, ho, hz⟩
    · cases h
  · cases h
 have hcall2 : ∀ (s : St) (o : Oper) r, zcY E s o = some r → ∃ ca z, o.op = .call ca ∧ ca.callee = .value z := fun s o r h => by
  unfold zcY at h
  split at h
  · rename_i ca ho
    split at h
    · rename_i z hz; exact ⟨ca, z, ho, hz⟩
    · cases h
  · cases h
 have hno : ∀ (s : St) (o : Oper) (q : List D × List (List D) × List (Option Row)), (∃ ca z, o.op = .call ca ∧ ca.callee = .value z) → (k = 0 ∨ k = 1 ∨ k = 3) → ∀ E, zaL E M first k s o = none := by
  rintro s o q ⟨ca, z, ho, hz⟩ hk E
  rcases hk with rfl | rfl | rfl
  · simp only [zaL, zex, ho, zfE, hz]
  · simp only [zaL, zdF, ho]
  · simp only [zaL, zeX, ho]
 have hev : ∀ (s : St) (o : Oper) (r : Nat × List D × List (List D) × List (Option Row)), zcY E s o = some r → ∀ E', E'.mode = E.mode → (∀ zs ts, zay E' s.look zs ts = zay E s.look zs ts) → evOp E' s.look s.get s.box o.type o.op = none := by
  intro s o r h E' hm ha
  unfold zcY at h
  split at h
  · rename_i ca ho
    split at h
    · rename_i z hz
      split at h
      · rename_i f cap hf
        split at h
        · cases h
        · rename_i hdead
          rw [ho]
          simp only [evOp, hz, hf]
          cases cap with
          | cons r rs => rfl
          | nil =>
            simp only [List.isEmpty_nil, Bool.true_and] at hdead
            simp only [zcW, hm, ha]
            cases hzz : zbh (E.mode f) with
            | false => rfl
            | true =>
              rw [hzz, Bool.true_and] at hdead
              cases hv : zem s.get (zay E s.look ca.args.toList ca.argTypes.toList) with
              | none => rfl
              | some r => rw [hv] at hdead; cases hdead
      · cases h
    · cases h
  · cases h
 have hpure : ∀ s o n d, evOp E s.look s.get s.box o.type o.op = some (.pure d) → o.dst = some n → zif M k o = true → zaL E M first k s o = some (s.put n d) := by
  intro s o n d h hd hpu
  match k, hpu with
  | 0, hpu =>
    have hpu : zfE o.op = true := hpu
    simp only [zaL, zex, hpu, hd, h]
  | 1, hpu =>
    have hpu : (zjz o.op && M.isNone) = true := hpu
    simp only [Bool.and_eq_true, Option.isNone_iff_eq_none] at hpu
    obtain ⟨h1, rfl⟩ := hpu
    unfold zjz at h1
    split at h1
    · rename_i t x ho
      rw [ho] at h
      simp only [evOp, Option.bind_eq_some_iff, Option.map_eq_some_iff] at h
      obtain ⟨i, hi, y, hy, he⟩ := h
      cases he
      simp only [zaL, zdF, ho, hd, hi, Option.bind_some, hy, Option.map_some]
    · cases h1
  | 2, hpu => exact step_ok.pure s o n d h hd rfl
  | m + 4, hpu =>
    have hpu : M.isNone = true := hpu
    simp only [Option.isNone_iff_eq_none] at hpu
    subst hpu
    simp only [zaL, zaA, h, hd, Option.bind_some, St.apply, Option.map_some]
 have hvw : ∀ (s : St) (o : Oper), zif M k o = true → zdY M k s = s := by
  intro s o hpu
  match k, hpu with
  | 0, _ => rfl
  | 1, _ => rfl
  | 2, _ => rfl
  | m + 4, hpu =>
    have hpu : M.isNone = true := hpu
    simp only [Option.isNone_iff_eq_none] at hpu
    subst hpu
    rfl
 refine ⟨hpure, fun s o s' h hk => by rw [Nat.eq_of_beq_eq_true hk]; exact h, hvw, fun s o hk => by rw [Nat.eq_of_beq_eq_true hk]; rfl, fun s o rs f args fl h hpl hfl hc => ?_, fun s o r q h hc s' hr => ?_⟩
 · have hk5 : (k = 0 ∨ k = 1 ∨ k = 3) ∨ k = 2 ∨ ∃ m, k = m + 4 := by
    match k with
    | 0 => exact .inl (.inl rfl)
    | 1 => exact .inl (.inr (.inl rfl))
    | 2 => exact .inr (.inl rfl)
    | 3 => exact .inl (.inr (.inr rfl))
    | m + 4 => exact .inr (.inr ⟨m, rfl⟩)
   rcases hk5 with hk | rfl | ⟨m, rfl⟩
   · rw [hno s o (rs, [], []) (hcall _ _ _ h) hk, hno s o (rs, [], []) (hcall _ _ _ h) hk]
   · exact step_ok.ev s o rs f args fl h hpl hfl hc
   · show zaA E M s o = zaA (E.with (rs, [], [])) M s o
     unfold zaA
     cases M with
     | none =>
       obtain ⟨h1, h2⟩ := zeM (s := s) h hpl hfl hc
       simp only [h1, h2]
     | some M =>
       have h' := step_ok.ev (s.hid M) o rs f args fl h hpl hfl hc
       simp only [h']
 · have hk5 : (k = 0 ∨ k = 1 ∨ k = 3) ∨ k = 2 ∨ ∃ m, k = m + 4 := by
    match k with
    | 0 => exact .inl (.inl rfl)
    | 1 => exact .inl (.inr (.inl rfl))
    | 2 => exact .inr (.inl rfl)
    | 3 => exact .inl (.inr (.inr rfl))
    | m + 4 => exact .inr (.inr ⟨m, rfl⟩)
   rcases hk5 with hk | rfl | ⟨m, rfl⟩
   · rw [hno s o q (hcall2 _ _ _ h) hk] at hr
     cases hr
   · exact step_ok.go s o r q h hc s' hr
   · have hr' : zaA (E.with q) M s o = some s' := hr
     show zaA E M s o = some s'
     unfold zaA at hr' ⊢
     cases M with
     | none =>
       simp only at hr'
       rw [hev s o r h (E.with q) rfl (fun zs ts => zcJ zs ts)] at hr'
       cases hr'
     | some M =>
       have h' := zeI (s := s.hid M) h hc
       simp only [h']
       exact hr'
theorem za0 {α β : Type} {run : Env → St → Oper → Option St} {view : St → St} {pu ap : Oper → Bool} (hrun : RunOK E run view pu ap) {s : St} {o : Oper} {k : St → Option (List Prop × α)} {q : List Prop × α} {k' : St → Option β} {b : β}
 (h : hop E hs run view pu ap s o k = some q) (hq : Obs q.1) (hk : ∀ s ps, k s = some (ps, q.2) → Obs ps → k' s = some b) : (run E s o).bind k' = some b := by
 unfold hop at h
 split at h
 · obtain ⟨ps, h1, h2⟩ := zaN h
   rw [h2] at hq
   rw [hq.1]
   exact hk _ ps h1 hq.2
 · obtain ⟨ps, h1, h2⟩ := zaN h
   rw [h2] at hq
   rw [hq.1]
   exact hk _ ps h1 hq.2
 · split at h
   · rename_i p d hask
     split at h
     · rename_i n hdn hpu
       obtain ⟨ps, h1, h2⟩ := zaN h
       rw [h2] at hq
       rw [hrun.pure s o _ _ (zfe hask hq.1) hdn hpu]
       exact hk _ ps h1 hq.2
     · cases h
   · split at h
     · rename_i p s' hask hap
       obtain ⟨ps, h1, h2⟩ := zaN h
       rw [h2] at hq
       rw [hrun.app s o _ (zhL hask hq.1) hap]
       exact hk _ ps h1 hq.2
     · cases h
 · split at h
   · rename_i p d hask
     split at h
     · rename_i n hdn hpu
       obtain ⟨ps, h1, h2⟩ := zaN h
       rw [h2] at hq
       rw [hrun.pure s o _ _ (zfe hask hq.1) hdn hpu]
       exact hk _ ps h1 hq.2
     · cases h
   · split at h
     · rename_i p s' hask hap
       obtain ⟨ps, h1, h2⟩ := zaN h
       rw [h2] at hq
       rw [hrun.app s o _ (zhg hask hq.1) hap]
       exact hk _ ps h1 hq.2
     · cases h
 · rename_i rs hhint
   split at h
   · rename_i f args fl hpl hcv
     have hkey : ∃ ps, hadd (E.call f args [] [] = some (rs, [], [])) (match pu o, o.dst with | true, some n => k (s.put n (retD rs)) | _, _ => (run (E.with (rs, [], [])) s o).bind k) = some (ps, q.2) ∧ Obs ps ∧ (fl = true → D.cleans rs = true) := by
      cases fl with
      | false => exact ⟨q.1, h, hq, fun e => by cases e⟩
      | true =>
        obtain ⟨ps, h1, h2⟩ := zaN h
        rw [h2] at hq
        exact ⟨ps, h1, hq.2, fun _ => hq.1⟩
     obtain ⟨ps0, h0, hq0, hfl⟩ := hkey
     obtain ⟨ps, h1, h2⟩ := zaN h0
     simp only at h2
     rw [h2] at hq0
     split at h1
     · rename_i n hpu hdn
       have hv := hrun.vw s o hpu
       rw [hv] at hcv
       rw [hrun.pure s o _ _ (zeM hcv hpl hfl hq0.1).1 hdn hpu]
       exact hk _ ps h1 hq0.2
     · rw [hrun.ev s o _ _ _ _ hcv hpl hfl hq0.1]
       simp only [Option.bind_eq_some_iff] at h1
       obtain ⟨s', hr, h1⟩ := h1
       rw [hr]
       exact hk s' ps h1 hq0.2
   · cases h
 · split at h
   · rename_i f args us ls hcv
     obtain ⟨ps, h1, h2⟩ := zaN h
     rw [h2] at hq
     split at h1
     · rename_i hap
       split at h1
       · rename_i p s' hch
         obtain ⟨ps2, h3, h4⟩ := zaN h1
         simp only at h4
         rw [h4] at hq
         have hv : view s = s := hrun.vw2 s o hap
         rw [hv] at hcv
         rw [hrun.app s o _ (zhT hcv hq.1 hch hq.2.1) hap]
         exact hk s' ps2 h3 hq.2.2
       · cases h1
     · simp only [Option.bind_eq_some_iff] at h1
       obtain ⟨s', hr, h1⟩ := h1
       rw [hrun.go s o _ _ hcv hq.1 s' hr]
       exact hk s' ps h1 hq.2
   · split at h
     · rename_i f args cs hcv hpl hap hkey
       obtain ⟨ps, h1, h2⟩ := zaN h
       rw [h2] at hq
       have hv : view s = s := hrun.vw2 s o hap
       rw [hv] at hcv
       simp only [Option.bind_eq_some_iff] at h1
       obtain ⟨s', hs', h1⟩ := h1
       have hst : step E s o = some s' := by
        unfold step
        rw [zkl hcv hpl hq.1]
        exact hs'
       rw [hrun.app s o s' hst hap]
       exact hk s' ps h1 hq.2
     · cases h
 · cases hr : run E s o with
   | none => rw [hr] at h; cases h
   | some s' => rw [hr] at h; exact hk s' q.1 h hq
theorem zdW : ∀ (l : List Oper) (s : St) (q : List Prop × St), hops E hs ops l s = some q → Obs q.1 → zdA E ops l s = some q.2
 | [], s, q, h, hq => by cases h; rfl
 | o :: l, s, q, h, hq => by
   unfold hops at h
   unfold zdA
   exact zd2 h hq (fun s ps h1 h2 => za0 step_ok h1 h2 fun s ps h3 h4 => zdW l s (ps, q.2) h3 h4) (fun s ps h1 h2 => zdW l _ (ps, q.2) h1 h2)
theorem zax {M : Option (List Nat)} : ∀ (l : List PRow) (first : Bool) (s : St) (q : List Prop × St), zdh E hs ops M first l s = some q → Obs q.1 → zaz E ops M first l s = some q.2
 | [], first, s, q, h, hq => by cases h; rfl
 | (i, k, ds) :: l, first, s, q, h, hq => by
   unfold zdh at h
   unfold zaz
   split at h
   · cases h
   · rename_i hj
     simp only [hj]
     split at h
     · cases h
     · rename_i o ho
       simp only [ho]
       refine zd2 h hq (fun s ps h1 h2 => ?_) (fun s ps h1 h2 => zax l _ _ (ps, q.2) h1 h2)
       split at h1
       · split at h1
         · rename_i hgr
           have := za0 (hs := hs) step_ok h1 h2 fun s ps h3 h4 => zax l _ s (ps, q.2) h3 h4
           simp only [zat, hgr]
           exact this
         · cases h1
       · exact za0 (hs := hs) (zcN (M := none) (first := first) (k := 4)) h1 h2 fun s ps h3 h4 => zax l _ s (ps, q.2) h3 h4
       · exact za0 (hs := hs) (zcN (M := none) (first := first) (k := 4)) h1 h2 fun s ps h3 h4 => zax l _ s (ps, q.2) h3 h4
       · exact za0 (hs := hs) (zcN (M := none) (first := first) (k := 4)) h1 h2 fun s ps h3 h4 => zax l _ s (ps, q.2) h3 h4
       · split at h1
         · rename_i hcv
           have := za0 (hs := hs) step_ok h1 h2 fun s ps h3 h4 => zax l _ s (ps, q.2) h3 h4
           simp only [zat, hcv]
           exact this
         · cases h1
       · split at h1
         · rename_i hcv
           have := za0 (hs := hs) step_ok h1 h2 fun s ps h3 h4 => zax l _ s (ps, q.2) h3 h4
           simp only [zat, hcv]
           exact this
         · cases h1
       · split at h1
         · rename_i hcv
           have := za0 (hs := hs) step_ok h1 h2 fun s ps h3 h4 => zax l _ s (ps, q.2) h3 h4
           simp only [zat, hcv]
           exact this
         · cases h1
       · split at h1
         · split at h1
           · rename_i hcv
             have := za0 (hs := hs) step_ok h1 h2 fun s ps h3 h4 => zax l _ s (ps, q.2) h3 h4
             simp only [zat, hcv]
             exact this
           · cases h1
         · cases h1
       · split at h1
         · rename_i hcv
           have := za0 (hs := hs) step_ok h1 h2 fun s ps h3 h4 => zax l _ s (ps, q.2) h3 h4
           simp only [zat, hcv]
           exact this
         · cases h1
       · rename_i n5 n6 n7 n8 n9 n10 n11 n12 n13
         have e : ∀ s, zat E M first k s o = zaL E M first k s o := fun s => by
          unfold zat
          split
          · exact absurd rfl n5
          · exact absurd rfl n6
          · exact absurd rfl n7
          · exact absurd rfl n8
          · exact absurd rfl n9
          · exact absurd rfl n10
          · exact absurd rfl n11
          · exact absurd rfl n12
          · exact absurd rfl n13
          · rfl
         rw [e]
         exact za0 zcN h1 h2 fun s ps h3 h4 => zax l _ s (ps, q.2) h3 h4
theorem zgg {id : Nat} {draw : Bool} {s : St} {q : List Prop × St} (h : zhI E hs id ops draw s = some q) (hq : Obs q.1) : zb6 E id ops draw s = some q.2 := by
 unfold zhI at h
 unfold zb6
 cases draw with
 | false => exact zdW _ _ _ h hq
 | true =>
   simp only at h ⊢
   split at h
   · rename_i p hp
     simp only [hp]
     unfold zmY at h
     unfold zhK
     split at h
     · rename_i e
       simp only [e]
       cases h; rfl
     · rename_i i k ds l e
       simp only [e]
       split at h
       · rename_i hn
         simp only [hn]
         exact zax _ _ _ _ h hq
       · cases h
   · cases h
theorem zfZ {r : Option (List Prop × X × St)} {k : X → St → Option (List Prop × X × St)} {q : List Prop × X × St} (h : zkQ r k = some q) (hq : Obs q.1) : ∃ ps x s qs, r = some (ps, x, s) ∧ k x s = some (qs, q.2) ∧ Obs ps ∧ Obs qs := by
 unfold zkQ at h
 split at h
 · rename_i ps x s
   split at h
   · rename_i q' hk
     cases h
     obtain ⟨h1, h2⟩ := zfR hq
     exact ⟨ps, x, s, q'.1, rfl, hk, h1, h2⟩
   · cases h
 · cases h
theorem zaW {n : Nat} : ∀ (c : Code) (s : St) (q : List Prop × X × St), zcj E n hs c s = some q → Obs q.1 → exec E n c s = some q.2
 | .skip, s, q, h, hq => by cases h; rfl
 | .region id ops draw, s, q, h, hq => by
   simp only [zcj] at h
   split at h
   · rename_i r hr
     cases h
     simp only [exec]
     rw [zgg hr hq]
     rfl
   · cases h
 | .seq a b, s, q, h, hq => by
   obtain ⟨pq, r⟩ := q
   simp only [zcj] at h
   obtain ⟨ps, x, s1, qs, h1, h2, h3, h4⟩ := zfZ h hq
   have := zaW a s _ h1 h3
   simp only [exec, this]
   cases x with
   | normal => exact zaW b s1 (qs, r) h2 h4
   | exit i => cases h2; rfl
   | ret => cases h2; rfl
 | .cond c a b, s, q, h, hq => by
   simp only [zcj] at h
   simp only [exec]
   exact zh9 h hq (fun s ps h1 h2 => zaW a s (ps, q.2) h1 h2) (fun s ps h1 h2 => zaW b s (ps, q.2) h1 h2)
 | .block id c, s, q, h, hq => by
   obtain ⟨pq, r⟩ := q
   simp only [zcj] at h
   obtain ⟨ps, x, s1, qs, h1, h2, h3, h4⟩ := zfZ h hq
   have := zaW c s _ h1 h3
   simp only [exec, this]
   cases x with
   | normal => cases h2; rfl
   | exit i =>
     simp only at h2 ⊢
     split at h2
     · rename_i hb; simp only [hb]; cases h2; rfl
     · rename_i hb; simp only [hb]; cases h2; rfl
   | ret => cases h2; rfl
 | .loop c, s, q, h, hq => by
   simp only [zcj] at h
   split at h
   · cases h; exact hq.2.1 s ((zig _ s).trans hq.1)
   · cases h
 | .exit id, s, q, h, hq => by cases h; rfl
 | .ret, s, q, h, hq => by cases h; rfl
 | .label _, s, q, h, hq => by cases h
 | .goto _, s, q, h, hq => by cases h
 | .rangeFunc _ _ _ _, s, q, h, hq => by cases h
 | .scope _, s, q, h, hq => by cases h
 | .refuse _, s, q, h, hq => by cases h
end
end Go.Den
namespace Go.Den
open Go
set_option linter.unusedVariables false
abbrev Res := List D × List (List D) × List (Option Row)
def hrun (C : Cfg) (n : Nat) (call : Nat → List D → List (List D) → List (Option Row) → Option Res) (hs : zcF) (f : Nat) (fn : Func) (args : List D) (u : List (List D)) (l : List (Option Row)) : Option (List Prop × Res) :=
 match fn.body with
 | none => none
 | some c => match zcj ⟨C.ty, C.mode, fn.ntmps, C.live f, C.out f, C.plan f, call⟩ n hs c (start args u l) with
   | some (_, .exit _, _) => none
   | some (ps, _, s) => (zlY C.ty (C.liv f) fn.results.toList u l s).map fun r => (ps, r)
   | none => none
theorem zjf {C : Cfg} {n : Nat} {call : Nat → List D → List (List D) → List (Option Row) → Option Res} (hs : zcF) {f : Nat} {fn : Func} {args : List D} {u : List (List D)} {l : List (Option Row)} {q : List Prop × Res} (h : hrun C n call hs f fn args u l = some q) (hq : Obs q.1) : zaF C n call f fn args u l = some q.2 := by
 unfold hrun at h
 unfold zaF
 split at h
 · cases h
 · rename_i c hc
   rw [hc]
   simp only
   split at h
   · cases h
   · rename_i ps x s hne he
     simp only [Option.map_eq_some_iff] at h
     obtain ⟨r, hr, h⟩ := h
     cases h
     have := zaW _ _ _ he hq
     rw [this]
     cases x with
     | exit i => exact (hne _ rfl).elim
     | normal => simp only [hr]
     | ret => simp only [hr]
   · cases h
theorem zab {C : Cfg} {n : Nat} {call : Nat → List D → List (List D) → List (Option Row) → Option Res} (hs : zcF) {f : Nat} {fn : Func} {args : List D} {u : List (List D)} {l : List (Option Row)} {ps : List Prop} {r : Res} (hq : Obs ps) (h : hrun C n call hs f fn args u l = some (ps, r)) : zaF C n call f fn args u l = some r := zjf hs h hq
theorem ob0 : Obs [] := trivial
theorem ob {p : Prop} {l : List Prop} (h : p) (hl : Obs l) : Obs (p :: l) := ⟨h, hl⟩
def zeP (r : Nat) : Code → Option Code
 | .seq a b => match zeP r a with | some c => some c | none => zeP r b
 | .cond _ a b => match zeP r a with | some c => some c | none => zeP r b
 | .block _ a => zeP r a
 | .loop a => match Nat.beq (zaa a) r with | true => some a | false => zeP r a
 | _ => none
def lp (fn : Func) (r : Nat) : Code := match fn.body with | some c => (zeP r c).getD .skip | none => .skip
def zaG (C : Cfg) (k f : Nat) (fn : Func) : Env := ⟨C.ty, C.mode, fn.ntmps, C.live f, C.out f, C.plan f, den C k⟩
def zav (C : Cfg) (k f : Nat) (fn : Func) (r : Nat) (s0 : St) (x : X) (s' : St) : Prop := zjA (zaG C k f fn) k (lp fn r) s0 x s'
section
variable {E : Env} {n m : Nat} {c : Code} {L : List Nat} {s s0 s1 s2 : St} {ps : List Prop} {hs : zcF}
def stOf (r : Option (List Prop × X × St)) : St := match r with | some q => q.2.2 | none => start [] [] []
def zln (r : Option (List Prop × X × St)) : Option (List Prop × X) := match r with | some q => some (q.1, q.2.1) | none => none
def zao (E : Env) (n : Nat) (c : Code) (m : Nat) (s : St) (K : X → St → Prop) : Prop := ∃ x s1, iter (exec E n c) (St.norm (E.live (zaa c))) m s = some (x, s1) ∧ K x (s1.norm (E.out (zaa c)))
theorem zf6 {r : Option (List Prop × X × St)} {p : List Prop × X} (h : zln r = some p) : r = some (p.1, p.2, stOf r) := by
 unfold zln at h
 split at h
 · cases h; rfl
 · cases h
theorem zah {K : X → St → Prop} (hs : zcF) (hL : s.norm (E.live (zaa c)) = s0) (h : zln (zcj E n hs c s0) = some (ps, .normal)) (ho : Obs ps) (hst : nmOf (E.live (zaa c)) (stOf (zcj E n hs c s0)) = s2) (hn : ∀ s, s.norm (E.live (zaa c)) = s2 → zao E n c m s K) : zao E n c (m + 1) s K := by
 obtain ⟨x, s1, h1, h2⟩ := hn (stOf (zcj E n hs c s0)) ((zig _ _).trans hst)
 have := zaW _ _ _ (zf6 h) ho
 refine ⟨x, s1, ?_, h2⟩
 simp only [iter, hL, this]
 exact h1
theorem zac {K : X → St → Prop} {x : X} (hs : zcF) (hL : s.norm (E.live (zaa c)) = s0) (h : zln (zcj E n hs c s0) = some (ps, x)) (hx : (match x with | .normal => false | _ => true) = true) (ho : Obs ps) (hst : nmOf (E.out (zaa c)) (stOf (zcj E n hs c s0)) = s2) (hK : K x s2) : zao E n c (m + 1) s K := by
 have := zaW _ _ _ (zf6 h) ho
 refine ⟨x, stOf (zcj E n hs c s0), ?_, by rw [zig, hst]; exact hK⟩
 simp only [iter, hL, this]
 cases x with
 | normal => cases hx
 | _ => rfl
theorem zhQ {K : X → St → Prop} (h : zao E n c n s K) : ∃ x s', exec E n (.loop c) s = some (x, s') ∧ K x s' := by
 obtain ⟨x, s1, h1, h2⟩ := h
 exact ⟨x, _, by simp only [exec, h1, Option.map_some], h2⟩
theorem zb5 {x : X} (h : ∀ s : St, s.norm (E.live (zaa c)) = s0 → zao E n c n s (fun x' s' => x' = x ∧ s' = s1)) : zjA E n c s0 x s1 := fun s hL => by
 obtain ⟨x', s', h1, rfl, rfl⟩ := zhQ (h s hL)
 exact h1
end
end Go.Den
namespace Go.Den
open Go
abbrev I (n : Int) : Dat := .val (.int .i64 n)
abbrev B (b : Bool) : Dat := .val (.bool b)
abbrev S (s : ByteArray) : Dat := .val (.string s)
abbrev w64 (n : Int) : Int := IntKind.i64.wrap n
abbrev T (k n : Int) (ds : List Dat) : Dat := .agg [I k, I n, .lst false ds]
end Go.Den
namespace Go.Den
open Go
set_option linter.unusedVariables false
set_option maxRecDepth 100000
theorem ziB {α : Type} {f : Nat} : ∀ {l : List (Nat × α)}, memN f (l.map (·.1)) = false → zcT l f = none
 | [], _ => rfl
 | (a, x) :: l, h => by
   simp only [List.map_cons, memN] at h
   unfold zcT
   split at h
   · cases h
   · rename_i hb
     have hab : Nat.beq a f = false := by
      cases hc : Nat.beq a f with
      | false => rfl
      | true =>
        have := Nat.eq_of_beq_eq_true hc
        subst this
        have hr : Nat.beq a a = true := Nat.beq_refl a
        rw [hr] at hb
        cases hb
     rw [hab]
     exact ziB h
theorem zkK : extsOf.map (·.1) = zkh := by rfl
theorem noExt {f : Nat} {fn : Func} (h : cfg.fn f = some fn) (hb : memN f zgj = false) : cfg.ext f = none := by
 unfold cfg at h ⊢
 simp only at h ⊢
 split at h
 · rename_i hbb
   simp only [Bool.and_eq_true, Bool.or_eq_true, Bool.not_eq_true', hb, Bool.false_eq_true, or_false] at hbb
   exact ziB (by rw [zkK]; exact hbb.2)
 · cases h
def EvN (N f : Nat) (args : List D) (u : List (List D)) (l : List (Option Row)) (r : Res) : Prop := ∀ k, N ≤ k → den cfg k f args u l = some r
theorem EvN.mono {N M f : Nat} {args : List D} {u : List (List D)} {l : List (Option Row)} {r : Res} (h : EvN N f args u l r) (hNM : N ≤ M) : EvN M f args u l r := fun k hk => h k (by omega)
theorem zba {f : Nat} (fn : Func) {args : List D} {u : List (List D)} {l : List (Option Row)} {r : Res} (N : Nat) (hf : cfg.fn f = some fn) (hl : Nat.ble args.length fn.ntmps = true) (h : ∀ kk, N ≤ kk → zaF cfg kk (den cfg kk) f fn args u l = some r) (hb : memN f zgj = false := by kernel_rfl) : EvN (N + 1) f args u l r := fun k hk => by
 obtain ⟨m, rfl⟩ : ∃ m, k = m + 1 := ⟨k - 1, by omega⟩
 simp only [den, noExt hf hb, Option.bind_none, hf, hl]
 exact h m (by omega)
theorem za5 {n : Int} (h : -9223372036854775808 ≤ n ∧ n ≤ 9223372036854775807) : w64 n = n := by show IntKind.i64.wrap n = n; rw [IntKind.wrap_i64]; omega
theorem zeg {E : Env} {kk : Nat} {c : Code} {K : X → St → Prop} (st : Nat → St) (n : Nat)
 (hgo : ∀ i, i < n → ∀ (m : Nat) (s : St), s.norm (E.live (zaa c)) = st i → (∀ s : St, s.norm (E.live (zaa c)) = st (i + 1) → zao E kk c m s K) → zao E kk c (m + 1) s K)
 (hend : ∀ (m : Nat) (s : St), s.norm (E.live (zaa c)) = st n → zao E kk c (m + 1) s K) : ∀ (d i m : Nat), i + d = n → d < m → ∀ s : St, s.norm (E.live (zaa c)) = st i → zao E kk c m s K
 | 0, i, m, hi, hm, s, hs => by
   obtain ⟨m, rfl⟩ : ∃ k, m = k + 1 := ⟨m - 1, by omega⟩
   have : i = n := by omega
   subst this
   exact hend m s hs
 | d + 1, i, m, hi, hm, s, hs => by
   obtain ⟨m, rfl⟩ : ∃ k, m = k + 1 := ⟨m - 1, by omega⟩
   exact hgo i (by omega) m s hs fun s' hs' => zeg st n hgo hend d (i + 1) m (by omega) (by omega) s' hs'
theorem zaP {kk f : Nat} {fn : Func} {r : Nat} {x : X} {s' : St} (st : Nat → St) (n : Nat) (hk : n < kk)
 (hgo : ∀ i, i < n → ∀ (m : Nat) (s : St) (K : X → St → Prop), s.norm ((zaG cfg kk f fn).live (zaa (lp fn r))) = st i → (∀ s : St, s.norm ((zaG cfg kk f fn).live (zaa (lp fn r))) = st (i + 1) → zao (zaG cfg kk f fn) kk (lp fn r) m s K) → zao (zaG cfg kk f fn) kk (lp fn r) (m + 1) s K)
 (hend : ∀ (m : Nat) (s : St) (K : X → St → Prop), s.norm ((zaG cfg kk f fn).live (zaa (lp fn r))) = st n → K x s' → zao (zaG cfg kk f fn) kk (lp fn r) (m + 1) s K) {s0 : St} (h0 : s0 = st 0) : zav cfg kk f fn r s0 x s' :=
 zb5 fun s hs => zeg st n (fun i hi m s hs hn => hgo i hi m s _ hs hn) (fun m s hs => hend m s _ hs ⟨rfl, rfl⟩) n 0 kk (by omega) hk s (by rw [hs, h0])
theorem zmz {α : Type} (a : List α) (z x : α) (i : Nat) (hi : i < a.length) (hx : a[i]? = some x) : (a.take i ++ List.replicate (a.length - i) z).set i x = a.take (i + 1) ++ List.replicate (a.length - (i + 1)) z := by
 have h1 : (a.take i).length = i := by simp; omega
 obtain ⟨m, hm⟩ : ∃ m, a.length - i = m + 1 := ⟨a.length - i - 1, by omega⟩
 rw [hm, show a.length - (i + 1) = m by omega, List.replicate_succ, List.set_append_right _ _ (by omega), h1, Nat.sub_self, List.set_cons_zero, List.take_add_one, hx]
 simp
theorem zlU {α : Type} (a : List α) (z : α) (i : Nat) (hi : i < a.length) : (a.take i ++ List.replicate (a.length - i) z)[i]? = some z := by
 have h1 : (a.take i).length = i := by simp; omega
 rw [List.getElem?_append_right (by omega), h1, Nat.sub_self, List.getElem?_replicate, if_pos (by omega)]
theorem zfg {α : Type} (p : α → Bool) : ∀ {ks : List α}, ks.all p = false → ∃ (j : Nat) (x : α), ks[j]? = some x ∧ p x = false ∧ ∀ i y, i < j → ks[i]? = some y → p y = true
 | [], h => by cases h
 | y :: ks, h => by
   cases hy : p y with
   | false => exact ⟨0, y, rfl, hy, fun i y hi => by omega⟩
   | true =>
     rw [List.all_cons, hy, Bool.true_and] at h
     obtain ⟨j, x, h1, h2, h3⟩ := zfg p h
     refine ⟨j + 1, x, by simpa using h1, h2, fun i z hi hz => ?_⟩
     cases i with
     | zero => simp at hz; rw [← hz]; exact hy
     | succ i => exact h3 i z (by omega) (by simpa using hz)
theorem zd5 {kk f : Nat} {fn : Func} {r : Nat} {x1 x2 : X} {s1 : St} {s2 : Nat → St} (st : Nat → St) (chk : Nat → Bool) (n : Nat) (hk : n < kk)
 (hr : ∀ i, i < n → (∀ j, j < i → chk j = true) → ∀ (m : Nat) (s : St) (K : X → St → Prop), s.norm ((zaG cfg kk f fn).live (zaa (lp fn r))) = st i → (chk i = true → ∀ s : St, s.norm ((zaG cfg kk f fn).live (zaa (lp fn r))) = st (i + 1) → zao (zaG cfg kk f fn) kk (lp fn r) m s K) → (chk i = false → K x2 (s2 i)) → zao (zaG cfg kk f fn) kk (lp fn r) (m + 1) s K)
 (hend : (∀ j, j < n → chk j = true) → ∀ (m : Nat) (s : St) (K : X → St → Prop), s.norm ((zaG cfg kk f fn).live (zaa (lp fn r))) = st n → K x1 s1 → zao (zaG cfg kk f fn) kk (lp fn r) (m + 1) s K) {s0 : St} (h0 : s0 = st 0) :
 ((List.range n).all chk = true → zav cfg kk f fn r s0 x1 s1) ∧ (∀ i, i < n → (∀ j, j < i → chk j = true) → chk i = false → zav cfg kk f fn r s0 x2 (s2 i)) := by
 refine ⟨fun hall => ?_, fun i hi hch hc => ?_⟩
 · have hch : ∀ j, j < n → chk j = true := fun j hj => (List.all_eq_true.1 hall) j (List.mem_range.2 hj)
   exact zaP st n hk (fun i hi m s K hs hn => hr i hi (fun j hj => hch j (by omega)) m s K hs (fun _ => hn) (fun h => by rw [hch i hi] at h; cases h)) (fun m s K hs hK => hend hch m s K hs hK) h0
 · exact zaP st i (by omega) (fun j hj m s K hs hn => hr j (by omega) (fun q hq => hch q (by omega)) m s K hs (fun _ => hn) (fun h => by rw [hch j hj] at h; cases h)) (fun m s K hs hK => hr i hi hch m s K hs (fun h => by rw [hc] at h; cases h) (fun _ => hK)) h0
theorem zfM {kk f : Nat} {fn : Func} {r : Nat} {x1 x2 : X} {s1 s2 : St} (st : Nat → St) (chk : Nat → Bool) (n : Nat) (hk : n < kk)
 (hr : ∀ i, i < n → (∀ j, j < i → chk j = true) → ∀ (m : Nat) (s : St) (K : X → St → Prop), s.norm ((zaG cfg kk f fn).live (zaa (lp fn r))) = st i → (chk i = true → ∀ s : St, s.norm ((zaG cfg kk f fn).live (zaa (lp fn r))) = st (i + 1) → zao (zaG cfg kk f fn) kk (lp fn r) m s K) → (chk i = false → K x2 s2) → zao (zaG cfg kk f fn) kk (lp fn r) (m + 1) s K)
 (hend : (∀ j, j < n → chk j = true) → ∀ (m : Nat) (s : St) (K : X → St → Prop), s.norm ((zaG cfg kk f fn).live (zaa (lp fn r))) = st n → K x1 s1 → zao (zaG cfg kk f fn) kk (lp fn r) (m + 1) s K) {s0 : St} (h0 : s0 = st 0) :
 ((List.range n).all chk = true → zav cfg kk f fn r s0 x1 s1) ∧ ((List.range n).all chk = false → zav cfg kk f fn r s0 x2 s2) := by
 obtain ⟨h1, h2⟩ := zd5 (s2 := fun _ => s2) st chk n hk hr hend h0
 refine ⟨h1, fun hall => ?_⟩
 obtain ⟨j, q, h3, h4, h5⟩ := zfg chk hall
 have hj : j < n := by
  have := (List.getElem?_eq_some_iff.1 h3).1
  simpa using this
 have hqj : q = j := by
  rw [List.getElem?_range hj] at h3
  exact (Option.some.inj h3).symm
 subst hqj
 exact h2 q hj (fun i hi => h5 i i hi (List.getElem?_range (by omega))) h4
theorem zny {n : Nat} {d : Dat} {i : TI} {k : IntKind} (h : WT cfg.ty n d) (ht : cfg.ty n = some i) (hk : i.kind = .int k) : ∃ x : Int, d = .val (.int k x) ∧ (Lit.int k x).wf = true := by
 cases h with
 | @int _ i' k' x ht' hk' hw => rw [ht] at ht'; cases ht'; rw [hk] at hk'; cases hk'; exact ⟨x, rfl, hw⟩
 | bool ht' hk' => rw [ht] at ht'; cases ht'; rw [hk] at hk'; cases hk'
 | str ht' hk' => rw [ht] at ht'; cases ht'; rw [hk] at hk'; cases hk'
 | lst ht' hk' => rw [ht] at ht'; cases ht'; rw [hk] at hk'; cases hk'
 | agg ht' hk' => rw [ht] at ht'; cases ht'; rw [hk] at hk'; cases hk'
theorem znq {n e : Nat} {d : Dat} {i : TI} (h : WT cfg.ty n d) (ht : cfg.ty n = some i) (hk : i.kind = .slice e) : ∃ es : List Dat, d = .lst false es ∧ es.length ≤ maxLen ∧ ∀ x ∈ es, WT cfg.ty e x := by
 cases h with
 | int ht' hk' => rw [ht] at ht'; cases ht'; rw [hk] at hk'; cases hk'
 | bool ht' hk' => rw [ht] at ht'; cases ht'; rw [hk] at hk'; cases hk'
 | str ht' hk' => rw [ht] at ht'; cases ht'; rw [hk] at hk'; cases hk'
 | @lst _ i' e' es ht' hk' hl hx => rw [ht] at ht'; cases ht'; rw [hk] at hk'; cases hk'; exact ⟨es, rfl, hl, hx⟩
 | agg ht' hk' => rw [ht] at ht'; cases ht'; rw [hk] at hk'; cases hk'
theorem zmM {n : Nat} {d : Dat} {i : TI} (h : WT cfg.ty n d) (ht : cfg.ty n = some i) (hk : i.kind = .struct) : ∃ cs : List Dat, d = .agg cs ∧ cs.length = i.fs.length ∧ ∀ (j : Nat) (f : Nat × Nat) (x : Dat), i.fs[j]? = some f → cs[j]? = some x → WT cfg.ty f.2 x := by
 cases h with
 | int ht' hk' => rw [ht] at ht'; cases ht'; rw [hk] at hk'; cases hk'
 | bool ht' hk' => rw [ht] at ht'; cases ht'; rw [hk] at hk'; cases hk'
 | str ht' hk' => rw [ht] at ht'; cases ht'; rw [hk] at hk'; cases hk'
 | lst ht' hk' => rw [ht] at ht'; cases ht'; rw [hk] at hk'; cases hk'
 | @agg _ i' cs ht' hk' hl hx => rw [ht] at ht'; cases ht'; exact ⟨cs, rfl, hl, hx⟩
theorem zlr {d : Dat} (h : WT cfg.ty 3 d) : ∃ n : Int, d = I n := by
 obtain ⟨n, h1, _⟩ := zny h (i := ⟨.int .i64, 1, 8, [], [.dat (.val (.int .i64 0))]⟩) (by kernel_rfl) rfl
 exact ⟨n, h1⟩
end Go.Den
namespace Go.Den
open Go
abbrev fD (k f : Nat) (a r : List D) : Prop := den cfg k f a [] [] = some (r, [], [])
abbrev fU (k f : Nat) (a : List D) (u : List (List D)) (r : List D) (v : List (List D)) : Prop := den cfg k f a u [] = some (r, v, [])
noncomputable abbrev fN (k f : Nat) (fn : Func) (r : Nat) : List Nat := (zaG cfg k f fn).live (zaa (lp fn r))
abbrev fR (k f : Nat) (fn : Func) (r m : Nat) (s : St) (K : X → St → Prop) : Prop := zao (zaG cfg k f fn) k (lp fn r) m s K
theorem rF : false = false := rfl
theorem rT : true = true := rfl
abbrev tT (p : Prop) [Decidable p] : Prop := decide p = true
abbrev tF (p : Prop) [Decidable p] : Prop := decide p = false
open Go.Proofs
open Go
set_option linter.unusedVariables false
set_option maxRecDepth 100000
abbrev In := Go.Proofs.YtmoocdlfclhgcaaDoor.Ins
theorem szIn (kk : Nat) (c : In) (left : Int) {r : Res} (q1 : (tT (w64 (left - (c.t.size : Int)) < 0)) → r = ([D.dat (I (-1))], [], [])) (q2 : (tF (w64 (left - (c.t.size : Int)) < 0)) → r = ([D.dat (I (w64 (left - (c.t.size : Int))))], [], [])) : zaF cfg kk (den cfg kk) 16 Tryd.f16 [.dat (DIns c), .dat (I left)] [] [] = some r := by
 rcases Bool.eq_false_or_eq_true (decide (w64 (left - (c.t.size : Int)) < 0)) with d1 | d1
 · have oz := q1 d1
   subst oz; exact zab [(200011, .yes)] (ob d1 ob0) (by kernel_rfl)
 · have oz := q2 d1
   subst oz; exact zab [(200011, .no)] (ob d1 ob0) (by kernel_rfl)
def hdz (b : Bool) (es : List Dat) (left i : Int) : St := Nm [0, 1, 5] [.dat (.lst b es), .dat (I left), .dat (I i)] [none, none, none] [] []
theorem zm1 (kk m : Nat) {s : St} {K : X → St → Prop} (b : Bool) (es : List Dat) (left i : Int) (c20 : In) (x23 : Int) (hs : s.norm (fN kk 5 Tryd.f5 5) = hdz b es left i) (q1 : (tT (i < (es.length : Int))) → (tT (x23 < 0)) → ((0 ≤ i ∧ i < (es.length : Int)) ∧ es[i.toNat]? = some (Dat.agg [I c20.op, I c20.a, Dat.val (Value.string c20.t)])) ∧ (fD kk 16 [D.dat (Dat.agg [I c20.op, I c20.a, Dat.val (Value.string c20.t)]), D.dat (I left)] [D.dat (I x23)]) ∧ K (X.ret) (Nm [1, 4] [D.dat (I x23), D.dat (I (-1))] [none, none] [] [])) (q2 : (tT (i < (es.length : Int))) → (tF (x23 < 0)) → ((0 ≤ i ∧ i < (es.length : Int)) ∧ es[i.toNat]? = some (Dat.agg [I c20.op, I c20.a, Dat.val (Value.string c20.t)])) ∧ (fD kk 16 [D.dat (Dat.agg [I c20.op, I c20.a, Dat.val (Value.string c20.t)]), D.dat (I left)] [D.dat (I x23)]) ∧ (∀ s : St, s.norm (fN kk 5 Tryd.f5 5) = Nm [0, 1, 5] [D.dat (Dat.lst b es), D.dat (I x23), D.dat (I (w64 (i + 1)))] [none, none, none] [] [] → fR kk 5 Tryd.f5 5 m s K)) (q3 : (tF (i < (es.length : Int))) → K (X.exit 0) (Nm [1, 4] [D.dat (I left), D.junk] [none, none] [] [])) : fR kk 5 Tryd.f5 5 (m + 1) s K := by
 rcases Bool.eq_false_or_eq_true (decide (i < (es.length : Int))) with d1 | d1
 · rcases Bool.eq_false_or_eq_true (decide (x23 < 0)) with d4 | d4
   · obtain ⟨hz1, hz2, oz⟩ := q1 d1 d4
     exact zac [(20, .at (DIns c20)), (23, .ret [.dat (I x23)]), (200015, .yes), (200025, .yes)] hs (by kernel_rfl) rfl (ob d1 (ob hz1 (ob hz2 (ob d4 ob0)))) (by kernel_rfl) oz
   · obtain ⟨hz1, hz2, oz⟩ := q2 d1 d4
     exact zah [(20, .at (DIns c20)), (23, .ret [.dat (I x23)]), (200015, .yes), (200025, .no)] hs (by kernel_rfl) (ob d1 (ob hz1 (ob hz2 (ob d4 ob0)))) (by kernel_rfl) oz
 · have oz := q3 d1
   exact zac [(20, .at (DIns c20)), (23, .ret [.dat (I x23)]), (200015, .no)] hs (by kernel_rfl) rfl (ob d1 ob0) (by kernel_rfl) oz
theorem szS_y (kk : Nat) (b : Bool) (es : List Dat) (left z : Int) {r : Res} (q1 : (tT (w64 (left - (es.length : Int)) < 0)) → r = ([D.dat (I (-1))], [], [])) (q2 : (tF (w64 (left - (es.length : Int)) < 0)) → (zav cfg kk 5 Tryd.f5 5 (hdz b es (w64 (left - (es.length : Int))) 0) (X.exit 0) (Nm [1, 4] [D.dat (I z), D.junk] [none, none] [] [])) ∧ r = ([D.dat (I z)], [], [])) : zaF cfg kk (den cfg kk) 5 Tryd.f5 [.dat (Dat.lst b es), .dat (I left)] [] [] = some r := by
 rcases Bool.eq_false_or_eq_true (decide (w64 (left - (es.length : Int)) < 0)) with d1 | d1
 · have oz := q1 d1
   subst oz; exact zab [(300005, .loop (hdz b es (w64 (left - es.length)) 0) (.exit 0) (Nm [1, 4] [.dat (I z), .junk] [none, none] [] [])), (200011, .yes)] (ob d1 ob0) (by kernel_rfl)
 · obtain ⟨hz1, oz⟩ := q2 d1
   subst oz; exact zab [(300005, .loop (hdz b es (w64 (left - es.length)) 0) (.exit 0) (Nm [1, 4] [.dat (I z), .junk] [none, none] [] [])), (200011, .no)] (ob d1 (ob (rfl : _ = hdz b es (w64 (left - (es.length : Int))) 0) (ob hz1 ob0))) (by kernel_rfl)
theorem znn (kk : Nat) (b : Bool) (es : List Dat) (left z : Int) {r : Res} (q1 : (tT (w64 (left - (es.length : Int)) < 0)) → r = ([D.dat (I (-1))], [], [])) (q2 : (tF (w64 (left - (es.length : Int)) < 0)) → (zav cfg kk 5 Tryd.f5 5 (hdz b es (w64 (left - (es.length : Int))) 0) X.ret (Nm [1, 4] [D.dat (I z), D.dat (I (-1))] [none, none] [] [])) ∧ r = ([D.dat (I (-1))], [], [])) : zaF cfg kk (den cfg kk) 5 Tryd.f5 [.dat (Dat.lst b es), .dat (I left)] [] [] = some r := by
 rcases Bool.eq_false_or_eq_true (decide (w64 (left - (es.length : Int)) < 0)) with d1 | d1
 · have oz := q1 d1
   subst oz; exact zab [(300005, .loop (hdz b es (w64 (left - es.length)) 0) .ret (Nm [1, 4] [.dat (I z), .dat (I (-1))] [none, none] [] [])), (200011, .yes)] (ob d1 ob0) (by kernel_rfl)
 · obtain ⟨hz1, oz⟩ := q2 d1
   subst oz; exact zab [(300005, .loop (hdz b es (w64 (left - es.length)) 0) .ret (Nm [1, 4] [.dat (I z), .dat (I (-1))] [none, none] [] [])), (200011, .no)] (ob d1 (ob (rfl : _ = hdz b es (w64 (left - (es.length : Int))) 0) (ob hz1 ob0))) (by kernel_rfl)
theorem toIn (kk : Nat) (c : In) {r : Res} (q1 : r = ([D.dat (Dat.agg [I c.op, I c.a, Dat.val (Value.string c.t)])], [], [])) : zaF cfg kk (den cfg kk) 18 Tryd.f18 [.dat (DIns c)] [] [] = some r := by
 have oz := q1
 subst oz; exact zab [] ob0 (by kernel_rfl)
def hdt (b : Bool) (es : List Dat) (out : List Dat) (i : Int) : St := Nm [0, 3, 4] [.dat (.lst b es), .own 41 out, .dat (I i)] [none, none, none] [] []
theorem znu (kk m : Nat) {s : St} {K : X → St → Prop} (b : Bool) (es : List Dat) (out : List Dat) (i : Int) (c18 : In) (c20 : In) (c100021 : In) (hs : s.norm (fN kk 7 Tryd.f7 3) = hdt b es out i) (q1 : (tT (i < (es.length : Int))) → ((0 ≤ i ∧ i < (es.length : Int)) ∧ es[i.toNat]? = some (Dat.agg [I c18.op, I c18.a, Dat.val (Value.string c18.t)])) ∧ (fD kk 18 [D.dat (Dat.agg [I c18.op, I c18.a, Dat.val (Value.string c18.t)])] [D.dat (Dat.agg [I c20.op, I c20.a, Dat.val (Value.string c20.t)])]) ∧ (0 ≤ i ∧ i < (out.length : Int)) ∧ (out[i.toNat]? = some (Dat.agg [I c100021.op, I c100021.a, Dat.val (Value.string c100021.t)])) ∧ (∀ s : St, s.norm (fN kk 7 Tryd.f7 3) = Nm [0, 3, 4] [D.dat (Dat.lst b es), D.own 41 (out.set i.toNat (Dat.agg [I c20.op, I c20.a, Dat.val (Value.string c20.t)])), D.dat (I (w64 (i + 1)))] [none, none, none] [] [] → fR kk 7 Tryd.f7 3 m s K)) (q2 : (tF (i < (es.length : Int))) → K (X.exit 0) (Nm [3] [D.own 41 out] [none] [] [])) : fR kk 7 Tryd.f7 3 (m + 1) s K := by
 rcases Bool.eq_false_or_eq_true (decide (i < (es.length : Int))) with d1 | d1
 · obtain ⟨hz1, hz2, hz3, hz4, oz⟩ := q1 d1
   exact zah [(18, .at (DIns c18)), (20, .ret [.dat (DIns c20)]), (21, .ok), (100021, .at (DIns c100021)), (200011, .yes)] hs (by kernel_rfl) (ob d1 (ob hz1 (ob hz2 (ob hz3 (ob hz4 ob0))))) (by kernel_rfl) oz
 · have oz := q2 d1
   exact zac [(18, .at (DIns c18)), (20, .ret [.dat (DIns c20)]), (21, .ok), (100021, .at (DIns c100021)), (200011, .no)] hs (by kernel_rfl) rfl (ob d1 ob0) (by kernel_rfl) oz
theorem toS (kk : Nat) (b : Bool) (es : List Dat) {r : Res} (q1 : (0 ≤ (es.length : Int) ∧ (es.length : Int) ≤ (es.length : Int) ∧ (es.length : Int) ≤ 2147483648) ∧ (zav cfg kk 7 Tryd.f7 3 (hdt b es (List.replicate es.length (DIns (Proofs.YtmoocdlfclhgcaaDoor.Ins.mk 0 0 ByteArray.empty))) 0) (X.exit 0) (Nm [3] [D.own 41 es] [none] [] [])) ∧ r = ([D.own 41 es], [], [])) : zaF cfg kk (den cfg kk) 7 Tryd.f7 [.dat (Dat.lst b es)] [] [] = some r := by
 obtain ⟨hz1, hz2, oz⟩ := q1
 subst oz; exact zab [(300003, .loop (hdt b es (List.replicate es.length (DIns ⟨0, 0, ByteArray.empty⟩)) 0) (.exit 0) (Nm [3] [.own 41 es] [none] [] [])), (7, .ok)] (ob hz1 (ob (rfl : _ = hdt b es (List.replicate es.length (DIns (Proofs.YtmoocdlfclhgcaaDoor.Ins.mk 0 0 ByteArray.empty))) 0) (ob hz2 ob0))) (by kernel_rfl)
theorem eqIn (kk : Nat) (c c' : In) {r : Res} (q1 : ((!decide (c.op = c'.op)) = true) → r = ([D.dat (B false)], [], [])) (q2 : ((!decide (c.op = c'.op)) = false) → ((!decide (c.a = c'.a)) = true) → r = ([D.dat (B false)], [], [])) (q3 : ((!decide (c.op = c'.op)) = false) → ((!decide (c.a = c'.a)) = false) → ((!decide (c.t = c'.t)) = true) → r = ([D.dat (B false)], [], [])) (q4 : ((!decide (c.op = c'.op)) = false) → ((!decide (c.a = c'.a)) = false) → ((!decide (c.t = c'.t)) = false) → r = ([D.dat (B true)], [], [])) : zaF cfg kk (den cfg kk) 20 Tryd.f20 [.dat (DIns c), .dat (DIns c')] [] [] = some r := by
 rcases Bool.eq_false_or_eq_true ((!decide (c.op = c'.op))) with d1 | d1
 · have oz := q1 d1
   subst oz; exact zab [(200009, .yes)] (ob d1 ob0) (by kernel_rfl)
 · rcases Bool.eq_false_or_eq_true ((!decide (c.a = c'.a))) with d2 | d2
   · have oz := q2 d1 d2
     subst oz; exact zab [(200009, .no), (200014, .yes)] (ob d1 (ob d2 ob0)) (by kernel_rfl)
   · rcases Bool.eq_false_or_eq_true ((!decide (c.t = c'.t))) with d3 | d3
     · have oz := q3 d1 d2 d3
       subst oz; exact zab [(200009, .no), (200014, .no), (200019, .yes)] (ob d1 (ob d2 (ob d3 ob0))) (by kernel_rfl)
     · have oz := q4 d1 d2 d3
       subst oz; exact zab [(200009, .no), (200014, .no), (200019, .no)] (ob d1 (ob d2 (ob d3 ob0))) (by kernel_rfl)
def hde (b1 b2 : Bool) (xs ys : List Dat) (i : Int) : St := Nm [0, 1, 5] [.dat (.lst b1 xs), .dat (.lst b2 ys), .dat (I i)] [none, none, none] [] []
theorem zmN (kk m : Nat) {s : St} {K : X → St → Prop} (b1 b2 : Bool) (xs ys : List Dat) (i : Int) (c19 : In) (c23 : In) (g25 : Bool) (hs : s.norm (fN kk 9 Tryd.f9 4) = hde b1 b2 xs ys i) (q1 : (tT (i < (xs.length : Int))) → ((!g25) = true) → ((0 ≤ i ∧ i < (xs.length : Int)) ∧ xs[i.toNat]? = some (Dat.agg [I c19.op, I c19.a, Dat.val (Value.string c19.t)])) ∧ ((0 ≤ i ∧ i < (ys.length : Int)) ∧ ys[i.toNat]? = some (Dat.agg [I c23.op, I c23.a, Dat.val (Value.string c23.t)])) ∧ (fD kk 20 [D.dat (Dat.agg [I c19.op, I c19.a, Dat.val (Value.string c19.t)]), D.dat (Dat.agg [I c23.op, I c23.a, Dat.val (Value.string c23.t)])] [D.dat (B g25)]) ∧ K (X.ret) (Nm [4] [D.dat (B false)] [none] [] [])) (q2 : (tT (i < (xs.length : Int))) → ((!g25) = false) → ((0 ≤ i ∧ i < (xs.length : Int)) ∧ xs[i.toNat]? = some (Dat.agg [I c19.op, I c19.a, Dat.val (Value.string c19.t)])) ∧ ((0 ≤ i ∧ i < (ys.length : Int)) ∧ ys[i.toNat]? = some (Dat.agg [I c23.op, I c23.a, Dat.val (Value.string c23.t)])) ∧ (fD kk 20 [D.dat (Dat.agg [I c19.op, I c19.a, Dat.val (Value.string c19.t)]), D.dat (Dat.agg [I c23.op, I c23.a, Dat.val (Value.string c23.t)])] [D.dat (B g25)]) ∧ (∀ s : St, s.norm (fN kk 9 Tryd.f9 4) = Nm [0, 1, 5] [D.dat (Dat.lst b1 xs), D.dat (Dat.lst b2 ys), D.dat (I (w64 (i + 1)))] [none, none, none] [] [] → fR kk 9 Tryd.f9 4 m s K)) (q3 : (tF (i < (xs.length : Int))) → K (X.exit 0) (Nm [4] [D.junk] [none] [] [])) : fR kk 9 Tryd.f9 4 (m + 1) s K := by
 rcases Bool.eq_false_or_eq_true (decide (i < (xs.length : Int))) with d1 | d1
 · rcases Bool.eq_false_or_eq_true ((!g25)) with d5 | d5
   · obtain ⟨hz1, hz2, hz3, oz⟩ := q1 d1 d5
     exact zac [(19, .at (DIns c19)), (23, .at (DIns c23)), (25, .ret [.dat (B g25)]), (200014, .yes), (200026, .yes)] hs (by kernel_rfl) rfl (ob d1 (ob hz1 (ob hz2 (ob hz3 (ob d5 ob0))))) (by kernel_rfl) oz
   · obtain ⟨hz1, hz2, hz3, oz⟩ := q2 d1 d5
     exact zah [(19, .at (DIns c19)), (23, .at (DIns c23)), (25, .ret [.dat (B g25)]), (200014, .yes), (200026, .no)] hs (by kernel_rfl) (ob d1 (ob hz1 (ob hz2 (ob hz3 (ob d5 ob0))))) (by kernel_rfl) oz
 · have oz := q3 d1
   exact zac [(19, .at (DIns c19)), (23, .at (DIns c23)), (25, .ret [.dat (B g25)]), (200014, .no)] hs (by kernel_rfl) rfl (ob d1 ob0) (by kernel_rfl) oz
theorem eqS_y (kk : Nat) (b1 b2 : Bool) (xs ys : List Dat) {r : Res} (q1 : ((!decide ((xs.length : Int) = (ys.length : Int))) = true) → r = ([D.dat (B false)], [], [])) (q2 : ((!decide ((xs.length : Int) = (ys.length : Int))) = false) → (zav cfg kk 9 Tryd.f9 4 (hde b1 b2 xs ys 0) (X.exit 0) (Nm [4] [D.junk] [none] [] [])) ∧ r = ([D.dat (B true)], [], [])) : zaF cfg kk (den cfg kk) 9 Tryd.f9 [.dat (Dat.lst b1 xs), .dat (Dat.lst b2 ys)] [] [] = some r := by
 rcases Bool.eq_false_or_eq_true ((!decide ((xs.length : Int) = (ys.length : Int)))) with d1 | d1
 · have oz := q1 d1
   subst oz; exact zab [(300004, .loop (hde b1 b2 xs ys 0) (.exit 0) (Nm [4] [.junk] [none] [] [])), (200010, .yes)] (ob d1 ob0) (by kernel_rfl)
 · obtain ⟨hz1, oz⟩ := q2 d1
   subst oz; exact zab [(300004, .loop (hde b1 b2 xs ys 0) (.exit 0) (Nm [4] [.junk] [none] [] [])), (200010, .no)] (ob d1 (ob (rfl : _ = hde b1 b2 xs ys 0) (ob hz1 ob0))) (by kernel_rfl)
theorem l1In (kk : Nat) (x lo hi : Int) {r : Res} (q1 : (tT (lo ≤ x)) → r = ([D.dat (B (decide (x ≤ hi)))], [], [])) (q2 : (tF (lo ≤ x)) → r = ([D.dat (B false)], [], [])) : zaF cfg kk (den cfg kk) 26 Tryd.f26 [.dat (I x), .dat (I lo), .dat (I hi)] [] [] = some r := by
 rcases Bool.eq_false_or_eq_true (decide (lo ≤ x)) with d1 | d1
 · have oz := q1 d1
   subst oz; exact zab [(200010, .yes)] (ob d1 (ob rT (ob rT ob0))) (by kernel_rfl)
 · have oz := q2 d1
   subst oz; exact zab [(200010, .no)] (ob d1 (ob rF (ob rF ob0))) (by kernel_rfl)
def hdc (sx : ByteArray) (b i : Int) : St := Nm [0, 1, 7] [.dat (S sx), .dat (.val (.int .u8 b)), .dat (I i)] [none, none, none] [] []
theorem zmE (kk m : Nat) {s : St} {K : X → St → Prop} (sx : ByteArray) (b i : Int) (hs : s.norm (fN kk 25 Tryd.f25 2) = hdc sx b i) (q1 : (tT (i < (sx.size : Int))) → (tT (((sx[i.toNat]?.getD 0).toNat : Int) = b)) → (0 ≤ i ∧ i < (sx.size : Int)) ∧ (0 ≤ (none : Option Int).getD 0 ∧ (none : Option Int).getD 0 ≤ (some i : Option Int).getD (sx.size : Int) ∧ (some i : Option Int).getD (sx.size : Int) ≤ (sx.size : Int)) ∧ (0 ≤ (some (w64 (i + 1)) : Option Int).getD 0 ∧ (some (w64 (i + 1)) : Option Int).getD 0 ≤ (none : Option Int).getD (sx.size : Int) ∧ (none : Option Int).getD (sx.size : Int) ≤ (sx.size : Int)) ∧ K (X.ret) (Nm [0, 4, 5, 6] [D.dat (Dat.val (Value.string sx)), D.dat (Dat.val (Value.string (sx.extract 0 ((some i : Option Int).getD (sx.size : Int)).toNat))), D.dat (Dat.val (Value.string (sx.extract ((some (w64 (i + 1)) : Option Int).getD 0).toNat ((none : Option Int).getD (sx.size : Int)).toNat))), D.dat (B true)] [none, none, none, none] [] [])) (q2 : (tT (i < (sx.size : Int))) → (tF (((sx[i.toNat]?.getD 0).toNat : Int) = b)) → (0 ≤ i ∧ i < (sx.size : Int)) ∧ (∀ s : St, s.norm (fN kk 25 Tryd.f25 2) = Nm [0, 1, 7] [D.dat (Dat.val (Value.string sx)), D.dat (Dat.val (Value.int IntKind.u8 b)), D.dat (I (w64 (i + 1)))] [none, none, none] [] [] → fR kk 25 Tryd.f25 2 m s K)) (q3 : (tF (i < (sx.size : Int))) → K (X.exit 0) (Nm [0, 4, 5, 6] [D.dat (Dat.val (Value.string sx)), D.junk, D.junk, D.junk] [none, none, none, none] [] [])) : fR kk 25 Tryd.f25 2 (m + 1) s K := by
 rcases Bool.eq_false_or_eq_true (decide (i < (sx.size : Int))) with d1 | d1
 · rcases Bool.eq_false_or_eq_true (decide (((sx[i.toNat]?.getD 0).toNat : Int) = b)) with d3 | d3
   · obtain ⟨hz1, hz2, hz3, oz⟩ := q1 d1 d3
     exact zac [(16, .ok), (21, .ok), (25, .ok), (200011, .yes), (200018, .yes)] hs (by kernel_rfl) rfl (ob d1 (ob hz1 (ob d3 (ob hz2 (ob hz3 ob0))))) (by kernel_rfl) oz
   · obtain ⟨hz1, oz⟩ := q2 d1 d3
     exact zah [(16, .ok), (21, .ok), (25, .ok), (200011, .yes), (200018, .no)] hs (by kernel_rfl) (ob d1 (ob hz1 (ob d3 ob0))) (by kernel_rfl) oz
 · have oz := q3 d1
   exact zac [(16, .ok), (21, .ok), (25, .ok), (200011, .no)] hs (by kernel_rfl) rfl (ob d1 ob0) (by kernel_rfl) oz
theorem cut_n (kk : Nat) (s : ByteArray) (b : Int) {r : Res} (q1 : (zav cfg kk 25 Tryd.f25 2 (hdc s b 0) (X.exit 0) (Nm [0, 4, 5, 6] [D.dat (Dat.val (Value.string s)), D.junk, D.junk, D.junk] [none, none, none, none] [] [])) ∧ r = ([D.dat (Dat.val (Value.string s)), D.dat (Dat.val (Value.string (ByteArray.mk #[]))), D.dat (B false)], [], [])) : zaF cfg kk (den cfg kk) 25 Tryd.f25 [.dat (S s), .dat (Dat.val (.int .u8 b))] [] [] = some r := by
 obtain ⟨hz1, oz⟩ := q1
 subst oz; exact zab [(300002, .loop (hdc s b 0) (.exit 0) (Nm [0, 4, 5, 6] [.dat (S s), .junk, .junk, .junk] [none, none, none, none] [] []))] (ob (rfl : _ = hdc s b 0) (ob hz1 ob0)) (by kernel_rfl)
theorem cut_y (kk : Nat) (s s1 s2 : ByteArray) (b : Int) {r : Res} (q1 : (zav cfg kk 25 Tryd.f25 2 (hdc s b 0) X.ret (Nm [0, 4, 5, 6] [D.dat (Dat.val (Value.string s)), D.dat (Dat.val (Value.string s1)), D.dat (Dat.val (Value.string s2)), D.dat (B true)] [none, none, none, none] [] [])) ∧ r = ([D.dat (Dat.val (Value.string s1)), D.dat (Dat.val (Value.string s2)), D.dat (B true)], [], [])) : zaF cfg kk (den cfg kk) 25 Tryd.f25 [.dat (S s), .dat (Dat.val (.int .u8 b))] [] [] = some r := by
 obtain ⟨hz1, oz⟩ := q1
 subst oz; exact zab [(300002, .loop (hdc s b 0) .ret (Nm [0, 4, 5, 6] [.dat (S s), .dat (S s1), .dat (S s2), .dat (B true)] [none, none, none, none] [] []))] (ob (rfl : _ = hdc s b 0) (ob hz1 ob0)) (by kernel_rfl)
def hdx (b : Bool) (es : List Dat) (t : ByteArray) (i : Int) : St := Nm [3, 6, 7, 8] [.dat (S t), .dat (.lst b es), .dat (I es.length), .dat (I i)] [none, none, none, none] [] []
theorem zly (kk m : Nat) {s : St} {K : X → St → Prop} (b : Bool) (es : List Dat) (t : ByteArray) (i : Int) (c10 : In) (s15 : ByteArray) (s19 : ByteArray) (hs : s.norm (fN kk 27 Tryd.f27 3) = hdx b es t i) (q1 : (tT (i < (es.length : Int))) → ((0 ≤ i ∧ i < (es.length : Int)) ∧ es[i.toNat]? = some (Dat.agg [I c10.op, I c10.a, Dat.val (Value.string c10.t)])) ∧ (fD kk 35 [D.dat (I c10.op)] [D.dat (Dat.val (Value.string s15))]) ∧ (s15.size + 1 ≤ 9223372036854775807) ∧ (fD kk 35 [D.dat (I c10.a)] [D.dat (Dat.val (Value.string s19))]) ∧ ((s15 ++ ByteArray.mk #[32]).size + s19.size ≤ 9223372036854775807) ∧ ((s15 ++ ByteArray.mk #[32] ++ s19).size + 1 ≤ 9223372036854775807) ∧ ((s15 ++ ByteArray.mk #[32] ++ s19 ++ ByteArray.mk #[32]).size + c10.t.size ≤ 9223372036854775807) ∧ ((s15 ++ ByteArray.mk #[32] ++ s19 ++ ByteArray.mk #[32] ++ c10.t).size + 1 ≤ 9223372036854775807) ∧ (t.size + (s15 ++ ByteArray.mk #[32] ++ s19 ++ ByteArray.mk #[32] ++ c10.t ++ ByteArray.mk #[10]).size ≤ 9223372036854775807) ∧ (∀ s : St, s.norm (fN kk 27 Tryd.f27 3) = Nm [3, 6, 7, 8] [D.dat (Dat.val (Value.string (t ++ (s15 ++ ByteArray.mk #[32] ++ s19 ++ ByteArray.mk #[32] ++ c10.t ++ ByteArray.mk #[10])))), D.dat (Dat.lst b es), D.dat (I (es.length : Int)), D.dat (I (w64 (i + 1)))] [none, none, none, none] [] [] → fR kk 27 Tryd.f27 3 m s K)) (q2 : (tF (i < (es.length : Int))) → K (X.exit 0) (Nm [3] [D.dat (Dat.val (Value.string t))] [none] [] [])) : fR kk 27 Tryd.f27 3 (m + 1) s K := by
 rcases Bool.eq_false_or_eq_true (decide (i < (es.length : Int))) with d1 | d1
 · obtain ⟨hz1, hz2, hz3, hz4, hz5, hz6, hz7, hz8, hz9, oz⟩ := q1 d1
   exact zah [(10, .at (DIns c10)), (15, .ret [.dat (S s15)]), (16, .ok), (19, .ret [.dat (S s19)]), (20, .ok), (21, .ok), (24, .ok), (25, .ok), (26, .ok), (200009, .yes)] hs (by kernel_rfl) (ob d1 (ob hz1 (ob hz2 (ob hz3 (ob hz4 (ob hz5 (ob hz6 (ob hz7 (ob hz8 (ob hz9 ob0)))))))))) (by kernel_rfl) oz
 · have oz := q2 d1
   exact zac [(10, .at (DIns c10)), (15, .ret [.dat (S s15)]), (16, .ok), (19, .ret [.dat (S s19)]), (20, .ok), (21, .ok), (24, .ok), (25, .ok), (26, .ok), (200009, .no)] hs (by kernel_rfl) rfl (ob d1 ob0) (by kernel_rfl) oz
theorem text (kk : Nat) (b : Bool) (es : List Dat) (t : ByteArray) {r : Res} (q1 : (zav cfg kk 27 Tryd.f27 3 (hdx b es ByteArray.empty 0) (X.exit 0) (Nm [3] [D.dat (Dat.val (Value.string t))] [none] [] [])) ∧ r = ([D.dat (Dat.val (Value.string t))], [], [])) : zaF cfg kk (den cfg kk) 27 Tryd.f27 [.dat (Dat.lst b es)] [] [] = some r := by
 obtain ⟨hz1, oz⟩ := q1
 subst oz; exact zab [(300003, .loop (hdx b es ByteArray.empty 0) (.exit 0) (Nm [3] [.dat (S t)] [none] [] []))] (ob (rfl : _ = hdx b es ByteArray.empty 0) (ob hz1 ob0)) (by kernel_rfl)
def hdk (b : Bool) (es : List Dat) (i : Int) : St := Nm [0, 12, 13, 14] [.dat (.lst b es), .dat (.lst b es), .dat (I es.length), .dat (I i)] [none, none, none, none] [] []
theorem zlC (kk m : Nat) {s : St} {K : X → St → Prop} (b : Bool) (es : List Dat) (i : Int) (c16 : In) (s21_0 : ByteArray) (s21_1 : ByteArray) (g21_2 : Bool) (g29 : Bool) (g35 : Bool) (hs : s.norm (fN kk 17 Tryd.f17 4) = hdk b es i) (q1 : (tT (i < (es.length : Int))) → (g21_2 = true) → ((0 ≤ i ∧ i < (es.length : Int)) ∧ es[i.toNat]? = some (Dat.agg [I c16.op, I c16.a, Dat.val (Value.string c16.t)])) ∧ (fD kk 25 [D.dat (Dat.val (Value.string c16.t)), D.dat (Dat.val (Value.int IntKind.u8 10))] [D.dat (Dat.val (Value.string s21_0)), D.dat (Dat.val (Value.string s21_1)), D.dat (B g21_2)]) ∧ K (X.ret) (Nm [0, 2, 3] [D.dat (Dat.lst b es), D.dat (Dat.val (Value.string (ByteArray.mk #[]))), D.dat (B false)] [none, none, none] [] [])) (q2 : (tT (i < (es.length : Int))) → (g21_2 = false) → ((!g29) = true) → ((0 ≤ i ∧ i < (es.length : Int)) ∧ es[i.toNat]? = some (Dat.agg [I c16.op, I c16.a, Dat.val (Value.string c16.t)])) ∧ (fD kk 25 [D.dat (Dat.val (Value.string c16.t)), D.dat (Dat.val (Value.int IntKind.u8 10))] [D.dat (Dat.val (Value.string s21_0)), D.dat (Dat.val (Value.string s21_1)), D.dat (B g21_2)]) ∧ (fD kk 26 [D.dat (I c16.op), D.dat (I 1), D.dat (I 13)] [D.dat (B g29)]) ∧ K (X.ret) (Nm [0, 2, 3] [D.dat (Dat.lst b es), D.dat (Dat.val (Value.string (ByteArray.mk #[]))), D.dat (B false)] [none, none, none] [] [])) (q3 : (tT (i < (es.length : Int))) → (g21_2 = false) → ((!g29) = false) → ((!g35) = true) → ((0 ≤ i ∧ i < (es.length : Int)) ∧ es[i.toNat]? = some (Dat.agg [I c16.op, I c16.a, Dat.val (Value.string c16.t)])) ∧ (fD kk 25 [D.dat (Dat.val (Value.string c16.t)), D.dat (Dat.val (Value.int IntKind.u8 10))] [D.dat (Dat.val (Value.string s21_0)), D.dat (Dat.val (Value.string s21_1)), D.dat (B g21_2)]) ∧ (fD kk 26 [D.dat (I c16.op), D.dat (I 1), D.dat (I 13)] [D.dat (B g29)]) ∧ (fD kk 26 [D.dat (I c16.a), D.dat (I 0), D.dat (I 100000)] [D.dat (B g35)]) ∧ K (X.ret) (Nm [0, 2, 3] [D.dat (Dat.lst b es), D.dat (Dat.val (Value.string (ByteArray.mk #[]))), D.dat (B false)] [none, none, none] [] [])) (q4 : (tT (i < (es.length : Int))) → (g21_2 = false) → ((!g29) = false) → ((!g35) = false) → (tT (1500 < (c16.t.size : Int))) → ((0 ≤ i ∧ i < (es.length : Int)) ∧ es[i.toNat]? = some (Dat.agg [I c16.op, I c16.a, Dat.val (Value.string c16.t)])) ∧ (fD kk 25 [D.dat (Dat.val (Value.string c16.t)), D.dat (Dat.val (Value.int IntKind.u8 10))] [D.dat (Dat.val (Value.string s21_0)), D.dat (Dat.val (Value.string s21_1)), D.dat (B g21_2)]) ∧ (fD kk 26 [D.dat (I c16.op), D.dat (I 1), D.dat (I 13)] [D.dat (B g29)]) ∧ (fD kk 26 [D.dat (I c16.a), D.dat (I 0), D.dat (I 100000)] [D.dat (B g35)]) ∧ K (X.ret) (Nm [0, 2, 3] [D.dat (Dat.lst b es), D.dat (Dat.val (Value.string (ByteArray.mk #[]))), D.dat (B false)] [none, none, none] [] [])) (q5 : (tT (i < (es.length : Int))) → (g21_2 = false) → ((!g29) = false) → ((!g35) = false) → (tF (1500 < (c16.t.size : Int))) → ((0 ≤ i ∧ i < (es.length : Int)) ∧ es[i.toNat]? = some (Dat.agg [I c16.op, I c16.a, Dat.val (Value.string c16.t)])) ∧ (fD kk 25 [D.dat (Dat.val (Value.string c16.t)), D.dat (Dat.val (Value.int IntKind.u8 10))] [D.dat (Dat.val (Value.string s21_0)), D.dat (Dat.val (Value.string s21_1)), D.dat (B g21_2)]) ∧ (fD kk 26 [D.dat (I c16.op), D.dat (I 1), D.dat (I 13)] [D.dat (B g29)]) ∧ (fD kk 26 [D.dat (I c16.a), D.dat (I 0), D.dat (I 100000)] [D.dat (B g35)]) ∧ (∀ s : St, s.norm (fN kk 17 Tryd.f17 4) = Nm [0, 12, 13, 14] [D.dat (Dat.lst b es), D.dat (Dat.lst b es), D.dat (I (es.length : Int)), D.dat (I (w64 (i + 1)))] [none, none, none, none] [] [] → fR kk 17 Tryd.f17 4 m s K)) (q6 : (tF (i < (es.length : Int))) → K (X.exit 0) (Nm [0, 2, 3] [D.dat (Dat.lst b es), D.junk, D.junk] [none, none, none] [] [])) : fR kk 17 Tryd.f17 4 (m + 1) s K := by
 rcases Bool.eq_false_or_eq_true (decide (i < (es.length : Int))) with d1 | d1
 · rcases Bool.eq_false_or_eq_true (g21_2) with d4 | d4
   · obtain ⟨hz1, hz2, oz⟩ := q1 d1 d4
     exact zac [(16, .at (DIns c16)), (21, .ret [.dat (S s21_0), .dat (S s21_1), .dat (B g21_2)]), (29, .ret [.dat (B g29)]), (35, .ret [.dat (B g35)]), (200015, .yes), (200026, .yes)] hs (by kernel_rfl) rfl (ob d1 (ob hz1 (ob hz2 (ob d4 (ob rT (ob rT (ob rT ob0))))))) (by kernel_rfl) oz
   · rcases Bool.eq_false_or_eq_true ((!g29)) with d9 | d9
     · obtain ⟨hz1, hz2, hz3, oz⟩ := q2 d1 d4 d9
       exact zac [(16, .at (DIns c16)), (21, .ret [.dat (S s21_0), .dat (S s21_1), .dat (B g21_2)]), (29, .ret [.dat (B g29)]), (35, .ret [.dat (B g35)]), (200015, .yes), (200026, .no), (200032, .yes)] hs (by kernel_rfl) rfl (ob d1 (ob hz1 (ob hz2 (ob d4 (ob rF (ob rF (ob hz3 (ob rF (ob d9 (ob rT (ob rT (ob rT ob0)))))))))))) (by kernel_rfl) oz
     · rcases Bool.eq_false_or_eq_true ((!g35)) with d14 | d14
       · obtain ⟨hz1, hz2, hz3, hz4, oz⟩ := q3 d1 d4 d9 d14
         exact zac [(16, .at (DIns c16)), (21, .ret [.dat (S s21_0), .dat (S s21_1), .dat (B g21_2)]), (29, .ret [.dat (B g29)]), (35, .ret [.dat (B g35)]), (200015, .yes), (200026, .no), (200032, .no), (200038, .yes)] hs (by kernel_rfl) rfl (ob d1 (ob hz1 (ob hz2 (ob d4 (ob rF (ob rF (ob hz3 (ob rF (ob d9 (ob rF (ob rF (ob hz4 (ob rF (ob d14 (ob rT (ob rT (ob rT ob0))))))))))))))))) (by kernel_rfl) oz
       · rcases Bool.eq_false_or_eq_true (decide (1500 < (c16.t.size : Int))) with d18 | d18
         · obtain ⟨hz1, hz2, hz3, hz4, oz⟩ := q4 d1 d4 d9 d14 d18
           exact zac [(16, .at (DIns c16)), (21, .ret [.dat (S s21_0), .dat (S s21_1), .dat (B g21_2)]), (29, .ret [.dat (B g29)]), (35, .ret [.dat (B g35)]), (200015, .yes), (200026, .no), (200032, .no), (200038, .no), (200043, .yes)] hs (by kernel_rfl) rfl (ob d1 (ob hz1 (ob hz2 (ob d4 (ob rF (ob rF (ob hz3 (ob rF (ob d9 (ob rF (ob rF (ob hz4 (ob rF (ob d14 (ob rF (ob rF (ob rF (ob d18 ob0)))))))))))))))))) (by kernel_rfl) oz
         · obtain ⟨hz1, hz2, hz3, hz4, oz⟩ := q5 d1 d4 d9 d14 d18
           exact zah [(16, .at (DIns c16)), (21, .ret [.dat (S s21_0), .dat (S s21_1), .dat (B g21_2)]), (29, .ret [.dat (B g29)]), (35, .ret [.dat (B g35)]), (200015, .yes), (200026, .no), (200032, .no), (200038, .no), (200043, .no)] hs (by kernel_rfl) (ob d1 (ob hz1 (ob hz2 (ob d4 (ob rF (ob rF (ob hz3 (ob rF (ob d9 (ob rF (ob rF (ob hz4 (ob rF (ob d14 (ob rF (ob rF (ob rF (ob d18 ob0)))))))))))))))))) (by kernel_rfl) oz
 · have oz := q6 d1
   exact zac [(16, .at (DIns c16)), (21, .ret [.dat (S s21_0), .dat (S s21_1), .dat (B g21_2)]), (29, .ret [.dat (B g29)]), (35, .ret [.dat (B g35)]), (200015, .no)] hs (by kernel_rfl) rfl (ob d1 ob0) (by kernel_rfl) oz
theorem znk (kk : Nat) (b : Bool) (es : List Dat) (s46 : ByteArray) {r : Res} (q1 : (tT (3000 < (es.length : Int))) → r = ([D.dat (Dat.val (Value.string (ByteArray.mk #[]))), D.dat (B false)], [], [])) (q2 : (tF (3000 < (es.length : Int))) → (zav cfg kk 17 Tryd.f17 4 (hdk b es 0) (X.exit 0) (Nm [0, 2, 3] [D.dat (Dat.lst b es), D.junk, D.junk] [none, none, none] [] [])) ∧ (fD kk 27 [D.dat (Dat.lst b es)] [D.dat (Dat.val (Value.string s46))]) ∧ r = ([D.dat (Dat.val (Value.string s46)), D.dat (B true)], [], [])) : zaF cfg kk (den cfg kk) 17 Tryd.f17 [.dat (Dat.lst b es)] [] [] = some r := by
 rcases Bool.eq_false_or_eq_true (decide (3000 < (es.length : Int))) with d1 | d1
 · have oz := q1 d1
   subst oz; exact zab [(300004, .loop (hdk b es 0) (.exit 0) (Nm [0, 2, 3] [.dat (.lst b es), .junk, .junk] [none, none, none] [] [])), (46, .ret [.dat (S s46)]), (200011, .yes)] (ob d1 ob0) (by kernel_rfl)
 · obtain ⟨hz1, hz2, oz⟩ := q2 d1
   subst oz; exact zab [(300004, .loop (hdk b es 0) (.exit 0) (Nm [0, 2, 3] [.dat (.lst b es), .junk, .junk] [none, none, none] [] [])), (46, .ret [.dat (S s46)]), (200011, .no)] (ob d1 (ob (rfl : _ = hdk b es 0) (ob hz1 (ob hz2 ob0)))) (by kernel_rfl)
theorem zlE (kk : Nat) (b : Bool) (es : List Dat) {r : Res} (q1 : (tT (3000 < (es.length : Int))) → r = ([D.dat (Dat.val (Value.string (ByteArray.mk #[]))), D.dat (B false)], [], [])) (q2 : (tF (3000 < (es.length : Int))) → (zav cfg kk 17 Tryd.f17 4 (hdk b es 0) X.ret (Nm [0, 2, 3] [D.dat (Dat.lst b es), D.dat (Dat.val (Value.string ByteArray.empty)), D.dat (B false)] [none, none, none] [] [])) ∧ r = ([D.dat (Dat.val (Value.string ByteArray.empty)), D.dat (B false)], [], [])) : zaF cfg kk (den cfg kk) 17 Tryd.f17 [.dat (Dat.lst b es)] [] [] = some r := by
 rcases Bool.eq_false_or_eq_true (decide (3000 < (es.length : Int))) with d1 | d1
 · have oz := q1 d1
   subst oz; exact zab [(300004, .loop (hdk b es 0) .ret (Nm [0, 2, 3] [.dat (.lst b es), .dat (S ByteArray.empty), .dat (B false)] [none, none, none] [] [])), (200011, .yes)] (ob d1 ob0) (by kernel_rfl)
 · obtain ⟨hz1, oz⟩ := q2 d1
   subst oz; exact zab [(300004, .loop (hdk b es 0) .ret (Nm [0, 2, 3] [.dat (.lst b es), .dat (S ByteArray.empty), .dat (B false)] [none, none, none] [] [])), (200011, .no)] (ob d1 (ob (rfl : _ = hdk b es 0) (ob hz1 ob0))) (by kernel_rfl)
def hdn (b : Bool) (es : List Dat) (c1 c2 i : Int) : St := Nm [7, 8, 18, 19, 20] [.dat (I c1), .dat (I c2), .dat (.lst b es), .dat (I es.length), .dat (I i)] [none, none, none, none, none] [] []
theorem law (kk : Nat) (b : Bool) (es : List Dat) (x13 : Int) (e18 : List Dat) (x19_0 : Int) (x19_1 : Int) (g19_2 : Bool) (e24 : List Dat) (x27_0 : Int) (x27_1 : Int) (g27_2 : Bool) (e46 : List Dat) (g47 : Bool) {r : Res} (q1 : (tT (x13 < 0)) → (fD kk 5 [D.dat (Dat.lst b es), D.dat (I 1048576)] [D.dat (I x13)]) ∧ r = ([D.dat (B true)], [], [])) (q2 : (tF (x13 < 0)) → ((!decide (x27_0 = x19_0)) = true) → (fD kk 5 [D.dat (Dat.lst b es), D.dat (I 1048576)] [D.dat (I x13)]) ∧ (fD kk 7 [D.dat (Dat.lst b es)] [D.own 41 e18]) ∧ (fD kk 6 [D.dat (Dat.lst true e18)] [D.dat (I x19_0), D.dat (I x19_1), D.dat (B g19_2)]) ∧ (fD kk 7 [D.dat (Dat.lst b es)] [D.own 41 e24]) ∧ (fD kk 8 [D.dat (Dat.lst true e24)] [D.dat (I x27_0), D.dat (I x27_1), D.dat (B g27_2)]) ∧ r = ([D.dat (B false)], [], [])) (q3 : (tF (x13 < 0)) → ((!decide (x27_0 = x19_0)) = false) → ((!decide (x27_1 = x19_1)) = true) → (fD kk 5 [D.dat (Dat.lst b es), D.dat (I 1048576)] [D.dat (I x13)]) ∧ (fD kk 7 [D.dat (Dat.lst b es)] [D.own 41 e18]) ∧ (fD kk 6 [D.dat (Dat.lst true e18)] [D.dat (I x19_0), D.dat (I x19_1), D.dat (B g19_2)]) ∧ (fD kk 7 [D.dat (Dat.lst b es)] [D.own 41 e24]) ∧ (fD kk 8 [D.dat (Dat.lst true e24)] [D.dat (I x27_0), D.dat (I x27_1), D.dat (B g27_2)]) ∧ r = ([D.dat (B false)], [], [])) (q4 : (tF (x13 < 0)) → ((!decide (x27_0 = x19_0)) = false) → ((!decide (x27_1 = x19_1)) = false) → ((!g27_2 == g19_2) = true) → (fD kk 5 [D.dat (Dat.lst b es), D.dat (I 1048576)] [D.dat (I x13)]) ∧ (fD kk 7 [D.dat (Dat.lst b es)] [D.own 41 e18]) ∧ (fD kk 6 [D.dat (Dat.lst true e18)] [D.dat (I x19_0), D.dat (I x19_1), D.dat (B g19_2)]) ∧ (fD kk 7 [D.dat (Dat.lst b es)] [D.own 41 e24]) ∧ (fD kk 8 [D.dat (Dat.lst true e24)] [D.dat (I x27_0), D.dat (I x27_1), D.dat (B g27_2)]) ∧ r = ([D.dat (B false)], [], [])) (q5 : (tF (x13 < 0)) → ((!decide (x27_0 = x19_0)) = false) → ((!decide (x27_1 = x19_1)) = false) → ((!g27_2 == g19_2) = false) → ((!g47) = true) → (fD kk 5 [D.dat (Dat.lst b es), D.dat (I 1048576)] [D.dat (I x13)]) ∧ (fD kk 7 [D.dat (Dat.lst b es)] [D.own 41 e18]) ∧ (fD kk 6 [D.dat (Dat.lst true e18)] [D.dat (I x19_0), D.dat (I x19_1), D.dat (B g19_2)]) ∧ (fD kk 7 [D.dat (Dat.lst b es)] [D.own 41 e24]) ∧ (fD kk 8 [D.dat (Dat.lst true e24)] [D.dat (I x27_0), D.dat (I x27_1), D.dat (B g27_2)]) ∧ (fD kk 7 [D.dat (Dat.lst b es)] [D.own 41 e46]) ∧ (fD kk 9 [D.dat (Dat.lst true e24), D.dat (Dat.lst true e46)] [D.dat (B g47)]) ∧ r = ([D.dat (B false)], [], [])) (q6 : (tF (x13 < 0)) → ((!decide (x27_0 = x19_0)) = false) → ((!decide (x27_1 = x19_1)) = false) → ((!g27_2 == g19_2) = false) → ((!g47) = false) → (fD kk 5 [D.dat (Dat.lst b es), D.dat (I 1048576)] [D.dat (I x13)]) ∧ (fD kk 7 [D.dat (Dat.lst b es)] [D.own 41 e18]) ∧ (fD kk 6 [D.dat (Dat.lst true e18)] [D.dat (I x19_0), D.dat (I x19_1), D.dat (B g19_2)]) ∧ (fD kk 7 [D.dat (Dat.lst b es)] [D.own 41 e24]) ∧ (fD kk 8 [D.dat (Dat.lst true e24)] [D.dat (I x27_0), D.dat (I x27_1), D.dat (B g27_2)]) ∧ (fD kk 7 [D.dat (Dat.lst b es)] [D.own 41 e46]) ∧ (fD kk 9 [D.dat (Dat.lst true e24), D.dat (Dat.lst true e46)] [D.dat (B g47)]) ∧ r = ([D.dat (B true)], [], [])) : zaF cfg kk (den cfg kk) 3 Tryd.f3 [.dat (Dat.lst b es)] [] [] = some r := by
 rcases Bool.eq_false_or_eq_true (decide (x13 < 0)) with d2 | d2
 · obtain ⟨hz1, oz⟩ := q1 d2
   subst oz; exact zab [(13, .ret [.dat (I x13)]), (18, .ret [.own 41 e18]), (19, .ret [.dat (I x19_0), .dat (I x19_1), .dat (B g19_2)]), (24, .ret [.own 41 e24]), (27, .ret [.dat (I x27_0), .dat (I x27_1), .dat (B g27_2)]), (46, .ret [.own 41 e46]), (47, .ret [.dat (B g47)]), (200015, .yes)] (ob hz1 (ob d2 ob0)) (by kernel_rfl)
 · rcases Bool.eq_false_or_eq_true ((!decide (x27_0 = x19_0))) with d9 | d9
   · obtain ⟨hz1, hz2, hz3, hz4, hz5, oz⟩ := q2 d2 d9
     subst oz; exact zab [(13, .ret [.dat (I x13)]), (18, .ret [.own 41 e18]), (19, .ret [.dat (I x19_0), .dat (I x19_1), .dat (B g19_2)]), (24, .ret [.own 41 e24]), (27, .ret [.dat (I x27_0), .dat (I x27_1), .dat (B g27_2)]), (46, .ret [.own 41 e46]), (47, .ret [.dat (B g47)]), (200015, .no), (200034, .yes)] (ob hz1 (ob d2 (ob hz2 (ob rT (ob hz3 (ob hz4 (ob rT (ob hz5 (ob d9 (ob rT (ob rT ob0))))))))))) (by kernel_rfl)
   · rcases Bool.eq_false_or_eq_true ((!decide (x27_1 = x19_1))) with d12 | d12
     · obtain ⟨hz1, hz2, hz3, hz4, hz5, oz⟩ := q3 d2 d9 d12
       subst oz; exact zab [(13, .ret [.dat (I x13)]), (18, .ret [.own 41 e18]), (19, .ret [.dat (I x19_0), .dat (I x19_1), .dat (B g19_2)]), (24, .ret [.own 41 e24]), (27, .ret [.dat (I x27_0), .dat (I x27_1), .dat (B g27_2)]), (46, .ret [.own 41 e46]), (47, .ret [.dat (B g47)]), (200015, .no), (200034, .no), (200039, .yes)] (ob hz1 (ob d2 (ob hz2 (ob rT (ob hz3 (ob hz4 (ob rT (ob hz5 (ob d9 (ob rF (ob rF (ob d12 (ob rT (ob rT ob0)))))))))))))) (by kernel_rfl)
     · rcases Bool.eq_false_or_eq_true ((!g27_2 == g19_2)) with d15 | d15
       · obtain ⟨hz1, hz2, hz3, hz4, hz5, oz⟩ := q4 d2 d9 d12 d15
         subst oz; exact zab [(13, .ret [.dat (I x13)]), (18, .ret [.own 41 e18]), (19, .ret [.dat (I x19_0), .dat (I x19_1), .dat (B g19_2)]), (24, .ret [.own 41 e24]), (27, .ret [.dat (I x27_0), .dat (I x27_1), .dat (B g27_2)]), (46, .ret [.own 41 e46]), (47, .ret [.dat (B g47)]), (200015, .no), (200034, .no), (200039, .no), (200043, .yes)] (ob hz1 (ob d2 (ob hz2 (ob rT (ob hz3 (ob hz4 (ob rT (ob hz5 (ob d9 (ob rF (ob rF (ob d12 (ob rF (ob rF (ob d15 ob0))))))))))))))) (by kernel_rfl)
       · rcases Bool.eq_false_or_eq_true ((!g47)) with d19 | d19
         · obtain ⟨hz1, hz2, hz3, hz4, hz5, hz6, hz7, oz⟩ := q5 d2 d9 d12 d15 d19
           subst oz; exact zab [(13, .ret [.dat (I x13)]), (18, .ret [.own 41 e18]), (19, .ret [.dat (I x19_0), .dat (I x19_1), .dat (B g19_2)]), (24, .ret [.own 41 e24]), (27, .ret [.dat (I x27_0), .dat (I x27_1), .dat (B g27_2)]), (46, .ret [.own 41 e46]), (47, .ret [.dat (B g47)]), (200015, .no), (200034, .no), (200039, .no), (200043, .no), (200048, .yes)] (ob hz1 (ob d2 (ob hz2 (ob rT (ob hz3 (ob hz4 (ob rT (ob hz5 (ob d9 (ob rF (ob rF (ob d12 (ob rF (ob rF (ob d15 (ob hz6 (ob rT (ob hz7 (ob d19 ob0))))))))))))))))))) (by kernel_rfl)
         · obtain ⟨hz1, hz2, hz3, hz4, hz5, hz6, hz7, oz⟩ := q6 d2 d9 d12 d15 d19
           subst oz; exact zab [(13, .ret [.dat (I x13)]), (18, .ret [.own 41 e18]), (19, .ret [.dat (I x19_0), .dat (I x19_1), .dat (B g19_2)]), (24, .ret [.own 41 e24]), (27, .ret [.dat (I x27_0), .dat (I x27_1), .dat (B g27_2)]), (46, .ret [.own 41 e46]), (47, .ret [.dat (B g47)]), (200015, .no), (200034, .no), (200039, .no), (200043, .no), (200048, .no)] (ob hz1 (ob d2 (ob hz2 (ob rT (ob hz3 (ob hz4 (ob rT (ob hz5 (ob d9 (ob rF (ob rF (ob d12 (ob rF (ob rF (ob d15 (ob hz6 (ob rT (ob hz7 (ob d19 ob0))))))))))))))))))) (by kernel_rfl)
end Go.Den
