/- Merged out of: D9 D10 D11 D12 DM D13 D14 D15 (prune.py, a program of this work's). -/
import Derived.Test.YtmoocdlfclhgcaaDoorZc1
import Derived.Laws.StructEq
import Derived.Great.BuildSlice
import Derived.MapKept
import Derived.Lib.AppendStr
set_option linter.unusedVariables false
set_option linter.unusedSimpArgs false
set_option linter.unnecessarySimpa false
namespace Go.Den
open Go Go.RowKit
set_option linter.unusedVariables false
theorem TyFacts.slice {P : Program} {ty : Nat → Option TI} {t : Nat} {i : TI} {inf : TypeInfo} {de : TypeDesc} {z : Value} (h : TyFacts P ty t i inf de z) {e : Nat} (hk : i.kind = .slice e) : P.underlying t = some (.slice e) ∧ (ty e).isSome = true := by
 have hkk := h.kind
 rw [h.und]
 cases de <;> simp [zaH, hk] at hkk ⊢
 obtain ⟨h1, h2⟩ := hkk
 subst h1
 exact ⟨rfl, h2⟩
theorem TyFacts.str {P : Program} {ty : Nat → Option TI} {t : Nat} {i : TI} {inf : TypeInfo} {de : TypeDesc} {z : Value} (h : TyFacts P ty t i inf de z) (hk : i.kind = .str) : P.underlying t = some .string := by
 have hkk := h.kind
 rw [h.und]
 cases de <;> simp [zaH, hk] at hkk ⊢
theorem TyFacts.int {P : Program} {ty : Nat → Option TI} {t : Nat} {i : TI} {inf : TypeInfo} {de : TypeDesc} {z : Value} (h : TyFacts P ty t i inf de z) {k : IntKind} (hk : i.kind = .int k) : P.underlying t = some (.int k) := by
 have hkk := h.kind
 rw [h.und]
 cases de <;> simp [zaH, hk] at hkk ⊢
 exact hkk
theorem TyFacts.struct {P : Program} {ty : Nat → Option TI} {t : Nat} {i : TI} {inf : TypeInfo} {de : TypeDesc} {z : Value} (h : TyFacts P ty t i inf de z) (hk : i.agg = true) : ∃ fs, P.underlying t = some (.struct fs) ∧ fs.toList.map (fun f => (f.offset, f.type)) = i.fs ∧ ∀ f ∈ i.fs, (ty f.2).isSome = true := by
 have hkk := h.kind
 rw [h.und]
 have hk' : i.kind = .struct := by
  unfold TI.agg at hk
  split at hk
  · rename_i e; exact e
  · cases hk
 cases de <;> simp [zaH, hk'] at hkk ⊢
 exact ⟨hkk.1, fun a b hab => hkk.2 a b hab⟩
theorem TyFacts.isAgg {P : Program} {ty : Nat → Option TI} {t : Nat} {i : TI} {inf : TypeInfo} {de : TypeDesc} {z : Value} (h : TyFacts P ty t i inf de z) (W : World) : (Go.isAgg t).run P W = .ok i.agg W := by
 have hkk := h.kind
 have hu := h.und
 unfold Go.isAgg
 simp only [Sem.run_bind, run_underlying hu, Result.andThen_ok]
 unfold TI.agg
 cases de <;> simp [zaH] at hkk ⊢
 all_goals (split at hkk <;> simp_all)
theorem TyFacts.sizeOf {P : Program} {ty : Nat → Option TI} {t : Nat} {i : TI} {inf : TypeInfo} {de : TypeDesc} {z : Value} (h : TyFacts P ty t i inf de z) (W : World) : (Go.sizeOf t).run P W = .ok i.sz W := by
 simp [Go.sizeOf, typeInfo, h.info, h.size]
section
variable {P : Program} {c : Cx} {a : Act} {o : Oper} {x : Nat} {T : World → Prop}
theorem zcI {p q : Pl} {n : Option Nat} {v : Value} {r : Row} (h : VR c p (.bor q n) v) (hg : c.s.get q = some r) : ∃ A k, c.H q = .slice A r.2.length k ∧ v = .slice A (zaT n r.2).length k ∧ (∀ m, n = some m → m ≤ r.2.length) := by
 obtain ⟨e, es, A, k, h1, h2, h3⟩ := h
 rw [hg] at h1
 cases h1
 cases n with
 | none => exact ⟨A, k, h2, h3, fun m hm => by cases hm⟩
 | some m =>
   obtain ⟨h3, h4⟩ := h3
   have : (es.take m).length = m := by simp; omega
   exact ⟨A, k, h2, by rw [h4]; simp [zaT]; omega, fun m' hm => by cases hm; exact h3⟩
theorem zl5 {gp : Pl → Option Row} {p : Pl} {d : D} {v : Value} {es : List Dat} (hg : ∀ q r, gp q = some r → c.s.get q = some r) (h : VR c p d v) (hr : zfo gp d = some es) : ∃ A k, v = .slice A es.length k := by
 unfold zfo at hr
 split at hr
 · cases hr
   have h1 := zd6 h
   cases h1 with
   | nil => exact ⟨_, _, rfl⟩
   | lst => exact ⟨_, _, rfl⟩
 · simp only [Option.map_eq_some_iff] at hr
   obtain ⟨r, h1, rfl⟩ := hr
   obtain ⟨A, k, _, h2, _⟩ := zcI h (hg _ _ h1)
   exact ⟨A, k, h2⟩
 · simp only [Option.map_eq_some_iff] at hr
   obtain ⟨r, h1, rfl⟩ := hr
   obtain ⟨e, es, A, k, h2, h3, h4, _, h5⟩ := h
   rw [hg _ _ h1] at h2
   cases h2
   exact ⟨_, _, by rw [h5, List.length_drop]⟩
 · cases hr
theorem zm4 {gp : Pl → Option Row} {t : TypeId} {z : Operand} {ca : Call} {i : TI} {n : Int} (hty : TyOk P c.ty) (hs : Sim c a.tmps) (hg : ∀ q r, gp q = some r → c.s.get q = some r) (ho : o.op = .call ca) (hc : ca.callee = .builtin .len) (ha : ca.args.toList = [z]) (hat : ca.argTypes.toList = [t])
 (ht : c.ty t = some i) (h : lenOf gp i.kind (c.s.look z) = some n) : Calm P c a o x T (.dat (.val (.int .i64 n))) := by
 obtain ⟨_, de, _, hf⟩ := hty.facts ht
 have h1 := (zaf hs z (.lent 0)).1
 have ha' : ca.args = #[z] := by
  apply Array.ext'
  simpa using ha
 have hat' : ca.argTypes = #[t] := by
  apply Array.ext'
  simpa using hat
 generalize c.s.look z = d at h h1
 unfold lenOf at h
 split at h
 · split at h
   · rename_i hk
     cases h
     have h3 := (zaq h1).1
     have hu := hf.str hk
     exact Calm.same (fun w hw => by simp [execOp, ho, resolve, hc, ha', hat', invoke, builtin, Builtin.len_, h3, run_underlying hu, goInt]) (zaE rfl)
   · cases h
 · split at h
   · rename_i e hk
     simp only [Option.map_eq_some_iff] at h
     obtain ⟨es, hr, rfl⟩ := h
     have hu := (hf.slice hk).1
     obtain ⟨A, k, h3⟩ := zl5 hg h1 hr
     exact Calm.same (fun w hw => by simp [execOp, ho, resolve, hc, ha', hat', invoke, builtin, Builtin.len_, h3, run_underlying hu, goInt]) (zaE rfl)
   · cases h
theorem zdy {z : Option Operand} {l : Option Int} (hs : Sim c a.tmps) (h : zci c.s.look z = some l) : z.map a.eval = l.map fun n => Value.int .i64 n := by
 cases z with
 | none => cases h; rfl
 | some z =>
   simp only [zci, Option.map_eq_some_iff] at h
   obtain ⟨n, hn, rfl⟩ := h
   have h1 := (zaf hs z (.lent 0)).1
   rw [zbR hn] at h1
   simp [(zaq h1).1]
theorem zfx {b : Bool} {len cap : Nat} {lo hi : Option Int} (h0 : 0 ≤ lo.getD 0) (h1 : lo.getD 0 ≤ hi.getD len) (h2 : hi.getD len ≤ len) (hc : len ≤ cap) (W : World) :
 (Instr.sliceBounds b len cap (lo.map fun n => Value.int .i64 n) (hi.map fun n => Value.int .i64 n) none).run P W = .ok ((lo.getD 0).toNat, (hi.getD len).toNat, cap) W := by
 cases lo with
 | none =>
   cases hi with
   | none => simp [Instr.sliceBounds]
   | some h =>
     simp at h1 h2
     have hb : (Instr.sliceBound (.int .i64 h) cap (if b = true then .sliceAcap else .sliceAlen)).run P W = .ok h.toNat W := run_sliceBound _ _ _ _ _ h1 (by omega)
     simp [Instr.sliceBounds, hb]
 | some l =>
   simp at h0
   cases hi with
   | none =>
     simp at h1
     have hb : (Instr.sliceBound (.int .i64 l) len .sliceB).run P W = .ok l.toNat W := run_sliceBound _ _ _ _ _ h0 h1
     simp [Instr.sliceBounds, hb]
   | some h =>
     simp at h1 h2
     have hb : (Instr.sliceBound (.int .i64 h) cap (if b = true then .sliceAcap else .sliceAlen)).run P W = .ok h.toNat W := run_sliceBound _ _ _ _ _ (by omega) (by omega)
     have hb2 : (Instr.sliceBound (.int .i64 l) h.toNat .sliceB).run P W = .ok l.toNat W := run_sliceBound _ _ _ _ _ h0 (by omega)
     simp [Instr.sliceBounds, hb, hb2]
theorem zaX {t e : TypeId} {A : Option Addr} {len cap : Nat} {lo hi : Option Int} {sz : Nat} (hu : P.underlying t = some (.slice e)) (W : World) (hz : (Go.sizeOf e).run P W = .ok sz W) (h0 : 0 ≤ lo.getD 0) (h1 : lo.getD 0 ≤ hi.getD len) (h2 : hi.getD len ≤ len) (hc : len ≤ cap) :
 (Instr.sliceAt t (.slice A len cap) (lo.map fun n => Value.int .i64 n) (hi.map fun n => Value.int .i64 n) none).run P W =
  .ok (.slice (if cap = (lo.getD 0).toNat then A else A.map (·.add ((lo.getD 0).toNat * sz))) ((hi.getD len).toNat - (lo.getD 0).toNat) (cap - (lo.getD 0).toNat)) W := by
 simp [Instr.sliceAt, Instr.slice, run_underlying hu, zfx (P := P) h0 h1 h2 hc, hz]
theorem zdx {t : TypeId} {s : ByteArray} {lo hi : Option Int} (hu : P.underlying t = some .string) (W : World) (h0 : 0 ≤ lo.getD 0) (h1 : lo.getD 0 ≤ hi.getD s.size) (h2 : hi.getD s.size ≤ s.size) :
 (Instr.sliceAt t (.string s) (lo.map fun n => Value.int .i64 n) (hi.map fun n => Value.int .i64 n) none).run P W = .ok (.string (s.extract (lo.getD 0).toNat (hi.getD s.size).toNat)) W := by
 simp [Instr.sliceAt, Instr.slice, run_underlying hu, zfx (P := P) h0 h1 h2 (Nat.le_refl _)]
theorem zfX {t : TypeId} {st : Option Nat} (hty : TyOk P c.ty) (h : zcr c.ty t = some st) : (st = none ∧ P.underlying t = some .string) ∨ ∃ e j, st = some j.sz ∧ c.ty e = some j ∧ P.underlying t = some (.slice e) ∧ ∀ W, (Go.sizeOf e).run P W = .ok j.sz W := by
 simp only [zcr, Option.bind_eq_some_iff] at h
 obtain ⟨i, hi, h⟩ := h
 obtain ⟨_, de, _, hf⟩ := hty.facts hi
 split at h
 · rename_i hk
   cases h
   exact .inl ⟨rfl, hf.str hk⟩
 · rename_i e hk
   simp only [Option.map_eq_some_iff] at h
   obtain ⟨j, hj, rfl⟩ := h
   obtain ⟨_, dj, _, hfj⟩ := hty.facts hj
   exact .inr ⟨e, j, rfl, hj, (hf.slice hk).1, hfj.sizeOf⟩
 · cases h
theorem Rep.cut {ρ : Nat → Role} {W : World} {b : Bool} {es : List Dat} {A : Option Addr} {len cap l h sz : Nat} (hr : Rep ρ W (.lst b es) [.slice A len cap]) (hw : wid sz es = true) (h1 : l ≤ h) (h2 : h ≤ es.length) :
 Rep ρ W (.lst b ((es.take h).drop l)) [.slice (if cap = l then A else A.map (·.add (l * sz))) (h - l) (cap - l)] := by
 by_cases he : h = l
 · subst he
   have e1 : (es.take h).drop h = [] := by simp
   rw [e1, Nat.sub_self]
   exact .nil
 · cases hr with
   | nil => simp at h2; omega
   | lst f hc hm hrd hg hwf hv hrep =>
     rename_i g o0 sz0
     have hsz : sz0 = sz := by
      cases es with
      | nil => simp at h2; omega
      | cons d es =>
        have e0 := hwf 0 d rfl
        rw [(hrep 0 d rfl).width] at e0
        have := beq_eq.1 hw
        omega
     subst hsz
     have hne : ¬ cap = l := by omega
     have hlen : ((es.take h).drop l).length = h - l := by simp; omega
     have hj : ∀ (j : Nat) (d : Dat), ((es.take h).drop l)[j]? = some d → es[l + j]? = some d := by
      intro j d hd
      rw [List.getElem?_drop, List.getElem?_take] at hd
      split at hd
      · exact hd
      · cases hd
     rw [if_neg hne, ← hlen]
     have ha : (some (⟨g, o0, none⟩ : Addr)).map (·.add (l * sz0)) = some ⟨g, o0 + l * sz0, none⟩ := by
      simp only [Option.map_some, Addr.add]
      split
      · rename_i e; rw [e]; rfl
      · rfl
     rw [ha]
     refine .lst (sz := sz0) (fun j => f (l + j)) (by omega) (by omega) hrd hg (fun j d hd => hwf _ d (hj j d hd)) (fun j d hd i u hu => ?_) (fun j d hd => hrep _ d (hj j d hd))
     have := hv _ d (hj j d hd) i u hu
     have e : o0 + l * sz0 + j * sz0 + i = o0 + (l + j) * sz0 + i := by rw [Nat.add_mul]; omega
     rw [e]
     exact this
theorem zkw {t : TypeId} {st : Option Nat} {l h : Option Int} {dz d : D} {v : Value} {p q : Pl} (hty : TyOk P c.ty) (ht : zcr c.ty t = some st) (h1 : VR c q dz v) (hd : zb0 st l h dz = some d) :
 ∃ r, (Instr.sliceAt t v (l.map fun n => Value.int .i64 n) (h.map fun n => Value.int .i64 n) none).run P c.W = .ok r c.W ∧ VR c p d r := by
 rcases zfX hty ht with ⟨rfl, hu⟩ | ⟨e, j, rfl, hj, hu, hz⟩
 · unfold zb0 at hd
   split at hd
   · rename_i s
     simp only at hd
     split at hd
     · rename_i hb
       cases hd
       have h3 := (zaq h1).1
       rw [h3]
       exact ⟨_, zdx hu c.W hb.1 hb.2.1 hb.2.2, zaE rfl⟩
     · cases hd
   · cases hd
   · cases hd
 · unfold zb0 at hd
   split at hd
   · cases hd
   · rename_i b es
     simp only at hd
     split at hd
     · rename_i hb
       split at hd
       · rename_i hw
         cases hd
         have h3 := zd6 h1
         obtain ⟨A, cap, hv, hcap⟩ : ∃ A cap, v = .slice A es.length cap ∧ es.length ≤ cap := by
          cases h3 with
          | nil => exact ⟨_, _, rfl, by simp⟩
          | lst f hc => exact ⟨_, _, rfl, hc⟩
         rw [hv] at h3 ⊢
         exact ⟨_, zaX (P := P) (t := t) (e := e) (A := A) (len := es.length) (cap := cap) (lo := l) (hi := h) (sz := j.sz) hu c.W (hz c.W) hb.1 hb.2.1 hb.2.2 hcap, _, h3.cut hw (by omega) (by omega), rfl⟩
       · cases hd
     · cases hd
   · cases hd
theorem zjo {gp : Pl → Option Row} {t : TypeId} {z : Operand} {lo hi : Option Operand} {st : Option Nat} {l h : Option Int} {d : D} (hty : TyOk P c.ty) (hs : Sim c a.tmps) (hg : ∀ q r, gp q = some r → c.s.get q = some r) (ho : o.op = .slice t z lo hi none)
 (ht : zcr c.ty t = some st) (hl : zci c.s.look lo = some l) (hh : zci c.s.look hi = some h) (hd : zgJ c.ty gp st l h (c.s.look z) = some d) : Calm P c a o x T d := by
 have h1 := (zaf hs z (.lent 0)).1
 have el := zdy hs hl
 have eh := zdy hs hh
 have hrun : ∀ r, (∀ w, (Instr.sliceAt t (a.eval z) (l.map fun n => Value.int .i64 n) (h.map fun n => Value.int .i64 n) none).run P w = .ok r w) → ∀ w, T w → (execOp a.eval o).run P w = .ok (.value r) w := by
  intro r hr w _
  simp [execOp, ho, el, eh, hr]
 generalize c.s.look z = dz at hd h1
 rcases zfX hty ht with ⟨rfl, hu⟩ | ⟨e, j, rfl, hj, hu, hz⟩
 · unfold zgJ at hd
   split at hd
   · split at hd
     · rename_i e1 e2; cases e2
     · rename_i e1 e2; cases e2
     · cases hd
   · unfold zb0 at hd
     split at hd
     · rename_i s
       simp only at hd
       split at hd
       · rename_i hb
         cases hd
         have h3 := (zaq h1).1
         rw [h3] at hrun
         exact Calm.same (hrun _ (fun w => zdx hu w hb.1 hb.2.1 hb.2.2)) (zaE rfl)
       · cases hd
     · cases hd
     · cases hd
 · unfold zgJ at hd
   split at hd
   · split at hd
     · rename_i p n _ _ e1 e2
       simp only [Option.bind_eq_some_iff] at hd
       obtain ⟨r, hr, hd⟩ := hd
       obtain ⟨A, k, hH, hv, hm⟩ := zcI h1 (hg _ _ hr)
       have hrow := (hs.row (hg _ _ hr)).at_
       rw [hH] at hrow
       obtain ⟨A', k', hA, hk, _⟩ := hrow.head
       injection hA with hA1 hA2 hA3
       have hcut : (zaT n r.2).length ≤ r.2.length := by cases n <;> simp [zaT]; omega
       rw [hv] at hrun h1
       split at hd
       · cases hd
         have hr2 := fun (w : World) => zaX (P := P) (t := t) (e := e) (A := A) (len := (zaT n r.2).length) (cap := k) (lo := none) (hi := none) (sz := j.sz) hu w (hz w) (by simp) (by simp) (by simp) (by omega)
         refine Calm.same (hrun _ hr2) ?_
         have e3 : (if k = (Option.getD (none : Option Int) 0).toNat then A else A.map (·.add ((Option.getD (none : Option Int) 0).toNat * j.sz))) = A := by
          cases A <;> simp [Addr.add]
         rw [e3]
         exact VR.any (.lent 0) (.slot x []) (.bor p n) _ rfl (by simpa using h1)
       · rename_i hh'
         split at hd
         · rename_i hb
           cases hd
           have hr2 := fun (w : World) => zaX (P := P) (t := t) (e := e) (A := A) (len := (zaT n r.2).length) (cap := k) (lo := none) (hi := some hh') (sz := j.sz) hu w (hz w) (by simp) (by simpa using hb.1) (by simpa using hb.2) (by omega)
           refine Calm.same (hrun _ hr2) ?_
           have e3 : (if k = (Option.getD (none : Option Int) 0).toNat then A else A.map (·.add ((Option.getD (none : Option Int) 0).toNat * j.sz))) = A := by
            cases A <;> simp [Addr.add]
           rw [e3]
           exact ⟨r.1, r.2, A, k, hg _ _ hr, hH, by omega, by simp⟩
         · cases hd
     · rename_i p n _ _ l0 z0 e2
       injection e2 with e2
       subst e2
       split at hd
       · simp only [Option.bind_eq_some_iff] at hd
         obtain ⟨r, hr, ii, hii, hd⟩ := hd
         split at hd
         rotate_left
         · cases hd
         rename_i hsz
         have hsz := beq_eq.1 hsz
         obtain ⟨A, k, hH, hv, hm⟩ := zcI h1 (hg _ _ hr)
         have hrow := (hs.row (hg _ _ hr)).at_
         rw [hH] at hrow
         obtain ⟨A', k', hA, hk, _⟩ := hrow.head
         injection hA with hA1 hA2 hA3
         split at hd
         · rename_i hb
           cases hd
           rw [hv] at hrun
           have hr2 := fun (w : World) => zaX (P := P) (t := t) (e := e) (A := A) (len := r.2.length) (cap := k) (lo := some l0) (hi := none) (sz := j.sz) hu w (hz w) (by simpa using hb.1) (by simpa using hb.2) (by simp) (by omega)
           refine Calm.same (hrun _ hr2) ?_
           exact ⟨r.1, r.2, A, k, hg _ _ hr, hH, by omega, ⟨ii, hii, hsz⟩, by simp⟩
         · cases hd
       · cases hd
     · cases hd
   · unfold zb0 at hd
     split at hd
     · cases hd
     · rename_i b es hne
       simp only at hd
       split at hd
       · rename_i hb
         split at hd
         · rename_i hw
           cases hd
           have h3 := zd6 h1
           obtain ⟨A, cap, hv, hcap⟩ : ∃ A cap, a.eval z = .slice A es.length cap ∧ es.length ≤ cap := by
            generalize a.eval z = v at h3
            cases h3 with
            | nil => exact ⟨_, _, rfl, by simp⟩
            | lst f hc => exact ⟨_, _, rfl, hc⟩
           rw [hv] at hrun h3
           have hr2 := fun (w : World) => zaX (P := P) (t := t) (e := e) (A := A) (len := es.length) (cap := cap) (lo := l) (hi := h) (sz := j.sz) hu w (hz w) hb.1 hb.2.1 hb.2.2 hcap
           refine Calm.same (hrun _ hr2) ⟨_, h3.cut hw (by omega) (by omega), rfl⟩
         · cases hd
       · cases hd
     · cases hd
theorem Rep.cellsAt {ρ : Nat → Role} {W : World} {d : Dat} {cv : List Value} (h : Rep ρ W d cv) : ∀ (i : Nat) (d' : Dat) (u : Value), d.cells[i]? = some d' → cv[i]? = some u → d'.cells = [d'] ∧ Rep ρ W d' [u] := by
 intro i d' u hd hu
 cases h with
 | agg hl hc h => exact ⟨hc i d' u hd hu, h i d' u hd hu⟩
 | val h =>
   cases i <;> simp [Dat.cells] at hd hu
   subst hd hu
   exact ⟨rfl, .val h⟩
 | nil =>
   cases i <;> simp [Dat.cells] at hd hu
   subst hd hu
   exact ⟨rfl, .nil⟩
 | lst f hc hm hr hg hw hv h =>
   cases i <;> simp [Dat.cells] at hd hu
   subst hd hu
   exact ⟨rfl, .lst f hc hm hr hg hw hv h⟩
theorem zc9 {t : TypeId} {i : TI} {inf : TypeInfo} {de : TypeDesc} {z : Value} (hf : TyFacts P c.ty t i inf de z) (W : World) {g n : Nat} {vs : List Value} (h : ∀ (j : Nat) (v : Value), vs[j]? = some v → W.cell? ⟨g, n + j, none⟩ = some v) (ha : i.agg = true) (hl : vs.length = i.sz) :
 (Instr.loadAt t (.pointer (some ⟨g, n, none⟩))).run P W = .ok (.agg vs.toArray) W := by
 have h1 := run_loadCells_list (P := P) W (⟨g, n, none⟩ : Addr) vs (fun j v hj => by rw [Addr.add_lit]; exact h j v hj)
 simp [Instr.loadAt, Instr.sureAddr, loadVar, hf.isAgg, ha, hf.sizeOf, ← hl, h1]
theorem zch {t : TypeId} {i : TI} {inf : TypeInfo} {de : TypeDesc} {z : Value} (hf : TyFacts P c.ty t i inf de z) (W : World) {g n : Nat} {v : Value} (h : W.cell? ⟨g, n, none⟩ = some v) (ha : i.agg = false) :
 (Instr.loadAt t (.pointer (some ⟨g, n, none⟩))).run P W = .ok v W := by
 simp [Instr.loadAt, Instr.sureAddr, loadVar, hf.isAgg, ha, load, Sem.run, h]
def CellsAt (c : Cx) (g n : Nat) (cs : List Dat) : Prop := ∃ vs : List Value, vs.length = cs.length ∧ ∀ (i : Nat) (d : Dat) (u : Value), cs[i]? = some d → vs[i]? = some u → d.cells = [d] ∧ Rep c.ρ c.W d [u] ∧ c.W.cell? ⟨g, n + i, none⟩ = some u
theorem zgy {c : Cx} {p : Pl} {d : Dat} {u : Value} (hd : d.cells = [d]) (h : Rep c.ρ c.W d [u]) : VR c p (.dat d) u := by
 refine ⟨[u], h, ?_⟩
 cases d with
 | agg cs =>
   exfalso
   simp only [Dat.cells] at hd
   have h2 : SizeOf.sizeOf cs = SizeOf.sizeOf [Dat.agg cs] := congrArg SizeOf.sizeOf hd
   simp at h2
   omega
 | val v => rfl
 | lst b es => rfl
theorem zk6 {c : Cx} {g n m : Nat} {cs : List Dat} {vs : List Value} (hl : vs.length = cs.length) (h : ∀ (i : Nat) (d : Dat) (u : Value), cs[i]? = some d → vs[i]? = some u → d.cells = [d] ∧ Rep c.ρ c.W d [u] ∧ c.W.cell? ⟨g, n + i, none⟩ = some u) (hm : m ≤ cs.length) (p : Pl) :
 VR c p (.dat (.agg (cs.take m))) (.agg (vs.take m).toArray) ∧ (vs.take m).length = m ∧ ∀ (j : Nat) (v : Value), (vs.take m)[j]? = some v → c.W.cell? ⟨g, n + j, none⟩ = some v := by
 have hat : ∀ (j : Nat) (d : Dat) (v : Value), (cs.take m)[j]? = some d → (vs.take m)[j]? = some v → cs[j]? = some d ∧ vs[j]? = some v := by
  intro j d v hd hv
  rw [List.getElem?_take] at hd hv
  split at hd
  · rename_i hj
    rw [if_pos hj] at hv
    exact ⟨hd, hv⟩
  · cases hd
 refine ⟨⟨_, .agg (by simp [hl]) (fun j d v hd hv => ?_) (fun j d v hd hv => ?_), rfl⟩, by simp; omega, fun j v hv => ?_⟩
 · obtain ⟨h1, h2⟩ := hat j d v hd hv
   exact (h j d v h1 h2).1
 · obtain ⟨h1, h2⟩ := hat j d v hd hv
   exact (h j d v h1 h2).2.1
 · rw [List.getElem?_take] at hv
   split at hv
   · have hlt : j < cs.length := by
      have := (List.getElem?_eq_some_iff.1 hv).1
      omega
     exact (h j _ v (List.getElem?_eq_getElem hlt) hv).2.2
   · cases hv
theorem zct {W w : World} {g n : Nat} {v : Value} (hw : w.heap[g]? = W.heap[g]?) (h : W.cell? ⟨g, n, none⟩ = some v) : w.cell? ⟨g, n, none⟩ = some v := (World.cell?_of_block (a := ⟨g, n, none⟩) hw).trans h
theorem zht {t : TypeId} {z : Operand} {i : TI} {g n : Nat} {cs : List Dat} {d : Dat} (hT : ∀ w, T w → w.heap[g]? = c.W.heap[g]?) (hty : TyOk P c.ty) (ho : o.op = .load t z) (ht : c.ty t = some i) (hv : a.eval z = .pointer (some ⟨g, n, none⟩)) (hc : CellsAt c g n cs) (h : zcv i cs = some d) : Calm P c a o x T (.dat d) := by
 obtain ⟨_, de, _, hf⟩ := hty.facts ht
 obtain ⟨vs, hl, hc⟩ := hc
 unfold zcv at h
 split at h
 · rename_i ha
   split at h
   · rename_i hsz
     cases h
     obtain ⟨h1, h2, h3⟩ := zk6 hl hc hsz (.slot x [])
     exact Calm.same (fun w hw => by simp [execOp, ho, hv, zc9 hf w (fun j v hj => zct (hT w hw) (h3 j v hj)) ha h2]) h1
   · cases h
 · rename_i ha
   have hlt := (List.getElem?_eq_some_iff.1 h).1
   have hu := List.getElem?_eq_getElem (show 0 < vs.length by omega)
   obtain ⟨h1, h2, h3⟩ := hc 0 d _ h hu
   rw [Nat.add_zero] at h3
   exact Calm.same (v := vs[0]) (fun w hw => by simp [execOp, ho, hv, zch hf w (zct (hT w hw) h3) ha]) (zgy h1 h2)
theorem CellsAt.drop {g n : Nat} {cs : List Dat} (h : CellsAt c g n cs) (m : Nat) : CellsAt c g (n + m) (cs.drop m) := by
 obtain ⟨vs, hl, hc⟩ := h
 refine ⟨vs.drop m, by simp [hl], fun i d u hd hu => ?_⟩
 rw [List.getElem?_drop] at hd hu
 have := hc _ d u hd hu
 rw [show n + m + i = n + (m + i) by omega]
 exact this
theorem zll {p q : Pl} {j n : Nat} {v : Value} {r : Row} {d : Dat} (hs : Sim c a.tmps) (h : VR c p (.bp q j n) v) (hg : c.s.get q = some r) (hd : r.2[j]? = some d) : ∃ g m, v = .pointer (some ⟨g, m, none⟩) ∧ g < c.W.heap.size ∧ CellsAt c g m (d.cells.drop n) := by
 obtain ⟨e, es, g, k, i, h1, h2, h3, h4, h5⟩ := h
 rw [hg] at h1
 cases h1
 have hrow := (hs.row hg).at_
 rw [h2] at hrow
 obtain ⟨i', xs, h6, h7, h8, h9⟩ := hrow
 rw [h4] at h6
 cases h6
 refine ⟨g, j * i.sz + n, h5, zbm h7 rfl, CellsAt.drop ?_ n⟩
 have hr := h8.rep j d hd
 refine ⟨(xs.drop (j * i.sz)).take i.sz, hr.width, fun ii d' u hd' hu => ?_⟩
 obtain ⟨h10, h11⟩ := hr.cellsAt ii d' u hd' hu
 refine ⟨h10, h11, ?_⟩
 have hx : xs[j * i.sz + ii]? = some u := by
  rw [List.getElem?_take] at hu
  split at hu
  · rwa [List.getElem?_drop] at hu
  · cases hu
 have := h7.cells rfl _ _ hx
 rwa [zgu] at this
theorem zcK {r : Ref} {cs : List D} {i : Nat} {d : D} {v : Value} (hb : c.s.box r = some cs) (hd : cs[i]? = some d) (hc : zap d = true) (h : VR c (.cell r i) d v) (p : Pl) : VR c p (d.alias (.cell r i)) v := by
 refine zgh (.cell r i) d v p h fun l r' hr => ?_
 cases l with
 | nil =>
   rw [Pl.subs_nil]
   simp only [D.at_] at hr
   simp [St.get, hb, hd, hr]
 | cons j l => cases d <;> simp [D.at_, D.row?, zap] at hr hc
theorem zeU {p : Pl} {ds : List D} {vs : List Value} (hl : vs.length = ds.length) (h : ∀ (i : Nat) (d : D) (v : Value), ds[i]? = some d → vs[i]? = some v → VR c (p.sub i) d v ∧ v.oneCell' = true) : VR c p (aggD ds) (.agg vs.toArray) := by
 unfold aggD
 split
 · rename_i cs hcs
   have key : ∀ (ds : List D) (cs : List Dat), zim ds = some cs → cs.length = ds.length ∧ ∀ (i : Nat) (d : Dat), cs[i]? = some d → ds[i]? = some (.dat d) := by
    intro ds
    induction ds with
    | nil => intro cs h; cases h; exact ⟨rfl, fun i d h => by simp at h⟩
    | cons e ds ih =>
      intro cs h
      simp only [zim, Option.bind_eq_some_iff, Option.map_eq_some_iff] at h
      obtain ⟨y, hy, ys, hys, rfl⟩ := h
      obtain ⟨h1, h2⟩ := ih ys hys
      refine ⟨by simp [h1], fun i d hd => ?_⟩
      cases i with
      | zero =>
        simp at hd
        subst hd
        unfold zld at hy
        split at hy
        · cases hy; rfl
        · cases hy
      | succ i => exact h2 i d (by simpa using hd)
   obtain ⟨h1, h2⟩ := key ds cs hcs
   refine ⟨vs, .agg (by omega) (fun j d v hd hv => ?_) (fun j d v hd hv => ?_), rfl⟩
   · obtain ⟨h3, h4⟩ := h j _ v (h2 j d hd) hv
     exact (zkp h3 h4).1
   · obtain ⟨h3, h4⟩ := h j _ v (h2 j d hd) hv
     exact (zkp h3 h4).2
 · refine ⟨vs, rfl, fun _ u hu => ?_, VRs.mk hl fun i d v hd hv => by rw [Nat.zero_add]; exact (h i d v hd hv).1⟩
   obtain ⟨j, hj, rfl⟩ := List.getElem_of_mem hu
   exact (h j _ _ (List.getElem?_eq_getElem (by omega)) (List.getElem?_eq_getElem hj)).2
theorem zha {r : Ref} {cs : List D} {tm : Array Value} (hs : Sim c tm) (hb : c.s.box r = some cs) (hm : isM cs = false) : ∃ vs : List Value, vs.length = cs.length ∧ (∀ (j : Nat) (v : Value), vs[j]? = some v → c.W.cell? ⟨c.β r, j, none⟩ = some v) ∧ ∀ (i : Nat) (d : D) (v : Value), cs[i]? = some d → vs[i]? = some v → VR c (.cell r i) d v ∧ v.oneCell' = true ∧ zap d = true := by
 obtain ⟨vs, T, h1, h2, h3, h4⟩ := (hs.boxes r cs hb).out
 refine ⟨vs, h3, fun j v hj => ?_, h4⟩
 rw [hm] at h1
 simp [World.cell?, h1, zgb, hj]
theorem zjN {bx : Ref → Option (List D)} {t : TypeId} {z : Operand} {i : TI} {r : Ref} {n : Nat} {cs : List D} {d : D} (hT : ∀ w, T w → w.heap[c.β r]? = c.W.heap[c.β r]?) (hty : TyOk P c.ty) (hs : Sim c a.tmps) (hb : c.s.box r = some cs) (hm : isM cs = false) (ho : o.op = .load t z) (ht : c.ty t = some i) (hv : a.eval z = .pointer (some ⟨c.β r, n, none⟩)) (h : loadCells i (Pl.cell r) cs n = some d) : Calm P c a o x T d := by
 obtain ⟨_, de, _, hf⟩ := hty.facts ht
 obtain ⟨vs, hl, hc, hcell⟩ := zha hs hb hm
 unfold Den.loadCells at h
 split at h
 · rename_i ha
   split at h
   · rename_i hsz
     cases h
     have h3 : ∀ (j : Nat) (v : Value), ((vs.drop n).take i.sz)[j]? = some v → c.W.cell? ⟨c.β r, n + j, none⟩ = some v := by
      intro j v hj
      rw [List.getElem?_take] at hj
      split at hj
      · rw [List.getElem?_drop] at hj
        exact hc _ v hj
      · cases hj
     refine Calm.same (v := .agg ((vs.drop n).take i.sz).toArray) (fun w hw => by simp [execOp, ho, hv, zc9 hf w (fun j v hj => zct (hT w hw) (h3 j v hj)) ha (by simp; omega)]) (zeU (by simp [hl]) fun j d v hd hu => ?_)
     rw [List.getElem?_mapIdx] at hd
     simp only [Option.map_eq_some_iff] at hd
     obtain ⟨d0, hd0, rfl⟩ := hd
     have hlt : j < i.sz := by
      have := (List.getElem?_eq_some_iff.1 hd0).1
      simp at this; omega
     rw [List.getElem?_take_of_lt hlt, List.getElem?_drop] at hd0 hu
     obtain ⟨h4, h5, h6⟩ := hcell _ d0 v hd0 hu
     exact ⟨zcK hb hd0 h6 h4 _, h5⟩
   · cases h
 · rename_i ha
   simp only [Option.map_eq_some_iff] at h
   obtain ⟨d0, hd0, rfl⟩ := h
   have hlt := (List.getElem?_eq_some_iff.1 hd0).1
   have hu := List.getElem?_eq_getElem (show n < vs.length by omega)
   obtain ⟨h4, h5, h6⟩ := hcell n d0 _ hd0 hu
   exact Calm.same (v := vs[n]) (fun w hw => by simp [execOp, ho, hv, zch hf w (zct (hT w hw) (hc _ _ hu)) ha]) (zcK hb hd0 h6 h4 _)
theorem zh7 {gp : Pl → Option Row} {bx : Ref → Option (List D)} {t : TypeId} {z : Operand} {i : TI} {d : D} (hty : TyOk P c.ty) (hs : Sim c a.tmps) (hg : ∀ q r, gp q = some r → c.s.get q = some r) (hbx : ∀ r cs, bx r = some cs → c.s.box r = some cs)
 (hTd : ∀ b g, Rd c.ρ b g → g < c.W.heap.size → ∀ w, T w → w.heap[g]? = c.W.heap[g]?) (hTb : ∀ r cs, bx r = some cs → ∀ w, T w → w.heap[c.β r]? = c.W.heap[c.β r]?) (hTp : ∀ q r, gp q = some r → ∀ g, g < c.W.heap.size → ∀ w, T w → w.heap[g]? = c.W.heap[g]?)
 (ho : o.op = .load t z) (ht : c.ty t = some i) (h : zcp i gp bx (c.s.look z) = some d) : Calm P c a o x T d := by
 have h1 := (zaf hs z (.lent 0)).1
 generalize c.s.look z = dz at h h1
 unfold zcp at h
 split at h
 · simp only [Option.bind_eq_some_iff] at h
   obtain ⟨cs, hb, h⟩ := h
   split at h
   · cases h
   rename_i hm
   exact zjN (bx := bx) (hTb _ _ hb) hty hs (hbx _ _ hb) hm ho ht h1.2 h
 · simp only [Option.map_eq_some_iff] at h
   obtain ⟨d', h, rfl⟩ := h
   obtain ⟨g, m, vs, h2, h3, h4, h5, h6⟩ := h1
   exact zht (hTd _ _ h3 h4) hty ho ht h2 ⟨vs, h5, h6⟩ h
 · simp only [Option.bind_eq_some_iff, Option.map_eq_some_iff] at h
   obtain ⟨r, hr, d0, hd0, d', h, rfl⟩ := h
   obtain ⟨g, m, h2, hlt, h3⟩ := zll hs h1 (hg _ _ hr) hd0
   exact zht (hTp _ _ hr g hlt) hty ho ht h2 h3 h
 · rename_i cs n
   obtain ⟨g, vs, h2, h3, h4, h5, h6⟩ := h1
   obtain ⟨_, de, _, hf⟩ := hty.facts ht
   split at h
   · cases h
   · rename_i ha
     cases hx : cs[n]? with
     | none => rw [hx] at h; cases h
     | some y =>
       have hlt := (List.getElem?_eq_some_iff.1 hx).1
       have hu := List.getElem?_eq_getElem (show n < vs.length by omega)
       obtain ⟨h8, h9⟩ := h6 n y _ hx hu
       have hrun : ∀ w, T w → (execOp a.eval o).run P w = .ok (.value vs[n]) w := fun w hw => by simp [execOp, ho, h2, zch hf w (zct (hTd false g h3 h4 w hw) h8) ha]
       rw [hx] at h
       cases y with
       | d y =>
         cases h
         exact Calm.same hrun (zgy h9.1 h9.2)
       | b j =>
         simp only [Option.map_eq_some_iff] at h
         obtain ⟨_, _, rfl⟩ := h
         exact Calm.same hrun h9
 · cases h
theorem znx {gp : Pl → Option Row} {bx : Ref → Option (List D)} {t : TypeId} {z : Operand} {i : TI} {d : D} (hty : TyOk P c.ty) (hs : Sim c a.tmps) (hg : ∀ q r, gp q = some r → c.s.get q = some r) (hbx : ∀ r cs, bx r = some cs → c.s.box r = some cs)
 (ho : o.op = .load t z) (ht : c.ty t = some i) (h : zcp i gp bx (c.s.look z) = some d) : Calm P c a o x (Below c.W.heap.size c.W) d :=
 zh7 hty hs hg hbx (fun b g _ hg w hw => hw.block g hg) (fun r cs hb w hw => hw.block _ (by
  obtain ⟨vs, T, h1, _⟩ := (hs.boxes r cs (hbx r cs hb)).out
  exact (Array.getElem?_eq_some_iff.1 h1).1)) (fun _ _ _ g hg w hw => hw.block g hg) ho ht h
theorem ziJ {t : TypeId} {i j : TI} {f : Nat} {q : Nat × Nat} (hty : TyOk P c.ty) (ht : c.ty t = some i) (ha : i.agg = true) (hq : i.fs[f]? = some q) : ∃ fs fl, P.underlying t = some (.struct fs) ∧ fs[f]? = some fl ∧ fl.offset = q.1 ∧ fl.type = q.2 := by
 obtain ⟨_, de, _, hf⟩ := hty.facts ht
 obtain ⟨fs, h1, h2, h3⟩ := hf.struct ha
 rw [← h2, List.getElem?_map] at hq
 simp only [Option.map_eq_some_iff] at hq
 obtain ⟨fl, h4, h5⟩ := hq
 refine ⟨fs, fl, h1, by simpa using h4, ?_, ?_⟩ <;> rw [← h5]
theorem ze3 {t : TypeId} {z : Operand} {i j : TI} {f : Nat} {q : Nat × Nat} {d : D} (hty : TyOk P c.ty) (hs : Sim c a.tmps) (ho : o.op = .fieldAddr t z f) (ht : c.ty t = some i) (hq : i.fs[f]? = some q) (hj : c.ty q.2 = some j) (hc : (Nat.beq j.sz 0 || !i.agg) = false) (h : zh1 q.1 (c.s.look z) = some d) : Calm P c a o x T d := by
 simp only [Bool.or_eq_false_iff, Bool.not_eq_false'] at hc
 obtain ⟨fs, fl, h1, h2, h3, h4⟩ := ziJ (j := j) hty ht hc.2 hq
 obtain ⟨_, _, _, hf⟩ := hty.facts hj
 have hz : j.sz ≠ 0 := beq_ne.1 hc.1
 have hv := (zaf hs z (.lent 0)).1
 have hrun : ∀ g n, a.eval z = .pointer (some ⟨g, n, none⟩) → ∀ w, T w → (execOp a.eval o).run P w = .ok (.value (.pointer (some ⟨g, n + q.1, none⟩))) w := by
  intro g n hz' w _
  simp [execOp, ho, hz', Instr.fieldAt, run_underlying h1, h2, Instr.sureAddr, fieldPlace, h4, hf.sizeOf, hz, h3, Addr.add_lit]
 generalize c.s.look z = dz at h hv
 unfold zh1 at h
 split at h
 · cases h
   exact Calm.same (hrun _ _ hv.2) ⟨hv.1, rfl⟩
 · cases h
   obtain ⟨g, m, vs, h5, h6, h7, h8, h9⟩ := hv
   have := CellsAt.drop (c := c) (g := g) (n := m) ⟨vs, h8, h9⟩ q.1
   obtain ⟨vs', h10, h11⟩ := this
   exact Calm.same (hrun _ _ h5) ⟨g, m + q.1, vs', rfl, h6, h7, h10, h11⟩
 · cases h
   obtain ⟨e, es, g, k, i', h5, h6, h7, h8, h9⟩ := hv
   exact Calm.same (hrun _ _ h9) ⟨e, es, g, k, i', h5, h6, h7, h8, by rw [Nat.add_assoc]⟩
 · cases h
   obtain ⟨g, vs, h5, h6, h7, h8, h9⟩ := hv
   exact Calm.same (hrun _ _ h5) ⟨g, vs, rfl, h6, h7, h8, h9⟩
 · cases h
theorem zds {W : World} {j : TI} {t : TypeId} {inf : TypeInfo} {de : TypeDesc} {zv : Value} (hf : TyFacts P c.ty t j inf de zv) {cv : List Value} {n : Nat} {v : Value} (h : (j.agg = true ∧ v = .agg ((cv.drop n).take j.sz).toArray) ∨ (j.agg = false ∧ cv[n]? = some v)) : (part t cv.toArray n).run P W = .ok v W := by
 rcases h with ⟨ha, rfl⟩ | ⟨ha, h⟩
 · have : (cv.toArray.extract n (n + j.sz)) = ((cv.drop n).take j.sz).toArray := by
    apply Array.ext'
    simp
   simp [part, hf.isAgg, ha, hf.sizeOf, this]
 · simp [part, hf.isAgg, ha, h]
theorem zmA {t : TypeId} {j : TI} {k : IntKind} {inf : TypeInfo} {de : TypeDesc} {zv : Value} (hf : TyFacts P c.ty t j inf de zv) (hk : j.kind = .int k) : P.underlying t = some (.int k) ∧ j.agg = false := by
 have hkj := hf.kind
 refine ⟨?_, by unfold TI.agg; rw [hk]⟩
 rw [hf.und]
 cases de <;> simp [zaH, hk] at hkj ⊢
 exact hkj
theorem zkP {t : TypeId} {j : TI} {inf : TypeInfo} {de : TypeDesc} {zv : Value} (hf : TyFacts P c.ty t j inf de zv) (hk : j.kind = .bool) : P.underlying t = some .bool ∧ j.agg = false := by
 have hkj := hf.kind
 refine ⟨?_, by unfold TI.agg; rw [hk]⟩
 rw [hf.und]
 cases de <;> simp [zaH, hk] at hkj ⊢
theorem ziL {ρ : Nat → Role} {W0 : World} {xs ys : List Dat} {cv cw : List Value} (hty : TyOk P c.ty) (hx : ∀ (o : Nat) (u : Value), xs[o]? = some (.val u) → cv[o]? = some u) (hy : ∀ (o : Nat) (u : Value), ys[o]? = some (.val u) → cw[o]? = some u) (W : World) (n : Nat) :
 ∀ (fs : List Field) (r : Bool), (∀ f ∈ fs, f.name ≠ "_") → eqFs c.ty (fs.map fun f => (f.offset, f.type)) xs ys = some r → (Op.eqFields (n + 1) cv.toArray cw.toArray fs).run P W = .ok r W
 | [], r, hn, h => by
   cases h
   simp [Op.eqFields]
 | f :: fs, r, hn, h => by
   simp only [List.map_cons, eqFs, Option.bind_eq_some_iff] at h
   obtain ⟨j, hj, h⟩ := h
   obtain ⟨_, _, _, hf⟩ := hty.facts hj
   have hfn := hn f (by simp)
   have ih := ziL (ρ := ρ) (W0 := W0) hty hx hy W n fs
   have hn' : ∀ g ∈ fs, g.name ≠ "_" := fun g hg => hn g (by simp [hg])
   split at h
   · rename_i k0 k a k' b hk h1 h2
     split at h
     · obtain ⟨q, hq, rfl⟩ := Option.map_eq_some_iff.1 h
       obtain ⟨hu, ha⟩ := zmA hf hk
       have p1 := zds (c := c) (W := W) hf (cv := cv) (n := f.offset) (.inr ⟨ha, hx _ _ h1⟩)
       have p2 := zds (c := c) (W := W) hf (cv := cw) (n := f.offset) (.inr ⟨ha, hy _ _ h2⟩)
       have hkk : k = k' := of_decide_eq_true (by assumption)
       subst hkk
       have he := run_equalIn_int (P := P) W n f.type k k0 a b hu
       have := ih q hn' hq
       simp only [Op.eqFields, if_pos hfn, Sem.run_bind, p1, p2, he, Result.andThen_ok]
       by_cases hab : a = b
       · subst hab
         simp [this]
       · simp [hab]
     · cases h
   · rename_i a b hk h1 h2
     obtain ⟨q, hq, rfl⟩ := Option.map_eq_some_iff.1 h
     obtain ⟨hu, ha⟩ := zkP hf hk
     have p1 := zds (c := c) (W := W) hf (cv := cv) (n := f.offset) (.inr ⟨ha, hx _ _ h1⟩)
     have p2 := zds (c := c) (W := W) hf (cv := cw) (n := f.offset) (.inr ⟨ha, hy _ _ h2⟩)
     have he := run_equalIn_bool' (P := P) W n f.type a b hu
     have := ih q hn' hq
     simp only [Op.eqFields, if_pos hfn, Sem.run_bind, p1, p2, he, Result.andThen_ok]
     cases hab : (a == b) <;> simp [this]
   · cases h
theorem zgz {t : Nat} {i : TI} (hty : TyOk P c.ty) (hi : c.ty t = some i) (hn : zi0 i = true) : ∃ ms, P.underlying t = some (.interface ms) := by
 obtain ⟨_, de, _, hf⟩ := hty.facts hi
 have heq := hf.eqk
 unfold zi0 at hn
 split at hn
 · rename_i hk hz
   unfold eqOK at heq
   rw [hk, hz] at heq
   simp only at heq
   have hu := hf.und
   cases de <;> first | (exact ⟨_, hu⟩) | cases heq
 · cases hn
theorem zf0 {t : Nat} {ms : Array (String × TypeId)} (hu : P.underlying t = some (.interface ms)) (W : World) : (Op.equalIn 10000 t .nilIface .nilIface).run P W = .ok true W := by
 rw [show (10000 : Nat) = 9999 + 1 from rfl]
 unfold Op.equalIn
 simp [run_underlying hu]
theorem zdq {op : BinOp} {t : Nat} {z u : Operand} (h : (isC z || isC u) = true) (W : World) : (eqGuard op t z u .nilIface .nilIface).run P W = .ok () W := by
 unfold eqGuard
 cases op <;> cases z <;> cases u <;> first | (cases h; done) | simp
theorem zdv {t : Nat} {ms : Array (String × TypeId)} (hu : P.underlying t = some (.interface ms)) (tt : Nat) (u : Value) (W : World) : (Op.equalIn 10000 t (.iface tt u) .nilIface).run P W = .ok false W := by
 rw [show (10000 : Nat) = 9999 + 1 from rfl]
 unfold Op.equalIn
 simp [run_underlying hu]
theorem zcz {op : BinOp} {t : Nat} {z u : Operand} (tt : Nat) (q v : Value) (W : World) : (eqGuard op t z u (.iface tt q) v).run P W = .ok () W := by
 unfold eqGuard
 cases op <;> simp
theorem zdi {t e : Nat} (hu : P.underlying t = some (.slice e)) (g o n k : Nat) (W : World) : (Op.equalIn 10000 t (.slice (some ⟨g, o, none⟩) n k) (.slice none 0 0)).run P W = .ok false W := by
 rw [show (10000 : Nat) = 9999 + 1 from rfl]
 unfold Op.equalIn
 simp [run_underlying hu]
theorem zcu {op : BinOp} {t : Nat} {z u : Operand} (A : Option Addr) (n k : Nat) (v : Value) (W : World) : (eqGuard op t z u (.slice A n k) v).run P W = .ok () W := by
 unfold eqGuard
 cases op <;> simp
theorem zhC {z : Operand} {b : Bool} (hz : isC z = true) (h : c.s.look z = .dat (.lst b [])) : z = .const (.slice none 0 0) := by
 cases z with
 | const v =>
   have h' : zec v = .dat (.lst b []) := h
   unfold zec at h'
   split at h'
   · rfl
   · split at h' <;> cases h'
 | _ => cases hz
theorem ziK {z : Operand} {b : Bool} {d : Dat} {es : List Dat} (h : c.s.look z = .dat (.lst b (d :: es))) : isC z = false := by
 cases z with
 | const v =>
   have h' : zec v = .dat (.lst b (d :: es)) := h
   unfold zec at h'
   split at h'
   · cases h'
   · split at h' <;> cases h'
 | _ => rfl
theorem zjy {p : Pl} {b : Bool} {d : Dat} {es : List Dat} {v : Value} (h : VR c p (.dat (.lst b (d :: es))) v) : ∃ g o n k, v = .slice (some ⟨g, o, none⟩) n k := by
 have h1 := zd6 h
 generalize hd : Dat.lst b (d :: es) = x at h1
 generalize hl : [v] = l at h1
 cases h1 with
 | nil => cases hd
 | lst f hc hm hr hg hw hv h => injection hl with hl; exact ⟨_, _, _, _, hl⟩
 | val _ => cases hd
 | agg _ _ _ => cases hd
theorem zik {op : BinOp} {t : TypeId} {z u : Operand} {k : TypeId} {b : Bool} (hty : TyOk P c.ty) (hs : Sim c a.tmps) (ho : o.op = .binOp op t z u k) (h : zfW c.ty t op (isC z || isC u) (c.s.look z) (c.s.look u) = some b) : Calm P c a o x T (.dat (.val (.bool b))) := by
 have h1 := (zaf hs z (.lent 0)).1
 have h2 := (zaf hs u (.lent 0)).1
 have key : ∀ (xs ys : List Dat) (i : TI) (r : Bool), c.s.look z = .dat (.agg xs) → c.s.look u = .dat (.agg ys) → c.ty t = some i → i.agg = true → eqFs c.ty i.fs xs ys = some r →
  ∃ cv cw : List Value, a.eval z = .agg cv.toArray ∧ a.eval u = .agg cw.toArray ∧ P.eqGuardType P.depth t = false ∧ ∀ W, (Op.equalIn 10000 t (.agg cv.toArray) (.agg cw.toArray)).run P W = .ok r W := by
  intro xs ys i r hx hy hi ha hr
  rw [hx] at h1
  rw [hy] at h2
  obtain ⟨cv, h3, h4⟩ := zkr h1
  obtain ⟨cw, h5, h6⟩ := zkr h2
  obtain ⟨_, de, _, hf⟩ := hty.facts hi
  have hk : i.kind = .struct := by
   unfold TI.agg at ha
   split at ha
   · assumption
   · cases ha
  have hkj := hf.kind
  have heq := hf.eqk
  unfold eqOK at heq
  rw [hk] at heq
  simp only [Bool.and_eq_true, Bool.not_eq_true'] at heq
  obtain ⟨⟨e1, e2⟩, e3⟩ := heq
  cases de with
  | struct fs =>
    simp only [zaH, hk, Bool.and_eq_true, decide_eq_true_eq] at hkj
    have hfs : P.fieldsOf t = fs := by unfold Program.fieldsOf; rw [hf.und]
    refine ⟨cv, cw, h3, h5, e2, fun W => ?_⟩
    rw [show (10000 : Nat) = 9999 + 1 from rfl, run_equalIn_struct W 9999 t _ _ (by rw [hfs]; exact hf.und) e1, hfs]
    refine ziL (ρ := c.ρ) (W0 := c.W) (xs := xs) (ys := ys) hty (fun o' v hv => ?_) (fun o' v hv => ?_) W 9998 fs.toList r (fun f hf' => ?_) (by rw [hkj.1]; exact hr)
    · have hlt := (List.getElem?_eq_some_iff.1 hv).1
      have hw := h4.width
      simp only [Dat.cells] at hw
      have hu := List.getElem?_eq_getElem (show o' < cv.length by omega)
      obtain ⟨_, hrep⟩ := h4.cellsAt _ _ _ hv hu
      have key2 : ∀ l, Rep c.ρ c.W (.val v) l → l = [v] := fun l hl => by cases hl; rfl
      have := key2 _ hrep
      injection this with this
      rw [hu, this]
    · have hlt := (List.getElem?_eq_some_iff.1 hv).1
      have hw := h6.width
      simp only [Dat.cells] at hw
      have hu := List.getElem?_eq_getElem (show o' < cw.length by omega)
      obtain ⟨_, hrep⟩ := h6.cellsAt _ _ _ hv hu
      have key2 : ∀ l, Rep c.ρ c.W (.val v) l → l = [v] := fun l hl => by cases hl; rfl
      have := key2 _ hrep
      injection this with this
      rw [hu, this]
    · have := (List.all_eq_true.1 e3) f hf'
      simpa using this
  | _ => simp [zaH, hk] at hkj
 unfold zfW at h
 split at h
 · rename_i hx hy
   split at h
   · rename_i hc
     obtain ⟨i, hi, h⟩ := Option.bind_eq_some_iff.1 h
     split at h
     · rename_i hn
       cases h
       obtain ⟨ms, hms⟩ := zgz hty hi hn
       rw [hx] at h1
       rw [hy] at h2
       refine Calm.same (v := .bool true) (fun W _ => ?_) (zaE rfl)
       simp only [execOp, ho, (zaq h1).1, (zaq h2).1, Sem.run_bind, zdq hc, Result.andThen_ok]
       simp [binOp, Op.equal, Op.maxDepth, zf0 hms]
     · cases h
   · cases h
 · rename_i hx hy
   split at h
   · rename_i hc
     obtain ⟨i, hi, h⟩ := Option.bind_eq_some_iff.1 h
     split at h
     · rename_i hn
       cases h
       obtain ⟨ms, hms⟩ := zgz hty hi hn
       rw [hx] at h1
       rw [hy] at h2
       refine Calm.same (v := .bool false) (fun W _ => ?_) (zaE rfl)
       simp only [execOp, ho, (zaq h1).1, (zaq h2).1, Sem.run_bind, zdq hc, Result.andThen_ok]
       simp [binOp, Op.equal, Op.maxDepth, zf0 hms]
     · cases h
   · cases h
 · rename_i hx hy
   split at h
   · rename_i hc
     obtain ⟨i, hi, h⟩ := Option.bind_eq_some_iff.1 h
     split at h
     · rename_i hn
       cases h
       obtain ⟨ms, hms⟩ := zgz hty hi hn
       rw [hx] at h1
       rw [hy] at h2
       obtain ⟨tt, q, hv⟩ := h1
       refine Calm.same (v := .bool false) (fun W _ => ?_) (zaE rfl)
       simp only [execOp, ho, hv, (zaq h2).1, Sem.run_bind, zcz, Result.andThen_ok]
       simp [binOp, Op.equal, Op.maxDepth, zdv hms]
     · cases h
   · cases h
 · rename_i hx hy
   split at h
   · rename_i hc
     obtain ⟨i, hi, h⟩ := Option.bind_eq_some_iff.1 h
     split at h
     · rename_i hn
       cases h
       obtain ⟨ms, hms⟩ := zgz hty hi hn
       rw [hx] at h1
       rw [hy] at h2
       obtain ⟨tt, q, hv⟩ := h1
       refine Calm.same (v := .bool true) (fun W _ => ?_) (zaE rfl)
       simp only [execOp, ho, hv, (zaq h2).1, Sem.run_bind, zcz, Result.andThen_ok]
       simp [binOp, Op.equal, Op.maxDepth, zdv hms]
     · cases h
   · cases h
 · rename_i b1 d1 es1 b2 hx hy
   split at h
   · rename_i hc
     obtain ⟨i, hi, h⟩ := Option.bind_eq_some_iff.1 h
     split at h
     · rename_i e hk
       cases h
       obtain ⟨_, de, _, hf⟩ := hty.facts hi
       have hz0 := ziK hx
       rw [hz0, Bool.false_or] at hc
       have hu := zhC hc hy
       subst hu
       rw [hx] at h1
       obtain ⟨g, o', n, k', hv⟩ := zjy h1
       refine Calm.same (v := .bool false) (fun W _ => ?_) (zaE rfl)
       have hun := (hf.slice hk).1
       simp only [execOp, ho, hv, show a.eval (.const (.slice none 0 0)) = .slice none 0 0 from rfl, Sem.run_bind, zcu, Result.andThen_ok]
       simp [binOp, Op.equal, Op.maxDepth, zdi hun]
     · cases h
   · cases h
 · rename_i b1 d1 es1 b2 hx hy
   split at h
   · rename_i hc
     obtain ⟨i, hi, h⟩ := Option.bind_eq_some_iff.1 h
     split at h
     · rename_i e hk
       cases h
       obtain ⟨_, de, _, hf⟩ := hty.facts hi
       have hz0 := ziK hx
       rw [hz0, Bool.false_or] at hc
       have hu := zhC hc hy
       subst hu
       rw [hx] at h1
       obtain ⟨g, o', n, k', hv⟩ := zjy h1
       refine Calm.same (v := .bool true) (fun W _ => ?_) (zaE rfl)
       have hun := (hf.slice hk).1
       simp only [execOp, ho, hv, show a.eval (.const (.slice none 0 0)) = .slice none 0 0 from rfl, Sem.run_bind, zcu, Result.andThen_ok]
       simp [binOp, Op.equal, Op.maxDepth, zdi hun]
     · cases h
   · cases h
 · rename_i xs ys hx hy
   simp only [Option.bind_eq_some_iff] at h
   obtain ⟨i, hi, h⟩ := h
   split at h
   · rename_i ha
     obtain ⟨cv, cw, h3, h4, h5, h6⟩ := key xs ys i b hx hy hi ha h
     refine Calm.same (v := .bool b) (fun W _ => ?_) (zaE rfl)
     simp [execOp, ho, h3, h4, run_eqGuard_agg W _ t z u _ _ h5, run_eql_struct, h6]
   · cases h
 · rename_i xs ys hx hy
   simp only [Option.bind_eq_some_iff] at h
   obtain ⟨i, hi, h⟩ := h
   split at h
   · rename_i ha
     obtain ⟨r, hr, rfl⟩ := Option.map_eq_some_iff.1 h
     obtain ⟨cv, cw, h3, h4, h5, h6⟩ := key xs ys i r hx hy hi ha hr
     refine Calm.same (v := .bool (!r)) (fun W _ => ?_) (zaE rfl)
     simp [execOp, ho, h3, h4, run_eqGuard_agg W _ t z u _ _ h5, run_neq_struct, h6]
   · cases h
 · cases h
theorem zdU {t : TypeId} {z : Operand} {i j : TI} {f : Nat} {q : Nat × Nat} (hty : TyOk P c.ty) (hs : Sim c a.tmps) (ho : o.op = .field t z f) (ht : c.ty t = some i) (hq : i.fs[f]? = some q) (hj : c.ty q.2 = some j) (ha : i.agg = true) :
 (∀ cs d, c.s.look z = .dat (.agg cs) → zcv j (cs.drop q.1) = some d → Calm P c a o x T (.dat d)) ∧
 (∀ ds d, c.s.look z = .seq false ds → j.agg = false → ds[q.1]? = some d → Calm P c a o x T d) ∧
 (∀ ds, c.s.look z = .seq false ds → j.agg = true → q.1 + j.sz ≤ ds.length → Calm P c a o x T (aggD ((ds.drop q.1).take j.sz))) := by
 obtain ⟨fs, fl, h1, h2, h3, h4⟩ := ziJ (j := j) hty ht ha hq
 obtain ⟨_, _, _, hf⟩ := hty.facts hj
 have hv := zaf hs z (.lent 0)
 have hrun : ∀ (cv : List Value) v, a.eval z = .agg cv.toArray → ((j.agg = true ∧ v = .agg ((cv.drop q.1).take j.sz).toArray) ∨ (j.agg = false ∧ cv[q.1]? = some v)) → ∀ w, T w → (execOp a.eval o).run P w = .ok (.value v) w := by
  intro cv v hz' h w _
  simp [execOp, ho, hz', Instr.field, run_underlying h1, h2, asAgg, h4, h3, zds hf h]
 refine ⟨fun cs d hz h => ?_, fun ds d hz hja h => ?_, fun ds hz hja h => ?_⟩
 · rw [hz] at hv
   obtain ⟨cv, h5, h6⟩ := zkr hv.1
   have hc : ∀ (i : Nat) (d : Dat) (u : Value), (cs.drop q.1)[i]? = some d → (cv.drop q.1)[i]? = some u → d.cells = [d] ∧ Rep c.ρ c.W d [u] := by
    intro i d u hd hu
    rw [List.getElem?_drop] at hd hu
    exact h6.cellsAt _ d u hd hu
   have hl : cv.length = cs.length := h6.width
   unfold zcv at h
   split at h
   · rename_i hja
     split at h
     · rename_i hsz
       cases h
       refine Calm.same (hrun cv _ h5 (.inl ⟨hja, rfl⟩)) ⟨_, .agg (by simp [hl]) (fun k d v hd hv => ?_) (fun k d v hd hv => ?_), rfl⟩
       · have hlt : k < j.sz := by
          have := (List.getElem?_eq_some_iff.1 hd).1
          simp at this; omega
         rw [List.getElem?_take_of_lt hlt] at hd hv
         exact (hc k d v hd hv).1
       · have hlt : k < j.sz := by
          have := (List.getElem?_eq_some_iff.1 hd).1
          simp at this; omega
         rw [List.getElem?_take_of_lt hlt] at hd hv
         exact (hc k d v hd hv).2
     · cases h
   · rename_i hja
     have hlt := (List.getElem?_eq_some_iff.1 h).1
     have hu := List.getElem?_eq_getElem (show 0 < (cv.drop q.1).length by simp at hlt ⊢; omega)
     obtain ⟨h7, h8⟩ := hc 0 d _ h hu
     refine Calm.same (hrun cv _ h5 (.inr ⟨hja, ?_⟩)) (zgy h7 h8)
     rw [List.getElem?_drop] at hu
     simpa using hu
 · rw [hz] at hv
   obtain ⟨vs, h5, h6, h7⟩ := hv.1
   obtain ⟨u, hu, h8⟩ := h7.at_ h
   exact Calm.same (hrun vs u (by simpa using h5) (.inr ⟨hja, hu⟩)) (VR.any _ _ _ _ (zdk hv.2 h) h8)
 · rw [hz] at hv
   obtain ⟨vs, h5, h6, h7⟩ := hv.1
   have hl := h7.len
   refine Calm.same (hrun vs _ (by simpa using h5) (.inl ⟨hja, rfl⟩)) (zeU (by simp [hl]) fun k d v hd hv' => ?_)
   have hlt : k < j.sz := by
    have := (List.getElem?_eq_some_iff.1 hd).1
    simp at this; omega
   rw [List.getElem?_take_of_lt hlt, List.getElem?_drop] at hd hv'
   obtain ⟨u, hu, h8⟩ := h7.at_ hd
   rw [hv'] at hu
   cases hu
   exact ⟨VR.any _ _ _ _ (zdk hv.2 hd) h8, h6 rfl v (List.mem_of_getElem? hv')⟩
theorem zeJ {gp : Pl → Option Row} {t e : TypeId} {z u : Operand} {k j : TI} {n : Int} {d : D} (hty : TyOk P c.ty) (hs : Sim c a.tmps) (hg : ∀ q r, gp q = some r → c.s.get q = some r) (ho : o.op = .indexAddr t z u) (ht : c.ty t = some k) (hk : k.kind = .slice e) (hj : c.ty e = some j) (hn : Den.intOf (c.s.look u) = some n) (h : zbN gp e j n (c.s.look z) = some d) : Calm P c a o x T d := by
 obtain ⟨_, de, _, hf⟩ := hty.facts ht
 obtain ⟨_, _, _, hfj⟩ := hty.facts hj
 have hu := (hf.slice hk).1
 have h2 := (zaf hs u (.lent 0)).1
 rw [zbR hn] at h2
 have h4 := (zaq h2).1
 have h1 := (zaf hs z (.lent 0)).1
 have hrun : ∀ g m l cp, a.eval z = .slice (some ⟨g, m, none⟩) l cp → 0 ≤ n → n < l → ∀ w, T w → (execOp a.eval o).run P w = .ok (.value (.pointer (some ⟨g, m + n.toNat * j.sz, none⟩))) w := by
  intro g m l cp hz' h0 hl w _
  simp [execOp, ho, hz', Instr.indexAt, h4, asIntOf, run_underlying hu, h0, hl, hfj.sizeOf, Addr.add_lit]
 generalize c.s.look z = dz at h h1
 unfold zbN at h
 split at h
 · rename_i b es
   split at h
   · rename_i hb
     simp only [Option.bind_eq_some_iff] at h
     obtain ⟨d0, hd0, h⟩ := h
     split at h
     · rename_i hw
       cases h
       have h3 := zd6 h1
       generalize hz' : a.eval z = v at h3 hrun
       cases h3 with
       | nil => simp at hb; omega
       | lst f hc hm hr hgg hwf hv hrep =>
         rename_i g m cp sz0
         have hsz : sz0 = j.sz := by
          have e0 := hwf _ d0 hd0
          rw [(hrep _ d0 hd0).width] at e0
          have := beq_eq.1 hw
          omega
         subst hsz
         refine Calm.same (hrun _ _ _ _ rfl hb.1 hb.2) ⟨g, _, f n.toNat, rfl, hr, hgg, (hrep _ d0 hd0).width, fun i d u hd hu => ?_⟩
         obtain ⟨h5, h6⟩ := (hrep _ d0 hd0).cellsAt i d u hd hu
         exact ⟨h5, h6, hv _ d0 hd0 i u hu⟩
     · cases h
   · cases h
 · rename_i p m
   simp only [Option.bind_eq_some_iff] at h
   obtain ⟨r, hr, h⟩ := h
   split at h
   · rename_i he
     have he : r.1 = e := beq_eq.1 he
     split at h
     · rename_i hb
       cases h
       obtain ⟨A, cp, hH, hv, hm⟩ := zcI h1 (hg _ _ hr)
       have hcut : (zaT m r.2).length ≤ r.2.length := by cases m <;> simp [zaT]; omega
       have hrow := (hs.row (hg _ _ hr)).at_
       rw [hH] at hrow
       obtain ⟨A', k', hA, _, _, hcase⟩ := hrow.head
       injection hA with hA1 hA2 hA3
       subst hA1 hA3
       rcases hcase with ⟨_, h0, _⟩ | ⟨g, rfl, _⟩
       · exfalso
         have h00 : r.2.length = 0 := by rw [h0]; rfl
         omega
       · refine Calm.same (hrun _ _ _ _ hv hb.1 hb.2) ⟨r.1, r.2, g, cp, j, hg _ _ hr, hH, by omega, by rw [he]; exact hj, by simp⟩
     · cases h
   · cases h
 · cases h
end
end Go.Den
namespace Go.Den
open Go Go.RowKit
set_option linter.unusedVariables false
structure HomeTo (c c1 : Cx) (sl : Bool) (X : Nat) (fwd : List Nat → Option Pl) : Prop where
 ty : c1.ty = c.ty
 rd : ∀ b g, Rd c.ρ b g → g < c.W.heap.size → Rd c1.ρ b g ∧ c1.W.heap[g]? = c.W.heap[g]?
 own : ∀ l q, fwd l = some q → c1.H q = c.H (.slot X l) ∧ ∀ g, c.ρ g = .row (.slot X l) → g < c.W.heap.size → c1.ρ g = .row q ∧ c1.W.heap[g]? = c.W.heap[g]?
 ref : ∀ r, (c.s.box r).isSome = true → (c1.s.box r).isSome = true ∧ c1.β r = c.β r
 pl : ∀ q r, sl = true → q.ofSlot = false → c.s.get q = some r → c1.s.get q = some r ∧ c1.H q = c.H q
mutual
theorem zbO {c c1 : Cx} {sl : Bool} {X : Nat} {fwd : List Nat → Option Pl} (h : HomeTo c c1 sl X fwd) : ∀ (d : D) (π : List Nat) (p : Pl) (v : Value), d.tight sl = true → VR c (.slot X π) d v → (∀ l r, (D.at_ l d).row? = some r → fwd (π ++ l) = some (p.subs l)) → VR c1 p d v
 | .dat d, π, p, v, ht, ⟨cv, h1, h2⟩, hf => ⟨cv, h1.mono h.rd, h2⟩
 | .own e es, π, p, v, ht, ⟨h1, h2⟩, hf => by
   have hp := hf [] (e, es) rfl
   rw [List.append_nil, Pl.subs_nil] at hp
   obtain ⟨h3, h4⟩ := h.own _ _ hp
   refine ⟨by rw [h3]; exact h1, RowAt.ok ?_⟩
   rw [h3]
   have hlt : ∀ g, (c.H (.slot X π)).ownBlock = some g → g < c.W.heap.size := fun g hg => h2.at_.lt hg
   exact h2.at_.re h.ty h.rd fun g hg => h4 g (h2.at_.choose_spec.choose_spec.2.2.2 g hg) (hlt g hg)
 | .bor q n, π, p, v, ht, ⟨e, es, A, k, h1, h2, h3⟩, hf => by
   have ht' : (sl && !q.ofSlot) = true := ht
   simp only [Bool.and_eq_true, Bool.not_eq_true'] at ht'
   obtain ⟨h4, h5⟩ := h.pl q _ ht'.1 ht'.2 h1
   exact ⟨e, es, A, k, h4, by rw [h5]; exact h2, h3⟩
 | .bp q j o, π, p, v, ht, _, hf => by cases ht
 | .sb q l z, π, p, v, ht, _, hf => by cases ht
 | .ep b cs, π, p, v, ht, ⟨g, o, vs, h1, h2, h3, h4, h5⟩, hf => by
   obtain ⟨h6, h7⟩ := h.rd b g h2 h3
   refine ⟨g, o, vs, h1, h6, ?_, h4, fun i d u hd hu => ?_⟩
   · obtain ⟨ob, ho⟩ : ∃ ob, c.W.heap[g]? = some ob := ⟨_, Array.getElem?_eq_getElem h3⟩
     rw [ho] at h7
     exact (Array.getElem?_eq_some_iff.1 h7).1
   · obtain ⟨h8, h9, h10⟩ := h5 i d u hd hu
     exact ⟨h8, h9.mono h.rd, by rw [← h10]; exact World.cell?_of_block h7⟩
 | .ptr r o, π, p, v, ht, ⟨h1, h2⟩, hf => by
   obtain ⟨h3, h4⟩ := h.ref r h1
   exact ⟨h3, by rw [h4]; exact h2⟩
 | .etc (.map r), π, p, v, ht, ⟨h1, h2⟩, hf => by
   obtain ⟨h3, h4⟩ := h.ref r h1
   exact ⟨h3, by rw [h4]; exact h2⟩
 | .etc .mark, π, p, v, ht, hv, hf => hv
 | .etc .err, π, p, v, ht, hv, hf => hv
 | .etc (.vp _ _), π, p, v, ht, hv, hf => by cases ht
 | .fn f cap, π, p, v, ht, ⟨h1, h2⟩, hf => by
   refine ⟨fun r hr => (h.ref r (h1 r hr)).1, ?_⟩
   rw [h2]
   congr 2
   exact List.map_congr_left fun r hr => by rw [(h.ref r (h1 r hr)).2]
 | .seq t ds, π, p, v, ht, ⟨vs, h1, h2, h3⟩, hf =>
   ⟨vs, h1, h2, ziO h ds π p 0 vs ht h3 (fun i l r hr => by rw [Nat.zero_add]; exact hf (i :: l) r hr)⟩
 | .undef, π, p, v, ht, hv, hf => hv
 | .junk, π, p, v, ht, hv, hf => trivial
theorem ziO {c c1 : Cx} {sl : Bool} {X : Nat} {fwd : List Nat → Option Pl} (h : HomeTo c c1 sl X fwd) : ∀ (ds : List D) (π : List Nat) (p : Pl) (i : Nat) (vs : List Value), D.tights sl ds = true → VRs c (.slot X π) i ds vs → (∀ i' l r, (D.at_ l (ds.getD i' .junk)).row? = some r → fwd (π ++ (i + i') :: l) = some (p.subs ((i + i') :: l))) → VRs c1 p i ds vs
 | [], π, p, i, vs, ht, hv, hf => hv
 | d :: ds, π, p, i, vs, ht, ⟨v, vs', h1, h2, h3⟩, hf => by
   have ht' : (d.tight sl && D.tights sl ds) = true := ht
   simp only [Bool.and_eq_true] at ht'
   refine ⟨v, vs', h1, zbO h d (π ++ [i]) (p.sub i) v ht'.1 h2 (fun l r hr => ?_), ziO h ds π p (i + 1) vs' ht'.2 h3 (fun i' l r hr => ?_)⟩
   · rw [Pl.sub_subs, List.append_assoc]
     exact hf 0 l r hr
   · rw [show i + 1 + i' = i + (i' + 1) by omega]
     exact hf (i' + 1) l r hr
end
def Cx.home (c : Cx) (X : Nat) (fwd : List Nat → Option Pl) (bwd : Pl → Option (List Nat)) : Cx :=
 { c with
   ρ := fun g => match c.ρ g with
    | .row (.slot y l) => match Nat.beq y X with | true => (match fwd l with | some q => .row q | none => .row (.slot y l)) | false => .row (.slot y l)
    | r => r
   H := fun q => match bwd q with | some l => c.H (.slot X l) | none => c.H q }
theorem Cx.home_ρ {c : Cx} {X : Nat} {fwd : List Nat → Option Pl} {bwd : Pl → Option (List Nat)} (g : Nat) (h : ∀ l, c.ρ g ≠ .row (.slot X l)) : (c.home X fwd bwd).ρ g = c.ρ g := by
 simp only [Cx.home]
 split
 · rename_i y l e
   have hb : Nat.beq y X = false := beq_ne.2 (fun e' => h l (by rw [e, e']))
   rw [hb, e]
 · rfl
theorem Cx.home_row {c : Cx} {X : Nat} {fwd : List Nat → Option Pl} {bwd : Pl → Option (List Nat)} {g : Nat} {l : List Nat} {q : Pl} (h : c.ρ g = .row (.slot X l)) (hf : fwd l = some q) : (c.home X fwd bwd).ρ g = .row q := by
 have hb : Nat.beq X X = true := beq_eq.2 rfl
 simp only [Cx.home, h, hb, hf]
theorem Cx.home_rd {c : Cx} {X : Nat} {fwd : List Nat → Option Pl} {bwd : Pl → Option (List Nat)} : ∀ b g, Rd c.ρ b g → Rd (c.home X fwd bwd).ρ b g := fun b g h => by
 unfold Rd at *
 rw [Cx.home_ρ g (fun l e => by rcases h with h | ⟨_, h⟩ <;> rw [h] at e <;> cases e)]
 exact h
theorem Cx.home_stable {c : Cx} {X : Nat} {fwd : List Nat → Option Pl} {bwd : Pl → Option (List Nat)} {g : Nat} (h : stable (c.ρ g)) : (c.home X fwd bwd).ρ g = c.ρ g := Cx.home_ρ g (fun l e => by rw [e] at h; exact h)
def zbB (x : Nat) : List Nat → Option Pl := fun l => some (.slot x l)
def ofSlot (x : Nat) : Pl → Option (List Nat)
 | .slot y l => match Nat.beq y x with | true => some l | false => none
 | _ => none
theorem zcc {x : Nat} {q : Pl} (h : ¬ zaI x q) : ofSlot x q = none := by
 cases q with
 | slot y l =>
   have hb : Nat.beq y x = false := beq_ne.2 (fun e => h ⟨l, by rw [e]⟩)
   simp only [ofSlot, hb]
 | _ => rfl
theorem zbk {x : Nat} {l : List Nat} : ofSlot x (.slot x l) = some l := by
 have hb : Nat.beq x x = true := beq_eq.2 rfl
 simp only [ofSlot, hb]
theorem Sim.putOwned {c : Cx} {tm : Array Value} {X x : Nat} {d : D} {v : Value} (hs : Sim c tm) (hX : Ghost c tm X) (hx : x < tm.size) (hv : VR c (.slot X []) d v) (ht : d.tight true = true) :
 Sim { (c.home X (zbB x) (ofSlot x)) with s := c.s.put x d } (tm.setIfInBounds x v) ∧ Ext c { (c.home X (zbB x) (ofSlot x)) with s := c.s.put x d } := by
 have hne : X ≠ x := by have := hX.out; omega
 have hrow : ∀ q, ¬ (zaI x q ∨ zaI X q) → (c.home X (zbB x) (ofSlot x)).H q = c.H q ∧ ∀ g, c.ρ g = .row q → g < c.W.heap.size → (c.home X (zbB x) (ofSlot x)).ρ g = .row q ∧ (c.home X (zbB x) (ofSlot x)).W.heap[g]? = c.W.heap[g]? := by
  intro q hq
  refine ⟨?_, fun g hg _ => ⟨?_, rfl⟩⟩
  · simp only [Cx.home]
    rw [zcc (fun e => hq (.inl e))]
  · rw [Cx.home_ρ g (fun l e => by rw [hg] at e; injection e with e; exact hq (.inr ⟨l, e⟩))]
    exact hg
 refine ⟨?_, ⟨rfl, rfl, rfl, Nat.le_refl _, fun g hg hst => ⟨Cx.home_stable (X := X) (fwd := zbB x) (bwd := ofSlot x) hst, rfl⟩, rfl, fun _ => rfl, fun _ => rfl⟩⟩
 refine Sim.putZ (c1 := c.home X (zbB x) (ofSlot x)) (Z := zaI X) hs hx rfl (fun q r hq => hX.get hq) ⟨rfl, fun b g hr hg => ⟨Cx.home_rd b g hr, rfl⟩, fun q r hq hk => ⟨hq, (hrow q ?_).1⟩, fun r hr _ => ⟨hr, rfl⟩, hrow⟩ (fun r hr => ⟨rfl, ?_, rfl⟩) ?_
 · rintro (e | e)
   · exact Kill.slot_pl' hk e
   · exact hX.get hq e
 · obtain ⟨cs, hb⟩ := Option.isSome_iff_exists.1 hr
   obtain ⟨vs, T, h1, h2, h3, h4⟩ := (hs.boxes r cs hb).out
   exact Cx.home_ρ _ (fun l e => by rw [h2] at e; cases e)
 · refine zbO (c := c) (c1 := c.home X (zbB x) (ofSlot x)) (fwd := zbB x) (sl := true) ⟨rfl, fun b g hr hg => ⟨Cx.home_rd b g hr, rfl⟩, fun l q hl => ?_, fun r hr => ⟨hr, rfl⟩, fun q r _ hq hg => ⟨hg, ?_⟩⟩ d [] (.slot x []) v ht hv (fun l r hr => by rw [zaj]; rfl)
   · cases hl
     refine ⟨?_, fun g hg _ => ⟨Cx.home_row hg rfl, rfl⟩⟩
     simp only [Cx.home, zbk]
   · simp only [Cx.home]
     rw [zcc (fun ⟨l, e⟩ => by rw [e] at hq; cases hq)]
theorem Sim.setBox {c c1 : Cx} {tm : Array Value} {r : Ref} {cs : List D} {K : Kill} {ch : Pl → Prop} (hs : Sim c tm) (m : Mono c c1 K ch) (hK : ∀ r, K.ref r = false) (hs1 : c1.s = (c.s.killed K).setBox r cs)
 (hch : ∀ q r', c.s.get q = some r' → ch q → ∃ o, q = .cell r o) (hbox : ∀ r', r' ≠ r → (c.s.box r').isSome = true → c1.ρ (c.β r') = .box r' ∧ c1.W.heap[c.β r']? = c.W.heap[c.β r']?) (hnew : BoxOK c1 r cs) : Sim c1 tm := by
 refine ⟨fun y => ?_, fun r' cs' hb => ?_, fun j r' hg => ?_⟩
 · have ht : c1.s.t y = (c.s.t y).kill K := by
    rw [hs1, setBox_tl.1]
    rfl
   rw [ht]
   refine VR.mono m _ _ _ (fun l r' hr e => ?_) (hs.slots y)
   rw [zaj] at e
   obtain ⟨o, ho⟩ := hch (.slot y l) r' hr e
   cases ho
 · by_cases he : r' = r
   · subst he
     have hbe : cs' = cs := by
      rw [hs1] at hb
      cases hc : c.s.box r' with
      | some cs0 =>
        rw [zal (by rw [zak]; exact hc)] at hb
        exact (Option.some.inj hb).symm
      | none =>
        cases r' with
        | loc n =>
          have hb2 : Nat.beq n n = true := beq_eq.2 rfl
          simp only [St.setBox, St.box, hb2] at hb
          exact (Option.some.inj hb).symm
        | up n =>
          exfalso
          simp only [St.box] at hc
          simp only [St.setBox, St.box] at hb
          have := (List.getElem?_eq_some_iff.1 hb).1
          simp [St.killed] at this
          simp at hc
          omega
     rw [hbe]
     exact hnew
   · rw [hs1, za3 he, zak] at hb
     obtain ⟨vs, T, h1, h2, h3, h4⟩ := (hs.boxes r' cs' hb).out
     obtain ⟨h5, h6⟩ := hbox r' he (by rw [hb]; rfl)
     have hβ := (m.ref r' (by rw [hb]; rfl) (hK r')).2
     refine ⟨vs, T, by rw [hβ, h6]; exact h1, by rw [hβ]; exact h5, h3, fun i d v hd hv => ?_⟩
     obtain ⟨h7, h8, h9⟩ := h4 i d v hd hv
     refine ⟨?_, h8, h9⟩
     have := VR.mono m (.cell r' i) d v (fun l r0 hr0 e => by
      cases l with
      | nil =>
        rw [Pl.subs_nil] at e
        simp only [D.at_] at hr0
        obtain ⟨o, ho⟩ := hch (.cell r' i) r0 (by simp [St.get, hb, hd, hr0]) e
        cases ho
        exact he rfl
      | cons j l => cases d <;> simp [D.at_, D.row?, zap] at hr0 h9) h7
     rwa [zcy hK h9] at this
 · have hg' : c.s.get (.lent j) = some r' := by
    rw [hs1] at hg
    simp only [St.get, setBox_tl.2] at hg
    exact hg
   exact (hs.lent j r' hg').mono m (fun e => by
    obtain ⟨o, ho⟩ := hch _ r' hg' e
    cases ho)
theorem zc3 (s : St) : s.killed Kill.none = s := by
 simp only [St.killed]
 have : (fun x => (s.t x).kill Kill.none) = s.t := funext fun x => zbb _
 rw [this]
def zc4 (r : Ref) (o : Nat) : List Nat → Option Pl
 | [i] => some (.cell r (o + i))
 | _ => none
def zaU (r : Ref) (o n : Nat) : Pl → Option (List Nat)
 | .cell s m => match s.is r && (Nat.ble o m && Nat.blt m (o + n)) with | true => some [m - o] | false => none
 | _ => none
theorem zdC {c : Cx} {tm : Array Value} {X n : Nat} {cs : List D} {vs : List Value} {T : BT} (hs : Sim c tm) (hX : Ghost c tm X) (hn : n < tm.size) (hb : c.s.b n = none) (hl : vs.length = cs.length)
 (hv : ∀ (i : Nat) (d : D) (v : Value), cs[i]? = some d → vs[i]? = some v → VR c (.slot X [i]) d v ∧ v.oneCell' = true ∧ zap d = true) :
 ∀ (d : D) (v : Value), ((d = .ptr (.loc n) 0 ∧ v = .pointer (some ⟨c.W.heap.size, 0, none⟩)) ∨ (d = .etc (.map (.loc n)) ∧ v = .map (some c.W.heap.size))) →
 ∃ c1, c1.W = c.W.alloc (zgb (isM cs) T vs) ∧ c1.s = ((c.s.setBox (.loc n) cs).put n d) ∧ Sim c1 (tm.setIfInBounds n v) ∧ Ext c c1 := by
 intro d0 v0 hd0
 have hbx : c.s.box (.loc n) = none := hb
 let W' := c.W.alloc (zgb (isM cs) T vs)
 let h := c.home X (zc4 (.loc n) 0) (zaU (.loc n) 0 cs.length)
 let c1 : Cx := { h with ρ := fun g => if g = c.W.heap.size then .box (.loc n) else h.ρ g, β := fun r => match r.is (.loc n) with | true => c.W.heap.size | false => c.β r, W := W', s := c.s.setBox (.loc n) cs }
 have hblk : ∀ g, g < c.W.heap.size → c1.W.heap[g]? = c.W.heap[g]? := fun g hg => Below.heap_alloc c.W _ g hg
 have hρ : ∀ g, g < c.W.heap.size → c1.ρ g = h.ρ g := fun g hg => if_neg (by omega)
 have hβ : ∀ r, r ≠ .loc n → c1.β r = c.β r := fun r hr => by
  have : r.is (.loc n) = false := by
   cases e : r.is (.loc n) with
   | true => exact absurd (Ref.is_eq.1 e) hr
   | false => rfl
  simp only [c1, this]
 have hsome : ∀ r, (c.s.box r).isSome = true → r ≠ .loc n := fun r hr e => by rw [e, hbx] at hr; cases hr
 have hget : ∀ q r, c.s.get q = some r → ∀ o, q ≠ .cell (.loc n) o := fun q r hq o e => by
  rw [e] at hq
  simp [St.get, hbx] at hq
 have hH : ∀ q, (∀ o, q ≠ .cell (.loc n) o) → c1.H q = c.H q := fun q hq => by
  have : zaU (.loc n) 0 cs.length q = none := by
   cases q with
   | cell r o =>
     have : r.is (.loc n) = false := by
      cases e : r.is (.loc n) with
      | true => exact absurd (by rw [Ref.is_eq.1 e]) (hq o)
      | false => rfl
     simp [zaU, this]
   | _ => rfl
  show h.H q = c.H q
  simp only [h, Cx.home, this]
 have hrd : ∀ b g, Rd c.ρ b g → g < c.W.heap.size → Rd c1.ρ b g ∧ c1.W.heap[g]? = c.W.heap[g]? := fun b g hr hg => ⟨by
  unfold Rd
  rw [hρ g hg]
  exact Cx.home_rd b g hr, hblk g hg⟩
 have hbs : ∀ r, r ≠ .loc n → c1.s.box r = c.s.box r := fun r hr => za3 hr
 have m : Mono c c1 Kill.none (fun q => (∃ o, q = .cell (.loc n) o) ∨ zaI X q) := by
  refine ⟨rfl, hrd, fun q r hq _ => ⟨?_, hH q (hget q r hq)⟩, fun r hr _ => ⟨by rw [hbs r (hsome r hr)]; exact hr, hβ r (hsome r hr)⟩, fun q hq => ⟨hH q (fun o e => hq (.inl ⟨o, e⟩)), fun g hg hlt => ⟨?_, hblk g hlt⟩⟩⟩
  · cases q with
    | slot y l => show ((D.at_ l ((c.s.setBox (.loc n) cs).t y)).row? = _); rw [setBox_tl.1]; exact hq
    | cell r' o =>
      have hne : r' ≠ .loc n := fun e => hget _ r hq o (by rw [e])
      simp only [St.get] at hq ⊢
      rw [hbs r' hne]
      exact hq
    | lent j => simp only [St.get] at hq ⊢; rw [show c1.s.l = c.s.l from setBox_tl.2]; exact hq
  · rw [hρ g hlt, Cx.home_ρ g (fun l e => by rw [hg] at e; injection e with e; exact hq (.inr ⟨l, e⟩))]
    exact hg
 have hnew : BoxOK c1 (.loc n) cs := by
  have hb1 : c1.β (.loc n) = c.W.heap.size := by
   have : (Ref.loc n).is (.loc n) = true := Ref.is_eq.2 rfl
   simp only [c1, this]
  refine ⟨vs, T, ?_, ?_, hl, fun i d v hd hvv => ?_⟩
  · rw [hb1]
    exact heap_alloc_new c.W _
  · rw [hb1]
    exact if_pos rfl
  · obtain ⟨h1, h2, h3⟩ := hv i d v hd hvv
    refine ⟨?_, h2, h3⟩
    have hlt : i < cs.length := (List.getElem?_eq_some_iff.1 hd).1
    refine zbO (c := c) (c1 := c1) (sl := false) (X := X) (fwd := fun l => match l with | [j] => if j < cs.length then some (.cell (.loc n) j) else none | _ => none) ⟨rfl, hrd, fun l q hl' => ?_, fun r hr => ⟨by rw [hbs r (hsome r hr)]; exact hr, hβ r (hsome r hr)⟩, fun q r hf => by cases hf⟩ d [i] (.cell (.loc n) i) v (zdX h3) h1 (fun l r hr => ?_)
    · split at hl'
      · rename_i j
        split at hl'
        · rename_i hj
          cases hl'
          refine ⟨?_, fun g hg hlt => ⟨?_, hblk g hlt⟩⟩
          · have : zaU (.loc n) 0 cs.length (.cell (.loc n) j) = some [j] := by
             have e1 : (Ref.loc n).is (.loc n) = true := Ref.is_eq.2 rfl
             have e2 : Nat.ble 0 j = true := by simp
             have e3 : Nat.blt j (0 + cs.length) = true := by simp [Nat.blt]; omega
             simp only [zaU, e1, e2, e3, Bool.and_self, Nat.sub_zero]
            show h.H _ = _
            simp only [h, Cx.home, this]
          · rw [hρ g hlt]
            exact Cx.home_row hg (by simp [zc4])
        · cases hl'
      · cases hl'
    · cases l with
      | nil => simp [hlt, Pl.subs]
      | cons j l => cases d <;> simp [D.at_, D.row?, zap] at hr h3
 have hsim : Sim c1 tm := by
  refine Sim.setBox (r := .loc n) (cs := cs) (K := Kill.none) hs m (fun _ => rfl) (by rw [zc3]) (fun q r' hq e => ?_) (fun r' hne hr' => ?_) hnew
  · rcases e with ⟨o, e⟩ | e
    · exact ⟨o, e⟩
    · exact (hX.get hq e).elim
  · obtain ⟨cs', hb'⟩ := Option.isSome_iff_exists.1 hr'
    have hlt := (hs.boxes r' cs' hb').lt
    obtain ⟨vs', T', h1, h2, _⟩ := (hs.boxes r' cs' hb').out
    refine ⟨?_, hblk _ hlt⟩
    rw [hρ _ hlt, Cx.home_ρ _ (fun l e => by rw [h2] at e; cases e)]
    exact h2
 refine ⟨{ c1 with s := c1.s.put n d0 }, rfl, rfl, ?_, ?_⟩
 · refine Sim.put (c1 := c1) hsim hn rfl ⟨rfl, fun b g h _ => ⟨h, rfl⟩, fun q r h _ => ⟨h, rfl⟩, fun r h _ => ⟨h, rfl⟩, fun q _ => ⟨rfl, fun g h _ => ⟨h, rfl⟩⟩⟩ (fun r _ => ⟨rfl, rfl, rfl⟩) ?_
   have hin : ((c.s.setBox (.loc n) cs).box (.loc n)).isSome = true := by
    have hb2 : Nat.beq n n = true := beq_eq.2 rfl
    simp only [St.setBox, St.box, hb2]
    rfl
   have hbe : c1.β (.loc n) = c.W.heap.size := by
    have : (Ref.loc n).is (.loc n) = true := Ref.is_eq.2 rfl
    simp only [c1, this]
   rcases hd0 with ⟨rfl, rfl⟩ | ⟨rfl, rfl⟩
   · exact ⟨hin, by rw [hbe]⟩
   · exact ⟨hin, by rw [hbe]⟩
 · exact ⟨rfl, rfl, rfl, by show c.W.heap.size ≤ (c.W.alloc _).heap.size; simp, fun g hg hst => ⟨by show c1.ρ g = c.ρ g; rw [hρ g hg]; exact Cx.home_stable hst, hblk g hg⟩, rfl, fun k => hβ (.up k) (fun e => by cases e), fun _ => rfl⟩
theorem zee {c : Cx} {tm : Array Value} {X n : Nat} {cs : List D} {vs : List Value} {T : TypeId} (hs : Sim c tm) (hX : Ghost c tm X) (hn : n < tm.size) (hb : c.s.b n = none) (hm : isM cs = false) (hl : vs.length = cs.length)
 (hv : ∀ (i : Nat) (d : D) (v : Value), cs[i]? = some d → vs[i]? = some v → VR c (.slot X [i]) d v ∧ v.oneCell' = true ∧ zap d = true) :
 ∃ c1, c1.W = c.W.alloc (.cells vs.toArray T (0, 0)) ∧ c1.s = ((c.s.setBox (.loc n) cs).put n (.ptr (.loc n) 0)) ∧ Sim c1 (tm.setIfInBounds n (.pointer (some ⟨c.W.heap.size, 0, none⟩))) ∧ Ext c c1 := by
 have := zdC (T := ⟨T, fun _ => 0⟩) hs hX hn hb hl hv (.ptr (.loc n) 0) _ (.inl ⟨rfl, rfl⟩)
 rw [hm] at this
 exact this
end Go.Den
namespace Go.Den
open Go Go.RowKit
set_option linter.unusedVariables false
theorem zek {w : World} {base base' : Nat} {e : TypeId} {size n : Nat} {v : Value} {xs : List Value} (h : w.ownsRow base e size v n xs) (hb : base' ≤ base) : w.ownsRow base' e size v n xs := by
 refine ⟨h.1, ?_⟩
 rcases h.2 with hn | ⟨g, cap, cur, rfl, hbb, r⟩
 · exact .inl hn
 · exact .inr ⟨g, cap, cur, rfl, Nat.le_trans hb hbb, r⟩
def Cx.own (c : Cx) (x : Nat) (v : Value) (W' : World) : Cx :=
 { c with
   W := W'
   ρ := fun g => if g < c.W.heap.size then c.ρ g else if v.ownBlock = some g then .row (.slot x []) else .oth
   H := fun q => match q.is (.slot x []) with | true => v | false => c.H q }
theorem zib {c : Cx} {x e : Nat} {es : List Dat} {v : Value} {W' : World} {i : TI} {xs : List Value} (hb : Below c.W.heap.size c.W W') (hi : c.ty e = some i) (ho : W'.ownsRow c.W.heap.size e i.sz v es.length xs) (hr : RepRow c.ρ c.W i.sz es xs) :
 Grown c (c.own x v W') x ∧ VR (c.own x v W') (.slot x []) (.own e es) v := by
 have hρ : ∀ g, g < c.W.heap.size → (c.own x v W').ρ g = c.ρ g := fun g hg => if_pos hg
 have hH : (c.own x v W').H (.slot x []) = v := by
  have : (Pl.slot x []).is (.slot x []) = true := Pl.is_eq.2 rfl
  simp only [Cx.own, this]
 refine ⟨⟨rfl, rfl, rfl, hb, hρ, fun q hq => ?_⟩, hH.symm, ⟨i, xs, hi, ?_, ?_, fun g hg => ?_⟩⟩
 · have : q.is (.slot x []) = false := Pl.is_ne.2 (fun e => hq ⟨[], e⟩)
   simp only [Cx.own, this]
 · rw [hH]
   exact zek ho (Nat.zero_le _)
 · exact hr.mono fun b g hrd hg => ⟨by unfold Rd at *; rw [hρ g hg]; exact hrd, hb.block g hg⟩
 · rw [hH] at hg
   have hge := (World.ownsRow.lt ho g hg).1
   show (if g < c.W.heap.size then c.ρ g else if v.ownBlock = some g then Role.row (.slot x []) else .oth) = _
   rw [if_neg (by omega), if_pos hg]
section
variable {P : Program} {c : Cx} {a : Act} {o : Oper} {x : Nat} {T : World → Prop}
theorem zca {z : Operand} (h : ze9 z = true) : z = .const (.slice none 0 0) := by
 unfold ze9 at h
 split at h
 · rfl
 · cases h
theorem zmU {z : Operand} {t e : TypeId} {i : TI} (hty : TyOk P c.ty) (ho : o.op = .assign z) (hz : ze9 z = true) (ht : c.ty t = some i) (hk : i.kind = .slice e) : Calm P c a o x T (.own e []) := by
 obtain ⟨_, de, _, hf⟩ := hty.facts ht
 obtain ⟨j, hj⟩ := Option.isSome_iff_exists.1 (hf.slice hk).2
 obtain ⟨h1, h2⟩ := zib (c := c) (x := x) (e := e) (es := []) (v := .slice none 0 0) (xs := []) (W' := c.W) (Below.refl _ _) hj (World.ownsRow_nil _ _ _ _) ⟨by simp, (fun j d hj => by simp at hj), (fun j d hj => by simp at hj)⟩
 have h0 := zca hz
 subst h0
 exact ⟨.slice none 0 0, c.own x (.slice none 0 0) c.W, rfl, (fun w _ => by simp [execOp, ho, Act.eval]), h1, h2⟩
theorem zev {ty : Nat → Option TI} (ρ : Nat → Role) (W : World) {i : TI} {z : Value} {d : Dat} (hz : zda ty i.zero z.cells.toList = true) (hzl : i.zero.length = i.sz) (ha : (∃ cs, z = .agg cs ∧ i.agg = true) ∨ (z.cells = #[z] ∧ i.agg = false)) (h : i.zeroD = some d) : Rep ρ W d z.cells.toList ∧ d.cells.length = i.sz := by
 have key : ∀ (ds : List D) (vs : List Value) (cs : List Dat), zda ty ds vs = true → zdH ds = some cs → cs.length = ds.length ∧ ∀ (j : Nat) (d : Dat) (v : Value), cs[j]? = some d → vs[j]? = some v → d.cells = [d] ∧ Rep ρ W d [v] := by
  intro ds
  induction ds with
  | nil => intro vs cs _ h; cases h; exact ⟨rfl, fun j d v h => by simp at h⟩
  | cons e ds ih =>
    intro vs cs hz h
    cases vs with
    | nil => cases hz
    | cons v vs =>
      simp only [zda, Bool.and_eq_true] at hz
      rcases zcs hz.1 with ⟨rfl, hs⟩ | ⟨t, rfl, rfl, _⟩
      · simp only [zdH, Option.map_eq_some_iff] at h
        obtain ⟨cs', h1, rfl⟩ := h
        obtain ⟨h2, h3⟩ := ih vs cs' hz.2 h1
        refine ⟨by simp [h2], fun j d u hd hu => ?_⟩
        cases j with
        | zero =>
          simp at hd hu
          subst hd hu
          exact ⟨rfl, .val hs⟩
        | succ j => exact h3 j d u (by simpa using hd) (by simpa using hu)
      · simp only [zdH, Option.map_eq_some_iff] at h
        obtain ⟨cs', h1, rfl⟩ := h
        obtain ⟨h2, h3⟩ := ih vs cs' hz.2 h1
        refine ⟨by simp [h2], fun j d u hd hu => ?_⟩
        cases j with
        | zero =>
          simp at hd hu
          subst hd hu
          exact ⟨rfl, .nil⟩
        | succ j => exact h3 j d u (by simpa using hd) (by simpa using hu)
 simp only [TI.zeroD, Option.bind_eq_some_iff] at h
 obtain ⟨cs, h1, h2⟩ := h
 obtain ⟨h3, h4⟩ := key _ _ cs hz h1
 have hvl := zbM hz
 split at h2
 · cases h2
   exact ⟨.agg (by omega) (fun j d v hd hv => (h4 j d v hd hv).1) (fun j d v hd hv => (h4 j d v hd hv).2), by simp only [Dat.cells]; omega⟩
 · rename_i hag
   split at h2
   · cases h2
     rcases ha with ⟨_, _, ha⟩ | ⟨ha, _⟩
     · rw [ha] at hag; cases hag
     · have h5 := h4 0 d z (by simp) (by rw [ha]; rfl)
       rw [ha]
       refine ⟨h5.2, ?_⟩
       rw [h5.1]
       simp at h3 ⊢
       omega
   · cases h2
theorem zkx (z : Array Value) (n : Nat) (hz : 0 < z.size) : ∀ j, (h : j < n) → ((madeCells z (n * z.size)).toList.drop (j * z.size)).take z.size = z.toList := by
 intro j hj
 have hle : (j + 1) * z.size ≤ n * z.size := Nat.mul_le_mul_right _ hj
 rw [Nat.add_mul, Nat.one_mul] at hle
 apply List.ext_getElem?
 intro k
 rw [List.getElem?_take]
 split
 · rename_i hk
   rw [List.getElem?_drop]
   have h1 : j * z.size + k < n * z.size := by omega
   simp only [madeCells, Array.toList_map, Array.toList_range, List.getElem?_map]
   rw [List.getElem?_range h1]
   have h2 : (j * z.size + k) % z.size = k := by
    rw [Nat.mul_comm, Nat.mul_add_mod, Nat.mod_eq_of_lt hk]
   simp only [Option.map_some]
   rw [h2]
   simp [hk]
 · rename_i hk
   symm
   simp
   omega
theorem zgd {ρ : Nat → Role} {W : World} {z : Array Value} {d : Dat} {n sz : Nat} (hz : z.size = sz) (hr : Rep ρ W d z.toList) (hd : d.cells.length = sz) : RepRow ρ W sz (List.replicate n d) (madeCells z (n * sz)).toList := by
 subst hz
 refine ⟨by simp [size_madeCells], fun j d' hj => ?_, fun j d' hj => ?_⟩
 · rw [List.getElem?_replicate] at hj
   split at hj
   · rename_i hlt
     cases hj
     rcases Nat.eq_zero_or_pos z.size with h0 | h0
     · have : (List.take z.size (List.drop (j * z.size) (madeCells z (n * z.size)).toList)) = z.toList := by
        have hzz : z = #[] := Array.eq_empty_of_size_eq_zero h0
        rw [h0, hzz]
        simp
       rw [this]
       exact hr
     · rw [zkx z n h0 j hlt]
       exact hr
   · cases hj
 · rw [List.getElem?_replicate] at hj
   split at hj
   · cases hj; exact hd
   · cases hj
theorem zh6 {t e : TypeId} {zl zc : Operand} {i j : TI} {d : Dat} {n m : Int} (hty : TyOk P c.ty) (hs : Sim c a.tmps) (ho : o.op = .makeSlice t zl zc) (ht : c.ty t = some i) (hk : i.kind = .slice e) (hj : c.ty e = some j) (hd : j.zeroD = some d)
 (hn : Den.intOf (c.s.look zl) = some n) (hm : Den.intOf (c.s.look zc) = some m) (h : 0 ≤ n ∧ n ≤ m ∧ m ≤ 2147483648) (hby : j.bytes ≤ 65536) : Yields P c a o x (.own e (List.replicate n.toNat d)) := by
 obtain ⟨_, de, _, hf⟩ := hty.facts ht
 obtain ⟨inf, _, z, hfj⟩ := hty.facts hj
 have h1 := (zaf hs zl (.lent 0)).1
 have h2 := (zaf hs zc (.lent 0)).1
 rw [zbR hn] at h1
 rw [zbR hm] at h2
 have h3 := (zaq h1).1
 have h4 := (zaq h2).1
 have hbytes : (inf.bytes : Int) * m ≤ 281474976710656 := by
  rw [hfj.bytes]
  have h5 : (j.bytes : Int) * m ≤ 65536 * m := Int.mul_le_mul_of_nonneg_right (by omega) (by omega)
  omega
 have hr := run_make (P := P) c.W t e inf z (hf.slice hk).1 hfj.info hfj.zero .i64 .i64 n m h.1 h.2.1 hbytes (by omega)
 obtain ⟨hrep, hw⟩ := zev c.ρ c.W hfj.zs hfj.zlen hfj.zagg hd
 have hzs : z.cells.size = j.sz := by
  have := zbM hfj.zs
  simp at this
  rw [this, hfj.zlen]
 have hmade := zgd (n := m.toNat) hzs hrep hw
 rw [hfj.size] at hr
 have hle : n.toNat ≤ m.toNat := by omega
 have hnew := zib (c := c) (x := x) (e := e) (es := List.replicate n.toNat d) (v := .slice (some ⟨c.W.heap.size, 0, none⟩) n.toNat m.toNat) (W' := c.W.alloc (.cells (madeCells z.cells (m.toNat * j.sz)) e)) (i := j) (xs := (madeCells z.cells (m.toNat * j.sz)).toList.take (n.toNat * j.sz))
  (Below.alloc (Below.refl _ _) (Nat.le_refl _) _) hj ⟨?_, .inr ⟨c.W.heap.size, m.toNat, madeCells z.cells (m.toNat * j.sz), by simp, Nat.le_refl _, heap_alloc_new c.W _, by simp; omega, by simp [maxLen]; omega, by simp [size_madeCells], by simp⟩⟩ ?_
 · exact ⟨_, _, by simp [execOp, ho, h3, h4, hr, Cx.own], hnew.1, hnew.2⟩
 · have hmul : n.toNat * j.sz ≤ m.toNat * j.sz := Nat.mul_le_mul_right _ hle
   rw [List.length_take, Array.length_toList, size_madeCells, List.length_replicate, Nat.min_eq_left hmul]
 · have := hmade.take n.toNat (by simp; omega)
   rwa [List.take_replicate, Nat.min_eq_left hle] at this
theorem zc2 (off : Nat) : ∀ (vs : List Value) (k : Nat) (cells : Array Value), ((vs.zipIdx k).foldl (fun cs (x : Value × Nat) => cs.setIfInBounds (off + x.2) x.1) cells).size = cells.size
 | [], k, cells => rfl
 | v :: vs, k, cells => by simp [zc2 off vs (k + 1)]
theorem zdG (off : Nat) : ∀ (vs : List Value) (k : Nat) (cells : Array Value) (j : Nat), off + k + vs.length ≤ cells.size →
 ((vs.zipIdx k).foldl (fun cs (x : Value × Nat) => cs.setIfInBounds (off + x.2) x.1) cells)[j]? = if off + k ≤ j ∧ j < off + k + vs.length then vs[j - (off + k)]? else cells[j]?
 | [], k, cells, j, h => by
   simp
   intro h1 h2
   omega
 | v :: vs, k, cells, j, h => by
   simp only [List.zipIdx_cons, List.foldl_cons, List.length_cons] at h ⊢
   rw [zdG off vs (k + 1) _ j (by simp; omega)]
   by_cases h1 : j = off + k
   · subst h1
     rw [if_neg (by omega), if_pos (by omega)]
     have hlt : off + k < cells.size := by omega
     simp [hlt]
   · by_cases h2 : off + (k + 1) ≤ j ∧ j < off + (k + 1) + vs.length
     · rw [if_pos h2, if_pos (by omega)]
       have : j - (off + k) = (j - (off + (k + 1))) + 1 := by omega
       rw [this, List.getElem?_cons_succ]
     · rw [if_neg h2, if_neg (by omega), Array.getElem?_setIfInBounds_ne (by omega)]
theorem zf5 : ∀ (ds : List D) (o : Nat) (cs : List D), (zd3 o cs ds).length = cs.length
 | [], o, cs => rfl
 | d :: ds, o, cs => by simp [zd3, zf5 ds]
theorem zfU : ∀ (ds : List D) (o : Nat) (cs : List D) (j : Nat), o + ds.length ≤ cs.length → (zd3 o cs ds)[j]? = if o ≤ j ∧ j < o + ds.length then ds[j - o]? else cs[j]?
 | [], o, cs, j, h => by
   simp [zd3]
   intro h1 h2
   omega
 | d :: ds, o, cs, j, h => by
   simp only [zd3, List.length_cons] at h ⊢
   rw [zfU ds (o + 1) _ j (by simp; omega)]
   by_cases h1 : j = o
   · subst h1
     rw [if_neg (by omega), if_pos (by omega)]
     have hlt : j < cs.length := by omega
     simp [hlt]
   · by_cases h2 : o + 1 ≤ j ∧ j < o + 1 + ds.length
     · rw [if_pos h2, if_pos (by omega)]
       have : j - o = (j - (o + 1)) + 1 := by omega
       rw [this, List.getElem?_cons_succ]
     · rw [if_neg h2, if_neg (by omega), List.getElem?_set_ne (by omega)]
def zdm (ok : D → Bool) (c : Cx) (X : Nat) (ds : List D) (vs : List Value) : Prop := vs.length = ds.length ∧ ∀ (i : Nat) (d : D) (v : Value), ds[i]? = some d → vs[i]? = some v → VR c (.slot X [i]) d v ∧ v.oneCell' = true ∧ ok d = true
abbrev zc8 (c : Cx) (X : Nat) (ds : List D) (vs : List Value) : Prop := zdm zap c X ds vs
theorem zgn {c : Cx} {X i : Nat} {d : Dat} {v : Value} (hd : d.cells = [d]) (h : Rep c.ρ c.W d [v]) : VR c (.slot X [i]) (.dat d) v ∧ v.oneCell' = true ∧ zap (.dat d) = true := ⟨zgy hd h, h.one hd, rfl⟩
theorem zgO {ds : List D} (h : D.quiets ds = true) : ∀ (i : Nat) (d : D), ds[i]? = some d → d.quiet = true := by
 induction ds with
 | nil => intro i d h; simp at h
 | cons e ds ih =>
   have h' : (e.quiet && D.quiets ds) = true := h
   simp only [Bool.and_eq_true] at h'
   intro i d hd
   cases i with
   | zero => simp at hd; subst hd; exact h'.1
   | succ i => exact ih h'.2 i d (by simpa using hd)
theorem zjd {d : D} {v : Value} {c : Cx} {p : Pl} (hq : d.quiet = true) (h : VR c p d v) (hv : v.oneCell' = true) : zap d = true := by
 cases d with
 | seq t ds =>
   obtain ⟨vs, h1, _⟩ := h
   rw [h1] at hv
   cases t <;> cases hv
 | dat d => rfl
 | own e es => rfl
 | fn f cp => rfl
 | ptr r o => rfl
 | etc e => cases e <;> first | rfl | cases hq
 | _ => cases hq
theorem zcG {X : Nat} {d : D} {v : Value} (h : VR c (.slot X []) d v) (hq : d.quiet = true) (hpl : (∃ ds, d = .seq false ds) ∨ d.hasOwn = false) : zc8 c X (zar d) v.cells.toList := by
 cases d with
 | dat d =>
   obtain ⟨cv, h1, h2⟩ := h
   cases d with
   | agg cs =>
     have h2 : v = .agg cv.toArray := h2
     have hl := h1.width
     subst h2
     refine ⟨by simpa [zar, Value.cells, Dat.cells] using hl, fun i d' u hd hu => ?_⟩
     simp only [zar, List.getElem?_map, Option.map_eq_some_iff] at hd
     obtain ⟨d0, hd0, rfl⟩ := hd
     simp only [Value.cells] at hu
     obtain ⟨h3, h4⟩ := h1.cellsAt i d0 u hd0 (by simpa using hu)
     exact zgn h3 h4
   | val w =>
     have h2 : cv = [v] := h2
     rw [h2] at h1
     have hone := h1.one rfl
     have hcells : v.cells = #[v] := by cases v <;> first | rfl | cases hone
     refine ⟨by rw [hcells]; rfl, fun i d' u hd hu => ?_⟩
     rw [hcells] at hu
     cases i <;> simp [zar] at hd hu
     subst hd hu
     exact zgn rfl h1
   | lst b es =>
     have h2 : cv = [v] := h2
     rw [h2] at h1
     have hone := h1.one rfl
     have hcells : v.cells = #[v] := by cases v <;> first | rfl | cases hone
     refine ⟨by rw [hcells]; rfl, fun i d' u hd hu => ?_⟩
     rw [hcells] at hu
     cases i <;> simp [zar] at hd hu
     subst hd hu
     exact zgn rfl h1
 | seq t ds =>
   cases t with
   | true => cases hq
   | false =>
     obtain ⟨vs, h1, h2, h3⟩ := h
     have h1 : v = .agg vs.toArray := h1
     subst h1
     refine ⟨h3.len, fun i d u hd hu => ?_⟩
     have hu : vs[i]? = some u := by simpa [Value.cells] using hu
     have hd : ds[i]? = some d := hd
     obtain ⟨u', hu', h4⟩ := h3.at_ hd
     rw [hu] at hu'
     cases hu'
     have hone := h2 rfl u (List.mem_of_getElem? hu)
     rw [Nat.zero_add] at h4
     have hqs : D.quiets ds = true := hq
     exact ⟨h4, hone, zjd (zgO hqs i d hd) h4 hone⟩
 | fn f cp =>
   have hcells : v.cells = #[v] := by rw [h.2]; rfl
   refine ⟨by rw [hcells]; rfl, fun i d' u hd hu => ?_⟩
   rw [hcells] at hu
   cases i <;> simp [zar] at hd hu
   subst hd hu
   exact ⟨h, by rw [h.2]; rfl, rfl⟩
 | ptr r k =>
   have hcells : v.cells = #[v] := by rw [h.2]; rfl
   refine ⟨by rw [hcells]; rfl, fun i d' u hd hu => ?_⟩
   rw [hcells] at hu
   cases i <;> simp [zar] at hd hu
   subst hd hu
   exact ⟨h, by rw [h.2]; rfl, rfl⟩
 | own e es =>
   rcases hpl with ⟨ds, hd⟩ | hd <;> cases hd
 | etc e =>
   obtain ⟨hone, hcells⟩ := EtcV.one h
   rw [hcells]
   refine ⟨rfl, fun i d' u hd hu => ?_⟩
   cases i <;> simp [zar] at hd hu
   subst hd hu
   exact ⟨h, hone, by cases e <;> first | rfl | cases hq⟩
 | _ => cases hq
theorem zdS {ok : D → Bool} {X : Nat} {t : TypeId} {E : Env} {i : TI} {fs : Array Field} {places : List (Nat × Nat)} (hE : E.ty = c.ty) (hfs : fs.toList.map (fun f => (f.offset, f.type)) = i.fs)
 (hpl : fs.toList.mapM (fun f => (P.info? f.type).map fun i => (f.offset, i.size)) = some places) (hty : TyOk P c.ty) :
 ∀ (ps : List (Nat × D)) (vps : List (Nat × Value)) (ds : List D) (cells : Array Value) (ds' : List D), zbX E i.fs ds ps = some ds' → zdm ok c X ds cells.toList →
  vps.length = ps.length → (∀ (k : Nat) (d : Nat × D) (v : Nat × Value), ps[k]? = some d → vps[k]? = some v → v.1 = d.1 ∧ zdm ok c X (zar d.2) v.2.cells.toList ∧ ∀ (i j : Nat) (d' : D) (u : Value), (zar d.2)[i]? = some d' → VR c (.slot X [i]) d' u → VR c (.slot X [j]) d' u) →
  ∃ cells', Instr.fill (places.toArray[·]?) cells vps = some cells' ∧ zdm ok c X ds' cells'.toList
 | [], [], ds, cells, ds', h, hc, hl, hp => by
   cases h
   exact ⟨cells, rfl, hc⟩
 | [], _ :: _, ds, cells, ds', h, hc, hl, hp => by cases hl
 | _ :: _, [], ds, cells, ds', h, hc, hl, hp => by cases hl
 | (j, d) :: ps, (j', v) :: vps, ds, cells, ds', h, hc, hl, hp => by
   obtain ⟨h1, h2, h3⟩ := hp 0 (j, d) (j', v) rfl rfl
   simp only at h1 h2 h3
   subst h1
   simp only [zbX, Option.bind_eq_some_iff] at h
   obtain ⟨f, hf, i', hi', h⟩ := h
   split at h
   · rename_i hb
     simp only [Bool.and_eq_true] at hb
     have hw : (zar d).length = i'.sz := beq_eq.1 hb.1
     have hr : f.1 + i'.sz ≤ ds.length := by simpa using hb.2
     rw [hE] at hi'
     obtain ⟨inf, _, _, hfi⟩ := hty.facts hi'
     have hplace : places.toArray[j']? = some (f.1, i'.sz) := by
      have key : ∀ (l : List Field) (pls : List (Nat × Nat)), l.mapM (fun f => (P.info? f.type).map fun i => (f.offset, i.size)) = some pls → ∀ (n : Nat) (q : Nat × Nat), (l.map fun f => (f.offset, f.type))[n]? = some q → ∃ inf, P.info? q.2 = some inf ∧ pls[n]? = some (q.1, inf.size) := by
       intro l
       induction l with
       | nil => intro pls _ n q h; simp at h
       | cons f l ih =>
         intro pls h n q hq
         simp only [List.mapM_cons, Option.bind_eq_bind, Option.pure_def, Option.bind_eq_some_iff, Option.map_eq_some_iff] at h
         obtain ⟨pr, ⟨inf, hinf, rfl⟩, pls', h4, h5⟩ := h
         cases h5
         cases n with
         | zero =>
           simp at hq
           subst hq
           exact ⟨inf, hinf, rfl⟩
         | succ n =>
           obtain ⟨inf', h6, h7⟩ := ih pls' h4 n q (by simpa using hq)
           exact ⟨inf', h6, by simpa using h7⟩
      rw [← hfs] at hf
      obtain ⟨inf', h6, h7⟩ := key _ _ hpl j' f hf
      rw [hfi.info] at h6
      cases h6
      simpa [hfi.size] using h7
     have hvs : v.cells.size = i'.sz := by
      have := h2.1
      simp at this
      omega
     have hcs : cells.size = ds.length := by
      have := hc.1
      simpa using this
     have hfit : f.1 + v.cells.size ≤ cells.size := by omega
     simp only [Instr.fill, hplace]
     rw [if_neg (by simp [hvs]; omega)]
     refine zdS (ok := ok) (X := X) (t := t) hE hfs hpl hty ps vps (zd3 f.1 ds (zar d)) _ ds' h ⟨?_, fun k d' u hd hu => ?_⟩ (by simpa using hl) (fun k d' v' hd hv => hp (k + 1) d' v' (by simpa using hd) (by simpa using hv))
     · rw [zf5]
       have := zc2 f.1 v.cells.toList 0 cells
       rw [← Array.foldl_toList]
       simpa [hcs] using this
     · rw [zfU _ _ _ _ (by omega)] at hd
       have hu' : (((v.cells.toList.zipIdx 0).foldl (fun cs (x : Value × Nat) => cs.setIfInBounds (f.1 + x.2) x.1) cells))[k]? = some u := by
        rw [← Array.foldl_toList] at hu
        simpa using hu
       rw [zdG f.1 v.cells.toList 0 cells k (by simpa using hfit)] at hu'
       have hll : v.cells.toList.length = (zar d).length := h2.1
       simp only [Nat.add_zero] at hu'
       rw [hll] at hu'
       split at hd
       · rename_i hk
         rw [if_pos hk] at hu'
         obtain ⟨h6, h7, h8⟩ := h2.2 _ d' u hd hu'
         exact ⟨h3 _ k d' u hd h6, h7, h8⟩
       · rename_i hk
         rw [if_neg hk] at hu'
         exact hc.2 k d' u hd (by simpa using hu')
   · cases h
end
end Go.Den
namespace Go.Den
open Go Go.RowKit
set_option linter.unusedVariables false
def Cx.nilH (c : Cx) (X : Nat) : Cx :=
 { c with H := fun q => match q with
  | .slot y l => match Nat.beq y X with | true => .slice none 0 0 | false => c.H (.slot y l)
  | q => c.H q }
theorem zgA {c : Cx} {X : Nat} (l : List Nat) : (c.nilH X).H (.slot X l) = .slice none 0 0 := by
 have hb : Nat.beq X X = true := beq_eq.2 rfl
 simp only [Cx.nilH, hb]
theorem zhZ {c : Cx} {X : Nat} {q : Pl} (h : ¬ zaI X q) : (c.nilH X).H q = c.H q := by
 cases q with
 | slot y l =>
   have hb : Nat.beq y X = false := beq_ne.2 (fun e => h ⟨l, by rw [e]⟩)
   simp only [Cx.nilH, hb]
 | _ => rfl
theorem zdR (c : Cx) (x : Nat) : Grown c (c.nilH x) x := ⟨rfl, rfl, rfl, Below.refl _ _, fun _ _ => rfl, fun q hq => zhZ hq⟩
theorem zga (c : Cx) (x : Nat) : Ext c (c.nilH x) := (zdR c x).ext
theorem Sim.same {c c1 : Cx} {tm : Array Value} {Z : Pl → Prop} (hs : Sim c tm) (h1 : c1.s = c.s) (hZ : ∀ q r, c.s.get q = some r → ¬ Z q) (m : Mono c c1 Kill.none Z) (hβ : ∀ r, (c.s.box r).isSome = true → c1.ρ (c.β r) = .box r ∧ c1.W.heap[c.β r]? = c.W.heap[c.β r]?) : Sim c1 tm := by
 refine ⟨fun y => ?_, fun r cs hb => ?_, fun j r hg => ?_⟩
 · rw [h1]
   exact VR.same m (fun l r hr => by rw [zaj]; exact hZ (.slot y l) r hr) (hs.slots y)
 · rw [h1] at hb
   obtain ⟨vs, T, h2, h3, h4, h5⟩ := (hs.boxes r cs hb).out
   have hb' : (c.s.box r).isSome = true := by rw [hb]; rfl
   obtain ⟨h6, h7⟩ := hβ r hb'
   have h8 := (m.ref r hb' rfl).2
   refine ⟨vs, T, by rw [h8, h7]; exact h2, by rw [h8]; exact h6, h4, fun i d v hd hv => ?_⟩
   obtain ⟨h9, h10, h11⟩ := h5 i d v hd hv
   refine ⟨VR.same m (fun l r' hr => ?_) h9, h10, h11⟩
   cases l with
   | nil =>
     rw [Pl.subs_nil]
     simp only [D.at_] at hr
     exact hZ _ r' (by simp [St.get, hb, hd, hr])
   | cons j l => cases d <;> simp [D.at_, D.row?, zap] at hr h11
 · rw [h1] at hg
   exact (hs.lent j r hg).mono m (hZ _ r hg)
theorem zgw {c : Cx} {tm : Array Value} {X : Nat} (hs : Sim c tm) (hX : Ghost c tm X) : Sim (c.nilH X) tm := by
 refine Sim.same (Z := zaI X) hs rfl (fun q r hq => hX.get hq) ⟨rfl, fun b g h _ => ⟨h, rfl⟩, fun q r hq _ => ⟨hq, zhZ (hX.get hq)⟩, fun r hr _ => ⟨hr, rfl⟩, fun q hq => ⟨zhZ hq, fun g h _ => ⟨h, rfl⟩⟩⟩ fun r hr => ?_
 obtain ⟨cs, hb⟩ := Option.isSome_iff_exists.1 hr
 obtain ⟨vs, T, h1, h2, _⟩ := (hs.boxes r cs hb).out
 exact ⟨h2, rfl⟩
mutual
theorem zeC {sl : Bool} : ∀ d : D, d.quiet = true → d.tight sl = true
 | .dat d, h => rfl
 | .own e es, h => rfl
 | .fn f cp, h => rfl
 | .ptr r o, h => rfl
 | .seq t ds, h => by
   have h' : (!t && D.quiets ds) = true := h
   simp only [Bool.and_eq_true] at h'
   exact zd7 ds h'.2
 | .etc (.vp _ _), h => by cases h
 | .etc (.map _), h => rfl
 | .etc .mark, h => rfl
 | .etc .err, h => rfl
 | .bor _ _, h => by cases h
 | .bp _ _ _, h => by cases h
 | .sb _ _ _, h => by cases h
 | .ep _ _, h => by cases h
 | .undef, h => by cases h
 | .junk, h => by cases h
theorem zd7 {sl : Bool} : ∀ ds : List D, D.quiets ds = true → D.tights sl ds = true
 | [], h => rfl
 | d :: ds, h => by
   have h' : (d.quiet && D.quiets ds) = true := h
   simp only [Bool.and_eq_true] at h'
   show (d.tight sl && D.tights sl ds) = true
   rw [zeC d h'.1, zd7 ds h'.2]; rfl
end
section
variable {P : Program} {c : Cx} {a : Act} {o : Oper} {x : Nat} {T : World → Prop}
theorem zdM {X : Nat} {p : Pl} {d : D} {v : Value} (hq : d.quiet = true) (ho : d.hasOwn = false) (h : VR c p d v) (p' : Pl) : VR (c.nilH X) p' d v := by
 refine zbO (c := c) (c1 := c.nilH X) (sl := false) (X := 0) (fwd := fun _ => none) ⟨rfl, fun b g h _ => ⟨h, rfl⟩, fun l q h => (by cases h), fun r hr => ⟨hr, rfl⟩, fun q r h => (by cases h)⟩ d [] p' v (zeC d hq) (VR.any p _ d v ho h) (fun l r hr => ?_)
 rw [zbr l d ho] at hr
 cases hr
theorem zcS {ty : Nat → Option TI} {X : Nat} {ds : List D} {vs : List Value} (hty : c.ty = ty) (h : zda ty ds vs = true) : zc8 (c.nilH X) X ds vs := by
 refine ⟨zbM h, fun i d v hd hv => ?_⟩
 have hz := ziE h hd hv
 refine ⟨?_, zmh hz⟩
 rcases zcs hz with ⟨rfl, hs⟩ | ⟨e, rfl, rfl, he⟩
 · exact zaE hs
 · refine ⟨(zgA _).symm, RowAt.ok ?_⟩
   rw [zgA]
   exact RowAt.nil (by show (c.ty e).isSome = true; rw [hty]; exact he)
theorem zd1 {d : D} (h : d.hasOwn = false) : ∀ (i : Nat) (d' : D), (zar d)[i]? = some d' → d'.hasOwn = false := by
 intro i d' hd
 have one : ∀ e : D, e.hasOwn = false → ([e] : List D)[i]? = some d' → d'.hasOwn = false := by
  intro e he h
  cases i <;> simp at h
  rw [← h]; exact he
 cases d with
 | seq t ds =>
   cases t with
   | false => exact zdk h hd
   | true => exact one _ h hd
 | dat d =>
   cases d with
   | agg cs =>
     simp only [zar, List.getElem?_map, Option.map_eq_some_iff] at hd
     obtain ⟨d0, _, rfl⟩ := hd
     rfl
   | val v => exact one _ h hd
   | lst b es => exact one _ h hd
 | own e es => cases h
 | bor q n => exact one _ rfl hd
 | bp q j o => exact one _ rfl hd
 | sb q l z => exact one _ rfl hd
 | ep b cs => exact one _ rfl hd
 | ptr r o => exact one _ rfl hd
 | fn f cp => exact one _ rfl hd
 | etc e => exact one _ rfl hd
 | undef => exact one _ rfl hd
 | junk => exact one _ rfl hd
theorem zd9 {i : TI} {inf : TypeInfo} {de : TypeDesc} {z : Value} {t : TypeId} (hty : TyOk P c.ty) {fs : Array Field} (h2 : fs.toList.map (fun f => (f.offset, f.type)) = i.fs) (h3 : ∀ f ∈ i.fs, (c.ty f.2).isSome = true) :
 ∃ places, fs.toList.mapM (fun f => (P.info? f.type).map fun i => (f.offset, i.size)) = some places := by
 rw [← h2] at h3
 generalize fs.toList = l at h3
 induction l with
 | nil => exact ⟨[], rfl⟩
 | cons f l ih =>
   obtain ⟨pls, h4⟩ := ih (fun q hq => h3 q (List.mem_cons_of_mem _ hq))
   obtain ⟨j, hj⟩ := Option.isSome_iff_exists.1 (h3 (f.offset, f.type) (by simp))
   obtain ⟨inf, _, _, hf⟩ := hty.facts hj
   have hi : P.info? f.type = some inf := hf.info
   exact ⟨_, by simp only [List.mapM_cons, hi, h4]; rfl⟩
theorem zfN {E : Env} {t : TypeId} {ps : Array (Nat × Operand)} {ps' : List (Nat × D)} {i : TI} {cs : List D} (hE : E.ty = c.ty) (hty : TyOk P c.ty) (ho : o.op = .build t ps) (ht : c.ty t = some i) (ha : i.agg = true) (hl : ps'.length = ps.size)
 (hp : ∀ (k : Nat) (d : Nat × D) (q : Nat × Operand), ps'[k]? = some d → ps.toList[k]? = some q → q.1 = d.1 ∧ VR c (.slot x []) d.2 (a.eval q.2) ∧ d.2.quiet = true ∧ d.2.hasOwn = false)
 (h : zbX E i.fs i.zero ps' = some cs) : Calm P c a o x T (aggD cs) := by
 obtain ⟨inf, de, z, hf⟩ := hty.facts ht
 obtain ⟨fs, h1, h2, h3⟩ := hf.struct ha
 obtain ⟨places, hpl⟩ := zd9 (i := i) (inf := inf) (de := de) (z := z) (t := t) hty h2 h3
 obtain ⟨cells, h4, h5⟩ := zdS (c := c.nilH x) (X := x) (t := t) hE h2 hpl hty ps' (ps.map fun (q : Nat × Operand) => (q.1, a.eval q.2)).toList i.zero z.cells cs h (zcS rfl hf.zs) (by simp [hl]) (fun k d v hd hv => by
  simp only [Array.toList_map, List.getElem?_map, Option.map_eq_some_iff] at hv
  obtain ⟨q', hq2, rfl⟩ := hv
  obtain ⟨h0, h6, h8, h7⟩ := hp k d q' hd hq2
  refine ⟨h0, zcG (zdM h8 h7 h6 _) h8 (.inr h7), fun i j d' u hd' hu => VR.any _ _ d' u (zd1 h7 i d' hd') hu⟩)
 have hb : P.built t (ps.map fun (q : Nat × Operand) => (q.1, a.eval q.2)).toList = some cells := by
  simp only [Program.built, hf.info, h1, hf.zero, hpl]
  exact h4
 have hr := fun (w : World) => run_build (P := P) w t (ps.map fun (q : Nat × Operand) => (q.1, a.eval q.2)) cells hb
 refine ⟨.agg cells, c.nilH x, rfl, fun w _ => ?_, zdR c x, ?_⟩
 · simp only [execOp, ho, Sem.run_bind, hr, Result.andThen_ok, Sem.run_pure]
 · have := zeU (c := c.nilH x) (p := .slot x []) (ds := cs) (vs := cells.toList) h5.1 (fun k d v hd hv => ⟨(h5.2 k d v hd hv).1, (h5.2 k d v hd hv).2.1⟩)
   simpa using this
theorem zjt {E : Env} {t : TypeId} {ps : Array (Nat × Operand)} {i : TI} {cs : List D} (hE : E.ty = c.ty) (hty : TyOk P c.ty) (hs : Sim c a.tmps) (ho : o.op = .build t ps) (ht : c.ty t = some i) (ha : i.agg = true) (hq : D.quiets ((zaJ c.s.look ps).map (·.2)) = true)
 (h : zbX E i.fs i.zero (zaJ c.s.look ps) = some cs) : Calm P c a o x T (aggD cs) := by
 refine zfN hE hty ho ht ha (by simp [zaJ]) (fun k d q hd hq1 => ?_) h
 simp only [zaJ, List.getElem?_map, Option.map_eq_some_iff] at hd
 obtain ⟨q', hq', rfl⟩ := hd
 rw [hq1] at hq'
 cases hq'
 obtain ⟨h6, h7⟩ := zaf hs q.2 (.slot x [])
 exact ⟨rfl, h6, zgO hq k _ (by simp [zaJ, hq1]), h7⟩
def zeu (d : D) : Bool := zap d || (match d with | .bor _ _ => true | _ => false)
theorem zk5 {X : Nat} {p : Pl} (h : ∀ l, p ≠ .slot X l) : (c.nilH X).H p = c.H p := by
 cases p with
 | slot y l =>
   have : Nat.beq y X = false := beq_ne.2 fun e => h l (by rw [e])
   simp only [Cx.nilH, this]
 | cell r o => rfl
 | lent j => rfl
theorem zjg {E : Env} {t : TypeId} {ps : Array (Nat × Operand)} {i : TI} {cs : List D} (hE : E.ty = c.ty) (hty : TyOk P c.ty) (hs : Sim c a.tmps) (ho : o.op = .build t ps) (ht : c.ty t = some i) (ha : i.agg = true) (hq : (zaJ c.s.look ps).all (fun p => zen x p.2) = true)
 (h : zbX E i.fs i.zero (zaJ c.s.look ps) = some cs) : Calm P c a o x T (aggD cs) := by
 obtain ⟨inf, de, z, hf⟩ := hty.facts ht
 obtain ⟨fs, h1, h2, h3⟩ := hf.struct ha
 obtain ⟨places, hpl⟩ := zd9 (i := i) (inf := inf) (de := de) (z := z) (t := t) hty h2 h3
 have hz : zdm zeu (c.nilH x) x i.zero z.cells.toList := by
  have := zcS (X := x) (c := c) rfl hf.zs
  exact ⟨this.1, fun k d v hd hv => ⟨(this.2 k d v hd hv).1, (this.2 k d v hd hv).2.1, by simp [zeu, (this.2 k d v hd hv).2.2]⟩⟩
 obtain ⟨cells, h4, h5⟩ := zdS (ok := zeu) (c := c.nilH x) (X := x) (t := t) hE h2 hpl hty (zaJ c.s.look ps) (ps.map fun (q : Nat × Operand) => (q.1, a.eval q.2)).toList i.zero z.cells cs h hz (by simp [zaJ]) (fun k d v hd hv => by
  have hkp : zen x d.2 = true := (List.all_eq_true.1 hq) d (List.mem_of_getElem? hd)
  simp only [zaJ, Array.toList_map, List.getElem?_map, Option.map_eq_some_iff] at hd hv
  obtain ⟨q, hq1, rfl⟩ := hd
  obtain ⟨q', hq2, rfl⟩ := hv
  rw [hq1] at hq2
  cases hq2
  obtain ⟨h6, h7⟩ := zaf hs q.2 (.slot x [])
  refine ⟨rfl, ?_, fun i j d' u hd' hu => VR.any _ _ d' u (zd1 h7 i d' hd') hu⟩
  unfold zen at hkp
  simp only [Bool.or_eq_true] at hkp
  rcases hkp with h8 | h8
  · have := zcG (zdM (X := x) h8 h7 h6 (.slot x [])) h8 (.inr h7)
    exact ⟨this.1, fun k d v hd hv => ⟨(this.2 k d v hd hv).1, (this.2 k d v hd hv).2.1, by simp [zeu, (this.2 k d v hd hv).2.2]⟩⟩
  · simp only at h6 h7 h8 ⊢
    generalize c.s.look q.2 = dd at h6 h7 h8 ⊢
    cases dd with
    | bor p n =>
      obtain ⟨e, es, A, k', hg, hH, hv⟩ := h6
      have hp : ∀ l, p ≠ .slot x l := fun l e => by
       rw [e] at h8
       simp at h8
      have hsl : ∃ m, a.eval q.2 = .slice A m k' := by
       cases n with
       | none => exact ⟨_, hv⟩
       | some m => exact ⟨_, hv.2⟩
      obtain ⟨m, hm⟩ := hsl
      have hcells : (a.eval q.2).cells = #[a.eval q.2] := by rw [hm]; rfl
      rw [hcells]
      refine ⟨rfl, fun i d' u hd hu => ?_⟩
      cases i <;> simp [zar] at hd hu
      subst hd hu
      exact ⟨⟨e, es, A, k', hg, by rw [zk5 hp]; exact hH, hv⟩, by rw [hm]; rfl, rfl⟩
    | _ => cases h8)
 have hb : P.built t (ps.map fun (q : Nat × Operand) => (q.1, a.eval q.2)).toList = some cells := by
  simp only [Program.built, hf.info, h1, hf.zero, hpl]
  exact h4
 have hr := fun (w : World) => run_build (P := P) w t (ps.map fun (q : Nat × Operand) => (q.1, a.eval q.2)) cells hb
 refine ⟨.agg cells, c.nilH x, rfl, fun w _ => ?_, zdR c x, ?_⟩
 · simp only [execOp, ho, Sem.run_bind, hr, Result.andThen_ok, Sem.run_pure]
 · have := zeU (c := c.nilH x) (p := .slot x []) (ds := cs) (vs := cells.toList) h5.1 (fun k d v hd hv => ⟨(h5.2 k d v hd hv).1, (h5.2 k d v hd hv).2.1⟩)
   simpa using this
theorem zgX {d : Dat} {cv : List Value} {v : Value} {ρ : Nat → Role} {W : World} (h : Rep ρ W d cv) (hv : IsV d cv v) : v.cells.toList = cv := by
 cases d with
 | agg cs =>
   rw [show v = .agg cv.toArray from hv]
   simp [Value.cells]
 | val w =>
   have h2 : cv = [v] := hv
   rw [h2] at h ⊢
   have hone := h.one rfl
   cases v <;> first | rfl | cases hone
 | lst b es =>
   have h2 : cv = [v] := hv
   rw [h2] at h ⊢
   have hone := h.one rfl
   cases v <;> first | rfl | cases hone
theorem RepRow.set {ρ : Nat → Role} {W : World} {sz : Nat} {es : List Dat} {cells cells' : Array Value} {j : Nat} {d : Dat} {cv : List Value} (h : RepRow ρ W sz es cells.toList) (hj : j < es.length) (hd : Rep ρ W d cv) (hw : d.cells.length = sz)
 (hc : cells'.size = cells.size) (hg : ∀ k, cells'[k]? = if j * sz ≤ k ∧ k < j * sz + sz then cv[k - j * sz]? else cells[k]?) : RepRow ρ W sz (es.set j d) cells'.toList := by
 have hcv : cv.length = sz := by rw [hd.width, hw]
 refine ⟨?_, fun k d' hk => ?_, fun k d' hk => ?_⟩
 · have := h.len
   simp at this ⊢
   omega
 · by_cases hkj : k = j
   · subst hkj
     rw [List.getElem?_set_self hj] at hk
     cases hk
     have : (cells'.toList.drop (k * sz)).take sz = cv := by
      apply List.ext_getElem?
      intro n
      rw [List.getElem?_take]
      split
      · rename_i hn
        rw [List.getElem?_drop, Array.getElem?_toList, hg, if_pos (by omega)]
        congr 1
        omega
      · rename_i hn
        symm
        simp
        omega
     rw [this]
     exact hd
   · rw [List.getElem?_set_ne (by omega)] at hk
     have hk' : k < es.length := (List.getElem?_eq_some_iff.1 hk).1
     have : (cells'.toList.drop (k * sz)).take sz = (cells.toList.drop (k * sz)).take sz := by
      apply List.ext_getElem?
      intro n
      rw [List.getElem?_take, List.getElem?_take]
      split
      · rename_i hn
        rw [List.getElem?_drop, List.getElem?_drop, Array.getElem?_toList, Array.getElem?_toList, hg, if_neg]
        rcases Nat.lt_or_gt_of_ne hkj with hlt | hlt
        · have h1 : (k + 1) * sz ≤ j * sz := Nat.mul_le_mul_right _ hlt
          rw [Nat.add_mul] at h1
          omega
        · have h1 : (j + 1) * sz ≤ k * sz := Nat.mul_le_mul_right _ hlt
          rw [Nat.add_mul] at h1
          omega
      · rfl
     rw [this]
     exact h.rep k d' hk
 · by_cases hkj : k = j
   · subst hkj
     rw [List.getElem?_set_self hj] at hk
     cases hk
     exact hw
   · rw [List.getElem?_set_ne (by omega)] at hk
     exact h.wid k d' hk
theorem zed : ∀ (ps : List (Nat × Dat)) (es : List Dat), (zbs es ps).length = es.length
 | [], es => rfl
 | (j, d) :: ps, es => by simp [zbs, zed ps]
theorem zfG {ρ : Nat → Role} {W : World} {sz : Nat} : ∀ (ps : List (Nat × Dat)) (vps : List (Nat × Value)) (es : List Dat) (cells : Array Value), RepRow ρ W sz es cells.toList → vps.length = ps.length →
 (∀ (k : Nat) (d : Nat × Dat) (v : Nat × Value), ps[k]? = some d → vps[k]? = some v → v.1 = d.1 ∧ d.1 < es.length ∧ d.2.cells.length = sz ∧ Rep ρ W d.2 v.2.cells.toList) →
 ∃ cells', Instr.fill (fun i => some (i * sz, sz)) cells vps = some cells' ∧ cells'.size = cells.size ∧ RepRow ρ W sz (zbs es ps) cells'.toList
 | [], [], es, cells, h, hl, hp => ⟨cells, rfl, rfl, h⟩
 | [], _ :: _, es, cells, h, hl, hp => by cases hl
 | _ :: _, [], es, cells, h, hl, hp => by cases hl
 | (j, d) :: ps, (j', v) :: vps, es, cells, h, hl, hp => by
   obtain ⟨h1, h2, h3, h4⟩ := hp 0 (j, d) (j', v) rfl rfl
   simp only at h1 h2 h3 h4
   subst h1
   have hvs : v.cells.size = sz := by
    have := h4.width
    simp at this
    omega
   have hcs : cells.size = es.length * sz := by
    have := h.len
    simpa using this
   have hfit : j' * sz + sz ≤ es.length * sz := by
    have := Nat.mul_le_mul_right sz (show j' + 1 ≤ es.length by omega)
    rw [Nat.add_mul, Nat.one_mul] at this
    exact this
   simp only [Instr.fill]
   rw [if_neg (by simp [hvs]; omega)]
   have hsz := zc2 (j' * sz) v.cells.toList 0 cells
   have hget := fun k => zdG (j' * sz) v.cells.toList 0 cells k (by simp; omega)
   have e1 : v.cells.zipIdx.foldl (fun cs (x : Value × Nat) => cs.setIfInBounds (j' * sz + x.2) x.1) cells = (v.cells.toList.zipIdx 0).foldl (fun cs (x : Value × Nat) => cs.setIfInBounds (j' * sz + x.2) x.1) cells := by
    rw [← Array.foldl_toList]
    simp
   have hrow : RepRow ρ W sz (es.set j' d) (v.cells.zipIdx.foldl (fun cs (x : Value × Nat) => cs.setIfInBounds (j' * sz + x.2) x.1) cells).toList := by
    rw [e1]
    refine RepRow.set h h2 h4 h3 hsz fun k => ?_
    rw [hget k]
    simp [hvs]
   obtain ⟨cells', h5, h6, h7⟩ := zfG ps vps (es.set j' d) _ hrow (by simpa using hl) (fun k d' v' hd hv => by
    have := hp (k + 1) d' v' (by simpa using hd) (by simpa using hv)
    simpa using this)
   exact ⟨cells', h5, by rw [h6, e1, hsz], h7⟩
theorem zjF {t e : TypeId} {n : Nat} {ps : Array (Nat × Operand)} {ds : List (Nat × Dat)} {i j : TI} {z : Dat} (hty : TyOk P c.ty) (ho : o.op = .buildSlice t n ps) (ht : c.ty t = some i) (hk : i.kind = .slice e) (hj : c.ty e = some j) (hz : j.zeroD = some z)
 (hl : ds.length = ps.size) (hp : ∀ (k : Nat) (d : Nat × Dat) (q : Nat × Operand), ds[k]? = some d → ps.toList[k]? = some q → q.1 = d.1 ∧ ∃ cv, Rep c.ρ c.W d.2 cv ∧ IsV d.2 cv (a.eval q.2))
 (hall : (ds.all (fun p => Nat.blt p.1 n && Nat.beq p.2.cells.length j.sz) && (Nat.blt 0 j.sz && Nat.ble (n * j.sz) 16777216)) = true) : Yields P c a o x (.own e (zbs (List.replicate n z) ds)) := by
 obtain ⟨_, de, _, hf⟩ := hty.facts ht
 obtain ⟨inf, _, zv, hfj⟩ := hty.facts hj
 simp only [Bool.and_eq_true, List.all_eq_true] at hall
 obtain ⟨h1, h2, h3⟩ := hall
 have h2 : 0 < j.sz := by
  have : 1 ≤ j.sz := by simpa [Nat.blt] using h2
  omega
 have h3 : n * j.sz ≤ 16777216 := by simpa using h3
 obtain ⟨hrep, hw⟩ := zev c.ρ c.W hfj.zs hfj.zlen hfj.zagg hz
 have hzs : zv.cells.size = j.sz := by
  have := zbM hfj.zs
  simp at this
  rw [this, hfj.zlen]
 have hmade := zgd (n := n) hzs hrep hw
 obtain ⟨cells, h4, h5, h6⟩ := zfG ds (ps.map fun (q : Nat × Operand) => (q.1, a.eval q.2)).toList _ _ hmade (by simp [hl]) (fun k d v hd hv => by
  simp only [Array.toList_map, List.getElem?_map, Option.map_eq_some_iff] at hv
  obtain ⟨q, hq, rfl⟩ := hv
  obtain ⟨h7, cv, h8, h9⟩ := hp k d q hd hq
  have h10 := h1 d (List.mem_of_getElem? hd)
  have h11 : d.1 + 1 ≤ n := by simpa [Nat.blt] using h10.1
  refine ⟨h7, by simp; omega, beq_eq.1 h10.2, ?_⟩
  rw [zgX h8 h9]
  exact h8)
 have hlen : (zbs (List.replicate n z) ds).length = n := by rw [zed]; simp
 have hcs : cells.size = n * j.sz := by rw [h5, size_madeCells]
 have hrun : (Instr.buildSlice t n (ps.map fun (q : Nat × Operand) => (q.1, a.eval q.2))).run P c.W = .ok (.slice (some ⟨c.W.heap.size, 0, none⟩) n n) (c.W.alloc (.cells cells e)) := by
  by_cases hn : n = 0
  · subst hn
    have hds : ds = [] := by
     cases ds with
     | nil => rfl
     | cons d ds =>
       have := (h1 d (by simp)).1
       simp [Nat.blt] at this
    have hps : ps = #[] := by
     subst hds
     exact Array.eq_empty_of_size_eq_zero (by simpa using hl.symm)
    have hc0 : cells = #[] := Array.eq_empty_of_size_eq_zero (by rw [hcs]; simp)
    subst hps hc0
    simp [Instr.buildSlice, run_underlying (hf.slice hk).1, Go.sizeOf, typeInfo, hfj.info, Instr.fill, newRow, Array.range_zero']
  · refine run_buildSlice c.W t e n _ cells inf zv (hf.slice hk).1 hfj.info hfj.zero (by rw [hfj.size]; omega) (by rw [hfj.size]; intro h0; rcases Nat.mul_eq_zero.1 h0 with h | h <;> omega) ?_
    rw [hfj.size]
    exact h4
 have hnew := zib (c := c) (x := x) (e := e) (es := zbs (List.replicate n z) ds) (v := .slice (some ⟨c.W.heap.size, 0, none⟩) n n) (W' := c.W.alloc (.cells cells e)) (i := j) (xs := cells.toList)
  (Below.alloc (Below.refl _ _) (Nat.le_refl _) _) hj ⟨by rw [hlen]; simpa using hcs, .inr ⟨c.W.heap.size, n, cells, by rw [hlen], Nat.le_refl _, heap_alloc_new c.W _, by omega, ?_, hcs, ?_⟩⟩ h6
 · refine ⟨_, _, ?_, hnew.1, hnew.2⟩
   show (execOp a.eval o).run P c.W = _
   simp only [execOp, ho, Sem.run_bind]
   rw [hrun]
   rfl
 · have : n ≤ n * j.sz := Nat.le_mul_of_pos_right n h2
   simp only [maxLen]
   omega
 · rw [hlen]
   apply List.take_of_length_le
   simp [hcs]
end
end Go.Den
namespace Go.Den
open Go Go.RowKit
set_option linter.unusedVariables false
theorem TyFacts.map {P : Program} {ty : Nat → Option TI} {t : Nat} {i : TI} {inf : TypeInfo} {de : TypeDesc} {z : Value} (h : TyFacts P ty t i inf de z) {k e : Nat} (hk : i.kind = .map k e) : P.underlying t = some (.map k e) := by
 have hkk := h.kind
 rw [h.und]
 cases de <;> simp [zaH, hk] at hkk ⊢
 exact ⟨hkk.1, hkk.2⟩
theorem zlq (a b : ByteArray) : (a == b) = decide (a = b) := by
 cases a with | mk a => cases b with | mk b =>
 show (a == b) = _
 by_cases h : a = b
 · subst h; simp
 · have : ¬ (ByteArray.mk a = ByteArray.mk b) := by intro e; injection e with e; exact h e
   simp [this, h]
theorem zcM {P : Program} {W : World} {r : Nat} {es : Array MapEntry} {clock : Nat} (h : W.heap[r]? = some (.map es clock)) : (getObj r).run P W = .ok (.map es clock) W := by simp [getObj, Sem.run, h]
def zeT : TypeDesc → Bool
 | .int _ => true
 | .string => true
 | .bool => true
 | _ => false
theorem zhb {P : Program} {ty : Nat → Option TI} {kt : Nat} {kj : TI} (hty : TyOk P ty) (h : ty kt = some kj) (hk : ziU kj.kind = true) : ∃ d, P.underlying kt = some d ∧ zeT d = true ∧ ∀ a b q, zdT kj.kind a b = some q → Instr.sameNow d a b = some q := by
 obtain ⟨_, d, _, hf⟩ := hty.facts h
 have hkk := hf.kind
 refine ⟨d, hf.und, ?_, fun a b q hq => ?_⟩
 · unfold ziU at hk
   split at hk <;> rename_i e <;> first | (cases hk; done) | (cases d <;> simp [zaH, e, zeT] at hkk ⊢)
 · unfold zdT at hq
   split at hq
   · rename_i e
     cases d <;> simp [zaH, e] at hkk
     split at hq
     · rename_i hd
       have hd := of_decide_eq_true hd
       subst hd
       cases hq
       simp [Instr.sameNow]
       rfl
     · cases hq
   · rename_i e
     cases d <;> simp [zaH, e] at hkk
     cases hq
     simp [Instr.sameNow]
     exact zlq _ _
   · rename_i e
     cases d <;> simp [zaH, e] at hkk
     cases hq
     simp [Instr.sameNow]
   · cases hq
theorem zni {t : TK} {a b : Value} (h : zdT t a b = some true) : a = b := by
 unfold zdT at h
 split at h
 · split at h
   · rename_i hd
     have hd := of_decide_eq_true hd
     injection h with h
     rw [hd, of_decide_eq_true h]
   · cases h
 · injection h with h
   rw [of_decide_eq_true h]
 · injection h with h
   rw [eq_of_beq h]
 · cases h
theorem zlo {t : TK} {a : Value} (h : zdT t a a = some true) : Instr.sameBits 10000 a a = true := by
 unfold zdT at h
 split at h
 · simp [Instr.sameBits]
 · simp [Instr.sameBits, zlq]
 · simp [Instr.sameBits]
 · cases h
theorem zbU {P : Program} {kt : TypeId} {d : TypeDesc} (h : P.underlying kt = some d) (hd : zeT d = true) (b : Bool) (k : Value) (W : World) : (Instr.checkKey b 10000 kt k).run P W = .ok () W := by
 unfold Instr.checkKey
 simp only [Sem.run_bind, run_underlying h, Result.andThen_ok]
 cases d <;> simp [zeT] at hd ⊢
theorem zfw {P : Program} {W : World} {t kt et : TypeId} {d : TypeDesc} {g : Nat} {es : Array MapEntry} {clock : Nat} {k zv : Value} {r : Option (Nat × Value)} (ht : P.underlying t = some (.map kt et)) (hk : P.underlying kt = some d) (hd : zeT d = true)
 (hg : W.heap[g]? = some (.map es clock)) (hf : Instr.findNow d k es.toList 0 = some r) (hz : r = none → (zeroValue et).run P W = .ok zv W) (ok : Bool) :
 (Instr.lookup t (.map (some g)) k ok).run P W = .ok (match ok with | true => .tuple #[(r.map (·.2)).getD zv, .bool r.isSome] | false => (r.map (·.2)).getD zv) W := by
 cases r with
 | none =>
   have hz := hz rfl
   cases ok <;> simp [Instr.lookup, run_underlying ht, zcM hg, zbU hk hd, Instr.findKey, run_underlying hk, hf, hz]
 | some q =>
   cases ok <;> simp [Instr.lookup, run_underlying ht, zcM hg, zbU hk hd, Instr.findKey, run_underlying hk, hf]
theorem ziy {t : TK} {d : TypeDesc} {k : Value} (hs : ∀ a b q, zdT t a b = some q → Instr.sameNow d a b = some q) {b : Nat → Nat} : ∀ (m : Nat) (ps : List D) (vs : List Value) (j n : Nat) (o : Option Value), ps.length ≤ m → zdo t k ps = some o → vs.length = ps.length →
 (∀ (i : Nat) (w v : Value), ps[i]? = some (.dat (.val w)) → vs[i]? = some v → v = w) → ∃ r, Instr.findNow d k (zae b j vs) n = some r ∧ r.map (·.2) = o
 | m, [], vs, j, n, o, hm, h, hl, hv => by
   cases h
   have : vs = [] := List.eq_nil_of_length_eq_zero hl
   subst this
   exact ⟨none, rfl, rfl⟩
 | m, [x], vs, j, n, o, hm, h, hl, hv => by
   unfold zdo at h
   split at h <;> rename_i e <;> first | (cases e; done) | (cases h; done)
 | 0, x :: y :: l, vs, j, n, o, hm, h, hl, hv => by simp at hm
 | m + 1, x :: y :: l, vs, j, n, o, hm, h, hl, hv => by
   match vs, hl, hv with
   | u1 :: u2 :: us, hl, hv =>
     unfold zdo at h
     split at h
     · rename_i e; cases e
     · rename_i a bb l0 e
       injection e with e1 e2
       injection e2 with e2 e3
       subst e1 e2 e3
       have h1 := hv 0 a u1 rfl rfl
       have h2 := hv 1 bb u2 rfl rfl
       subst h1 h2
       simp only [zae]
       unfold Instr.findNow
       cases hq : zdT t k u1 with
       | none => rw [hq] at h; cases h
       | some q =>
         rw [hq] at h
         rw [hs _ _ _ hq]
         cases q with
         | true =>
           simp only at h ⊢
           cases h
           exact ⟨_, rfl, rfl⟩
         | false =>
           simp only at h ⊢
           exact ziy hs m l us (j + 1) (n + 1) o (by simp at hm; omega) h (by simpa using hl) (fun i w v hw hv' => hv (i + 2) w v (by simpa using hw) (by simpa using hv'))
     · cases h
section
variable {P : Program} {c : Cx} {a : Act} {o : Oper} {x : Nat}
theorem zjU {r : Ref} {cs : List D} {tm : Array Value} (hs : Sim c tm) (hb : c.s.box r = some cs) (hm : isM cs = true) :
 ∃ (vs : List Value) (T : BT), c.W.heap[c.β r]? = some (.map (zae T.b 0 vs.tail).toArray T.t) ∧ vs.tail.length = cs.tail.length ∧ (∀ (i : Nat) (w v : Value), cs.tail[i]? = some (.dat (.val w)) → vs.tail[i]? = some v → v = w) ∧ vs.length = cs.length ∧ c.ρ (c.β r) = .box r ∧
  ∀ (i : Nat) (d : D) (v : Value), cs[i]? = some d → vs[i]? = some v → VR c (.cell r i) d v ∧ v.oneCell' = true ∧ zap d = true := by
 obtain ⟨vs, T, h1, h2, h3, h4⟩ := (hs.boxes r cs hb).out
 rw [hm] at h1
 refine ⟨vs, T, h1, by simp [h3], fun i w v hw hv => ?_, h3, h2, h4⟩
 rw [← List.drop_one, List.getElem?_drop] at hw hv
 exact (zaq (h4 _ _ _ hw hv).1).1
theorem zij {t kt et : TypeId} {zm zk : Operand} {ok : Bool} {i kj ej : TI} {r : Ref} {kv b : Value} {cs : List D} {oo : Option Value} (hty : TyOk P c.ty) (hs : Sim c a.tmps) (ho : o.op = .lookup t zm zk ok) (ht : c.ty t = some i) (hk : i.kind = .map kt et) (hkj : c.ty kt = some kj) (hej : c.ty et = some ej)
 (hkt : ziU kj.kind = true) (hm : c.s.look zm = .etc (.map r)) (hkv : c.s.look zk = .dat (.val kv)) (hb : c.s.box r = some cs) (hM : isM cs = true) (hg : zdo kj.kind kv cs.tail = some oo)
 (hbv : ziC ej oo = some b) :
 Yields P c a o x (match ok with | false => .dat (.val b) | true => .seq true [.dat (.val b), .dat (.val (.bool oo.isSome))]) := by
 obtain ⟨_, _, _, hft⟩ := hty.facts ht
 obtain ⟨dk, hud, hdk, hsame⟩ := zhb hty hkj hkt
 obtain ⟨inf, de, z, hfe⟩ := hty.facts hej
 obtain ⟨vs, T, h1, h2, h3, h4, h5, h6⟩ := zjU hs hb hM
 have hv1 := (zaf hs zm (.lent 0)).1
 have hv2 := (zaf hs zk (.lent 0)).1
 rw [hm] at hv1
 rw [hkv] at hv2
 have hmv : a.eval zm = .map (some (c.β r)) := hv1.2
 have hkv' := (zaq hv2).1
 obtain ⟨q, h7, h8⟩ := ziy hsame (b := T.b) _ cs.tail vs.tail 0 0 oo (Nat.le_refl _) hg h2 h3
 have hzv : q = none → (zeroValue et).run P c.W = .ok z c.W := fun _ => by simp [zeroValue, typeInfo, hfe.info, hfe.zero]
 have hrun := zfw (k := kv) (ok := ok) (hft.map hk) hud hdk h1 (r := q) (zv := z) (by simpa using h7) hzv
 have hq : (q.map (·.2)).getD z = b ∧ q.isSome = oo.isSome ∧ scal b = true := by
  rw [← h8] at hbv
  cases q with
  | some p =>
    have hbv : some p.2 = some b := hbv
    cases hbv
    refine ⟨rfl, by rw [← h8]; rfl, ?_⟩
    have key : ∀ (m : Nat) (ps : List D) (us : List Value) (o : Value), ps.length ≤ m → zdo kj.kind kv ps = some (some o) → us.length = ps.length → (∀ (i : Nat) (d : D) (v : Value), ps[i]? = some d → us[i]? = some v → ∃ p, VR c p d v) → scal o = true := by
     intro m
     induction m with
     | zero =>
       intro ps us o hm h hl hv
       have : ps = [] := List.eq_nil_of_length_eq_zero (by omega)
       subst this
       cases h
     | succ m ih =>
       intro ps us o hm h hl hv
       unfold zdo at h
       split at h
       · cases h
       · rename_i w1 w2 l
         match us, hl, hv with
         | u1 :: u2 :: us, hl, hv =>
           split at h
           · cases h
             obtain ⟨_, hh⟩ := hv 1 _ u2 rfl rfl
             exact (zaq hh).2
           · exact ih l us o (by simp at hm; omega) h (by simpa using hl) (fun i d v hd hv' => hv (i + 2) d v (by simpa using hd) (by simpa using hv'))
           · cases h
       · cases h
    refine key _ cs.tail vs.tail p.2 (Nat.le_refl _) (by rw [hg, ← h8]; rfl) h2 (fun i d v hd hv => ?_)
    rw [← List.drop_one, List.getElem?_drop] at hd hv
    exact ⟨_, (h6 _ _ _ hd hv).1⟩
  | none =>
    simp only [Option.map_none, ziC] at hbv
    split at hbv
    · rename_i z' hz'
      cases hbv
      obtain ⟨hr, _⟩ := zev c.ρ c.W hfe.zs hfe.zlen hfe.zagg hz'
      refine ⟨?_, by rw [← h8]; rfl, ?_⟩
      · have hc : z.cells = #[z] := by
         rcases hfe.zagg with ⟨cs', rfl, ha⟩ | ⟨hc, _⟩
         · simp only [TI.zeroD, Option.bind_eq_some_iff] at hz'
           obtain ⟨_, _, hz2⟩ := hz'
           rw [ha] at hz2
           cases hz2
         · exact hc
        rw [hc] at hr
        cases hr with
        | val _ => rfl
      · generalize z.cells.toList = zz at hr
        cases hr with
        | val hs => exact hs
    · cases hbv
 obtain ⟨hq1, hq2, hq3⟩ := hq
 rw [hq1, hq2] at hrun
 cases ok with
 | false => exact Yields.same (v := b) (by simp only [execOp, ho, hmv, hkv', Sem.run_bind, hrun, Result.andThen_ok, Sem.run_pure]) (zaE hq3)
 | true => exact Yields.same (v := .tuple #[b, .bool oo.isSome]) (by simp only [execOp, ho, hmv, hkv', Sem.run_bind, hrun, Result.andThen_ok, Sem.run_pure]) ⟨[b, .bool oo.isSome], rfl, fun e => (by cases e), b, [.bool oo.isSome], rfl, zaE hq3, .bool oo.isSome, [], rfl, zaE rfl, rfl⟩
end
end Go.Den
namespace Go.Den
open Go Go.RowKit
set_option linter.unusedVariables false
def Reaches (P : Program) (f : Nat) (vals : Array Value) (W : World) (R : Value → World → Prop) : Prop :=
 match (callFunc f vals).run P W with
 | .ok (.value v) W' => R v W'
 | .ok (.enter g args) W' => Calls P g args W' fun | .returned v, W'' => R v W'' | _, _ => False
 | .ok (.row r args) W' => Rows P r args W' R
 | _ => False
theorem Reaches.mono {P : Program} {f : Nat} {vals : Array Value} {W : World} {R R' : Value → World → Prop} (h : Reaches P f vals W R) (hr : ∀ v w, R v w → R' v w) : Reaches P f vals W R' := by
 unfold Reaches at *
 split at h
 · exact hr _ _ h
 · refine Calls.mono h fun e w' he => ?_
   cases e with
   | returned v => exact hr _ _ he
   | _ => exact he.elim
 · exact Rows.mono h hr
 · exact h.elim
structure Answer (c : Cx) (rs : List D) (u' : List (List D)) (l' : List (Option Row)) (v : Value) (c' : Cx) : Prop where
 ext : Ext c c'
 s : c'.s = ⟨fun x => match Nat.beq x 0 with | true => retD rs | false => .junk, fun _ => none, u', l'⟩
 sim : Sim c' #[v]
 tight : (retD rs).tight false = true
 len : u'.length = c.s.u.length
def zkN (cs : List D) : St := ⟨fun _ => .junk, fun y => match Nat.beq y 0 with | true => some cs | false => none, [], []⟩
structure AnswerP (c : Cx) (u' : List (List D)) (v : Value) (c' : Cx) : Prop where
 ext : Ext c c'
 out : ∃ cs, u' = [cs] ∧ cs.all zcE = true ∧ c'.s = zkN cs ∧ Sim c' #[] ∧ v = .pointer (some ⟨c'.β (.loc 0), 0, none⟩)
def Ans (c : Cx) (rs : List D) (u' : List (List D)) (l' : List (Option Row)) (v : Value) (c' : Cx) : Prop :=
 match D.plains rs with
 | true => Answer c rs u' l' v c'
 | false => AnswerP c u' v c'
theorem Ans.plain {c : Cx} {rs : List D} {u' : List (List D)} {l' : List (Option Row)} {v : Value} {c' : Cx} (h : Ans c rs u' l' v c') (hp : D.plains rs = true) : Answer c rs u' l' v c' := by
 unfold Ans at h
 rw [hp] at h
 exact h
theorem Ans.of {c : Cx} {rs : List D} {u' : List (List D)} {l' : List (Option Row)} {v : Value} {c' : Cx} (hp : D.plains rs = true) (h : Answer c rs u' l' v c') : Ans c rs u' l' v c' := by
 unfold Ans
 rw [hp]
 exact h
def Firm (B : Nat → Option Obj) (c : Cx) : Prop := ∀ (g : Nat) (o : Obj), B g = some o → stable (c.ρ g) ∧ c.W.heap[g]? = some o
theorem Firm.ext {B : Nat → Option Obj} {c c' : Cx} (h : Firm B c) (he : Ext c c') : Firm B c' := fun g o hg => by
 obtain ⟨h1, h2⟩ := h g o hg
 obtain ⟨h3, h4⟩ := he.keep g (Array.getElem?_eq_some_iff.1 h2).1 h1
 exact ⟨by rw [h3]; exact h1, h4.trans h2⟩
def zck (P : Program) (ty : Nat → Option TI) (B : Nat → Option Obj) (call : Nat → List D → List (List D) → List (Option Row) → Option (List D × List (List D) × List (Option Row))) : Prop :=
 ∀ f args u l rs u' l', call f args u l = some (rs, u', l') → ∀ (c : Cx) (vals : Array Value), c.ty = ty → Firm B c → c.s = start args u l → vals.size = args.length → Sim c vals → Reaches P f vals c.W fun v W' => ∃ c', c'.W = W' ∧ Ans c rs u' l' v c'
def noOut (ρ : Nat → Role) : Nat → Role := fun g => match ρ g with | .out => .oth | r => r
theorem zg7 {ρ : Nat → Role} {g : Nat} (h : noOut ρ g = .set) : ρ g = .set := by
 unfold noOut at h
 split at h
 · cases h
 · exact h
theorem zgV {ρ : Nat → Role} {g : Nat} {p : Pl} (h : noOut ρ g = .row p) : ρ g = .row p := by
 unfold noOut at h
 split at h
 · cases h
 · exact h
theorem zgc {ρ : Nat → Role} {g : Nat} (h : ρ g ≠ .out) : noOut ρ g = ρ g := by
 unfold noOut
 split
 · rename_i e; exact absurd e h
 · rfl
theorem zdd {ds : List Dat} (h : Dat.cleans ds = true) : ∀ (i : Nat) (d : Dat), ds[i]? = some d → d.clean = true := by
 induction ds with
 | nil => intro i d h; simp at h
 | cons e ds ih =>
   have h' : (e.clean && Dat.cleans ds) = true := h
   simp only [Bool.and_eq_true] at h'
   intro i d hd
   cases i with
   | zero => simp at hd; subst hd; exact h'.1
   | succ i => exact ih h'.2 i d (by simpa using hd)
theorem Rep.noOut {ρ : Nat → Role} {W : World} {d : Dat} {cv : List Value} (h : Rep ρ W d cv) (hc : d.clean = true) : Rep (Den.noOut ρ) W d cv := by
 induction h with
 | val h => exact .val h
 | agg hl hcc h ih =>
   have hc' : Dat.cleans _ = true := hc
   exact .agg hl hcc fun j d v hd hv => ih j d v hd hv (zdd hc' j d hd)
 | nil => exact .nil
 | lst f hcap hm hr hg hw hv h ih =>
   rename_i b es g o c sz
   have hc' : (!b && Dat.cleans es) = true := hc
   simp only [Bool.and_eq_true, Bool.not_eq_true'] at hc'
   refine .lst f hcap hm (.inl ?_) hg hw hv (fun j d hd => ih j d hd (zdd hc'.2 j d hd))
   have hs : ρ g = .set := by
    rcases hr with h | ⟨h, _⟩
    · exact h
    · rw [hc'.1] at h; cases h
   rw [zgc (by rw [hs]; intro e; cases e)]
   exact hs
def Cx.noOut (c : Cx) : Cx := { c with ρ := Den.noOut c.ρ }
mutual
theorem VR.noOut {c : Cx} : ∀ (p : Pl) (d : D) (v : Value), d.clean = true → VR c p d v → VR c.noOut p d v
 | p, .dat d, v, hc, ⟨cv, h1, h2⟩ => ⟨cv, h1.noOut hc, h2⟩
 | p, .own e es, v, hc, ⟨h1, h2⟩ => by
   obtain ⟨i, xs, h3, h4, h5, h6⟩ := h2.out
   have hc' : Dat.cleans es = true := hc
   refine ⟨h1, ⟨i, xs, h3, h4, ⟨h5.len, fun j d hj => (h5.rep j d hj).noOut (zdd hc' j d hj), h5.wid⟩, fun g hg => ?_⟩⟩
   show Den.noOut c.ρ g = _
   rw [zgc (by rw [h6 g hg]; intro e; cases e)]
   exact h6 g hg
 | p, .seq t ds, v, hc, ⟨vs, h1, h2, h3⟩ => ⟨vs, h1, h2, VRs.noOut p 0 ds vs hc h3⟩
 | p, .undef, v, hc, h => h
 | p, .etc .err, v, hc, h => h
 | p, .etc (.map _), v, hc, h => by cases hc
 | p, .etc .mark, v, hc, h => by cases hc
 | p, .etc (.vp _ _), v, hc, h => by cases hc
 | p, .bor q n, v, hc, h => by cases hc
 | p, .bp q j o, v, hc, h => by cases hc
 | p, .sb q l z, v, hc, h => by cases hc
 | p, .ep b cs, v, hc, h => by cases hc
 | p, .ptr r o, v, hc, h => by cases hc
 | p, .fn f cap, v, hc, h => by cases hc
 | p, .junk, v, hc, h => by cases hc
theorem VRs.noOut {c : Cx} : ∀ (p : Pl) (i : Nat) (ds : List D) (vs : List Value), D.cleans ds = true → VRs c p i ds vs → VRs c.noOut p i ds vs
 | p, i, [], vs, hc, h => h
 | p, i, d :: ds, vs, hc, ⟨v, vs', h1, h2, h3⟩ => by
   have hc' : (d.clean && D.cleans ds) = true := hc
   simp only [Bool.and_eq_true] at hc'
   exact ⟨v, vs', h1, VR.noOut (p.sub i) d v hc'.1 h2, VRs.noOut p (i + 1) ds vs' hc'.2 h3⟩
end
def za7 (b : Bool) (ρ : Nat → Role) : Nat → Role := fun g => match ρ g with | .set => .set | .out => .out | .oth => .oth | .row _ => (match b with | true => .out | false => .oth) | .box _ => .oth
theorem za9 {b : Bool} {ρ : Nat → Role} (g : Nat) : stable (za7 b ρ g) := by
 unfold za7
 cases ρ g <;> cases b <;> trivial
theorem zjb {b : Bool} {ρ : Nat → Role} : ∀ b' g, Rd ρ b' g → Rd (za7 b ρ) b' g := by
 intro b' g h
 unfold Rd za7 at *
 rcases h with h | ⟨h1, h⟩ <;> rw [h]
 · exact .inl rfl
 · exact .inr ⟨h1, rfl⟩
theorem zh3 {ρ : Nat → Role} {g : Nat} {p : Pl} (h : ρ g = .row p) : Rd (za7 true ρ) true g := .inr ⟨rfl, by unfold za7; rw [h]⟩
def zeK (c : Cx) (b : Bool) (args : List D) : Cx := ⟨c.ty, za7 b c.ρ, fun _ => 0, fun _ => undef, c.W, start args [] []⟩
structure Seen (c : Cx) (gp : Pl → Option Row) (b : Bool) (ρ' : Nat → Role) : Prop where
 rd : ∀ b' g, Rd c.ρ b' g → Rd ρ' b' g
 get : ∀ q r, gp q = some r → c.s.get q = some r
 row : b = true → ∀ q r g, gp q = some r → (c.H q).ownBlock = some g → c.ρ g = .row q → Rd ρ' true g
theorem zcV {c : Cx} {tm : Array Value} {gp : Pl → Option Row} {d : D} {v : Value} {dt : Dat} {fl b : Bool} {ρ' : Nat → Role} (hs : Sim c tm) (hg : Seen c gp b ρ') (h : zeq gp d = some (dt, fl)) (hb : fl = true → b = true) (hv : VW c d v ∨ ((∃ e, d = .own e []) ∧ v = .slice none 0 0)) :
 ∃ cv, Rep ρ' c.W dt cv ∧ IsV dt cv v := by
 unfold zeq at h
 split at h
 · cases h
   rcases hv with ⟨cv, h1, h2⟩ | ⟨⟨e, he⟩, _⟩
   · exact ⟨cv, h1.mono fun b' g hr _ => ⟨hg.rd b' g hr, rfl⟩, h2⟩
   · cases he
 · rename_i q n
   simp only [Option.map_eq_some_iff] at h
   obtain ⟨r, hr, h⟩ := h
   cases h
   rcases hv with hv | ⟨⟨e, he⟩, _⟩
   · have hgr := hg.get _ _ hr
     have hv := hv _ hgr
     obtain ⟨A, k, hH, hv2, hm⟩ := zcI hv hgr
     have hrow := (hs.row hgr).at_
     have hblk : ∀ g, (c.H q).ownBlock = some g → Rd ρ' true g := fun g hg' => hg.row (hb rfl) q r g hr hg' (hrow.choose_spec.choose_spec.2.2.2 g hg')
     rw [hH] at hrow hblk
     refine ⟨[v], ?_, rfl⟩
     rw [hv2]
     cases n with
     | none => exact hrow.rep (fun b' g h _ => hg.rd b' g h) hblk
     | some m =>
       have h3 := hrow.cut m (hm m rfl)
       have hl : (zaT (some m) r.2).length = m := by
        have := hm m rfl
        simp [zaT]
        omega
       rw [hl]
       exact h3.rep (fun b' g h _ => hg.rd b' g h) (fun g hg' => hblk g (by cases A <;> exact hg'))
   · cases he
 · cases h
   rcases hv with hv | ⟨_, hv⟩
   · exact hv.elim
   · refine ⟨[v], ?_, rfl⟩
     rw [hv]
     exact .nil
 · cases h
theorem zcH {c : Cx} {tm : Array Value} {gp : Pl → Option Row} {b : Bool} {ρ' : Nat → Role} (hs : Sim c tm) (hg : Seen c gp b ρ') : ∀ (ds : List D) (vs : List Value) (dts : List Dat) (fl : Bool), zdl gp ds = some (dts, fl) → (fl = true → b = true) → VWs c ds vs → (∀ u ∈ vs, u.oneCell' = true) →
 vs.length = dts.length ∧ ∀ (j : Nat) (d : Dat) (v : Value), dts[j]? = some d → vs[j]? = some v → d.cells = [d] ∧ Rep ρ' c.W d [v]
 | [], vs, dts, fl, h, hb, hv, ho => by
   cases h
   cases hv
   exact ⟨rfl, fun j d v h => by simp at h⟩
 | d :: ds, vs, dts, fl, h, hb, ⟨v, vs', h1, h2, h3⟩, ho => by
   simp only [zdl, Option.bind_eq_some_iff, Option.map_eq_some_iff] at h
   obtain ⟨⟨x, f1⟩, hx, ⟨ys, f2⟩, hy, h⟩ := h
   cases h
   subst h1
   obtain ⟨cv, h4, h5⟩ := zcV hs hg hx (fun e => hb (by simp [e])) (.inl h2)
   obtain ⟨h6, h7⟩ := zcH hs hg ds vs' ys f2 hy (fun e => hb (by simp [e])) h3 (fun u hu => ho u (List.mem_cons_of_mem _ hu))
   refine ⟨by simp [h6], fun j d' u hd hu => ?_⟩
   cases j with
   | zero =>
     simp at hd hu
     subst hd hu
     have hone := ho v (by simp)
     cases x with
     | agg cs =>
       rw [show v = .agg cv.toArray from h5] at hone
       cases hone
     | val w => exact ⟨rfl, by rw [← (show cv = [v] from h5)]; exact h4⟩
     | lst b' es => exact ⟨rfl, by rw [← (show cv = [v] from h5)]; exact h4⟩
   | succ j => exact h7 j d' u (by simpa using hd) (by simpa using hu)
theorem zc7 {c : Cx} {tm : Array Value} {gp : Pl → Option Row} {d : D} {v : Value} {dt : Dat} {fl b : Bool} {ρ' : Nat → Role} (hs : Sim c tm) (hg : Seen c gp b ρ') (h : zi6 gp d = some (dt, fl)) (hb : fl = true → b = true) (hv : VW c d v ∨ ((∃ e, d = .own e []) ∧ v = .slice none 0 0)) :
 ∃ cv, Rep ρ' c.W dt cv ∧ IsV dt cv v := by
 unfold zi6 at h
 split at h
 · simp only [Option.map_eq_some_iff] at h
   obtain ⟨⟨dts, f1⟩, hx, h⟩ := h
   cases h
   rcases hv with ⟨vs, h1, h2, h3⟩ | ⟨⟨e, he⟩, _⟩
   · obtain ⟨h4, h5⟩ := zcH hs hg _ vs dts _ hx hb h3 (h2 rfl)
     exact ⟨vs, .agg h4 (fun j d v hd hv => (h5 j d v hd hv).1) (fun j d v hd hv => (h5 j d v hd hv).2), h1⟩
   · cases he
 · exact zcV hs hg h hb hv
theorem zez {c : Cx} {tm : Array Value} {gp : Pl → Option Row} {b : Bool} {ρ' : Nat → Role} (hs : Sim c tm) (hg : Seen c gp b ρ') : ∀ (ds : List D) (vs : List Value) (dts : List Dat) (fl : Bool), zem gp ds = some (dts, fl) → (fl = true → b = true) → vs.length = ds.length → (∀ (j : Nat) (d : D) (v : Value), ds[j]? = some d → vs[j]? = some v → VW c d v ∨ ((∃ e, d = .own e []) ∧ v = .slice none 0 0)) →
 dts.length = vs.length ∧ ∀ (j : Nat) (d : Dat) (v : Value), dts[j]? = some d → vs[j]? = some v → ∃ cv, Rep ρ' c.W d cv ∧ IsV d cv v
 | [], vs, dts, fl, h, hb, hl, hv => by
   cases h
   exact ⟨by simpa using hl.symm, fun j d v h => by simp at h⟩
 | d :: ds, [], dts, fl, h, hb, hl, hv => by cases hl
 | d :: ds, v :: vs, dts, fl, h, hb, hl, hv => by
   simp only [zem, Option.bind_eq_some_iff, Option.map_eq_some_iff] at h
   obtain ⟨⟨x, f1⟩, hx, ⟨ys, f2⟩, hy, h⟩ := h
   cases h
   have h4 := zc7 hs hg hx (fun e => hb (by simp [e])) (hv 0 d v rfl rfl)
   obtain ⟨h6, h7⟩ := zez hs hg ds vs ys f2 hy (fun e => hb (by simp [e])) (by simpa using hl) (fun j d' u hd hu => hv (j + 1) d' u (by simpa using hd) (by simpa using hu))
   refine ⟨by simp [h6], fun j d' u hd hu => ?_⟩
   cases j with
   | zero =>
     simp at hd hu
     subst hd hu
     exact h4
   | succ j => exact h7 j d' u (by simpa using hd) (by simpa using hu)
theorem zhV {c : Cx} {gp : Pl → Option Row} {b : Bool} (hg : ∀ q r, gp q = some r → c.s.get q = some r) : Seen c gp b (za7 b c.ρ) :=
 ⟨zjb, hg, fun hb q r g _ _ h => by subst hb; exact zh3 h⟩
def Cx.back (c c' : Cx) (x : Nat) : Cx :=
 { c with
   W := c'.W
   ρ := fun g => if g < c.W.heap.size then c.ρ g else match c'.ρ g with | .set => .set | .out => .out | .row (.slot 0 l) => .row (.slot x l) | _ => .oth
   H := fun q => match ofSlot x q with | some l => c'.H (.slot 0 l) | none => c.H q }
theorem ziV {c c' : Cx} {x : Nat} {b : Bool} {args rs : List D} {v : Value} {u' : List (List D)} {l' : List (Option Row)} (ha : Answer (zeK c b args) rs u' l' v c') (hb : b = true → (retD rs).clean = true) : Grown c (c.back c' x) x ∧ VR (c.back c' x) (.slot x []) (retD rs) v := by
 have hext := ha.ext
 have hkeep : ∀ g, g < c.W.heap.size → c'.ρ g = za7 b c.ρ g ∧ c'.W.heap[g]? = c.W.heap[g]? := fun g hg => hext.keep g hg (za9 g)
 have hgr : Grown c (c.back c' x) x := ⟨rfl, rfl, rfl, ⟨hext.os, hext.tape, hext.output, hext.size, fun g hg => (hkeep g hg).2⟩, fun g hg => if_pos hg, fun q hq => by simp only [Cx.back]; rw [zcc hq]⟩
 refine ⟨hgr, ?_⟩
 have hslot : VR c' (.slot 0 []) (retD rs) v := by
  have := ha.sim.slots 0
  rw [ha.s] at this
  simpa using this
 have hu : ∀ r, (c'.s.box r).isSome = true → False := fun r hr => by
  have hl := ha.len
  have : u' = [] := List.eq_nil_of_length_eq_zero hl
  rw [ha.s, this] at hr
  cases r <;> simp [St.box] at hr
 have hρ : ∀ g, ¬ g < c.W.heap.size → (c.back c' x).ρ g = match c'.ρ g with | .set => .set | .out => .out | .row (.slot 0 l) => .row (.slot x l) | _ => .oth := fun g hg => if_neg hg
 have hown : ∀ l q, zbB x l = some q → (c.back c' x).H q = c'.H (.slot 0 l) ∧ ∀ g, c'.ρ g = .row (.slot 0 l) → g < c'.W.heap.size → (c.back c' x).ρ g = .row q ∧ (c.back c' x).W.heap[g]? = c'.W.heap[g]? := by
  intro l q hl
  cases hl
  refine ⟨by simp only [Cx.back]; rw [zbk], fun g hg hlt => ⟨?_, rfl⟩⟩
  by_cases hold : g < c.W.heap.size
  · have := (hkeep g hold).1
    rw [hg] at this
    have hst := za9 (b := b) (ρ := c.ρ) g
    rw [← this] at hst
    exact hst.elim
  · rw [hρ g hold, hg]
    rfl
 cases hbv : b with
 | false =>
   subst hbv
   refine zbO (c := c') (c1 := c.back c' x) (sl := false) (X := 0) (fwd := zbB x) ⟨hext.ty.symm, fun b' g hr hg => ⟨?_, rfl⟩, hown, fun r hr => (hu r hr).elim, fun q r h => (by cases h)⟩ (retD rs) [] (.slot x []) v ha.tight hslot (fun l r hr => by rw [zaj]; rfl)
   by_cases hold : g < c.W.heap.size
   · have h1 := (hkeep g hold).1
     unfold Rd at hr ⊢
     rw [h1] at hr
     rw [hgr.ρ g hold]
     unfold za7 at hr
     cases hc : c.ρ g <;> rw [hc] at hr <;> simp at hr ⊢
     exact hr
   · unfold Rd at hr ⊢
     rw [hρ g hold]
     rcases hr with h | ⟨h1, h⟩ <;> rw [h]
     · exact .inl rfl
     · exact .inr ⟨h1, rfl⟩
 | true =>
   subst hbv
   refine zbO (c := c'.noOut) (c1 := c.back c' x) (sl := false) (X := 0) (fwd := zbB x) ⟨hext.ty.symm, fun b' g hr hg => ⟨?_, rfl⟩, fun l q hl => ?_, fun r hr => (hu r hr).elim, fun q r h => (by cases h)⟩ (retD rs) [] (.slot x []) v ha.tight (VR.noOut _ _ _ (hb rfl) hslot) (fun l r hr => by rw [zaj]; rfl)
   · have hset : c'.ρ g = .set := by
      rcases hr with h | ⟨_, h⟩
      · exact zg7 h
      · exfalso
        have h : Den.noOut c'.ρ g = .out := h
        unfold Den.noOut at h
        split at h
        · cases h
        · rename_i hne
          exact hne h
     left
     by_cases hold : g < c.W.heap.size
     · have h1 := (hkeep g hold).1
       rw [hset] at h1
       rw [hgr.ρ g hold]
       unfold za7 at h1
       cases hc : c.ρ g <;> rw [hc] at h1 <;> simp at h1 ⊢
     · rw [hρ g hold, hset]
   · obtain ⟨h1, h2⟩ := hown l q hl
     exact ⟨h1, fun g hg hlt => h2 g (zgV hg) hlt⟩
section
variable {P : Program} {c : Cx} {a : Act} {o : Oper} {x : Nat}
def Does (P : Program) (c : Cx) (a : Act) (o : Oper) (x : Nat) (d : D) : Prop :=
 ∀ (K : Act → World → Prop) (Q : Exit → Act → World → Prop), (∀ v c1, Grown c c1 x → VR c1 (.slot x []) d v → K (a.put o.dst v) c1.W) → o.wp P a c.W K Q
theorem Yields.does {d : D} (h : Yields P c a o x d) : Does P c a o x d := by
 intro K Q hK
 obtain ⟨v, c1, h1, h2, h3⟩ := h
 unfold Oper.wp
 rw [h1]
 exact hK v c1 h2 h3
theorem Calm.does {d : D} (h : Calm P c a o x (Below c.W.heap.size c.W) d) : Does P c a o x d := (h.yields (Below.refl _ _)).does
theorem zko {c : Cx} {b : Bool} {dts : List Dat} {vs : List Value} (hl : dts.length = vs.length) (h : ∀ (j : Nat) (d : Dat) (v : Value), dts[j]? = some d → vs[j]? = some v → ∃ cv, Rep (za7 b c.ρ) c.W d cv ∧ IsV d cv v) : Sim (zeK c b (dts.map .dat)) vs.toArray := by
 refine ⟨fun y => ?_, fun r cs hb => ?_, fun j r hg => ?_⟩
 · show VR (zeK c b (dts.map .dat)) (.slot y []) ((dts.map .dat).getD y .undef) (vs.toArray.getD y undef)
   by_cases hy : y < dts.length
   · have h1 := List.getElem?_eq_getElem hy
     have h2 := List.getElem?_eq_getElem (show y < vs.length by omega)
     obtain ⟨cv, h3, h4⟩ := h y _ _ h1 h2
     have e1 : (dts.map D.dat).getD y .undef = .dat dts[y] := by simp [List.getD_eq_getElem?_getD, hy]
     have e2 : vs.toArray.getD y undef = vs[y] := by simp [Array.getD, show y < vs.length by omega]
     rw [e1, e2]
     exact ⟨cv, h3, h4⟩
   · have e1 : (dts.map D.dat).getD y .undef = .undef := by simp [List.getD_eq_getElem?_getD, hy]
     have e2 : vs.toArray.getD y undef = undef := by simp [Array.getD, show ¬ y < vs.length by omega]
     rw [e1, e2]
     rfl
 · cases r <;> simp [zeK, start, St.box] at hb
 · simp [zeK, start, St.get] at hg
theorem ziI {E : Env} (hs : Sim c a.tmps) : ∀ (zs : List Operand) (ts : List Nat), (zay E c.s.look zs ts).length = zs.length ∧ ∀ (j : Nat) (d : D) (v : Value), (zay E c.s.look zs ts)[j]? = some d → (zs.map a.eval)[j]? = some v → VW c d v ∨ ((∃ e, d = .own e []) ∧ v = .slice none 0 0)
 | [], ts => ⟨rfl, fun j d v h => by simp [zay] at h⟩
 | z :: zs, ts => by
   obtain ⟨h1, h2⟩ := ziI (E := E) hs zs ts.tail
   refine ⟨by simp [zay, h1], fun j d v hd hv => ?_⟩
   cases j with
   | succ j => exact h2 j d v (by simpa [zay] using hd) (by simpa using hv)
   | zero =>
     simp at hv
     subst hv
     have hl : VW c (c.s.look z) (a.eval z) := VW.of _ _ _ (zaf hs z (.lent 0)).2 (zaf hs z (.lent 0)).1
     simp only [zay, List.getElem?_cons_zero, Option.some.injEq] at hd
     split at hd
     · rename_i hz
       split at hd
       · subst hd
         rw [zca hz]
         exact .inr ⟨⟨_, rfl⟩, rfl⟩
       · subst hd
         exact .inl hl
     · subst hd
       exact .inl hl
theorem zgm {ca : Call} {f : Nat} {z : Operand} {cap : List Value} (ho : o.op = .call ca) (hc : ca.callee = .value z) (hz : a.eval z = .func (.func f) #[] cap.toArray) (W : World) {K : Act → World → Prop} {Q : Exit → Act → World → Prop}
 (h : Reaches P f ((ca.args.toList.map a.eval) ++ cap).toArray W fun v W' => K (a.put o.dst v) W') : o.wp P a W K Q := by
 unfold Oper.wp
 have e : (execOp a.eval o).run P W = (callFunc f ((ca.args.toList.map a.eval) ++ cap).toArray).run P W := by
  have : ca.args.map a.eval ++ cap.toArray = ((ca.args.toList.map a.eval) ++ cap).toArray := by
   apply Array.ext'
   simp
  simp [execOp, ho, resolve, hc, hz, Deferred.ofValue, invoke, this]
 rw [e]
 unfold Reaches at h
 generalize (callFunc f ((ca.args.toList.map a.eval) ++ cap).toArray).run P W = r at h
 split at h
 · exact h
 · refine Calls.mono h fun e w' he => ?_
   cases e with
   | returned v => exact he
   | _ => exact he.elim
 · exact h
 · exact h.elim
structure MadeBy (c : Cx) (cs : List D) (v : Value) (c' : Cx) : Prop where
 ty : c'.ty = c.ty
 os : c'.W.os = c.W.os
 tape : c'.W.tape = c.W.tape
 output : c'.W.output = c.W.output
 size : c.W.heap.size ≤ c'.W.heap.size
 old : ∀ g, g < c.W.heap.size → c'.W.heap[g]? = c.W.heap[g]? ∧ stable (c'.ρ g) ∧ ∀ b, Rd c'.ρ b g → Rd c.ρ b g
 cells : cs.all zcE = true
 s : c'.s = zkN cs
 sim : Sim c' #[]
 val : v = .pointer (some ⟨c'.β (.loc 0), 0, none⟩)
def zmZ (P : Program) (c : Cx) (a : Act) (o : Oper) (cs : List D) : Prop :=
 ∀ (K : Act → World → Prop) (Q : Exit → Act → World → Prop), (∀ v c', MadeBy c cs v c' → K (a.put o.dst v) c'.W) → o.wp P a c.W K Q
theorem zgq {ρ : Nat → Role} : ∀ b' g, Rd (za7 false ρ) b' g → Rd ρ b' g := by
 intro b' g h
 unfold Rd at *
 unfold za7 at h
 cases hc : ρ g <;> rw [hc] at h <;> simp at h ⊢
 exact h
theorem Firm.callee {B : Nat → Option Obj} {c : Cx} (h : Firm B c) (b : Bool) (args : List D) : Firm B (zeK c b args) := fun g o hg => by
 obtain ⟨h1, h2⟩ := h g o hg
 exact ⟨za9 g, h2⟩
theorem zg2 {B : Nat → Option Obj} {E : Env} {gp : Pl → Option Row} {ca : Call} {f : Nat} {z : Operand} {ef : Ef} (hE : E.ty = c.ty) (hI : Firm B c) (hcall : zck P c.ty B E.call) (hs : Sim c a.tmps) (hg : ∀ q r, gp q = some r → c.s.get q = some r) (ho : o.op = .call ca) (hc : ca.callee = .value z) (hz : c.s.look z = .fn f [])
 (h : zcW E gp f (zay E c.s.look ca.args.toList ca.argTypes.toList) = some ef) : (∃ d, ef = .pure d ∧ ∀ x, Does P c a o x d) ∨ ∃ cs, ef = .made cs ∧ zmZ P c a o cs := by
 unfold zcW at h
 split at h
 · cases h
 · simp only [Option.bind_eq_some_iff] at h
   obtain ⟨⟨dts, fl⟩, hv, ⟨rs, u', l'⟩, hq, h⟩ := h
   simp only at hq h
   obtain ⟨h1, h2⟩ := ziI (E := E) hs ca.args.toList ca.argTypes.toList
   obtain ⟨h3, h4⟩ := zez (b := fl) hs (zhV hg) _ (ca.args.toList.map a.eval) dts fl hv (fun e => e) (by simp [h1]) h2
   have hfz := (zaf hs z (.lent 0)).1
   rw [hz] at hfz
   have hr := hcall f (dts.map .dat) [] [] rs u' l' hq (zeK c fl (dts.map .dat)) (ca.args.toList.map a.eval).toArray rfl (hI.callee fl _) rfl (by simp [h3]) (zko h3 h4)
   unfold zkn at h
   split at h
   · rename_i hp
     left
     simp only at h
     have hclean : fl = true → D.cleans rs = true := by
      intro e
      subst e
      cases hcl : D.cleans rs with
      | true => rfl
      | false => rw [hcl] at h; cases h
     have hd : ef = .pure (retD rs) := by
      split at h
      · cases h
      · cases h; rfl
     refine ⟨retD rs, hd, fun x K Q hK => ?_⟩
     refine zgm (f := f) (cap := []) ho hc (by rw [hfz.2]; rfl) c.W ?_
     rw [List.append_nil]
     refine hr.mono fun v W' ⟨c', hW, ha⟩ => ?_
     have hcl : fl = true → (retD rs).clean = true := by
      intro e
      have := hclean e
      cases rs with
      | nil => rfl
      | cons r rs =>
        cases rs with
        | nil =>
          have h' : (r.clean && D.cleans []) = true := this
          simp only [Bool.and_eq_true] at h'
          exact h'.1
        | cons r2 rs => exact this
     obtain ⟨h5, h6⟩ := ziV (x := x) (ha.plain hp) hcl
     rw [← hW]
     exact hK v (c.back c' x) h5 h6
   · rename_i hp
     right
     split at h
     · rename_i cs hu
       cases h
       refine ⟨cs, rfl, fun K Q hK => ?_⟩
       refine zgm (f := f) (cap := []) ho hc (by rw [hfz.2]; rfl) c.W ?_
       rw [List.append_nil]
       refine hr.mono fun v W' ⟨c', hW, ha⟩ => ?_
       unfold Ans at ha
       rw [hp] at ha
       obtain ⟨hext, cs', hu', hcs, hs', hsim, hval⟩ := ha
       simp only at hu
       rw [hu] at hu'
       cases hu'
       rw [← hW]
       refine hK v c' ⟨hext.ty, hext.os, hext.tape, hext.output, hext.size, fun g hg => ?_, hcs, hs', hsim, hval⟩
       obtain ⟨h5, h6⟩ := hext.keep g hg (show stable (za7 false c.ρ g) from za9 g)
       have h5' : c'.ρ g = za7 false c.ρ g := h5
       refine ⟨h6, by rw [h5']; exact za9 g, fun b hb => zgq b g ?_⟩
       unfold Rd at hb ⊢
       rw [h5'] at hb
       exact hb
     · cases h
end
end Go.Den
namespace Go.Den
open Go Go.RowKit
set_option linter.unusedVariables false
def EfOK (P : Program) (c : Cx) (a : Act) (o : Oper) : Ef → Prop
 | .pure d => ∀ x, Does P c a o x d
 | .made cs => zmZ P c a o cs
 | .new cs => isM cs = false ∧ ∃ vs T, (execOp a.eval o).run P c.W = .ok (.value (.pointer (some ⟨c.W.heap.size, 0, none⟩))) (c.W.alloc (.cells (List.toArray vs) T (0, 0))) ∧ ∀ X, Ghost c a.tmps X → zc8 (c.nilH X) X cs vs
theorem zeL {lk : Operand → D} : ∀ {ps : List (Nat × Operand)} {ds : List (Nat × Dat)}, zew lk ps = some ds → ds.length = ps.length ∧ ∀ (k : Nat) (d : Nat × Dat) (q : Nat × Operand), ds[k]? = some d → ps[k]? = some q → q.1 = d.1 ∧ lk q.2 = .dat d.2
 | [], ds, h => by cases h; exact ⟨rfl, fun k d q h => by simp at h⟩
 | (j, z) :: ps, ds, h => by
   simp only [zew, Option.bind_eq_some_iff, Option.map_eq_some_iff] at h
   obtain ⟨d, hd, ds', h1, rfl⟩ := h
   obtain ⟨h2, h3⟩ := zeL h1
   refine ⟨by simp [h2], fun k d' q hd' hq => ?_⟩
   cases k with
   | zero =>
     simp at hd' hq
     subst hd' hq
     refine ⟨rfl, ?_⟩
     unfold zld at hd
     split at hd
     · rename_i e; cases hd; exact e
     · cases hd
   | succ k => exact h3 k d' q (by simpa using hd') (by simpa using hq)
theorem zlt {ty : Nat → Option TI} {ds : List D} {vs : List Value} (h : zda ty ds vs = true) : isM ds = false := by
 cases ds with
 | nil => rfl
 | cons d ds =>
   cases vs with
   | nil => cases h
   | cons v vs =>
     simp only [zda, Bool.and_eq_true] at h
     rw [zbi]
     rcases zcs h.1 with ⟨rfl, _⟩ | ⟨e, rfl, _⟩ <;> rfl
theorem zkf {d : D} (h : d.quiet = true) : isM (zar d) = false := by
 cases d with
 | dat d =>
   cases d with
   | agg cs => cases cs <;> rfl
   | _ => rfl
 | seq t ds =>
   have h' : (!t && D.quiets ds) = true := h
   simp only [Bool.and_eq_true, Bool.not_eq_true'] at h'
   obtain ⟨rfl, h2⟩ := h'
   show isM ds = false
   cases ds with
   | nil => rfl
   | cons d ds =>
     have h3 : (d.quiet && D.quiets ds) = true := h2
     simp only [Bool.and_eq_true] at h3
     rw [zbi]
     cases d with
     | etc e => cases e with
       | mark => cases h3.1
       | _ => rfl
     | _ => rfl
 | etc e => cases e with
   | mark => cases h
   | _ => rfl
 | _ => rfl
theorem zlI {c : Cx} {gp : Pl → Option Row} {p : Pl} : ∀ {ds : List D} {cs : List VC} {vs : List Value} {i : Nat}, vcs gp ds = some cs → VRs c p i ds vs → vs.length = cs.length ∧ ∀ (k : Nat) (x : VC) (u : Value), cs[k]? = some x → vs[k]? = some u → VCok c x u
 | [], cs, vs, i, h, hv => by
   cases h
   have hv : vs = [] := hv
   subst hv
   exact ⟨rfl, fun k x u hx => by simp at hx⟩
 | d :: ds, cs, vs, i, h, ⟨v, vs', hvs, h1, h2⟩ => by
   subst hvs
   have key : ∀ (x : VC) (cs' : List VC), VCok c x v → vcs gp ds = some cs' → x :: cs' = cs → (v :: vs').length = cs.length ∧ ∀ (k : Nat) (y : VC) (u : Value), cs[k]? = some y → (v :: vs')[k]? = some u → VCok c y u := fun x cs' hx hc e => by
    subst e
    obtain ⟨h3, h4⟩ := zlI hc h2
    refine ⟨by simp [h3], fun k y u hy hu => ?_⟩
    cases k with
    | zero =>
      simp at hy hu
      subst hy hu
      exact hx
    | succ k => exact h4 k y u (by simpa using hy) (by simpa using hu)
   unfold vcs at h
   split at h
   · rename_i heq; cases heq
   · cases h
   · rename_i x ds' hna heq
     cases heq
     simp only [Option.map_eq_some_iff] at h
     obtain ⟨cs', hc, e⟩ := h
     refine key _ cs' ?_ hc e
     obtain ⟨cv, h5, h6⟩ := h1
     cases x with
     | agg l => exact absurd rfl (hna l)
     | val w => exact ⟨rfl, by rw [← show cv = [v] from h6]; exact h5⟩
     | lst b l => exact ⟨rfl, by rw [← show cv = [v] from h6]; exact h5⟩
   · rename_i j ds' heq
     cases heq
     simp only [Option.bind_eq_some_iff, Option.map_eq_some_iff] at h
     obtain ⟨_, _, cs', hc, e⟩ := h
     exact key (.b j) cs' h1 hc e
   · cases h
theorem y_vp {P : Program} {c : Cx} {a : Act} {o : Oper} {x : Nat} {gp : Pl → Option Row} {t : TypeId} {z : Operand} {cs : List VC} (hs : Sim c a.tmps) (hg : ∀ q r, gp q = some r → c.s.get q = some r) (ho : o.op = .box t z) (h : vpOf gp (c.s.look z) = some cs) : Yields P c a o x (.etc (.vp cs 0)) := by
 have hv := (zaf hs z (.lent 0)).1
 unfold vpOf at h
 split at h
 · rename_i ds hl
   rw [hl] at hv
   obtain ⟨vs, h1, _, h3⟩ := hv
   simp only [Option.bind_eq_some_iff] at h
   obtain ⟨cs', hc, h⟩ := h
   split at h
   · cases h
     obtain ⟨h4, h5⟩ := zlI hc h3
     have hcell : (a.eval z).cells = vs.toArray := by rw [h1]; rfl
     have hrun : (execOp a.eval o).run P c.W = .ok (.value (.pointer (some ⟨c.W.heap.size, 0, none⟩))) (c.W.alloc (.cells (a.eval z).cells t)) := by simp [execOp, ho, Instr.box, newVar, newRow]
     have hρ : ∀ g, g < c.W.heap.size → (if g < c.W.heap.size then c.ρ g else Role.set) = c.ρ g := fun g hg => if_pos hg
     refine ⟨_, { c with W := c.W.alloc (.cells (a.eval z).cells t), ρ := fun g => if g < c.W.heap.size then c.ρ g else Role.set }, hrun, ⟨rfl, rfl, rfl, Below.alloc (Below.refl _ _) (Nat.le_refl _) _, hρ, fun _ _ => rfl⟩, c.W.heap.size, vs, rfl, .inl (if_neg (Nat.lt_irrefl _)), by simp, h4, fun i y u hy hu => ⟨?_, ?_⟩⟩
     · have hh := heap_alloc_new c.W (.cells (a.eval z).cells t)
       rw [hcell] at hh ⊢
       simp only [World.cell?, hh]
       simpa using hu
     · have h6 := h5 i y u hy hu
       have hm : ∀ b g, Rd c.ρ b g → g < c.W.heap.size → Rd (fun g => if g < c.W.heap.size then c.ρ g else Role.set) b g ∧ (c.W.alloc (.cells (a.eval z).cells t)).heap[g]? = c.W.heap[g]? := fun b g hr hlt => ⟨by unfold Rd at *; simp only [hρ g hlt]; exact hr, by first | exact heap_alloc_old c.W _ g hlt | exact heap_alloc_old c.W _ hlt⟩
       cases y with
       | d y => exact ⟨h6.1, h6.2.mono hm⟩
       | b j => exact h6
   · cases h
 · cases h
theorem zaQ {B : Nat → Option Obj} {P : Program} {c : Cx} {a : Act} {o : Oper} {E : Env} {gp : Pl → Option Row} {bx : Ref → Option (List D)} {ef : Ef} (hE : E.ty = c.ty) (hty : TyOk P c.ty) (hI : Firm B c) (hcall : zck P c.ty B E.call) (hs : Sim c a.tmps)
 (hg : ∀ q r, gp q = some r → c.s.get q = some r) (hbx : ∀ r cs, bx r = some cs → c.s.box r = some cs) (h : evOp E c.s.look gp bx o.type o.op = some ef) : EfOK P c a o ef := by
 cases ho : o.op with
 | move z =>
   rw [ho] at h
   simp only [evOp] at h
   cases h
   exact fun x => (ziQ hs (.inl ho)).does
 | assign z =>
   rw [ho] at h
   simp only [evOp] at h
   split at h
   · rename_i hz
     simp only [Option.bind_eq_some_iff] at h
     obtain ⟨i, hi, h⟩ := h
     split at h
     · rename_i e hk
       cases h
       rw [hE] at hi
       exact fun x => (zmU hty ho hz hi hk).does
     · cases h
   · split at h
     · cases h
       exact fun x => (ziQ hs (.inr ho)).does
     · cases h
 | pick z u w =>
   rw [ho] at h
   simp only [evOp, Option.map_eq_some_iff] at h
   obtain ⟨b, hb, h⟩ := h
   cases h
   exact fun x => by cases b <;> exact (zlu hs ho hb).does
 | alloc t =>
   rw [ho] at h
   simp only [evOp, Option.map_eq_some_iff] at h
   obtain ⟨i, hi, h⟩ := h
   cases h
   rw [hE] at hi
   obtain ⟨inf, _, z, hf⟩ := hty.facts hi
   refine ⟨zlt hf.zs, z.cells.toList, t, ?_, fun X hX => zcS rfl hf.zs⟩
   simp [execOp, ho, Instr.alloc, zeroValue, typeInfo, hf.info, hf.zero, newVar, newRow]
 | box t z =>
   rw [ho] at h
   simp only [evOp, Option.bind_eq_some_iff] at h
   obtain ⟨i, hi, h⟩ := h
   split at h
   · rename_i hq
     cases h
     simp only [Bool.and_eq_true] at hq
     have hv := zaf hs z (.lent 0)
     refine ⟨zkf hq.1, (a.eval z).cells.toList, t, ?_, fun X hX => zcG (zdM hq.1 hv.2 hv.1 _) hq.1 (.inr hv.2)⟩
     simp [execOp, ho, Instr.box, newVar, newRow]
   · simp only [Option.map_eq_some_iff] at h
     obtain ⟨cs, hcs, rfl⟩ := h
     exact fun x => (y_vp hs hg ho hcs).does
 | build t ps =>
   rw [ho] at h
   simp only [evOp, Option.bind_eq_some_iff] at h
   obtain ⟨i, hi, h⟩ := h
   rw [hE] at hi
   split at h
   · rename_i hq
     simp only [Bool.and_eq_true] at hq
     simp only [Option.map_eq_some_iff] at h
     obtain ⟨cs, hf, h⟩ := h
     cases h
     exact fun x => (zjt hE hty hs ho hi hq.1 hq.2 hf).does
   · cases h
 | buildSlice t n ps =>
   rw [ho] at h
   simp only [evOp, Option.bind_eq_some_iff] at h
   obtain ⟨i, hi, h⟩ := h
   rw [hE] at hi
   split at h
   · rename_i e hk
     simp only [Option.bind_eq_some_iff] at h
     obtain ⟨j, hj, z, hz, ds, hds, h⟩ := h
     rw [hE] at hj
     split at h
     · rename_i hall
       cases h
       obtain ⟨h1, h2⟩ := zeL hds
       exact fun x => (zjF hty ho hi hk hj hz (by simpa using h1) (fun k d q hd hq => by
        obtain ⟨h3, h4⟩ := h2 k d q hd hq
        have hv := (zaf hs q.2 (.lent 0)).1
        rw [h4] at hv
        exact ⟨h3, hv⟩) hall).does
     · cases h
   · cases h
 | load t z =>
   rw [ho] at h
   simp only [evOp, Option.bind_eq_some_iff, Option.map_eq_some_iff] at h
   obtain ⟨i, hi, d, hd, h⟩ := h
   cases h
   rw [hE] at hi
   exact fun x => (znx hty hs hg hbx ho hi hd).does
 | nilCheck z =>
   rw [ho] at h
   simp only [evOp] at h
   split at h
   · rename_i r n hz
     cases h
     exact fun x => (zfV hs ho hz).does
   · cases h
 | binOp op t z u k =>
   rw [ho] at h
   simp only [evOp] at h
   split at h
   · rename_i b hb
     cases h
     rw [hE] at hb
     exact fun x => (zik hty hs ho hb).does
   · simp only [Option.map_eq_some_iff] at h
     obtain ⟨d, hd, h⟩ := h
     cases h
     rw [hE] at hd
     exact fun x => (zki hty hs ho hd).does
 | unOp op t z =>
   rw [ho] at h
   simp only [evOp, Option.map_eq_some_iff] at h
   obtain ⟨d, hd, h⟩ := h
   cases h
   exact fun x => (zlN hs ho hd).does
 | convert t u z =>
   rw [ho] at h
   simp only [evOp, Option.bind_eq_some_iff, Option.map_eq_some_iff] at h
   obtain ⟨i, hi, d, hd, h⟩ := h
   cases h
   rw [hE] at hd hi
   exact fun x => (zhc hty hs ho (by rw [hi]; rfl) hd).does
 | makeFunc fn first cap =>
   rw [ho] at h
   cases fn with
   | func f =>
     simp only [evOp] at h
     split at h
     · rename_i hf
       simp only [Option.map_eq_some_iff] at h
       obtain ⟨rs, hr, h⟩ := h
       cases h
       exact fun x => (zfJ hs ho hf hr).does
     · cases h
   | _ => simp only [evOp] at h; cases h
 | makeSlice t l m =>
   rw [ho] at h
   simp only [evOp, Option.bind_eq_some_iff] at h
   obtain ⟨i, hi, h⟩ := h
   rw [hE] at hi
   split at h
   · rename_i e hk
     simp only [Option.bind_eq_some_iff] at h
     obtain ⟨j, hj, z, hz, n, hn, mm, hm, h⟩ := h
     rw [hE] at hj
     split at h
     · rename_i hb
       split at h
       · rename_i hby
         cases h
         exact fun x => (zh6 hty hs ho hi hk hj hz hn hm hb (by simpa using hby)).does
       · cases h
     · cases h
   · cases h
 | slice t z lo hi mx =>
   rw [ho] at h
   simp only [evOp] at h
   split at h
   · simp only [Option.bind_eq_some_iff, Option.map_eq_some_iff] at h
     obtain ⟨st, hst, l, hl, hh, hhi, d, hd, h⟩ := h
     cases h
     rw [hE] at hst hd
     exact fun x => (zjo hty hs hg ho hst hl hhi hd).does
   · cases h
 | fieldAddr t z f =>
   rw [ho] at h
   simp only [evOp, Option.bind_eq_some_iff] at h
   obtain ⟨i, hi, q, hq, j, hj, h⟩ := h
   rw [hE] at hi hj
   split at h
   · rename_i hc
     simp only [Option.map_eq_some_iff] at h
     obtain ⟨d, hd, h⟩ := h
     cases h
     exact fun x => (ze3 hty hs ho hi hq hj hc hd).does
   · cases h
 | field t z f =>
   rw [ho] at h
   simp only [evOp, Option.bind_eq_some_iff] at h
   obtain ⟨i, hi, q, hq, j, hj, h⟩ := h
   rw [hE] at hi hj
   split at h
   · cases h
   · rename_i ha
     split at h
     · rename_i cs hz
       simp only [Option.map_eq_some_iff] at h
       obtain ⟨d, hd, h⟩ := h
       cases h
       exact fun x => ((zdU hty hs ho hi hq hj ha).1 cs d hz hd).does
     · rename_i ds hz
       split at h
       · rename_i hja
         simp only [Option.map_eq_some_iff] at h
         obtain ⟨d, hd, h⟩ := h
         cases h
         exact fun x => ((zdU hty hs ho hi hq hj ha).2.1 ds d hz hja hd).does
       · rename_i hja
         split at h
         · rename_i hb
           cases h
           exact fun x => ((zdU hty hs ho hi hq hj ha).2.2 ds hz hja hb).does
         · cases h
     · cases h
 | indexAddr t z u =>
   rw [ho] at h
   simp only [evOp, Option.bind_eq_some_iff] at h
   obtain ⟨k, hk, h⟩ := h
   rw [hE] at hk
   split at h
   · rename_i e hkk
     simp only [Option.bind_eq_some_iff, Option.map_eq_some_iff] at h
     obtain ⟨j, hj, n, hn, d, hd, h⟩ := h
     rw [hE] at hj
     cases h
     exact fun x => (zeJ hty hs hg ho hk hkk hj hn hd).does
   · cases h
 | index t z u =>
   rw [ho] at h
   simp only [evOp, Option.bind_eq_some_iff] at h
   obtain ⟨k, hk, n, hn, h⟩ := h
   rw [hE] at hk
   split at h
   · rename_i s hz hkk
     split at h
     · rename_i hb
       cases h
       exact fun x => (zkg hty hs ho hk hkk hn hz hb).does
     · cases h
   · cases h
 | extract z j =>
   rw [ho] at h
   simp only [evOp] at h
   split at h
   · rename_i ds hz
     simp only [Option.map_eq_some_iff] at h
     obtain ⟨d, hd, h⟩ := h
     cases h
     exact fun x => (zg3 hs ho hz hd).does
   · cases h
 | call ca =>
   rw [ho] at h
   simp only [evOp] at h
   split at h
   · rename_i hc
     split at h
     · rename_i z t ha hat
       simp only [Option.bind_eq_some_iff, Option.map_eq_some_iff] at h
       obtain ⟨i, hi, n, hn, h⟩ := h
       cases h
       rw [hE] at hi
       exact fun x => (zm4 hty hs hg ho hc ha hat hi hn).does
     · cases h
   · rename_i hc
     split at h
     · rename_i z u ha
       simp only [Option.bind_eq_some_iff, Option.map_eq_some_iff] at h
       obtain ⟨m, hm, n, hn, h⟩ := h
       cases h
       exact fun x => (zet (mx := true) hs ho hc ha hm hn).does
     · cases h
   · rename_i hc
     split at h
     · rename_i z u ha
       simp only [Option.bind_eq_some_iff, Option.map_eq_some_iff] at h
       obtain ⟨m, hm, n, hn, h⟩ := h
       cases h
       exact fun x => (zet (mx := false) hs ho hc ha hm hn).does
     · cases h
   · rename_i z hc
     split at h
     · rename_i f hz
       rcases zg2 hE hI hcall hs hg ho hc hz h with ⟨d, rfl, hd⟩ | ⟨cs, rfl, hd⟩
       · exact hd
       · exact hd
     · cases h
   · cases h
 | lookup t zm zk ok =>
   rw [ho] at h
   simp only [evOp, Option.bind_eq_some_iff] at h
   obtain ⟨i, hi, h⟩ := h
   rw [hE] at hi
   split at h
   · rename_i kt et hk
     simp only [Option.bind_eq_some_iff] at h
     obtain ⟨kj, hkj, ej, hej, h⟩ := h
     rw [hE] at hkj hej
     split at h
     · rename_i r kv hkt hm hkv
       simp only [Option.bind_eq_some_iff] at h
       obtain ⟨cs, hcs, h⟩ := h
       split at h
       · rename_i hM
         simp only [Option.bind_eq_some_iff, Option.map_eq_some_iff] at h
         obtain ⟨oo, hoo, b, hb, h⟩ := h
         cases h
         cases ok with
         | false => exact fun x => (zij (ok := false) hty hs ho hi hk hkj hej hkt hm hkv (hbx _ _ hcs) hM hoo hb).does
         | true => exact fun x => (zij (ok := true) hty hs ho hi hk hkj hej hkt hm hkv (hbx _ _ hcs) hM hoo hb).does
       · cases h
     · cases h
   · cases h
 | _ => rw [ho] at h; simp only [evOp] at h; cases h
structure Fr (X : Nat) (c : Cx) (a : Act) : Prop where
 sim : Sim c a.tmps
 ghost : Ghost c a.tmps X
def OpOK (P : Program) (X : Nat) (c : Cx) (a : Act) (o : Oper) (s' : St) : Prop :=
 ∀ (K : Act → World → Prop) (Q : Exit → Act → World → Prop), (∀ a' c', c'.s = s' → Fr X c' a' → Ext c c' → a'.tmps.size = a.tmps.size → a'.defers = a.defers → K a' c'.W) → o.wp P a c.W K Q
def OpOKF (P : Program) (X : Nat) (c : Cx) (a : Act) (o : Oper) (s' : St) : Prop :=
 ∀ (K : Act → World → Prop) (Q : Exit → Act → World → Prop), (∀ a' c', c'.s = s' → Fr X c' a' → Ext c c' → a'.tmps.size = a.tmps.size → a'.defers = a.defers → (∀ g r, g < c.W.heap.size → c.ρ g = .box r → c'.W.heap[g]? = c.W.heap[g]?) → K a' c'.W) → o.wp P a c.W K Q
theorem OpOKF.ok {P : Program} {X : Nat} {c : Cx} {a : Act} {o : Oper} {s' : St} (h : OpOKF P X c a o s') : OpOK P X c a o s' := fun K Q hK => h K Q fun a' c' h1 h2 h3 h4 h5 _ => hK a' c' h1 h2 h3 h4 h5
theorem Ghost.nilH {c : Cx} {tm : Array Value} {X Y : Nat} (h : Ghost c tm X) : Ghost (c.nilH Y) tm X := ⟨h.out, h.own⟩
theorem zaY {s : St} {x X : Nat} {d : D} (h : X ≠ x) (ho : (s.t X).hasOwn = false) : ((s.put x d).t X).hasOwn = false := by
 rw [zls s d h, zaw]
 exact ho
theorem zgx {c c' : Cx} {tm : Array Value} {n : Nat} {cs : List D} {v : Value} (hs : Sim c tm) (hn : n < tm.size) (hb : c.s.b n = none) (hm : MadeBy c cs v c') :
 ∃ c1, c1.W = c'.W ∧ c1.s = (c.s.setBox (.loc n) cs).put n (.ptr (.loc n) 0) ∧ Sim c1 (tm.setIfInBounds n v) ∧ Ext c c1 := by
 have hbx : c.s.box (.loc n) = none := hb
 have hbc : c'.s.box (.loc 0) = some cs := by rw [hm.s]; rfl
 obtain ⟨vs, T, h1, h2, h3, h4⟩ := (hm.sim.boxes (.loc 0) cs hbc).out
 let c1 : Cx :=
  { ty := c.ty
    ρ := fun g => if g < c.W.heap.size then c.ρ g else match c'.ρ g with
     | .set => .set
     | .out => .out
     | .box (.loc 0) => .box (.loc n)
     | .row (.cell (.loc 0) i) => .row (.cell (.loc n) i)
     | _ => .oth
    β := fun r => match r.is (.loc n) with | true => c'.β (.loc 0) | false => c.β r
    H := fun q => match q with
     | .cell r i => (match r.is (.loc n) with | true => c'.H (.cell (.loc 0) i) | false => c.H q)
     | q => c.H q
    W := c'.W
    s := c.s.setBox (.loc n) cs }
 have hρ : ∀ g, g < c.W.heap.size → c1.ρ g = c.ρ g := fun g hg => if_pos hg
 have hρn : ∀ g, ¬ g < c.W.heap.size → c1.ρ g = match c'.ρ g with
  | .set => .set
  | .out => .out
  | .box (.loc 0) => .box (.loc n)
  | .row (.cell (.loc 0) i) => .row (.cell (.loc n) i)
  | _ => .oth := fun g hg => if_neg hg
 have hself : (Ref.loc n).is (.loc n) = true := Ref.is_eq.2 rfl
 have hne : ∀ r : Ref, r ≠ .loc n → r.is (.loc n) = false := fun r hr => by
  cases e : r.is (.loc n) with
  | true => exact absurd (Ref.is_eq.1 e) hr
  | false => rfl
 have hβ : ∀ r, r ≠ .loc n → c1.β r = c.β r := fun r hr => by simp only [c1, hne r hr]
 have hH : ∀ q, (∀ o, q ≠ .cell (.loc n) o) → c1.H q = c.H q := fun q hq => by
  cases q with
  | cell r i => simp only [c1, hne r (fun e => hq i (by rw [e]))]
  | _ => rfl
 have hsome : ∀ r, (c.s.box r).isSome = true → r ≠ .loc n := fun r hr e => by rw [e, hbx] at hr; cases hr
 have hget : ∀ q r, c.s.get q = some r → ∀ o, q ≠ .cell (.loc n) o := fun q r hq o e => by
  rw [e] at hq
  simp [St.get, hbx] at hq
 have hbs : ∀ r, r ≠ .loc n → c1.s.box r = c.s.box r := fun r hr => za3 hr
 have m : Mono c c1 Kill.none (fun q => ∃ o, q = .cell (.loc n) o) := by
  refine ⟨rfl, fun b g hr hg => ⟨by unfold Rd; rw [hρ g hg]; exact hr, (hm.old g hg).1⟩, fun q r hq _ => ⟨?_, hH q (hget q r hq)⟩, fun r hr _ => ⟨by rw [hbs r (hsome r hr)]; exact hr, hβ r (hsome r hr)⟩, fun q hq => ⟨hH q (fun o e => hq ⟨o, e⟩), fun g hg hlt => ⟨by rw [hρ g hlt]; exact hg, (hm.old g hlt).1⟩⟩⟩
  cases q with
  | slot y l => show ((D.at_ l ((c.s.setBox (.loc n) cs).t y)).row? = _); rw [setBox_tl.1]; exact hq
  | cell r' o =>
    have hne : r' ≠ .loc n := fun e => hget _ r hq o (by rw [e])
    simp only [St.get] at hq ⊢
    rw [hbs r' hne]
    exact hq
  | lent j => simp only [St.get] at hq ⊢; rw [show c1.s.l = c.s.l from setBox_tl.2]; exact hq
 have hlt : ¬ c'.β (.loc 0) < c.W.heap.size := fun h => by
  have := (hm.old _ h).2.1
  rw [h2] at this
  exact this
 have hrd : ∀ b g, Rd c'.ρ b g → g < c'.W.heap.size → Rd c1.ρ b g ∧ c1.W.heap[g]? = c'.W.heap[g]? := fun b g hr hg => by
  refine ⟨?_, rfl⟩
  by_cases hold : g < c.W.heap.size
  · have := (hm.old g hold).2.2 b hr
    unfold Rd at this ⊢
    rw [hρ g hold]
    exact this
  · unfold Rd at hr ⊢
    rw [hρn g hold]
    rcases hr with h | ⟨e, h⟩ <;> rw [h]
    · exact .inl rfl
    · exact .inr ⟨e, rfl⟩
 have hnew : BoxOK c1 (.loc n) cs := by
  have hb1 : c1.β (.loc n) = c'.β (.loc 0) := by simp only [c1, hself]
  refine ⟨vs, T, by rw [hb1]; exact h1, ?_, h3, fun i d u hd hu => ?_⟩
  · rw [hb1, hρn _ hlt]
    simp only [h2]
  · obtain ⟨h5, h6, h7⟩ := h4 i d u hd hu
    refine ⟨?_, h6, h7⟩
    have hup : zcE d = true := (List.all_eq_true.1 hm.cells) d (List.mem_of_getElem? hd)
    cases d with
    | dat dd =>
      obtain ⟨cv, h8, h9⟩ := h5
      exact ⟨cv, h8.mono hrd, h9⟩
    | own e es =>
      have hHc : c1.H (.cell (.loc n) i) = c'.H (.cell (.loc 0) i) := by simp only [c1, hself]
      refine ⟨by rw [hHc]; exact h5.1, RowAt.ok ?_⟩
      rw [hHc]
      have hrow := h5.2.at_
      refine hrow.re hm.ty.symm hrd fun g hg => ⟨?_, rfl⟩
      have hr := hrow.choose_spec.choose_spec.2.2.2 g hg
      have hold : ¬ g < c.W.heap.size := fun h => by
       have := (hm.old _ h).2.1
       rw [hr] at this
       exact this
      rw [hρn g hold]
      simp only [hr]
    | _ => cases hup
 have hsim : Sim c1 tm := Sim.setBox (r := .loc n) (cs := cs) (K := Kill.none) hs m (fun _ => rfl) (by rw [zc3]) (fun q r' hq e => e) (fun r' hne' hr' => by
  obtain ⟨cs', hb'⟩ := Option.isSome_iff_exists.1 hr'
  have hlt := (hs.boxes r' cs' hb').lt
  obtain ⟨vs', T', h5, h6, _⟩ := (hs.boxes r' cs' hb').out
  exact ⟨by rw [hρ _ hlt]; exact h6, (hm.old _ hlt).1⟩) hnew
 refine ⟨{ c1 with s := c1.s.put n (.ptr (.loc n) 0) }, rfl, rfl, ?_, ?_⟩
 · refine Sim.put (c1 := c1) hsim hn rfl ⟨rfl, fun b g h _ => ⟨h, rfl⟩, fun q r h _ => ⟨h, rfl⟩, fun r h _ => ⟨h, rfl⟩, fun q _ => ⟨rfl, fun g h _ => ⟨h, rfl⟩⟩⟩ (fun r _ => ⟨rfl, rfl, rfl⟩) ⟨?_, ?_⟩
   · show ((c.s.setBox (.loc n) cs).box (.loc n)).isSome = true
     have hb2 : Nat.beq n n = true := beq_eq.2 rfl
     simp only [St.setBox, St.box, hb2]
     rfl
   · have hbe : c1.β (.loc n) = c'.β (.loc 0) := by simp only [c1, hself]
     rw [hbe]
     exact hm.val
 · exact ⟨hm.os, hm.tape, hm.output, hm.size, fun g hg hst => ⟨hρ g hg, (hm.old g hg).1⟩, rfl, fun k => hβ (.up k) (fun e => by cases e), fun _ => rfl⟩
theorem zau {P : Program} {c : Cx} {a : Act} {o : Oper} {ef : Ef} {s' : St} {X : Nat} (hf : Fr X c a) (hd : ∀ n : Nat, o.dst = some n → n < a.tmps.size) (he : EfOK P c a o ef) (h : c.s.apply o.dst ef = some s') (K : Act → World → Prop) (Q : Exit → Act → World → Prop) (hK : ∀ a' c', c'.s = s' → Fr X c' a' → Ext c c' → Below c.W.heap.size c.W c'.W → a'.tmps.size = a.tmps.size → a'.defers = a.defers → K a' c'.W) : o.wp P a c.W K Q := by
 have hs := hf.sim
 have hX := hf.ghost
 cases ef with
 | pure d =>
   simp only [St.apply, Option.map_eq_some_iff] at h
   obtain ⟨n, hn, rfl⟩ := h
   refine he n K Q fun v c1 hg hv => ?_
   have hsim := hg.put hs (hd n hn) hv
   have hne : X ≠ n := Nat.ne_of_gt (Nat.lt_of_lt_of_le (hd n hn) hX.out)
   rw [hn]
   have e := hg.ext
   exact hK (a.put (some n) v) { c1 with s := c.s.put n d } rfl ⟨hsim, by simpa [Act.put] using hX.out, zaY hne hX.own⟩ ⟨e.os, e.tape, e.output, e.size, e.keep, e.ty, e.up, e.lentH⟩ hg.bel (by simp [Act.put]) rfl
 | new cs =>
   simp only [St.apply] at h
   cases hn : o.dst with
   | none => rw [hn] at h; cases h
   | some n =>
     rw [hn] at h
     simp only at h
     split at h
     · rename_i hb
       cases h
       obtain ⟨hM, vs, T, hr, hc⟩ := he
       obtain ⟨h1, h2⟩ := hc X hX
       obtain ⟨c1, h3, h4, h5, h6⟩ := zee (c := c.nilH X) (T := T) (zgw hs hX) hX.nilH (hd n hn) hb hM h1 h2
       unfold Oper.wp
       rw [hr]
       have hW : c1.W = c.W.alloc (.cells vs.toArray T (0, 0)) := h3
       have hne : X ≠ n := Nat.ne_of_gt (Nat.lt_of_lt_of_le (hd n hn) hX.out)
       show K (a.put o.dst _) _
       rw [← hW, hn]
       refine hK (a.put (some n) _) c1 h4 ⟨h5, by simpa [Act.put] using hX.out, ?_⟩ ((zga c X).trans h6) (by rw [hW]; exact ⟨rfl, rfl, rfl, by show c.W.heap.size ≤ (c.W.alloc _).heap.size; simp, fun k hk => Below.heap_alloc c.W _ k hk⟩) (by simp [Act.put]) rfl
       rw [h4]
       refine zaY hne ?_
       rw [setBox_tl.1]
       exact hX.own
     · cases h
 | made cs =>
   simp only [St.apply] at h
   cases hn : o.dst with
   | none => rw [hn] at h; cases h
   | some n =>
     rw [hn] at h
     simp only at h
     split at h
     · rename_i hb
       cases h
       refine he K Q fun v c' hmade => ?_
       obtain ⟨c1, h3, h4, h5, h6⟩ := zgx hs (hd n hn) hb hmade
       have hne : X ≠ n := Nat.ne_of_gt (Nat.lt_of_lt_of_le (hd n hn) hX.out)
       rw [← h3, hn]
       refine hK (a.put (some n) _) c1 h4 ⟨h5, by simpa [Act.put] using hX.out, ?_⟩ h6 (by rw [h3]; exact ⟨hmade.os, hmade.tape, hmade.output, hmade.size, fun k hk => (hmade.old k hk).1⟩) (by simp [Act.put]) rfl
       rw [h4]
       refine zaY hne ?_
       rw [setBox_tl.1]
       exact hX.own
     · cases h
theorem zhW {P : Program} {c : Cx} {a : Act} {o : Oper} {ef : Ef} {s' : St} {X : Nat} (hf : Fr X c a) (hd : ∀ n : Nat, o.dst = some n → n < a.tmps.size) (he : EfOK P c a o ef) (h : c.s.apply o.dst ef = some s') : OpOK P X c a o s' :=
 fun K Q hK => zau hf hd he h K Q fun a' c' h1 h2 h3 _ h5 h6 => hK a' c' h1 h2 h3 h5 h6
end Go.Den
namespace Go.Den
open Go Go.RowKit
set_option linter.unusedVariables false
section
variable {P : Program} {c : Cx} {a : Act} {o : Oper} {x : Nat} {X : Nat}
theorem zbW (hs : Sim c a.tmps) (z : Operand) : VW c (c.s.look z) (a.eval z) := by
 obtain ⟨h1, h2⟩ := zaf hs z (.lent 0)
 exact VW.of _ _ _ h2 h1
theorem Ext.setS {c c' : Cx} (e : Ext c c') (s : St) : Ext c { c' with s := s } := ⟨e.os, e.tape, e.output, e.size, e.keep, e.ty, e.up, e.lentH⟩
theorem Does.ok {c c' : Cx} {d : D} {s' : St} (hf : Fr X c a) (hs' : Sim c' a.tmps) (hX' : Ghost c' a.tmps X) (he : Ext c c') (hW : c'.W = c.W) (hd : ∀ n : Nat, o.dst = some n → n < a.tmps.size) (hdst : o.dst.isSome = true) (h : ∀ x, Does P c' a o x d) (hs1 : s' = c'.s.putO o.dst d) : OpOK P X c a o s' := by
 intro K Q hK
 obtain ⟨n, hn⟩ := Option.isSome_iff_exists.1 hdst
 have hlt := hd n hn
 rw [← hW]
 refine h n K Q fun v c1 hg hv => ?_
 have hsim := hg.put hs' hlt hv
 have hne : X ≠ n := Nat.ne_of_gt (Nat.lt_of_lt_of_le hlt hX'.out)
 rw [hn]
 refine hK (a.put (some n) v) { c1 with s := c'.s.put n d } (by rw [hs1, hn]; rfl) ⟨hsim, by simpa [Act.put] using hX'.out, zaY hne hX'.own⟩ ((he.trans hg.ext).setS _) (by simp [Act.put]) rfl
theorem zk4 {y : Operand} {d' : D} {s1 : St} (hf : Fr X c a) (hd : ∀ n : Nat, o.dst = some n → n < a.tmps.size) (ho : o.op = .assign y) (h : St.takeD true (c.s.look y) c.s = some (d', s1)) (ht : d'.tight true = true) : OpOK P X c a o (s1.putO o.dst d') := by
 intro K Q hK
 obtain ⟨c', h1, h2, h3, h4, h5⟩ := zbF (X := X) (c.s.look y) [] c (a.eval y) d' s1 hf.sim hf.ghost h (zbW hf.sim y) ht
 have hr : (execOp a.eval o).run P c.W = .ok (.value (a.eval y)) c'.W := by rw [h5.W]; simp [execOp, ho]
 unfold Oper.wp
 rw [hr]
 show K (a.put o.dst (a.eval y)) c'.W
 cases hn : o.dst with
 | none => exact hK a c' (by rw [h1, hn]; rfl) ⟨h2, h3⟩ h5.ext rfl rfl
 | some n =>
   have hlt := hd n hn
   obtain ⟨h6, h7⟩ := Sim.putOwned (x := n) h2 h3 hlt h4 ht
   have hne : X ≠ n := Nat.ne_of_gt (Nat.lt_of_lt_of_le hlt h3.out)
   refine hK (a.put (some n) (a.eval y)) { (c'.home X (zbB n) (ofSlot n)) with s := c'.s.put n d' } (by rw [hn, ← h1]; rfl) ⟨h6, by simpa [Act.put] using h3.out, zaY hne h3.own⟩ (h5.ext.trans h7) (by simp [Act.put]) rfl
theorem zgK {d d' : D} {s1 : St} {v : Value} {tm : Array Value} (hs : Sim c tm) (hX : Ghost c tm X) (h : St.takeD false d c.s = some (d', s1)) (hv : VW c d v) (hc : (zar d').all za2 = true) :
 ∃ c', c'.s = s1 ∧ Sim c' tm ∧ Ghost c' tm X ∧ zc8 c' X (zar d') v.cells.toList ∧ Took c c' false (zju X []) := by
 have one : ∀ e : D, za2 e = true → e.tight false = true ∧ zap e = true ∧ e.quiet = true := by
  intro e he
  cases e with
  | dat d => exact ⟨rfl, rfl, rfl⟩
  | own _ _ => exact ⟨rfl, rfl, rfl⟩
  | fn _ _ => exact ⟨rfl, rfl, rfl⟩
  | ptr _ _ => exact ⟨rfl, rfl, rfl⟩
  | etc e => cases e with
    | mark => cases he
    | vp _ _ => cases he
    | _ => exact ⟨rfl, rfl, rfl⟩
  | _ => cases he
 have single : ∀ e : D, zar e = [e] → (zar e).all za2 = true → za2 e = true := by
  intro e he h
  rw [he] at h
  simpa using h
 have fin : ∀ {c' : Cx} {e : D}, zar e = [e] → za2 e = true → VR c' (.slot X [0]) e v → zc8 c' X (zar e) v.cells.toList := by
  intro c' e he ho hv
  have hone : v.oneCell' = true := by
   cases e with
   | dat d =>
     obtain ⟨cv, h1, h2⟩ := hv
     cases d with
     | agg cs => cases ho
     | val w => rw [show cv = [v] from h2] at h1; exact h1.one rfl
     | lst b es => rw [show cv = [v] from h2] at h1; exact h1.one rfl
   | own t es =>
     obtain ⟨A, k, h1, _⟩ := hv.2.at_.head
     rw [hv.1, h1]; rfl
   | fn f cp => rw [hv.2]; rfl
   | ptr r k => rw [hv.2]; rfl
   | etc e => exact (EtcV.one hv).1
   | _ => cases ho
  have hcells : v.cells = #[v] := by cases v <;> first | rfl | cases hone
  rw [he, hcells]
  refine ⟨rfl, fun i d u hd hu => ?_⟩
  cases i <;> simp at hd hu
  subst hd hu
  exact ⟨hv, hone, (one _ ho).2.1⟩
 cases d with
 | seq t ds =>
   simp only [St.takeD, Option.map_eq_some_iff] at h
   obtain ⟨⟨ds', s2⟩, h1, h2⟩ := h
   cases h2
   cases t with
   | true =>
     have := single (.seq true ds') rfl hc
     cases this
   | false =>
     have htt : D.tights false ds' = true := by
      have hc' : ds'.all za2 = true := hc
      clear hc h1
      induction ds' with
      | nil => rfl
      | cons e ds' ih =>
        simp only [List.all_cons, Bool.and_eq_true] at hc'
        show (e.tight false && D.tights false ds') = true
        rw [(one e hc'.1).1, ih hc'.2]; rfl
     have ht : St.takeD false (.seq false ds) c.s = some (.seq false ds', s2) := by simp only [St.takeD, h1, Option.map_some]
     obtain ⟨c', h3, h4, h5, h6, h7⟩ := zbF (X := X) (.seq false ds) [] c v (.seq false ds') s2 hs hX ht hv htt
     refine ⟨c', h3, h4, h5, ?_, h7⟩
     have hc' : ds'.all za2 = true := hc
     refine zcG h6 ?_ (.inl ⟨_, rfl⟩)
     show (!false && D.quiets ds') = true
     simp only [Bool.not_false, Bool.true_and]
     clear hc h1 ht h6 htt
     induction ds' with
     | nil => rfl
     | cons e ds' ih =>
       simp only [List.all_cons, Bool.and_eq_true] at hc'
       show (e.quiet && D.quiets ds') = true
       rw [(one e hc'.1).2.2, ih hc'.2]; rfl
 | dat dd =>
   cases h
   refine ⟨c, rfl, hs, hX, ?_, Took.refl _ _ _⟩
   exact zcG (d := .dat dd) hv rfl (.inr rfl)
 | bor p n =>
   have hd' : (∃ m k, d' = .bor m k) ∨ ∃ e es, d' = .own e es := by
    simp only [St.takeD, Bool.false_and] at h
    simp only [Option.map_eq_some_iff] at h
    obtain ⟨r, _, h⟩ := h
    cases h
    exact .inr ⟨_, _, rfl⟩
   rcases hd' with ⟨m, k, rfl⟩ | ⟨e, es, rfl⟩
   · have := single (.bor m k) rfl hc
     cases this
   · obtain ⟨c', h3, h4, h5, h6, h7⟩ := zbF (X := X) (.bor p n) [0] c v (.own e es) s1 hs hX h hv rfl
     exact ⟨c', h3, h4, h5, fin rfl rfl h6, h7.weak fun q ⟨l, hl⟩ => ⟨[0] ++ l, by rw [hl]; rfl⟩⟩
 | fn f cp =>
   cases h
   exact ⟨c, rfl, hs, hX, fin rfl rfl hv, Took.refl _ _ _⟩
 | ptr r k =>
   cases h
   exact ⟨c, rfl, hs, hX, fin rfl rfl hv, Took.refl _ _ _⟩
 | etc e =>
   cases h
   have ho := single (.etc e) rfl hc
   cases e with
   | vp _ _ => cases ho
   | _ => exact ⟨c, rfl, hs, hX, fin rfl ho hv, Took.refl _ _ _⟩
 | own e es => exact hv.elim
 | bp q j k =>
   cases h
   have := single (.bp q j k) rfl hc
   cases this
 | sb q l z =>
   cases h
   have := single (.sb q l z) rfl hc
   cases this
 | ep b cs =>
   cases h
   have := single (.ep b cs) rfl hc
   cases this
 | undef =>
   cases h
   have := single .undef rfl hc
   cases this
 | junk =>
   cases h
   have := single .junk rfl hc
   cases this
theorem zjS {ds : List D} (h : ds.all za2 = true) : isM ds = false := by
 cases ds with
 | nil => rfl
 | cons d ds =>
   simp only [List.all_cons, Bool.and_eq_true] at h
   rw [zbi]
   cases d with
   | etc e => cases e with
     | mark => cases h.1
     | _ => rfl
   | _ => rfl
theorem o_box {t : TypeId} {y : Operand} {n : Nat} {d' : D} {s1 : St} (hf : Fr X c a) (hd : ∀ n : Nat, o.dst = some n → n < a.tmps.size) (hn : o.dst = some n) (ho : o.op = .box t y) (h : St.takeD false (c.s.look y) c.s = some (d', s1)) (hc : (zar d').all za2 = true) (hb : s1.b n = none) :
 OpOK P X c a o ((s1.setBox (.loc n) (zar d')).put n (.ptr (.loc n) 0)) := by
 intro K Q hK
 obtain ⟨c', h1, h2, h3, h4, h5⟩ := zgK (X := X) hf.sim hf.ghost h (zbW hf.sim y) hc
 have hr : (execOp a.eval o).run P c.W = .ok (.value (.pointer (some ⟨c.W.heap.size, 0, none⟩))) (c.W.alloc (.cells (a.eval y).cells.toList.toArray t (0, 0))) := by simp [execOp, ho, Instr.box, newVar, newRow]
 have hlt := hd n hn
 obtain ⟨c1, h6, h7, h8, h9⟩ := zee (T := t) h2 h3 hlt (by rw [h1]; exact hb) (zjS hc) h4.1 h4.2
 unfold Oper.wp
 rw [hr]
 show K (a.put o.dst _) _
 rw [h5.W] at h6 h8
 rw [← h6, hn]
 have hne : X ≠ n := Nat.ne_of_gt (Nat.lt_of_lt_of_le hlt h3.out)
 refine hK (a.put (some n) _) c1 (by rw [h7, h1]) ⟨h8, by simpa [Act.put] using h3.out, ?_⟩ (h5.ext.trans h9) (by simp [Act.put]) rfl
 rw [h7]
 refine zaY hne ?_
 rw [setBox_tl.1]
 exact h3.own
theorem zbK {tm : Array Value} : ∀ (ps : List (Nat × D)) (c : Cx) (vs : List Value) (qs : List (Nat × Dat)) (s1 : St), Sim c tm → zbL c.s ps = some (qs, s1) → vs.length = ps.length → (∀ (k : Nat) (d : Nat × D) (v : Value), ps[k]? = some d → vs[k]? = some v → VW c d.2 v) →
 ∃ c', c'.s = s1 ∧ Sim c' tm ∧ qs.length = ps.length ∧ (∀ (k : Nat) (q : Nat × Dat) (d : Nat × D) (v : Value), qs[k]? = some q → ps[k]? = some d → vs[k]? = some v → q.1 = d.1 ∧ ∃ cv, Rep c'.ρ c'.W q.2 cv ∧ IsV q.2 cv v) ∧ Took c c' false (fun _ => False) ∧ ∀ X, Ghost c tm X → Ghost c' tm X
 | [], c, vs, qs, s1, hs, h, hl, hv => by
   cases h
   exact ⟨c, rfl, hs, rfl, (fun k q d v hq => by simp at hq), Took.refl _ _ _, fun _ h => h⟩
 | (j, d) :: ps, c, [], qs, s1, hs, h, hl, hv => by cases hl
 | (j, d) :: ps, c, v :: vs, qs, s1, hs, h, hl, hv => by
   simp only [zbL, Option.bind_eq_some_iff, Option.map_eq_some_iff] at h
   obtain ⟨⟨q1, s2⟩, h1, ⟨qs1, s3⟩, h2, h⟩ := h
   cases h
   obtain ⟨c1, h3, h4, ⟨cv, h5, h5'⟩, h6, h7⟩ := zb2 d c v q1 s2 hs h1 (hv 0 (j, d) v rfl rfl)
   obtain ⟨c2, h8, h9, h10, h11, h12, h13⟩ := zbK ps c1 vs qs1 s3 h4 (by rw [h3]; exact h2) (by simpa using hl) (fun k d' u hd hu => VW.took h6 (fun _ _ _ h => h) _ _ (hv (k + 1) d' u (by simpa using hd) (by simpa using hu)))
   refine ⟨c2, h8, h9, by simp [h10], fun k q d' u hq hd hu => ?_, h6.trans h12, fun X hX => h13 X (h7 X hX)⟩
   cases k with
   | zero =>
     simp at hq hd hu
     subst hq hd hu
     exact ⟨rfl, cv, h12.rep h5, h5'⟩
   | succ k => exact h11 k q d' u (by simpa using hq) (by simpa using hd) (by simpa using hu)
theorem ziz {ps : Array (Nat × Operand)} (hs : Sim c a.tmps) : ∀ (k : Nat) (d : Nat × D) (v : Value), (zaJ c.s.look ps)[k]? = some d → (ps.toList.map fun q => a.eval q.2)[k]? = some v → VW c d.2 v := by
 intro k d v hd hv
 simp only [zaJ, List.getElem?_map, Option.map_eq_some_iff] at hd hv
 obtain ⟨q, hq, rfl⟩ := hd
 obtain ⟨q', hq', rfl⟩ := hv
 rw [hq] at hq'
 cases hq'
 exact zbW hs q.2
theorem zl9 {E : Env} {t : TypeId} {ps : Array (Nat × Operand)} {i : TI} {cs : List D} {q : List (Nat × Dat) × St} (hE : E.ty = c.ty) (hty : TyOk P c.ty) (hf : Fr X c a) (hd : ∀ n : Nat, o.dst = some n → n < a.tmps.size) (hdst : o.dst.isSome = true) (ho : o.op = .build t ps) (ht : c.ty t = some i) (ha : i.agg = true)
 (hq : zbL c.s (zaJ c.s.look ps) = some q) (h : zbX E i.fs i.zero (q.1.map fun p => (p.1, D.dat p.2)) = some cs) : OpOK P X c a o (q.2.putO o.dst (aggD cs)) := by
 obtain ⟨c', h1, h2, h3, h4, h5, h6⟩ := zbK (zaJ c.s.look ps) c (ps.toList.map fun q => a.eval q.2) q.1 q.2 hf.sim hq (by simp [zaJ]) (ziz hf.sim)
 have hE' : E.ty = c'.ty := hE.trans h5.ext.ty.symm
 refine Does.ok hf h2 (h6 X hf.ghost) h5.ext h5.W hd hdst (d := aggD cs) (fun x => (zfN hE' (by rw [h5.ext.ty]; exact hty) ho (by rw [h5.ext.ty]; exact ht) ha (by simp [h3, zaJ]) (fun k d qq hd' hq' => ?_) h).does) (by rw [h1])
 simp only [List.getElem?_map, Option.map_eq_some_iff] at hd'
 obtain ⟨e, he, rfl⟩ := hd'
 have := h4 k e (qq.1, c.s.look qq.2) (a.eval qq.2) he (by simp [zaJ, hq']) (by simp [hq'])
 exact ⟨this.1.symm, this.2, rfl, rfl⟩
theorem zh5 {E : Env} {t : TypeId} {ps : Array (Nat × Operand)} {i : TI} {n : Nat} {s' : St} (hE : E.ty = c.ty) (hty : TyOk P c.ty) (hf : Fr X c a) (hd : ∀ n : Nat, o.dst = some n → n < a.tmps.size) (hdst : o.dst = some n) (ho : o.op = .build t ps) (ht : c.ty t = some i) (ha : i.agg = true)
 (h : zfq E c.s n i (zaJ c.s.look ps) = some s') : OpOK P X c a o s' := by
 unfold zfq at h
 split at h
 · rename_i hq
   simp only [Option.map_eq_some_iff] at h
   obtain ⟨cs, hcs, rfl⟩ := h
   intro K Q hK
   have hlt := hd n hdst
   obtain ⟨v, c1, h0, h1, h2, h3⟩ := zjg (P := P) (x := n) (T := fun _ => True) hE hty hf.sim ho ht ha hq hcs
   have hsim := h2.put hf.sim hlt h3
   have hne : X ≠ n := Nat.ne_of_gt (Nat.lt_of_lt_of_le hlt hf.ghost.out)
   have e := h2.ext
   unfold Oper.wp
   rw [h1 c.W trivial]
   show K (a.put o.dst v) c.W
   rw [← h0]
   exact hK (a.put o.dst v) { c1 with s := c.s.put n (aggD cs) } rfl ⟨by rw [hdst]; exact hsim, by simpa [hdst, Act.put] using hf.ghost.out, zaY hne hf.ghost.own⟩ ⟨e.os, e.tape, e.output, e.size, e.keep, e.ty, e.up, e.lentH⟩ (by rw [hdst]; simp [Act.put]) (by rw [hdst]; rfl)
 · cases h
theorem zgL {t e : TypeId} {n : Nat} {ps : Array (Nat × Operand)} {q : List (Nat × Dat) × St} {i j : TI} {z : Dat} (hty : TyOk P c.ty) (hf : Fr X c a) (hd : ∀ n : Nat, o.dst = some n → n < a.tmps.size) (hdst : o.dst.isSome = true) (ho : o.op = .buildSlice t n ps) (ht : c.ty t = some i) (hk : i.kind = .slice e) (hj : c.ty e = some j) (hz : j.zeroD = some z)
 (hq : zbL c.s (zaJ c.s.look ps) = some q) (hall : (q.1.all (fun p => Nat.blt p.1 n && Nat.beq p.2.cells.length j.sz) && (Nat.blt 0 j.sz && Nat.ble (n * j.sz) 16777216)) = true) : OpOK P X c a o (q.2.putO o.dst (.own e (zbs (List.replicate n z) q.1))) := by
 obtain ⟨c', h1, h2, h3, h4, h5, h6⟩ := zbK (zaJ c.s.look ps) c (ps.toList.map fun q => a.eval q.2) q.1 q.2 hf.sim hq (by simp [zaJ]) (ziz hf.sim)
 refine Does.ok hf h2 (h6 X hf.ghost) h5.ext h5.W hd hdst (fun x => (zjF (c := c') (by rw [h5.ext.ty]; exact hty) ho (by rw [h5.ext.ty]; exact ht) hk (by rw [h5.ext.ty]; exact hj) hz (by simp [h3, zaJ]) (fun k d qq hd' hq' => ?_) hall).does) (by rw [h1])
 have := h4 k d (qq.1, c.s.look qq.2) (a.eval qq.2) hd' (by simp [zaJ, hq']) (by simp [hq'])
 exact ⟨this.1.symm, this.2⟩
theorem zmd {t : TypeId} {z : Operand} {lo hi : Option Operand} {st : Option Nat} {l h : Option Int} {d : D} {p : Pl} {n : Option Nat} {q : List Dat × St} (hty : TyOk P c.ty) (hf : Fr X c a) (hdd : ∀ n : Nat, o.dst = some n → n < a.tmps.size) (hdst : o.dst.isSome = true) (ho : o.op = .slice t z lo hi none)
 (ht : zcr c.ty t = some st) (hl : zci c.s.look lo = some l) (hh : zci c.s.look hi = some h) (hz : c.s.look z = .bor p n) (hq : c.s.stamp p = some q) (hd : zb0 st l h (.dat (.lst false (zaT n q.1))) = some d) : OpOK P X c a o (q.2.putO o.dst d) := by
 have hv := zbW hf.sim z
 rw [hz] at hv
 obtain ⟨c', h1, h2, h3, h4, h5⟩ := zhl hf.sim hq hv
 refine Does.ok hf h2 (h5 X hf.ghost) h4.ext h4.W hdd hdst (fun x => Yields.does ?_) (by rw [h1])
 obtain ⟨r, h6, h7⟩ := zkw (c := c') (P := P) (p := .slot x []) (by rw [h4.ext.ty]; exact hty) (by rw [h4.ext.ty]; exact ht) (show VR c' (.lent 0) (.dat (.lst false (zaT n q.1))) (a.eval z) from ⟨_, h3, rfl⟩) hd
 refine Yields.same (v := r) ?_ h7
 simp [execOp, ho, zdy hf.sim hl, zdy hf.sim hh, h6]
end
end Go.Den
