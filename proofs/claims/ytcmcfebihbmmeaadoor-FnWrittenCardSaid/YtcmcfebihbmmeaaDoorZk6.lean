/- Merged out of: D34 Dt E0 UA UB E1 E2 E3 E4 EA EB EC E6 (prune.py, a program of this work's). -/
import Derived.Test.YtcmcfebihbmmeaaDoorZk5
import Derived.Test.YtcmcfebihbmmeaaDoorZk1
import Derived.KernelRfl
import Derived.IntWalk
set_option linter.unusedVariables false
set_option linter.unusedSimpArgs false
set_option linter.unnecessarySimpa false
namespace Go.Den
open Go
set_option linter.unusedVariables false
abbrev Res := List D × List (List D) × List (Option Row)
def hrun (C : Cfg) (n : Nat) (call : Nat → List D → List (List D) → List (Option Row) → Option Res) (hs : zcU) (f : Nat) (fn : Func) (args : List D) (u : List (List D)) (l : List (Option Row)) : Option (List Prop × Res) :=
 match fn.body with
 | none => none
 | some c => match zcu ⟨C.ty, C.mode, fn.ntmps, C.live f, C.out f, C.plan f, call⟩ n hs c (start args u l) with
   | some (_, .exit _, _) => none
   | some (ps, _, s) => (zpo C.ty (C.liv f) fn.results.toList u l s).map fun r => (ps, r)
   | none => none
theorem zk3 {C : Cfg} {n : Nat} {call : Nat → List D → List (List D) → List (Option Row) → Option Res} (hs : zcU) {f : Nat} {fn : Func} {args : List D} {u : List (List D)} {l : List (Option Row)} {q : List Prop × Res} (h : hrun C n call hs f fn args u l = some q) (hq : Obs q.1) : zaj C n call f fn args u l = some q.2 := by
 unfold hrun at h
 unfold zaj
 split at h
 · cases h
 · rename_i c hc
   rw [hc]
   simp only
   split at h
   · cases h
   · rename_i ps x s hne he
     simp only [Option.map_eq_some_iff] at h
     obtain ⟨r, hr, h⟩ := h
     cases h
     have := za1 _ _ _ he hq
     rw [this]
     cases x with
     | exit i => exact (hne _ rfl).elim
     | normal => simp only [hr]
     | ret => simp only [hr]
   · cases h
theorem zab {C : Cfg} {n : Nat} {call : Nat → List D → List (List D) → List (Option Row) → Option Res} (hs : zcU) {f : Nat} {fn : Func} {args : List D} {u : List (List D)} {l : List (Option Row)} {ps : List Prop} {r : Res} (hq : Obs ps) (h : hrun C n call hs f fn args u l = some (ps, r)) : zaj C n call f fn args u l = some r := zk3 hs h hq
theorem ob0 : Obs [] := trivial
theorem ob {p : Prop} {l : List Prop} (h : p) (hl : Obs l) : Obs (p :: l) := ⟨h, hl⟩
theorem obT {p : Prop} (h : p) : true = true ∧ p := ⟨rfl, h⟩
def zf8 (r : Nat) : Code → Option Code
 | .seq a b => match zf8 r a with | some c => some c | none => zf8 r b
 | .cond _ a b => match zf8 r a with | some c => some c | none => zf8 r b
 | .block _ a => zf8 r a
 | .loop a => match Nat.beq (zaa a) r with | true => some a | false => zf8 r a
 | _ => none
def lp (fn : Func) (r : Nat) : Code := match fn.body with | some c => (zf8 r c).getD .skip | none => .skip
def zad (C : Cfg) (k f : Nat) (fn : Func) : Env := ⟨C.ty, C.mode, fn.ntmps, C.live f, C.out f, C.plan f, den C k⟩
def zao (C : Cfg) (k f : Nat) (fn : Func) (r : Nat) (s0 : St) (x : X) (s' : St) : Prop := zlS (zad C k f fn) k (lp fn r) s0 x s'
section
variable {E : Env} {n m : Nat} {c : Code} {L : List Nat} {s s0 s1 s2 : St} {ps : List Prop} {hs : zcU}
def stOf (r : Option (List Prop × X × St)) : St := match r with | some q => q.2.2 | none => start [] [] []
def zoy (r : Option (List Prop × X × St)) : Option (List Prop × X) := match r with | some q => some (q.1, q.2.1) | none => none
def zae (E : Env) (n : Nat) (c : Code) (m : Nat) (s : St) (K : X → St → Prop) : Prop := ∃ x s1, iter (exec E n c) (St.norm (E.live (zaa c))) m s = some (x, s1) ∧ K x (s1.norm (E.out (zaa c)))
theorem zgG {r : Option (List Prop × X × St)} {p : List Prop × X} (h : zoy r = some p) : r = some (p.1, p.2, stOf r) := by
 unfold zoy at h
 split at h
 · cases h; rfl
 · cases h
theorem zag {K : X → St → Prop} (hs : zcU) (hL : s.norm (E.live (zaa c)) = s0) (h : zoy (zcu E n hs c s0) = some (ps, .normal)) (ho : Obs ps) (hst : nmOf (E.live (zaa c)) (stOf (zcu E n hs c s0)) = s2) (hn : ∀ s, s.norm (E.live (zaa c)) = s2 → zae E n c m s K) : zae E n c (m + 1) s K := by
 obtain ⟨x, s1, h1, h2⟩ := hn (stOf (zcu E n hs c s0)) ((ziT _ _).trans hst)
 have := za1 _ _ _ (zgG h) ho
 refine ⟨x, s1, ?_, h2⟩
 simp only [iter, hL, this]
 exact h1
theorem zam {K : X → St → Prop} {x : X} (hs : zcU) (hL : s.norm (E.live (zaa c)) = s0) (h : zoy (zcu E n hs c s0) = some (ps, x)) (hx : (match x with | .normal => false | _ => true) = true) (ho : Obs ps) (hst : nmOf (E.out (zaa c)) (stOf (zcu E n hs c s0)) = s2) (hK : K x s2) : zae E n c (m + 1) s K := by
 have := za1 _ _ _ (zgG h) ho
 refine ⟨x, stOf (zcu E n hs c s0), ?_, by rw [ziT, hst]; exact hK⟩
 simp only [iter, hL, this]
 cases x with
 | normal => cases hx
 | _ => rfl
theorem zjH {K : X → St → Prop} (h : zae E n c n s K) : ∃ x s', exec E n (.loop c) s = some (x, s') ∧ K x s' := by
 obtain ⟨x, s1, h1, h2⟩ := h
 exact ⟨x, _, by simp only [exec, h1, Option.map_some], h2⟩
theorem zcj {x : X} (h : ∀ s : St, s.norm (E.live (zaa c)) = s0 → zae E n c n s (fun x' s' => x' = x ∧ s' = s1)) : zlS E n c s0 x s1 := fun s hL => by
 obtain ⟨x', s', h1, rfl, rfl⟩ := zjH (h s hL)
 exact h1
end
end Go.Den
namespace Go.Den
open Go
abbrev I (n : Int) : Dat := .val (.int .i64 n)
abbrev B (b : Bool) : Dat := .val (.bool b)
abbrev S (s : ByteArray) : Dat := .val (.string s)
abbrev U64 (n : Int) : Dat := .val (.int .u64 n)
abbrev Y8 (n : Int) : Dat := .val (.int .u8 n)
abbrev w64 (n : Int) : Int := IntKind.i64.wrap n
abbrev T (k n : Int) (ds : List Dat) : Dat := .agg [I k, I n, .lst false ds]
abbrev N3 (a b c : Int) : Dat := .agg [I a, I b, I c]
end Go.Den
namespace Go.Den
open Go
set_option linter.unusedVariables false
set_option maxRecDepth 100000
theorem zkM {α : Type} {f : Nat} : ∀ {l : List (Nat × α)}, memN f (l.map (·.1)) = false → zda l f = none
 | [], _ => rfl
 | (a, x) :: l, h => by
   simp only [List.map_cons, memN] at h
   unfold zda
   split at h
   · cases h
   · rename_i hb
     have hab : Nat.beq a f = false := by
      cases hc : Nat.beq a f with
      | false => rfl
      | true =>
        have := Nat.eq_of_beq_eq_true hc
        subst this
        have hr : Nat.beq a a = true := Nat.beq_refl a
        rw [hr] at hb
        cases hb
     rw [hab]
     exact zkM h
theorem zop : extsOf.map (·.1) = zmV := by rfl
theorem noExt {f : Nat} {fn : Func} (h : cfg.fn f = some fn) (hb : memN f zhp = false) : cfg.ext f = none := by
 unfold cfg at h ⊢
 simp only at h ⊢
 split at h
 · rename_i hbb
   simp only [Bool.and_eq_true, Bool.or_eq_true, Bool.not_eq_true', hb, Bool.false_eq_true, or_false] at hbb
   exact zkM (by rw [zop]; exact hbb.2)
 · cases h
def EvN (N f : Nat) (args : List D) (u : List (List D)) (l : List (Option Row)) (r : Res) : Prop := ∀ k, N ≤ k → den cfg k f args u l = some r
theorem EvN.mono {N M f : Nat} {args : List D} {u : List (List D)} {l : List (Option Row)} {r : Res} (h : EvN N f args u l r) (hNM : N ≤ M) : EvN M f args u l r := fun k hk => h k (by omega)
theorem zaw {f : Nat} (fn : Func) {args : List D} {u : List (List D)} {l : List (Option Row)} {r : Res} (N : Nat) (hf : cfg.fn f = some fn) (hl : Nat.ble args.length fn.ntmps = true) (h : ∀ kk, N ≤ kk → zaj cfg kk (den cfg kk) f fn args u l = some r) (hb : memN f zhp = false := by kernel_rfl) : EvN (N + 1) f args u l r := fun k hk => by
 obtain ⟨m, rfl⟩ : ∃ m, k = m + 1 := ⟨k - 1, by omega⟩
 simp only [den, noExt hf hb, Option.bind_none, hf, hl]
 exact h m (by omega)
theorem zbm {n : Int} (h : -9223372036854775808 ≤ n ∧ n ≤ 9223372036854775807) : w64 n = n := by show IntKind.i64.wrap n = n; rw [IntKind.wrap_i64]; omega
theorem zeu {E : Env} {kk : Nat} {c : Code} {K : X → St → Prop} (st : Nat → St) (n : Nat)
 (hgo : ∀ i, i < n → ∀ (m : Nat) (s : St), s.norm (E.live (zaa c)) = st i → (∀ s : St, s.norm (E.live (zaa c)) = st (i + 1) → zae E kk c m s K) → zae E kk c (m + 1) s K)
 (hend : ∀ (m : Nat) (s : St), s.norm (E.live (zaa c)) = st n → zae E kk c (m + 1) s K) : ∀ (d i m : Nat), i + d = n → d < m → ∀ s : St, s.norm (E.live (zaa c)) = st i → zae E kk c m s K
 | 0, i, m, hi, hm, s, hs => by
   obtain ⟨m, rfl⟩ : ∃ k, m = k + 1 := ⟨m - 1, by omega⟩
   have : i = n := by omega
   subst this
   exact hend m s hs
 | d + 1, i, m, hi, hm, s, hs => by
   obtain ⟨m, rfl⟩ : ∃ k, m = k + 1 := ⟨m - 1, by omega⟩
   exact hgo i (by omega) m s hs fun s' hs' => zeu st n hgo hend d (i + 1) m (by omega) (by omega) s' hs'
theorem za3 {kk f : Nat} {fn : Func} {r : Nat} {x : X} {s' : St} (st : Nat → St) (n : Nat) (hk : n < kk)
 (hgo : ∀ i, i < n → ∀ (m : Nat) (s : St) (K : X → St → Prop), s.norm ((zad cfg kk f fn).live (zaa (lp fn r))) = st i → (∀ s : St, s.norm ((zad cfg kk f fn).live (zaa (lp fn r))) = st (i + 1) → zae (zad cfg kk f fn) kk (lp fn r) m s K) → zae (zad cfg kk f fn) kk (lp fn r) (m + 1) s K)
 (hend : ∀ (m : Nat) (s : St) (K : X → St → Prop), s.norm ((zad cfg kk f fn).live (zaa (lp fn r))) = st n → K x s' → zae (zad cfg kk f fn) kk (lp fn r) (m + 1) s K) {s0 : St} (h0 : s0 = st 0) : zao cfg kk f fn r s0 x s' :=
 zcj fun s hs => zeu st n (fun i hi m s hs hn => hgo i hi m s _ hs hn) (fun m s hs => hend m s _ hs ⟨rfl, rfl⟩) n 0 kk (by omega) hk s (by rw [hs, h0])
theorem zfC {α : Type} (p : α → Bool) : ∀ {ks : List α}, ks.all p = false → ∃ (j : Nat) (x : α), ks[j]? = some x ∧ p x = false ∧ ∀ i y, i < j → ks[i]? = some y → p y = true
 | [], h => by cases h
 | y :: ks, h => by
   cases hy : p y with
   | false => exact ⟨0, y, rfl, hy, fun i y hi => by omega⟩
   | true =>
     rw [List.all_cons, hy, Bool.true_and] at h
     obtain ⟨j, x, h1, h2, h3⟩ := zfC p h
     refine ⟨j + 1, x, by simpa using h1, h2, fun i z hi hz => ?_⟩
     cases i with
     | zero => simp at hz; rw [← hz]; exact hy
     | succ i => exact h3 i z (by omega) (by simpa using hz)
theorem zeI {kk f : Nat} {fn : Func} {r : Nat} {x1 x2 : X} {s1 : St} {s2 : Nat → St} (st : Nat → St) (chk : Nat → Bool) (n : Nat) (hk : n < kk)
 (hr : ∀ i, i < n → (∀ j, j < i → chk j = true) → ∀ (m : Nat) (s : St) (K : X → St → Prop), s.norm ((zad cfg kk f fn).live (zaa (lp fn r))) = st i → (chk i = true → ∀ s : St, s.norm ((zad cfg kk f fn).live (zaa (lp fn r))) = st (i + 1) → zae (zad cfg kk f fn) kk (lp fn r) m s K) → (chk i = false → K x2 (s2 i)) → zae (zad cfg kk f fn) kk (lp fn r) (m + 1) s K)
 (hend : (∀ j, j < n → chk j = true) → ∀ (m : Nat) (s : St) (K : X → St → Prop), s.norm ((zad cfg kk f fn).live (zaa (lp fn r))) = st n → K x1 s1 → zae (zad cfg kk f fn) kk (lp fn r) (m + 1) s K) {s0 : St} (h0 : s0 = st 0) :
 ((List.range n).all chk = true → zao cfg kk f fn r s0 x1 s1) ∧ (∀ i, i < n → (∀ j, j < i → chk j = true) → chk i = false → zao cfg kk f fn r s0 x2 (s2 i)) := by
 refine ⟨fun hall => ?_, fun i hi hch hc => ?_⟩
 · have hch : ∀ j, j < n → chk j = true := fun j hj => (List.all_eq_true.1 hall) j (List.mem_range.2 hj)
   exact za3 st n hk (fun i hi m s K hs hn => hr i hi (fun j hj => hch j (by omega)) m s K hs (fun _ => hn) (fun h => by rw [hch i hi] at h; cases h)) (fun m s K hs hK => hend hch m s K hs hK) h0
 · exact za3 st i (by omega) (fun j hj m s K hs hn => hr j (by omega) (fun q hq => hch q (by omega)) m s K hs (fun _ => hn) (fun h => by rw [hch j hj] at h; cases h)) (fun m s K hs hK => hr i hi hch m s K hs (fun h => by rw [hc] at h; cases h) (fun _ => hK)) h0
theorem zk5 {kk f : Nat} {fn : Func} {r : Nat} {x1 x2 : X} {s1 s2 : St} (st : Nat → St) (chk : Nat → Bool) (n : Nat) (hk : n < kk)
 (hr : ∀ i, i < n → (∀ j, j < i → chk j = true) → ∀ (m : Nat) (s : St) (K : X → St → Prop), s.norm ((zad cfg kk f fn).live (zaa (lp fn r))) = st i → (chk i = true → ∀ s : St, s.norm ((zad cfg kk f fn).live (zaa (lp fn r))) = st (i + 1) → zae (zad cfg kk f fn) kk (lp fn r) m s K) → (chk i = false → K x2 s2) → zae (zad cfg kk f fn) kk (lp fn r) (m + 1) s K)
 (hend : (∀ j, j < n → chk j = true) → ∀ (m : Nat) (s : St) (K : X → St → Prop), s.norm ((zad cfg kk f fn).live (zaa (lp fn r))) = st n → K x1 s1 → zae (zad cfg kk f fn) kk (lp fn r) (m + 1) s K) {s0 : St} (h0 : s0 = st 0) :
 ((List.range n).all chk = true → zao cfg kk f fn r s0 x1 s1) ∧ ((List.range n).all chk = false → zao cfg kk f fn r s0 x2 s2) := by
 obtain ⟨h1, h2⟩ := zeI (s2 := fun _ => s2) st chk n hk hr hend h0
 refine ⟨h1, fun hall => ?_⟩
 obtain ⟨j, q, h3, h4, h5⟩ := zfC chk hall
 have hj : j < n := by
  have := (List.getElem?_eq_some_iff.1 h3).1
  simpa using this
 have hqj : q = j := by
  rw [List.getElem?_range hj] at h3
  exact (Option.some.inj h3).symm
 subst hqj
 exact h2 q hj (fun i hi => h5 i i hi (List.getElem?_range (by omega))) h4
theorem zp8 {n : Nat} {d : Dat} {i : TI} {k : IntKind} (h : WT cfg.ty n d) (ht : cfg.ty n = some i) (hk : i.kind = .int k) : ∃ x : Int, d = .val (.int k x) ∧ (Lit.int k x).wf = true := by
 cases h with
 | @int _ i' k' x ht' hk' hw => rw [ht] at ht'; cases ht'; rw [hk] at hk'; cases hk'; exact ⟨x, rfl, hw⟩
 | bool ht' hk' => rw [ht] at ht'; cases ht'; rw [hk] at hk'; cases hk'
 | str ht' hk' => rw [ht] at ht'; cases ht'; rw [hk] at hk'; cases hk'
 | lst ht' hk' => rw [ht] at ht'; cases ht'; rw [hk] at hk'; cases hk'
 | agg ht' hk' => rw [ht] at ht'; cases ht'; rw [hk] at hk'; cases hk'
theorem zqa {n e : Nat} {d : Dat} {i : TI} (h : WT cfg.ty n d) (ht : cfg.ty n = some i) (hk : i.kind = .slice e) : ∃ es : List Dat, d = .lst false es ∧ es.length ≤ maxLen ∧ ∀ x ∈ es, WT cfg.ty e x := by
 cases h with
 | int ht' hk' => rw [ht] at ht'; cases ht'; rw [hk] at hk'; cases hk'
 | bool ht' hk' => rw [ht] at ht'; cases ht'; rw [hk] at hk'; cases hk'
 | str ht' hk' => rw [ht] at ht'; cases ht'; rw [hk] at hk'; cases hk'
 | @lst _ i' e' es ht' hk' hl hx => rw [ht] at ht'; cases ht'; rw [hk] at hk'; cases hk'; exact ⟨es, rfl, hl, hx⟩
 | agg ht' hk' => rw [ht] at ht'; cases ht'; rw [hk] at hk'; cases hk'
end Go.Den
namespace Go.Den
open Go
abbrev fW (o : Int) (c : List Dat) (r : List Dat) (n : List Dat) (b : List Dat) (m : Int) (u : Int) (f : Bool) : List D := [D.dat (I o), D.own 97 c, D.own 3 r, D.own 3 n, D.own 5 b, D.dat (I m), D.dat (I u), D.dat (B f)]
abbrev fL (o : Int) (c : List Dat) (r : List Dat) (n : List Dat) (m : Int) (u : Int) (e : Bool) (f : Bool) (t : ByteArray) : List D := [D.dat (I o), D.own 97 c, D.own 3 r, D.own 3 n, D.dat (I m), D.dat (I u), D.dat (B e), D.dat (B f), D.dat (Dat.val (Value.string t))]
abbrev fY (o : Int) (c : List Dat) (r : List Dat) (n : List Dat) : List D := [D.dat (I o), D.own 97 c, D.own 3 r, D.own 3 n]
abbrev fB (b : Bool) (o : Int) (c : List Dat) (r : List Dat) (n : List Dat) : List D := [D.dat (I o), D.dat (Dat.lst b c), D.dat (Dat.lst b r), D.dat (Dat.lst b n)]
abbrev fC (c : List Dat) (p : Int) (u : Int) : List D := [D.dat (Dat.lst false c), D.dat (I p), D.dat (Dat.val (Value.int IntKind.u64 u))]
abbrev fD (k f : Nat) (a r : List D) : Prop := den cfg k f a [] [] = some (r, [], [])
abbrev fU (k f : Nat) (a : List D) (u : List (List D)) (r : List D) (v : List (List D)) : Prop := den cfg k f a u [] = some (r, v, [])
open Go
set_option linter.unusedVariables false
set_option maxRecDepth 100000
theorem zpy (kk : Nat) (cs : List Dat) (p u : Int) (x : Int) (h1 : decide (p < (cs.length : Int)) = true) (h2 : (0 ≤ p ∧ p < (cs.length : Int)) ∧ cs[p.toNat]? = some (Dat.val (Value.int IntKind.u8 x))) (h3 : decide (w64 (p + 1) ≤ (cs.length : Int)) = true) : zaj cfg kk (den cfg kk) 80 Go.Proofs.Tryd.f80 [.ptr (.up 0) 0] [(fC cs p u)] [] = some ([D.dat (I (w64 x))], [(fC cs (w64 (p + 1)) (IntKind.u64.wrap (IntKind.u64.wrap (IntKind.u64.wrap (u * 6364136223846793005) + IntKind.u64.wrap (w64 x)) + 1442695040888963407)))], []) :=
 zab [(200013, .yes), (22, .at (Y8 x)), (200053, .yes)] (ob h1 (ob h2 (ob h3 ob0))) (by kernel_rfl)
theorem zoj (kk : Nat) (cs : List Dat) (p u : Int) (h1 : decide (p < (cs.length : Int)) = false) (h2 : decide (w64 (p + 1) ≤ (cs.length : Int)) = false) : zaj cfg kk (den cfg kk) 80 Go.Proofs.Tryd.f80 [.ptr (.up 0) 0] [(fC cs p u)] [] = some ([D.dat (Dat.val (Value.int IntKind.i64 (w64 (IntKind.u64.wrap ((BitVec.ofInt IntKind.u64.bits ((IntKind.u64.wrap (IntKind.u64.wrap (IntKind.u64.wrap (u * 6364136223846793005) + IntKind.u64.wrap 0) + 1442695040888963407)).fdiv (2 ^ min (Int.toNat 40) IntKind.u64.bits)) &&& BitVec.ofInt IntKind.u64.bits 255).toNat : Int)))))], [(fC cs (w64 (p + 1)) (IntKind.u64.wrap (IntKind.u64.wrap (IntKind.u64.wrap (u * 6364136223846793005) + IntKind.u64.wrap 0) + 1442695040888963407)))], []) :=
 zab [(200013, .no), (200053, .no)] (ob h1 (ob h2 ob0)) (by kernel_rfl)
theorem zqC (kk : Nat) (cs : List Dat) (p u : Int) (n : Int) (h1 : decide (n ≤ 1) = true) : zaj cfg kk (den cfg kk) 54 Go.Proofs.Tryd.f54 [.ptr (.up 0) 0, .dat (I n)] [(fC cs p u)] [] = some ([D.dat (I 0)], [(fC cs p u)], []) :=
 zab [(200007, .yes)] (ob h1 ob0) (by kernel_rfl)
theorem zqd (kk : Nat) (cs : List Dat) (p u : Int) (p1 u1 : Int) (n z : Int) (h1 : decide (n ≤ 1) = false) (h2 : fU kk 80 [D.ptr (Ref.up 0) 0] [(fC cs p u)] [D.dat (I z)] [(fC cs p1 u1)]) (h4 : decide (200 < n) = false) (h5 : n ≠ 0) : zaj cfg kk (den cfg kk) 54 Go.Proofs.Tryd.f54 [.ptr (.up 0) 0, .dat (I n)] [(fC cs p u)] [] = some ([D.dat (I (z.tmod n))], [(fC cs p1 u1)], []) :=
 zab [(200007, .no), (9, .back [.dat (I z)] [(fC cs p1 u1)] []), (200011, .no), (19, .ok)] (ob h1 (ob h2 (ob (rfl : false = false) (ob h4 (ob h5 ob0))))) (by kernel_rfl)
theorem zp3 (kk : Nat) (cs : List Dat) (p u : Int) (p1 u1 : Int) (p2 u2 : Int) (n z w : Int) (h1 : decide (n ≤ 1) = false) (h2 : fU kk 80 [D.ptr (Ref.up 0) 0] [(fC cs p u)] [D.dat (I z)] [(fC cs p1 u1)]) (h4 : decide (200 < n) = true) (h5 : fU kk 80 [D.ptr (Ref.up 0) 0] [(fC cs p1 u1)] [D.dat (I w)] [(fC cs p2 u2)]) (h7 : n ≠ 0) : zaj cfg kk (den cfg kk) 54 Go.Proofs.Tryd.f54 [.ptr (.up 0) 0, .dat (I n)] [(fC cs p u)] [] = some ([D.dat (Dat.val (Value.int IntKind.i64 ((w64 (w64 (z * 256) + w)).tmod n)))], [(fC cs p2 u2)], []) :=
 zab [(200007, .no), (9, .back [.dat (I z)] [(fC cs p1 u1)] []), (200011, .yes), (15, .back [.dat (I w)] [(fC cs p2 u2)] []), (19, .ok)] (ob h1 (ob h2 (ob (rfl : false = false) (ob h4 (ob h5 (ob (rfl : false = false) (ob h7 ob0))))))) (by kernel_rfl)
theorem one_ (kk : Nat) (cs : List Dat) (p u : Int) (p1 u1 : Int) (n z : Int) (h1 : fU kk 54 [D.ptr (Ref.up 0) 0, D.dat (I n)] [(fC cs p u)] [D.dat (I z)] [(fC cs p1 u1)]) : zaj cfg kk (den cfg kk) 55 Go.Proofs.Tryd.f55 [.ptr (.up 0) 0, .dat (I n)] [(fC cs p u)] [] = some ([D.dat (B (decide (z = 0)))], [(fC cs p1 u1)], []) :=
 zab [(7, .back [.dat (I z)] [(fC cs p1 u1)] [])] (ob h1 (ob (rfl : false = false) ob0)) (by kernel_rfl)
theorem among (kk : Nat) (cs : List Dat) (p u : Int) (p1 u1 : Int) (b : Bool) (es : List Dat) (z v : Int) (h1 : fU kk 54 [D.ptr (Ref.up 0) 0, D.dat (I (es.length : Int))] [(fC cs p u)] [D.dat (I z)] [(fC cs p1 u1)]) (h3 : (0 ≤ z ∧ z < (es.length : Int)) ∧ es[z.toNat]? = some (I v)) : zaj cfg kk (den cfg kk) 69 Go.Proofs.Tryd.f69 [.ptr (.up 0) 0, .dat (Dat.lst b es)] [(fC cs p u)] [] = some ([D.dat (I v)], [(fC cs p1 u1)], []) :=
 zab [(9, .back [.dat (I z)] [(fC cs p1 u1)] []), (10, .at (I v))] (ob h1 (ob (rfl : false = false) (ob h3 ob0))) (by kernel_rfl)
def hd68 (cs : List Dat) (out : List Dat) (n p u i : Int) : St := Nm [0, 3, 4, 5] [.ptr (.up 0) 0, .own 72 out, .dat (I n), .dat (I i)] [none, none, none, none] [(fC cs p u)] []
theorem zhg (kk m : Nat) {s : St} {K : X → St → Prop} (cs : List Dat) (out : List Dat) (n i k a b k2 a2 b2 : Int) (g : Bool) (p u : Int) (p1 u1 : Int) (p2 u2 : Int) (p3 u3 : Int) (p4 u4 : Int) (p5 u5 : Int) (p6 u6 : Int) (p7 u7 : Int) (hs : s.norm ((zad cfg kk 68 Go.Proofs.Tryd.f68).live (zaa (lp Go.Proofs.Tryd.f68 6))) = hd68 cs out n p u i) (q1 : (decide (i < n) = true) → (g = true) → (fU kk 69 [D.ptr (Ref.up 0) 0, D.dat (Dat.lst true [I 1, I 1, I 2, I 2, I 3, I 4, I 5, I 5, I 6, I 6, I 7, I 7, I 8, I 8, I 9, I 10, I 11])] [(fC cs p u)] [D.dat (I k)] [(fC cs p1 u1)]) ∧ ((true && !(true && (true && zax [(fC cs p1 u1)])) || false) = false) ∧ (fU kk 54 [D.ptr (Ref.up 0) 0, D.dat (I 6)] [(fC cs p1 u1)] [D.dat (I a)] [(fC cs p2 u2)]) ∧ (fU kk 54 [D.ptr (Ref.up 0) 0, D.dat (I 6)] [(fC cs p2 u2)] [D.dat (I b)] [(fC cs p3 u3)]) ∧ (fU kk 55 [D.ptr (Ref.up 0) 0, D.dat (I 40)] [(fC cs p3 u3)] [D.dat (B g)] [(fC cs p4 u4)]) ∧ (fU kk 54 [D.ptr (Ref.up 0) 0, D.dat (I 13)] [(fC cs p4 u4)] [D.dat (I k2)] [(fC cs p5 u5)]) ∧ (fU kk 69 [D.ptr (Ref.up 0) 0, D.dat (Dat.lst true [I (-1), I 60, I 5])] [(fC cs p5 u5)] [D.dat (I a2)] [(fC cs p6 u6)]) ∧ ((true && !(true && (true && zax [(fC cs p6 u6)])) || false) = false) ∧ (fU kk 54 [D.ptr (Ref.up 0) 0, D.dat (I 3)] [(fC cs p6 u6)] [D.dat (I b2)] [(fC cs p7 u7)]) ∧ (out.length + 1 ≤ 2147483648) ∧ (∀ s : St, s.norm ((zad cfg kk 68 Go.Proofs.Tryd.f68).live (zaa (lp Go.Proofs.Tryd.f68 6))) = Nm [0, 3, 4, 5] [D.ptr (Ref.up 0) 0, D.own 72 (out ++ [N3 k2 a2 b2]), D.dat (I n), D.dat (I (w64 (i + 1)))] [none, none, none, none] [(fC cs p7 u7)] [] → zae (zad cfg kk 68 Go.Proofs.Tryd.f68) kk (lp Go.Proofs.Tryd.f68 6) m s K)) (q2 : (decide (i < n) = true) → (g = false) → (fU kk 69 [D.ptr (Ref.up 0) 0, D.dat (Dat.lst true [I 1, I 1, I 2, I 2, I 3, I 4, I 5, I 5, I 6, I 6, I 7, I 7, I 8, I 8, I 9, I 10, I 11])] [(fC cs p u)] [D.dat (I k)] [(fC cs p1 u1)]) ∧ ((true && !(true && (true && zax [(fC cs p1 u1)])) || false) = false) ∧ (fU kk 54 [D.ptr (Ref.up 0) 0, D.dat (I 6)] [(fC cs p1 u1)] [D.dat (I a)] [(fC cs p2 u2)]) ∧ (fU kk 54 [D.ptr (Ref.up 0) 0, D.dat (I 6)] [(fC cs p2 u2)] [D.dat (I b)] [(fC cs p3 u3)]) ∧ (fU kk 55 [D.ptr (Ref.up 0) 0, D.dat (I 40)] [(fC cs p3 u3)] [D.dat (B g)] [(fC cs p4 u4)]) ∧ (out.length + 1 ≤ 2147483648) ∧ (∀ s : St, s.norm ((zad cfg kk 68 Go.Proofs.Tryd.f68).live (zaa (lp Go.Proofs.Tryd.f68 6))) = Nm [0, 3, 4, 5] [D.ptr (Ref.up 0) 0, D.own 72 (out ++ [N3 k a b]), D.dat (I n), D.dat (I (w64 (i + 1)))] [none, none, none, none] [(fC cs p4 u4)] [] → zae (zad cfg kk 68 Go.Proofs.Tryd.f68) kk (lp Go.Proofs.Tryd.f68 6) m s K)) (q3 : (decide (i < n) = false) → K (X.exit 0) (Nm [0, 3] [D.ptr (Ref.up 0) 0, D.own 72 out] [none, none] [(fC cs p u)] [])) : zae (zad cfg kk 68 Go.Proofs.Tryd.f68) kk (lp Go.Proofs.Tryd.f68 6) (m + 1) s K := by
 rcases Bool.eq_false_or_eq_true (decide (i < n)) with d1 | d1
 · rcases Bool.eq_false_or_eq_true (g) with d10 | d10
   · obtain ⟨hz1, hz2, hz3, hz4, hz5, hz6, hz7, hz8, hz9, hz10, oz⟩ := q1 d1 d10
     exact zag [(21, .back [.dat (I k)] [(fC cs p1 u1)] []), (23, .back [.dat (I a)] [(fC cs p2 u2)] []), (25, .back [.dat (I b)] [(fC cs p3 u3)] []), (28, .back [.dat (B g)] [(fC cs p4 u4)] []), (30, .back [.dat (I k2)] [(fC cs p5 u5)] []), (33, .back [.dat (I a2)] [(fC cs p6 u6)] []), (35, .back [.dat (I b2)] [(fC cs p7 u7)] []), (40, .ok), (200016, .yes), (200028, .yes)] hs (by kernel_rfl) (ob d1 (ob hz1 (ob hz2 (ob hz3 (ob (rfl : false = false) (ob hz4 (ob (rfl : false = false) (ob hz5 (ob (rfl : false = false) (ob d10 (ob hz6 (ob (rfl : false = false) (ob hz7 (ob hz8 (ob hz9 (ob (rfl : false = false) (ob (obT hz10) ob0))))))))))))))))) (by kernel_rfl) oz
   · obtain ⟨hz1, hz2, hz3, hz4, hz5, hz6, oz⟩ := q2 d1 d10
     exact zag [(21, .back [.dat (I k)] [(fC cs p1 u1)] []), (23, .back [.dat (I a)] [(fC cs p2 u2)] []), (25, .back [.dat (I b)] [(fC cs p3 u3)] []), (28, .back [.dat (B g)] [(fC cs p4 u4)] []), (30, .back [.dat (I k2)] [(fC cs p5 u5)] []), (33, .back [.dat (I a2)] [(fC cs p6 u6)] []), (35, .back [.dat (I b2)] [(fC cs p7 u7)] []), (40, .ok), (200016, .yes), (200028, .no)] hs (by kernel_rfl) (ob d1 (ob hz1 (ob hz2 (ob hz3 (ob (rfl : false = false) (ob hz4 (ob (rfl : false = false) (ob hz5 (ob (rfl : false = false) (ob d10 (ob (obT hz6) ob0))))))))))) (by kernel_rfl) oz
 · have oz := q3 d1
   exact zam [(21, .back [.dat (I k)] [(fC cs p1 u1)] []), (23, .back [.dat (I a)] [(fC cs p2 u2)] []), (25, .back [.dat (I b)] [(fC cs p3 u3)] []), (28, .back [.dat (B g)] [(fC cs p4 u4)] []), (30, .back [.dat (I k2)] [(fC cs p5 u5)] []), (33, .back [.dat (I a2)] [(fC cs p6 u6)] []), (35, .back [.dat (I b2)] [(fC cs p7 u7)] []), (40, .ok), (200016, .no)] hs (by kernel_rfl) rfl (ob d1 ob0) (by kernel_rfl) oz
theorem zqy (kk : Nat) (cs : List Dat) (out : List Dat) (z z12 n : Int) (g g42 : Bool) (p u : Int) (p1 u1 : Int) (p2 u2 : Int) (p3 u3 : Int) (p4 u4 : Int) (p5 u5 : Int) (p6 u6 : Int) {r : Res} (q1 : (g = true) → (g42 = true) → (fU kk 54 [D.ptr (Ref.up 0) 0, D.dat (I 40)] [(fC cs p u)] [D.dat (I z)] [(fC cs p1 u1)]) ∧ (fU kk 55 [D.ptr (Ref.up 0) 0, D.dat (I 8)] [(fC cs p1 u1)] [D.dat (B g)] [(fC cs p2 u2)]) ∧ (fU kk 54 [D.ptr (Ref.up 0) 0, D.dat (I 61)] [(fC cs p2 u2)] [D.dat (I z12)] [(fC cs p3 u3)]) ∧ (Nm [0, 3, 4, 5] [D.ptr (Ref.up 0) 0, D.own 72 [], D.dat (I (w64 (90 + z12))), D.dat (I 0)] [none, none, none, none] [(fC cs p3 u3)] [] = hd68 cs [] n p4 u4 0) ∧ (zao cfg kk 68 Go.Proofs.Tryd.f68 6 (hd68 cs [] n p4 u4 0) (X.exit 0) (Nm [0, 3] [D.ptr (Ref.up 0) 0, D.own 72 out] [none, none] [(fC cs p5 u5)] [])) ∧ (fU kk 55 [D.ptr (Ref.up 0) 0, D.dat (I 60)] [(fC cs p5 u5)] [D.dat (B g42)] [(fC cs p6 u6)]) ∧ (out.length + 150 ≤ 2147483648) ∧ r = ([D.own 72 (out ++ [N3 0 0 0, N3 0 0 0, N3 0 0 0, N3 0 0 0, N3 0 0 0, N3 0 0 0, N3 0 0 0, N3 0 0 0, N3 0 0 0, N3 0 0 0, N3 0 0 0, N3 0 0 0, N3 0 0 0, N3 0 0 0, N3 0 0 0, N3 0 0 0, N3 0 0 0, N3 0 0 0, N3 0 0 0, N3 0 0 0, N3 0 0 0, N3 0 0 0, N3 0 0 0, N3 0 0 0, N3 0 0 0, N3 0 0 0, N3 0 0 0, N3 0 0 0, N3 0 0 0, N3 0 0 0, N3 0 0 0, N3 0 0 0, N3 0 0 0, N3 0 0 0, N3 0 0 0, N3 0 0 0, N3 0 0 0, N3 0 0 0, N3 0 0 0, N3 0 0 0, N3 0 0 0, N3 0 0 0, N3 0 0 0, N3 0 0 0, N3 0 0 0, N3 0 0 0, N3 0 0 0, N3 0 0 0, N3 0 0 0, N3 0 0 0, N3 0 0 0, N3 0 0 0, N3 0 0 0, N3 0 0 0, N3 0 0 0, N3 0 0 0, N3 0 0 0, N3 0 0 0, N3 0 0 0, N3 0 0 0, N3 0 0 0, N3 0 0 0, N3 0 0 0, N3 0 0 0, N3 0 0 0, N3 0 0 0, N3 0 0 0, N3 0 0 0, N3 0 0 0, N3 0 0 0, N3 0 0 0, N3 0 0 0, N3 0 0 0, N3 0 0 0, N3 0 0 0, N3 0 0 0, N3 0 0 0, N3 0 0 0, N3 0 0 0, N3 0 0 0, N3 0 0 0, N3 0 0 0, N3 0 0 0, N3 0 0 0, N3 0 0 0, N3 0 0 0, N3 0 0 0, N3 0 0 0, N3 0 0 0, N3 0 0 0, N3 0 0 0, N3 0 0 0, N3 0 0 0, N3 0 0 0, N3 0 0 0, N3 0 0 0, N3 0 0 0, N3 0 0 0, N3 0 0 0, N3 0 0 0, N3 0 0 0, N3 0 0 0, N3 0 0 0, N3 0 0 0, N3 0 0 0, N3 0 0 0, N3 0 0 0, N3 0 0 0, N3 0 0 0, N3 0 0 0, N3 0 0 0, N3 0 0 0, N3 0 0 0, N3 0 0 0, N3 0 0 0, N3 0 0 0, N3 0 0 0, N3 0 0 0, N3 0 0 0, N3 0 0 0, N3 0 0 0, N3 0 0 0, N3 0 0 0, N3 0 0 0, N3 0 0 0, N3 0 0 0, N3 0 0 0, N3 0 0 0, N3 0 0 0, N3 0 0 0, N3 0 0 0, N3 0 0 0, N3 0 0 0, N3 0 0 0, N3 0 0 0, N3 0 0 0, N3 0 0 0, N3 0 0 0, N3 0 0 0, N3 0 0 0, N3 0 0 0, N3 0 0 0, N3 0 0 0, N3 0 0 0, N3 0 0 0, N3 0 0 0, N3 0 0 0, N3 0 0 0, N3 0 0 0, N3 0 0 0])], [(fC cs p6 u6)], [])) (q2 : (g = true) → (g42 = false) → (fU kk 54 [D.ptr (Ref.up 0) 0, D.dat (I 40)] [(fC cs p u)] [D.dat (I z)] [(fC cs p1 u1)]) ∧ (fU kk 55 [D.ptr (Ref.up 0) 0, D.dat (I 8)] [(fC cs p1 u1)] [D.dat (B g)] [(fC cs p2 u2)]) ∧ (fU kk 54 [D.ptr (Ref.up 0) 0, D.dat (I 61)] [(fC cs p2 u2)] [D.dat (I z12)] [(fC cs p3 u3)]) ∧ (Nm [0, 3, 4, 5] [D.ptr (Ref.up 0) 0, D.own 72 [], D.dat (I (w64 (90 + z12))), D.dat (I 0)] [none, none, none, none] [(fC cs p3 u3)] [] = hd68 cs [] n p4 u4 0) ∧ (zao cfg kk 68 Go.Proofs.Tryd.f68 6 (hd68 cs [] n p4 u4 0) (X.exit 0) (Nm [0, 3] [D.ptr (Ref.up 0) 0, D.own 72 out] [none, none] [(fC cs p5 u5)] [])) ∧ (fU kk 55 [D.ptr (Ref.up 0) 0, D.dat (I 60)] [(fC cs p5 u5)] [D.dat (B g42)] [(fC cs p6 u6)]) ∧ r = ([D.own 72 out], [(fC cs p6 u6)], [])) (q3 : (g = false) → (g42 = true) → (fU kk 54 [D.ptr (Ref.up 0) 0, D.dat (I 40)] [(fC cs p u)] [D.dat (I z)] [(fC cs p1 u1)]) ∧ (fU kk 55 [D.ptr (Ref.up 0) 0, D.dat (I 8)] [(fC cs p1 u1)] [D.dat (B g)] [(fC cs p2 u2)]) ∧ (Nm [0, 3, 4, 5] [D.ptr (Ref.up 0) 0, D.own 72 [], D.dat (I z), D.dat (I 0)] [none, none, none, none] [(fC cs p2 u2)] [] = hd68 cs [] n p4 u4 0) ∧ (zao cfg kk 68 Go.Proofs.Tryd.f68 6 (hd68 cs [] n p4 u4 0) (X.exit 0) (Nm [0, 3] [D.ptr (Ref.up 0) 0, D.own 72 out] [none, none] [(fC cs p5 u5)] [])) ∧ (fU kk 55 [D.ptr (Ref.up 0) 0, D.dat (I 60)] [(fC cs p5 u5)] [D.dat (B g42)] [(fC cs p6 u6)]) ∧ (out.length + 150 ≤ 2147483648) ∧ r = ([D.own 72 (out ++ [N3 0 0 0, N3 0 0 0, N3 0 0 0, N3 0 0 0, N3 0 0 0, N3 0 0 0, N3 0 0 0, N3 0 0 0, N3 0 0 0, N3 0 0 0, N3 0 0 0, N3 0 0 0, N3 0 0 0, N3 0 0 0, N3 0 0 0, N3 0 0 0, N3 0 0 0, N3 0 0 0, N3 0 0 0, N3 0 0 0, N3 0 0 0, N3 0 0 0, N3 0 0 0, N3 0 0 0, N3 0 0 0, N3 0 0 0, N3 0 0 0, N3 0 0 0, N3 0 0 0, N3 0 0 0, N3 0 0 0, N3 0 0 0, N3 0 0 0, N3 0 0 0, N3 0 0 0, N3 0 0 0, N3 0 0 0, N3 0 0 0, N3 0 0 0, N3 0 0 0, N3 0 0 0, N3 0 0 0, N3 0 0 0, N3 0 0 0, N3 0 0 0, N3 0 0 0, N3 0 0 0, N3 0 0 0, N3 0 0 0, N3 0 0 0, N3 0 0 0, N3 0 0 0, N3 0 0 0, N3 0 0 0, N3 0 0 0, N3 0 0 0, N3 0 0 0, N3 0 0 0, N3 0 0 0, N3 0 0 0, N3 0 0 0, N3 0 0 0, N3 0 0 0, N3 0 0 0, N3 0 0 0, N3 0 0 0, N3 0 0 0, N3 0 0 0, N3 0 0 0, N3 0 0 0, N3 0 0 0, N3 0 0 0, N3 0 0 0, N3 0 0 0, N3 0 0 0, N3 0 0 0, N3 0 0 0, N3 0 0 0, N3 0 0 0, N3 0 0 0, N3 0 0 0, N3 0 0 0, N3 0 0 0, N3 0 0 0, N3 0 0 0, N3 0 0 0, N3 0 0 0, N3 0 0 0, N3 0 0 0, N3 0 0 0, N3 0 0 0, N3 0 0 0, N3 0 0 0, N3 0 0 0, N3 0 0 0, N3 0 0 0, N3 0 0 0, N3 0 0 0, N3 0 0 0, N3 0 0 0, N3 0 0 0, N3 0 0 0, N3 0 0 0, N3 0 0 0, N3 0 0 0, N3 0 0 0, N3 0 0 0, N3 0 0 0, N3 0 0 0, N3 0 0 0, N3 0 0 0, N3 0 0 0, N3 0 0 0, N3 0 0 0, N3 0 0 0, N3 0 0 0, N3 0 0 0, N3 0 0 0, N3 0 0 0, N3 0 0 0, N3 0 0 0, N3 0 0 0, N3 0 0 0, N3 0 0 0, N3 0 0 0, N3 0 0 0, N3 0 0 0, N3 0 0 0, N3 0 0 0, N3 0 0 0, N3 0 0 0, N3 0 0 0, N3 0 0 0, N3 0 0 0, N3 0 0 0, N3 0 0 0, N3 0 0 0, N3 0 0 0, N3 0 0 0, N3 0 0 0, N3 0 0 0, N3 0 0 0, N3 0 0 0, N3 0 0 0, N3 0 0 0, N3 0 0 0, N3 0 0 0, N3 0 0 0, N3 0 0 0, N3 0 0 0])], [(fC cs p6 u6)], [])) (q4 : (g = false) → (g42 = false) → (fU kk 54 [D.ptr (Ref.up 0) 0, D.dat (I 40)] [(fC cs p u)] [D.dat (I z)] [(fC cs p1 u1)]) ∧ (fU kk 55 [D.ptr (Ref.up 0) 0, D.dat (I 8)] [(fC cs p1 u1)] [D.dat (B g)] [(fC cs p2 u2)]) ∧ (Nm [0, 3, 4, 5] [D.ptr (Ref.up 0) 0, D.own 72 [], D.dat (I z), D.dat (I 0)] [none, none, none, none] [(fC cs p2 u2)] [] = hd68 cs [] n p4 u4 0) ∧ (zao cfg kk 68 Go.Proofs.Tryd.f68 6 (hd68 cs [] n p4 u4 0) (X.exit 0) (Nm [0, 3] [D.ptr (Ref.up 0) 0, D.own 72 out] [none, none] [(fC cs p5 u5)] [])) ∧ (fU kk 55 [D.ptr (Ref.up 0) 0, D.dat (I 60)] [(fC cs p5 u5)] [D.dat (B g42)] [(fC cs p6 u6)]) ∧ r = ([D.own 72 out], [(fC cs p6 u6)], [])) : zaj cfg kk (den cfg kk) 68 Go.Proofs.Tryd.f68 [.ptr (.up 0) 0] [(fC cs p u)] [] = some r := by
 rcases Bool.eq_false_or_eq_true (g) with d5 | d5
 · rcases Bool.eq_false_or_eq_true (g42) with d12 | d12
   · obtain ⟨hz1, hz2, hz3, hz4, hz5, hz6, hz7, oz⟩ := q1 d5 d12
     subst oz; exact zab [(8, .back [.dat (I z)] [(fC cs p1 u1)] []), (10, .back [.dat (B g)] [(fC cs p2 u2)] []), (12, .back [.dat (I z12)] [(fC cs p3 u3)] []), (300006, .loop (hd68 cs [] n p4 u4 0) (.exit 0) (Nm [0, 3] [.ptr (.up 0) 0, .own 72 out] [none, none] [(fC cs p5 u5)] [])), (42, .back [.dat (B g42)] [(fC cs p6 u6)] []), (44, .ok), (200010, .yes), (200042, .yes)] (ob hz1 (ob (rfl : false = false) (ob hz2 (ob (rfl : false = false) (ob d5 (ob hz3 (ob (rfl : false = false) (ob hz4 (ob hz5 (ob hz6 (ob (rfl : false = false) (ob d12 (ob hz7 ob0))))))))))))) (by kernel_rfl)
   · obtain ⟨hz1, hz2, hz3, hz4, hz5, hz6, oz⟩ := q2 d5 d12
     subst oz; exact zab [(8, .back [.dat (I z)] [(fC cs p1 u1)] []), (10, .back [.dat (B g)] [(fC cs p2 u2)] []), (12, .back [.dat (I z12)] [(fC cs p3 u3)] []), (300006, .loop (hd68 cs [] n p4 u4 0) (.exit 0) (Nm [0, 3] [.ptr (.up 0) 0, .own 72 out] [none, none] [(fC cs p5 u5)] [])), (42, .back [.dat (B g42)] [(fC cs p6 u6)] []), (44, .ok), (200010, .yes), (200042, .no)] (ob hz1 (ob (rfl : false = false) (ob hz2 (ob (rfl : false = false) (ob d5 (ob hz3 (ob (rfl : false = false) (ob hz4 (ob hz5 (ob hz6 (ob (rfl : false = false) (ob d12 ob0)))))))))))) (by kernel_rfl)
 · rcases Bool.eq_false_or_eq_true (g42) with d10 | d10
   · obtain ⟨hz1, hz2, hz3, hz4, hz5, hz6, oz⟩ := q3 d5 d10
     subst oz; exact zab [(8, .back [.dat (I z)] [(fC cs p1 u1)] []), (10, .back [.dat (B g)] [(fC cs p2 u2)] []), (12, .back [.dat (I z12)] [(fC cs p3 u3)] []), (300006, .loop (hd68 cs [] n p4 u4 0) (.exit 0) (Nm [0, 3] [.ptr (.up 0) 0, .own 72 out] [none, none] [(fC cs p5 u5)] [])), (42, .back [.dat (B g42)] [(fC cs p6 u6)] []), (44, .ok), (200010, .no), (200042, .yes)] (ob hz1 (ob (rfl : false = false) (ob hz2 (ob (rfl : false = false) (ob d5 (ob hz3 (ob hz4 (ob hz5 (ob (rfl : false = false) (ob d10 (ob hz6 ob0))))))))))) (by kernel_rfl)
   · obtain ⟨hz1, hz2, hz3, hz4, hz5, oz⟩ := q4 d5 d10
     subst oz; exact zab [(8, .back [.dat (I z)] [(fC cs p1 u1)] []), (10, .back [.dat (B g)] [(fC cs p2 u2)] []), (12, .back [.dat (I z12)] [(fC cs p3 u3)] []), (300006, .loop (hd68 cs [] n p4 u4 0) (.exit 0) (Nm [0, 3] [.ptr (.up 0) 0, .own 72 out] [none, none] [(fC cs p5 u5)] [])), (42, .back [.dat (B g42)] [(fC cs p6 u6)] []), (44, .ok), (200010, .no), (200042, .no)] (ob hz1 (ob (rfl : false = false) (ob hz2 (ob (rfl : false = false) (ob d5 (ob hz3 (ob hz4 (ob hz5 (ob (rfl : false = false) (ob d10 ob0)))))))))) (by kernel_rfl)
theorem zoK (kk : Nat) (cs : List Dat) (out : List Dat) (z15 x21 z23 x29 : Int) (g18 g26 : Bool) (p1 u1 : Int) (p2 u2 : Int) (p3 u3 : Int) (p4 u4 : Int) (p5 u5 : Int) (p6 u6 : Int) (p7 u7 : Int) {r : Res} (q1 : (g18 = true) → (g26 = true) → (fU kk 68 [D.ptr (Ref.up 0) 0] [(fC cs 0 0)] [D.own 72 out] [(fC cs p1 u1)]) ∧ (fU kk 54 [D.ptr (Ref.up 0) 0, D.dat (I 40)] [(fC cs p1 u1)] [D.dat (I z15)] [(fC cs p2 u2)]) ∧ (fU kk 55 [D.ptr (Ref.up 0) 0, D.dat (I 12)] [(fC cs p2 u2)] [D.dat (B g18)] [(fC cs p3 u3)]) ∧ (fU kk 69 [D.ptr (Ref.up 0) 0, D.dat (Dat.lst true [I (-1), I 0, I 200, I 201])] [(fC cs p3 u3)] [D.dat (I x21)] [(fC cs p4 u4)]) ∧ ((true && !(true && (true && zax [(fC cs p4 u4)])) || false) = false) ∧ (fU kk 54 [D.ptr (Ref.up 0) 0, D.dat (I 12)] [(fC cs p4 u4)] [D.dat (I z23)] [(fC cs p5 u5)]) ∧ (fU kk 55 [D.ptr (Ref.up 0) 0, D.dat (I 20)] [(fC cs p5 u5)] [D.dat (B g26)] [(fC cs p6 u6)]) ∧ (fU kk 69 [D.ptr (Ref.up 0) 0, D.dat (Dat.lst true [I 0, I 200, I 201])] [(fC cs p6 u6)] [D.dat (I x29)] [(fC cs p7 u7)]) ∧ ((true && !(true && (true && zax [(fC cs p7 u7)])) || false) = false) ∧ r = ([D.own 72 out, D.dat (I x21), D.dat (I x29)], [], [])) (q2 : (g18 = true) → (g26 = false) → (fU kk 68 [D.ptr (Ref.up 0) 0] [(fC cs 0 0)] [D.own 72 out] [(fC cs p1 u1)]) ∧ (fU kk 54 [D.ptr (Ref.up 0) 0, D.dat (I 40)] [(fC cs p1 u1)] [D.dat (I z15)] [(fC cs p2 u2)]) ∧ (fU kk 55 [D.ptr (Ref.up 0) 0, D.dat (I 12)] [(fC cs p2 u2)] [D.dat (B g18)] [(fC cs p3 u3)]) ∧ (fU kk 69 [D.ptr (Ref.up 0) 0, D.dat (Dat.lst true [I (-1), I 0, I 200, I 201])] [(fC cs p3 u3)] [D.dat (I x21)] [(fC cs p4 u4)]) ∧ ((true && !(true && (true && zax [(fC cs p4 u4)])) || false) = false) ∧ (fU kk 54 [D.ptr (Ref.up 0) 0, D.dat (I 12)] [(fC cs p4 u4)] [D.dat (I z23)] [(fC cs p5 u5)]) ∧ (fU kk 55 [D.ptr (Ref.up 0) 0, D.dat (I 20)] [(fC cs p5 u5)] [D.dat (B g26)] [(fC cs p6 u6)]) ∧ r = ([D.own 72 out, D.dat (I x21), D.dat (I (w64 (1 + z23)))], [], [])) (q3 : (g18 = false) → (g26 = true) → (fU kk 68 [D.ptr (Ref.up 0) 0] [(fC cs 0 0)] [D.own 72 out] [(fC cs p1 u1)]) ∧ (fU kk 54 [D.ptr (Ref.up 0) 0, D.dat (I 40)] [(fC cs p1 u1)] [D.dat (I z15)] [(fC cs p2 u2)]) ∧ (fU kk 55 [D.ptr (Ref.up 0) 0, D.dat (I 12)] [(fC cs p2 u2)] [D.dat (B g18)] [(fC cs p3 u3)]) ∧ (fU kk 54 [D.ptr (Ref.up 0) 0, D.dat (I 12)] [(fC cs p3 u3)] [D.dat (I z23)] [(fC cs p5 u5)]) ∧ (fU kk 55 [D.ptr (Ref.up 0) 0, D.dat (I 20)] [(fC cs p5 u5)] [D.dat (B g26)] [(fC cs p6 u6)]) ∧ (fU kk 69 [D.ptr (Ref.up 0) 0, D.dat (Dat.lst true [I 0, I 200, I 201])] [(fC cs p6 u6)] [D.dat (I x29)] [(fC cs p7 u7)]) ∧ ((true && !(true && (true && zax [(fC cs p7 u7)])) || false) = false) ∧ r = ([D.own 72 out, D.dat (I (w64 (3 + z15))), D.dat (I x29)], [], [])) (q4 : (g18 = false) → (g26 = false) → (fU kk 68 [D.ptr (Ref.up 0) 0] [(fC cs 0 0)] [D.own 72 out] [(fC cs p1 u1)]) ∧ (fU kk 54 [D.ptr (Ref.up 0) 0, D.dat (I 40)] [(fC cs p1 u1)] [D.dat (I z15)] [(fC cs p2 u2)]) ∧ (fU kk 55 [D.ptr (Ref.up 0) 0, D.dat (I 12)] [(fC cs p2 u2)] [D.dat (B g18)] [(fC cs p3 u3)]) ∧ (fU kk 54 [D.ptr (Ref.up 0) 0, D.dat (I 12)] [(fC cs p3 u3)] [D.dat (I z23)] [(fC cs p5 u5)]) ∧ (fU kk 55 [D.ptr (Ref.up 0) 0, D.dat (I 20)] [(fC cs p5 u5)] [D.dat (B g26)] [(fC cs p6 u6)]) ∧ r = ([D.own 72 out, D.dat (I (w64 (3 + z15))), D.dat (I (w64 (1 + z23)))], [], [])) : zaj cfg kk (den cfg kk) 34 Go.Proofs.Tryd.f34 [.dat (Dat.lst false cs)] [] [] = some r := by
 rcases Bool.eq_false_or_eq_true (g18) with d7 | d7
 · rcases Bool.eq_false_or_eq_true (g26) with d14 | d14
   · obtain ⟨hz1, hz2, hz3, hz4, hz5, hz6, hz7, hz8, hz9, oz⟩ := q1 d7 d14
     subst oz; exact zab [(13, .back [.own 72 out] [(fC cs p1 u1)] []), (15, .back [.dat (I z15)] [(fC cs p2 u2)] []), (18, .back [.dat (B g18)] [(fC cs p3 u3)] []), (21, .back [.dat (I x21)] [(fC cs p4 u4)] []), (23, .back [.dat (I z23)] [(fC cs p5 u5)] []), (26, .back [.dat (B g26)] [(fC cs p6 u6)] []), (29, .back [.dat (I x29)] [(fC cs p7 u7)] []), (200018, .yes), (200026, .yes)] (ob hz1 (ob (rfl : false = false) (ob hz2 (ob (rfl : false = false) (ob hz3 (ob (rfl : false = false) (ob d7 (ob hz4 (ob hz5 (ob hz6 (ob (rfl : false = false) (ob hz7 (ob (rfl : false = false) (ob d14 (ob hz8 (ob hz9 ob0)))))))))))))))) (by kernel_rfl)
   · obtain ⟨hz1, hz2, hz3, hz4, hz5, hz6, hz7, oz⟩ := q2 d7 d14
     subst oz; exact zab [(13, .back [.own 72 out] [(fC cs p1 u1)] []), (15, .back [.dat (I z15)] [(fC cs p2 u2)] []), (18, .back [.dat (B g18)] [(fC cs p3 u3)] []), (21, .back [.dat (I x21)] [(fC cs p4 u4)] []), (23, .back [.dat (I z23)] [(fC cs p5 u5)] []), (26, .back [.dat (B g26)] [(fC cs p6 u6)] []), (29, .back [.dat (I x29)] [(fC cs p7 u7)] []), (200018, .yes), (200026, .no)] (ob hz1 (ob (rfl : false = false) (ob hz2 (ob (rfl : false = false) (ob hz3 (ob (rfl : false = false) (ob d7 (ob hz4 (ob hz5 (ob hz6 (ob (rfl : false = false) (ob hz7 (ob (rfl : false = false) (ob d14 ob0)))))))))))))) (by kernel_rfl)
 · rcases Bool.eq_false_or_eq_true (g26) with d12 | d12
   · obtain ⟨hz1, hz2, hz3, hz4, hz5, hz6, hz7, oz⟩ := q3 d7 d12
     subst oz; exact zab [(13, .back [.own 72 out] [(fC cs p1 u1)] []), (15, .back [.dat (I z15)] [(fC cs p2 u2)] []), (18, .back [.dat (B g18)] [(fC cs p3 u3)] []), (21, .back [.dat (I x21)] [(fC cs p4 u4)] []), (23, .back [.dat (I z23)] [(fC cs p5 u5)] []), (26, .back [.dat (B g26)] [(fC cs p6 u6)] []), (29, .back [.dat (I x29)] [(fC cs p7 u7)] []), (200018, .no), (200026, .yes)] (ob hz1 (ob (rfl : false = false) (ob hz2 (ob (rfl : false = false) (ob hz3 (ob (rfl : false = false) (ob d7 (ob hz4 (ob (rfl : false = false) (ob hz5 (ob (rfl : false = false) (ob d12 (ob hz6 (ob hz7 ob0)))))))))))))) (by kernel_rfl)
   · obtain ⟨hz1, hz2, hz3, hz4, hz5, oz⟩ := q4 d7 d12
     subst oz; exact zab [(13, .back [.own 72 out] [(fC cs p1 u1)] []), (15, .back [.dat (I z15)] [(fC cs p2 u2)] []), (18, .back [.dat (B g18)] [(fC cs p3 u3)] []), (21, .back [.dat (I x21)] [(fC cs p4 u4)] []), (23, .back [.dat (I z23)] [(fC cs p5 u5)] []), (26, .back [.dat (B g26)] [(fC cs p6 u6)] []), (29, .back [.dat (I x29)] [(fC cs p7 u7)] []), (200018, .no), (200026, .no)] (ob hz1 (ob (rfl : false = false) (ob hz2 (ob (rfl : false = false) (ob hz3 (ob (rfl : false = false) (ob d7 (ob hz4 (ob (rfl : false = false) (ob hz5 (ob (rfl : false = false) (ob d12 ob0)))))))))))) (by kernel_rfl)
end Go.Den
namespace Go.Den
open Go
set_option linter.unusedVariables false
set_option maxRecDepth 100000
theorem zkS (kk : Nat) (cs out : List Dat) (room nur : Int) (s w m : ByteArray) (f1 k1 f2 k2 g : Bool) {r : Res} (q1 : (decide (1048576 < (cs.length : Int)) = true) → r = ([D.dat (B true)], [], [])) (q2 : (decide (1048576 < (cs.length : Int)) = false) → ((!k1 == k2) = true) → (fD kk 34 [D.dat (Dat.lst false cs)] [D.own 72 out, D.dat (I room), D.dat (I nur)]) ∧ (fD kk 22 [D.dat (Dat.lst true out), D.dat (I room), D.dat (I nur)] [D.dat (Dat.val (Value.string s)), D.dat (B f1), D.dat (B k1)]) ∧ (fD kk 21 [D.dat (Dat.lst true out), D.dat (I room), D.dat (I nur)] [D.dat (Dat.val (Value.string w)), D.dat (B f2), D.dat (B k2)]) ∧ r = ([D.dat (B false)], [], [])) (q3 : (decide (1048576 < (cs.length : Int)) = false) → ((!k1 == k2) = false) → ((!decide (s = w)) = true) → (fD kk 34 [D.dat (Dat.lst false cs)] [D.own 72 out, D.dat (I room), D.dat (I nur)]) ∧ (fD kk 22 [D.dat (Dat.lst true out), D.dat (I room), D.dat (I nur)] [D.dat (Dat.val (Value.string s)), D.dat (B f1), D.dat (B k1)]) ∧ (fD kk 21 [D.dat (Dat.lst true out), D.dat (I room), D.dat (I nur)] [D.dat (Dat.val (Value.string w)), D.dat (B f2), D.dat (B k2)]) ∧ r = ([D.dat (B false)], [], [])) (q4 : (decide (1048576 < (cs.length : Int)) = false) → ((!k1 == k2) = false) → ((!decide (s = w)) = false) → ((!f1 == f2) = true) → (fD kk 34 [D.dat (Dat.lst false cs)] [D.own 72 out, D.dat (I room), D.dat (I nur)]) ∧ (fD kk 22 [D.dat (Dat.lst true out), D.dat (I room), D.dat (I nur)] [D.dat (Dat.val (Value.string s)), D.dat (B f1), D.dat (B k1)]) ∧ (fD kk 21 [D.dat (Dat.lst true out), D.dat (I room), D.dat (I nur)] [D.dat (Dat.val (Value.string w)), D.dat (B f2), D.dat (B k2)]) ∧ r = ([D.dat (B false)], [], [])) (q5 : (decide (1048576 < (cs.length : Int)) = false) → ((!k1 == k2) = false) → ((!decide (s = w)) = false) → ((!f1 == f2) = false) → ((!k1) = true) → (fD kk 34 [D.dat (Dat.lst false cs)] [D.own 72 out, D.dat (I room), D.dat (I nur)]) ∧ (fD kk 22 [D.dat (Dat.lst true out), D.dat (I room), D.dat (I nur)] [D.dat (Dat.val (Value.string s)), D.dat (B f1), D.dat (B k1)]) ∧ (fD kk 21 [D.dat (Dat.lst true out), D.dat (I room), D.dat (I nur)] [D.dat (Dat.val (Value.string w)), D.dat (B f2), D.dat (B k2)]) ∧ r = ([D.dat (B (decide (s = ByteArray.mk #[])))], [], [])) (q6 : (decide (1048576 < (cs.length : Int)) = false) → ((!k1 == k2) = false) → ((!decide (s = w)) = false) → ((!f1 == f2) = false) → ((!k1) = false) → (g = true) → (decide ((s.size : Int) ≤ (m.size : Int)) = true) → (decide (m.extract 0 ((some (s.size : Int)).getD (m.size : Int)).toNat = s) = true) → (f1 = true) → (fD kk 34 [D.dat (Dat.lst false cs)] [D.own 72 out, D.dat (I room), D.dat (I nur)]) ∧ (fD kk 22 [D.dat (Dat.lst true out), D.dat (I room), D.dat (I nur)] [D.dat (Dat.val (Value.string s)), D.dat (B f1), D.dat (B k1)]) ∧ (fD kk 21 [D.dat (Dat.lst true out), D.dat (I room), D.dat (I nur)] [D.dat (Dat.val (Value.string w)), D.dat (B f2), D.dat (B k2)]) ∧ (fD kk 19 [D.dat (Dat.lst true out)] [D.dat (Dat.val (Value.string m)), D.dat (B g)]) ∧ (0 ≤ (none : Option Int).getD 0 ∧ (none : Option Int).getD 0 ≤ (some (s.size : Int)).getD (m.size : Int) ∧ (some (s.size : Int)).getD (m.size : Int) ≤ (m.size : Int)) ∧ r = ([D.dat (B true)], [], [])) (q7 : (decide (1048576 < (cs.length : Int)) = false) → ((!k1 == k2) = false) → ((!decide (s = w)) = false) → ((!f1 == f2) = false) → ((!k1) = false) → (g = true) → (decide ((s.size : Int) ≤ (m.size : Int)) = true) → (decide (m.extract 0 ((some (s.size : Int)).getD (m.size : Int)).toNat = s) = true) → (f1 = false) → (fD kk 34 [D.dat (Dat.lst false cs)] [D.own 72 out, D.dat (I room), D.dat (I nur)]) ∧ (fD kk 22 [D.dat (Dat.lst true out), D.dat (I room), D.dat (I nur)] [D.dat (Dat.val (Value.string s)), D.dat (B f1), D.dat (B k1)]) ∧ (fD kk 21 [D.dat (Dat.lst true out), D.dat (I room), D.dat (I nur)] [D.dat (Dat.val (Value.string w)), D.dat (B f2), D.dat (B k2)]) ∧ (fD kk 19 [D.dat (Dat.lst true out)] [D.dat (Dat.val (Value.string m)), D.dat (B g)]) ∧ (0 ≤ (none : Option Int).getD 0 ∧ (none : Option Int).getD 0 ≤ (some (s.size : Int)).getD (m.size : Int) ∧ (some (s.size : Int)).getD (m.size : Int) ≤ (m.size : Int)) ∧ r = ([D.dat (B (decide (s = m)))], [], [])) (q8 : (decide (1048576 < (cs.length : Int)) = false) → ((!k1 == k2) = false) → ((!decide (s = w)) = false) → ((!f1 == f2) = false) → ((!k1) = false) → (g = true) → (decide ((s.size : Int) ≤ (m.size : Int)) = true) → (decide (m.extract 0 ((some (s.size : Int)).getD (m.size : Int)).toNat = s) = false) → (fD kk 34 [D.dat (Dat.lst false cs)] [D.own 72 out, D.dat (I room), D.dat (I nur)]) ∧ (fD kk 22 [D.dat (Dat.lst true out), D.dat (I room), D.dat (I nur)] [D.dat (Dat.val (Value.string s)), D.dat (B f1), D.dat (B k1)]) ∧ (fD kk 21 [D.dat (Dat.lst true out), D.dat (I room), D.dat (I nur)] [D.dat (Dat.val (Value.string w)), D.dat (B f2), D.dat (B k2)]) ∧ (fD kk 19 [D.dat (Dat.lst true out)] [D.dat (Dat.val (Value.string m)), D.dat (B g)]) ∧ (0 ≤ (none : Option Int).getD 0 ∧ (none : Option Int).getD 0 ≤ (some (s.size : Int)).getD (m.size : Int) ∧ (some (s.size : Int)).getD (m.size : Int) ≤ (m.size : Int)) ∧ r = ([D.dat (B false)], [], [])) (q9 : (decide (1048576 < (cs.length : Int)) = false) → ((!k1 == k2) = false) → ((!decide (s = w)) = false) → ((!f1 == f2) = false) → ((!k1) = false) → (g = true) → (decide ((s.size : Int) ≤ (m.size : Int)) = false) → (fD kk 34 [D.dat (Dat.lst false cs)] [D.own 72 out, D.dat (I room), D.dat (I nur)]) ∧ (fD kk 22 [D.dat (Dat.lst true out), D.dat (I room), D.dat (I nur)] [D.dat (Dat.val (Value.string s)), D.dat (B f1), D.dat (B k1)]) ∧ (fD kk 21 [D.dat (Dat.lst true out), D.dat (I room), D.dat (I nur)] [D.dat (Dat.val (Value.string w)), D.dat (B f2), D.dat (B k2)]) ∧ (fD kk 19 [D.dat (Dat.lst true out)] [D.dat (Dat.val (Value.string m)), D.dat (B g)]) ∧ r = ([D.dat (B false)], [], [])) (q10 : (decide (1048576 < (cs.length : Int)) = false) → ((!k1 == k2) = false) → ((!decide (s = w)) = false) → ((!f1 == f2) = false) → ((!k1) = false) → (g = false) → (fD kk 34 [D.dat (Dat.lst false cs)] [D.own 72 out, D.dat (I room), D.dat (I nur)]) ∧ (fD kk 22 [D.dat (Dat.lst true out), D.dat (I room), D.dat (I nur)] [D.dat (Dat.val (Value.string s)), D.dat (B f1), D.dat (B k1)]) ∧ (fD kk 21 [D.dat (Dat.lst true out), D.dat (I room), D.dat (I nur)] [D.dat (Dat.val (Value.string w)), D.dat (B f2), D.dat (B k2)]) ∧ (fD kk 19 [D.dat (Dat.lst true out)] [D.dat (Dat.val (Value.string m)), D.dat (B g)]) ∧ r = ([D.dat (B false)], [], [])) : zaj cfg kk (den cfg kk) 9 Go.Proofs.Tryd.f9 [.dat (Dat.lst false cs)] [] [] = some r := by
 rcases Bool.eq_false_or_eq_true (decide (1048576 < (cs.length : Int))) with d1 | d1
 · have oz := q1 d1
   subst oz; exact zab [(19, .ret [.own 72 out, .dat (I room), .dat (I nur)]), (27, .ret [.dat (S s), .dat (B f1), .dat (B k1)]), (35, .ret [.dat (S w), .dat (B f2), .dat (B k2)]), (58, .ret [.dat (S m), .dat (B g)]), (73, .ok), (200016, .yes)] (ob d1 ob0) (by kernel_rfl)
 · rcases Bool.eq_false_or_eq_true ((!k1 == k2)) with d7 | d7
   · obtain ⟨hz1, hz2, hz3, oz⟩ := q2 d1 d7
     subst oz; exact zab [(19, .ret [.own 72 out, .dat (I room), .dat (I nur)]), (27, .ret [.dat (S s), .dat (B f1), .dat (B k1)]), (35, .ret [.dat (S w), .dat (B f2), .dat (B k2)]), (58, .ret [.dat (S m), .dat (B g)]), (73, .ok), (200016, .no), (200042, .yes)] (ob d1 (ob hz1 (ob (rfl : true = true) (ob hz2 (ob (rfl : true = true) (ob hz3 (ob d7 (ob (rfl : true = true) (ob (rfl : true = true) ob0))))))))) (by kernel_rfl)
   · rcases Bool.eq_false_or_eq_true ((!decide (s = w))) with d10 | d10
     · obtain ⟨hz1, hz2, hz3, oz⟩ := q3 d1 d7 d10
       subst oz; exact zab [(19, .ret [.own 72 out, .dat (I room), .dat (I nur)]), (27, .ret [.dat (S s), .dat (B f1), .dat (B k1)]), (35, .ret [.dat (S w), .dat (B f2), .dat (B k2)]), (58, .ret [.dat (S m), .dat (B g)]), (73, .ok), (200016, .no), (200042, .no), (200047, .yes)] (ob d1 (ob hz1 (ob (rfl : true = true) (ob hz2 (ob (rfl : true = true) (ob hz3 (ob d7 (ob (rfl : false = false) (ob (rfl : false = false) (ob d10 (ob (rfl : true = true) (ob (rfl : true = true) ob0)))))))))))) (by kernel_rfl)
     · rcases Bool.eq_false_or_eq_true ((!f1 == f2)) with d13 | d13
       · obtain ⟨hz1, hz2, hz3, oz⟩ := q4 d1 d7 d10 d13
         subst oz; exact zab [(19, .ret [.own 72 out, .dat (I room), .dat (I nur)]), (27, .ret [.dat (S s), .dat (B f1), .dat (B k1)]), (35, .ret [.dat (S w), .dat (B f2), .dat (B k2)]), (58, .ret [.dat (S m), .dat (B g)]), (73, .ok), (200016, .no), (200042, .no), (200047, .no), (200051, .yes)] (ob d1 (ob hz1 (ob (rfl : true = true) (ob hz2 (ob (rfl : true = true) (ob hz3 (ob d7 (ob (rfl : false = false) (ob (rfl : false = false) (ob d10 (ob (rfl : false = false) (ob (rfl : false = false) (ob d13 ob0))))))))))))) (by kernel_rfl)
       · rcases Bool.eq_false_or_eq_true ((!k1)) with d14 | d14
         · obtain ⟨hz1, hz2, hz3, oz⟩ := q5 d1 d7 d10 d13 d14
           subst oz; exact zab [(19, .ret [.own 72 out, .dat (I room), .dat (I nur)]), (27, .ret [.dat (S s), .dat (B f1), .dat (B k1)]), (35, .ret [.dat (S w), .dat (B f2), .dat (B k2)]), (58, .ret [.dat (S m), .dat (B g)]), (73, .ok), (200016, .no), (200042, .no), (200047, .no), (200051, .no), (200053, .yes)] (ob d1 (ob hz1 (ob (rfl : true = true) (ob hz2 (ob (rfl : true = true) (ob hz3 (ob d7 (ob (rfl : false = false) (ob (rfl : false = false) (ob d10 (ob (rfl : false = false) (ob (rfl : false = false) (ob d13 (ob d14 ob0)))))))))))))) (by kernel_rfl)
         · rcases Bool.eq_false_or_eq_true (g) with d17 | d17
           · rcases Bool.eq_false_or_eq_true (decide ((s.size : Int) ≤ (m.size : Int))) with d22 | d22
             · rcases Bool.eq_false_or_eq_true (decide (m.extract 0 ((some (s.size : Int)).getD (m.size : Int)).toNat = s)) with d29 | d29
               · rcases Bool.eq_false_or_eq_true (f1) with d31 | d31
                 · obtain ⟨hz1, hz2, hz3, hz4, hz5, oz⟩ := q6 d1 d7 d10 d13 d14 d17 d22 d29 d31
                   subst oz; exact zab [(19, .ret [.own 72 out, .dat (I room), .dat (I nur)]), (27, .ret [.dat (S s), .dat (B f1), .dat (B k1)]), (35, .ret [.dat (S w), .dat (B f2), .dat (B k2)]), (58, .ret [.dat (S m), .dat (B g)]), (73, .ok), (200016, .no), (200042, .no), (200047, .no), (200051, .no), (200053, .no), (200062, .yes), (200069, .yes), (200077, .yes), (200079, .yes)] (ob d1 (ob hz1 (ob (rfl : true = true) (ob hz2 (ob (rfl : true = true) (ob hz3 (ob d7 (ob (rfl : false = false) (ob (rfl : false = false) (ob d10 (ob (rfl : false = false) (ob (rfl : false = false) (ob d13 (ob d14 (ob (rfl : true = true) (ob hz4 (ob d17 (ob (rfl : true = true) (ob (rfl : true = true) (ob (rfl : true = true) (ob (rfl : true = true) (ob d22 (ob (rfl : true = true) (ob (rfl : true = true) (ob (rfl : true = true) (ob hz5 (ob (rfl : true = true) (ob (rfl : true = true) (ob d29 (ob (rfl : true = true) (ob d31 (ob (rfl : true = true) (ob (rfl : true = true) (ob (rfl : true = true) ob0)))))))))))))))))))))))))))))))))) (by kernel_rfl)
                 · obtain ⟨hz1, hz2, hz3, hz4, hz5, oz⟩ := q7 d1 d7 d10 d13 d14 d17 d22 d29 d31
                   subst oz; exact zab [(19, .ret [.own 72 out, .dat (I room), .dat (I nur)]), (27, .ret [.dat (S s), .dat (B f1), .dat (B k1)]), (35, .ret [.dat (S w), .dat (B f2), .dat (B k2)]), (58, .ret [.dat (S m), .dat (B g)]), (73, .ok), (200016, .no), (200042, .no), (200047, .no), (200051, .no), (200053, .no), (200062, .yes), (200069, .yes), (200077, .yes), (200079, .no)] (ob d1 (ob hz1 (ob (rfl : true = true) (ob hz2 (ob (rfl : true = true) (ob hz3 (ob d7 (ob (rfl : false = false) (ob (rfl : false = false) (ob d10 (ob (rfl : false = false) (ob (rfl : false = false) (ob d13 (ob d14 (ob (rfl : true = true) (ob hz4 (ob d17 (ob (rfl : true = true) (ob (rfl : true = true) (ob (rfl : true = true) (ob (rfl : true = true) (ob d22 (ob (rfl : true = true) (ob (rfl : true = true) (ob (rfl : true = true) (ob hz5 (ob (rfl : true = true) (ob (rfl : true = true) (ob d29 (ob (rfl : true = true) (ob d31 (ob (rfl : false = false) (ob (rfl : false = false) (ob (rfl : true = true) ob0)))))))))))))))))))))))))))))))))) (by kernel_rfl)
               · obtain ⟨hz1, hz2, hz3, hz4, hz5, oz⟩ := q8 d1 d7 d10 d13 d14 d17 d22 d29
                 subst oz; exact zab [(19, .ret [.own 72 out, .dat (I room), .dat (I nur)]), (27, .ret [.dat (S s), .dat (B f1), .dat (B k1)]), (35, .ret [.dat (S w), .dat (B f2), .dat (B k2)]), (58, .ret [.dat (S m), .dat (B g)]), (73, .ok), (200016, .no), (200042, .no), (200047, .no), (200051, .no), (200053, .no), (200062, .yes), (200069, .yes), (200077, .no)] (ob d1 (ob hz1 (ob (rfl : true = true) (ob hz2 (ob (rfl : true = true) (ob hz3 (ob d7 (ob (rfl : false = false) (ob (rfl : false = false) (ob d10 (ob (rfl : false = false) (ob (rfl : false = false) (ob d13 (ob d14 (ob (rfl : true = true) (ob hz4 (ob d17 (ob (rfl : true = true) (ob (rfl : true = true) (ob (rfl : true = true) (ob (rfl : true = true) (ob d22 (ob (rfl : true = true) (ob (rfl : true = true) (ob (rfl : true = true) (ob hz5 (ob (rfl : true = true) (ob (rfl : true = true) (ob d29 (ob (rfl : false = false) (ob (rfl : false = false) ob0))))))))))))))))))))))))))))))) (by kernel_rfl)
             · obtain ⟨hz1, hz2, hz3, hz4, oz⟩ := q9 d1 d7 d10 d13 d14 d17 d22
               subst oz; exact zab [(19, .ret [.own 72 out, .dat (I room), .dat (I nur)]), (27, .ret [.dat (S s), .dat (B f1), .dat (B k1)]), (35, .ret [.dat (S w), .dat (B f2), .dat (B k2)]), (58, .ret [.dat (S m), .dat (B g)]), (73, .ok), (200016, .no), (200042, .no), (200047, .no), (200051, .no), (200053, .no), (200062, .yes), (200069, .no)] (ob d1 (ob hz1 (ob (rfl : true = true) (ob hz2 (ob (rfl : true = true) (ob hz3 (ob d7 (ob (rfl : false = false) (ob (rfl : false = false) (ob d10 (ob (rfl : false = false) (ob (rfl : false = false) (ob d13 (ob d14 (ob (rfl : true = true) (ob hz4 (ob d17 (ob (rfl : true = true) (ob (rfl : true = true) (ob (rfl : true = true) (ob (rfl : true = true) (ob d22 (ob (rfl : false = false) (ob (rfl : false = false) (ob (rfl : false = false) (ob (rfl : false = false) (ob (rfl : false = false) ob0))))))))))))))))))))))))))) (by kernel_rfl)
           · obtain ⟨hz1, hz2, hz3, hz4, oz⟩ := q10 d1 d7 d10 d13 d14 d17
             subst oz; exact zab [(19, .ret [.own 72 out, .dat (I room), .dat (I nur)]), (27, .ret [.dat (S s), .dat (B f1), .dat (B k1)]), (35, .ret [.dat (S w), .dat (B f2), .dat (B k2)]), (58, .ret [.dat (S m), .dat (B g)]), (73, .ok), (200016, .no), (200042, .no), (200047, .no), (200051, .no), (200053, .no), (200062, .no)] (ob d1 (ob hz1 (ob (rfl : true = true) (ob hz2 (ob (rfl : true = true) (ob hz3 (ob d7 (ob (rfl : false = false) (ob (rfl : false = false) (ob d10 (ob (rfl : false = false) (ob (rfl : false = false) (ob d13 (ob d14 (ob (rfl : true = true) (ob hz4 (ob d17 (ob (rfl : false = false) (ob (rfl : false = false) (ob (rfl : false = false) (ob (rfl : false = false) ob0))))))))))))))))))))) (by kernel_rfl)
end Go.Den
namespace Go.Den
open Go
set_option linter.unusedVariables false
set_option maxRecDepth 100000
structure Cl where
 l : Bool
 n : Int
 a : Int
 b : Int
abbrev Cl.d (x : Cl) : Dat := .agg [B x.l, I x.n, I x.a, I x.b]
abbrev Yd (b : Bool) (o : Int) (cs rs ns : List Dat) : Dat := .agg [I o, .lst b cs, .lst b rs, .lst b ns]
abbrev Yb (b : Bool) (o : Int) (cs rs ns : List Dat) : Option (List D) := some (fB b o cs rs ns)
theorem zpP (kk : Nat) (x lo hi : Int) (h1 : decide (lo ≤ x) = true) : zaj cfg kk (den cfg kk) 39 Go.Proofs.Tryd.f39 [.dat (I x), .dat (I lo), .dat (I hi)] [] [] = some ([D.dat (B (decide (x ≤ hi)))], [], []) :=
 zab [(200010, .yes)] (ob h1 (ob (rfl : true = true) (ob (rfl : true = true) ob0))) (by kernel_rfl)
theorem zpj (kk : Nat) (x lo hi : Int) (h1 : decide (lo ≤ x) = false) : zaj cfg kk (den cfg kk) 39 Go.Proofs.Tryd.f39 [.dat (I x), .dat (I lo), .dat (I hi)] [] [] = some ([D.dat (B false)], [], []) :=
 zab [(200010, .no)] (ob h1 (ob (rfl : false = false) (ob (rfl : false = false) ob0))) (by kernel_rfl)
theorem l1In (kk : Nat) (x lo hi : Int) {r : Res} (q1 : (decide (lo ≤ x) = true) → r = ([D.dat (B (decide (x ≤ hi)))], [], [])) (q2 : (decide (lo ≤ x) = false) → r = ([D.dat (B false)], [], [])) : zaj cfg kk (den cfg kk) 39 Go.Proofs.Tryd.f39 [.dat (I x), .dat (I lo), .dat (I hi)] [] [] = some r := by
 rcases Bool.eq_false_or_eq_true (decide (lo ≤ x)) with d1 | d1
 · have oz := q1 d1
   subst oz; exact zpP kk x lo hi d1
 · have oz := q2 d1
   subst oz; exact zpj kk x lo hi d1
def hd71 (b : Bool) (es : List Dat) (x i : Int) : St := Nm [1, 7, 8, 9] [.dat (I x), .dat (.lst b es), .dat (I es.length), .dat (I i)] [none, none, none, none] [] []
theorem zlb (kk m : Nat) {s : St} {K : X → St → Prop} (b : Bool) (es : List Dat) (x i : Int) (x11 : Int) (hs : s.norm ((zad cfg kk 71 Go.Proofs.Tryd.f71).live (zaa (lp Go.Proofs.Tryd.f71 2))) = hd71 b es x i) (h1 : decide (i < (es.length : Int)) = true) (h2 : (0 ≤ i ∧ i < (es.length : Int)) ∧ es[i.toNat]? = some (I x11)) (h3 : decide (x11 = x) = true) (hK : K (X.ret) (Nm [4] [D.dat (B true)] [none] [] [])) : zae (zad cfg kk 71 Go.Proofs.Tryd.f71) kk (lp Go.Proofs.Tryd.f71 2) (m + 1) s K :=
 zam [(11, .at (I x11)), (200010, .yes), (200015, .yes)] hs (by kernel_rfl) rfl (ob h1 (ob h2 (ob h3 ob0))) (by kernel_rfl) hK
theorem zkT (kk m : Nat) {s : St} {K : X → St → Prop} (b : Bool) (es : List Dat) (x i : Int) (x11 : Int) (hs : s.norm ((zad cfg kk 71 Go.Proofs.Tryd.f71).live (zaa (lp Go.Proofs.Tryd.f71 2))) = hd71 b es x i) (h1 : decide (i < (es.length : Int)) = true) (h2 : (0 ≤ i ∧ i < (es.length : Int)) ∧ es[i.toNat]? = some (I x11)) (h3 : decide (x11 = x) = false) (hn : ∀ s : St, s.norm ((zad cfg kk 71 Go.Proofs.Tryd.f71).live (zaa (lp Go.Proofs.Tryd.f71 2))) = Nm [1, 7, 8, 9] [D.dat (I x), D.dat (Dat.lst b es), D.dat (I (es.length : Int)), D.dat (I (w64 (i + 1)))] [none, none, none, none] [] [] → zae (zad cfg kk 71 Go.Proofs.Tryd.f71) kk (lp Go.Proofs.Tryd.f71 2) m s K) : zae (zad cfg kk 71 Go.Proofs.Tryd.f71) kk (lp Go.Proofs.Tryd.f71 2) (m + 1) s K :=
 zag [(11, .at (I x11)), (200010, .yes), (200015, .no)] hs (by kernel_rfl) (ob h1 (ob h2 (ob h3 ob0))) (by kernel_rfl) hn
theorem zk1 (kk m : Nat) {s : St} {K : X → St → Prop} (b : Bool) (es : List Dat) (x i : Int) (x11 : Int) (hs : s.norm ((zad cfg kk 71 Go.Proofs.Tryd.f71).live (zaa (lp Go.Proofs.Tryd.f71 2))) = hd71 b es x i) (h1 : decide (i < (es.length : Int)) = false) (hK : K (X.exit 0) (Nm [4] [D.junk] [none] [] [])) : zae (zad cfg kk 71 Go.Proofs.Tryd.f71) kk (lp Go.Proofs.Tryd.f71 2) (m + 1) s K :=
 zam [(11, .at (I x11)), (200010, .no)] hs (by kernel_rfl) rfl (ob h1 ob0) (by kernel_rfl) hK
theorem zl6 (kk m : Nat) {s : St} {K : X → St → Prop} (b : Bool) (es : List Dat) (x i : Int) (x11 : Int) (hs : s.norm ((zad cfg kk 71 Go.Proofs.Tryd.f71).live (zaa (lp Go.Proofs.Tryd.f71 2))) = hd71 b es x i) (q1 : (decide (i < (es.length : Int)) = true) → (decide (x11 = x) = true) → ((0 ≤ i ∧ i < (es.length : Int)) ∧ es[i.toNat]? = some (I x11)) ∧ K (X.ret) (Nm [4] [D.dat (B true)] [none] [] [])) (q2 : (decide (i < (es.length : Int)) = true) → (decide (x11 = x) = false) → ((0 ≤ i ∧ i < (es.length : Int)) ∧ es[i.toNat]? = some (I x11)) ∧ (∀ s : St, s.norm ((zad cfg kk 71 Go.Proofs.Tryd.f71).live (zaa (lp Go.Proofs.Tryd.f71 2))) = Nm [1, 7, 8, 9] [D.dat (I x), D.dat (Dat.lst b es), D.dat (I (es.length : Int)), D.dat (I (w64 (i + 1)))] [none, none, none, none] [] [] → zae (zad cfg kk 71 Go.Proofs.Tryd.f71) kk (lp Go.Proofs.Tryd.f71 2) m s K)) (q3 : (decide (i < (es.length : Int)) = false) → K (X.exit 0) (Nm [4] [D.junk] [none] [] [])) : zae (zad cfg kk 71 Go.Proofs.Tryd.f71) kk (lp Go.Proofs.Tryd.f71 2) (m + 1) s K := by
 rcases Bool.eq_false_or_eq_true (decide (i < (es.length : Int))) with d1 | d1
 · rcases Bool.eq_false_or_eq_true (decide (x11 = x)) with d3 | d3
   · obtain ⟨o1, oz⟩ := q1 d1 d3
     exact zlb kk m b es x i x11 hs d1 o1 d3 oz
   · obtain ⟨o1, oz⟩ := q2 d1 d3
     exact zkT kk m b es x i x11 hs d1 o1 d3 oz
 · have oz := q3 d1
   exact zk1 kk m b es x i x11 hs d1 oz
theorem zls (kk : Nat) (b : Bool) (es : List Dat) (x : Int) (h2 : zao cfg kk 71 Go.Proofs.Tryd.f71 2 (hd71 b es x 0) (X.exit 0) (Nm [4] [D.junk] [none] [] [])) : zaj cfg kk (den cfg kk) 71 Go.Proofs.Tryd.f71 [.dat (Dat.lst b es), .dat (I x)] [] [] = some ([D.dat (B false)], [], []) :=
 zab [(300002, .loop (hd71 b es x 0) (.exit 0) (Nm [4] [.junk] [none] [] []))] (ob (rfl : _ = hd71 b es x 0) (ob h2 ob0)) (by kernel_rfl)
theorem zo5 (kk : Nat) (b : Bool) (es : List Dat) (x : Int) {r : Res} (q1 : (zao cfg kk 71 Go.Proofs.Tryd.f71 2 (hd71 b es x 0) (X.exit 0) (Nm [4] [D.junk] [none] [] [])) ∧ r = ([D.dat (B false)], [], [])) : zaj cfg kk (den cfg kk) 71 Go.Proofs.Tryd.f71 [.dat (Dat.lst b es), .dat (I x)] [] [] = some r := by
 obtain ⟨o1, oz⟩ := q1
 subst oz; exact zls kk b es x o1
theorem zlp (kk : Nat) (b : Bool) (es : List Dat) (x : Int) (h2 : zao cfg kk 71 Go.Proofs.Tryd.f71 2 (hd71 b es x 0) X.ret (Nm [4] [D.dat (B true)] [none] [] [])) : zaj cfg kk (den cfg kk) 71 Go.Proofs.Tryd.f71 [.dat (Dat.lst b es), .dat (I x)] [] [] = some ([D.dat (B true)], [], []) :=
 zab [(300002, .loop (hd71 b es x 0) .ret (Nm [4] [.dat (B true)] [none] [] []))] (ob (rfl : _ = hd71 b es x 0) (ob h2 ob0)) (by kernel_rfl)
theorem zpi (kk : Nat) (b : Bool) (es : List Dat) (x : Int) {r : Res} (q1 : (zao cfg kk 71 Go.Proofs.Tryd.f71 2 (hd71 b es x 0) X.ret (Nm [4] [D.dat (B true)] [none] [] [])) ∧ r = ([D.dat (B true)], [], [])) : zaj cfg kk (den cfg kk) 71 Go.Proofs.Tryd.f71 [.dat (Dat.lst b es), .dat (I x)] [] [] = some r := by
 obtain ⟨o1, oz⟩ := q1
 subst oz; exact zlp kk b es x o1
theorem zkR (kk : Nat) (x hi : Int) (h1 : decide (0 ≤ x) = true) : zaj cfg kk (den cfg kk) 43 Go.Proofs.Tryd.f43 [.dat (I x), .dat (I hi)] [] [] = some ([D.dat (B (decide (x < hi)))], [], []) :=
 zab [(200007, .yes)] (ob h1 (ob (rfl : true = true) (ob (rfl : true = true) ob0))) (by kernel_rfl)
theorem zlj (kk : Nat) (x hi : Int) (h1 : decide (0 ≤ x) = false) : zaj cfg kk (den cfg kk) 43 Go.Proofs.Tryd.f43 [.dat (I x), .dat (I hi)] [] [] = some ([D.dat (B false)], [], []) :=
 zab [(200007, .no)] (ob h1 (ob (rfl : false = false) (ob (rfl : false = false) ob0))) (by kernel_rfl)
theorem zpl (kk : Nat) (x hi : Int) {r : Res} (q1 : (decide (0 ≤ x) = true) → r = ([D.dat (B (decide (x < hi)))], [], [])) (q2 : (decide (0 ≤ x) = false) → r = ([D.dat (B false)], [], [])) : zaj cfg kk (den cfg kk) 43 Go.Proofs.Tryd.f43 [.dat (I x), .dat (I hi)] [] [] = some r := by
 rcases Bool.eq_false_or_eq_true (decide (0 ≤ x)) with d1 | d1
 · have oz := q1 d1
   subst oz; exact zkR kk x hi d1
 · have oz := q2 d1
   subst oz; exact zlj kk x hi d1
theorem zn6 (kk : Nat) (b : Bool) (o : Int) (cs rs ns : List Dat) (c : Cl) (h1 : (!c.l) = true) (h7 : decide (o ≤ c.a) = true) : zaj cfg kk (den cfg kk) 66 Go.Proofs.Tryd.f66 [.dat (Yd b o cs rs ns), .dat (c.d)] [] [] = some ([D.dat (B true)], [], []) :=
 zab [(200008, .yes), (200014, .yes)] (ob h1 (ob (rfl : true = true) (ob (rfl : true = true) (ob (rfl : true = true) (ob (rfl : true = true) (ob (rfl : true = true) (ob h7 (ob (rfl : true = true) (ob (rfl : true = true) (ob (rfl : true = true) (ob (rfl : true = true) (ob (rfl : true = true) ob0)))))))))))) (by kernel_rfl)
theorem znD (kk : Nat) (b : Bool) (o : Int) (cs rs ns : List Dat) (c : Cl) (h1 : (!c.l) = true) (h7 : decide (o ≤ c.a) = false) : zaj cfg kk (den cfg kk) 66 Go.Proofs.Tryd.f66 [.dat (Yd b o cs rs ns), .dat (c.d)] [] [] = some ([D.dat (B (decide (o ≤ c.b)))], [], []) :=
 zab [(200008, .yes), (200014, .no)] (ob h1 (ob (rfl : true = true) (ob (rfl : true = true) (ob (rfl : true = true) (ob (rfl : true = true) (ob (rfl : true = true) (ob h7 (ob (rfl : false = false) (ob (rfl : false = false) (ob (rfl : false = false) (ob (rfl : false = false) (ob (rfl : true = true) ob0)))))))))))) (by kernel_rfl)
theorem zoh (kk : Nat) (b : Bool) (o : Int) (cs rs ns : List Dat) (c : Cl) (h1 : (!c.l) = false) : zaj cfg kk (den cfg kk) 66 Go.Proofs.Tryd.f66 [.dat (Yd b o cs rs ns), .dat (c.d)] [] [] = some ([D.dat (B false)], [], []) :=
 zab [(200008, .no)] (ob h1 (ob (rfl : false = false) (ob (rfl : false = false) (ob (rfl : false = false) (ob (rfl : false = false) (ob (rfl : false = false) (ob (rfl : false = false) ob0))))))) (by kernel_rfl)
theorem names (kk : Nat) (b : Bool) (o : Int) (cs rs ns : List Dat) (c : Cl) {r : Res} (q1 : ((!c.l) = true) → (decide (o ≤ c.a) = true) → r = ([D.dat (B true)], [], [])) (q2 : ((!c.l) = true) → (decide (o ≤ c.a) = false) → r = ([D.dat (B (decide (o ≤ c.b)))], [], [])) (q3 : ((!c.l) = false) → r = ([D.dat (B false)], [], [])) : zaj cfg kk (den cfg kk) 66 Go.Proofs.Tryd.f66 [.dat (Yd b o cs rs ns), .dat (c.d)] [] [] = some r := by
 rcases Bool.eq_false_or_eq_true ((!c.l)) with d1 | d1
 · rcases Bool.eq_false_or_eq_true (decide (o ≤ c.a)) with d7 | d7
   · have oz := q1 d1 d7
     subst oz; exact zn6 kk b o cs rs ns c d1 d7
   · have oz := q2 d1 d7
     subst oz; exact znD kk b o cs rs ns c d1 d7
 · have oz := q3 d1
   subst oz; exact zoh kk b o cs rs ns c d1
def hd89 (b : Bool) (es : List Dat) (x i : Int) : St := Nm [0, 1, 7, 8] [.dat (.lst b es), .dat (I x), .dat (I es.length), .dat (I i)] [none, none, none, none] [] []
theorem zkU (kk m : Nat) {s : St} {K : X → St → Prop} (b : Bool) (es : List Dat) (x i : Int) (x14 : Int) (hs : s.norm ((zad cfg kk 89 Go.Proofs.Tryd.f89).live (zaa (lp Go.Proofs.Tryd.f89 2))) = hd89 b es x i) (h1 : decide (i < (es.length : Int)) = true) (h2 : (0 ≤ i ∧ i < (es.length : Int)) ∧ es[i.toNat]? = some (I x14)) (h3 : decide (x = x14) = true) (hK : K (X.ret) (Nm [4] [D.dat (I i)] [none] [] [])) : zae (zad cfg kk 89 Go.Proofs.Tryd.f89) kk (lp Go.Proofs.Tryd.f89 2) (m + 1) s K :=
 zam [(14, .at (I x14)), (200009, .yes), (200016, .yes)] hs (by kernel_rfl) rfl (ob h1 (ob h2 (ob h3 ob0))) (by kernel_rfl) hK
theorem zkV (kk m : Nat) {s : St} {K : X → St → Prop} (b : Bool) (es : List Dat) (x i : Int) (x14 : Int) (hs : s.norm ((zad cfg kk 89 Go.Proofs.Tryd.f89).live (zaa (lp Go.Proofs.Tryd.f89 2))) = hd89 b es x i) (h1 : decide (i < (es.length : Int)) = true) (h2 : (0 ≤ i ∧ i < (es.length : Int)) ∧ es[i.toNat]? = some (I x14)) (h3 : decide (x = x14) = false) (hn : ∀ s : St, s.norm ((zad cfg kk 89 Go.Proofs.Tryd.f89).live (zaa (lp Go.Proofs.Tryd.f89 2))) = Nm [0, 1, 7, 8] [D.dat (Dat.lst b es), D.dat (I x), D.dat (I (es.length : Int)), D.dat (I (w64 (i + 1)))] [none, none, none, none] [] [] → zae (zad cfg kk 89 Go.Proofs.Tryd.f89) kk (lp Go.Proofs.Tryd.f89 2) m s K) : zae (zad cfg kk 89 Go.Proofs.Tryd.f89) kk (lp Go.Proofs.Tryd.f89 2) (m + 1) s K :=
 zag [(14, .at (I x14)), (200009, .yes), (200016, .no)] hs (by kernel_rfl) (ob h1 (ob h2 (ob h3 ob0))) (by kernel_rfl) hn
theorem zkQ (kk m : Nat) {s : St} {K : X → St → Prop} (b : Bool) (es : List Dat) (x i : Int) (x14 : Int) (hs : s.norm ((zad cfg kk 89 Go.Proofs.Tryd.f89).live (zaa (lp Go.Proofs.Tryd.f89 2))) = hd89 b es x i) (h1 : decide (i < (es.length : Int)) = false) (hK : K (X.exit 0) (Nm [4] [D.junk] [none] [] [])) : zae (zad cfg kk 89 Go.Proofs.Tryd.f89) kk (lp Go.Proofs.Tryd.f89 2) (m + 1) s K :=
 zam [(14, .at (I x14)), (200009, .no)] hs (by kernel_rfl) rfl (ob h1 ob0) (by kernel_rfl) hK
theorem znn (kk m : Nat) {s : St} {K : X → St → Prop} (b : Bool) (es : List Dat) (x i : Int) (x14 : Int) (hs : s.norm ((zad cfg kk 89 Go.Proofs.Tryd.f89).live (zaa (lp Go.Proofs.Tryd.f89 2))) = hd89 b es x i) (q1 : (decide (i < (es.length : Int)) = true) → (decide (x = x14) = true) → ((0 ≤ i ∧ i < (es.length : Int)) ∧ es[i.toNat]? = some (I x14)) ∧ K (X.ret) (Nm [4] [D.dat (I i)] [none] [] [])) (q2 : (decide (i < (es.length : Int)) = true) → (decide (x = x14) = false) → ((0 ≤ i ∧ i < (es.length : Int)) ∧ es[i.toNat]? = some (I x14)) ∧ (∀ s : St, s.norm ((zad cfg kk 89 Go.Proofs.Tryd.f89).live (zaa (lp Go.Proofs.Tryd.f89 2))) = Nm [0, 1, 7, 8] [D.dat (Dat.lst b es), D.dat (I x), D.dat (I (es.length : Int)), D.dat (I (w64 (i + 1)))] [none, none, none, none] [] [] → zae (zad cfg kk 89 Go.Proofs.Tryd.f89) kk (lp Go.Proofs.Tryd.f89 2) m s K)) (q3 : (decide (i < (es.length : Int)) = false) → K (X.exit 0) (Nm [4] [D.junk] [none] [] [])) : zae (zad cfg kk 89 Go.Proofs.Tryd.f89) kk (lp Go.Proofs.Tryd.f89 2) (m + 1) s K := by
 rcases Bool.eq_false_or_eq_true (decide (i < (es.length : Int))) with d1 | d1
 · rcases Bool.eq_false_or_eq_true (decide (x = x14)) with d3 | d3
   · obtain ⟨o1, oz⟩ := q1 d1 d3
     exact zkU kk m b es x i x14 hs d1 o1 d3 oz
   · obtain ⟨o1, oz⟩ := q2 d1 d3
     exact zkV kk m b es x i x14 hs d1 o1 d3 oz
 · have oz := q3 d1
   exact zkQ kk m b es x i x14 hs d1 oz
theorem zly (kk : Nat) (b : Bool) (es : List Dat) (x : Int) (h2 : zao cfg kk 89 Go.Proofs.Tryd.f89 2 (hd89 b es x 0) (X.exit 0) (Nm [4] [D.junk] [none] [] [])) : zaj cfg kk (den cfg kk) 89 Go.Proofs.Tryd.f89 [.dat (Dat.lst b es), .dat (I x)] [] [] = some ([D.dat (I (-1))], [], []) :=
 zab [(300002, .loop (hd89 b es x 0) (.exit 0) (Nm [4] [.junk] [none] [] []))] (ob (rfl : _ = hd89 b es x 0) (ob h2 ob0)) (by kernel_rfl)
theorem zpB (kk : Nat) (b : Bool) (es : List Dat) (x : Int) {r : Res} (q1 : (zao cfg kk 89 Go.Proofs.Tryd.f89 2 (hd89 b es x 0) (X.exit 0) (Nm [4] [D.junk] [none] [] [])) ∧ r = ([D.dat (I (-1))], [], [])) : zaj cfg kk (den cfg kk) 89 Go.Proofs.Tryd.f89 [.dat (Dat.lst b es), .dat (I x)] [] [] = some r := by
 obtain ⟨o1, oz⟩ := q1
 subst oz; exact zly kk b es x o1
theorem zlc (kk : Nat) (b : Bool) (es : List Dat) (x j : Int) (h2 : zao cfg kk 89 Go.Proofs.Tryd.f89 2 (hd89 b es x 0) X.ret (Nm [4] [D.dat (I j)] [none] [] [])) : zaj cfg kk (den cfg kk) 89 Go.Proofs.Tryd.f89 [.dat (Dat.lst b es), .dat (I x)] [] [] = some ([D.dat (I j)], [], []) :=
 zab [(300002, .loop (hd89 b es x 0) .ret (Nm [4] [.dat (I j)] [none] [] []))] (ob (rfl : _ = hd89 b es x 0) (ob h2 ob0)) (by kernel_rfl)
theorem zpC (kk : Nat) (b : Bool) (es : List Dat) (x j : Int) {r : Res} (q1 : (zao cfg kk 89 Go.Proofs.Tryd.f89 2 (hd89 b es x 0) X.ret (Nm [4] [D.dat (I j)] [none] [] [])) ∧ r = ([D.dat (I j)], [], [])) : zaj cfg kk (den cfg kk) 89 Go.Proofs.Tryd.f89 [.dat (Dat.lst b es), .dat (I x)] [] [] = some r := by
 obtain ⟨o1, oz⟩ := q1
 subst oz; exact zlc kk b es x j o1
theorem zjp (kk : Nat) (b : Bool) (es : List Dat) (x : Int) (x7 : Int) (h1 : fD kk 89 [D.dat (Dat.lst b es), D.dat (I x)] [D.dat (I x7)]) : zaj cfg kk (den cfg kk) 67 Go.Proofs.Tryd.f67 [.dat (Dat.lst b es), .dat (I x)] [] [] = some ([D.dat (B (decide (0 ≤ x7)))], [], []) :=
 zab [(7, .ret [.dat (I x7)])] (ob h1 ob0) (by kernel_rfl)
theorem contains (kk : Nat) (b : Bool) (es : List Dat) (x : Int) (x7 : Int) {r : Res} (q1 : (fD kk 89 [D.dat (Dat.lst b es), D.dat (I x)] [D.dat (I x7)]) ∧ r = ([D.dat (B (decide (0 ≤ x7)))], [], [])) : zaj cfg kk (den cfg kk) 67 Go.Proofs.Tryd.f67 [.dat (Dat.lst b es), .dat (I x)] [] [] = some r := by
 obtain ⟨o1, oz⟩ := q1
 subst oz; exact zjp kk b es x x7 o1
theorem znG (kk : Nat) (b : Bool) (cs : List Dat) (at_ deep : Int) (c10 : Cl) (s16 : ByteArray) (s24 : ByteArray) (s32 : ByteArray) (h1 : (0 ≤ at_ ∧ at_ < (cs.length : Int)) ∧ cs[at_.toNat]? = some (Dat.agg [B c10.l, I c10.n, I c10.a, I c10.b])) (h2 : c10.l = true) (h3 : fD kk 72 [D.dat (I c10.n)] [D.dat (Dat.val (Value.string s16))]) : zaj cfg kk (den cfg kk) 40 Go.Proofs.Tryd.f40 [.dat (Dat.lst b cs), .dat (I at_), .dat (I deep)] [] [] = some ([D.dat (Dat.val (Value.string s16))], [], []) :=
 zab [(10, .at (c10.d)), (16, .ret [.dat (S s16)]), (24, .ret [.dat (S s24)]), (25, .ok), (26, .ok), (32, .ret [.dat (S s32)]), (33, .ok), (34, .ok), (200013, .yes)] (ob h1 (ob h2 (ob h3 ob0))) (by kernel_rfl)
theorem znP (kk : Nat) (b : Bool) (cs : List Dat) (at_ deep : Int) (c10 : Cl) (s16 : ByteArray) (s24 : ByteArray) (s32 : ByteArray) (h1 : (0 ≤ at_ ∧ at_ < (cs.length : Int)) ∧ cs[at_.toNat]? = some (Dat.agg [B c10.l, I c10.n, I c10.a, I c10.b])) (h2 : c10.l = false) (h3 : decide (deep = 0) = true) : zaj cfg kk (den cfg kk) 40 Go.Proofs.Tryd.f40 [.dat (Dat.lst b cs), .dat (I at_), .dat (I deep)] [] [] = some ([D.dat (Dat.val (Value.string (ByteArray.mk #[42])))], [], []) :=
 zab [(10, .at (c10.d)), (16, .ret [.dat (S s16)]), (24, .ret [.dat (S s24)]), (25, .ok), (26, .ok), (32, .ret [.dat (S s32)]), (33, .ok), (34, .ok), (200013, .no), (200018, .yes)] (ob h1 (ob h2 (ob h3 ob0))) (by kernel_rfl)
theorem zn8 (kk : Nat) (b : Bool) (cs : List Dat) (at_ deep : Int) (c10 : Cl) (s16 : ByteArray) (s24 : ByteArray) (s32 : ByteArray) (h1 : (0 ≤ at_ ∧ at_ < (cs.length : Int)) ∧ cs[at_.toNat]? = some (Dat.agg [B c10.l, I c10.n, I c10.a, I c10.b])) (h2 : c10.l = false) (h3 : decide (deep = 0) = false) (h4 : fD kk 40 [D.dat (Dat.lst b cs), D.dat (I c10.a), D.dat (I (w64 (deep - 1)))] [D.dat (Dat.val (Value.string s24))]) (h5 : 1 + s24.size ≤ 9223372036854775807) (h6 : (ByteArray.mk #[40] ++ s24).size + 1 ≤ 9223372036854775807) (h7 : fD kk 40 [D.dat (Dat.lst b cs), D.dat (I c10.b), D.dat (I (w64 (deep - 1)))] [D.dat (Dat.val (Value.string s32))]) (h8 : (ByteArray.mk #[40] ++ s24 ++ ByteArray.mk #[32]).size + s32.size ≤ 9223372036854775807) (h9 : (ByteArray.mk #[40] ++ s24 ++ ByteArray.mk #[32] ++ s32).size + 1 ≤ 9223372036854775807) : zaj cfg kk (den cfg kk) 40 Go.Proofs.Tryd.f40 [.dat (Dat.lst b cs), .dat (I at_), .dat (I deep)] [] [] = some ([D.dat (Dat.val (Value.string (ByteArray.mk #[40] ++ s24 ++ ByteArray.mk #[32] ++ s32 ++ ByteArray.mk #[41])))], [], []) :=
 zab [(10, .at (c10.d)), (16, .ret [.dat (S s16)]), (24, .ret [.dat (S s24)]), (25, .ok), (26, .ok), (32, .ret [.dat (S s32)]), (33, .ok), (34, .ok), (200013, .no), (200018, .no)] (ob h1 (ob h2 (ob h3 (ob h4 (ob h5 (ob h6 (ob h7 (ob h8 (ob h9 ob0))))))))) (by kernel_rfl)
theorem zqf (kk : Nat) (b : Bool) (cs : List Dat) (at_ deep : Int) (c10 : Cl) (s16 : ByteArray) (s24 : ByteArray) (s32 : ByteArray) {r : Res} (q1 : (c10.l = true) → ((0 ≤ at_ ∧ at_ < (cs.length : Int)) ∧ cs[at_.toNat]? = some (Dat.agg [B c10.l, I c10.n, I c10.a, I c10.b])) ∧ (fD kk 72 [D.dat (I c10.n)] [D.dat (Dat.val (Value.string s16))]) ∧ r = ([D.dat (Dat.val (Value.string s16))], [], [])) (q2 : (c10.l = false) → (decide (deep = 0) = true) → ((0 ≤ at_ ∧ at_ < (cs.length : Int)) ∧ cs[at_.toNat]? = some (Dat.agg [B c10.l, I c10.n, I c10.a, I c10.b])) ∧ r = ([D.dat (Dat.val (Value.string (ByteArray.mk #[42])))], [], [])) (q3 : (c10.l = false) → (decide (deep = 0) = false) → ((0 ≤ at_ ∧ at_ < (cs.length : Int)) ∧ cs[at_.toNat]? = some (Dat.agg [B c10.l, I c10.n, I c10.a, I c10.b])) ∧ (fD kk 40 [D.dat (Dat.lst b cs), D.dat (I c10.a), D.dat (I (w64 (deep - 1)))] [D.dat (Dat.val (Value.string s24))]) ∧ (1 + s24.size ≤ 9223372036854775807) ∧ ((ByteArray.mk #[40] ++ s24).size + 1 ≤ 9223372036854775807) ∧ (fD kk 40 [D.dat (Dat.lst b cs), D.dat (I c10.b), D.dat (I (w64 (deep - 1)))] [D.dat (Dat.val (Value.string s32))]) ∧ ((ByteArray.mk #[40] ++ s24 ++ ByteArray.mk #[32]).size + s32.size ≤ 9223372036854775807) ∧ ((ByteArray.mk #[40] ++ s24 ++ ByteArray.mk #[32] ++ s32).size + 1 ≤ 9223372036854775807) ∧ r = ([D.dat (Dat.val (Value.string (ByteArray.mk #[40] ++ s24 ++ ByteArray.mk #[32] ++ s32 ++ ByteArray.mk #[41])))], [], [])) : zaj cfg kk (den cfg kk) 40 Go.Proofs.Tryd.f40 [.dat (Dat.lst b cs), .dat (I at_), .dat (I deep)] [] [] = some r := by
 rcases Bool.eq_false_or_eq_true (c10.l) with d2 | d2
 · obtain ⟨o1, o2, oz⟩ := q1 d2
   subst oz; exact znG kk b cs at_ deep c10 s16 s24 s32 o1 d2 o2
 · rcases Bool.eq_false_or_eq_true (decide (deep = 0)) with d3 | d3
   · obtain ⟨o1, oz⟩ := q2 d2 d3
     subst oz; exact znP kk b cs at_ deep c10 s16 s24 s32 o1 d2 d3
   · obtain ⟨o1, o2, o3, o4, o5, o6, o7, oz⟩ := q3 d2 d3
     subst oz; exact zn8 kk b cs at_ deep c10 s16 s24 s32 o1 d2 d3 o2 o3 o4 o5 o6 o7
theorem zor (kk : Nat) (b : Bool) (o : Int) (cs rs ns : List Dat) (at_ deep : Int) (c11 : Cl) (s34 : ByteArray) (s18 : ByteArray) (s26 : ByteArray) (h1 : (0 ≤ at_ ∧ at_ < (cs.length : Int)) ∧ cs[at_.toNat]? = some (Dat.agg [B c11.l, I c11.n, I c11.a, I c11.b])) (h2 : c11.l = true) (h3 : fD kk 74 [D.dat (I c11.n)] [D.dat (Dat.val (Value.string s34))]) : zaj cfg kk (den cfg kk) 44 Go.Proofs.Tryd.f44 [.dat (Yd b o cs rs ns), .dat (I at_), .dat (I deep)] [] [] = some ([D.dat (Dat.val (Value.string s34))], [], []) :=
 zab [(11, .at (c11.d)), (34, .ret [.dat (S s34)]), (18, .ret [.dat (S s18)]), (19, .ok), (20, .ok), (26, .ret [.dat (S s26)]), (27, .ok), (28, .ok), (200029, .yes)] (ob h1 (ob h2 (ob h3 ob0))) (by kernel_rfl)
theorem zn5 (kk : Nat) (b : Bool) (o : Int) (cs rs ns : List Dat) (at_ deep : Int) (c11 : Cl) (s34 : ByteArray) (s18 : ByteArray) (s26 : ByteArray) (h1 : (0 ≤ at_ ∧ at_ < (cs.length : Int)) ∧ cs[at_.toNat]? = some (Dat.agg [B c11.l, I c11.n, I c11.a, I c11.b])) (h2 : c11.l = false) (h3 : decide (deep = 0) = true) : zaj cfg kk (den cfg kk) 44 Go.Proofs.Tryd.f44 [.dat (Yd b o cs rs ns), .dat (I at_), .dat (I deep)] [] [] = some ([D.dat (Dat.val (Value.string (ByteArray.mk #[42])))], [], []) :=
 zab [(11, .at (c11.d)), (34, .ret [.dat (S s34)]), (18, .ret [.dat (S s18)]), (19, .ok), (20, .ok), (26, .ret [.dat (S s26)]), (27, .ok), (28, .ok), (200029, .no), (200035, .yes)] (ob h1 (ob h2 (ob h3 ob0))) (by kernel_rfl)
theorem znN (kk : Nat) (b : Bool) (o : Int) (cs rs ns : List Dat) (at_ deep : Int) (c11 : Cl) (s34 : ByteArray) (s18 : ByteArray) (s26 : ByteArray) (h1 : (0 ≤ at_ ∧ at_ < (cs.length : Int)) ∧ cs[at_.toNat]? = some (Dat.agg [B c11.l, I c11.n, I c11.a, I c11.b])) (h2 : c11.l = false) (h3 : decide (deep = 0) = false) (h4 : fD kk 44 [D.dat (Dat.agg [I o, Dat.lst b cs, Dat.lst b rs, Dat.lst b ns]), D.dat (I c11.a), D.dat (I (w64 (deep - 1)))] [D.dat (Dat.val (Value.string s18))]) (h5 : 1 + s18.size ≤ 9223372036854775807) (h6 : (ByteArray.mk #[40] ++ s18).size + 1 ≤ 9223372036854775807) (h7 : fD kk 44 [D.dat (Dat.agg [I o, Dat.lst b cs, Dat.lst b rs, Dat.lst b ns]), D.dat (I c11.b), D.dat (I (w64 (deep - 1)))] [D.dat (Dat.val (Value.string s26))]) (h8 : (ByteArray.mk #[40] ++ s18 ++ ByteArray.mk #[32]).size + s26.size ≤ 9223372036854775807) (h9 : (ByteArray.mk #[40] ++ s18 ++ ByteArray.mk #[32] ++ s26).size + 1 ≤ 9223372036854775807) : zaj cfg kk (den cfg kk) 44 Go.Proofs.Tryd.f44 [.dat (Yd b o cs rs ns), .dat (I at_), .dat (I deep)] [] [] = some ([D.dat (Dat.val (Value.string (ByteArray.mk #[40] ++ s18 ++ ByteArray.mk #[32] ++ s26 ++ ByteArray.mk #[41])))], [], []) :=
 zab [(11, .at (c11.d)), (34, .ret [.dat (S s34)]), (18, .ret [.dat (S s18)]), (19, .ok), (20, .ok), (26, .ret [.dat (S s26)]), (27, .ok), (28, .ok), (200029, .no), (200035, .no)] (ob h1 (ob h2 (ob h3 (ob h4 (ob h5 (ob h6 (ob h7 (ob h8 (ob h9 ob0))))))))) (by kernel_rfl)
theorem zqo (kk : Nat) (b : Bool) (o : Int) (cs rs ns : List Dat) (at_ deep : Int) (c11 : Cl) (s34 : ByteArray) (s18 : ByteArray) (s26 : ByteArray) {r : Res} (q1 : (c11.l = true) → ((0 ≤ at_ ∧ at_ < (cs.length : Int)) ∧ cs[at_.toNat]? = some (Dat.agg [B c11.l, I c11.n, I c11.a, I c11.b])) ∧ (fD kk 74 [D.dat (I c11.n)] [D.dat (Dat.val (Value.string s34))]) ∧ r = ([D.dat (Dat.val (Value.string s34))], [], [])) (q2 : (c11.l = false) → (decide (deep = 0) = true) → ((0 ≤ at_ ∧ at_ < (cs.length : Int)) ∧ cs[at_.toNat]? = some (Dat.agg [B c11.l, I c11.n, I c11.a, I c11.b])) ∧ r = ([D.dat (Dat.val (Value.string (ByteArray.mk #[42])))], [], [])) (q3 : (c11.l = false) → (decide (deep = 0) = false) → ((0 ≤ at_ ∧ at_ < (cs.length : Int)) ∧ cs[at_.toNat]? = some (Dat.agg [B c11.l, I c11.n, I c11.a, I c11.b])) ∧ (fD kk 44 [D.dat (Dat.agg [I o, Dat.lst b cs, Dat.lst b rs, Dat.lst b ns]), D.dat (I c11.a), D.dat (I (w64 (deep - 1)))] [D.dat (Dat.val (Value.string s18))]) ∧ (1 + s18.size ≤ 9223372036854775807) ∧ ((ByteArray.mk #[40] ++ s18).size + 1 ≤ 9223372036854775807) ∧ (fD kk 44 [D.dat (Dat.agg [I o, Dat.lst b cs, Dat.lst b rs, Dat.lst b ns]), D.dat (I c11.b), D.dat (I (w64 (deep - 1)))] [D.dat (Dat.val (Value.string s26))]) ∧ ((ByteArray.mk #[40] ++ s18 ++ ByteArray.mk #[32]).size + s26.size ≤ 9223372036854775807) ∧ ((ByteArray.mk #[40] ++ s18 ++ ByteArray.mk #[32] ++ s26).size + 1 ≤ 9223372036854775807) ∧ r = ([D.dat (Dat.val (Value.string (ByteArray.mk #[40] ++ s18 ++ ByteArray.mk #[32] ++ s26 ++ ByteArray.mk #[41])))], [], [])) : zaj cfg kk (den cfg kk) 44 Go.Proofs.Tryd.f44 [.dat (Yd b o cs rs ns), .dat (I at_), .dat (I deep)] [] [] = some r := by
 rcases Bool.eq_false_or_eq_true (c11.l) with d2 | d2
 · obtain ⟨o1, o2, oz⟩ := q1 d2
   subst oz; exact zor kk b o cs rs ns at_ deep c11 s34 s18 s26 o1 d2 o2
 · rcases Bool.eq_false_or_eq_true (decide (deep = 0)) with d3 | d3
   · obtain ⟨o1, oz⟩ := q2 d2 d3
     subst oz; exact zn5 kk b o cs rs ns at_ deep c11 s34 s18 s26 o1 d2 d3
   · obtain ⟨o1, o2, o3, o4, o5, o6, o7, oz⟩ := q3 d2 d3
     subst oz; exact znN kk b o cs rs ns at_ deep c11 s34 s18 s26 o1 d2 d3 o2 o3 o4 o5 o6 o7
end Go.Den
namespace Go.Den
open Go
set_option linter.unusedVariables false
set_option maxRecDepth 100000
theorem ih {α : Type} {es : List α} {i : Nat} {d : α} (h : es[i]? = some d) : (0 ≤ (i : Int) ∧ (i : Int) < (es.length : Int)) ∧ es[((i : Int)).toNat]? = some d := by
 have hlt := (List.getElem?_eq_some_iff.1 h).1
 refine ⟨⟨by omega, by omega⟩, ?_⟩
 rw [Int.toNat_natCast]
 exact h
theorem gm {α : Type} {L : List α} {f : α → Dat} {i : Nat} {x : α} (h : L[i]? = some x) : (L.map f)[i]? = some (f x) := by rw [List.getElem?_map, h]; rfl
theorem wi (i : Nat) (h : i ≤ 1048576) : w64 ((i : Int) + 1) = ((i + 1 : Nat) : Int) := by rw [zbm (by omega)]; rfl
theorem zbq {α : Type} {L : List α} {i : Nat} (h : i < L.length) : ∃ x, L[i]? = some x := ⟨_, List.getElem?_eq_getElem h⟩
abbrev YD (b : Bool) (o : Int) (cs : List Cl) (rs ns : List Int) : Dat := Yd b o (cs.map Cl.d) (rs.map (I ·)) (ns.map (I ·))
end Go.Den
namespace Go.Den
open Go
set_option linter.unusedVariables false
set_option maxRecDepth 100000
def inB (x lo hi : Int) : Bool := decide (lo ≤ x) && decide (x ≤ hi)
def zac (x hi : Int) : Bool := decide (0 ≤ x) && decide (x < hi)
theorem znF (x hi : Int) : inB x 0 (hi - 1) = zac x hi := by unfold inB zac; congr 1; rw [decide_eq_decide]; omega
def zbX (n : Int) (c : Cl) : Bool := match c.l with
 | true => decide (c.a = 0) && decide (c.b = 0)
 | false => decide (c.n = 0) && (zac c.a n && zac c.b n)
def hasB (zs : List Int) (x : Int) : Bool := zs.any fun z => decide (z = x)
theorem gd {α : Type} {L : List α} {i : Nat} {x z : α} (h : L[i]? = some x) : L.getD i z = x := by rw [List.getD_eq_getElem?_getD, h]; rfl
theorem zja (x lo hi : Int) : EvN 1 39 [.dat (I x), .dat (I lo), .dat (I hi)] [] [] ([.dat (B (inB x lo hi))], [], []) :=
 zaw Go.Proofs.Tryd.f39 0 (by kernel_rfl) (by kernel_rfl) fun kk _ => l1In kk x lo hi (fun d => by simp only [decide_eq_true_eq] at d; simp [inB, d]) (fun d => by simp only [decide_eq_false_iff_not] at d; simp [inB, d])
theorem zlo (x hi : Int) : EvN 1 43 [.dat (I x), .dat (I hi)] [] [] ([.dat (B (zac x hi))], [], []) :=
 zaw Go.Proofs.Tryd.f43 0 (by kernel_rfl) (by kernel_rfl) fun kk _ => zpl kk x hi (fun d => by simp only [decide_eq_true_eq] at d; simp [zac, d]) (fun d => by simp only [decide_eq_false_iff_not] at d; simp [zac, d])
theorem zie {zs : List Int} {x : Int} (p : Int → Bool) : zs.any p = !(List.range zs.length).all fun i => !p (zs.getD i 0) := by
 rw [← List.not_any_eq_all_not]
 simp only [Bool.not_not, List.any_eq, List.mem_range]
 rw [decide_eq_decide]
 constructor
 · rintro ⟨z, hz, hp⟩
   obtain ⟨i, hi, rfl⟩ := List.mem_iff_getElem.1 hz
   exact ⟨i, hi, by simpa [List.getD_eq_getElem?_getD, hi] using hp⟩
 · rintro ⟨i, hi, hp⟩
   exact ⟨zs[i], List.getElem_mem hi, by simpa [List.getD_eq_getElem?_getD, hi] using hp⟩
theorem znA (b : Bool) (zs : List Int) (x : Int) (h : zs.length ≤ 1048576) : EvN 1048580 71 [.dat (.lst b (zs.map (I ·))), .dat (I x)] [] [] ([.dat (B (hasB zs x))], [], []) := by
 refine zaw Go.Proofs.Tryd.f71 1048579 (by kernel_rfl) (by kernel_rfl) fun kk hkk => ?_
 have hlen : (zs.map (I ·)).length = zs.length := by simp
 obtain ⟨h1, h2⟩ := zk5 (kk := kk) (f := 71) (fn := Go.Proofs.Tryd.f71) (r := 2) (x1 := .exit 0) (x2 := .ret) (s1 := Nm [4] [.junk] [none] [] []) (s2 := Nm [4] [.dat (B true)] [none] [] []) (s0 := hd71 b (zs.map (I ·)) x 0) (fun i => hd71 b (zs.map (I ·)) x i) (fun i => !decide (zs.getD i 0 = x)) zs.length (by omega) (fun i hi _ m s K hs hgo hbad => by
  obtain ⟨z, hz⟩ := zbq hi
  have hzd := ih (gm (f := (I ·)) hz)
  refine zl6 kk m b _ x i z hs (fun _ d => ⟨hzd, hbad ?_⟩) (fun _ d => ⟨hzd, fun s' hs' => hgo ?_ s' ?_⟩) (fun d => absurd (of_decide_eq_false d) (by omega))
  · rw [gd hz, d]; rfl
  · rw [gd hz, d]; rfl
  · rw [hs', wi i (by omega)]; rfl) (fun _ m s K hs hK => zl6 kk m b _ x _ 0 hs (fun d => absurd (of_decide_eq_true d) (by omega)) (fun d => absurd (of_decide_eq_true d) (by omega)) (fun _ => hK)) rfl
 have ha : hasB zs x = _ := zie (x := x) fun z => decide (z = x)
 rw [ha]
 cases hall : (List.range zs.length).all fun i => !decide (zs.getD i 0 = x) with
 | true => exact zo5 kk b _ x ⟨h1 hall, rfl⟩
 | false => exact zpi kk b _ x ⟨h2 hall, rfl⟩
theorem zi0 (b : Bool) (zs : List Int) (x : Int) (h : zs.length ≤ 1048576) : EvN 1048581 67 [.dat (.lst b (zs.map (I ·))), .dat (I x)] [] [] ([.dat (B (hasB zs x))], [], []) := by
 have hlen : (zs.map (I ·)).length = zs.length := by simp
 have key : ∃ j : Int, EvN 1048580 89 [.dat (.lst b (zs.map (I ·))), .dat (I x)] [] [] ([.dat (I j)], [], []) ∧ decide (0 ≤ j) = hasB zs x := by
  have lp := fun kk (hkk : 1048579 ≤ kk) => zeI (kk := kk) (f := 89) (fn := Go.Proofs.Tryd.f89) (r := 2) (x1 := .exit 0) (x2 := .ret) (s1 := Nm [4] [.junk] [none] [] []) (s2 := fun i => Nm [4] [.dat (I i)] [none] [] []) (s0 := hd89 b (zs.map (I ·)) x 0) (fun i => hd89 b (zs.map (I ·)) x i) (fun i => !decide (zs.getD i 0 = x)) zs.length (by omega) (fun i hi _ m s K hs hgo hbad => by
   obtain ⟨z, hz⟩ := zbq hi
   have hzd := ih (gm (f := (I ·)) hz)
   refine znn kk m b _ x i z hs (fun _ d => ⟨hzd, hbad ?_⟩) (fun _ d => ⟨hzd, fun s' hs' => hgo ?_ s' ?_⟩) (fun d => absurd (of_decide_eq_false d) (by omega))
   · rw [gd hz]; simp only [decide_eq_true_eq] at d; simp [d]
   · rw [gd hz]; simp only [decide_eq_false_iff_not] at d; simp [Ne.symm d]
   · rw [hs', wi i (by omega)]; rfl) (fun _ m s K hs hK => znn kk m b _ x _ 0 hs (fun d => absurd (of_decide_eq_true d) (by omega)) (fun d => absurd (of_decide_eq_true d) (by omega)) (fun _ => hK)) rfl
  have ha : hasB zs x = _ := zie (x := x) fun z => decide (z = x)
  rw [ha]
  cases hall : (List.range zs.length).all fun i => !decide (zs.getD i 0 = x) with
  | true => exact ⟨-1, zaw Go.Proofs.Tryd.f89 1048579 (by kernel_rfl) (by kernel_rfl) fun kk hkk => zpB kk b _ x ⟨(lp kk hkk).1 hall, rfl⟩, rfl⟩
  | false =>
    obtain ⟨j, q, h3, h4, h5⟩ := zfC _ hall
    have hj : j < zs.length := by
     have := (List.getElem?_eq_some_iff.1 h3).1
     simpa using this
    rw [List.getElem?_range hj] at h3
    cases h3
    exact ⟨j, zaw Go.Proofs.Tryd.f89 1048579 (by kernel_rfl) (by kernel_rfl) fun kk hkk => zpC kk b _ x j ⟨(lp kk hkk).2 j hj (fun i hi => h5 i i hi (List.getElem?_range (by omega))) h4, rfl⟩, by simp⟩
 obtain ⟨j, h1, h2⟩ := key
 exact zaw Go.Proofs.Tryd.f67 1048580 (by kernel_rfl) (by kernel_rfl) fun kk hkk => contains kk b _ x j ⟨h1 kk (by omega), by rw [← h2]⟩
end Go.Den
namespace Go.Den
open Go
set_option linter.unusedVariables false
set_option maxRecDepth 100000
open Go.Proofs.YtcmcfebihbmmeaaDoor (num numV)
theorem zgH {f : Nat} {g : List D → List (List D) → List (Option Row) → Option Res} {args : List D} {u : List (List D)} {l : List (Option Row)} {r : Res} (hx : cfg.ext f = some g) (h : g args u l = some r) : EvN 1 f args u l r := fun k hk => by
 obtain ⟨m, rfl⟩ : ∃ m, k = m + 1 := ⟨k - 1, by omega⟩
 simp only [den, hx, Option.bind_some, h]
def In64 (n : Int) : Prop := -9223372036854775808 ≤ n ∧ n ≤ 9223372036854775807
theorem znv {n : Int} (h : In64 n) : zeo numV [.dat (I n)] [] [] = some ([.dat (S (num n))], [], []) := by
 have : numV [.int .i64 n] = some [.string (num n)] := by show (if -9223372036854775808 ≤ n ∧ n ≤ 9223372036854775807 then some [Value.string (num n)] else none) = _; exact if_pos h
 show (ziw [.dat (I n)]).bind (fun vs => (numV vs).map fun rs => (rs.map DV, [], [])) = _
 show (numV [.int .i64 n]).map (fun rs => (rs.map DV, ([] : List (List D)), ([] : List (Option Row)))) = _
 rw [this]
 rfl
theorem zku {n : Int} (h : In64 n) : EvN 1 72 [.dat (I n)] [] [] ([.dat (S (num n))], [], []) := zgH (by kernel_rfl) (znv h)
theorem zmu {n : Int} (h : In64 n) : EvN 1 74 [.dat (I n)] [] [] ([.dat (S (num n))], [], []) := zgH (by kernel_rfl) (znv h)
theorem zkc {n : Int} (h : In64 n) : (num n).size ≤ 40 := by
 have h0 := h.1
 have h2 := h.2
 have h30 : (10 : Nat) ^ (29 + 1) = 1000000000000000000000000000000 := by decide
 have h1 := Go.Proofs.YtcmcfebihbmmeaaDoor.dec_len 29 n.natAbs (by rw [h30]; omega)
 show (Lib.itoa n).toArray.size ≤ 40
 unfold Lib.itoa
 split
 · simp; omega
 · have : n.toNat = n.natAbs := by omega
   simp
   rw [this]
   omega
def Cl.fine (c : Cl) : Prop := In64 c.n ∧ In64 c.a ∧ In64 c.b
abbrev c0 : Cl := ⟨false, 0, 0, 0⟩
def star : ByteArray := ByteArray.mk #[42]
def zjz (x y : ByteArray) : ByteArray := ByteArray.mk #[40] ++ x ++ ByteArray.mk #[32] ++ y ++ ByteArray.mk #[41]
def showB (cs : List Cl) : Nat → Int → ByteArray
 | d, at_ => match (cs.getD at_.toNat c0).l with
   | true => num (cs.getD at_.toNat c0).n
   | false => match d with
     | 0 => star
     | d + 1 => zjz (showB cs d (cs.getD at_.toNat c0).a) (showB cs d (cs.getD at_.toNat c0).b)
def zfq (cs : List Cl) : Prop := ∀ (i : Nat) (c : Cl), cs[i]? = some c → c.fine ∧ zbX cs.length c = true
theorem zmH (x y : ByteArray) : (zjz x y).size = x.size + y.size + 3 := by
 unfold zjz
 simp only [ByteArray.size_append]
 show 1 + x.size + 1 + y.size + 1 = _
 omega
theorem zbD (cs : List Cl) (hc : zfq cs) : ∀ (d : Nat) (at_ : Int), (showB cs d at_).size + 3 ≤ 43 * 2 ^ d := fun d => by
 induction d with
 | zero =>
   intro at_
   unfold showB
   split
   · have : (num (cs.getD at_.toNat c0).n).size ≤ 40 := zkc (by
      by_cases h : at_.toNat < cs.length
      · obtain ⟨c, hc'⟩ := zbq h
        rw [gd hc']
        exact (hc _ c hc').1.1
      · rw [List.getD_eq_getElem?_getD, List.getElem?_eq_none (by omega)]
        exact ⟨by decide, by decide⟩)
     omega
   · show 1 + 3 ≤ _
     decide
 | succ d ihd =>
   intro at_
   unfold showB
   split
   · have h1 : (num (cs.getD at_.toNat c0).n).size ≤ 40 := zkc (by
      by_cases h : at_.toNat < cs.length
      · obtain ⟨c, hc'⟩ := zbq h
        rw [gd hc']
        exact (hc _ c hc').1.1
      · rw [List.getD_eq_getElem?_getD, List.getElem?_eq_none (by omega)]
        exact ⟨by decide, by decide⟩)
     have h2 : 0 < 2 ^ (d + 1) := Nat.pow_pos (by decide)
     omega
   · rw [zmH]
     have h1 := ihd (cs.getD at_.toNat c0).a
     have h2 := ihd (cs.getD at_.toNat c0).b
     rw [Nat.pow_succ]
     omega
theorem zhB {x n : Int} (h : zac x n = true) : 0 ≤ x ∧ x < n := by simpa [zac] using h
theorem zhh {cs : List Cl} (hc : zfq cs) {i : Nat} {c : Cl} (h : cs[i]? = some c) (hl : c.l = false) : (0 ≤ c.a ∧ c.a < cs.length) ∧ (0 ≤ c.b ∧ c.b < cs.length) := by
 have := (hc i c h).2
 unfold zbX at this
 rw [hl] at this
 simp only [Bool.and_eq_true] at this
 exact ⟨zhB this.2.1, zhB this.2.2⟩
theorem zgX {cs : List Cl} {d : Nat} {at_ : Int} {c : Cl} (h : cs[at_.toNat]? = some c) : showB cs d at_ = match c.l with
 | true => num c.n
 | false => match d with
   | 0 => star
   | d + 1 => zjz (showB cs d c.a) (showB cs d c.b) := by
 cases d with
 | zero =>
   have e : showB cs 0 at_ = match (cs.getD at_.toNat c0).l with | true => num (cs.getD at_.toNat c0).n | false => star := showB.eq_def cs 0 at_
   rw [gd h] at e
   exact e
 | succ d =>
   have e : showB cs (d + 1) at_ = match (cs.getD at_.toNat c0).l with | true => num (cs.getD at_.toNat c0).n | false => zjz (showB cs d (cs.getD at_.toNat c0).a) (showB cs d (cs.getD at_.toNat c0).b) := showB.eq_def cs (d + 1) at_
   rw [gd h] at e
   exact e
theorem ih2 {cs : List Cl} {at_ : Int} {c : Cl} (h0 : 0 ≤ at_) (h : cs[at_.toNat]? = some c) : (0 ≤ at_ ∧ at_ < ((cs.map Cl.d).length : Int)) ∧ (cs.map Cl.d)[at_.toNat]? = some c.d := by
 have hlt := (List.getElem?_eq_some_iff.1 h).1
 exact ⟨⟨h0, by simp; omega⟩, gm h⟩
theorem zoa (b : Bool) (cs : List Cl) (hc : zfq cs) : ∀ (d : Nat) (at_ : Int), d ≤ 10 → 0 ≤ at_ → at_ < cs.length → EvN (d + 2) 40 [.dat (.lst b (cs.map Cl.d)), .dat (I at_), .dat (I d)] [] [] ([.dat (S (showB cs d at_))], [], []) := fun d => by
 induction d with
 | zero =>
   intro at_ hd h0 h1
   obtain ⟨c, hz⟩ := zbq (L := cs) (i := at_.toNat) (by omega)
   rw [zgX hz]
   refine zaw Go.Proofs.Tryd.f40 1 (by kernel_rfl) (by kernel_rfl) fun kk hkk => ?_
   have hzd := ih2 h0 hz
   refine zqf kk b _ at_ _ c (num c.n) star star (fun d1 => ⟨hzd, zku (hc _ c hz).1.1 kk (by omega), by rw [d1]⟩) (fun d1 d2 => ⟨hzd, by rw [d1]; rfl⟩) (fun d1 d2 => absurd (of_decide_eq_false d2) (by simp))
 | succ d ihd =>
   intro at_ hd h0 h1
   obtain ⟨c, hz⟩ := zbq (L := cs) (i := at_.toNat) (by omega)
   rw [zgX hz]
   refine zaw Go.Proofs.Tryd.f40 (d + 2) (by kernel_rfl) (by kernel_rfl) fun kk hkk => ?_
   have hzd := ih2 h0 hz
   have hw : w64 (((d + 1 : Nat) : Int) - 1) = (d : Int) := by rw [zbm (by omega)]; omega
   refine zqf kk b _ at_ _ c (num c.n) (showB cs d c.a) (showB cs d c.b) (fun d1 => ⟨hzd, zku (hc _ c hz).1.1 kk (by omega), by rw [d1]⟩) (fun d1 d2 => absurd (of_decide_eq_true d2) (by omega)) (fun d1 d2 => ?_)
   obtain ⟨k1, k2⟩ := zhh hc hz d1
   have s1 := zbD cs hc d c.a
   have s2 := zbD cs hc d c.b
   have hp : 43 * 2 ^ d ≤ 43 * 2 ^ 10 := Nat.mul_le_mul_left _ (Nat.pow_le_pow_right (by decide) (by omega))
   have hp2 : 43 * 2 ^ 10 = 44032 := by decide
   rw [hw]
   refine ⟨hzd, ihd c.a (by omega) k1.1 k1.2 kk (by omega), by omega, ?_, ihd c.b (by omega) k2.1 k2.2 kk (by omega), ?_, ?_, by rw [d1]; rfl⟩
   · simp only [ByteArray.size_append]; show 1 + _ + 1 ≤ _; omega
   · simp only [ByteArray.size_append]; show 1 + _ + 1 + _ ≤ _; omega
   · simp only [ByteArray.size_append]; show 1 + _ + 1 + _ + 1 ≤ _; omega
theorem znO (b : Bool) (o : Int) (cs : List Cl) (rs ns : List Dat) (hc : zfq cs) : ∀ (d : Nat) (at_ : Int), d ≤ 10 → 0 ≤ at_ → at_ < cs.length → EvN (d + 2) 44 [.dat (Yd b o (cs.map Cl.d) rs ns), .dat (I at_), .dat (I d)] [] [] ([.dat (S (showB cs d at_))], [], []) := fun d => by
 induction d with
 | zero =>
   intro at_ hd h0 h1
   obtain ⟨c, hz⟩ := zbq (L := cs) (i := at_.toNat) (by omega)
   rw [zgX hz]
   refine zaw Go.Proofs.Tryd.f44 1 (by kernel_rfl) (by kernel_rfl) fun kk hkk => ?_
   have hzd := ih2 h0 hz
   refine zqo kk b o _ rs ns at_ _ c (num c.n) star star (fun d1 => ⟨hzd, zmu (hc _ c hz).1.1 kk (by omega), by rw [d1]⟩) (fun d1 d2 => ⟨hzd, by rw [d1]; rfl⟩) (fun d1 d2 => absurd (of_decide_eq_false d2) (by simp))
 | succ d ihd =>
   intro at_ hd h0 h1
   obtain ⟨c, hz⟩ := zbq (L := cs) (i := at_.toNat) (by omega)
   rw [zgX hz]
   refine zaw Go.Proofs.Tryd.f44 (d + 2) (by kernel_rfl) (by kernel_rfl) fun kk hkk => ?_
   have hzd := ih2 h0 hz
   have hw : w64 (((d + 1 : Nat) : Int) - 1) = (d : Int) := by rw [zbm (by omega)]; omega
   refine zqo kk b o _ rs ns at_ _ c (num c.n) (showB cs d c.a) (showB cs d c.b) (fun d1 => ⟨hzd, zmu (hc _ c hz).1.1 kk (by omega), by rw [d1]⟩) (fun d1 d2 => absurd (of_decide_eq_true d2) (by omega)) (fun d1 d2 => ?_)
   obtain ⟨k1, k2⟩ := zhh hc hz d1
   have s1 := zbD cs hc d c.a
   have s2 := zbD cs hc d c.b
   have hp : 43 * 2 ^ d ≤ 43 * 2 ^ 10 := Nat.mul_le_mul_left _ (Nat.pow_le_pow_right (by decide) (by omega))
   have hp2 : 43 * 2 ^ 10 = 44032 := by decide
   rw [hw]
   refine ⟨hzd, ihd c.a (by omega) k1.1 k1.2 kk (by omega), by omega, ?_, ihd c.b (by omega) k2.1 k2.2 kk (by omega), ?_, ?_, by rw [d1]; rfl⟩
   · simp only [ByteArray.size_append]; show 1 + _ + 1 ≤ _; omega
   · simp only [ByteArray.size_append]; show 1 + _ + 1 + _ ≤ _; omega
   · simp only [ByteArray.size_append]; show 1 + _ + 1 + _ + 1 ≤ _; omega
end Go.Den
namespace Go.Den
open Go
set_option linter.unusedVariables false
set_option maxRecDepth 100000
def cg (c : List Cl) (i : Int) : Cl := c.getD i.toNat c0
theorem zka {c : List Cl} {i : Int} {x : Cl} (h : c[i.toNat]? = some x) : cg c i = x := gd h
theorem ziQ {c : List Cl} {i : Int} (h0 : 0 ≤ i) (h : i < (c.length : Int)) : c[i.toNat]? = some (cg c i) := by
 have : i.toNat < c.length := by omega
 unfold cg
 rw [List.getD_eq_getElem?_getD, List.getElem?_eq_getElem this]
 rfl
def Wf (c : List Cl) : Prop := ∀ i : Int, 0 ≤ i → i < (c.length : Int) → (cg c i).l = false → (0 ≤ (cg c i).a ∧ (cg c i).a < (c.length : Int)) ∧ (0 ≤ (cg c i).b ∧ (cg c i).b < (c.length : Int))
def K (l : List Bool) (i : Int) : Prop := l.getD i.toNat false = true
def lack (l : List Bool) : Nat := (List.range l.length).countP fun i => !(l.getD i false)
theorem ziL {α : Type} {p q : α → Bool} : ∀ {l : List α}, (∀ x ∈ l, p x = true → q x = true) → (∃ x ∈ l, q x = true ∧ p x = false) → l.countP p < l.countP q
 | [], _, h => by obtain ⟨x, hx, _⟩ := h; simp at hx
 | y :: l, hpq, h => by
   have hle : l.countP p ≤ l.countP q := List.countP_mono_left (fun x hx => hpq x (List.mem_cons_of_mem _ hx))
   obtain ⟨x, hx, hq, hp⟩ := h
   rcases List.mem_cons.1 hx with rfl | hx
   · have e1 : (x :: l).countP p = l.countP p := List.countP_cons_of_neg (by simp [hp])
     have e2 : (x :: l).countP q = l.countP q + 1 := List.countP_cons_of_pos hq
     omega
   · have ih := ziL (fun x hx => hpq x (List.mem_cons_of_mem _ hx)) ⟨x, hx, hq, hp⟩
     by_cases hy : p y = true
     · have e1 : (y :: l).countP p = l.countP p + 1 := List.countP_cons_of_pos hy
       have e2 : (y :: l).countP q = l.countP q + 1 := List.countP_cons_of_pos (hpq y List.mem_cons_self hy)
       omega
     · have e1 : (y :: l).countP p = l.countP p := List.countP_cons_of_neg hy
       have e2 : l.countP q ≤ (y :: l).countP q := by rw [List.countP_cons]; omega
       omega
theorem zmZ {l l' : List Bool} (hl : l'.length = l.length) (h : ∀ i : Int, 0 ≤ i → K l i → K l' i) : lack l' ≤ lack l := by
 unfold lack
 rw [hl]
 refine List.countP_mono_left fun i _ hi => ?_
 have := h (i : Int) (by omega)
 unfold K at this
 simp only [Int.toNat_natCast] at this
 revert hi this
 cases l.getD i false <;> cases l'.getD i false <;> simp
theorem zpN {l : List Bool} {i : Int} (h0 : 0 ≤ i) (hi : i < (l.length : Int)) (j : Int) (hj : 0 ≤ j) : K (l.set i.toNat true) j ↔ (j = i ∨ K l j) := by
 unfold K
 have hlt : i.toNat < l.length := by omega
 by_cases e : j = i
 · subst e
   simp [List.getD_eq_getElem?_getD, hlt]
 · have : i.toNat ≠ j.toNat := by omega
   simp [List.getD_eq_getElem?_getD, List.getElem?_set_ne this, e]
theorem zeV {l : List Bool} {i : Int} (h0 : 0 ≤ i) (hi : i < (l.length : Int)) (hk : ¬ K l i) : lack (l.set i.toNat true) < lack l := by
 have hlt : i.toNat < l.length := by omega
 unfold lack
 rw [List.length_set]
 refine ziL (fun j _ hj => ?_) ⟨i.toNat, by simpa using hlt, ?_, ?_⟩
 · by_cases e : j = i.toNat
   · subst e
     simp [List.getD_eq_getElem?_getD, hlt] at hj
   · simp only [List.getD_eq_getElem?_getD, List.getElem?_set_ne (Ne.symm e)] at hj ⊢
     exact hj
 · unfold K at hk
   simpa using hk
 · simp [List.getD_eq_getElem?_getD, hlt]
theorem zjs (l : List Bool) : lack l ≤ l.length := by
 unfold lack
 have := List.countP_le_length (p := fun i => !(l.getD i false)) (l := List.range l.length)
 simpa using this
theorem K_lt {l : List Bool} {i : Int} (h0 : 0 ≤ i) (h : K l i) : i < (l.length : Int) := by
 unfold K at h
 by_cases hi : i.toNat < l.length
 · omega
 · rw [List.getD_eq_getElem?_getD, List.getElem?_eq_none (by omega)] at h
   cases h
theorem zk9 (n : Nat) (i : Int) : ¬ K (List.replicate n false) i := by
 unfold K
 by_cases h : i.toNat < n
 · simp [List.getD_eq_getElem?_getD, h]
 · simp [List.getD_eq_getElem?_getD, h]
theorem zpk {l l' : List Bool} (hl : l.length = l'.length) (h : ∀ i, 0 ≤ i → (K l i ↔ K l' i)) : l = l' := by
 refine List.ext_getElem hl fun i h1 h2 => ?_
 have := h (i : Int) (by omega)
 unfold K at this
 simp only [Int.toNat_natCast, List.getD_eq_getElem?_getD, List.getElem?_eq_getElem h1, List.getElem?_eq_getElem h2, Option.getD_some] at this
 cases e : l[i] <;> cases e' : l'[i] <;> simp_all
theorem K_get {l : List Bool} {i : Nat} {k : Bool} (h : l[i]? = some k) : K l (i : Int) ↔ k = true := by
 unfold K
 rw [Int.toNat_natCast, gd h]
inductive Rch (c : List Cl) (on : Int → Prop) (src : Int → Prop) : Int → Prop
 | src {i} : src i → Rch c on src i
 | a {i} : Rch c on src i → on i → (cg c i).l = false → Rch c on src (cg c i).a
 | b {i} : Rch c on src i → on i → (cg c i).l = false → Rch c on src (cg c i).b
theorem Rch.mono {c : List Cl} {on : Int → Prop} {s s' : Int → Prop} (h : ∀ i, s i → Rch c on s' i) {i : Int} (hr : Rch c on s i) : Rch c on s' i := by
 induction hr with
 | src hs => exact h _ hs
 | a _ ho hl ih => exact .a ih ho hl
 | b _ ho hl ih => exact .b ih ho hl
theorem Rch.on {c : List Cl} {on on' : Int → Prop} {s : Int → Prop} (h : ∀ i, on i → on' i) {i : Int} (hr : Rch c on s i) : Rch c on' s i := by
 induction hr with
 | src hs => exact .src hs
 | a _ ho hl ih => exact .a ih (h _ ho) hl
 | b _ ho hl ih => exact .b ih (h _ ho) hl
theorem Rch.in_ {c : List Cl} {on : Int → Prop} {s : Int → Prop} {k : List Bool} (hw : Wf c) (hs : ∀ i, s i → 0 ≤ i ∧ i < (c.length : Int) ∧ K k i)
 (hcl : ∀ i, 0 ≤ i → K k i → on i → (cg c i).l = false → K k (cg c i).a ∧ K k (cg c i).b) {i : Int} (hr : Rch c on s i) : 0 ≤ i ∧ i < (c.length : Int) ∧ K k i := by
 induction hr with
 | src h => exact hs _ h
 | a _ ho hl ih => exact ⟨(hw _ ih.1 ih.2.1 hl).1.1, (hw _ ih.1 ih.2.1 hl).1.2, (hcl _ ih.1 ih.2.2 ho hl).1⟩
 | b _ ho hl ih => exact ⟨(hw _ ih.1 ih.2.1 hl).2.1, (hw _ ih.1 ih.2.1 hl).2.2, (hcl _ ih.1 ih.2.2 ho hl).2⟩
structure Mk (c : List Cl) (on : Int → Prop) (S : Int → Prop) (k k' : List Bool) : Prop where
 len : k'.length = c.length
 mono : ∀ i, 0 ≤ i → K k i → K k' i
 new : ∀ i, 0 ≤ i → K k' i → ¬ K k i → (on i → (cg c i).l = false → K k' (cg c i).a ∧ K k' (cg c i).b) ∧ Rch c on S i
theorem Mk.refl {c : List Cl} {on S : Int → Prop} {k : List Bool} (h : k.length = c.length) : Mk c on S k k := ⟨h, fun _ _ h => h, fun _ _ h h' => absurd h h'⟩
theorem Mk.trans {c : List Cl} {on S : Int → Prop} {k k1 k2 : List Bool} (hw : Wf c) (h : Mk c on S k k1) (h' : Mk c on S k1 k2) : Mk c on S k k2 :=
 ⟨h'.len, fun i hi hk => h'.mono i hi (h.mono i hi hk), fun j hj hk hn => by
  by_cases hk1 : K k1 j
  · obtain ⟨p, q⟩ := h.new j hj hk1 hn
    refine ⟨fun ho hl => ?_, q⟩
    have hlt := K_lt hj hk1
    obtain ⟨⟨a0, _⟩, b0, _⟩ := hw j hj (by have := h.len; omega) hl
    exact ⟨h'.mono _ a0 (p ho hl).1, h'.mono _ b0 (p ho hl).2⟩
  · exact h'.new j hj hk hk1⟩
theorem Mk.src {c : List Cl} {on S S' : Int → Prop} {k k' : List Bool} (h : Mk c on S k k') (hs : ∀ i, S i → Rch c on S' i) : Mk c on S' k k' := ⟨h.len, h.mono, fun i hi hk hn => ⟨(h.new i hi hk hn).1, Rch.mono hs (h.new i hi hk hn).2⟩⟩
noncomputable def zeN (n : Nat) (P : Int → Prop) : List Bool := (List.range n).map fun (i : Nat) => @decide (P (i : Int)) (Classical.propDecidable _)
theorem zaT (n : Nat) (P : Int → Prop) : (zeN n P).length = n := by simp [zeN]
theorem zbF {n : Nat} {P : Int → Prop} {i : Int} (h0 : 0 ≤ i) : K (zeN n P) i ↔ i < (n : Int) ∧ P i := by
 unfold K zeN
 rw [List.getD_eq_getElem?_getD, List.getElem?_map]
 by_cases h : i.toNat < n
 · rw [List.getElem?_range h]
   have : ((i.toNat : Nat) : Int) = i := by omega
   simp only [Option.map_some, Option.getD_some, decide_eq_true_eq, this]
   exact ⟨fun h => ⟨by omega, h⟩, fun h => h.2⟩
 · rw [List.getElem?_eq_none (by simpa using h)]
   simp only [Option.map_none, Option.getD_none]
   exact ⟨fun h => by simp at h, fun h1 => by omega⟩
theorem Mk.all {c : List Cl} {on S : Int → Prop} {k' : List Bool} (hw : Wf c) (h : Mk c on S (List.replicate c.length false) k') (hs : ∀ i, S i → 0 ≤ i ∧ i < (c.length : Int) ∧ K k' i) : k' = zeN c.length (Rch c on S) := by
 refine zpk (by rw [h.len, zaT]) fun i hi => ?_
 rw [zbF hi]
 constructor
 · intro hk
   exact ⟨by have := K_lt hi hk; have := h.len; omega, (h.new i hi hk (zk9 _ _)).2⟩
 · rintro ⟨_, hr⟩
   exact (Rch.in_ hw hs (fun j h0 hj ho hle => (h.new j h0 hj (zk9 _ _)).1 ho hle) hr).2.2
def cnt (m : List Bool) (i : Int) : Int := ((m.take i.toNat).count true : Nat)
theorem zjP (m : List Bool) : cnt m 0 = 0 := by simp [cnt]
theorem zj0 (m : List Bool) (i : Nat) : 0 ≤ cnt m i ∧ cnt m i ≤ i := by
 unfold cnt
 have h1 : (m.take i).count true ≤ (m.take i).length := List.count_le_length
 have h2 : (m.take i).length ≤ i := by rw [List.length_take]; omega
 simp only [Int.toNat_natCast]
 omega
theorem zj9 (m : List Bool) (i : Nat) (h : i < m.length) (hk : K m (i : Int)) : cnt m ((i + 1 : Nat) : Int) = cnt m i + 1 := by
 unfold cnt
 unfold K at hk
 simp only [Int.toNat_natCast, List.getD_eq_getElem?_getD, List.getElem?_eq_getElem h, Option.getD_some] at hk
 simp only [Int.toNat_natCast, List.take_add_one, List.getElem?_eq_getElem h, List.count_append, hk]
 simp
theorem znb (m : List Bool) (i : Nat) (h : i < m.length) (hk : ¬ K m (i : Int)) : cnt m ((i + 1 : Nat) : Int) = cnt m i := by
 unfold cnt
 unfold K at hk
 simp only [Int.toNat_natCast, List.getD_eq_getElem?_getD, List.getElem?_eq_getElem h, Option.getD_some, Bool.not_eq_true] at hk
 simp only [Int.toNat_natCast, List.take_add_one, List.getElem?_eq_getElem h, List.count_append, hk]
 simp
def mvC (m : List Bool) (x : Cl) : Cl := if x.l = true then x else ⟨x.l, x.n, cnt m x.a, cnt m x.b⟩
def mvCs (m : List Bool) : List Cl → List Bool → List Cl
 | x :: c, b :: l => if b = true then mvC m x :: mvCs m c l else mvCs m c l
 | _, _ => []
theorem zjX (m : List Bool) (c : List Cl) (l : List Bool) : (mvCs m c l).length ≤ l.length := by
 induction c generalizing l with
 | nil => simp [mvCs]
 | cons x c ih =>
   cases l with
   | nil => simp [mvCs]
   | cons b l =>
     unfold mvCs
     have := ih l
     split <;> simp <;> omega
theorem zk8 (m : List Bool) (c : List Cl) (l : List Bool) (h : l.length = c.length) : (mvCs m c l).length = l.count true := by
 induction c generalizing l with
 | nil =>
   obtain rfl := List.eq_nil_of_length_eq_zero h
   simp [mvCs]
 | cons x c ih =>
   cases l with
   | nil => simp at h
   | cons b l =>
     unfold mvCs
     have := ih l (by simpa using h)
     cases b <;> simp [this]
theorem zij (m : List Bool) : ∀ (c : List Cl) (l : List Bool) (x : Cl) (b : Bool), c.length = l.length → mvCs m (c ++ [x]) (l ++ [b]) = mvCs m c l ++ (if b = true then [mvC m x] else [])
 | [], [], x, b, _ => by cases b <;> simp [mvCs]
 | y :: c, k :: l, x, b, h => by
   have := zij m c l x b (by simpa using h)
   cases k <;> simp [mvCs, this]
 | [], _ :: _, _, _, h => by simp at h
 | _ :: _, [], _, _, h => by simp at h
theorem ziz (m : List Bool) (c : List Cl) (l : List Bool) (i : Nat) (x : Cl) (b : Bool) (hl : c.length = l.length) (hx : c[i]? = some x) (hb : l[i]? = some b) : mvCs m (c.take (i + 1)) (l.take (i + 1)) = mvCs m (c.take i) (l.take i) ++ (if b = true then [mvC m x] else []) := by
 rw [List.take_add_one, List.take_add_one, hx, hb]
 exact zij m _ _ x b (by simp [List.length_take, hl])
def Shut (m : List Bool) (c : List Cl) : Prop := ∀ i : Nat, K m i → (cg c i).l = false → (0 ≤ (cg c i).a ∧ K m (cg c i).a) ∧ (0 ≤ (cg c i).b ∧ K m (cg c i).b)
def Tb (m : List Bool) (n : Nat) (t : List Int) : Prop := t.length = n ∧ ∀ j : Nat, K m j → t.getD j 0 = cnt m j
theorem Tb.get {m : List Bool} {n : Nat} {t : List Int} (h : Tb m n t) (hm : m.length = n) {j : Int} (h0 : 0 ≤ j) (hk : K m j) : (0 ≤ j ∧ j < (t.length : Int)) ∧ t[j.toNat]? = some (cnt m j) := by
 have hlt := K_lt h0 hk
 have h1 := h.1
 have e : ((j.toNat : Nat) : Int) = j := by omega
 have h2 := h.2 j.toNat (by rw [e]; exact hk)
 rw [e] at h2
 refine ⟨⟨h0, by omega⟩, ?_⟩
 rw [List.getElem?_eq_getElem (by omega)]
 rw [List.getD_eq_getElem?_getD, List.getElem?_eq_getElem (by omega)] at h2
 simpa using h2
end Go.Den
namespace Go.Den
open Go
set_option linter.unusedVariables false
set_option maxRecDepth 100000
open Go.Proofs.YtcmcfebihbmmeaaDoor (num numV)
structure Hp where
 o : Int
 cs : List Cl
 rs : List Int
 ns : List Int
structure Hg (h : Hp) : Prop where
 cells : zfq h.cs
 clen : h.cs.length ≤ 200
 rlen : h.rs.length ≤ 60
 o0 : 0 ≤ h.o
 o1 : h.o ≤ (h.cs.length : Int)
 rin : ∀ x ∈ h.rs, 0 ≤ x ∧ x < (h.cs.length : Int)
 nup : h.ns.Pairwise (· < ·)
 nin : ∀ x ∈ h.ns, 0 ≤ x ∧ x < h.o
 old : ∀ (i : Nat) (c : Cl), h.cs[i]? = some c → (i : Int) < h.o → c.l = false → (h.o ≤ c.a ∨ h.o ≤ c.b) → (i : Int) ∈ h.ns
theorem Hg.wf {h : Hp} (g : Hg h) : Wf h.cs := fun i h0 hi hl => zhh g.cells (ziQ h0 hi) hl
theorem zfO (zs : List Int) (x : Int) : hasB zs x = true ↔ x ∈ zs := by
 unfold hasB
 rw [List.any_eq_true]
 constructor
 · rintro ⟨z, hz, he⟩
   rw [← of_decide_eq_true he]; exact hz
 · exact fun h => ⟨x, h, by simp⟩
theorem ze0 {h : Hp} (g : Hg h) : h.ns.length ≤ 200 := by
 have key : ∀ (l : List Int) (lo hi : Int), l.Pairwise (· < ·) → (∀ x ∈ l, lo ≤ x ∧ x < hi) → lo ≤ hi → (l.length : Int) ≤ hi - lo := by
  intro l
  induction l with
  | nil => intro lo hi _ _ h; simp; omega
  | cons a l ih =>
    intro lo hi hp hx hle
    have ha := hx a (by simp)
    have := ih (a + 1) hi (List.pairwise_cons.1 hp).2 (fun x hx' => ⟨by have := (List.pairwise_cons.1 hp).1 x hx'; omega, (hx x (List.mem_cons_of_mem _ hx')).2⟩) (by omega)
    simp only [List.length_cons]
    omega
 have := key h.ns 0 h.o g.nup (fun x hx => g.nin x hx) g.o0
 have h1 := g.o1
 have h2 := g.clen
 omega
noncomputable def mvH (m : List Bool) (h : Hp) : Hp := ⟨cnt m m.length, mvCs m h.cs m, h.rs.map (cnt m), []⟩
noncomputable def zfg (h : Hp) : List Bool := zeN h.cs.length (Rch h.cs (fun _ => True) (· ∈ h.rs))
def Src (h : Hp) (i : Int) : Prop := i ∈ h.rs ∨ ∃ x ∈ h.ns, (cg h.cs x).l = false ∧ (i = (cg h.cs x).a ∨ i = (cg h.cs x).b)
noncomputable def zeO (h : Hp) : List Bool := zeN h.cs.length fun i => i < h.o ∨ Rch h.cs (fun i => ¬ i < h.o) (Src h) i
noncomputable def zb5 (h : Hp) : Hp := mvH (zfg h) h
noncomputable def zaF (h : Hp) : Hp := mvH (zeO h) h
theorem zkq (m : List Bool) {i j : Nat} (h : i ≤ j) : cnt m i ≤ cnt m j := by
 unfold cnt
 simp only [Int.toNat_natCast]
 have := List.Sublist.count_le true (List.take_sublist_take_left h (l := m))
 omega
theorem zks {m : List Bool} {x : Int} (h0 : 0 ≤ x) (hk : K m x) : 0 ≤ cnt m x ∧ cnt m x < cnt m m.length := by
 have hlt := K_lt h0 hk
 have e : ((x.toNat : Nat) : Int) = x := by omega
 have h1 := zj9 m x.toNat (by omega) (by rw [e]; exact hk)
 have h2 := zkq m (show x.toNat + 1 ≤ m.length by omega)
 rw [e] at h1
 have h3 := (zj0 m x.toNat).1
 rw [e] at h3
 omega
theorem zhs {m : List Bool} {y : Cl} : ∀ {c : List Cl} {l : List Bool}, y ∈ mvCs m c l → ∃ (i : Nat) (x : Cl), c[i]? = some x ∧ l[i]? = some true ∧ y = mvC m x
 | x :: c, b :: l, h => by
   cases b with
   | true =>
     simp only [mvCs, if_true, List.mem_cons] at h
     rcases h with rfl | h
     · exact ⟨0, x, rfl, rfl, rfl⟩
     · obtain ⟨i, x', h1, h2, h3⟩ := zhs h
       exact ⟨i + 1, x', by simpa using h1, by simpa using h2, h3⟩
   | false =>
     simp only [mvCs, Bool.false_eq_true, if_false] at h
     obtain ⟨i, x', h1, h2, h3⟩ := zhs h
     exact ⟨i + 1, x', by simpa using h1, by simpa using h2, h3⟩
 | [], _, h => by simp [mvCs] at h
 | _ :: _, [], h => by simp [mvCs] at h
theorem zhf {m : List Bool} {c : List Cl} (h : m.length = c.length) : ((mvCs m c m).length : Int) = cnt m m.length := by
 rw [zk8 m c m h]; simp [cnt]
theorem zlW {h : Hp} {m : List Bool} (g : Hg h) (hm : m.length = h.cs.length) (hs : Shut m h.cs) (hr : ∀ x ∈ h.rs, K m x) : Hg (mvH m h) := by
 have hlen := zhf hm
 have hle := zjX m h.cs m
 have hcl := g.clen
 have hcell : ∀ y ∈ mvCs m h.cs m, y.fine ∧ zbX (mvCs m h.cs m).length y = true := fun y hy => by
  obtain ⟨i, x, h1, h2, rfl⟩ := zhs hy
  have hf := (g.cells i x h1)
  have hk : K m (i : Int) := (K_get h2).2 rfl
  cases hl : x.l with
  | true =>
    have e : mvC m x = x := by unfold mvC; rw [if_pos hl]
    rw [e]
    refine ⟨hf.1, ?_⟩
    have := hf.2
    unfold zbX at this ⊢
    rw [hl] at this ⊢
    exact this
  | false =>
    have e : mvC m x = ⟨x.l, x.n, cnt m x.a, cnt m x.b⟩ := by unfold mvC; rw [if_neg (by rw [hl]; simp)]
    have hx : cg h.cs (i : Int) = x := zka (by rw [Int.toNat_natCast]; exact h1)
    obtain ⟨⟨a0, a1⟩, b0, b1⟩ := hs i hk (by rw [hx]; exact hl)
    rw [hx] at a0 a1 b0 b1
    have ha := zks a0 a1
    have hb := zks b0 b1
    rw [e]
    refine ⟨⟨hf.1.1, ⟨by show _ ≤ cnt m x.a; omega, by show cnt m x.a ≤ _; omega⟩, ⟨by show _ ≤ cnt m x.b; omega, by show cnt m x.b ≤ _; omega⟩⟩, ?_⟩
    have := hf.2
    unfold zbX at this ⊢
    rw [hl] at this
    simp only [Bool.and_eq_true] at this
    simp only [hl, this.1, Bool.true_and]
    rw [hlen]
    simp [zac, ha, hb]
 refine ⟨fun i c hc => hcell c (List.mem_of_getElem? hc), by show (mvCs m h.cs m).length ≤ 200; omega, by show (h.rs.map (cnt m)).length ≤ 60; rw [List.length_map]; exact g.rlen, ?_, ?_, fun x hx => ?_, .nil, fun x hx => (by cases hx), fun i c hc hi hl hor => ?_⟩
 · show 0 ≤ cnt m m.length
   exact (zj0 m m.length).1
 · show cnt m m.length ≤ ((mvCs m h.cs m).length : Int)
   omega
 · show 0 ≤ x ∧ x < ((mvCs m h.cs m).length : Int)
   obtain ⟨y, hy, rfl⟩ := List.mem_map.1 hx
   have := zks (g.rin y hy).1 (hr y hy)
   omega
 · have h1 := (hcell c (List.mem_of_getElem? hc)).2
   unfold zbX at h1
   rw [hl] at h1
   simp only [Bool.and_eq_true] at h1
   have ha := zhB h1.2.1
   have hb := zhB h1.2.2
   have ho : (mvH m h).o = cnt m m.length := rfl
   rw [ho] at hor
   omega
theorem zdU {h : Hp} (g : Hg h) : Shut (zfg h) h.cs := fun i hk hl => by
 obtain ⟨hi, hr⟩ := (zbF (Int.natCast_nonneg i)).1 hk
 obtain ⟨⟨a0, a1⟩, b0, b1⟩ := g.wf i (by omega) hi hl
 exact ⟨⟨a0, (zbF a0).2 ⟨a1, .a hr trivial hl⟩⟩, b0, (zbF b0).2 ⟨b1, .b hr trivial hl⟩⟩
theorem zdJ {h : Hp} (g : Hg h) : ∀ x ∈ h.rs, K (zfg h) x := fun x hx => (zbF (g.rin x hx).1).2 ⟨(g.rin x hx).2, .src hx⟩
theorem zdE {h : Hp} (g : Hg h) : Shut (zeO h) h.cs := fun i hk hl => by
 obtain ⟨hi, hr⟩ := (zbF (Int.natCast_nonneg i)).1 hk
 obtain ⟨⟨a0, a1⟩, b0, b1⟩ := g.wf i (by omega) hi hl
 have hat := ziQ (Int.natCast_nonneg i) hi
 rw [Int.toNat_natCast] at hat
 refine ⟨⟨a0, (zbF a0).2 ⟨a1, ?_⟩⟩, b0, (zbF b0).2 ⟨b1, ?_⟩⟩
 · by_cases hio : (i : Int) < h.o
   · by_cases hk : (cg h.cs i).a < h.o
     · exact .inl hk
     · exact .inr (.src (.inr ⟨i, g.old i _ hat hio hl (.inl (by omega)), hl, .inl rfl⟩))
   · rcases hr with h | h
     · exact absurd h hio
     · exact .inr (.a h hio hl)
 · by_cases hio : (i : Int) < h.o
   · by_cases hk : (cg h.cs i).b < h.o
     · exact .inl hk
     · exact .inr (.src (.inr ⟨i, g.old i _ hat hio hl (.inr (by omega)), hl, .inr rfl⟩))
   · rcases hr with h | h
     · exact absurd h hio
     · exact .inr (.b h hio hl)
theorem zdy {h : Hp} (g : Hg h) : ∀ x ∈ h.rs, K (zeO h) x := fun x hx => (zbF (g.rin x hx).1).2 ⟨(g.rin x hx).2, .inr (.src (.inl hx))⟩
theorem zfa {h : Hp} (g : Hg h) : Hg (zb5 h) := zlW g (zaT _ _) (zdU g) (zdJ g)
theorem zbJ {h : Hp} (g : Hg h) : Hg (zaF h) := zlW g (zaT _ _) (zdE g) (zdy g)
def addH (h : Hp) (c : Cl) : Hp := ⟨h.o, h.cs ++ [c], h.rs ++ [(h.cs.length : Int)], h.ns⟩
def znL (h : Hp) (r : Int) : Hp := ⟨h.o, h.cs, h.rs ++ [r], h.ns⟩
def zhF (h : Hp) (a : Int) : Hp := ⟨h.o, h.cs, h.rs.take a.toNat ++ h.rs.drop (a.toNat + 1), h.ns⟩
def insL (x : Int) : List Int → List Int
 | [] => [x]
 | n :: l => if x < n then x :: n :: l else n :: insL x l
def setC (c : Cl) (second : Bool) (to : Int) : Cl := match second with | true => { c with b := to } | false => { c with a := to }
def putN (h : Hp) (at_ to : Int) : Bool := decide (at_ < h.o) && decide (h.o ≤ to) && !hasB h.ns at_
def setH (h : Hp) (at_ : Int) (second : Bool) (to : Int) : Hp := ⟨h.o, h.cs.set at_.toNat (setC (cg h.cs at_) second to), h.rs, match putN h at_ to with | true => insL at_ h.ns | false => h.ns⟩
theorem zjI {n m : Nat} {c : Cl} (h : zbX n c = true) (hnm : n ≤ m) : zbX m c = true := by
 unfold zbX at h ⊢
 cases hl : c.l with
 | true => rw [hl] at h; exact h
 | false =>
   rw [hl] at h
   simp only [Bool.and_eq_true] at h ⊢
   have ha := zhB h.2.1
   have hb := zhB h.2.2
   refine ⟨h.1, ?_, ?_⟩
   · simp only [zac, Bool.and_eq_true, decide_eq_true_eq]; omega
   · simp only [zac, Bool.and_eq_true, decide_eq_true_eq]; omega
theorem zkd {α : Type} {l : List α} {x y : α} {i : Nat} (h : (l ++ [x])[i]? = some y) : (i < l.length ∧ l[i]? = some y) ∨ (i = l.length ∧ y = x) := by
 by_cases hi : i < l.length
 · rw [List.getElem?_append_left hi] at h; exact .inl ⟨hi, h⟩
 · rw [List.getElem?_append_right (by omega)] at h
   have : i - l.length = 0 := by
    cases hd : i - l.length with
    | zero => rfl
    | succ d => rw [hd] at h; simp at h
   rw [this] at h
   simp at h
   exact .inr ⟨by omega, h.symm⟩
theorem znY {h : Hp} (g : Hg h) {c : Cl} (hc : c.fine) (hok : zbX (h.cs.length + 1) c = true) (h1 : h.cs.length < 200) (h2 : h.rs.length < 60) : Hg (addH h c) := by
 have ho1 := g.o1
 refine ⟨fun i x hx => ?_, by show (h.cs ++ [c]).length ≤ 200; simp; omega, by show (h.rs ++ [(h.cs.length : Int)]).length ≤ 60; simp; omega, g.o0, by show h.o ≤ ((h.cs ++ [c]).length : Int); simp; omega, fun x hx => ?_, g.nup, g.nin, fun i x hx hi hl hor => ?_⟩
 · have e : (addH h c).cs.length = h.cs.length + 1 := by simp [addH]
   rw [e]
   rcases zkd hx with ⟨_, h3⟩ | ⟨_, rfl⟩
   · have := g.cells i x h3
     exact ⟨this.1, zjI this.2 (by omega)⟩
   · exact ⟨hc, hok⟩
 · show 0 ≤ x ∧ x < ((h.cs ++ [c]).length : Int)
   rw [List.length_append]
   rcases List.mem_append.1 hx with hx | hx
   · have := g.rin x hx; simp; omega
   · have : x = (h.cs.length : Int) := by simpa using hx
     simp; omega
 · have hi : (i : Int) < h.o := hi
   rcases zkd hx with ⟨_, h3⟩ | ⟨h3, rfl⟩
   · exact g.old i x h3 hi hl hor
   · omega
theorem ziK {h : Hp} (g : Hg h) {r : Int} (hr : 0 ≤ r ∧ r < (h.cs.length : Int)) (h2 : h.rs.length < 60) : Hg (znL h r) :=
 ⟨g.cells, g.clen, by show (h.rs ++ [r]).length ≤ 60; simp; omega, g.o0, g.o1, fun x hx => by
  rcases List.mem_append.1 hx with hx | hx
  · exact g.rin x hx
  · have : x = r := by simpa using hx
    rw [this]; exact hr, g.nup, g.nin, g.old⟩
theorem zmX {h : Hp} (g : Hg h) (a : Int) : Hg (zhF h a) :=
 ⟨g.cells, g.clen, by
  show (h.rs.take a.toNat ++ h.rs.drop (a.toNat + 1)).length ≤ 60
  have := g.rlen
  simp; omega, g.o0, g.o1, fun x hx => by
  rcases List.mem_append.1 hx with hx | hx
  · exact g.rin x (List.mem_of_mem_take hx)
  · exact g.rin x (List.mem_of_mem_drop hx), g.nup, g.nin, g.old⟩
theorem insL_mem {x y : Int} : ∀ {l : List Int}, y ∈ insL x l ↔ y = x ∨ y ∈ l
 | [] => by simp [insL]
 | n :: l => by
   unfold insL
   split
   · simp
   · simp only [List.mem_cons, insL_mem (l := l)]
     exact ⟨fun h => h.elim (fun h => .inr (.inl h)) (fun h => h.elim .inl fun h => .inr (.inr h)), fun h => h.elim (fun h => .inr (.inl h)) fun h => h.elim .inl fun h => .inr (.inr h)⟩
theorem zmx {x : Int} : ∀ {l : List Int}, l.Pairwise (· < ·) → x ∉ l → (insL x l).Pairwise (· < ·)
 | [], _, _ => List.pairwise_singleton _ _
 | n :: l, h, hx => by
   unfold insL
   have h1 := List.pairwise_cons.1 h
   split
   · rename_i hlt
     refine List.pairwise_cons.2 ⟨fun y hy => ?_, h⟩
     rcases List.mem_cons.1 hy with rfl | hy
     · exact hlt
     · exact Int.lt_trans hlt (h1.1 y hy)
   · rename_i hlt
     have hne : x ≠ n := fun e => hx (by simp [e])
     refine List.pairwise_cons.2 ⟨fun y hy => ?_, zmx h1.2 fun hm => hx (List.mem_cons_of_mem _ hm)⟩
     rcases insL_mem.1 hy with rfl | hy
     · omega
     · exact h1.1 y hy
theorem zjT {x : Int} : ∀ {l : List Int}, l.Pairwise (· < ·) → x ∉ l → insZ l (l.countP (· < x)) x = insL x l
 | [], _, _ => rfl
 | n :: l, h, hx => by
   have h1 := List.pairwise_cons.1 h
   have hne : x ≠ n := fun e => hx (by simp [e])
   unfold insL
   by_cases hlt : x < n
   · rw [if_pos hlt]
     have : (n :: l).countP (· < x) = 0 := by
      rw [List.countP_eq_zero]
      intro y hy
      rcases List.mem_cons.1 hy with rfl | hy
      · simp; omega
      · have := h1.1 y hy
        simp; omega
     rw [this]
     rfl
   · rw [if_neg hlt, List.countP_cons_of_pos (by simp; omega)]
     have := zjT h1.2 fun hm => hx (List.mem_cons_of_mem _ hm)
     rw [← this]
     simp [insZ]
theorem zkj {h : Hp} (g : Hg h) {at_ to : Int} {second : Bool} (ha : 0 ≤ at_ ∧ at_ < (h.cs.length : Int)) (ht : 0 ≤ to ∧ to < (h.cs.length : Int)) (hl : (cg h.cs at_).l = false) : Hg (setH h at_ second to) := by
 have hat := ziQ ha.1 ha.2
 have hclen := g.clen
 have hset : ∀ (i : Nat) (x : Cl), (h.cs.set at_.toNat (setC (cg h.cs at_) second to))[i]? = some x → (i ≠ at_.toNat ∧ h.cs[i]? = some x) ∨ (i = at_.toNat ∧ x = setC (cg h.cs at_) second to) := fun i x hx => by
  rw [List.getElem?_set] at hx
  split at hx
  · rename_i he
    split at hx
    · exact .inr ⟨he.symm, (Option.some.inj hx).symm⟩
    · cases hx
  · rename_i he
    exact .inl ⟨fun e => he e.symm, hx⟩
 have hok := g.cells _ _ hat
 have hkids := zhh g.cells hat hl
 have hn0 : (cg h.cs at_).n = 0 := by
  have := hok.2
  unfold zbX at this
  rw [hl] at this
  simp only [Bool.and_eq_true, decide_eq_true_eq] at this
  exact this.1
 have hnotes : ∀ y, y ∈ (setH h at_ second to).ns ↔ (y = at_ ∧ putN h at_ to = true) ∨ y ∈ h.ns := fun y => by
  show y ∈ (match putN h at_ to with | true => insL at_ h.ns | false => h.ns) ↔ _
  cases hp : putN h at_ to with
  | true => simp [insL_mem]
  | false => simp
 have hput : putN h at_ to = true → (at_ < h.o ∧ h.o ≤ to) ∧ at_ ∉ h.ns := fun hp => by
  unfold putN at hp
  simp only [Bool.and_eq_true, decide_eq_true_eq, Bool.not_eq_true'] at hp
  refine ⟨hp.1, fun hm => ?_⟩
  rw [(zfO _ _).2 hm] at hp
  cases hp.2
 have hlen : (setH h at_ second to).cs.length = h.cs.length := by simp [setH]
 refine ⟨fun i x hx => ?_, by rw [hlen]; exact hclen, g.rlen, g.o0, by rw [hlen]; exact g.o1, by rw [hlen]; exact g.rin, ?_, fun x hx => ?_, fun i x hx hi hxl hor => ?_⟩
 · rw [hlen]
   rcases hset i x hx with ⟨_, h1⟩ | ⟨_, rfl⟩
   · exact g.cells i x h1
   · cases second with
     | true =>
       refine ⟨⟨hok.1.1, hok.1.2.1, ⟨by show _ ≤ to; omega, by show to ≤ _; omega⟩⟩, ?_⟩
       simp [setC, zbX, hl, hn0, zac, hkids.1, ht]
     | false =>
       refine ⟨⟨hok.1.1, ⟨by show _ ≤ to; omega, by show to ≤ _; omega⟩, hok.1.2.2⟩, ?_⟩
       simp [setC, zbX, hl, hn0, zac, hkids.2, ht]
 · show (match putN h at_ to with | true => insL at_ h.ns | false => h.ns).Pairwise (· < ·)
   cases hp : putN h at_ to with
   | true => exact zmx g.nup (hput hp).2
   | false => exact g.nup
 · rcases (hnotes x).1 hx with ⟨rfl, hp⟩ | hx
   · exact ⟨ha.1, (hput hp).1.1⟩
   · exact g.nin x hx
 · have hi : (i : Int) < h.o := hi
   have hor : h.o ≤ x.a ∨ h.o ≤ x.b := hor
   rw [hnotes]
   rcases hset i x hx with ⟨_, h1⟩ | ⟨he, rfl⟩
   · exact .inr (g.old i x h1 hi hxl hor)
   · have e : (i : Int) = at_ := by omega
     rw [e] at hi ⊢
     by_cases hm : at_ ∈ h.ns
     · exact .inr hm
     · refine .inl ⟨rfl, ?_⟩
       have hold : h.o ≤ (cg h.cs at_).a ∨ h.o ≤ (cg h.cs at_).b → False := fun hh => hm (by
        have := g.old at_.toNat _ hat (by omega) hl hh
        rwa [show ((at_.toNat : Nat) : Int) = at_ by omega] at this)
       have hto : h.o ≤ to := by
        cases second with
        | true => rcases hor with hh | hh
                  · exact absurd (Or.inl hh) hold
                  · exact hh
        | false => rcases hor with hh | hh
                   · exact hh
                   · exact absurd (Or.inr hh) hold
       have : hasB h.ns at_ = false := by
        cases hb : hasB h.ns at_ with
        | false => rfl
        | true => exact absurd ((zfO _ _).1 hb) hm
       simp [putN, hi, hto, this]
end Go.Den
namespace Go.Den
open Go
set_option linter.unusedVariables false
set_option maxRecDepth 100000
open Go.Proofs.YtcmcfebihbmmeaaDoor (num numV)
structure Ws where
 h : Hp
 full : Bool
 out : ByteArray
abbrev nlB : ByteArray := ByteArray.mk #[10]
abbrev sameB : ByteArray := ByteArray.mk #[115, 97, 109, 101, 10]
abbrev otherB : ByteArray := ByteArray.mk #[111, 116, 104, 101, 114, 10]
noncomputable def zbb (fr : Bool) (room nur : Int) (h : Hp) : Hp :=
 match fr with
 | true => h
 | false => match decide (nur ≤ (h.cs.length : Int) - h.o) with
   | true => (match decide (room ≤ ((zaF h).cs.length : Int)) with | true => zb5 (zaF h) | false => zaF h)
   | false => (match decide (room ≤ (h.cs.length : Int)) with | true => zb5 h | false => h)
def zb8 (fr : Bool) (room : Int) (h : Hp) : Bool := !fr && decide (room ≤ (h.cs.length : Int))
def rg (h : Hp) (a : Int) : Int := h.rs.getD a.toNat 0
def zdn (pair : Bool) (a b : Int) (h : Hp) : Cl := match pair with | true => ⟨false, 0, rg h a, rg h b⟩ | false => ⟨true, a, 0, 0⟩
noncomputable def putO (fr : Bool) (room nur : Int) (pair : Bool) (a b : Int) (w : Ws) : Ws :=
 match zb8 fr room (zbb fr room nur w.h) with
 | true => ⟨zbb fr room nur w.h, true, w.out⟩
 | false => ⟨addH (zbb fr room nur w.h) (zdn pair a b (zbb fr room nur w.h)), false, w.out⟩
def zne (w : Ws) (second : Bool) (at_ : Int) : Ws := ⟨znL w.h (match second with | true => (cg w.h.cs at_).b | false => (cg w.h.cs at_).a), w.full, w.out⟩
noncomputable def opW (fr : Bool) (room nur : Int) (k a b : Int) (w : Ws) : Ws :=
 if k = 1 then (match decide ((w.h.rs.length : Int) < 60) with | true => putO fr room nur false a b w | false => w)
 else if k = 2 then (match zac a w.h.rs.length && zac b w.h.rs.length && decide ((w.h.rs.length : Int) < 60) with | true => putO fr room nur true a b w | false => w)
 else if k = 3 then (match zac a w.h.rs.length && decide ((w.h.rs.length : Int) < 60) && !(cg w.h.cs (rg w.h a)).l with | true => zne w false (rg w.h a) | false => w)
 else if k = 4 then (match zac a w.h.rs.length && decide ((w.h.rs.length : Int) < 60) && !(cg w.h.cs (rg w.h a)).l with | true => zne w true (rg w.h a) | false => w)
 else if k = 5 then (match zac a w.h.rs.length with | true => ⟨zhF w.h a, w.full, w.out⟩ | false => w)
 else if k = 6 then (match zac a w.h.rs.length with | true => ⟨w.h, w.full, w.out ++ (showB w.h.cs 4 (rg w.h a) ++ nlB)⟩ | false => w)
 else if k = 7 then (match zac a w.h.rs.length && zac b w.h.rs.length && !(cg w.h.cs (rg w.h a)).l with | true => ⟨setH w.h (rg w.h a) false (rg w.h b), w.full, w.out⟩ | false => w)
 else if k = 8 then (match zac a w.h.rs.length && zac b w.h.rs.length && !(cg w.h.cs (rg w.h a)).l with | true => ⟨setH w.h (rg w.h a) true (rg w.h b), w.full, w.out⟩ | false => w)
 else if k = 9 then (match zac a w.h.rs.length && zac b w.h.rs.length with | true => ⟨w.h, w.full, w.out ++ (if rg w.h a = rg w.h b then sameB else otherB)⟩ | false => w)
 else if k = 10 then (match fr with | true => w | false => ⟨zb5 w.h, w.full, w.out⟩)
 else if k = 11 then (match fr with | true => w | false => ⟨zaF w.h, w.full, w.out⟩)
 else w
structure Op3 where
 k : Int
 a : Int
 b : Int
noncomputable def runW (fr : Bool) (room nur : Int) : List Op3 → Ws → Ws
 | [], w => w
 | x :: l, w => match (opW fr room nur x.k x.a x.b w).full with
   | true => opW fr room nur x.k x.a x.b w
   | false => runW fr room nur l (opW fr room nur x.k x.a x.b w)
structure Iv (fr : Bool) (m : Nat) (w : Ws) : Prop where
 g : Hg w.h
 len : fr = true → w.h.cs.length ≤ m
 out : w.out.size ≤ 700 * m
theorem Iv.up {fr : Bool} {m : Nat} {w : Ws} (h : Iv fr m w) : Iv fr (m + 1) w := ⟨h.g, fun e => by have := h.len e; omega, by have := h.out; omega⟩
theorem zd4 {fr : Bool} {room nur : Int} {h : Hp} (g : Hg h) : Hg (zbb fr room nur h) := by
 unfold zbb
 split
 · exact g
 · split
   · split
     · exact zfa (zbJ g)
     · exact zbJ g
   · split
     · exact zfa g
     · exact g
theorem zc1 {fr : Bool} {room nur : Int} {h : Hp} : (zbb fr room nur h).rs.length = h.rs.length := by
 unfold zbb zb5 zaF mvH
 split
 · rfl
 · split <;> split <;> simp
theorem zmE {h : Hp} {a : Int} (ha : zac a h.rs.length = true) : (0 ≤ a ∧ a < (h.rs.length : Int)) ∧ h.rs[a.toNat]? = some (rg h a) := by
 have h1 := zhB ha
 refine ⟨h1, ?_⟩
 have : a.toNat < h.rs.length := by omega
 unfold rg
 rw [List.getD_eq_getElem?_getD, List.getElem?_eq_getElem this]
 rfl
theorem zcW {h : Hp} (g : Hg h) {a : Int} (ha : zac a h.rs.length = true) : 0 ≤ rg h a ∧ rg h a < (h.cs.length : Int) := g.rin _ (List.mem_of_getElem? (zmE ha).2)
theorem zkD {fr : Bool} {room nur : Int} {pair : Bool} {a b : Int} {w : Ws} {m : Nat} (i : Iv fr m w) (hr : fr = false → room ≤ 200) (hm : m < 200) (ha : In64 a) (hlt : w.h.rs.length < 60)
 (hp : pair = true → zac a w.h.rs.length = true ∧ zac b w.h.rs.length = true) : Iv fr (m + 1) (putO fr room nur pair a b w) := by
 have g := zd4 (fr := fr) (room := room) (nur := nur) i.g
 have hrs := zc1 (fr := fr) (room := room) (nur := nur) (h := w.h)
 have ht := fun (e : fr = true) => (by subst e; rfl : zbb fr room nur w.h = w.h)
 have ho := i.out
 unfold putO
 generalize zbb fr room nur w.h = h1 at *
 cases hf : zb8 fr room h1 with
 | true => exact ⟨g, fun e => by show h1.cs.length ≤ _; rw [ht e]; have := i.len e; omega, by show w.out.size ≤ _; omega⟩
 | false =>
   have hc : h1.cs.length < 200 := by
    cases fr with
    | true => have := i.len rfl; rw [ht rfl]; omega
    | false =>
      have := hr rfl
      simp [zb8] at hf
      omega
   refine ⟨znY g ?_ ?_ hc (by omega), fun e => ?_, by show w.out.size ≤ _; omega⟩
   · cases pair with
     | true =>
       obtain ⟨h2, h3⟩ := hp rfl
       have h4 := zcW g (by rw [hrs]; exact h2)
       have h5 := zcW g (by rw [hrs]; exact h3)
       exact ⟨(show In64 0 from ⟨by decide, by decide⟩), ⟨by show _ ≤ rg h1 a; omega, by show rg h1 a ≤ _; omega⟩, ⟨by show _ ≤ rg h1 b; omega, by show rg h1 b ≤ _; omega⟩⟩
     | false => exact ⟨ha, (show In64 0 from ⟨by decide, by decide⟩), (show In64 0 from ⟨by decide, by decide⟩)⟩
   · cases pair with
     | true =>
       obtain ⟨h2, h3⟩ := hp rfl
       have h4 := zcW g (by rw [hrs]; exact h2)
       have h5 := zcW g (by rw [hrs]; exact h3)
       have h6 : rg h1 a < (h1.cs.length : Int) + 1 := by omega
       have h7 : rg h1 b < (h1.cs.length : Int) + 1 := by omega
       simp [zdn, zbX, zac, h4.1, h5.1, h6, h7]
     | false => rfl
   · show (h1.cs ++ [_]).length ≤ m + 1
     rw [ht e]
     have := i.len e
     simp; omega
theorem zjf {fr : Bool} {room nur : Int} {k a b : Int} {w : Ws} {m : Nat} (i : Iv fr m w) (hr : fr = false → room ≤ 200) (hm : m < 200) (ha : In64 a) : Iv fr (m + 1) (opW fr room nur k a b w) := by
 have ho := i.out
 have same : ∀ h', Hg h' → (fr = true → h'.cs.length ≤ m + 1) → Iv fr (m + 1) ⟨h', w.full, w.out⟩ := fun h' g' hl => ⟨g', hl, by show w.out.size ≤ _; omega⟩
 unfold opW
 by_cases hk1 : k = 1
 · rw [if_pos hk1]
   cases hd : decide ((w.h.rs.length : Int) < 60) with
   | true => exact zkD i hr hm ha (by have := of_decide_eq_true hd; omega) (fun e => by cases e)
   | false => exact i.up
 rw [if_neg hk1]
 by_cases hk2 : k = 2
 · rw [if_pos hk2]
   cases hd : zac a w.h.rs.length && zac b w.h.rs.length && decide ((w.h.rs.length : Int) < 60) with
   | true =>
     simp only [Bool.and_eq_true, decide_eq_true_eq] at hd
     exact zkD i hr hm ha (by omega) (fun _ => hd.1)
   | false => exact i.up
 rw [if_neg hk2]
 by_cases hk3 : k = 3
 · rw [if_pos hk3]
   cases hd : zac a w.h.rs.length && decide ((w.h.rs.length : Int) < 60) && !(cg w.h.cs (rg w.h a)).l with
   | true =>
     simp only [Bool.and_eq_true, decide_eq_true_eq, Bool.not_eq_true'] at hd
     have h1 := zcW i.g hd.1.1
     exact same _ (ziK i.g (i.g.wf _ h1.1 h1.2 hd.2).1 (by omega)) (fun e => by have := i.len e; show w.h.cs.length ≤ _; omega)
   | false => exact i.up
 rw [if_neg hk3]
 by_cases hk4 : k = 4
 · rw [if_pos hk4]
   cases hd : zac a w.h.rs.length && decide ((w.h.rs.length : Int) < 60) && !(cg w.h.cs (rg w.h a)).l with
   | true =>
     simp only [Bool.and_eq_true, decide_eq_true_eq, Bool.not_eq_true'] at hd
     have h1 := zcW i.g hd.1.1
     exact same _ (ziK i.g (i.g.wf _ h1.1 h1.2 hd.2).2 (by omega)) (fun e => by have := i.len e; show w.h.cs.length ≤ _; omega)
   | false => exact i.up
 rw [if_neg hk4]
 by_cases hk5 : k = 5
 · rw [if_pos hk5]
   cases hd : zac a w.h.rs.length with
   | true => exact same _ (zmX i.g a) (fun e => by have := i.len e; show w.h.cs.length ≤ _; omega)
   | false => exact i.up
 rw [if_neg hk5]
 by_cases hk6 : k = 6
 · rw [if_pos hk6]
   cases hd : zac a w.h.rs.length with
   | true =>
     refine ⟨i.g, fun e => by have := i.len e; show w.h.cs.length ≤ _; omega, ?_⟩
     have := zbD w.h.cs i.g.cells 4 (rg w.h a)
     show (w.out ++ (showB w.h.cs 4 (rg w.h a) ++ nlB)).size ≤ _
     rw [ByteArray.size_append, ByteArray.size_append]
     have h1 : nlB.size = 1 := rfl
     omega
   | false => exact i.up
 rw [if_neg hk6]
 by_cases hk7 : k = 7
 · rw [if_pos hk7]
   cases hd : zac a w.h.rs.length && zac b w.h.rs.length && !(cg w.h.cs (rg w.h a)).l with
   | true =>
     simp only [Bool.and_eq_true, Bool.not_eq_true'] at hd
     exact same _ (zkj i.g (zcW i.g hd.1.1) (zcW i.g hd.1.2) hd.2) (fun e => by have := i.len e; show (w.h.cs.set _ _).length ≤ _; rw [List.length_set]; omega)
   | false => exact i.up
 rw [if_neg hk7]
 by_cases hk8 : k = 8
 · rw [if_pos hk8]
   cases hd : zac a w.h.rs.length && zac b w.h.rs.length && !(cg w.h.cs (rg w.h a)).l with
   | true =>
     simp only [Bool.and_eq_true, Bool.not_eq_true'] at hd
     exact same _ (zkj i.g (zcW i.g hd.1.1) (zcW i.g hd.1.2) hd.2) (fun e => by have := i.len e; show (w.h.cs.set _ _).length ≤ _; rw [List.length_set]; omega)
   | false => exact i.up
 rw [if_neg hk8]
 by_cases hk9 : k = 9
 · rw [if_pos hk9]
   cases hd : zac a w.h.rs.length && zac b w.h.rs.length with
   | true =>
     refine ⟨i.g, fun e => by have := i.len e; show w.h.cs.length ≤ _; omega, ?_⟩
     show (w.out ++ _).size ≤ _
     rw [ByteArray.size_append]
     have h1 : sameB.size = 5 := rfl
     have h2 : otherB.size = 6 := rfl
     split <;> omega
   | false => exact i.up
 rw [if_neg hk9]
 by_cases hk10 : k = 10
 · rw [if_pos hk10]
   cases fr with
   | true => exact i.up
   | false => exact same _ (zfa i.g) (fun e => by cases e)
 rw [if_neg hk10]
 by_cases hk11 : k = 11
 · rw [if_pos hk11]
   cases fr with
   | true => exact i.up
   | false => exact same _ (zbJ i.g) (fun e => by cases e)
 rw [if_neg hk11]
 exact i.up
end Go.Den
namespace Go.Den
open Go
set_option linter.unusedVariables false
set_option maxRecDepth 100000
open Go.Den in
abbrev Yo (o : Int) (cs rs ns : List Dat) : List D := (fY o cs rs ns)
def hd58 (b : Bool) (o : Int) (cs rs ns : List Dat) (at_ : Int) (out : List Dat) (put : Bool) (i : Int) : St := Nm [1, 4, 8, 9, 10, 49, 50, 51] [.dat (I at_), .ptr (.loc 4) 0, .ptr (.loc 8) 0, .own 3 out, .dat (B put), .dat (.lst b ns), .dat (I ns.length), .dat (I i)] [none, some [.dat (I o), .own 97 cs, .dat (.lst b rs), .dat (.lst b ns)], some (Yo 0 [] [] []), none, none, none, none, none] [] []
theorem zg5 (kk m : Nat) {s : St} {K : X → St → Prop} (b : Bool) (o : Int) (cs rs ns : List Dat) (at_ : Int) (out : List Dat) (put : Bool) (i : Int) (x53 : Int) (hs : s.norm ((zad cfg kk 58 Go.Proofs.Tryd.f58).live (zaa (lp Go.Proofs.Tryd.f58 8))) = hd58 b o cs rs ns at_ out put i) (q1 : (decide (i < (ns.length : Int)) = true) → (put = true) → (decide (at_ < x53) = true) → ((0 ≤ i ∧ i < (ns.length : Int)) ∧ ns[i.toNat]? = some (I x53)) ∧ (out.length + 1 ≤ 2147483648) ∧ ((out ++ [I at_]).length + 1 ≤ 2147483648) ∧ (∀ s : St, s.norm ((zad cfg kk 58 Go.Proofs.Tryd.f58).live (zaa (lp Go.Proofs.Tryd.f58 8))) = Nm [1, 4, 8, 9, 10, 49, 50, 51] [D.dat (I at_), D.ptr (Ref.loc 4) 0, D.ptr (Ref.loc 8) 0, D.own 3 (out ++ [I at_] ++ [I x53]), D.dat (B false), D.dat (Dat.lst b ns), D.dat (I (ns.length : Int)), D.dat (I (w64 (i + 1)))] [none, some [D.dat (I o), D.own 97 cs, D.dat (Dat.lst b rs), D.dat (Dat.lst b ns)], some (fY 0 [] [] []), none, none, none, none, none] [] [] → zae (zad cfg kk 58 Go.Proofs.Tryd.f58) kk (lp Go.Proofs.Tryd.f58 8) m s K)) (q2 : (decide (i < (ns.length : Int)) = true) → (put = true) → (decide (at_ < x53) = false) → ((0 ≤ i ∧ i < (ns.length : Int)) ∧ ns[i.toNat]? = some (I x53)) ∧ (out.length + 1 ≤ 2147483648) ∧ (∀ s : St, s.norm ((zad cfg kk 58 Go.Proofs.Tryd.f58).live (zaa (lp Go.Proofs.Tryd.f58 8))) = Nm [1, 4, 8, 9, 10, 49, 50, 51] [D.dat (I at_), D.ptr (Ref.loc 4) 0, D.ptr (Ref.loc 8) 0, D.own 3 (out ++ [I x53]), D.dat (B put), D.dat (Dat.lst b ns), D.dat (I (ns.length : Int)), D.dat (I (w64 (i + 1)))] [none, some [D.dat (I o), D.own 97 cs, D.dat (Dat.lst b rs), D.dat (Dat.lst b ns)], some (fY 0 [] [] []), none, none, none, none, none] [] [] → zae (zad cfg kk 58 Go.Proofs.Tryd.f58) kk (lp Go.Proofs.Tryd.f58 8) m s K)) (q3 : (decide (i < (ns.length : Int)) = true) → (put = false) → ((0 ≤ i ∧ i < (ns.length : Int)) ∧ ns[i.toNat]? = some (I x53)) ∧ (out.length + 1 ≤ 2147483648) ∧ (∀ s : St, s.norm ((zad cfg kk 58 Go.Proofs.Tryd.f58).live (zaa (lp Go.Proofs.Tryd.f58 8))) = Nm [1, 4, 8, 9, 10, 49, 50, 51] [D.dat (I at_), D.ptr (Ref.loc 4) 0, D.ptr (Ref.loc 8) 0, D.own 3 (out ++ [I x53]), D.dat (B put), D.dat (Dat.lst b ns), D.dat (I (ns.length : Int)), D.dat (I (w64 (i + 1)))] [none, some [D.dat (I o), D.own 97 cs, D.dat (Dat.lst b rs), D.dat (Dat.lst b ns)], some (fY 0 [] [] []), none, none, none, none, none] [] [] → zae (zad cfg kk 58 Go.Proofs.Tryd.f58) kk (lp Go.Proofs.Tryd.f58 8) m s K)) (q4 : (decide (i < (ns.length : Int)) = false) → K (X.exit 0) (Nm [1, 4, 8, 9, 10] [D.dat (I at_), D.ptr (Ref.loc 4) 0, D.ptr (Ref.loc 8) 0, D.own 3 out, D.dat (B put)] [none, some [D.dat (I o), D.own 97 cs, D.dat (Dat.lst b rs), D.dat (Dat.lst b ns)], some (fY 0 [] [] []), none, none] [] [])) : zae (zad cfg kk 58 Go.Proofs.Tryd.f58) kk (lp Go.Proofs.Tryd.f58 8) (m + 1) s K := by
 rcases Bool.eq_false_or_eq_true (decide (i < (ns.length : Int))) with d1 | d1
 · rcases Bool.eq_false_or_eq_true (put) with d3 | d3
   · rcases Bool.eq_false_or_eq_true (decide (at_ < x53)) with d6 | d6
     · obtain ⟨hz1, hz2, hz3, oz⟩ := q1 d1 d3 d6
       exact zag [(53, .at (I x53)), (64, .ok), (68, .ok), (200052, .yes), (200056, .yes), (200060, .yes)] hs (by kernel_rfl) (ob d1 (ob hz1 (ob d3 (ob (rfl : true = true) (ob (rfl : true = true) (ob d6 (ob (obT hz2) (ob (obT hz3) ob0)))))))) (by kernel_rfl) oz
     · obtain ⟨hz1, hz2, oz⟩ := q2 d1 d3 d6
       exact zag [(53, .at (I x53)), (64, .ok), (68, .ok), (200052, .yes), (200056, .yes), (200060, .no)] hs (by kernel_rfl) (ob d1 (ob hz1 (ob d3 (ob (rfl : true = true) (ob (rfl : true = true) (ob d6 (ob (obT hz2) ob0))))))) (by kernel_rfl) oz
   · obtain ⟨hz1, hz2, oz⟩ := q3 d1 d3
     exact zag [(53, .at (I x53)), (64, .ok), (68, .ok), (200052, .yes), (200056, .no)] hs (by kernel_rfl) (ob d1 (ob hz1 (ob d3 (ob (rfl : false = false) (ob (rfl : false = false) (ob (obT hz2) ob0)))))) (by kernel_rfl) oz
 · have oz := q4 d1
   exact zam [(53, .at (I x53)), (64, .ok), (68, .ok), (200052, .no)] hs (by kernel_rfl) rfl (ob d1 ob0) (by kernel_rfl) oz
theorem lhSet (kk : Nat) (b : Bool) (o : Int) (cs rs ns : List Dat) (at_ : Int) (second : Bool) (to : Int) (cs' : List Dat) (put0 : Bool) (out : List Dat) (put : Bool) (c100024 : Cl) (c100030 : Cl) (g45 : Bool) {r : Res} (q1 : (second = true) → (decide (at_ < o) = true) → (decide (o ≤ to) = true) → (put = true) → ((cs.all fun d => d.cells.length.beq (TI.mk TK.struct 4 32 [(0, 4), (1, 3), (2, 3), (3, 3)] [D.dat (B false), D.dat (I 0), D.dat (I 0), D.dat (I 0)]).sz) = true ∧ 0 + cs.length ≤ 2147483648) ∧ (0 ≤ at_ ∧ at_ < (([] ++ cs).length : Int)) ∧ (([] ++ cs)[at_.toNat]? = some (Dat.agg [B c100024.l, I c100024.n, I c100024.a, I c100024.b])) ∧ (fD kk 71 [D.dat (Dat.lst b ns), D.dat (I at_)] [D.dat (B g45)]) ∧ (Nm [1, 4, 8, 9, 10, 49, 50, 51] [D.dat (I at_), D.ptr (Ref.loc 4) 0, D.ptr (Ref.loc 8) 0, D.own 3 [], D.dat (B !g45), D.dat (Dat.lst b ns), D.dat (I (ns.length : Int)), D.dat (I 0)] [none, some [D.dat (I o), D.own 97 (([] ++ cs).set at_.toNat (Dat.agg [B c100024.l, I c100024.n, I c100024.a, I to])), D.dat (Dat.lst b rs), D.dat (Dat.lst b ns)], some (fY 0 [] [] []), none, none, none, none, none] [] [] = hd58 b o cs' rs ns at_ [] put0 0) ∧ (zao cfg kk 58 Go.Proofs.Tryd.f58 8 (hd58 b o cs' rs ns at_ [] put0 0) (X.exit 0) (Nm [1, 4, 8, 9, 10] [D.dat (I at_), D.ptr (Ref.loc 4) 0, D.ptr (Ref.loc 8) 0, D.own 3 out, D.dat (B put)] [none, some [D.dat (I o), D.own 97 cs', D.dat (Dat.lst b rs), D.dat (Dat.lst b ns)], some (fY 0 [] [] []), none, none] [] [])) ∧ (out.length + 1 ≤ 2147483648) ∧ ((rs.all fun d => d.cells.length.beq (TI.mk (TK.int IntKind.i64) 1 8 [] [D.dat (I 0)]).sz) = true ∧ 0 + rs.length ≤ 2147483648) ∧ r = ([D.seq false (fY o cs' ([] ++ rs) (out ++ [I at_]))], [], [])) (q2 : (second = true) → (decide (at_ < o) = true) → (decide (o ≤ to) = true) → (put = false) → ((cs.all fun d => d.cells.length.beq (TI.mk TK.struct 4 32 [(0, 4), (1, 3), (2, 3), (3, 3)] [D.dat (B false), D.dat (I 0), D.dat (I 0), D.dat (I 0)]).sz) = true ∧ 0 + cs.length ≤ 2147483648) ∧ (0 ≤ at_ ∧ at_ < (([] ++ cs).length : Int)) ∧ (([] ++ cs)[at_.toNat]? = some (Dat.agg [B c100024.l, I c100024.n, I c100024.a, I c100024.b])) ∧ (fD kk 71 [D.dat (Dat.lst b ns), D.dat (I at_)] [D.dat (B g45)]) ∧ (Nm [1, 4, 8, 9, 10, 49, 50, 51] [D.dat (I at_), D.ptr (Ref.loc 4) 0, D.ptr (Ref.loc 8) 0, D.own 3 [], D.dat (B !g45), D.dat (Dat.lst b ns), D.dat (I (ns.length : Int)), D.dat (I 0)] [none, some [D.dat (I o), D.own 97 (([] ++ cs).set at_.toNat (Dat.agg [B c100024.l, I c100024.n, I c100024.a, I to])), D.dat (Dat.lst b rs), D.dat (Dat.lst b ns)], some (fY 0 [] [] []), none, none, none, none, none] [] [] = hd58 b o cs' rs ns at_ [] put0 0) ∧ (zao cfg kk 58 Go.Proofs.Tryd.f58 8 (hd58 b o cs' rs ns at_ [] put0 0) (X.exit 0) (Nm [1, 4, 8, 9, 10] [D.dat (I at_), D.ptr (Ref.loc 4) 0, D.ptr (Ref.loc 8) 0, D.own 3 out, D.dat (B put)] [none, some [D.dat (I o), D.own 97 cs', D.dat (Dat.lst b rs), D.dat (Dat.lst b ns)], some (fY 0 [] [] []), none, none] [] [])) ∧ ((rs.all fun d => d.cells.length.beq (TI.mk (TK.int IntKind.i64) 1 8 [] [D.dat (I 0)]).sz) = true ∧ 0 + rs.length ≤ 2147483648) ∧ r = ([D.seq false (fY o cs' ([] ++ rs) out)], [], [])) (q3 : (second = true) → (decide (at_ < o) = true) → (decide (o ≤ to) = false) → (put = true) → ((cs.all fun d => d.cells.length.beq (TI.mk TK.struct 4 32 [(0, 4), (1, 3), (2, 3), (3, 3)] [D.dat (B false), D.dat (I 0), D.dat (I 0), D.dat (I 0)]).sz) = true ∧ 0 + cs.length ≤ 2147483648) ∧ (0 ≤ at_ ∧ at_ < (([] ++ cs).length : Int)) ∧ (([] ++ cs)[at_.toNat]? = some (Dat.agg [B c100024.l, I c100024.n, I c100024.a, I c100024.b])) ∧ (Nm [1, 4, 8, 9, 10, 49, 50, 51] [D.dat (I at_), D.ptr (Ref.loc 4) 0, D.ptr (Ref.loc 8) 0, D.own 3 [], D.dat (B false), D.dat (Dat.lst b ns), D.dat (I (ns.length : Int)), D.dat (I 0)] [none, some [D.dat (I o), D.own 97 (([] ++ cs).set at_.toNat (Dat.agg [B c100024.l, I c100024.n, I c100024.a, I to])), D.dat (Dat.lst b rs), D.dat (Dat.lst b ns)], some (fY 0 [] [] []), none, none, none, none, none] [] [] = hd58 b o cs' rs ns at_ [] put0 0) ∧ (zao cfg kk 58 Go.Proofs.Tryd.f58 8 (hd58 b o cs' rs ns at_ [] put0 0) (X.exit 0) (Nm [1, 4, 8, 9, 10] [D.dat (I at_), D.ptr (Ref.loc 4) 0, D.ptr (Ref.loc 8) 0, D.own 3 out, D.dat (B put)] [none, some [D.dat (I o), D.own 97 cs', D.dat (Dat.lst b rs), D.dat (Dat.lst b ns)], some (fY 0 [] [] []), none, none] [] [])) ∧ (out.length + 1 ≤ 2147483648) ∧ ((rs.all fun d => d.cells.length.beq (TI.mk (TK.int IntKind.i64) 1 8 [] [D.dat (I 0)]).sz) = true ∧ 0 + rs.length ≤ 2147483648) ∧ r = ([D.seq false (fY o cs' ([] ++ rs) (out ++ [I at_]))], [], [])) (q4 : (second = true) → (decide (at_ < o) = true) → (decide (o ≤ to) = false) → (put = false) → ((cs.all fun d => d.cells.length.beq (TI.mk TK.struct 4 32 [(0, 4), (1, 3), (2, 3), (3, 3)] [D.dat (B false), D.dat (I 0), D.dat (I 0), D.dat (I 0)]).sz) = true ∧ 0 + cs.length ≤ 2147483648) ∧ (0 ≤ at_ ∧ at_ < (([] ++ cs).length : Int)) ∧ (([] ++ cs)[at_.toNat]? = some (Dat.agg [B c100024.l, I c100024.n, I c100024.a, I c100024.b])) ∧ (Nm [1, 4, 8, 9, 10, 49, 50, 51] [D.dat (I at_), D.ptr (Ref.loc 4) 0, D.ptr (Ref.loc 8) 0, D.own 3 [], D.dat (B false), D.dat (Dat.lst b ns), D.dat (I (ns.length : Int)), D.dat (I 0)] [none, some [D.dat (I o), D.own 97 (([] ++ cs).set at_.toNat (Dat.agg [B c100024.l, I c100024.n, I c100024.a, I to])), D.dat (Dat.lst b rs), D.dat (Dat.lst b ns)], some (fY 0 [] [] []), none, none, none, none, none] [] [] = hd58 b o cs' rs ns at_ [] put0 0) ∧ (zao cfg kk 58 Go.Proofs.Tryd.f58 8 (hd58 b o cs' rs ns at_ [] put0 0) (X.exit 0) (Nm [1, 4, 8, 9, 10] [D.dat (I at_), D.ptr (Ref.loc 4) 0, D.ptr (Ref.loc 8) 0, D.own 3 out, D.dat (B put)] [none, some [D.dat (I o), D.own 97 cs', D.dat (Dat.lst b rs), D.dat (Dat.lst b ns)], some (fY 0 [] [] []), none, none] [] [])) ∧ ((rs.all fun d => d.cells.length.beq (TI.mk (TK.int IntKind.i64) 1 8 [] [D.dat (I 0)]).sz) = true ∧ 0 + rs.length ≤ 2147483648) ∧ r = ([D.seq false (fY o cs' ([] ++ rs) out)], [], [])) (q5 : (second = true) → (decide (at_ < o) = false) → (put = true) → ((cs.all fun d => d.cells.length.beq (TI.mk TK.struct 4 32 [(0, 4), (1, 3), (2, 3), (3, 3)] [D.dat (B false), D.dat (I 0), D.dat (I 0), D.dat (I 0)]).sz) = true ∧ 0 + cs.length ≤ 2147483648) ∧ (0 ≤ at_ ∧ at_ < (([] ++ cs).length : Int)) ∧ (([] ++ cs)[at_.toNat]? = some (Dat.agg [B c100024.l, I c100024.n, I c100024.a, I c100024.b])) ∧ (Nm [1, 4, 8, 9, 10, 49, 50, 51] [D.dat (I at_), D.ptr (Ref.loc 4) 0, D.ptr (Ref.loc 8) 0, D.own 3 [], D.dat (B false), D.dat (Dat.lst b ns), D.dat (I (ns.length : Int)), D.dat (I 0)] [none, some [D.dat (I o), D.own 97 (([] ++ cs).set at_.toNat (Dat.agg [B c100024.l, I c100024.n, I c100024.a, I to])), D.dat (Dat.lst b rs), D.dat (Dat.lst b ns)], some (fY 0 [] [] []), none, none, none, none, none] [] [] = hd58 b o cs' rs ns at_ [] put0 0) ∧ (zao cfg kk 58 Go.Proofs.Tryd.f58 8 (hd58 b o cs' rs ns at_ [] put0 0) (X.exit 0) (Nm [1, 4, 8, 9, 10] [D.dat (I at_), D.ptr (Ref.loc 4) 0, D.ptr (Ref.loc 8) 0, D.own 3 out, D.dat (B put)] [none, some [D.dat (I o), D.own 97 cs', D.dat (Dat.lst b rs), D.dat (Dat.lst b ns)], some (fY 0 [] [] []), none, none] [] [])) ∧ (out.length + 1 ≤ 2147483648) ∧ ((rs.all fun d => d.cells.length.beq (TI.mk (TK.int IntKind.i64) 1 8 [] [D.dat (I 0)]).sz) = true ∧ 0 + rs.length ≤ 2147483648) ∧ r = ([D.seq false (fY o cs' ([] ++ rs) (out ++ [I at_]))], [], [])) (q6 : (second = true) → (decide (at_ < o) = false) → (put = false) → ((cs.all fun d => d.cells.length.beq (TI.mk TK.struct 4 32 [(0, 4), (1, 3), (2, 3), (3, 3)] [D.dat (B false), D.dat (I 0), D.dat (I 0), D.dat (I 0)]).sz) = true ∧ 0 + cs.length ≤ 2147483648) ∧ (0 ≤ at_ ∧ at_ < (([] ++ cs).length : Int)) ∧ (([] ++ cs)[at_.toNat]? = some (Dat.agg [B c100024.l, I c100024.n, I c100024.a, I c100024.b])) ∧ (Nm [1, 4, 8, 9, 10, 49, 50, 51] [D.dat (I at_), D.ptr (Ref.loc 4) 0, D.ptr (Ref.loc 8) 0, D.own 3 [], D.dat (B false), D.dat (Dat.lst b ns), D.dat (I (ns.length : Int)), D.dat (I 0)] [none, some [D.dat (I o), D.own 97 (([] ++ cs).set at_.toNat (Dat.agg [B c100024.l, I c100024.n, I c100024.a, I to])), D.dat (Dat.lst b rs), D.dat (Dat.lst b ns)], some (fY 0 [] [] []), none, none, none, none, none] [] [] = hd58 b o cs' rs ns at_ [] put0 0) ∧ (zao cfg kk 58 Go.Proofs.Tryd.f58 8 (hd58 b o cs' rs ns at_ [] put0 0) (X.exit 0) (Nm [1, 4, 8, 9, 10] [D.dat (I at_), D.ptr (Ref.loc 4) 0, D.ptr (Ref.loc 8) 0, D.own 3 out, D.dat (B put)] [none, some [D.dat (I o), D.own 97 cs', D.dat (Dat.lst b rs), D.dat (Dat.lst b ns)], some (fY 0 [] [] []), none, none] [] [])) ∧ ((rs.all fun d => d.cells.length.beq (TI.mk (TK.int IntKind.i64) 1 8 [] [D.dat (I 0)]).sz) = true ∧ 0 + rs.length ≤ 2147483648) ∧ r = ([D.seq false (fY o cs' ([] ++ rs) out)], [], [])) (q7 : (second = false) → (decide (at_ < o) = true) → (decide (o ≤ to) = true) → (put = true) → ((cs.all fun d => d.cells.length.beq (TI.mk TK.struct 4 32 [(0, 4), (1, 3), (2, 3), (3, 3)] [D.dat (B false), D.dat (I 0), D.dat (I 0), D.dat (I 0)]).sz) = true ∧ 0 + cs.length ≤ 2147483648) ∧ (0 ≤ at_ ∧ at_ < (([] ++ cs).length : Int)) ∧ (([] ++ cs)[at_.toNat]? = some (Dat.agg [B c100030.l, I c100030.n, I c100030.a, I c100030.b])) ∧ (fD kk 71 [D.dat (Dat.lst b ns), D.dat (I at_)] [D.dat (B g45)]) ∧ (Nm [1, 4, 8, 9, 10, 49, 50, 51] [D.dat (I at_), D.ptr (Ref.loc 4) 0, D.ptr (Ref.loc 8) 0, D.own 3 [], D.dat (B !g45), D.dat (Dat.lst b ns), D.dat (I (ns.length : Int)), D.dat (I 0)] [none, some [D.dat (I o), D.own 97 (([] ++ cs).set at_.toNat (Dat.agg [B c100030.l, I c100030.n, I to, I c100030.b])), D.dat (Dat.lst b rs), D.dat (Dat.lst b ns)], some (fY 0 [] [] []), none, none, none, none, none] [] [] = hd58 b o cs' rs ns at_ [] put0 0) ∧ (zao cfg kk 58 Go.Proofs.Tryd.f58 8 (hd58 b o cs' rs ns at_ [] put0 0) (X.exit 0) (Nm [1, 4, 8, 9, 10] [D.dat (I at_), D.ptr (Ref.loc 4) 0, D.ptr (Ref.loc 8) 0, D.own 3 out, D.dat (B put)] [none, some [D.dat (I o), D.own 97 cs', D.dat (Dat.lst b rs), D.dat (Dat.lst b ns)], some (fY 0 [] [] []), none, none] [] [])) ∧ (out.length + 1 ≤ 2147483648) ∧ ((rs.all fun d => d.cells.length.beq (TI.mk (TK.int IntKind.i64) 1 8 [] [D.dat (I 0)]).sz) = true ∧ 0 + rs.length ≤ 2147483648) ∧ r = ([D.seq false (fY o cs' ([] ++ rs) (out ++ [I at_]))], [], [])) (q8 : (second = false) → (decide (at_ < o) = true) → (decide (o ≤ to) = true) → (put = false) → ((cs.all fun d => d.cells.length.beq (TI.mk TK.struct 4 32 [(0, 4), (1, 3), (2, 3), (3, 3)] [D.dat (B false), D.dat (I 0), D.dat (I 0), D.dat (I 0)]).sz) = true ∧ 0 + cs.length ≤ 2147483648) ∧ (0 ≤ at_ ∧ at_ < (([] ++ cs).length : Int)) ∧ (([] ++ cs)[at_.toNat]? = some (Dat.agg [B c100030.l, I c100030.n, I c100030.a, I c100030.b])) ∧ (fD kk 71 [D.dat (Dat.lst b ns), D.dat (I at_)] [D.dat (B g45)]) ∧ (Nm [1, 4, 8, 9, 10, 49, 50, 51] [D.dat (I at_), D.ptr (Ref.loc 4) 0, D.ptr (Ref.loc 8) 0, D.own 3 [], D.dat (B !g45), D.dat (Dat.lst b ns), D.dat (I (ns.length : Int)), D.dat (I 0)] [none, some [D.dat (I o), D.own 97 (([] ++ cs).set at_.toNat (Dat.agg [B c100030.l, I c100030.n, I to, I c100030.b])), D.dat (Dat.lst b rs), D.dat (Dat.lst b ns)], some (fY 0 [] [] []), none, none, none, none, none] [] [] = hd58 b o cs' rs ns at_ [] put0 0) ∧ (zao cfg kk 58 Go.Proofs.Tryd.f58 8 (hd58 b o cs' rs ns at_ [] put0 0) (X.exit 0) (Nm [1, 4, 8, 9, 10] [D.dat (I at_), D.ptr (Ref.loc 4) 0, D.ptr (Ref.loc 8) 0, D.own 3 out, D.dat (B put)] [none, some [D.dat (I o), D.own 97 cs', D.dat (Dat.lst b rs), D.dat (Dat.lst b ns)], some (fY 0 [] [] []), none, none] [] [])) ∧ ((rs.all fun d => d.cells.length.beq (TI.mk (TK.int IntKind.i64) 1 8 [] [D.dat (I 0)]).sz) = true ∧ 0 + rs.length ≤ 2147483648) ∧ r = ([D.seq false (fY o cs' ([] ++ rs) out)], [], [])) (q9 : (second = false) → (decide (at_ < o) = true) → (decide (o ≤ to) = false) → (put = true) → ((cs.all fun d => d.cells.length.beq (TI.mk TK.struct 4 32 [(0, 4), (1, 3), (2, 3), (3, 3)] [D.dat (B false), D.dat (I 0), D.dat (I 0), D.dat (I 0)]).sz) = true ∧ 0 + cs.length ≤ 2147483648) ∧ (0 ≤ at_ ∧ at_ < (([] ++ cs).length : Int)) ∧ (([] ++ cs)[at_.toNat]? = some (Dat.agg [B c100030.l, I c100030.n, I c100030.a, I c100030.b])) ∧ (Nm [1, 4, 8, 9, 10, 49, 50, 51] [D.dat (I at_), D.ptr (Ref.loc 4) 0, D.ptr (Ref.loc 8) 0, D.own 3 [], D.dat (B false), D.dat (Dat.lst b ns), D.dat (I (ns.length : Int)), D.dat (I 0)] [none, some [D.dat (I o), D.own 97 (([] ++ cs).set at_.toNat (Dat.agg [B c100030.l, I c100030.n, I to, I c100030.b])), D.dat (Dat.lst b rs), D.dat (Dat.lst b ns)], some (fY 0 [] [] []), none, none, none, none, none] [] [] = hd58 b o cs' rs ns at_ [] put0 0) ∧ (zao cfg kk 58 Go.Proofs.Tryd.f58 8 (hd58 b o cs' rs ns at_ [] put0 0) (X.exit 0) (Nm [1, 4, 8, 9, 10] [D.dat (I at_), D.ptr (Ref.loc 4) 0, D.ptr (Ref.loc 8) 0, D.own 3 out, D.dat (B put)] [none, some [D.dat (I o), D.own 97 cs', D.dat (Dat.lst b rs), D.dat (Dat.lst b ns)], some (fY 0 [] [] []), none, none] [] [])) ∧ (out.length + 1 ≤ 2147483648) ∧ ((rs.all fun d => d.cells.length.beq (TI.mk (TK.int IntKind.i64) 1 8 [] [D.dat (I 0)]).sz) = true ∧ 0 + rs.length ≤ 2147483648) ∧ r = ([D.seq false (fY o cs' ([] ++ rs) (out ++ [I at_]))], [], [])) (q10 : (second = false) → (decide (at_ < o) = true) → (decide (o ≤ to) = false) → (put = false) → ((cs.all fun d => d.cells.length.beq (TI.mk TK.struct 4 32 [(0, 4), (1, 3), (2, 3), (3, 3)] [D.dat (B false), D.dat (I 0), D.dat (I 0), D.dat (I 0)]).sz) = true ∧ 0 + cs.length ≤ 2147483648) ∧ (0 ≤ at_ ∧ at_ < (([] ++ cs).length : Int)) ∧ (([] ++ cs)[at_.toNat]? = some (Dat.agg [B c100030.l, I c100030.n, I c100030.a, I c100030.b])) ∧ (Nm [1, 4, 8, 9, 10, 49, 50, 51] [D.dat (I at_), D.ptr (Ref.loc 4) 0, D.ptr (Ref.loc 8) 0, D.own 3 [], D.dat (B false), D.dat (Dat.lst b ns), D.dat (I (ns.length : Int)), D.dat (I 0)] [none, some [D.dat (I o), D.own 97 (([] ++ cs).set at_.toNat (Dat.agg [B c100030.l, I c100030.n, I to, I c100030.b])), D.dat (Dat.lst b rs), D.dat (Dat.lst b ns)], some (fY 0 [] [] []), none, none, none, none, none] [] [] = hd58 b o cs' rs ns at_ [] put0 0) ∧ (zao cfg kk 58 Go.Proofs.Tryd.f58 8 (hd58 b o cs' rs ns at_ [] put0 0) (X.exit 0) (Nm [1, 4, 8, 9, 10] [D.dat (I at_), D.ptr (Ref.loc 4) 0, D.ptr (Ref.loc 8) 0, D.own 3 out, D.dat (B put)] [none, some [D.dat (I o), D.own 97 cs', D.dat (Dat.lst b rs), D.dat (Dat.lst b ns)], some (fY 0 [] [] []), none, none] [] [])) ∧ ((rs.all fun d => d.cells.length.beq (TI.mk (TK.int IntKind.i64) 1 8 [] [D.dat (I 0)]).sz) = true ∧ 0 + rs.length ≤ 2147483648) ∧ r = ([D.seq false (fY o cs' ([] ++ rs) out)], [], [])) (q11 : (second = false) → (decide (at_ < o) = false) → (put = true) → ((cs.all fun d => d.cells.length.beq (TI.mk TK.struct 4 32 [(0, 4), (1, 3), (2, 3), (3, 3)] [D.dat (B false), D.dat (I 0), D.dat (I 0), D.dat (I 0)]).sz) = true ∧ 0 + cs.length ≤ 2147483648) ∧ (0 ≤ at_ ∧ at_ < (([] ++ cs).length : Int)) ∧ (([] ++ cs)[at_.toNat]? = some (Dat.agg [B c100030.l, I c100030.n, I c100030.a, I c100030.b])) ∧ (Nm [1, 4, 8, 9, 10, 49, 50, 51] [D.dat (I at_), D.ptr (Ref.loc 4) 0, D.ptr (Ref.loc 8) 0, D.own 3 [], D.dat (B false), D.dat (Dat.lst b ns), D.dat (I (ns.length : Int)), D.dat (I 0)] [none, some [D.dat (I o), D.own 97 (([] ++ cs).set at_.toNat (Dat.agg [B c100030.l, I c100030.n, I to, I c100030.b])), D.dat (Dat.lst b rs), D.dat (Dat.lst b ns)], some (fY 0 [] [] []), none, none, none, none, none] [] [] = hd58 b o cs' rs ns at_ [] put0 0) ∧ (zao cfg kk 58 Go.Proofs.Tryd.f58 8 (hd58 b o cs' rs ns at_ [] put0 0) (X.exit 0) (Nm [1, 4, 8, 9, 10] [D.dat (I at_), D.ptr (Ref.loc 4) 0, D.ptr (Ref.loc 8) 0, D.own 3 out, D.dat (B put)] [none, some [D.dat (I o), D.own 97 cs', D.dat (Dat.lst b rs), D.dat (Dat.lst b ns)], some (fY 0 [] [] []), none, none] [] [])) ∧ (out.length + 1 ≤ 2147483648) ∧ ((rs.all fun d => d.cells.length.beq (TI.mk (TK.int IntKind.i64) 1 8 [] [D.dat (I 0)]).sz) = true ∧ 0 + rs.length ≤ 2147483648) ∧ r = ([D.seq false (fY o cs' ([] ++ rs) (out ++ [I at_]))], [], [])) (q12 : (second = false) → (decide (at_ < o) = false) → (put = false) → ((cs.all fun d => d.cells.length.beq (TI.mk TK.struct 4 32 [(0, 4), (1, 3), (2, 3), (3, 3)] [D.dat (B false), D.dat (I 0), D.dat (I 0), D.dat (I 0)]).sz) = true ∧ 0 + cs.length ≤ 2147483648) ∧ (0 ≤ at_ ∧ at_ < (([] ++ cs).length : Int)) ∧ (([] ++ cs)[at_.toNat]? = some (Dat.agg [B c100030.l, I c100030.n, I c100030.a, I c100030.b])) ∧ (Nm [1, 4, 8, 9, 10, 49, 50, 51] [D.dat (I at_), D.ptr (Ref.loc 4) 0, D.ptr (Ref.loc 8) 0, D.own 3 [], D.dat (B false), D.dat (Dat.lst b ns), D.dat (I (ns.length : Int)), D.dat (I 0)] [none, some [D.dat (I o), D.own 97 (([] ++ cs).set at_.toNat (Dat.agg [B c100030.l, I c100030.n, I to, I c100030.b])), D.dat (Dat.lst b rs), D.dat (Dat.lst b ns)], some (fY 0 [] [] []), none, none, none, none, none] [] [] = hd58 b o cs' rs ns at_ [] put0 0) ∧ (zao cfg kk 58 Go.Proofs.Tryd.f58 8 (hd58 b o cs' rs ns at_ [] put0 0) (X.exit 0) (Nm [1, 4, 8, 9, 10] [D.dat (I at_), D.ptr (Ref.loc 4) 0, D.ptr (Ref.loc 8) 0, D.own 3 out, D.dat (B put)] [none, some [D.dat (I o), D.own 97 cs', D.dat (Dat.lst b rs), D.dat (Dat.lst b ns)], some (fY 0 [] [] []), none, none] [] [])) ∧ ((rs.all fun d => d.cells.length.beq (TI.mk (TK.int IntKind.i64) 1 8 [] [D.dat (I 0)]).sz) = true ∧ 0 + rs.length ≤ 2147483648) ∧ r = ([D.seq false (fY o cs' ([] ++ rs) out)], [], [])) : zaj cfg kk (den cfg kk) 58 Go.Proofs.Tryd.f58 [.dat (Yd b o cs rs ns), .dat (I at_), .dat (B second), .dat (I to)] [] [] = some r := by
 rcases Bool.eq_false_or_eq_true (second) with d2 | d2
 · rcases Bool.eq_false_or_eq_true (decide (at_ < o)) with d5 | d5
   · rcases Bool.eq_false_or_eq_true (decide (o ≤ to)) with d9 | d9
     · rcases Bool.eq_false_or_eq_true (put) with d17 | d17
       · obtain ⟨hz1, hz2, hz3, hz4, hz5, hz6, hz7, hz8, oz⟩ := q1 d2 d5 d9 d17
         subst oz; exact zab [(300008, .loop (hd58 b o cs' rs ns at_ [] put0 0) (.exit 0) (Nm [1, 4, 8, 9, 10] [.dat (I at_), .ptr (.loc 4) 0, .ptr (.loc 8) 0, .own 3 out, .dat (B put)] [none, some [.dat (I o), .own 97 cs', .dat (.lst b rs), .dat (.lst b ns)], some (Yo 0 [] [] []), none, none] [] [])), (16, .ok), (23, .ok), (29, .ok), (100024, .at (c100024.d)), (100030, .at (c100030.d)), (45, .ret [.dat (B g45)]), (74, .ok), (80, .ok), (200018, .yes), (200035, .yes), (200041, .yes), (200070, .yes)] (ob hz1 (ob d2 (ob hz2 (ob hz3 (ob d5 (ob (rfl : true = true) (ob (rfl : true = true) (ob (rfl : true = true) (ob d9 (ob (rfl : true = true) (ob (rfl : true = true) (ob (rfl : true = true) (ob hz4 (ob (rfl : true = true) (ob hz5 (ob hz6 (ob d17 (ob (obT hz7) (ob hz8 ob0))))))))))))))))))) (by kernel_rfl)
       · obtain ⟨hz1, hz2, hz3, hz4, hz5, hz6, hz7, oz⟩ := q2 d2 d5 d9 d17
         subst oz; exact zab [(300008, .loop (hd58 b o cs' rs ns at_ [] put0 0) (.exit 0) (Nm [1, 4, 8, 9, 10] [.dat (I at_), .ptr (.loc 4) 0, .ptr (.loc 8) 0, .own 3 out, .dat (B put)] [none, some [.dat (I o), .own 97 cs', .dat (.lst b rs), .dat (.lst b ns)], some (Yo 0 [] [] []), none, none] [] [])), (16, .ok), (23, .ok), (29, .ok), (100024, .at (c100024.d)), (100030, .at (c100030.d)), (45, .ret [.dat (B g45)]), (74, .ok), (80, .ok), (200018, .yes), (200035, .yes), (200041, .yes), (200070, .no)] (ob hz1 (ob d2 (ob hz2 (ob hz3 (ob d5 (ob (rfl : true = true) (ob (rfl : true = true) (ob (rfl : true = true) (ob d9 (ob (rfl : true = true) (ob (rfl : true = true) (ob (rfl : true = true) (ob hz4 (ob (rfl : true = true) (ob hz5 (ob hz6 (ob d17 (ob hz7 ob0)))))))))))))))))) (by kernel_rfl)
     · rcases Bool.eq_false_or_eq_true (put) with d16 | d16
       · obtain ⟨hz1, hz2, hz3, hz4, hz5, hz6, hz7, oz⟩ := q3 d2 d5 d9 d16
         subst oz; exact zab [(300008, .loop (hd58 b o cs' rs ns at_ [] put0 0) (.exit 0) (Nm [1, 4, 8, 9, 10] [.dat (I at_), .ptr (.loc 4) 0, .ptr (.loc 8) 0, .own 3 out, .dat (B put)] [none, some [.dat (I o), .own 97 cs', .dat (.lst b rs), .dat (.lst b ns)], some (Yo 0 [] [] []), none, none] [] [])), (16, .ok), (23, .ok), (29, .ok), (100024, .at (c100024.d)), (100030, .at (c100030.d)), (45, .ret [.dat (B g45)]), (74, .ok), (80, .ok), (200018, .yes), (200035, .yes), (200041, .no), (200070, .yes)] (ob hz1 (ob d2 (ob hz2 (ob hz3 (ob d5 (ob (rfl : true = true) (ob (rfl : true = true) (ob (rfl : true = true) (ob d9 (ob (rfl : false = false) (ob (rfl : false = false) (ob (rfl : false = false) (ob (rfl : false = false) (ob hz4 (ob hz5 (ob d16 (ob (obT hz6) (ob hz7 ob0)))))))))))))))))) (by kernel_rfl)
       · obtain ⟨hz1, hz2, hz3, hz4, hz5, hz6, oz⟩ := q4 d2 d5 d9 d16
         subst oz; exact zab [(300008, .loop (hd58 b o cs' rs ns at_ [] put0 0) (.exit 0) (Nm [1, 4, 8, 9, 10] [.dat (I at_), .ptr (.loc 4) 0, .ptr (.loc 8) 0, .own 3 out, .dat (B put)] [none, some [.dat (I o), .own 97 cs', .dat (.lst b rs), .dat (.lst b ns)], some (Yo 0 [] [] []), none, none] [] [])), (16, .ok), (23, .ok), (29, .ok), (100024, .at (c100024.d)), (100030, .at (c100030.d)), (45, .ret [.dat (B g45)]), (74, .ok), (80, .ok), (200018, .yes), (200035, .yes), (200041, .no), (200070, .no)] (ob hz1 (ob d2 (ob hz2 (ob hz3 (ob d5 (ob (rfl : true = true) (ob (rfl : true = true) (ob (rfl : true = true) (ob d9 (ob (rfl : false = false) (ob (rfl : false = false) (ob (rfl : false = false) (ob (rfl : false = false) (ob hz4 (ob hz5 (ob d16 (ob hz6 ob0))))))))))))))))) (by kernel_rfl)
   · rcases Bool.eq_false_or_eq_true (put) with d11 | d11
     · obtain ⟨hz1, hz2, hz3, hz4, hz5, hz6, hz7, oz⟩ := q5 d2 d5 d11
       subst oz; exact zab [(300008, .loop (hd58 b o cs' rs ns at_ [] put0 0) (.exit 0) (Nm [1, 4, 8, 9, 10] [.dat (I at_), .ptr (.loc 4) 0, .ptr (.loc 8) 0, .own 3 out, .dat (B put)] [none, some [.dat (I o), .own 97 cs', .dat (.lst b rs), .dat (.lst b ns)], some (Yo 0 [] [] []), none, none] [] [])), (16, .ok), (23, .ok), (29, .ok), (100024, .at (c100024.d)), (100030, .at (c100030.d)), (45, .ret [.dat (B g45)]), (74, .ok), (80, .ok), (200018, .yes), (200035, .no), (200070, .yes)] (ob hz1 (ob d2 (ob hz2 (ob hz3 (ob d5 (ob (rfl : false = false) (ob (rfl : false = false) (ob (rfl : false = false) (ob hz4 (ob hz5 (ob d11 (ob (obT hz6) (ob hz7 ob0))))))))))))) (by kernel_rfl)
     · obtain ⟨hz1, hz2, hz3, hz4, hz5, hz6, oz⟩ := q6 d2 d5 d11
       subst oz; exact zab [(300008, .loop (hd58 b o cs' rs ns at_ [] put0 0) (.exit 0) (Nm [1, 4, 8, 9, 10] [.dat (I at_), .ptr (.loc 4) 0, .ptr (.loc 8) 0, .own 3 out, .dat (B put)] [none, some [.dat (I o), .own 97 cs', .dat (.lst b rs), .dat (.lst b ns)], some (Yo 0 [] [] []), none, none] [] [])), (16, .ok), (23, .ok), (29, .ok), (100024, .at (c100024.d)), (100030, .at (c100030.d)), (45, .ret [.dat (B g45)]), (74, .ok), (80, .ok), (200018, .yes), (200035, .no), (200070, .no)] (ob hz1 (ob d2 (ob hz2 (ob hz3 (ob d5 (ob (rfl : false = false) (ob (rfl : false = false) (ob (rfl : false = false) (ob hz4 (ob hz5 (ob d11 (ob hz6 ob0)))))))))))) (by kernel_rfl)
 · rcases Bool.eq_false_or_eq_true (decide (at_ < o)) with d5 | d5
   · rcases Bool.eq_false_or_eq_true (decide (o ≤ to)) with d9 | d9
     · rcases Bool.eq_false_or_eq_true (put) with d17 | d17
       · obtain ⟨hz1, hz2, hz3, hz4, hz5, hz6, hz7, hz8, oz⟩ := q7 d2 d5 d9 d17
         subst oz; exact zab [(300008, .loop (hd58 b o cs' rs ns at_ [] put0 0) (.exit 0) (Nm [1, 4, 8, 9, 10] [.dat (I at_), .ptr (.loc 4) 0, .ptr (.loc 8) 0, .own 3 out, .dat (B put)] [none, some [.dat (I o), .own 97 cs', .dat (.lst b rs), .dat (.lst b ns)], some (Yo 0 [] [] []), none, none] [] [])), (16, .ok), (23, .ok), (29, .ok), (100024, .at (c100024.d)), (100030, .at (c100030.d)), (45, .ret [.dat (B g45)]), (74, .ok), (80, .ok), (200018, .no), (200035, .yes), (200041, .yes), (200070, .yes)] (ob hz1 (ob d2 (ob hz2 (ob hz3 (ob d5 (ob (rfl : true = true) (ob (rfl : true = true) (ob (rfl : true = true) (ob d9 (ob (rfl : true = true) (ob (rfl : true = true) (ob (rfl : true = true) (ob hz4 (ob (rfl : true = true) (ob hz5 (ob hz6 (ob d17 (ob (obT hz7) (ob hz8 ob0))))))))))))))))))) (by kernel_rfl)
       · obtain ⟨hz1, hz2, hz3, hz4, hz5, hz6, hz7, oz⟩ := q8 d2 d5 d9 d17
         subst oz; exact zab [(300008, .loop (hd58 b o cs' rs ns at_ [] put0 0) (.exit 0) (Nm [1, 4, 8, 9, 10] [.dat (I at_), .ptr (.loc 4) 0, .ptr (.loc 8) 0, .own 3 out, .dat (B put)] [none, some [.dat (I o), .own 97 cs', .dat (.lst b rs), .dat (.lst b ns)], some (Yo 0 [] [] []), none, none] [] [])), (16, .ok), (23, .ok), (29, .ok), (100024, .at (c100024.d)), (100030, .at (c100030.d)), (45, .ret [.dat (B g45)]), (74, .ok), (80, .ok), (200018, .no), (200035, .yes), (200041, .yes), (200070, .no)] (ob hz1 (ob d2 (ob hz2 (ob hz3 (ob d5 (ob (rfl : true = true) (ob (rfl : true = true) (ob (rfl : true = true) (ob d9 (ob (rfl : true = true) (ob (rfl : true = true) (ob (rfl : true = true) (ob hz4 (ob (rfl : true = true) (ob hz5 (ob hz6 (ob d17 (ob hz7 ob0)))))))))))))))))) (by kernel_rfl)
     · rcases Bool.eq_false_or_eq_true (put) with d16 | d16
       · obtain ⟨hz1, hz2, hz3, hz4, hz5, hz6, hz7, oz⟩ := q9 d2 d5 d9 d16
         subst oz; exact zab [(300008, .loop (hd58 b o cs' rs ns at_ [] put0 0) (.exit 0) (Nm [1, 4, 8, 9, 10] [.dat (I at_), .ptr (.loc 4) 0, .ptr (.loc 8) 0, .own 3 out, .dat (B put)] [none, some [.dat (I o), .own 97 cs', .dat (.lst b rs), .dat (.lst b ns)], some (Yo 0 [] [] []), none, none] [] [])), (16, .ok), (23, .ok), (29, .ok), (100024, .at (c100024.d)), (100030, .at (c100030.d)), (45, .ret [.dat (B g45)]), (74, .ok), (80, .ok), (200018, .no), (200035, .yes), (200041, .no), (200070, .yes)] (ob hz1 (ob d2 (ob hz2 (ob hz3 (ob d5 (ob (rfl : true = true) (ob (rfl : true = true) (ob (rfl : true = true) (ob d9 (ob (rfl : false = false) (ob (rfl : false = false) (ob (rfl : false = false) (ob (rfl : false = false) (ob hz4 (ob hz5 (ob d16 (ob (obT hz6) (ob hz7 ob0)))))))))))))))))) (by kernel_rfl)
       · obtain ⟨hz1, hz2, hz3, hz4, hz5, hz6, oz⟩ := q10 d2 d5 d9 d16
         subst oz; exact zab [(300008, .loop (hd58 b o cs' rs ns at_ [] put0 0) (.exit 0) (Nm [1, 4, 8, 9, 10] [.dat (I at_), .ptr (.loc 4) 0, .ptr (.loc 8) 0, .own 3 out, .dat (B put)] [none, some [.dat (I o), .own 97 cs', .dat (.lst b rs), .dat (.lst b ns)], some (Yo 0 [] [] []), none, none] [] [])), (16, .ok), (23, .ok), (29, .ok), (100024, .at (c100024.d)), (100030, .at (c100030.d)), (45, .ret [.dat (B g45)]), (74, .ok), (80, .ok), (200018, .no), (200035, .yes), (200041, .no), (200070, .no)] (ob hz1 (ob d2 (ob hz2 (ob hz3 (ob d5 (ob (rfl : true = true) (ob (rfl : true = true) (ob (rfl : true = true) (ob d9 (ob (rfl : false = false) (ob (rfl : false = false) (ob (rfl : false = false) (ob (rfl : false = false) (ob hz4 (ob hz5 (ob d16 (ob hz6 ob0))))))))))))))))) (by kernel_rfl)
   · rcases Bool.eq_false_or_eq_true (put) with d11 | d11
     · obtain ⟨hz1, hz2, hz3, hz4, hz5, hz6, hz7, oz⟩ := q11 d2 d5 d11
       subst oz; exact zab [(300008, .loop (hd58 b o cs' rs ns at_ [] put0 0) (.exit 0) (Nm [1, 4, 8, 9, 10] [.dat (I at_), .ptr (.loc 4) 0, .ptr (.loc 8) 0, .own 3 out, .dat (B put)] [none, some [.dat (I o), .own 97 cs', .dat (.lst b rs), .dat (.lst b ns)], some (Yo 0 [] [] []), none, none] [] [])), (16, .ok), (23, .ok), (29, .ok), (100024, .at (c100024.d)), (100030, .at (c100030.d)), (45, .ret [.dat (B g45)]), (74, .ok), (80, .ok), (200018, .no), (200035, .no), (200070, .yes)] (ob hz1 (ob d2 (ob hz2 (ob hz3 (ob d5 (ob (rfl : false = false) (ob (rfl : false = false) (ob (rfl : false = false) (ob hz4 (ob hz5 (ob d11 (ob (obT hz6) (ob hz7 ob0))))))))))))) (by kernel_rfl)
     · obtain ⟨hz1, hz2, hz3, hz4, hz5, hz6, oz⟩ := q12 d2 d5 d11
       subst oz; exact zab [(300008, .loop (hd58 b o cs' rs ns at_ [] put0 0) (.exit 0) (Nm [1, 4, 8, 9, 10] [.dat (I at_), .ptr (.loc 4) 0, .ptr (.loc 8) 0, .own 3 out, .dat (B put)] [none, some [.dat (I o), .own 97 cs', .dat (.lst b rs), .dat (.lst b ns)], some (Yo 0 [] [] []), none, none] [] [])), (16, .ok), (23, .ok), (29, .ok), (100024, .at (c100024.d)), (100030, .at (c100030.d)), (45, .ret [.dat (B g45)]), (74, .ok), (80, .ok), (200018, .no), (200035, .no), (200070, .no)] (ob hz1 (ob d2 (ob hz2 (ob hz3 (ob d5 (ob (rfl : false = false) (ob (rfl : false = false) (ob (rfl : false = false) (ob hz4 (ob hz5 (ob d11 (ob hz6 ob0)))))))))))) (by kernel_rfl)
end Go.Den
