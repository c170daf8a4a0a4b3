/- Merged out of: EF EG EH EI EJ EK EL UC SA SW YFnWritten LFnWritten LFnWrittenCard (prune.py, a program of this work's). -/
import Derived.Test.YtcmcfebihbmmeaaDoorZk6
import Derived.Test.YtcmcfebihbmmeaaDoorZk7
import Derived.Test.YtcmcfebihbmmeaaDoorZk5
import Derived.KernelRfl
import Derived.LaidHandle
import Derived.Handed
import Derived.Stop.LaidErr
import Derived.Lib.LaidTab
import Derived.Test.YtcmcfebihbmmeaaDoorRows
import Derived.WalkKit
import Derived.ProofKit
import Derived.OpenShut
import Derived.ShutString
import Derived.ChangeOld
import Derived.Below
import Derived.Test.YtcmcfebihbmmeaaDoorCards
import Derived.Test.YtcmcfebihbmmeaaDoorTie
import Derived.SevenTiedAt
set_option linter.unusedVariables false
set_option linter.unusedSimpArgs false
set_option linter.unnecessarySimpa false
namespace Go.Den
open Go
set_option linter.unusedVariables false
set_option maxRecDepth 100000
theorem zlh {α : Type} {E : Env} {kk : Nat} {c : Code} (st : Nat → α → St) (P : Nat → α → Prop) (n : Nat)
 (hgo : ∀ i a, i < n → P i a → ∃ a', P (i + 1) a' ∧ ∀ (m : Nat) (s : St) (K : X → St → Prop), s.norm (E.live (zaa c)) = st i a → (∀ s : St, s.norm (E.live (zaa c)) = st (i + 1) a' → zae E kk c m s K) → zae E kk c (m + 1) s K) :
 ∀ (d i : Nat) (a : α), i + d = n → P i a → ∃ a', P n a' ∧ ∀ K : X → St → Prop, (∀ (m : Nat) (s : St), s.norm (E.live (zaa c)) = st n a' → zae E kk c (m + 1) s K) → ∀ m, d < m → ∀ s : St, s.norm (E.live (zaa c)) = st i a → zae E kk c m s K := by
 intro d
 induction d with
 | zero =>
   intro i a hi hP
   have : i = n := by omega
   subst this
   refine ⟨a, hP, fun K hend m hm s hs => ?_⟩
   obtain ⟨m, rfl⟩ : ∃ k, m = k + 1 := ⟨m - 1, by omega⟩
   exact hend m s hs
 | succ d ih =>
   intro i a hi hP
   obtain ⟨a1, hP1, hstep⟩ := hgo i a (by omega) hP
   obtain ⟨a', hP', f⟩ := ih (i + 1) a1 (by omega) hP1
   refine ⟨a', hP', fun K hend m hm s hs => ?_⟩
   obtain ⟨m, rfl⟩ : ∃ k, m = k + 1 := ⟨m - 1, by omega⟩
   exact hstep m s K hs fun s hs => f K hend m (by omega) s hs
theorem zbi {α : Type} {kk f : Nat} {fn : Func} {r : Nat} {x : X} (st : Nat → α → St) (fin : α → St) (P : Nat → α → Prop) (n : Nat) (hk : n < kk) (a0 : α) (h0 : P 0 a0)
 (hgo : ∀ i a, i < n → P i a → ∃ a', P (i + 1) a' ∧ ∀ (m : Nat) (s : St) (K : X → St → Prop), s.norm ((zad cfg kk f fn).live (zaa (lp fn r))) = st i a → (∀ s : St, s.norm ((zad cfg kk f fn).live (zaa (lp fn r))) = st (i + 1) a' → zae (zad cfg kk f fn) kk (lp fn r) m s K) → zae (zad cfg kk f fn) kk (lp fn r) (m + 1) s K)
 (hend : ∀ a, P n a → ∀ (m : Nat) (s : St) (K : X → St → Prop), s.norm ((zad cfg kk f fn).live (zaa (lp fn r))) = st n a → K x (fin a) → zae (zad cfg kk f fn) kk (lp fn r) (m + 1) s K) {s0 : St} (hs0 : s0 = st 0 a0) :
 ∃ a, P n a ∧ zao cfg kk f fn r s0 x (fin a) := by
 obtain ⟨a', hP', f⟩ := zlh st P n hgo n 0 a0 (by omega) h0
 exact ⟨a', hP', zcj fun s hs => f _ (fun m s hs => hend a' hP' m s _ hs ⟨rfl, rfl⟩) kk hk s (by rw [hs, hs0])⟩
theorem zjD {α : Type} {E : Env} {kk : Nat} {c : Code} (st : α → St) (P fin : α → Prop) (μ : α → Nat)
 (hgo : ∀ a, P a → fin a ∨ ∃ a', P a' ∧ μ a' < μ a ∧ ∀ (m : Nat) (s : St) (K : X → St → Prop), s.norm (E.live (zaa c)) = st a → (∀ s : St, s.norm (E.live (zaa c)) = st a' → zae E kk c m s K) → zae E kk c (m + 1) s K) :
 ∀ (d : Nat) (a : α), μ a ≤ d → P a → ∃ a', P a' ∧ fin a' ∧ ∀ K : X → St → Prop, (∀ (m : Nat) (s : St), s.norm (E.live (zaa c)) = st a' → zae E kk c (m + 1) s K) → ∀ m, d < m → ∀ s : St, s.norm (E.live (zaa c)) = st a → zae E kk c m s K := by
 intro d
 induction d with
 | zero =>
   intro a hd hP
   rcases hgo a hP with hf | ⟨a', _, h, _⟩
   · refine ⟨a, hP, hf, fun K hend m hm s hs => ?_⟩
     obtain ⟨m, rfl⟩ : ∃ k, m = k + 1 := ⟨m - 1, by omega⟩
     exact hend m s hs
   · omega
 | succ d ih =>
   intro a hd hP
   rcases hgo a hP with hf | ⟨a1, hP1, h1, hstep⟩
   · refine ⟨a, hP, hf, fun K hend m hm s hs => ?_⟩
     obtain ⟨m, rfl⟩ : ∃ k, m = k + 1 := ⟨m - 1, by omega⟩
     exact hend m s hs
   · obtain ⟨a', hP', hf, f⟩ := ih a1 (by omega) hP1
     refine ⟨a', hP', hf, fun K hend m hm s hs => ?_⟩
     obtain ⟨m, rfl⟩ : ∃ k, m = k + 1 := ⟨m - 1, by omega⟩
     exact hstep m s K hs fun s hs => f K hend m (by omega) s hs
theorem zfH {α : Type} {kk f : Nat} {fn : Func} {r : Nat} {x : X} (st fst : α → St) (P fin : α → Prop) (μ : α → Nat) (a0 : α) (hk : μ a0 < kk) (h0 : P a0)
 (hgo : ∀ a, P a → fin a ∨ ∃ a', P a' ∧ μ a' < μ a ∧ ∀ (m : Nat) (s : St) (K : X → St → Prop), s.norm ((zad cfg kk f fn).live (zaa (lp fn r))) = st a → (∀ s : St, s.norm ((zad cfg kk f fn).live (zaa (lp fn r))) = st a' → zae (zad cfg kk f fn) kk (lp fn r) m s K) → zae (zad cfg kk f fn) kk (lp fn r) (m + 1) s K)
 (hend : ∀ a, P a → fin a → ∀ (m : Nat) (s : St) (K : X → St → Prop), s.norm ((zad cfg kk f fn).live (zaa (lp fn r))) = st a → K x (fst a) → zae (zad cfg kk f fn) kk (lp fn r) (m + 1) s K) {s0 : St} (hs0 : s0 = st a0) :
 ∃ a, P a ∧ fin a ∧ zao cfg kk f fn r s0 x (fst a) := by
 obtain ⟨a', hP', hf, f⟩ := zjD st P fin μ hgo (μ a0) a0 (Nat.le_refl _) h0
 exact ⟨a', hP', hf, zcj fun s hs => f _ (fun m s hs => hend a' hP' hf m s _ hs ⟨rfl, rfl⟩) kk hk s (by rw [hs, hs0])⟩
abbrev BD (ks : List Bool) : List Dat := ks.map (B ·)
abbrev ID (zs : List Int) : List Dat := zs.map (I ·)
abbrev CD (cs : List Cl) : List Dat := cs.map Cl.d
theorem zh7 {ks : List Bool} {i : Int} (h0 : 0 ≤ i) (h : i < (ks.length : Int)) : (0 ≤ i ∧ i < ((BD ks).length : Int)) ∧ (BD ks)[i.toNat]? = some (B (ks.getD i.toNat false)) := by
 have hlt : i.toNat < ks.length := by omega
 refine ⟨⟨h0, by simpa using h⟩, ?_⟩
 rw [List.getElem?_map, List.getD_eq_getElem?_getD, List.getElem?_eq_getElem hlt]
 rfl
theorem zhZ (ks : List Bool) (i : Nat) : (BD ks).set i (B true) = BD (ks.set i true) := by simp [BD, List.map_set]
theorem zkO (n : Nat) : List.replicate n (B false) = BD (List.replicate n false) := by simp [BD]
theorem zoV (n : Nat) : List.replicate n (I 0) = ID (List.replicate n 0) := by simp [ID]
theorem znf (zs : List Int) (i : Nat) (x : Int) : (ID zs).set i (I x) = ID (zs.set i x) := by simp [ID, List.map_set]
theorem zgf {c : List Cl} {i : Int} (h0 : 0 ≤ i) (h : i < (c.length : Int)) : (0 ≤ i ∧ i < ((CD c).length : Int)) ∧ (CD c)[i.toNat]? = some (cg c i).d := ih2 h0 (ziQ h0 h)
theorem zeL {zs : List Int} {i : Nat} {x : Int} (h : zs[i]? = some x) : (0 ≤ (i : Int) ∧ (i : Int) < ((ID zs).length : Int)) ∧ (ID zs)[((i : Int)).toNat]? = some (I x) := ih (gm (f := (I ·)) h)
def On (o : Int) (young : Bool) (i : Int) : Prop := young = true → ¬ i < o
theorem zn0 (b : Bool) (o : Int) (c : List Cl) (rs ns : List Dat) (young : Bool) (hw : Wf c) : ∀ (m : Nat) (ks : List Bool) (at_ : Int), ks.length = c.length → 0 ≤ at_ → at_ < (c.length : Int) → lack ks ≤ m →
 ∃ k' : List Bool, EvN (m + 1) 124 [.dat (Yd b o (CD c) rs ns), .dat (I at_), .bor (.lent 0) none, .dat (B young)] [] [some (4, BD ks)] ([], [], [some (4, BD k')]) ∧ Mk c (On o young) (· = at_) ks k' ∧ K k' at_ := by
 intro m
 induction m with
 | zero =>
   intro ks at_ hl h0 h1 hm
   have hk : K ks at_ := by
    by_cases hk : K ks at_
    · exact hk
    · have := zeV h0 (by omega) hk
      omega
   have hg : ks.getD at_.toNat false = true := hk
   obtain ⟨ha, hb⟩ := zh7 (ks := ks) h0 (by omega)
   refine ⟨ks, zaw Go.Proofs.Tryd.f124 0 (by kernel_rfl) (by kernel_rfl) fun kk _ => ?_, Mk.refl hl, hk⟩
   rw [hg] at hb
   exact zmT kk b o _ rs ns at_ _ young [] [] true true c0 (fun _ => ⟨ha, hb, rfl⟩) (fun d => by cases d) (fun d => by cases d) (fun d => by cases d) (fun d => by cases d)
 | succ m ihm =>
   intro ks at_ hl h0 h1 hm
   obtain ⟨ha, hb⟩ := zh7 (ks := ks) h0 (by omega)
   by_cases hk : K ks at_
   · have hg : ks.getD at_.toNat false = true := hk
     rw [hg] at hb
     exact ⟨ks, zaw Go.Proofs.Tryd.f124 (m + 1) (by kernel_rfl) (by kernel_rfl) fun kk _ => zmT kk b o _ rs ns at_ _ young [] [] true true c0 (fun _ => ⟨ha, hb, rfl⟩) (fun d => by cases d) (fun d => by cases d) (fun d => by cases d) (fun d => by cases d), Mk.refl hl, hk⟩
   · have hg : ks.getD at_.toNat false = false := by
      cases e : ks.getD at_.toNat false with
      | false => rfl
      | true => exact absurd e hk
     rw [hg] at hb
     have hset := zeV h0 (by omega) hk
     have hls : (ks.set at_.toNat true).length = c.length := by simpa using hl
     have hks : ∀ j, 0 ≤ j → (K (ks.set at_.toNat true) j ↔ (j = at_ ∨ K ks j)) := fun j hj => zpN h0 (by omega) j hj
     have hc := zgf (c := c) h0 h1
     have hbs := zhZ ks at_.toNat
     generalize ks.set at_.toNat true = y at hset hls hks hbs
     have stop : ((cg c at_).l = true ∨ ¬ On o young at_) → Mk c (On o young) (· = at_) ks y ∧ K y at_ := fun hor => by
      refine ⟨⟨hls, fun i hi h => (hks i hi).2 (.inr h), fun i hi h h' => ?_⟩, (hks at_ h0).2 (.inl rfl)⟩
      rcases (hks i hi).1 h with rfl | h
      · exact ⟨fun hon hleaf => by
         rcases hor with h | h
         · rw [hleaf] at h; cases h
         · exact absurd hon h, .src rfl⟩
      · exact absurd h h'
     cases hleaf : (cg c at_).l with
     | true =>
       obtain ⟨h2, h3⟩ := stop (.inl hleaf)
       exact ⟨y, zaw Go.Proofs.Tryd.f124 (m + 1) (by kernel_rfl) (by kernel_rfl) fun kk _ => zmT kk b o _ rs ns at_ _ young [] [] false false (cg c at_) (fun d => by cases d) (fun _ _ => ⟨ha, hb, ha, hb, hc, by rw [hbs]⟩) (fun _ d => by rw [hleaf] at d; cases d) (fun _ d => by rw [hleaf] at d; cases d) (fun _ d => by rw [hleaf] at d; cases d), h2, h3⟩
     | false =>
       by_cases hon : On o young at_
       · obtain ⟨⟨a0, a1⟩, b0, b1⟩ := hw at_ h0 h1 hleaf
         obtain ⟨k1, e1, m1, t1⟩ := ihm y _ hls a0 a1 (by omega)
         have hle := zmZ (l := y) (l' := k1) (by rw [m1.len, hls]) m1.mono
         obtain ⟨k2, e2, m2, t2⟩ := ihm k1 _ m1.len b0 b1 (by omega)
         refine ⟨k2, zaw Go.Proofs.Tryd.f124 (m + 1) (by kernel_rfl) (by kernel_rfl) fun kk hkk => ?_, ?_, ?_⟩
         · have c1 := e1 kk (by omega)
           have c2 := e2 kk (by omega)
           rw [← hbs] at c1
           exact zmT kk b o _ rs ns at_ _ young (BD k1) (BD k2) false false (cg c at_) (fun d => by cases d) (fun _ d => by rw [hleaf] at d; cases d) (fun _ _ d1 d2 => absurd (of_decide_eq_true d2) (hon d1)) (fun _ _ _ _ => ⟨ha, hb, ha, hb, hc, c1, c2, rfl⟩) (fun _ _ _ => ⟨ha, hb, ha, hb, hc, c1, c2, rfl⟩)
         · have M0 : Mk c (On o young) (· = at_) y k1 := m1.src fun i hi => by rw [hi]; exact .a (.src rfl) hon hleaf
           have M1 : Mk c (On o young) (· = at_) k1 k2 := m2.src fun i hi => by rw [hi]; exact .b (.src rfl) hon hleaf
           have M := M0.trans hw M1
           refine ⟨M.len, fun i hi h => M.mono i hi ((hks i hi).2 (.inr h)), fun i hi h h' => ?_⟩
           by_cases hy : K y i
           · rcases (hks i hi).1 hy with rfl | hy
             · exact ⟨fun _ _ => ⟨m2.mono _ a0 t1, t2⟩, .src rfl⟩
             · exact absurd hy h'
           · exact M.new i hi h hy
         · exact m2.mono _ h0 (m1.mono _ h0 ((hks at_ h0).2 (.inl rfl)))
       · obtain ⟨h2, h3⟩ := stop (.inr hon)
         have hon' : young = true ∧ at_ < o := by
          unfold On at hon
          by_cases hy : young = true
          · exact ⟨hy, by
             by_cases hlt : at_ < o
             · exact hlt
             · exact absurd (fun _ => hlt) hon⟩
          · exact absurd (fun h => absurd h hy) hon
         exact ⟨y, zaw Go.Proofs.Tryd.f124 (m + 1) (by kernel_rfl) (by kernel_rfl) fun kk _ => zmT kk b o _ rs ns at_ _ young [] [] false false (cg c at_) (fun d => by cases d) (fun _ d => by rw [hleaf] at d; cases d) (fun _ _ _ _ => ⟨ha, hb, ha, hb, hc, by rw [hbs]⟩) (fun _ _ _ d => absurd hon'.2 (of_decide_eq_false d)) (fun _ _ d => by rw [hon'.1] at d; cases d), h2, h3⟩
theorem zeQ (b : Bool) (h : Hp) (g : Hg h) (young : Bool) (S : Int → Prop) {ks : List Bool} (hl : ks.length = h.cs.length) {x : Int} (hx : 0 ≤ x ∧ x < (h.cs.length : Int)) (hS : S x) :
 ∃ k', EvN 201 124 [.dat (Yd b h.o (CD h.cs) (ID h.rs) (ID h.ns)), .dat (I x), .bor (.lent 0) none, .dat (B young)] [] [some (4, BD ks)] ([], [], [some (4, BD k')]) ∧ Mk h.cs (On h.o young) S ks k' ∧ K k' x := by
 obtain ⟨k', e, m, t⟩ := zn0 b h.o h.cs (ID h.rs) (ID h.ns) young g.wf (lack ks) ks x hl hx.1 hx.2 (Nat.le_refl _)
 have h1 := zjs ks
 have h2 := g.clen
 exact ⟨k', e.mono (by omega), m.src fun i hi => by rw [hi]; exact .src hS, t⟩
theorem znS (b : Bool) (h : Hp) (g : Hg h) : EvN 300 123 [.dat (YD b h.o h.cs h.rs h.ns)] [] [] ([.own 4 (BD (zfg h))], [], []) := by
 refine zaw Go.Proofs.Tryd.f123 299 (by kernel_rfl) (by kernel_rfl) fun kk hkk => ?_
 have hcl := g.clen
 have hrl := g.rlen
 have hlr : (ID h.rs).length = h.rs.length := by simp
 have hlc : (CD h.cs).length = h.cs.length := by simp
 obtain ⟨ks, ⟨hm, ht⟩, hloop⟩ := zbi (kk := kk) (f := 123) (fn := Go.Proofs.Tryd.f123) (r := 3) (x := .exit 0) (fun i (ks : List Bool) => zmW b h.o (CD h.cs) (ID h.rs) (ID h.ns) (BD ks) i) (fun ks => Nm [3] [.own 4 (BD ks)] [none] [] [])
  (fun i ks => Mk h.cs (On h.o false) (· ∈ h.rs) (List.replicate h.cs.length false) ks ∧ ∀ x ∈ h.rs.take i, K ks x) h.rs.length (by omega) (List.replicate h.cs.length false) ⟨Mk.refl (by simp), fun x hx => by simp at hx⟩
  (fun i ks hi ⟨hm, ht⟩ => by
   obtain ⟨x, hx⟩ := zbq hi
   have hxm := List.mem_of_getElem? hx
   obtain ⟨k', e, m', t'⟩ := zeQ b h g false (· ∈ h.rs) hm.len (g.rin x hxm) hxm
   refine ⟨k', ⟨hm.trans g.wf m', fun y hy => ?_⟩, fun m s K hs hn => ?_⟩
   · rw [List.take_add_one, hx] at hy
     rcases List.mem_append.1 hy with hy | hy
     · exact m'.mono y (g.rin y (List.mem_of_mem_take hy)).1 (ht y hy)
     · have : y = x := by simpa using hy
       rw [this]; exact t'
   · refine zmp kk m b h.o _ _ _ _ i (BD k') x hs (fun _ => ⟨zeL hx, e kk (by omega), fun s' hs' => hn s' ?_⟩) (fun d => absurd (of_decide_eq_false d) (by omega))
     rw [hs', wi i (by omega)]
     rfl)
  (fun ks _ m s K hs hK => zmp kk m b h.o _ _ _ _ _ [] 0 hs (fun d => absurd (of_decide_eq_true d) (by omega)) (fun _ => hK)) rfl
 have hL : ks = zfg h := by
  have h1 := hm.all g.wf fun i hi => ⟨(g.rin i hi).1, (g.rin i hi).2, ht i (by rw [List.take_length]; exact hi)⟩
  rw [h1]
  unfold zfg
  congr 1
  funext i
  exact propext ⟨Rch.on (fun _ _ => trivial), Rch.on (fun _ _ e => by cases e)⟩
 subst hL
 have hlm : (List.map Cl.d h.cs).length = h.cs.length := by simp
 exact liveS kk b h.o _ _ _ (BD (zfg h)) ⟨⟨by omega, by omega, by omega⟩, by rw [hlc, zkO]; exact hloop, rfl⟩
structure RInv (c : List Cl) (on : Int → Prop) (fr : List Int) (out : List Bool) (op : List Int) : Prop where
 len : out.length = c.length
 rin : ∀ x ∈ op, 0 ≤ x ∧ x < (c.length : Int)
 src : ∀ x ∈ fr, K out x ∨ x ∈ op
 shut : ∀ i, 0 ≤ i → K out i → on i → (cg c i).l = false → (K out (cg c i).a ∨ (cg c i).a ∈ op) ∧ (K out (cg c i).b ∨ (cg c i).b ∈ op)
 sound : ∀ i, 0 ≤ i → K out i → Rch c on (· ∈ fr) i
 soundO : ∀ x ∈ op, Rch c on (· ∈ fr) x
theorem RInv.start {c : List Cl} {on : Int → Prop} {fr : List Int} (h : ∀ x ∈ fr, 0 ≤ x ∧ x < (c.length : Int)) : RInv c on fr (List.replicate c.length false) fr :=
 ⟨by simp, h, fun x hx => .inr hx, fun i _ hk => absurd hk (zk9 _ _), fun i _ hk => absurd hk (zk9 _ _), fun x hx => .src hx⟩
theorem RInv.skip {c : List Cl} {on : Int → Prop} {fr l : List Int} {out : List Bool} {x : Int} (h : RInv c on fr out (l ++ [x])) (hk : K out x) : RInv c on fr out l := by
 have hm : ∀ y, y ∈ l ++ [x] → K out y ∨ y ∈ l := fun y hy => by
  rcases List.mem_append.1 hy with hy | hy
  · exact .inr hy
  · have : y = x := by simpa using hy
    rw [this]; exact .inl hk
 exact ⟨h.len, fun y hy => h.rin y (by simp [hy]), fun y hy => (h.src y hy).elim .inl (hm y), fun i hi hki ho hl => ⟨(h.shut i hi hki ho hl).1.elim .inl (hm _), (h.shut i hi hki ho hl).2.elim .inl (hm _)⟩, h.sound, fun y hy => h.soundO y (by simp [hy])⟩
theorem RInv.mark {c : List Cl} {on : Int → Prop} {fr l l' : List Int} {out : List Bool} {x : Int} (hw : Wf c) (h : RInv c on fr out (l ++ [x])) (hl' : ∀ y, y ∈ l' ↔ y ∈ l ∨ (on x ∧ (cg c x).l = false ∧ (y = (cg c x).a ∨ y = (cg c x).b))) : RInv c on fr (out.set x.toNat true) l' := by
 obtain ⟨x0, x1⟩ := h.rin x (by simp)
 have hx : Rch c on (· ∈ fr) x := h.soundO x (by simp)
 have hks : ∀ j, 0 ≤ j → (K (out.set x.toNat true) j ↔ (j = x ∨ K out j)) := fun j hj => zpN x0 (by rw [h.len]; exact x1) j hj
 have hm : ∀ y, 0 ≤ y → y ∈ l ++ [x] → K (out.set x.toNat true) y ∨ y ∈ l' := fun y y0 hy => by
  rcases List.mem_append.1 hy with hy | hy
  · exact .inr ((hl' y).2 (.inl hy))
  · have : y = x := by simpa using hy
    rw [this]; exact .inl ((hks x x0).2 (.inl rfl))
 refine ⟨by simpa using h.len, fun y hy => ?_, fun y hy => ?_, fun i hi hk ho hl => ?_, fun i hi hk => ?_, fun y hy => ?_⟩
 · rcases (hl' y).1 hy with hy | ⟨_, hlf, hy⟩
   · exact h.rin y (by simp [hy])
   · rcases hy with rfl | rfl
     · exact (hw x x0 x1 hlf).1
     · exact (hw x x0 x1 hlf).2
 · rcases h.src y hy with hk | hy
   · by_cases y0 : 0 ≤ y
     · exact .inl ((hks y y0).2 (.inr hk))
     · left
       unfold K at hk ⊢
       have e : y.toNat = 0 := by omega
       rw [e] at hk ⊢
       rw [List.getD_eq_getElem?_getD, List.getElem?_set]
       rw [List.getD_eq_getElem?_getD] at hk
       split
       · split
         · rfl
         · rename_i hlt
           rw [List.getElem?_eq_none (by omega)] at hk
           cases hk
       · exact hk
   · exact hm y (h.rin y hy).1 hy
 · by_cases hix : i = x
   · subst hix
     exact ⟨.inr ((hl' _).2 (.inr ⟨ho, hl, .inl rfl⟩)), .inr ((hl' _).2 (.inr ⟨ho, hl, .inr rfl⟩))⟩
   · have hk0 : K out i := ((hks i hi).1 hk).resolve_left hix
     have hlt := K_lt hi hk0
     obtain ⟨⟨a0, _⟩, b0, _⟩ := hw i hi (by have := h.len; omega) hl
     have := h.shut i hi hk0 ho hl
     exact ⟨this.1.elim (fun h => .inl ((hks _ a0).2 (.inr h))) (hm _ a0), this.2.elim (fun h => .inl ((hks _ b0).2 (.inr h))) (hm _ b0)⟩
 · rcases (hks i hi).1 hk with rfl | hk
   · exact hx
   · exact h.sound i hi hk
 · rcases (hl' y).1 hy with hy | ⟨ho, hlf, hy⟩
   · exact h.soundO y (by simp [hy])
   · rcases hy with rfl | rfl
     · exact .a hx ho hlf
     · exact .b hx ho hlf
theorem RInv.done {c : List Cl} {on : Int → Prop} {fr : List Int} {out : List Bool} (hw : Wf c) (hfr : ∀ x ∈ fr, 0 ≤ x ∧ x < (c.length : Int)) (h : RInv c on fr out []) : out = zeN c.length (Rch c on (· ∈ fr)) := by
 refine zpk (by rw [h.len, zaT]) fun i hi => ?_
 rw [zbF hi]
 refine ⟨fun hk => ⟨by have := K_lt hi hk; have := h.len; omega, h.sound i hi hk⟩, fun ⟨_, hr⟩ => ?_⟩
 have no : ∀ y : Int, K out y ∨ y ∈ ([] : List Int) → K out y := fun y hy => hy.elim id fun h => by cases h
 exact (Rch.in_ hw (fun j hj => ⟨(hfr j hj).1, (hfr j hj).2, no j (h.src j hj)⟩) (fun j h0 hj ho hle => ⟨no _ (h.shut j h0 hj ho hle).1, no _ (h.shut j h0 hj ho hle).2⟩) hr).2.2
theorem zmm {op : List Int} (h : 0 < op.length) : ∃ l x, op = l ++ [x] := ⟨op.dropLast, op.getLast (by intro e; rw [e] at h; simp at h), (List.dropLast_concat_getLast _).symm⟩
theorem zkm {l : List Int} {x : Int} (hb : l.length ≤ 1000000) : w64 (((ID (l ++ [x])).length : Int) - 1) = (l.length : Int) ∧ (ID (l ++ [x]))[((l.length : Int)).toNat]? = some (I x) ∧ List.take ((l.length : Int)).toNat (ID (l ++ [x])) = ID l := by
 refine ⟨?_, ?_, ?_⟩
 · rw [List.length_map, List.length_append, zbm (by simp; omega)]; simp
 · rw [Int.toNat_natCast, List.getElem?_map, List.getElem?_append_right (Nat.le_refl _)]; simp
 · rw [Int.toNat_natCast]
   show List.take l.length (List.map _ (l ++ [x])) = _
   rw [List.map_append, List.take_append_of_le_length (by simp), List.take_of_length_le (by simp)]
theorem zdP (b : Bool) (zs : List Int) (h : zs.length ≤ 1000000) : EvN 1 82 [.dat (.lst b (ID zs))] [] [] ([.own 3 (ID zs)], [], []) := by
 refine zgH (g := zc7 3 1) (by kernel_rfl) ?_
 have hw : ziB 1 (ID zs) = true := by
  induction zs with
  | nil => rfl
  | cons z zs ih => exact ih (by simp at h; omega)
 have hl : Nat.ble (ID zs).length 1000000 = true := by simpa using h
 unfold zc7
 simp only [hw, hl, Bool.and_self]
theorem zmO (b b1 : Bool) (c : List Cl) (fr : List Int) (hw : Wf c) (hc : c.length ≤ 200) (hfr : ∀ x ∈ fr, 0 ≤ x ∧ x < (c.length : Int)) (hl : fr.length ≤ 1000) :
 EvN 3000 62 [.dat (.lst b (CD c)), .dat (.lst b1 (ID fr)), .fn 63 []] [] [] ([.own 4 (BD (zeN c.length (Rch c (fun _ => True) (· ∈ fr))))], [], []) := by
 refine zaw Go.Proofs.Tryd.f62 2999 (by kernel_rfl) (by kernel_rfl) fun kk hkk => ?_
 have hlc : (CD c).length = c.length := by simp
 have hlack := zjs (List.replicate c.length false)
 rw [List.length_replicate] at hlack
 obtain ⟨⟨out, op⟩, hP, hfin, hloop⟩ := zfH (kk := kk) (f := 62) (fn := Go.Proofs.Tryd.f62) (r := 2) (x := .exit 0) (fun (a : List Bool × List Int) => zi8 b (CD c) (BD a.1) (ID a.2)) (fun a => Nm [7] [.own 4 (BD a.1)] [none] [] [])
  (fun a => RInv c (fun _ => True) fr a.1 a.2 ∧ 3 * lack a.1 + a.2.length ≤ 2000) (fun a => a.2 = []) (fun a => 3 * lack a.1 + a.2.length) (List.replicate c.length false, fr) (by simp only; omega) ⟨RInv.start hfr, by simp only; omega⟩
  (fun ⟨out, op⟩ ⟨hP, hb⟩ => by
   simp only at hP hb ⊢
   by_cases h0 : 0 < op.length
   · right
     obtain ⟨l, x, rfl⟩ := zmm h0
     simp only [List.length_append, List.length_cons, List.length_nil] at hb
     obtain ⟨e1, e2, e3⟩ := zkm (l := l) (x := x) (by omega)
     obtain ⟨x0, x1⟩ := hP.rin x (by simp)
     obtain ⟨ha, hbb⟩ := zh7 (ks := out) x0 (by rw [hP.len]; exact x1)
     have hlen : ((ID (l ++ [x])).length : Int) = (l.length : Int) + 1 := by simp
     have hcx := zgf (c := c) x0 x1
     have h63 : EvN 1 63 [.dat (I x)] [] [] ([.dat (B true)], [], []) := zaw Go.Proofs.Tryd.f63 0 (by kernel_rfl) (by kernel_rfl) fun kk _ => zp5 kk x rfl
     have o1 : 0 ≤ w64 (((ID (l ++ [x])).length : Int) - 1) ∧ w64 (((ID (l ++ [x])).length : Int) - 1) < ((ID (l ++ [x])).length : Int) := by rw [e1, hlen]; omega
     have o2 : (ID (l ++ [x]))[(w64 (((ID (l ++ [x])).length : Int) - 1)).toNat]? = some (I x) := by rw [e1]; exact e2
     have o3 : 0 ≤ w64 (((ID (l ++ [x])).length : Int) - 1) ∧ w64 (((ID (l ++ [x])).length : Int) - 1) ≤ ((ID (l ++ [x])).length : Int) := ⟨o1.1, by omega⟩
     have e4 : List.take (w64 (((ID (l ++ [x])).length : Int) - 1)).toNat (ID (l ++ [x])) = ID l := by rw [e1]; exact e3
     by_cases hk : K out x
     · have hg : out.getD x.toNat false = true := hk
       rw [hg] at hbb
       refine ⟨(out, l), ⟨hP.skip hk, by simp only; omega⟩, by simp, fun m s K hs hn => ?_⟩
       exact zeU kk m b _ _ _ true x true true c0 hs (fun _ _ => ⟨o1, o2, o3, ha, hbb, fun s' hs' => hn s' (by rw [hs', e4]; rfl)⟩) (fun _ d => by cases d) (fun _ d => by cases d) (fun _ d => by cases d) (fun d => absurd (of_decide_eq_false d) (by omega))
     · have hg : out.getD x.toNat false = false := by
        cases e : out.getD x.toNat false with
        | false => rfl
        | true => exact absurd e hk
       rw [hg] at hbb
       have hset := zeV x0 (by rw [hP.len]; exact x1) hk
       have hbs := zhZ out x.toNat
       cases hleaf : (cg c x).l with
       | true =>
         refine ⟨(out.set x.toNat true, l), ⟨hP.mark hw (fun y => by simp [hleaf]), by simp only; omega⟩, by simp; omega, fun m s K hs hn => ?_⟩
         exact zeU kk m b _ _ _ true x false false (cg c x) hs (fun _ d => by cases d) (fun _ _ d => by rw [hleaf] at d; cases d) (fun _ _ d => by rw [hleaf] at d; cases d) (fun _ _ _ => ⟨o1, o2, o3, ha, hbb, ha, hbb, hcx, fun s' hs' => hn s' (by rw [hs', e4, hbs]; rfl)⟩) (fun d => absurd (of_decide_eq_false d) (by omega))
       | false =>
         refine ⟨(out.set x.toNat true, l ++ [(cg c x).a, (cg c x).b]), ⟨hP.mark hw (fun y => by simp [hleaf]), by simp; omega⟩, by simp; omega, fun m s K hs hn => ?_⟩
         exact zeU kk m b _ _ _ true x false false (cg c x) hs (fun _ d => by cases d) (fun _ _ _ _ => ⟨o1, o2, o3, ha, hbb, ha, hbb, hcx, h63 kk (by omega), by rw [e4]; simp; omega, fun s' hs' => hn s' (by rw [hs', e4, hbs]; simp [zi8, ID])⟩) (fun _ _ _ d => by cases d) (fun _ _ d => by rw [hleaf] at d; cases d) (fun d => absurd (of_decide_eq_false d) (by omega))
   · left
     exact List.eq_nil_of_length_eq_zero (by omega))
  (fun ⟨out, op⟩ _ hf m s K hs hK => by
   simp only at hf
   subst hf
   exact zeU kk m b _ _ _ true 0 true true c0 hs (fun d => absurd (of_decide_eq_true d) (by simp)) (fun d => absurd (of_decide_eq_true d) (by simp)) (fun d => absurd (of_decide_eq_true d) (by simp)) (fun d => absurd (of_decide_eq_true d) (by simp)) (fun _ => hK)) (s0 := zi8 b (CD c) (List.replicate (CD c).length (B false)) (ID fr)) (by rw [hlc, zkO])
 simp only at hfin hP
 subst hfin
 have hout := hP.1.done hw hfr
 subst hout
 exact zqE kk b b1 _ _ (ID fr) _ ⟨zdP b1 fr (by omega) kk (by omega), ⟨by omega, by omega, by omega⟩, hloop, rfl⟩
theorem zkY (x : Int) (b : Bool) (o : Int) (cs : List Dat) (rs : List Int) (ns : List Dat) (h : rs.length ≤ 1048576) : EvN 1048582 85 [.dat (I x), .ptr (.up 0) 0] [[.dat (I o), .dat (.lst b cs), .dat (.lst b (ID rs)), .dat (.lst b ns)]] [] ([.dat (B (decide (o ≤ x) || hasB rs x))], [[.dat (I o), .dat (.lst b cs), .dat (.lst b (ID rs)), .dat (.lst b ns)]], []) :=
 zaw Go.Proofs.Tryd.f85 1048581 (by kernel_rfl) (by kernel_rfl) fun kk hkk => zo9 kk x b o _ _ _ (hasB rs x) (fun d => by rw [d]; rfl) (fun d => ⟨zi0 b rs x h kk (by omega), by rw [d]; rfl⟩)
theorem zmC (b b1 : Bool) (c : List Cl) (fr : List Int) (b2 : Bool) (o : Int) (cs2 : List Dat) (rs : List Int) (ns : List Dat) (hr : rs.length ≤ 1000) (hw : Wf c) (hc : c.length ≤ 200) (hfr : ∀ x ∈ fr, 0 ≤ x ∧ x < (c.length : Int)) (hl : fr.length ≤ 1000) :
 EvN 1050000 62 [.dat (.lst b (CD c)), .dat (.lst b1 (ID fr)), .fn 85 [.up 0]] [[.dat (I o), .dat (.lst b2 cs2), .dat (.lst b2 (ID rs)), .dat (.lst b2 ns)]] []
  ([.own 4 (BD (zeN c.length (Rch c (fun i => o ≤ i ∨ i ∈ rs) (· ∈ fr))))], [[.dat (I o), .dat (.lst b2 cs2), .dat (.lst b2 (ID rs)), .dat (.lst b2 ns)]], []) := by
 refine zaw Go.Proofs.Tryd.f62 1049999 (by kernel_rfl) (by kernel_rfl) fun kk hkk => ?_
 have hlc : (CD c).length = c.length := by simp
 have hlack := zjs (List.replicate c.length false)
 rw [List.length_replicate] at hlack
 obtain ⟨⟨out, op⟩, hP, hfin, hloop⟩ := zfH (kk := kk) (f := 62) (fn := Go.Proofs.Tryd.f62) (r := 2) (x := .exit 0) (fun (a : List Bool × List Int) => zjL b (CD c) (BD a.1) (ID a.2) b2 o cs2 (ID rs) ns) (fun a => Nm [7] [.own 4 (BD a.1)] [none] [[.dat (I o), .dat (.lst b2 cs2), .dat (.lst b2 (ID rs)), .dat (.lst b2 ns)]] [])
  (fun a => RInv c (fun i => o ≤ i ∨ i ∈ rs) fr a.1 a.2 ∧ 3 * lack a.1 + a.2.length ≤ 2000) (fun a => a.2 = []) (fun a => 3 * lack a.1 + a.2.length) (List.replicate c.length false, fr) (by simp only; omega) ⟨RInv.start hfr, by simp only; omega⟩
  (fun ⟨out, op⟩ ⟨hP, hb⟩ => by
   simp only at hP hb ⊢
   by_cases h0 : 0 < op.length
   · right
     obtain ⟨l, x, rfl⟩ := zmm h0
     simp only [List.length_append, List.length_cons, List.length_nil] at hb
     obtain ⟨e1, e2, e3⟩ := zkm (l := l) (x := x) (by omega)
     obtain ⟨x0, x1⟩ := hP.rin x (by simp)
     obtain ⟨ha, hbb⟩ := zh7 (ks := out) x0 (by rw [hP.len]; exact x1)
     have hlen : ((ID (l ++ [x])).length : Int) = (l.length : Int) + 1 := by simp
     have hcx := zgf (c := c) x0 x1
     have h85 := zkY x b2 o cs2 rs ns (by omega) kk (by omega)
     have hon : (decide (o ≤ x) || hasB rs x) = true ↔ (o ≤ x ∨ x ∈ rs) := by rw [Bool.or_eq_true, decide_eq_true_eq, zfO]
     generalize (decide (o ≤ x) || hasB rs x) = gg at h85 hon
     have o1 : 0 ≤ w64 (((ID (l ++ [x])).length : Int) - 1) ∧ w64 (((ID (l ++ [x])).length : Int) - 1) < ((ID (l ++ [x])).length : Int) := by rw [e1, hlen]; omega
     have o2 : (ID (l ++ [x]))[(w64 (((ID (l ++ [x])).length : Int) - 1)).toNat]? = some (I x) := by rw [e1]; exact e2
     have o3 : 0 ≤ w64 (((ID (l ++ [x])).length : Int) - 1) ∧ w64 (((ID (l ++ [x])).length : Int) - 1) ≤ ((ID (l ++ [x])).length : Int) := ⟨o1.1, by omega⟩
     have e4 : List.take (w64 (((ID (l ++ [x])).length : Int) - 1)).toNat (ID (l ++ [x])) = ID l := by rw [e1]; exact e3
     by_cases hk : K out x
     · have hg : out.getD x.toNat false = true := hk
       rw [hg] at hbb
       refine ⟨(out, l), ⟨hP.skip hk, by simp only; omega⟩, by simp, fun m s K hs hn => ?_⟩
       exact zdG kk m b _ _ _ b2 o cs2 _ ns true x true true c0 hs (fun _ _ => ⟨o1, o2, o3, ha, hbb, fun s' hs' => hn s' (by rw [hs', e4]; rfl)⟩) (fun _ d => by cases d) (fun _ d => by cases d) (fun _ d => by cases d) (fun d => absurd (of_decide_eq_false d) (by omega))
     · have hg : out.getD x.toNat false = false := by
        cases e : out.getD x.toNat false with
        | false => rfl
        | true => exact absurd e hk
       rw [hg] at hbb
       have hset := zeV x0 (by rw [hP.len]; exact x1) hk
       have hbs := zhZ out x.toNat
       cases hleaf : (cg c x).l with
       | true =>
         refine ⟨(out.set x.toNat true, l), ⟨hP.mark hw (fun y => by simp [hleaf]), by simp only; omega⟩, by simp; omega, fun m s K hs hn => ?_⟩
         exact zdG kk m b _ _ _ b2 o cs2 _ ns true x false false (cg c x) hs (fun _ d => by cases d) (fun _ _ d => by rw [hleaf] at d; cases d) (fun _ _ d => by rw [hleaf] at d; cases d) (fun _ _ _ => ⟨o1, o2, o3, ha, hbb, ha, hbb, hcx, fun s' hs' => hn s' (by rw [hs', e4, hbs]; rfl)⟩) (fun d => absurd (of_decide_eq_false d) (by omega))
       | false =>
         cases gg with
         | true =>
           have hox := hon.1 rfl
           refine ⟨(out.set x.toNat true, l ++ [(cg c x).a, (cg c x).b]), ⟨hP.mark hw (fun y => by simp [hleaf, hox]), by simp; omega⟩, by simp; omega, fun m s K hs hn => ?_⟩
           exact zdG kk m b _ _ _ b2 o cs2 _ ns true x false false (cg c x) hs (fun _ d => by cases d) (fun _ _ _ _ => ⟨o1, o2, o3, ha, hbb, ha, hbb, hcx, h85, by rw [e4]; simp; omega, fun s' hs' => hn s' (by rw [hs', e4, hbs]; simp [zjL, ID])⟩) (fun _ _ _ d => by cases d) (fun _ _ d => by rw [hleaf] at d; cases d) (fun d => absurd (of_decide_eq_false d) (by omega))
         | false =>
           have hox : ¬ (o ≤ x ∨ x ∈ rs) := fun h => by cases hon.2 h
           refine ⟨(out.set x.toNat true, l), ⟨hP.mark hw (fun y => by simp [hox]), by simp only; omega⟩, by simp; omega, fun m s K hs hn => ?_⟩
           exact zdG kk m b _ _ _ b2 o cs2 _ ns false x false false (cg c x) hs (fun _ d => by cases d) (fun _ _ _ d => by cases d) (fun _ _ _ _ => ⟨o1, o2, o3, ha, hbb, ha, hbb, hcx, h85, fun s' hs' => hn s' (by rw [hs', e4, hbs]; rfl)⟩) (fun _ _ d => by rw [hleaf] at d; cases d) (fun d => absurd (of_decide_eq_false d) (by omega))
   · left
     exact List.eq_nil_of_length_eq_zero (by omega))
  (fun ⟨out, op⟩ _ hf m s K hs hK => by
   simp only at hf
   subst hf
   exact zdG kk m b _ _ _ b2 o cs2 _ ns true 0 true true c0 hs (fun d => absurd (of_decide_eq_true d) (by simp)) (fun d => absurd (of_decide_eq_true d) (by simp)) (fun d => absurd (of_decide_eq_true d) (by simp)) (fun d => absurd (of_decide_eq_true d) (by simp)) (fun _ => hK)) (s0 := zjL b (CD c) (List.replicate (CD c).length (B false)) (ID fr) b2 o cs2 (ID rs) ns) (by rw [hlc, zkO])
 simp only at hfin hP
 subst hfin
 have hout := hP.1.done hw hfr
 subst hout
 exact zqr kk b b1 _ _ (ID fr) _ b2 o cs2 _ ns ⟨zdP b1 fr (by omega) kk (by omega), ⟨by omega, by omega, by omega⟩, hloop, rfl⟩
end Go.Den
namespace Go.Den
open Go
set_option linter.unusedVariables false
set_option maxRecDepth 100000
abbrev HO (h : Hp) : D := .seq false [.dat (I h.o), .own 97 (CD h.cs), .own 3 (ID h.rs), .own 3 (ID h.ns)]
theorem zd8 {α : Type} (f : α → Dat) (hf : ∀ x, (f x).clean = true) : ∀ l : List α, Dat.cleans (l.map f) = true
 | [] => rfl
 | x :: l => by
   show ((f x).clean && Dat.cleans (l.map f)) = true
   rw [hf x, zd8 f hf l]; rfl
theorem zoo (cs : List Cl) : Dat.cleans (CD cs) = true := zd8 _ (fun _ => rfl) cs
theorem zhj (zs : List Int) : Dat.cleans (ID zs) = true := zd8 _ (fun _ => rfl) zs
theorem zaz (h : Hp) : D.cleans [HO h] = true := by
 show (((true && (Dat.cleans (CD h.cs) && (Dat.cleans (ID h.rs) && (Dat.cleans (ID h.ns) && true)))) : Bool) && true) = true
 rw [zoo, zhj, zhj]; rfl
theorem zgE {ks : List Bool} {i : Nat} (h : i < ks.length) : ((0 ≤ (i : Int) ∧ (i : Int) < ((BD ks).length : Int)) ∧ (BD ks)[((i : Int)).toNat]? = some (B (ks.getD i false))) := by
 have := zh7 (ks := ks) (i := (i : Int)) (by omega) (by omega)
 rw [show ((i : Int)).toNat = i from Int.toNat_natCast i] at this
 rw [Int.toNat_natCast]
 exact this
theorem zoO {zs : List Int} {i : Nat} (h : i < zs.length) : ((0 ≤ (i : Int) ∧ (i : Int) < ((ID zs).length : Int)) ∧ (ID zs)[((i : Int)).toNat]? = some (I (zs.getD i 0))) := by
 obtain ⟨x, hx⟩ := zbq h
 rw [gd hx]
 exact zeL hx
theorem zlz {m : List Bool} {n : Nat} {t : List Int} (h : Tb m n t) (hm : m.length = n) {j : Int} (h0 : 0 ≤ j) (hk : K m j) : (0 ≤ j ∧ j < ((ID t).length : Int)) ∧ (ID t)[j.toNat]? = some (I (cnt m j)) := by
 obtain ⟨h1, h2⟩ := h.get hm h0 hk
 exact ⟨by simpa using h1, gm (f := (I ·)) h2⟩
def TbP (m : List Bool) (n i : Nat) (t : List Int) : Prop := t.length = n ∧ ∀ j : Nat, j < i → K m (j : Int) → t.getD j 0 = cnt m (j : Int)
theorem TbP.set {m : List Bool} {n i : Nat} {t : List Int} (h : TbP m n i t) (hi : i < n) : TbP m n (i + 1) (t.set i (cnt m (i : Int))) := by
 refine ⟨by rw [List.length_set]; exact h.1, fun j hj hk => ?_⟩
 by_cases e : j = i
 · subst e
   rw [List.getD_eq_getElem?_getD, List.getElem?_set_self (by have := h.1; omega)]
   rfl
 · rw [List.getD_eq_getElem?_getD, List.getElem?_set_ne (by omega), ← List.getD_eq_getElem?_getD]
   exact h.2 j (by omega) hk
theorem TbP.skip {m : List Bool} {n i : Nat} {t : List Int} (h : TbP m n i t) (hk : ¬ K m (i : Int)) : TbP m n (i + 1) t :=
 ⟨h.1, fun j hj hkj => h.2 j (by
  by_cases e : j = i
  · subst e; exact absurd hkj hk
  · omega) hkj⟩
theorem TbP.done {m : List Bool} {n : Nat} {t : List Int} (h : TbP m n n t) (hm : m.length = n) : Tb m n t :=
 ⟨h.1, fun j hk => h.2 j (by have := K_lt (Int.natCast_nonneg j) hk; omega) hk⟩
theorem zjW {m : List Bool} {x : Cl} (h : x.l = false) : Dat.agg [B x.l, I x.n, I (cnt m x.a), I (cnt m x.b)] = (mvC m x).d := by
 unfold mvC
 rw [if_neg (by rw [h]; simp)]
theorem zkA {m : List Bool} {x : Cl} (h : x.l = true) : Dat.agg [B x.l, I x.n, I x.a, I x.b] = (mvC m x).d := by
 unfold mvC
 rw [if_pos h]
theorem zhe {m : List Bool} {c : List Cl} {i : Nat} {x : Cl} (hm : c.length = m.length) (hx : c[i]? = some x) (hb : m[i]? = some true) : CD (mvCs m (c.take i) (m.take i)) ++ [(mvC m x).d] = CD (mvCs m (c.take (i + 1)) (m.take (i + 1))) := by
 rw [ziz m c m i x true hm hx hb]
 simp [CD]
theorem zlN {m : List Bool} {c : List Cl} {i : Nat} {x : Cl} (hm : c.length = m.length) (hx : c[i]? = some x) (hb : m[i]? = some false) : CD (mvCs m (c.take i) (m.take i)) = CD (mvCs m (c.take (i + 1)) (m.take (i + 1))) := by
 rw [ziz m c m i x false hm hx hb]
 simp [CD]
theorem zl3 (m : List Bool) {rs : List Int} {i : Nat} {x : Int} (hx : rs[i]? = some x) : ID ((rs.take i).map (cnt m)) ++ [I (cnt m x)] = ID ((rs.take (i + 1)).map (cnt m)) := by
 rw [List.take_add_one, hx]
 simp [ID]
theorem zoU {m : List Bool} {c : List Cl} {i : Nat} (hm : m.length ≤ 200) : (CD (mvCs m (c.take i) (m.take i))).length + 1 ≤ 2147483648 := by
 have h1 := zjX m (c.take i) (m.take i)
 rw [List.length_map]
 rw [List.length_take] at h1
 omega
theorem getM {ks : List Bool} {i : Nat} (h : i < ks.length) : ks[i]? = some (ks.getD i false) := by
 rw [List.getD_eq_getElem?_getD, List.getElem?_eq_getElem h]; rfl
theorem K_nat {ks : List Bool} {i : Nat} : K ks (i : Int) ↔ ks.getD i false = true := by unfold K; rw [Int.toNat_natCast]
theorem zkC (b kb : Bool) (h : Hp) (g : Hg h) (m : List Bool) (hm : m.length = h.cs.length) (hsh : Shut m h.cs) (hr : ∀ x ∈ h.rs, K m x) : EvN 1000 122 [.dat (YD b h.o h.cs h.rs h.ns), .dat (.lst kb (BD m))] [] [] ([HO (mvH m h)], [], []) := by
 refine zaw Go.Proofs.Tryd.f122 999 (by kernel_rfl) (by kernel_rfl) fun kk hkk => ?_
 have hcl := g.clen
 have hrl := g.rlen
 have hlm : (List.map Cl.d h.cs).length = h.cs.length := by simp
 have hlc : (CD h.cs).length = h.cs.length := by simp
 have hlb : (BD m).length = m.length := by simp
 have hlr : (ID h.rs).length = h.rs.length := by simp
 obtain ⟨t, ht, la⟩ := zbi (kk := kk) (f := 122) (fn := Go.Proofs.Tryd.f122) (r := 4) (x := .exit 0) (fun i (t : List Int) => zgR b h.o (CD h.cs) (ID h.rs) (ID h.ns) kb (BD m) (ID t) (cnt m (i : Int)) (i : Int))
  (fun t => Nm [1, 2, 4, 5, 6] [.dat (.lst kb (BD m)), .ptr (.loc 2) 0, .ptr (.loc 4) 0, .own 3 (ID t), .dat (I (cnt m (m.length : Int)))] [none, Yb b h.o (CD h.cs) (ID h.rs) (ID h.ns), some (Yo 0 [] [] []), none, none] [] [])
  (TbP m m.length) m.length (by omega) (List.replicate m.length 0) ⟨by simp, fun j hj => by omega⟩
  (fun i t hi hP => by
   have hb := zgE hi
   have ht := hP.1
   have hti := zoO (zs := t) (i := i) (by omega)
   have hle := zj0 m i
   cases hk : m.getD i false with
   | true =>
     rw [hk] at hb
     refine ⟨_, hP.set (by omega), fun q s K hs hn => zjN kk q b h.o _ _ _ kb _ _ _ i true (t.getD i 0) hs (fun _ _ => ⟨hb, hti.1, hti.2, fun s' hs' => hn s' ?_⟩) (fun _ d => by cases d) (fun d => absurd (of_decide_eq_false d) (by omega))⟩
     rw [hs', wi i (by omega), Int.toNat_natCast, znf, zbm (by omega), ← zj9 m i hi (K_nat.2 hk)]
     rfl
   | false =>
     rw [hk] at hb
     have hnk : ¬ K m (i : Int) := fun h => by rw [K_nat, hk] at h; cases h
     refine ⟨_, hP.skip hnk, fun q s K hs hn => zjN kk q b h.o _ _ _ kb _ _ _ i false 0 hs (fun _ d => by cases d) (fun _ _ => ⟨hb, fun s' hs' => hn s' ?_⟩) (fun d => absurd (of_decide_eq_false d) (by omega))⟩
     rw [hs', wi i (by omega), ← znb m i hi hnk]
     rfl)
  (fun t _ q s K hs hK => zjN kk q b h.o _ _ _ kb _ _ _ _ true 0 hs (fun d => absurd (of_decide_eq_true d) (by omega)) (fun d => absurd (of_decide_eq_true d) (by omega)) (fun _ => hK))
  (s0 := zgR b h.o (CD h.cs) (ID h.rs) (ID h.ns) kb (BD m) (List.replicate (CD h.cs).length (I 0)) 0 0) (by rw [show (CD h.cs).length = m.length by omega, zoV]; simp [zjP])
 have htb : Tb m m.length t := ht.done rfl
 have lb := za3 (kk := kk) (f := 122) (fn := Go.Proofs.Tryd.f122) (r := 12) (x := .exit 2) (s' := Nm [2, 4, 5, 9] [.ptr (.loc 2) 0, .ptr (.loc 4) 0, .own 3 (ID t), .ptr (.loc 9) 0] [Yb b h.o (CD h.cs) (ID h.rs) (ID h.ns), some (Yo 0 [] [] []), none, some (Yo (cnt m m.length) (CD (mvCs m h.cs m)) [] [])] [] [])
  (fun i => zgq b h.o (CD h.cs) (ID h.rs) (ID h.ns) kb (BD m) (ID t) (cnt m m.length) (CD (mvCs m (h.cs.take i) (m.take i))) i) h.cs.length (by omega)
  (fun i hi q s K hs hn => by
   obtain ⟨x, hx⟩ := zbq hi
   have hxd := ih (gm (f := Cl.d) hx)
   have hb := zgE (ks := m) (i := i) (by omega)
   have hmi := getM (ks := m) (i := i) (by omega)
   have hlim := zoU (m := m) (c := h.cs) (i := i) (by omega)
   have hcx : cg h.cs (i : Int) = x := zka (by rw [Int.toNat_natCast]; exact hx)
   cases hk : m.getD i false with
   | false =>
     rw [hk] at hb hmi
     refine zg4 kk q b h.o _ _ _ kb _ _ _ _ i x false 0 0 hs (fun _ _ => ⟨hxd, hb, fun s' hs' => hn s' ?_⟩) (fun _ d => by cases d) (fun _ d => by cases d) (fun d => absurd (of_decide_eq_false d) (by omega))
     rw [hs', wi i (by omega), ← zlN hm.symm hx hmi]
     rfl
   | true =>
     rw [hk] at hb hmi
     cases hl : x.l with
     | true =>
       refine zg4 kk q b h.o _ _ _ kb _ _ _ _ i x true 0 0 hs (fun _ d => by cases d) (fun _ _ d => by rw [hl] at d; cases d) (fun _ _ _ => ⟨hxd, hb, hlim, fun s' hs' => hn s' ?_⟩) (fun d => absurd (of_decide_eq_false d) (by omega))
       rw [hs', wi i (by omega), zkA hl, zhe hm.symm hx hmi]
       rfl
     | false =>
       obtain ⟨⟨a0, a1⟩, b0, b1⟩ := hsh i (K_nat.2 hk) (by rw [hcx]; exact hl)
       rw [hcx] at a0 a1 b0 b1
       have ta := zlz htb rfl a0 a1
       have tb := zlz htb rfl b0 b1
       refine zg4 kk q b h.o _ _ _ kb _ _ _ _ i x true (cnt m x.a) (cnt m x.b) hs (fun _ d => by cases d) (fun _ _ _ => ⟨hxd, hb, ta.1, ta.2, tb.1, tb.2, hlim, fun s' hs' => hn s' ?_⟩) (fun _ _ d => by rw [hl] at d; cases d) (fun d => absurd (of_decide_eq_false d) (by omega))
       rw [hs', wi i (by omega), zjW hl, zhe hm.symm hx hmi]
       rfl)
  (fun q s K hs hK => zg4 kk q b h.o _ _ _ kb _ _ _ _ _ c0 true 0 0 hs (fun d => absurd (of_decide_eq_true d) (by omega)) (fun d => absurd (of_decide_eq_true d) (by omega)) (fun d => absurd (of_decide_eq_true d) (by omega)) (fun _ => by
   rw [List.take_length, show h.cs.length = m.length from hm.symm, List.take_length]; exact hK))
  (s0 := zgq b h.o (CD h.cs) (ID h.rs) (ID h.ns) kb (BD m) (ID t) (cnt m m.length) [] 0) (by simp [mvCs])
 have lc := za3 (kk := kk) (f := 122) (fn := Go.Proofs.Tryd.f122) (r := 21) (x := .exit 4) (s' := Nm [4, 9] [.ptr (.loc 4) 0, .ptr (.loc 9) 0] [some (Yo 0 [] [] []), some (Yo (cnt m m.length) (CD (mvCs m h.cs m)) (ID (h.rs.map (cnt m))) [])] [] [])
  (fun i => zgN b h.o (CD h.cs) (ID h.rs) (ID h.ns) (ID t) (cnt m m.length) (CD (mvCs m h.cs m)) (ID ((h.rs.take i).map (cnt m))) i) h.rs.length (by omega)
  (fun i hi q s K hs hn => by
   obtain ⟨x, hx⟩ := zbq hi
   have hxm := List.mem_of_getElem? hx
   have tx := zlz htb rfl (g.rin x hxm).1 (hr x hxm)
   refine zmN kk q b h.o _ _ _ _ _ _ _ i x (cnt m x) hs (fun _ => ⟨zeL hx, tx.1, tx.2, by simp; omega, fun s' hs' => hn s' ?_⟩) (fun d => absurd (of_decide_eq_false d) (by omega))
   rw [hs', wi i (by omega), zl3 m hx]
   rfl)
  (fun q s K hs hK => zmN kk q b h.o _ _ _ _ _ _ _ _ 0 0 hs (fun d => absurd (of_decide_eq_true d) (by omega)) (fun _ => by rw [List.take_length]; exact hK))
  (s0 := zgN b h.o (CD h.cs) (ID h.rs) (ID h.ns) (ID t) (cnt m m.length) (CD (mvCs m h.cs m)) [] 0) (by simp)
 exact moveS kk b h.o _ _ _ kb _ (ID t) (cnt m m.length) (CD (mvCs m h.cs m)) (ID (h.rs.map (cnt m))) ⟨⟨by omega, by omega, by omega⟩, la, lb, lc, rfl⟩
theorem zo3 (b kb rb : Bool) (h : Hp) (g : Hg h) (m : List Bool) (hm : m.length = h.cs.length) (hsh : Shut m h.cs) (hr : ∀ x ∈ h.rs, K m x) : EvN 1000 118 [.dat (.lst b (CD h.cs)), .dat (.lst rb (ID h.rs)), .dat (.lst kb (BD m))] [] [] ([.own 97 (CD (mvCs m h.cs m)), .own 3 (ID (h.rs.map (cnt m)))], [], []) := by
 refine zaw Go.Proofs.Tryd.f118 999 (by kernel_rfl) (by kernel_rfl) fun kk hkk => ?_
 have hcl := g.clen
 have hrl := g.rlen
 have hlm : (List.map Cl.d h.cs).length = h.cs.length := by simp
 have hlc : (CD h.cs).length = h.cs.length := by simp
 have hlb : (BD m).length = m.length := by simp
 have hlr : (ID h.rs).length = h.rs.length := by simp
 obtain ⟨t, ht, la⟩ := zbi (kk := kk) (f := 118) (fn := Go.Proofs.Tryd.f118) (r := 4) (x := .exit 0) (fun i (t : List Int) => zgw b kb rb (CD h.cs) (ID h.rs) (BD m) (ID t) (cnt m (i : Int)) (i : Int))
  (fun t => Nm [0, 1, 2, 8, 9, 10] [.dat (.lst b (CD h.cs)), .dat (.lst rb (ID h.rs)), .dat (.lst kb (BD m)), .own 3 (ID t), .own 97 [], .own 3 []] [none, none, none, none, none, none] [] [])
  (TbP m m.length) m.length (by omega) (List.replicate m.length 0) ⟨by simp, fun j hj => by omega⟩
  (fun i t hi hP => by
   have hb := zgE hi
   have ht := hP.1
   have hti := zoO (zs := t) (i := i) (by omega)
   have hle := zj0 m i
   cases hk : m.getD i false with
   | true =>
     rw [hk] at hb
     refine ⟨_, hP.set (by omega), fun q s K hs hn => zmr kk q b kb rb _ _ _ _ _ i true (t.getD i 0) hs (fun _ _ => ⟨hb, hti.1, hti.2, fun s' hs' => hn s' ?_⟩) (fun _ d => by cases d) (fun d => absurd (of_decide_eq_false d) (by omega))⟩
     rw [hs', wi i (by omega), Int.toNat_natCast, znf, zbm (by omega), ← zj9 m i hi (K_nat.2 hk)]
     rfl
   | false =>
     rw [hk] at hb
     have hnk : ¬ K m (i : Int) := fun h => by rw [K_nat, hk] at h; cases h
     refine ⟨_, hP.set (by omega), fun q s K hs hn => zmr kk q b kb rb _ _ _ _ _ i false (t.getD i 0) hs (fun _ d => by cases d) (fun _ _ => ⟨hb, hti.1, hti.2, fun s' hs' => hn s' ?_⟩) (fun d => absurd (of_decide_eq_false d) (by omega))⟩
     rw [hs', wi i (by omega), Int.toNat_natCast, znf, ← znb m i hi hnk]
     rfl)
  (fun t _ q s K hs hK => zmr kk q b kb rb _ _ _ _ _ _ true 0 hs (fun d => absurd (of_decide_eq_true d) (by omega)) (fun d => absurd (of_decide_eq_true d) (by omega)) (fun _ => hK))
  (s0 := zgw b kb rb (CD h.cs) (ID h.rs) (BD m) (List.replicate (CD h.cs).length (I 0)) 0 0) (by rw [show (CD h.cs).length = m.length by omega, zoV]; simp [zjP])
 have htb : Tb m m.length t := ht.done rfl
 have lb := za3 (kk := kk) (f := 118) (fn := Go.Proofs.Tryd.f118) (r := 11) (x := .exit 2) (s' := Nm [1, 8, 9, 10] [.dat (.lst rb (ID h.rs)), .own 3 (ID t), .own 97 (CD (mvCs m h.cs m)), .own 3 []] [none, none, none, none] [] [])
  (fun i => zgI b kb rb (CD h.cs) (ID h.rs) (BD m) (ID t) (CD (mvCs m (h.cs.take i) (m.take i))) i) h.cs.length (by omega)
  (fun i hi q s K hs hn => by
   obtain ⟨x, hx⟩ := zbq hi
   have hxd := ih (gm (f := Cl.d) hx)
   have hb := zgE (ks := m) (i := i) (by omega)
   have hmi := getM (ks := m) (i := i) (by omega)
   have hlim := zoU (m := m) (c := h.cs) (i := i) (by omega)
   have hcx : cg h.cs (i : Int) = x := zka (by rw [Int.toNat_natCast]; exact hx)
   cases hk : m.getD i false with
   | false =>
     rw [hk] at hb hmi
     refine zjY kk q b kb rb _ _ _ _ _ i x false 0 0 hs (fun _ _ => ⟨hxd, hb, fun s' hs' => hn s' ?_⟩) (fun _ d => by cases d) (fun _ d => by cases d) (fun d => absurd (of_decide_eq_false d) (by omega))
     rw [hs', wi i (by omega), ← zlN hm.symm hx hmi]
     rfl
   | true =>
     rw [hk] at hb hmi
     cases hl : x.l with
     | true =>
       refine zjY kk q b kb rb _ _ _ _ _ i x true 0 0 hs (fun _ d => by cases d) (fun _ _ d => by rw [hl] at d; cases d) (fun _ _ _ => ⟨hxd, hb, hlim, fun s' hs' => hn s' ?_⟩) (fun d => absurd (of_decide_eq_false d) (by omega))
       rw [hs', wi i (by omega), zkA hl, zhe hm.symm hx hmi]
       rfl
     | false =>
       obtain ⟨⟨a0, a1⟩, b0, b1⟩ := hsh i (K_nat.2 hk) (by rw [hcx]; exact hl)
       rw [hcx] at a0 a1 b0 b1
       have ta := zlz htb rfl a0 a1
       have tb := zlz htb rfl b0 b1
       refine zjY kk q b kb rb _ _ _ _ _ i x true (cnt m x.a) (cnt m x.b) hs (fun _ d => by cases d) (fun _ _ _ => ⟨hxd, hb, ta.1, ta.2, tb.1, tb.2, hlim, fun s' hs' => hn s' ?_⟩) (fun _ _ d => by rw [hl] at d; cases d) (fun d => absurd (of_decide_eq_false d) (by omega))
       rw [hs', wi i (by omega), zjW hl, zhe hm.symm hx hmi]
       rfl)
  (fun q s K hs hK => zjY kk q b kb rb _ _ _ _ _ _ c0 true 0 0 hs (fun d => absurd (of_decide_eq_true d) (by omega)) (fun d => absurd (of_decide_eq_true d) (by omega)) (fun d => absurd (of_decide_eq_true d) (by omega)) (fun _ => by
   rw [List.take_length, show h.cs.length = m.length from hm.symm, List.take_length]; exact hK))
  (s0 := zgI b kb rb (CD h.cs) (ID h.rs) (BD m) (ID t) [] 0) (by simp [mvCs])
 have lc := za3 (kk := kk) (f := 118) (fn := Go.Proofs.Tryd.f118) (r := 19) (x := .exit 4) (s' := Nm [9, 10] [.own 97 (CD (mvCs m h.cs m)), .own 3 (ID (h.rs.map (cnt m)))] [none, none] [] [])
  (fun i => zgl rb (ID h.rs) (ID t) (CD (mvCs m h.cs m)) (ID ((h.rs.take i).map (cnt m))) i) h.rs.length (by omega)
  (fun i hi q s K hs hn => by
   obtain ⟨x, hx⟩ := zbq hi
   have hxm := List.mem_of_getElem? hx
   have tx := zlz htb rfl (g.rin x hxm).1 (hr x hxm)
   refine zoQ kk q rb _ _ _ _ i x (cnt m x) hs (fun _ => ⟨zeL hx, tx.1, tx.2, by simp; omega, fun s' hs' => hn s' ?_⟩) (fun d => absurd (of_decide_eq_false d) (by omega))
   rw [hs', wi i (by omega), zl3 m hx]
   rfl)
  (fun q s K hs hK => zoQ kk q rb _ _ _ _ _ 0 0 hs (fun d => absurd (of_decide_eq_true d) (by omega)) (fun _ => by rw [List.take_length]; exact hK))
  (s0 := zgl rb (ID h.rs) (ID t) (CD (mvCs m h.cs m)) [] 0) (by simp)
 exact kept kk b kb rb _ _ _ (ID t) (CD (mvCs m h.cs m)) (ID (h.rs.map (cnt m))) (cnt m m.length) ⟨⟨by omega, by omega, by omega⟩, la, lb, lc, rfl⟩
theorem zkw (b kb : Bool) (h : Hp) (g : Hg h) (m : List Bool) (hm : m.length = h.cs.length) (hsh : Shut m h.cs) (hr : ∀ x ∈ h.rs, K m x) : EvN 1001 86 [.dat (YD b h.o h.cs h.rs h.ns), .dat (.lst kb (BD m))] [] [] ([HO (mvH m h)], [], []) := by
 refine zaw Go.Proofs.Tryd.f86 1000 (by kernel_rfl) (by kernel_rfl) fun kk hkk => ?_
 refine stayI kk b h.o _ _ _ kb _ _ _ ⟨zo3 b kb b h g m hm hsh hr kk (by omega), ?_⟩
 rw [show ((List.map Cl.d (mvCs m h.cs m)).length : Int) = cnt m m.length by rw [List.length_map]; exact zhf hm]
 rfl
theorem ze6 (b : Bool) (h : Hp) (g : Hg h) : EvN 1100 92 [.dat (YD b h.o h.cs h.rs h.ns)] [] [] ([HO (zb5 h)], [], []) :=
 zaw Go.Proofs.Tryd.f92 1099 (by kernel_rfl) (by kernel_rfl) fun kk hkk => fullS kk b h.o _ _ _ (BD (zfg h)) _ _ _ _ ⟨znS b h g kk (by omega), zaz (zb5 h), zkC b true h g (zfg h) (zaT _ _) (zdU g) (zdJ g) kk (by omega), rfl⟩
theorem zg3 (b : Bool) (h : Hp) (g : Hg h) : EvN 3100 60 [.dat (YD b h.o h.cs h.rs h.ns)] [] [] ([HO (zb5 h)], [], []) :=
 zaw Go.Proofs.Tryd.f60 3099 (by kernel_rfl) (by kernel_rfl) fun kk hkk => fullI kk b h.o _ _ _ (BD (zfg h)) _ _ _ _ ⟨zmO b b h.cs h.rs g.wf g.clen g.rin (by have := g.rlen; omega) kk (by omega), zaz (zb5 h), zkw b true h g (zfg h) (zaT _ _) (zdU g) (zdJ g) kk (by omega), rfl⟩
end Go.Den
namespace Go.Den
open Go
set_option linter.unusedVariables false
set_option maxRecDepth 100000
theorem zdq {h : Hp} (g : Hg h) {x : Int} (hx : x ∈ h.ns) : 0 ≤ x ∧ x < (h.cs.length : Int) := by
 have h1 := g.nin x hx
 have h2 := g.o1
 omega
def FillP (n : Nat) (ks : List Bool) (i : Nat) (ks' : List Bool) : Prop := ks'.length = n ∧ ∀ j : Int, 0 ≤ j → (K ks' j ↔ (K ks j ∨ j < (i : Int)))
theorem FillP.set {n : Nat} {ks ks' : List Bool} {i : Nat} (h : FillP n ks i ks') (hi : i < n) : FillP n ks (i + 1) (ks'.set i true) := by
 refine ⟨by simpa using h.1, fun j hj => ?_⟩
 have := zpN (l := ks') (i := (i : Int)) (by omega) (by have := h.1; omega) j hj
 rw [Int.toNat_natCast] at this
 rw [this, h.2 j hj]
 constructor
 · rintro (h | h | h)
   · exact .inr (by omega)
   · exact .inl h
   · exact .inr (by omega)
 · rintro (h | h)
   · exact .inr (.inl h)
   · by_cases e : j = (i : Int)
     · exact .inl e
     · exact .inr (.inr (by omega))
theorem zlF {h : Hp} (g : Hg h) {ks kc : List Bool} (hk : ∀ i, 0 ≤ i → (K ks i ∨ i < h.o ↔ i < (h.cs.length : Int) ∧ (i < h.o ∨ Rch h.cs (fun i => ¬ i < h.o) (Src h) i))) (hf : FillP h.cs.length ks h.o.toNat kc) : kc = zeO h := by
 refine zpk (by rw [hf.1, zeO, zaT]) fun i hi => ?_
 have e : ((h.o.toNat : Nat) : Int) = h.o := by have := g.o0; omega
 rw [hf.2 i hi, e, hk i hi]
 unfold zeO
 rw [zbF hi]
theorem zfr (b : Bool) (h : Hp) (g : Hg h) : EvN 1100 93 [.dat (YD b h.o h.cs h.rs h.ns)] [] [] ([HO (zaF h)], [], []) := by
 refine zaw Go.Proofs.Tryd.f93 1099 (by kernel_rfl) (by kernel_rfl) fun kk hkk => ?_
 have hcl := g.clen
 have hrl := g.rlen
 have hnl := ze0 g
 have ho0 := g.o0
 have ho1 := g.o1
 have hlm : (List.map Cl.d h.cs).length = h.cs.length := by simp
 have hlc : (CD h.cs).length = h.cs.length := by simp
 have hlr : (ID h.rs).length = h.rs.length := by simp
 have hln : (ID h.ns).length = h.ns.length := by simp
 have hsrc : ∀ i, Src h i → 0 ≤ i ∧ i < (h.cs.length : Int) := by
  rintro i (hi | ⟨x, hx, hf, hi⟩)
  · exact g.rin i hi
  · obtain ⟨a, b⟩ := g.wf x (zdq g hx).1 (zdq g hx).2 hf
    rcases hi with rfl | rfl
    · exact a
    · exact b
 obtain ⟨ka, ⟨ma, ta⟩, la⟩ := zbi (kk := kk) (f := 93) (fn := Go.Proofs.Tryd.f93) (r := 3) (x := .exit 0) (fun i (ks : List Bool) => zm5 b h.o (CD h.cs) (ID h.rs) (ID h.ns) (BD ks) i)
  (fun ks => Nm [1, 2, 3] [.ptr (.loc 1) 0, .ptr (.loc 2) 0, .own 4 (BD ks)] [Yb b h.o (CD h.cs) (ID h.rs) (ID h.ns), some (Yo 0 [] [] []), none] [] [])
  (fun i ks => Mk h.cs (On h.o true) (Src h) (List.replicate h.cs.length false) ks ∧ ∀ x ∈ h.rs.take i, K ks x) h.rs.length (by omega) (List.replicate h.cs.length false) ⟨Mk.refl (by simp), fun x hx => by simp at hx⟩
  (fun i ks hi ⟨hm, ht⟩ => by
   obtain ⟨x, hx⟩ := zbq hi
   have hxm := List.mem_of_getElem? hx
   obtain ⟨k', e, m', t'⟩ := zeQ b h g true (Src h) hm.len (g.rin x hxm) (.inl hxm)
   refine ⟨k', ⟨hm.trans g.wf m', fun y hy => ?_⟩, fun m s K hs hn => ?_⟩
   · rw [List.take_add_one, hx] at hy
     rcases List.mem_append.1 hy with hy | hy
     · exact m'.mono y (g.rin y (List.mem_of_mem_take hy)).1 (ht y hy)
     · have : y = x := by simpa using hy
       rw [this]; exact t'
   · refine zkz kk m b h.o _ _ _ _ i (BD k') x hs (fun _ => ⟨zeL hx, e kk (by omega), fun s' hs' => hn s' ?_⟩) (fun d => absurd (of_decide_eq_false d) (by omega))
     rw [hs', wi i (by omega)]
     rfl)
  (fun ks _ m s K hs hK => zkz kk m b h.o _ _ _ _ _ [] 0 hs (fun d => absurd (of_decide_eq_true d) (by omega)) (fun _ => hK)) rfl
 obtain ⟨kb, ⟨mb, tb⟩, lb⟩ := zbi (kk := kk) (f := 93) (fn := Go.Proofs.Tryd.f93) (r := 8) (x := .exit 2) (fun i (ks : List Bool) => zl5 b h.o (CD h.cs) (ID h.rs) (ID h.ns) (BD ks) i)
  (fun ks => Nm [1, 2, 3] [.ptr (.loc 1) 0, .ptr (.loc 2) 0, .own 4 (BD ks)] [Yb b h.o (CD h.cs) (ID h.rs) (ID h.ns), some (Yo 0 [] [] []), none] [] [])
  (fun i ks => Mk h.cs (On h.o true) (Src h) ka ks ∧ ∀ x ∈ h.ns.take i, (cg h.cs x).l = false → K ks (cg h.cs x).a ∧ K ks (cg h.cs x).b) h.ns.length (by omega) ka ⟨Mk.refl ma.len, fun x hx => by simp at hx⟩
  (fun i ks hi ⟨hm, ht⟩ => by
   obtain ⟨x, hx⟩ := zbq hi
   have hxm := List.mem_of_getElem? hx
   obtain ⟨x0, x1⟩ := zdq g hxm
   have hc := zgf (c := h.cs) x0 x1
   cases hl : (cg h.cs x).l with
   | true =>
     refine ⟨ks, ⟨hm, fun y hy hyl => ?_⟩, fun m s K hs hn => ?_⟩
     · rw [List.take_add_one, hx] at hy
       rcases List.mem_append.1 hy with hy | hy
       · exact ht y hy hyl
       · have : y = x := by simpa using hy
         rw [this, hl] at hyl
         cases hyl
     · refine zg2 kk m b h.o _ _ _ _ i [] [] x (cg h.cs x) hs (fun _ d => by rw [hl] at d; cases d) (fun _ _ => ⟨zeL hx, hc, fun s' hs' => hn s' ?_⟩) (fun d => absurd (of_decide_eq_false d) (by omega))
       rw [hs', wi i (by omega)]
       rfl
   | false =>
     obtain ⟨pa, pb⟩ := g.wf x x0 x1 hl
     obtain ⟨k1, e1, m1, t1⟩ := zeQ b h g true (Src h) hm.len pa (.inr ⟨x, hxm, hl, .inl rfl⟩)
     obtain ⟨k2, e2, m2, t2⟩ := zeQ b h g true (Src h) m1.len pb (.inr ⟨x, hxm, hl, .inr rfl⟩)
     refine ⟨k2, ⟨(hm.trans g.wf m1).trans g.wf m2, fun y hy hyl => ?_⟩, fun m s K hs hn => ?_⟩
     · rw [List.take_add_one, hx] at hy
       rcases List.mem_append.1 hy with hy | hy
       · have hyn := zdq g (List.mem_of_mem_take hy)
         obtain ⟨qa, qb⟩ := g.wf y hyn.1 hyn.2 hyl
         have := ht y hy hyl
         exact ⟨m2.mono _ qa.1 (m1.mono _ qa.1 this.1), m2.mono _ qb.1 (m1.mono _ qb.1 this.2)⟩
       · have : y = x := by simpa using hy
         rw [this]
         exact ⟨m2.mono _ pa.1 t1, t2⟩
     · refine zg2 kk m b h.o _ _ _ _ i (BD k1) (BD k2) x (cg h.cs x) hs (fun _ _ => ⟨zeL hx, hc, e1 kk (by omega), e2 kk (by omega), fun s' hs' => hn s' ?_⟩) (fun _ d => by rw [hl] at d; cases d) (fun d => absurd (of_decide_eq_false d) (by omega))
       rw [hs', wi i (by omega)]
       rfl)
  (fun ks _ m s K hs hK => zg2 kk m b h.o _ _ _ _ _ [] [] 0 c0 hs (fun d => absurd (of_decide_eq_true d) (by omega)) (fun d => absurd (of_decide_eq_true d) (by omega)) (fun _ => hK)) rfl
 obtain ⟨kc, hfill, lc⟩ := zbi (kk := kk) (f := 93) (fn := Go.Proofs.Tryd.f93) (r := 16) (x := .exit 4) (fun i (ks : List Bool) => znt b h.o (CD h.cs) (ID h.rs) (ID h.ns) (BD ks) i)
  (fun ks => Nm [1, 2, 3] [.ptr (.loc 1) 0, .ptr (.loc 2) 0, .own 4 (BD ks)] [Yb b h.o (CD h.cs) (ID h.rs) (ID h.ns), some (Yo 0 [] [] []), none] [] [])
  (FillP h.cs.length kb) h.o.toNat (by omega) kb ⟨mb.len, fun j hj => ⟨.inl, fun h => h.elim id fun h => by simp at h; omega⟩⟩
  (fun i ks hi hP => by
   have hlen := hP.1
   have hb := zgE (ks := ks) (i := i) (by omega)
   refine ⟨_, hP.set (by omega), fun m s K hs hn => zkt kk m b h.o _ _ _ _ i (ks.getD i false) hs (fun _ => ⟨hb.1, hb.2, fun s' hs' => hn s' ?_⟩) (fun d => absurd (of_decide_eq_false d) (by omega))⟩
   rw [hs', wi i (by omega), Int.toNat_natCast, zhZ]
   rfl)
  (fun ks _ m s K hs hK => zkt kk m b h.o _ _ _ _ _ true hs (fun d => absurd (of_decide_eq_true d) (by omega)) (fun _ => hK)) rfl
 have M := ma.trans g.wf mb
 have hS : ∀ i, Src h i → 0 ≤ i ∧ i < (h.cs.length : Int) ∧ K kb i := fun i hi => by
  refine ⟨(hsrc i hi).1, (hsrc i hi).2, ?_⟩
  rcases hi with hi | ⟨x, hx, hf, hi⟩
  · exact mb.mono i (g.rin i hi).1 (ta i (by rw [List.take_length]; exact hi))
  · have := tb x (by rw [List.take_length]; exact hx) hf
    rcases hi with rfl | rfl
    · exact this.1
    · exact this.2
 have hon : ∀ i, On h.o true i ↔ ¬ i < h.o := fun i => ⟨fun f => f rfl, fun f _ => f⟩
 have hkc : kc = zeO h := zlF g (fun i hi => by
  constructor
  · rintro (hk | hlt)
    · have hr := (M.new i hi hk (zk9 _ _)).2
      exact ⟨by have := K_lt hi hk; have := mb.len; omega, .inr (Rch.on (fun j hj => (hon j).1 hj) hr)⟩
    · exact ⟨by omega, .inl hlt⟩
  · rintro ⟨_, hlt | hr⟩
    · exact .inr hlt
    · exact .inl (Rch.in_ g.wf hS (fun j h0 hj ho hle => (M.new j h0 hj (zk9 _ _)).1 ho hle) (Rch.on (fun j hj => (hon j).2 hj) hr)).2.2) hfill
 subst hkc
 exact zpV kk b h.o _ _ _ (BD ka) (BD kb) (BD (zeO h)) _ _ _ _ ⟨⟨by omega, by omega, by omega⟩, by rw [hlc, zkO]; exact la, lb, lc, zaz (zaF h), zkC b true h g (zeO h) (zaT _ _) (zdE g) (zdy g) kk (by omega), rfl⟩
def kid (c : List Cl) (x : Int) : List Int := match (cg c x).l with | true => [] | false => [(cg c x).a, (cg c x).b]
theorem zgZ (c : List Cl) : ∀ n : List Int, (n.flatMap (kid c)).length ≤ 2 * n.length
 | [] => by simp
 | x :: n => by
   have := zgZ c n
   have h2 : (kid c x).length ≤ 2 := by unfold kid; split <;> simp
   simp only [List.flatMap_cons, List.length_append, List.length_cons]
   omega
theorem ziM (b : Bool) (h : Hp) (g : Hg h) : EvN 1050100 59 [.dat (YD b h.o h.cs h.rs h.ns)] [] [] ([HO (zaF h)], [], []) := by
 refine zaw Go.Proofs.Tryd.f59 1050099 (by kernel_rfl) (by kernel_rfl) fun kk hkk => ?_
 have hcl := g.clen
 have hrl := g.rlen
 have hnl := ze0 g
 have ho0 := g.o0
 have ho1 := g.o1
 have hlc : (CD h.cs).length = h.cs.length := by simp
 have hlr : (ID h.rs).length = h.rs.length := by simp
 have hln : (ID h.ns).length = h.ns.length := by simp
 have la := za3 (kk := kk) (f := 59) (fn := Go.Proofs.Tryd.f59) (r := 3) (x := .exit 0) (s' := Nm [1, 2, 3] [.ptr (.loc 1) 0, .ptr (.loc 2) 0, .own 3 (ID (h.rs ++ h.ns.flatMap (kid h.cs)))] [Yb b h.o (CD h.cs) (ID h.rs) (ID h.ns), some (Yo 0 [] [] []), none] [] [])
  (fun i => zi3 b h.o (CD h.cs) (ID h.rs) (ID h.ns) (ID (h.rs ++ (h.ns.take i).flatMap (kid h.cs))) i) h.ns.length (by omega)
  (fun i hi m s K hs hn => by
   obtain ⟨x, hx⟩ := zbq hi
   have hxm := List.mem_of_getElem? hx
   obtain ⟨x0, x1⟩ := zdq g hxm
   have hc := zgf (c := h.cs) x0 x1
   have hkl := zgZ h.cs (h.ns.take i)
   rw [List.length_take] at hkl
   cases hl : (cg h.cs x).l with
   | true =>
     refine zhr kk m b h.o _ _ _ _ i x (cg h.cs x) hs (fun _ d => by rw [hl] at d; cases d) (fun _ _ => ⟨zeL hx, hc, fun s' hs' => hn s' ?_⟩) (fun d => absurd (of_decide_eq_false d) (by omega))
     have hk : kid h.cs x = [] := by unfold kid; rw [hl]
     rw [hs', wi i (by omega), List.take_add_one, hx]
     simp only [Option.toList_some, List.flatMap_append, List.flatMap_cons, List.flatMap_nil, hk, List.append_nil]
     rfl
   | false =>
     refine zhr kk m b h.o _ _ _ _ i x (cg h.cs x) hs (fun _ _ => ⟨zeL hx, hc, by simp only [List.length_map, List.length_append]; omega, fun s' hs' => hn s' ?_⟩) (fun _ d => by rw [hl] at d; cases d) (fun d => absurd (of_decide_eq_false d) (by omega))
     have hk : kid h.cs x = [(cg h.cs x).a, (cg h.cs x).b] := by unfold kid; rw [hl]
     rw [hs', wi i (by omega), List.take_add_one, hx]
     simp only [Option.toList_some, List.flatMap_append, List.flatMap_cons, List.flatMap_nil, hk, List.append_nil]
     simp [zi3, ID])
  (fun m s K hs hK => zhr kk m b h.o _ _ _ _ _ 0 c0 hs (fun d => absurd (of_decide_eq_true d) (by omega)) (fun d => absurd (of_decide_eq_true d) (by omega)) (fun _ => by rw [List.take_length]; exact hK))
  (s0 := zi3 b h.o (CD h.cs) (ID h.rs) (ID h.ns) (ID h.rs) 0) (by simp)
 have hfr : ∀ x ∈ h.rs ++ h.ns.flatMap (kid h.cs), 0 ≤ x ∧ x < (h.cs.length : Int) := fun x hx => by
  rcases List.mem_append.1 hx with hx | hx
  · exact g.rin x hx
  · obtain ⟨y, hy, hx⟩ := List.mem_flatMap.1 hx
    unfold kid at hx
    split at hx
    · simp at hx
    · rename_i hf
      obtain ⟨a, b⟩ := g.wf y (zdq g hy).1 (zdq g hy).2 hf
      simp only [List.mem_cons, List.not_mem_nil, or_false] at hx
      rcases hx with rfl | rfl
      · exact a
      · exact b
 have hfl := zgZ h.cs h.ns
 have hreach := zmC b false h.cs (h.rs ++ h.ns.flatMap (kid h.cs)) b h.o (CD h.cs) h.rs (ID h.ns) (by omega) g.wf hcl hfr (by simp only [List.length_append]; omega)
 have hka : ∀ i, 0 ≤ i → (K (zeN h.cs.length (Rch h.cs (fun i => h.o ≤ i ∨ i ∈ h.rs) (· ∈ h.rs ++ h.ns.flatMap (kid h.cs)))) i ↔ i < (h.cs.length : Int) ∧ Rch h.cs (fun i => h.o ≤ i ∨ i ∈ h.rs) (· ∈ h.rs ++ h.ns.flatMap (kid h.cs)) i) := fun i hi => zbF hi
 have hla := zaT h.cs.length (Rch h.cs (fun i => h.o ≤ i ∨ i ∈ h.rs) (· ∈ h.rs ++ h.ns.flatMap (kid h.cs)))
 generalize zeN h.cs.length (Rch h.cs (fun i => h.o ≤ i ∨ i ∈ h.rs) (· ∈ h.rs ++ h.ns.flatMap (kid h.cs))) = ka at hreach hka hla
 obtain ⟨kc, hfill, lc⟩ := zbi (kk := kk) (f := 59) (fn := Go.Proofs.Tryd.f59) (r := 11) (x := .exit 2) (fun i (ks : List Bool) => zl4 b h.o (CD h.cs) (ID h.rs) (ID h.ns) (BD ks) i)
  (fun ks => Nm [1, 2, 7] [.ptr (.loc 1) 0, .ptr (.loc 2) 0, .own 4 (BD ks)] [Yb b h.o (CD h.cs) (ID h.rs) (ID h.ns), some (Yo 0 [] [] []), none] [] [])
  (FillP h.cs.length ka) h.o.toNat (by omega) ka ⟨hla, fun j hj => ⟨.inl, fun h => h.elim id fun h => by simp at h; omega⟩⟩
  (fun i ks hi hP => by
   have hlen := hP.1
   have hb := zgE (ks := ks) (i := i) (by omega)
   refine ⟨_, hP.set (by omega), fun m s K hs hn => zj2 kk m b h.o _ _ _ _ i (ks.getD i false) hs (fun _ => ⟨hb.1, hb.2, fun s' hs' => hn s' ?_⟩) (fun d => absurd (of_decide_eq_false d) (by omega))⟩
   rw [hs', wi i (by omega), Int.toNat_natCast, zhZ]
   rfl)
  (fun ks _ m s K hs hK => zj2 kk m b h.o _ _ _ _ _ true hs (fun d => absurd (of_decide_eq_true d) (by omega)) (fun _ => hK)) rfl
 have hsrc : ∀ i, i ∈ h.rs ++ h.ns.flatMap (kid h.cs) ↔ Src h i := fun i => by
  unfold Src
  rw [List.mem_append, List.mem_flatMap]
  refine or_congr Iff.rfl ⟨?_, ?_⟩
  · rintro ⟨x, hx, h⟩
    unfold kid at h
    split at h
    · simp at h
    · rename_i hf
      exact ⟨x, hx, hf, by simpa using h⟩
  · rintro ⟨x, hx, hf, h⟩
    refine ⟨x, hx, ?_⟩
    unfold kid
    rw [hf]
    simpa using h
 have hto : ∀ i, Rch h.cs (fun i => ¬ i < h.o) (Src h) i → Rch h.cs (fun i => h.o ≤ i ∨ i ∈ h.rs) (· ∈ h.rs ++ h.ns.flatMap (kid h.cs)) i := fun i hr =>
  Rch.mono (fun j hj => .src ((hsrc j).2 hj)) (Rch.on (fun j hj => .inl (by omega)) hr)
 have hof : ∀ i, Rch h.cs (fun i => h.o ≤ i ∨ i ∈ h.rs) (· ∈ h.rs ++ h.ns.flatMap (kid h.cs)) i → (0 ≤ i ∧ i < (h.cs.length : Int)) ∧ (i < h.o ∨ Rch h.cs (fun i => ¬ i < h.o) (Src h) i) := fun i hr => by
  induction hr with
  | src hs => exact ⟨hfr _ hs, .inr (.src ((hsrc _).1 hs))⟩
  | @a j _ hp hf ih =>
    refine ⟨(g.wf j ih.1.1 ih.1.2 hf).1, ?_⟩
    have hat := ziQ ih.1.1 ih.1.2
    by_cases hj : j < h.o
    · by_cases hk : (cg h.cs j).a < h.o
      · exact .inl hk
      · have := g.old j.toNat _ hat (by omega) hf (.inl (by omega))
        exact .inr (.src (.inr ⟨j, by rwa [show ((j.toNat : Nat) : Int) = j by omega] at this, hf, .inl rfl⟩))
    · rcases ih.2 with h | h
      · exact absurd h hj
      · exact .inr (.a h hj hf)
  | @b j _ hp hf ih =>
    refine ⟨(g.wf j ih.1.1 ih.1.2 hf).2, ?_⟩
    have hat := ziQ ih.1.1 ih.1.2
    by_cases hj : j < h.o
    · by_cases hk : (cg h.cs j).b < h.o
      · exact .inl hk
      · have := g.old j.toNat _ hat (by omega) hf (.inr (by omega))
        exact .inr (.src (.inr ⟨j, by rwa [show ((j.toNat : Nat) : Int) = j by omega] at this, hf, .inr rfl⟩))
    · rcases ih.2 with h | h
      · exact absurd h hj
      · exact .inr (.b h hj hf)
 have hkc : kc = zeO h := zlF g (fun i hi => by
  rw [hka i hi]
  constructor
  · rintro (⟨h1, hr⟩ | hlt)
    · exact ⟨h1, (hof i hr).2⟩
    · exact ⟨by omega, .inl hlt⟩
  · rintro ⟨h1, hlt | hr⟩
    · exact .inr hlt
    · exact .inl ⟨h1, hto i hr⟩) hfill
 subst hkc
 exact zqG kk b h.o _ _ _ (ID h.rs) (ID (h.rs ++ h.ns.flatMap (kid h.cs))) (BD ka) (BD (zeO h)) _ _ _ _ ⟨zdP b h.rs (by omega) kk (by omega), la, hreach kk (by omega), lc, zaz (zaF h), zkw b true h g (zeO h) (zaT _ _) (zdE g) (zdy g) kk (by omega), rfl⟩
end Go.Den
namespace Go.Den
open Go
set_option linter.unusedVariables false
set_option maxRecDepth 100000
open Go.Proofs.YtcmcfebihbmmeaaDoor (num numV)
theorem zhq {α : Type} (f : α → Dat) (n : Nat) (hf : ∀ x, (f x).cells.length = n) : ∀ l : List α, (l.map f).all (fun d => Nat.beq d.cells.length n) = true
 | [] => rfl
 | x :: l => by rw [List.map_cons, List.all_cons, hf x, zhq f n hf l, Bool.and_true]; exact beq_eq.2 rfl
theorem zql (cs : List Cl) : (CD cs).all (fun d => Nat.beq d.cells.length 4) = true := zhq _ 4 (fun _ => rfl) cs
theorem zlE (zs : List Int) : (ID zs).all (fun d => Nat.beq d.cells.length 1) = true := zhq _ 1 (fun _ => rfl) zs
theorem set_cd {h : Hp} {at_ to : Int} : (CD h.cs).set at_.toNat (Dat.agg [B (cg h.cs at_).l, I (cg h.cs at_).n, I (cg h.cs at_).a, I to]) = CD (setH h at_ true to).cs ∧ (CD h.cs).set at_.toNat (Dat.agg [B (cg h.cs at_).l, I (cg h.cs at_).n, I to, I (cg h.cs at_).b]) = CD (setH h at_ false to).cs := by
 refine ⟨?_, ?_⟩ <;> simp [setH, setC, CD, List.map_set]
def zcV (put : Bool) (at_ : Int) (l : List Int) : List Int := match put with | true => insL at_ l | false => l
theorem zkn (b : Bool) (h : Hp) (g : Hg h) (at_ : Int) (second : Bool) (to : Int) (ha : 0 ≤ at_ ∧ at_ < (h.cs.length : Int)) : EvN 1048700 58 [.dat (YD b h.o h.cs h.rs h.ns), .dat (I at_), .dat (B second), .dat (I to)] [] [] ([HO (setH h at_ second to)], [], []) := by
 refine zaw Go.Proofs.Tryd.f58 1048699 (by kernel_rfl) (by kernel_rfl) fun kk hkk => ?_
 have hcl := g.clen
 have hrl := g.rlen
 have hnl := ze0 g
 have hlc : (CD h.cs).length = h.cs.length := by simp
 have hlr : (ID h.rs).length = h.rs.length := by simp
 have hln : (ID h.ns).length = h.ns.length := by simp
 have hc := zgf (c := h.cs) ha.1 ha.2
 have h71 := znA b h.ns at_ (by omega) kk (by omega)
 obtain ⟨⟨out, put⟩, ⟨hP, hlen⟩, hloop⟩ := zbi (kk := kk) (f := 58) (fn := Go.Proofs.Tryd.f58) (r := 8) (x := .exit 0) (fun i (q : List Int × Bool) => hd58 b h.o (CD (setH h at_ second to).cs) (ID h.rs) (ID h.ns) at_ (ID q.1) q.2 i)
  (fun q => Nm [1, 4, 8, 9, 10] [.dat (I at_), .ptr (.loc 4) 0, .ptr (.loc 8) 0, .own 3 (ID q.1), .dat (B q.2)] [none, some [.dat (I h.o), .own 97 (CD (setH h at_ second to).cs), .dat (.lst b (ID h.rs)), .dat (.lst b (ID h.ns))], some (Yo 0 [] [] []), none, none] [] [])
  (fun i q => q.1 ++ zcV q.2 at_ (h.ns.drop i) = zcV (putN h at_ to) at_ h.ns ∧ q.1.length + q.2.toNat ≤ i + 1) h.ns.length (by omega) ([], putN h at_ to) ⟨by simp, by simp; cases putN h at_ to <;> decide⟩
  (fun i ⟨out, put⟩ hi ⟨hP, hlen⟩ => by
   simp only at hP hlen ⊢
   obtain ⟨x, hx⟩ := zbq hi
   have hdrop : h.ns.drop i = x :: h.ns.drop (i + 1) := by
    rw [List.drop_eq_getElem_cons hi]
    congr 1
    rw [List.getElem?_eq_getElem hi] at hx
    exact Option.some.inj hx
   rw [hdrop] at hP
   cases put with
   | true =>
     simp only [Bool.toNat_true] at hlen
     by_cases hlt : at_ < x
     · refine ⟨(out ++ [at_] ++ [x], false), ⟨?_, by simp; omega⟩, fun m s K hs hn => zg5 kk m b h.o _ _ _ at_ _ true i x hs (fun _ _ _ => ⟨zeL hx, by simp; omega, by simp; omega, fun s' hs' => hn s' ?_⟩) (fun _ _ d => absurd hlt (of_decide_eq_false d)) (fun _ d => by cases d) (fun d => absurd (of_decide_eq_false d) (by omega))⟩
       · rw [← hP]
         simp [zcV, insL, hlt]
       · rw [hs', wi i (by omega)]
         simp [hd58, ID]
     · refine ⟨(out ++ [x], true), ⟨?_, by simp; omega⟩, fun m s K hs hn => zg5 kk m b h.o _ _ _ at_ _ true i x hs (fun _ _ d => absurd (of_decide_eq_true d) hlt) (fun _ _ _ => ⟨zeL hx, by simp; omega, fun s' hs' => hn s' ?_⟩) (fun _ d => by cases d) (fun d => absurd (of_decide_eq_false d) (by omega))⟩
       · rw [← hP]
         simp [zcV, insL, hlt]
       · rw [hs', wi i (by omega)]
         simp [hd58, ID]
   | false =>
     simp only [Bool.toNat_false] at hlen
     refine ⟨(out ++ [x], false), ⟨?_, by simp; omega⟩, fun m s K hs hn => zg5 kk m b h.o _ _ _ at_ _ false i x hs (fun _ d => by cases d) (fun _ d => by cases d) (fun _ _ => ⟨zeL hx, by simp; omega, fun s' hs' => hn s' ?_⟩) (fun d => absurd (of_decide_eq_false d) (by omega))⟩
     · rw [← hP]
       simp [zcV]
     · rw [hs', wi i (by omega)]
       simp [hd58, ID])
  (fun ⟨out, put⟩ _ m s K hs hK => zg5 kk m b h.o _ _ _ at_ _ put _ 0 hs (fun d => absurd (of_decide_eq_true d) (by omega)) (fun d => absurd (of_decide_eq_true d) (by omega)) (fun d => absurd (of_decide_eq_true d) (by omega)) (fun _ => hK)) rfl
 simp only at hP hlen hloop
 rw [List.drop_length] at hP
 have hns : (setH h at_ second to).ns = zcV (putN h at_ to) at_ h.ns := rfl
 have hft : put = true → ID out ++ [I at_] = ID (setH h at_ second to).ns := fun e => by
  rw [hns, ← hP, e]
  simp [zcV, insL, ID]
 have hff : put = false → ID out = ID (setH h at_ second to).ns := fun e => by
  rw [hns, ← hP, e]
  simp [zcV]
 have hst : second = true → ([] ++ CD h.cs).set at_.toNat (Dat.agg [B (cg h.cs at_).l, I (cg h.cs at_).n, I (cg h.cs at_).a, I to]) = CD (setH h at_ second to).cs := fun e => by rw [e]; exact set_cd.1
 have hsf : second = false → ([] ++ CD h.cs).set at_.toNat (Dat.agg [B (cg h.cs at_).l, I (cg h.cs at_).n, I to, I (cg h.cs at_).b]) = CD (setH h at_ second to).cs := fun e => by rw [e]; exact set_cd.2
 have hp1 : decide (at_ < h.o) = true → decide (h.o ≤ to) = true → putN h at_ to = !hasB h.ns at_ := fun d1 d2 => by unfold putN; rw [d1, d2]; rfl
 have hp2 : decide (at_ < h.o) = true → decide (h.o ≤ to) = false → putN h at_ to = false := fun d1 d2 => by unfold putN; rw [d1, d2]; rfl
 have hp3 : decide (at_ < h.o) = false → putN h at_ to = false := fun d1 => by unfold putN; rw [d1]; rfl
 have oA : ((CD h.cs).all fun d => Nat.beq d.cells.length 4) = true ∧ 0 + (CD h.cs).length ≤ 2147483648 := ⟨zql _, by omega⟩
 have oR : ((ID h.rs).all fun d => Nat.beq d.cells.length 1) = true ∧ 0 + (ID h.rs).length ≤ 2147483648 := ⟨zlE _, by omega⟩
 have oL : (ID out).length + 1 ≤ 2147483648 := by simp; omega
 exact lhSet kk b h.o _ _ _ at_ second to (CD (setH h at_ second to).cs) (putN h at_ to) (ID out) put (cg h.cs at_) (cg h.cs at_) (hasB h.ns at_)
  (fun d1 d2 d3 d4 => ⟨oA, hc.1, hc.2, h71, by rw [hst d1, hp1 d2 d3]; rfl, hloop, oL, oR, by rw [hft d4]; rfl⟩)
  (fun d1 d2 d3 d4 => ⟨oA, hc.1, hc.2, h71, by rw [hst d1, hp1 d2 d3]; rfl, hloop, oR, by rw [hff d4]; rfl⟩)
  (fun d1 d2 d3 d4 => ⟨oA, hc.1, hc.2, by rw [hst d1, hp2 d2 d3]; rfl, hloop, oL, oR, by rw [hft d4]; rfl⟩)
  (fun d1 d2 d3 d4 => ⟨oA, hc.1, hc.2, by rw [hst d1, hp2 d2 d3]; rfl, hloop, oR, by rw [hff d4]; rfl⟩)
  (fun d1 d2 d4 => ⟨oA, hc.1, hc.2, by rw [hst d1, hp3 d2]; rfl, hloop, oL, oR, by rw [hft d4]; rfl⟩)
  (fun d1 d2 d4 => ⟨oA, hc.1, hc.2, by rw [hst d1, hp3 d2]; rfl, hloop, oR, by rw [hff d4]; rfl⟩)
  (fun d1 d2 d3 d4 => ⟨oA, hc.1, hc.2, h71, by rw [hsf d1, hp1 d2 d3]; rfl, hloop, oL, oR, by rw [hft d4]; rfl⟩)
  (fun d1 d2 d3 d4 => ⟨oA, hc.1, hc.2, h71, by rw [hsf d1, hp1 d2 d3]; rfl, hloop, oR, by rw [hff d4]; rfl⟩)
  (fun d1 d2 d3 d4 => ⟨oA, hc.1, hc.2, by rw [hsf d1, hp2 d2 d3]; rfl, hloop, oL, oR, by rw [hft d4]; rfl⟩)
  (fun d1 d2 d3 d4 => ⟨oA, hc.1, hc.2, by rw [hsf d1, hp2 d2 d3]; rfl, hloop, oR, by rw [hff d4]; rfl⟩)
  (fun d1 d2 d4 => ⟨oA, hc.1, hc.2, by rw [hsf d1, hp3 d2]; rfl, hloop, oL, oR, by rw [hft d4]; rfl⟩)
  (fun d1 d2 d4 => ⟨oA, hc.1, hc.2, by rw [hsf d1, hp3 d2]; rfl, hloop, oR, by rw [hff d4]; rfl⟩)
theorem zhu : ∀ zs : List Int, zeK (ID zs) = some zs
 | [] => rfl
 | z :: zs => by
   show (zeK (ID zs)).map (z :: ·) = some (z :: zs)
   rw [zhu zs]; rfl
theorem up_b : ∀ {l : List Int}, l.Pairwise (· < ·) → upB l = true
 | [], _ => rfl
 | [_], _ => rfl
 | a :: b :: l, h => by
   have h1 := List.pairwise_cons.1 h
   have h2 := h1.1 b (by simp)
   unfold upB
   rw [up_b h1.2, Bool.and_true]
   simp; omega
theorem ev_bs (b : Bool) (ns : List Int) (x : Int) (hu : ns.Pairwise (· < ·)) (hl : ns.length ≤ 1000000) : EvN 1 83 [.dat (.lst b (ID ns)), .dat (I x)] [] [] ([.dat (I ((ns.countP (· < x) : Nat) : Int)), .dat (B (ns.contains x))], [], []) := by
 refine zgH (g := znq) (by kernel_rfl) ?_
 have hl' : Nat.ble ns.length 1000000 = true := by simpa using hl
 unfold znq
 simp only [zhu, Option.bind_some, up_b hu, hl', Bool.and_self]
 rfl
theorem zqh (ns : List Int) (k : Nat) (x : Int) (hk : k ≤ ns.length) (hl : ns.length ≤ 1000000) : EvN 1 84 [.own 3 (ID ns), .dat (I (k : Int)), .own 3 [I x]] [] [] ([.own 3 (ID (insZ ns k x))], [], []) := by
 refine zgH (g := zib 3) (by kernel_rfl) ?_
 have h1 : (Nat.beq 3 3 && Nat.beq 3 3) = true := rfl
 have h2 : (decide (0 ≤ (k : Int)) && decide ((k : Int) ≤ ((ID ns).length : Int))) = true := by simp; omega
 have h3 : Nat.ble (ID ns).length 1000000 = true := by simpa using hl
 unfold zib
 simp only [h1, h2, h3, Bool.and_self, zhu, Option.map_some, Int.toNat_natCast]
 rfl
theorem zqp (zs : List Int) (i : Int) (h0 : 0 ≤ i) (h1 : i < (zs.length : Int)) (hl : zs.length ≤ 1000000) : EvN 1 109 [.own 3 (ID zs), .dat (I i), .dat (I (i + 1))] [] [] ([.own 3 (ID (zs.take i.toNat ++ zs.drop (i.toNat + 1)))], [], []) := by
 refine zgH (g := zhM 3) (by kernel_rfl) ?_
 have h2 : (decide (0 ≤ i) && decide (i ≤ i + 1) && decide (i + 1 ≤ ((ID zs).length : Int))) = true := by simp; omega
 have h3 : Nat.ble (ID zs).length 1000000 = true := by simpa using hl
 have h4 : Nat.beq 3 3 = true := rfl
 have h5 : (i + 1).toNat = i.toNat + 1 := by omega
 unfold zhM
 simp only [h2, h3, h4, Bool.and_self, zhu, Option.map_some, h5]
 rfl
abbrev WrD (w : Ws) (room nur : Int) : List D := Wr w.h.o (CD w.h.cs) (ID w.h.rs) (ID w.h.ns) (zai w.out) room nur w.full
abbrev LsD (w : Ws) (room nur : Int) (fr : Bool) : List D := Ls w.h.o (CD w.h.cs) (ID w.h.rs) (ID w.h.ns) room nur fr w.full w.out
theorem zmG (h : Hp) (g : Hg h) (bs : List Dat) (room nur : Int) (full : Bool) (at_ : Int) (second : Bool) (to : Int) (ha : 0 ≤ at_ ∧ at_ < (h.cs.length : Int)) :
 EvN 10 57 [.ptr (.up 0) 0, .dat (I at_), .dat (B second), .dat (I to)] [Wr h.o (CD h.cs) (ID h.rs) (ID h.ns) bs room nur full] [] ([], [Wr (setH h at_ second to).o (CD (setH h at_ second to).cs) (ID (setH h at_ second to).rs) (ID (setH h at_ second to).ns) bs room nur full], []) := by
 refine zaw Go.Proofs.Tryd.f57 9 (by kernel_rfl) (by kernel_rfl) fun kk hkk => ?_
 have hnl := ze0 g
 have hc := zgf (c := h.cs) ha.1 ha.2
 have hcont : h.ns.contains at_ = hasB h.ns at_ := by
  rw [Bool.eq_iff_iff, zfO]; simp
 have h83 := ev_bs true h.ns at_ g.nup (by omega) kk (by omega)
 rw [hcont] at h83
 have h84 := zqh h.ns (h.ns.countP (· < at_)) at_ List.countP_le_length (by omega) kk (by omega)
 have hins : hasB h.ns at_ = false → insZ h.ns (h.ns.countP (· < at_)) at_ = insL at_ h.ns := fun e => zjT g.nup fun hm => by rw [(zfO _ _).2 hm] at e; cases e
 have hp1 : decide (at_ < h.o) = true → decide (h.o ≤ to) = true → (!hasB h.ns at_) = true → (setH h at_ second to).ns = insZ h.ns (h.ns.countP (· < at_)) at_ := fun d1 d2 d3 => by
  have : putN h at_ to = true := by unfold putN; rw [d1, d2, d3]; rfl
  rw [hins (by simpa using d3)]
  show (match putN h at_ to with | true => insL at_ h.ns | false => h.ns) = _
  rw [this]
 have hp2 : putN h at_ to = false → (setH h at_ second to).ns = h.ns := fun d => by
  show (match putN h at_ to with | true => insL at_ h.ns | false => h.ns) = _
  rw [d]
 have hq1 : (!hasB h.ns at_) = false → putN h at_ to = false := fun d => by unfold putN; rw [d, Bool.and_false]
 have hq2 : decide (h.o ≤ to) = false → putN h at_ to = false := fun d => by unfold putN; rw [d, Bool.and_false, Bool.false_and]
 have hq3 : decide (at_ < h.o) = false → putN h at_ to = false := fun d => by unfold putN; rw [d, Bool.false_and, Bool.false_and]
 have hst : second = true → (CD h.cs).set at_.toNat (Dat.agg [B (cg h.cs at_).l, I (cg h.cs at_).n, I (cg h.cs at_).a, I to]) = CD (setH h at_ second to).cs := fun e => by rw [e]; exact set_cd.1
 have hsf : second = false → (CD h.cs).set at_.toNat (Dat.agg [B (cg h.cs at_).l, I (cg h.cs at_).n, I to, I (cg h.cs at_).b]) = CD (setH h at_ second to).cs := fun e => by rw [e]; exact set_cd.2
 exact setW kk h.o _ _ _ bs room nur full at_ second to (cg h.cs at_) (cg h.cs at_) _ (hasB h.ns at_) _
  (fun d1 d2 d3 d4 => ⟨hc.1, hc.2, h83, h84, by rw [hst d1, ← hp1 d2 d3 d4]; rfl⟩)
  (fun d1 d2 d3 d4 => ⟨hc.1, hc.2, h83, by rw [hst d1, hp2 (hq1 d4)]; rfl⟩)
  (fun d1 d2 d3 => ⟨hc.1, hc.2, h83, by rw [hst d1, hp2 (hq2 d3)]; rfl⟩)
  (fun d1 d2 => ⟨hc.1, hc.2, h83, by rw [hst d1, hp2 (hq3 d2)]; rfl⟩)
  (fun d1 d2 d3 d4 => ⟨hc.1, hc.2, h83, h84, by rw [hsf d1, ← hp1 d2 d3 d4]; rfl⟩)
  (fun d1 d2 d3 d4 => ⟨hc.1, hc.2, h83, by rw [hsf d1, hp2 (hq1 d4)]; rfl⟩)
  (fun d1 d2 d3 => ⟨hc.1, hc.2, h83, by rw [hsf d1, hp2 (hq2 d3)]; rfl⟩)
  (fun d1 d2 => ⟨hc.1, hc.2, h83, by rw [hsf d1, hp2 (hq3 d2)]; rfl⟩)
theorem zjU {room nur : Int} {h : Hp} : (decide (nur ≤ (h.cs.length : Int) - h.o) = true → decide (room ≤ ((zaF h).cs.length : Int)) = true → zbb false room nur h = zb5 (zaF h)) ∧ (decide (nur ≤ (h.cs.length : Int) - h.o) = true → decide (room ≤ ((zaF h).cs.length : Int)) = false → zbb false room nur h = zaF h) ∧
 (decide (nur ≤ (h.cs.length : Int) - h.o) = false → decide (room ≤ (h.cs.length : Int)) = true → zbb false room nur h = zb5 h) ∧ (decide (nur ≤ (h.cs.length : Int) - h.o) = false → decide (room ≤ (h.cs.length : Int)) = false → zbb false room nur h = h) := by
 refine ⟨fun d1 d2 => ?_, fun d1 d2 => ?_, fun d1 d2 => ?_, fun d1 d2 => ?_⟩ <;> (unfold zbb; simp only [d1, d2])
theorem zo8 (fr : Bool) (room nur : Int) (h : Hp) (g : Hg h) (out : ByteArray) : EvN 1200 121 [.ptr (.up 0) 0] [Ls h.o (CD h.cs) (ID h.rs) (ID h.ns) room nur fr false out] []
 ([], [Ls (zbb fr room nur h).o (CD (zbb fr room nur h).cs) (ID (zbb fr room nur h).rs) (ID (zbb fr room nur h).ns) room nur fr (zb8 fr room (zbb fr room nur h)) out], []) := by
 refine zaw Go.Proofs.Tryd.f121 1199 (by kernel_rfl) (by kernel_rfl) fun kk hkk => ?_
 have hcl := g.clen
 have ho0 := g.o0
 have ho1 := g.o1
 cases fr with
 | true => exact tidy kk h.o _ _ _ room nur true false out 0 [] [] [] 0 [] [] [] (fun d => by cases d) (fun d => by cases d) (fun d => by cases d) (fun d => by cases d) (fun _ => rfl)
 | false =>
   have hlc : ((CD h.cs).length : Int) = (h.cs.length : Int) := by simp
   have hw : w64 (((CD h.cs).length : Int) - h.o) = (h.cs.length : Int) - h.o := by rw [hlc, zbm (by omega)]
   have hly : ((CD (zaF h).cs).length : Int) = ((zaF h).cs.length : Int) := by simp
   obtain ⟨t1, t2, t3, t4⟩ := zjU (room := room) (nur := nur) (h := h)
   have h93 := zfr true h g kk (by omega)
   have hfw : ∀ x : Hp, zb8 false room x = decide (room ≤ ((CD x.cs).length : Int)) := fun x => by simp [zb8]
   by_cases hy : decide (nur ≤ (h.cs.length : Int) - h.o) = true
   · have h92 := ze6 true (zaF h) (zbJ g) kk (by omega)
     exact tidy kk h.o _ _ _ room nur false false out (zaF h).o _ _ _ (zb5 (zaF h)).o _ _ _ (fun _ _ d => ⟨zaz _, h93, zaz _, h92, by rw [t1 hy (by rw [← hly]; exact d), hfw]⟩) (fun _ _ d => ⟨zaz _, h93, by rw [t2 hy (by rw [← hly]; exact d), hfw]⟩) (fun _ d => by rw [hw, hy] at d; cases d) (fun _ d => by rw [hw, hy] at d; cases d) (fun d => by cases d)
   · have hy : decide (nur ≤ (h.cs.length : Int) - h.o) = false := by simpa using hy
     have h92 := ze6 true h g kk (by omega)
     exact tidy kk h.o _ _ _ room nur false false out 0 [] [] [] (zb5 h).o _ _ _ (fun _ d => by rw [hw, hy] at d; cases d) (fun _ d => by rw [hw, hy] at d; cases d) (fun _ _ d => ⟨zaz _, h92, by rw [t3 hy (by rw [← hlc]; exact d), hfw]⟩) (fun _ _ d => by rw [t4 hy (by rw [← hlc]; exact d), hfw]) (fun d => by cases d)
theorem zfy (fr : Bool) (room nur : Int) (hfr : fr = decide (room < 0)) (h : Hp) (g : Hg h) (bs : List Dat) (hr : h.rs.length < 60) : EvN 1050200 94 [.ptr (.up 0) 0] [Wr h.o (CD h.cs) (ID h.rs) (ID h.ns) bs room nur false] []
 ([.dat (B (!zb8 fr room (zbb fr room nur h)))], [Wr (zbb fr room nur h).o (CD (zbb fr room nur h).cs) (ID (zbb fr room nur h).rs) (ID (zbb fr room nur h).ns) bs room nur (zb8 fr room (zbb fr room nur h))], []) := by
 refine zaw Go.Proofs.Tryd.f94 1050199 (by kernel_rfl) (by kernel_rfl) fun kk hkk => ?_
 have hcl := g.clen
 have ho0 := g.o0
 have ho1 := g.o1
 have hlr : ((ID h.rs).length : Int) = (h.rs.length : Int) := by simp
 have n60 : ∀ {p : Prop}, decide (60 ≤ ((ID h.rs).length : Int)) = true → p := fun d => by
  have := of_decide_eq_true d
  rw [hlr] at this
  omega
 cases fr with
 | true => exact ze1 kk h.o _ _ _ bs room nur false 0 [] [] [] 0 [] [] [] n60 (fun _ _ => rfl) (fun _ d => by rw [← hfr] at d; cases d) (fun _ d => by rw [← hfr] at d; cases d) (fun _ d => by rw [← hfr] at d; cases d) (fun _ d => by rw [← hfr] at d; cases d)
 | false =>
   have hlc : ((CD h.cs).length : Int) = (h.cs.length : Int) := by simp
   have hw : w64 (((CD h.cs).length : Int) - h.o) = (h.cs.length : Int) - h.o := by rw [hlc, zbm (by omega)]
   have hly : ((CD (zaF h).cs).length : Int) = ((zaF h).cs.length : Int) := by simp
   obtain ⟨t1, t2, t3, t4⟩ := zjU (room := room) (nur := nur) (h := h)
   have h59 := ziM true h g kk (by omega)
   have hfw : ∀ x : Hp, zb8 false room x = decide (room ≤ ((CD x.cs).length : Int)) := fun x => by simp [zb8]
   by_cases hy : decide (nur ≤ (h.cs.length : Int) - h.o) = true
   · have h60 := zg3 true (zaF h) (zbJ g) kk (by omega)
     exact ze1 kk h.o _ _ _ bs room nur false (zaF h).o _ _ _ (zb5 (zaF h)).o _ _ _ n60 (fun _ d => by rw [← hfr] at d; cases d) (fun _ _ _ d => ⟨zaz _, h59, zaz _, h60, by rw [t1 hy (by rw [← hly]; exact d), hfw]⟩) (fun _ _ _ d => ⟨zaz _, h59, by rw [t2 hy (by rw [← hly]; exact d), hfw]⟩) (fun _ _ d => by rw [hw, hy] at d; cases d) (fun _ _ d => by rw [hw, hy] at d; cases d)
   · have hy : decide (nur ≤ (h.cs.length : Int) - h.o) = false := by simpa using hy
     have h60 := zg3 true h g kk (by omega)
     exact ze1 kk h.o _ _ _ bs room nur false 0 [] [] [] (zb5 h).o _ _ _ n60 (fun _ d => by rw [← hfr] at d; cases d) (fun _ _ d => by rw [hw, hy] at d; cases d) (fun _ _ d => by rw [hw, hy] at d; cases d) (fun _ _ _ d => ⟨zaz _, h60, by rw [t3 hy (by rw [← hlc]; exact d), hfw]⟩) (fun _ _ _ d => by rw [t4 hy (by rw [← hlc]; exact d), hfw])
theorem zdf (room nur : Int) (h : Hp) (bs : List Dat) (full : Bool) (hr : 60 ≤ h.rs.length) : EvN 1 94 [.ptr (.up 0) 0] [Wr h.o (CD h.cs) (ID h.rs) (ID h.ns) bs room nur full] [] ([.dat (B false)], [Wr h.o (CD h.cs) (ID h.rs) (ID h.ns) bs room nur full], []) := by
 refine zaw Go.Proofs.Tryd.f94 0 (by kernel_rfl) (by kernel_rfl) fun kk hkk => ?_
 have n60 : ∀ {p : Prop}, decide (60 ≤ ((ID h.rs).length : Int)) = false → p := fun d => by
  have := of_decide_eq_false d
  simp at this
  omega
 exact ze1 kk h.o _ _ _ bs room nur full 0 [] [] [] 0 [] [] [] (fun _ => rfl) (fun d => n60 d) (fun d => n60 d) (fun d => n60 d) (fun d => n60 d) (fun d => n60 d)
end Go.Den
namespace Go.Den
open Go
set_option linter.unusedVariables false
set_option maxRecDepth 100000
open Go.Proofs.YtcmcfebihbmmeaaDoor (num numV)
theorem zfN {h : Hp} (g : Hg h) {a : Int} (ha : zac a h.rs.length = true) : (0 ≤ a ∧ a < ((ID h.rs).length : Int)) ∧ (ID h.rs)[a.toNat]? = some (I (rg h a)) ∧ (0 ≤ rg h a ∧ rg h a < ((CD h.cs).length : Int)) ∧ (CD h.cs)[(rg h a).toNat]? = some (cg h.cs (rg h a)).d := by
 obtain ⟨h1, h2⟩ := zmE ha
 have h3 := zcW g ha
 obtain ⟨h4, h5⟩ := zgf (c := h.cs) h3.1 h3.2
 exact ⟨by simpa using h1, gm (f := (I ·)) h2, h4, h5⟩
theorem in39 {h : Hp} (g : Hg h) (a : Int) : EvN 1 39 [.dat (I a), .dat (I 0), .dat (I (w64 (((ID h.rs).length : Int) - 1)))] [] [] ([.dat (B (zac a h.rs.length))], [], []) := by
 have hrl := g.rlen
 have := zja a 0 ((h.rs.length : Int) - 1)
 rw [znF] at this
 rw [show w64 (((ID h.rs).length : Int) - 1) = (h.rs.length : Int) - 1 by rw [List.length_map, zbm (by omega)]]
 exact this
theorem zmL (cs : List Cl) (c : Cl) : CD cs ++ [c.d] = CD (cs ++ [c]) := by simp [CD]
theorem zfG (zs : List Int) (z : Int) : ID zs ++ [I z] = ID (zs ++ [z]) := by simp [ID]
theorem zmf {cs : List Cl} {c : Cl} (h : cs.length ≤ 1000) : w64 (((CD cs ++ [c.d]).length : Int) - 1) = (cs.length : Int) := by
 rw [List.length_append, List.length_map, zbm (by simp; omega)]; simp
theorem znc (fr : Bool) (room nur : Int) (k a b : Int) (w : Ws) (g : Hg w.h) (hf : w.full = false) (hk2 : k = 2 → zac a w.h.rs.length = true ∧ zac b w.h.rs.length = true) :
 EvN 1210 91 [.ptr (.up 0) 0, .dat (N3 k a b)] [LsD w room nur fr] [] ([], [LsD (putO fr room nur (decide (k = 2)) a b w) room nur fr], []) := by
 refine zaw Go.Proofs.Tryd.f91 1209 (by kernel_rfl) (by kernel_rfl) fun kk hkk => ?_
 have h121 := zo8 fr room nur w.h g w.out kk (by omega)
 have gt := zd4 (fr := fr) (room := room) (nur := nur) g
 have hrs := zc1 (fr := fr) (room := room) (nur := nur) (h := w.h)
 rw [← hf] at h121
 unfold putO
 generalize zbb fr room nur w.h = t at *
 have hcl := gt.clen
 have hrl := gt.rlen
 have lc : (CD t.cs).length + 1 ≤ 2147483648 := by simp; omega
 have lr : (ID t.rs).length + 1 ≤ 2147483648 := by simp; omega
 refine putL kk w.h.o _ _ _ room nur fr w.full w.out k a b t.o _ _ _ (zb8 fr room t) (rg t a) (rg t b) (fun d => ⟨h121, by rw [d]⟩) (fun d d2 => ?_) (fun d d2 => ?_)
 · obtain ⟨ha, hb⟩ := hk2 (of_decide_eq_true d2)
   obtain ⟨a1, a2, _⟩ := zfN gt (a := a) (by rw [hrs]; exact ha)
   obtain ⟨b1, b2, _⟩ := zfN gt (a := b) (by rw [hrs]; exact hb)
   refine ⟨h121, a1, a2, b1, b2, lc, lr, ?_⟩
   have e1 := zmL t.cs (zdn true a b t)
   have e2 := zmf (cs := t.cs) (c := zdn true a b t) (by omega)
   have e3 := zfG t.rs (t.cs.length : Int)
   rw [d, d2]
   show (([], [Ls t.o (CD (t.cs ++ [zdn true a b t])) (ID (t.rs ++ [(t.cs.length : Int)])) (ID t.ns) room nur fr false w.out], []) : Res) = _
   rw [← e1, ← e3, ← e2]
   rfl
 · refine ⟨h121, lc, lr, ?_⟩
   have e1 := zmL t.cs (zdn false a b t)
   have e2 := zmf (cs := t.cs) (c := zdn false a b t) (by omega)
   have e3 := zfG t.rs (t.cs.length : Int)
   rw [d, d2]
   show (([], [Ls t.o (CD (t.cs ++ [zdn false a b t])) (ID (t.rs ++ [(t.cs.length : Int)])) (ID t.ns) room nur fr false w.out], []) : Res) = _
   rw [← e1, ← e3, ← e2]
   rfl
section
variable {fr : Bool} {room nur : Int} {a b : Int} {w : Ws}
theorem zlH : opW fr room nur 1 a b w = (match decide ((w.h.rs.length : Int) < 60) with | true => putO fr room nur false a b w | false => w) := by
 unfold opW
 rw [if_pos rfl]
 try rfl
theorem ziY : opW fr room nur 2 a b w = (match zac a w.h.rs.length && zac b w.h.rs.length && decide ((w.h.rs.length : Int) < 60) with | true => putO fr room nur true a b w | false => w) := by
 unfold opW
 rw [if_neg (by decide : ¬ (2 : Int) = 1), if_pos rfl]
 try rfl
theorem zlr : opW fr room nur 3 a b w = (match zac a w.h.rs.length && decide ((w.h.rs.length : Int) < 60) && !(cg w.h.cs (rg w.h a)).l with | true => zne w false (rg w.h a) | false => w) := by
 unfold opW
 rw [if_neg (by decide : ¬ (3 : Int) = 1), if_neg (by decide : ¬ (3 : Int) = 2), if_pos rfl]
 try rfl
theorem zlm : opW fr room nur 4 a b w = (match zac a w.h.rs.length && decide ((w.h.rs.length : Int) < 60) && !(cg w.h.cs (rg w.h a)).l with | true => zne w true (rg w.h a) | false => w) := by
 unfold opW
 rw [if_neg (by decide : ¬ (4 : Int) = 1), if_neg (by decide : ¬ (4 : Int) = 2), if_neg (by decide : ¬ (4 : Int) = 3), if_pos rfl]
 try rfl
theorem zlf : opW fr room nur 5 a b w = (match zac a w.h.rs.length with | true => ⟨zhF w.h a, w.full, w.out⟩ | false => w) := by
 unfold opW
 rw [if_neg (by decide : ¬ (5 : Int) = 1), if_neg (by decide : ¬ (5 : Int) = 2), if_neg (by decide : ¬ (5 : Int) = 3), if_neg (by decide : ¬ (5 : Int) = 4), if_pos rfl]
 try rfl
theorem zlu : opW fr room nur 6 a b w = (match zac a w.h.rs.length with | true => ⟨w.h, w.full, w.out ++ (showB w.h.cs 4 (rg w.h a) ++ nlB)⟩ | false => w) := by
 unfold opW
 rw [if_neg (by decide : ¬ (6 : Int) = 1), if_neg (by decide : ¬ (6 : Int) = 2), if_neg (by decide : ¬ (6 : Int) = 3), if_neg (by decide : ¬ (6 : Int) = 4), if_neg (by decide : ¬ (6 : Int) = 5), if_pos rfl]
 try rfl
theorem ziR : opW fr room nur 7 a b w = (match zac a w.h.rs.length && zac b w.h.rs.length && !(cg w.h.cs (rg w.h a)).l with | true => ⟨setH w.h (rg w.h a) false (rg w.h b), w.full, w.out⟩ | false => w) := by
 unfold opW
 rw [if_neg (by decide : ¬ (7 : Int) = 1), if_neg (by decide : ¬ (7 : Int) = 2), if_neg (by decide : ¬ (7 : Int) = 3), if_neg (by decide : ¬ (7 : Int) = 4), if_neg (by decide : ¬ (7 : Int) = 5), if_neg (by decide : ¬ (7 : Int) = 6), if_pos rfl]
 try rfl
theorem zjh : opW fr room nur 8 a b w = (match zac a w.h.rs.length && zac b w.h.rs.length && !(cg w.h.cs (rg w.h a)).l with | true => ⟨setH w.h (rg w.h a) true (rg w.h b), w.full, w.out⟩ | false => w) := by
 unfold opW
 rw [if_neg (by decide : ¬ (8 : Int) = 1), if_neg (by decide : ¬ (8 : Int) = 2), if_neg (by decide : ¬ (8 : Int) = 3), if_neg (by decide : ¬ (8 : Int) = 4), if_neg (by decide : ¬ (8 : Int) = 5), if_neg (by decide : ¬ (8 : Int) = 6), if_neg (by decide : ¬ (8 : Int) = 7), if_pos rfl]
 try rfl
theorem ziZ : opW fr room nur 9 a b w = (match zac a w.h.rs.length && zac b w.h.rs.length with | true => ⟨w.h, w.full, w.out ++ (if rg w.h a = rg w.h b then sameB else otherB)⟩ | false => w) := by
 unfold opW
 rw [if_neg (by decide : ¬ (9 : Int) = 1), if_neg (by decide : ¬ (9 : Int) = 2), if_neg (by decide : ¬ (9 : Int) = 3), if_neg (by decide : ¬ (9 : Int) = 4), if_neg (by decide : ¬ (9 : Int) = 5), if_neg (by decide : ¬ (9 : Int) = 6), if_neg (by decide : ¬ (9 : Int) = 7), if_neg (by decide : ¬ (9 : Int) = 8), if_pos rfl]
 try rfl
theorem zhW : opW fr room nur 10 a b w = (match fr with | true => w | false => ⟨zb5 w.h, w.full, w.out⟩) := by
 unfold opW
 rw [if_neg (by decide : ¬ (10 : Int) = 1), if_neg (by decide : ¬ (10 : Int) = 2), if_neg (by decide : ¬ (10 : Int) = 3), if_neg (by decide : ¬ (10 : Int) = 4), if_neg (by decide : ¬ (10 : Int) = 5), if_neg (by decide : ¬ (10 : Int) = 6), if_neg (by decide : ¬ (10 : Int) = 7), if_neg (by decide : ¬ (10 : Int) = 8), if_neg (by decide : ¬ (10 : Int) = 9), if_pos rfl]
 try rfl
theorem zhU : opW fr room nur 11 a b w = (match fr with | true => w | false => ⟨zaF w.h, w.full, w.out⟩) := by
 unfold opW
 rw [if_neg (by decide : ¬ (11 : Int) = 1), if_neg (by decide : ¬ (11 : Int) = 2), if_neg (by decide : ¬ (11 : Int) = 3), if_neg (by decide : ¬ (11 : Int) = 4), if_neg (by decide : ¬ (11 : Int) = 5), if_neg (by decide : ¬ (11 : Int) = 6), if_neg (by decide : ¬ (11 : Int) = 7), if_neg (by decide : ¬ (11 : Int) = 8), if_neg (by decide : ¬ (11 : Int) = 9), if_neg (by decide : ¬ (11 : Int) = 10), if_pos rfl]
 try rfl
def zqx (k : Int) : Prop := k ≠ 1 ∧ k ≠ 2 ∧ k ≠ 3 ∧ k ≠ 4 ∧ k ≠ 5 ∧ k ≠ 6 ∧ k ≠ 7 ∧ k ≠ 8 ∧ k ≠ 9 ∧ k ≠ 10 ∧ k ≠ 11
theorem znm {k : Int} (h : zqx k) : opW fr room nur k a b w = w := by
 obtain ⟨h1, h2, h3, h4, h5, h6, h7, h8, h9, h10, h11⟩ := h
 unfold opW
 rw [if_neg h1, if_neg h2, if_neg h3, if_neg h4, if_neg h5, if_neg h6, if_neg h7, if_neg h8, if_neg h9, if_neg h10, if_neg h11]
end
theorem zkE {fr : Bool} {room nur : Int} {pair : Bool} {a b : Int} {w : Ws} : (putO fr room nur pair a b w).out = w.out := by
 unfold putO
 split <;> rfl
theorem zmS (zs : List Int) (n : Nat) : List.take n (ID zs) = ID (zs.take n) := by simp [ID]
theorem zmK (zs : List Int) (n : Nat) : List.drop n (ID zs) = ID (zs.drop n) := by simp [ID]
theorem zp4 (fr : Bool) (room nur : Int) (k a b : Int) (w : Ws) (g : Hg w.h) (hf : w.full = false) (ho : w.out.size ≤ 1000000) : EvN 1050000 76 [.ptr (.up 0) 0, .dat (N3 k a b)] [LsD w room nur fr] [] ([], [LsD (opW fr room nur k a b w) room nur fr], []) := by
 refine zaw Go.Proofs.Tryd.f76 1049999 (by kernel_rfl) (by kernel_rfl) fun kk hkk => ?_
 have hcl := g.clen
 have hrl := g.rlen
 have hlr : ((ID w.h.rs).length : Int) = (w.h.rs.length : Int) := by simp
 have A1 := in39 g a kk (by omega)
 have B1 := in39 g b kk (by omega)
 have hA := fun h => zfN g (a := a) h
 have hB := fun h => zfN g (a := b) h
 have lr : (ID w.h.rs).length + 1 ≤ 2147483648 := by simp; omega
 have hn1 : (ByteArray.mk #[10]).size = 1 := rfl
 by_cases k1 : k = 1
 · subst k1
   have hput := znc fr room nur 1 a b w g hf (fun e => by cases e) kk (by omega)
   have e : (decide ((1 : Int) = 2)) = false := rfl
   rw [e] at hput
   rw [zlH, ← hlr]
   have hp := zkE (fr := fr) (room := room) (nur := nur) (pair := false) (a := a) (b := b) (w := w)
   generalize putO fr room nur false a b w = p at hput hp ⊢
   have hput : den cfg kk 91 [.ptr (.up 0) 0, .dat (N3 1 a b)] [LsD w room nur fr] [] = some ([], [Ls p.h.o (CD p.h.cs) (ID p.h.rs) (ID p.h.ns) room nur fr p.full w.out], []) := by rw [← hp]; exact hput
   exact opL_1 kk w.h.o _ _ _ room nur fr w.full w.out a b _ _ _ _ p.full (zac a w.h.rs.length) (zac b w.h.rs.length) (rg w.h a) (cg w.h.cs (rg w.h a))
    (fun d d2 => ⟨A1, B1, (hA d).1, (hA d).2.1, (hA d).2.2.1, (hA d).2.2.2, hput, by rw [d2, ← hp]⟩)
    (fun d d2 => ⟨A1, B1, (hA d).1, (hA d).2.1, (hA d).2.2.1, (hA d).2.2.2, by rw [d2]⟩)
    (fun d d2 => ⟨A1, B1, hput, by rw [d2, ← hp]⟩) (fun d d2 => ⟨A1, B1, by rw [d2]⟩)
 by_cases k2 : k = 2
 · subst k2
   have e : (decide ((2 : Int) = 2)) = true := rfl
   have hput := fun h1 h2 => znc fr room nur 2 a b w g hf (fun _ => ⟨h1, h2⟩) kk (by omega)
   rw [e] at hput
   rw [ziY, ← hlr]
   have hp := zkE (fr := fr) (room := room) (nur := nur) (pair := true) (a := a) (b := b) (w := w)
   generalize putO fr room nur true a b w = p at hput hp ⊢
   have hput : zac a w.h.rs.length = true → zac b w.h.rs.length = true → den cfg kk 91 [.ptr (.up 0) 0, .dat (N3 2 a b)] [LsD w room nur fr] [] = some ([], [Ls p.h.o (CD p.h.cs) (ID p.h.rs) (ID p.h.ns) room nur fr p.full w.out], []) := by rw [← hp]; exact hput
   rw [hlr]
   exact opL_2 kk w.h.o _ _ _ room nur fr w.full w.out a b _ _ _ _ p.full (zac a w.h.rs.length) (zac b w.h.rs.length) (rg w.h a) (cg w.h.cs (rg w.h a))
    (fun d d2 d3 => ⟨A1, B1, (hA d).1, (hA d).2.1, (hA d).2.2.1, (hA d).2.2.2, hput d d3, by rw [hlr] at d2; rw [d, d2, d3, ← hp]; rfl⟩)
    (fun d d2 d3 => ⟨A1, B1, (hA d).1, (hA d).2.1, (hA d).2.2.1, (hA d).2.2.2, by rw [d, d3]; rfl⟩)
    (fun d d2 => ⟨A1, B1, (hA d).1, (hA d).2.1, (hA d).2.2.1, (hA d).2.2.2, by rw [hlr] at d2; rw [d2, Bool.and_false]⟩)
    (fun d d2 => ⟨A1, B1, by rw [d]; rfl⟩) (fun d d2 => ⟨A1, B1, by rw [d]; rfl⟩)
 have h60 : decide (((ID w.h.rs).length : Int) = 60) = true → decide ((w.h.rs.length : Int) < 60) = false := fun d => by
  have := of_decide_eq_true d
  rw [hlr] at this
  simp; omega
 have h59 : decide (((ID w.h.rs).length : Int) = 60) = false → decide ((w.h.rs.length : Int) < 60) = true := fun d => by
  have := of_decide_eq_false d
  rw [hlr] at this
  simp; omega
 by_cases k3 : k = 3
 · subst k3
   rw [zlr]
   exact opL_3 kk w.h.o _ _ _ room nur fr w.full w.out a b (zac a w.h.rs.length) (zac b w.h.rs.length) (rg w.h a) (cg w.h.cs (rg w.h a))
    (fun d d2 => ⟨A1, B1, (hA d).1, (hA d).2.1, (hA d).2.2.1, (hA d).2.2.2, by rw [d, h60 d2]; rfl⟩)
    (fun d d2 d3 => ⟨A1, B1, (hA d).1, (hA d).2.1, (hA d).2.2.1, (hA d).2.2.2, by rw [d, h59 d2, d3]; rfl⟩)
    (fun d d2 d3 => ⟨A1, B1, (hA d).1, (hA d).2.1, (hA d).2.2.1, (hA d).2.2.2, lr, by rw [d, h59 d2, d3, zfG]; rfl⟩)
    (fun d => ⟨A1, B1, by rw [d]; rfl⟩)
 by_cases k4 : k = 4
 · subst k4
   rw [zlm]
   exact opL_4 kk w.h.o _ _ _ room nur fr w.full w.out a b (zac a w.h.rs.length) (zac b w.h.rs.length) (rg w.h a) (cg w.h.cs (rg w.h a))
    (fun d d2 => ⟨A1, B1, (hA d).1, (hA d).2.1, (hA d).2.2.1, (hA d).2.2.2, by rw [d, h60 d2]; rfl⟩)
    (fun d d2 d3 => ⟨A1, B1, (hA d).1, (hA d).2.1, (hA d).2.2.1, (hA d).2.2.2, by rw [d, h59 d2, d3]; rfl⟩)
    (fun d d2 d3 => ⟨A1, B1, (hA d).1, (hA d).2.1, (hA d).2.2.1, (hA d).2.2.2, lr, by rw [d, h59 d2, d3, zfG]; rfl⟩)
    (fun d => ⟨A1, B1, by rw [d]; rfl⟩)
 by_cases k5 : k = 5
 · subst k5
   rw [zlf]
   exact opL_5 kk w.h.o _ _ _ room nur fr w.full w.out a b (zac a w.h.rs.length) (zac b w.h.rs.length) (rg w.h a) (cg w.h.cs (rg w.h a))
    (fun d => by
     have h1 := (hA d).1
     have hw : w64 (a + 1) = a + 1 := zbm (by omega)
     refine ⟨A1, B1, h1, (hA d).2.1, (hA d).2.2.1, (hA d).2.2.2, ⟨h1.1, by omega⟩, ⟨by omega, by omega⟩, ⟨by rw [zmS]; exact zlE _, by simp; omega⟩, ⟨by rw [zmK]; exact zlE _, by simp; omega⟩, ?_⟩
     rw [d, zmS, zmK, hw, show (a + 1).toNat = a.toNat + 1 by omega]
     simp [LsD, zhF, ID])
    (fun d => ⟨A1, B1, by rw [d]⟩)
 by_cases k6 : k = 6
 · subst k6
   rw [zlu]
   exact opL_6 kk w.h.o _ _ _ room nur fr w.full w.out a b (zac a w.h.rs.length) (zac b w.h.rs.length) (rg w.h a) (cg w.h.cs (rg w.h a)) (rg w.h a) (showB w.h.cs 4 (rg w.h a))
    (fun d => ⟨A1, B1, (hA d).1, (hA d).2.1, (hA d).2.2.1, (hA d).2.2.2, (hA d).1, (hA d).2.1, zoa true w.h.cs g.cells 4 (rg w.h a) (by omega) (zcW g d).1 (zcW g d).2 kk (by omega), by have := zbD w.h.cs g.cells 4 (rg w.h a); omega, by have := zbD w.h.cs g.cells 4 (rg w.h a); rw [ByteArray.size_append]; omega, by rw [d]⟩)
    (fun d => ⟨A1, B1, by rw [d]⟩)
 by_cases k7 : k = 7
 · subst k7
   rw [ziR]
   exact opL_7 kk w.h.o _ _ _ room nur fr w.full w.out a b (zac a w.h.rs.length) (zac b w.h.rs.length) (rg w.h a) (cg w.h.cs (rg w.h a)) (rg w.h a) (rg w.h b) _ _ _ _
    (fun d d2 d3 => ⟨A1, B1, (hA d).1, (hA d).2.1, (hA d).2.2.1, (hA d).2.2.2, (hA d).1, (hA d).2.1, (hB d2).1, (hB d2).2.1, zaz (setH w.h (rg w.h a) false (rg w.h b)), zkn true w.h g (rg w.h a) false (rg w.h b) (zcW g d) kk (by omega), by rw [d, d2, d3]; rfl⟩)
    (fun d d2 d3 => ⟨A1, B1, (hA d).1, (hA d).2.1, (hA d).2.2.1, (hA d).2.2.2, by rw [d, d2, d3]; rfl⟩)
    (fun d d2 => ⟨A1, B1, (hA d).1, (hA d).2.1, (hA d).2.2.1, (hA d).2.2.2, by rw [d, d2]; rfl⟩)
    (fun d => ⟨A1, B1, by rw [d]; rfl⟩)
 by_cases k8 : k = 8
 · subst k8
   rw [zjh]
   exact opL_8 kk w.h.o _ _ _ room nur fr w.full w.out a b (zac a w.h.rs.length) (zac b w.h.rs.length) (rg w.h a) (cg w.h.cs (rg w.h a)) (rg w.h a) (rg w.h b) _ _ _ _
    (fun d d2 d3 => ⟨A1, B1, (hA d).1, (hA d).2.1, (hA d).2.2.1, (hA d).2.2.2, (hA d).1, (hA d).2.1, (hB d2).1, (hB d2).2.1, zaz (setH w.h (rg w.h a) true (rg w.h b)), zkn true w.h g (rg w.h a) true (rg w.h b) (zcW g d) kk (by omega), by rw [d, d2, d3]; rfl⟩)
    (fun d d2 d3 => ⟨A1, B1, (hA d).1, (hA d).2.1, (hA d).2.2.1, (hA d).2.2.2, by rw [d, d2, d3]; rfl⟩)
    (fun d d2 => ⟨A1, B1, (hA d).1, (hA d).2.1, (hA d).2.2.1, (hA d).2.2.2, by rw [d, d2]; rfl⟩)
    (fun d => ⟨A1, B1, by rw [d]; rfl⟩)
 by_cases k9 : k = 9
 · subst k9
   rw [ziZ]
   exact opL_9 kk w.h.o _ _ _ room nur fr w.full w.out a b (zac a w.h.rs.length) (zac b w.h.rs.length) (rg w.h a) (cg w.h.cs (rg w.h a)) (rg w.h a) (rg w.h b)
    (fun d d2 d3 => ⟨A1, B1, (hA d).1, (hA d).2.1, (hA d).2.2.1, (hA d).2.2.2, (hA d).1, (hA d).2.1, (hB d2).1, (hB d2).2.1, by omega, by rw [d, d2, if_pos (of_decide_eq_true d3)]; rfl⟩)
    (fun d d2 d3 => ⟨A1, B1, (hA d).1, (hA d).2.1, (hA d).2.2.1, (hA d).2.2.2, (hA d).1, (hA d).2.1, (hB d2).1, (hB d2).2.1, by omega, by rw [d, d2, if_neg (of_decide_eq_false d3)]; rfl⟩)
    (fun d d2 => ⟨A1, B1, (hA d).1, (hA d).2.1, (hA d).2.2.1, (hA d).2.2.2, by rw [d, d2]; rfl⟩)
    (fun d => ⟨A1, B1, by rw [d]; rfl⟩)
 by_cases k10 : k = 10
 · subst k10
   rw [zhW]
   exact zqA kk w.h.o _ _ _ room nur fr w.full w.out a b (zac a w.h.rs.length) (zac b w.h.rs.length) (zb5 w.h).o _ _ _ (rg w.h a) (cg w.h.cs (rg w.h a))
    (fun d d2 => ⟨A1, B1, (hA d).1, (hA d).2.1, (hA d).2.2.1, (hA d).2.2.2, zaz _, ze6 true w.h g kk (by omega), by cases fr <;> first | rfl | cases d2⟩)
    (fun d d2 => ⟨A1, B1, (hA d).1, (hA d).2.1, (hA d).2.2.1, (hA d).2.2.2, by cases fr <;> first | rfl | cases d2⟩)
    (fun d d2 => ⟨A1, B1, zaz _, ze6 true w.h g kk (by omega), by cases fr <;> first | rfl | cases d2⟩)
    (fun d d2 => ⟨A1, B1, by cases fr <;> first | rfl | cases d2⟩)
 by_cases k11 : k = 11
 · subst k11
   rw [zhU]
   exact zqm kk w.h.o _ _ _ room nur fr w.full w.out a b (zac a w.h.rs.length) (zac b w.h.rs.length) (zaF w.h).o _ _ _ (rg w.h a) (cg w.h.cs (rg w.h a))
    (fun d d2 => ⟨A1, B1, (hA d).1, (hA d).2.1, (hA d).2.2.1, (hA d).2.2.2, zaz _, zfr true w.h g kk (by omega), by cases fr <;> first | rfl | cases d2⟩)
    (fun d d2 => ⟨A1, B1, (hA d).1, (hA d).2.1, (hA d).2.2.1, (hA d).2.2.2, by cases fr <;> first | rfl | cases d2⟩)
    (fun d d2 => ⟨A1, B1, zaz _, zfr true w.h g kk (by omega), by cases fr <;> first | rfl | cases d2⟩)
    (fun d d2 => ⟨A1, B1, by cases fr <;> first | rfl | cases d2⟩)
 rw [znm ⟨k1, k2, k3, k4, k5, k6, k7, k8, k9, k10, k11⟩]
 have n : ∀ j : Int, k ≠ j → decide (k = j) = false := fun j h => by simpa using h
 cases d : zac a w.h.rs.length with
 | true =>
   rw [d] at A1
   exact zpX kk w.h.o _ _ _ room nur fr w.full w.out k a b (rg w.h a) (cg w.h.cs (rg w.h a)) true (zac b w.h.rs.length) A1 B1 rfl (hA d).1 (hA d).2.1 (hA d).2.2.1 (hA d).2.2.2 (n 1 k1) (n 2 k2) (n 3 k3) (n 4 k4) (n 5 k5) (n 6 k6) (n 7 k7) (n 8 k8) (n 9 k9) (n 10 k10) (n 11 k11)
 | false =>
   rw [d] at A1
   exact zqF kk w.h.o _ _ _ room nur fr w.full w.out k a b false (zac b w.h.rs.length) A1 B1 rfl (n 1 k1) (n 2 k2) (n 3 k3) (n 4 k4) (n 5 k5) (n 6 k6) (n 7 k7) (n 8 k8) (n 9 k9) (n 10 k10) (n 11 k11)
end Go.Den
namespace Go.Den
open Go
set_option linter.unusedVariables false
set_option maxRecDepth 100000
open Go.Proofs.YtcmcfebihbmmeaaDoor (num numV)
theorem zmy (x y : ByteArray) : zai (x ++ y) = zai x ++ zai y := by simp [zai]
theorem ziJ (x : ByteArray) : (zai x).length = x.size := by simp [zai]
theorem zmY (x : ByteArray) : (zai x).all (fun d => Nat.beq d.cells.length 1) = true := zhq (fun b : UInt8 => Dat.val (.int .u8 b.toNat)) 1 (fun _ => rfl) x.data.toList
theorem zhC (w : Ws) (room nur : Int) (t : ByteArray) (h1 : w.out.size ≤ 1000000) (h2 : t.size ≤ 1000000) : EvN 1 126 [.ptr (.up 0) 0, .dat (S t)] [WrD w room nur] [] ([], [WrD ⟨w.h, w.full, w.out ++ (t ++ nlB)⟩ room nur], []) := by
 refine zaw Go.Proofs.Tryd.f126 0 (by kernel_rfl) (by kernel_rfl) fun kk hkk => ?_
 have hn1 : (ByteArray.mk #[10]).size = 1 := rfl
 exact tellW kk w.h.o _ _ _ (zai w.out) room nur w.full t ⟨by omega, ⟨zmY _, by rw [ziJ, ziJ, ByteArray.size_append]; omega⟩, by rw [← zmy]⟩
theorem zkb (w : Ws) (room nur : Int) (g : Hg w.h) (a : Int) : EvN 3 96 [.ptr (.up 0) 0, .dat (I a)] [WrD w room nur] [] ([.dat (I (match zac a w.h.rs.length with | true => rg w.h a | false => 0)), .dat (B (zac a w.h.rs.length))], [WrD w room nur], []) := by
 refine zaw Go.Proofs.Tryd.f96 2 (by kernel_rfl) (by kernel_rfl) fun kk hkk => ?_
 have hlr : ((ID w.h.rs).length : Int) = (w.h.rs.length : Int) := by simp
 have h43 := zlo a ((ID w.h.rs).length : Int) kk (by omega)
 rw [hlr] at h43
 rw [← hlr] at h43
 have hA := fun h => zfN g (a := a) h
 refine rootW kk w.h.o _ _ _ _ room nur w.full a (zac a w.h.rs.length) (rg w.h a) (fun d => ⟨by rw [hlr] at h43 ⊢; exact h43, ?_⟩) (fun d => ?_)
 · simp only [Bool.not_eq_true'] at d
   rw [d]
 · simp only [Bool.not_eq_false'] at d
   exact ⟨by rw [hlr] at h43 ⊢; exact h43, (hA d).1, (hA d).2.1, by rw [d]⟩
theorem zke (w : Ws) (room nur : Int) (g : Hg w.h) (at_ : Int) (second : Bool) (ha : 0 ≤ at_ ∧ at_ < (w.h.cs.length : Int)) : EvN 1 125 [.ptr (.up 0) 0, .dat (I at_), .dat (B second)] [WrD w room nur] [] ([], [WrD (match decide ((w.h.rs.length : Int) < 60) && !(cg w.h.cs at_).l with | true => zne w second at_ | false => w) room nur], []) := by
 refine zaw Go.Proofs.Tryd.f125 0 (by kernel_rfl) (by kernel_rfl) fun kk hkk => ?_
 have hrl := g.rlen
 have hlr : ((ID w.h.rs).length : Int) = (w.h.rs.length : Int) := by simp
 have lr : (ID w.h.rs).length + 1 ≤ 2147483648 := by simp; omega
 have hc := zgf (c := w.h.cs) ha.1 ha.2
 have h1 : decide (60 ≤ ((ID w.h.rs).length : Int)) = true → decide ((w.h.rs.length : Int) < 60) = false := fun d => by
  have := of_decide_eq_true d
  rw [hlr] at this
  simp; omega
 have h2 : decide (60 ≤ ((ID w.h.rs).length : Int)) = false → decide ((w.h.rs.length : Int) < 60) = true := fun d => by
  have := of_decide_eq_false d
  rw [hlr] at this
  simp; omega
 exact partW kk w.h.o _ _ _ _ room nur w.full at_ second (cg w.h.cs at_) (fun d => ⟨hc.1, hc.2, by rw [d, Bool.not_true, Bool.and_false]⟩) (fun d d2 => ⟨hc.1, hc.2, by rw [d, h1 d2]; rfl⟩) (fun d d2 d3 => ⟨hc.1, hc.2, lr, by rw [d, h2 d2, d3, zfG]; rfl⟩) (fun d d2 d3 => ⟨hc.1, hc.2, lr, by rw [d, h2 d2, d3, zfG]; rfl⟩)
def One (k : Int) : Prop := k = 3 ∨ k = 4 ∨ k = 5 ∨ k = 6
def Two (k : Int) : Prop := k = 2 ∨ k = 7 ∨ k = 8 ∨ k = 9
theorem zot (fr : Bool) (room nur : Int) (k a b : Int) (hk : One k) (w : Ws) (g : Hg w.h) (ho : w.out.size ≤ 1000000) (ha : zac a w.h.rs.length = true) : EvN 20 97 [.ptr (.up 0) 0, .dat (N3 k a b), .dat (I (rg w.h a))] [WrD w room nur] [] ([], [WrD (opW fr room nur k a b w) room nur], []) := by
 refine zaw Go.Proofs.Tryd.f97 19 (by kernel_rfl) (by kernel_rfl) fun kk hkk => ?_
 have hri := zcW g ha
 have hrl := g.rlen
 rcases hk with rfl | rfl | rfl | rfl
 · have h := zke w room nur g (rg w.h a) false hri kk (by omega)
   have h : den cfg kk 125 [.ptr (.up 0) 0, .dat (I (rg w.h a)), .dat (B false)] [WrD w room nur] [] = some ([], [WrD (opW fr room nur 3 a b w) room nur], []) := by
    rw [zlr, ha, Bool.true_and]
    exact h
   generalize opW fr room nur 3 a b w = p at h ⊢
   exact zpA kk w.h.o _ _ _ _ room nur w.full a b (rg w.h a) _ _ _ _ _ _ ⟨h, rfl⟩
 · have h := zke w room nur g (rg w.h a) true hri kk (by omega)
   have h : den cfg kk 125 [.ptr (.up 0) 0, .dat (I (rg w.h a)), .dat (B true)] [WrD w room nur] [] = some ([], [WrD (opW fr room nur 4 a b w) room nur], []) := by
    rw [zlm, ha, Bool.true_and]
    exact h
   generalize opW fr room nur 4 a b w = p at h ⊢
   exact zo6 kk w.h.o _ _ _ _ room nur w.full a b (rg w.h a) _ _ _ _ _ _ ⟨h, rfl⟩
 · obtain ⟨⟨a0, a1⟩, _⟩ := zmE ha
   have h109 := zqp w.h.rs a a0 a1 (by omega) kk (by omega)
   have hw : w64 (a + 1) = a + 1 := zbm (by omega)
   rw [← hw] at h109
   rw [zlf, ha]
   exact zpG kk w.h.o _ _ _ _ room nur w.full a b (rg w.h a) 0 [] [] [] [] true (ID w.h.rs) _ ⟨by show ((Dat.cleans (ID w.h.rs) && true) : Bool) = true; rw [zhj]; rfl, zdP true w.h.rs (by omega) kk (by omega), h109, rfl⟩
 · have hsz := zbD w.h.cs g.cells 4 (rg w.h a)
   have h44 := znO true w.h.o w.h.cs (ID w.h.rs) (ID w.h.ns) g.cells 4 (rg w.h a) (by omega) hri.1 hri.2 kk (by omega)
   have h126 := zhC w room nur (showB w.h.cs 4 (rg w.h a)) ho (by omega) kk (by omega)
   rw [zlu, ha]
   exact zpe kk w.h.o _ _ _ _ room nur w.full a b (rg w.h a) _ _ _ _ _ _ (showB w.h.cs 4 (rg w.h a)) ⟨h44, h126, rfl⟩
theorem zni (h : Hp) (bs : List Dat) (room nur : Int) (full : Bool) (c : Cl) (g : Hg h) : EvN 1 95 [.ptr (.up 0) 0, .dat c.d] [Wr h.o (CD h.cs) (ID h.rs) (ID h.ns) bs room nur full] [] ([], [Wr (addH h c).o (CD (addH h c).cs) (ID (addH h c).rs) (ID (addH h c).ns) bs room nur full], []) := by
 refine zaw Go.Proofs.Tryd.f95 0 (by kernel_rfl) (by kernel_rfl) fun kk hkk => ?_
 have hcl := g.clen
 have hrl := g.rlen
 refine putW kk h.o _ _ _ bs room nur full c ⟨by simp; omega, by simp; omega, ?_⟩
 have e1 := zmL h.cs c
 have e3 := zfG h.rs (h.cs.length : Int)
 show (([], [Wr h.o (CD (h.cs ++ [c])) (ID (h.rs ++ [(h.cs.length : Int)])) (ID h.ns) bs room nur full], []) : Res) = _
 rw [← e1, ← e3]
 have : ((CD h.cs).length : Int) = (h.cs.length : Int) := by simp
 rw [this]
theorem zpm : ByteArray.mk #[115, 97, 109, 101] ++ nlB = sameB := rfl
theorem zon : ByteArray.mk #[111, 116, 104, 101, 114] ++ nlB = otherB := rfl
theorem zn2 (fr : Bool) (room nur : Int) (hfr : fr = decide (room < 0)) (k a b : Int) (hk : Two k) (w : Ws) (g : Hg w.h) (hf : w.full = false) (ho : w.out.size ≤ 1000000) (ha : zac a w.h.rs.length = true) (hb : zac b w.h.rs.length = true) :
 EvN 1050300 98 [.ptr (.up 0) 0, .dat (N3 k a b), .dat (I (rg w.h a)), .dat (I (rg w.h b))] [WrD w room nur] [] ([], [WrD (opW fr room nur k a b w) room nur], []) := by
 refine zaw Go.Proofs.Tryd.f98 1050299 (by kernel_rfl) (by kernel_rfl) fun kk hkk => ?_
 have hri := zcW g ha
 have hc := zgf (c := w.h.cs) hri.1 hri.2
 rcases hk with rfl | rfl | rfl | rfl
 · rw [ziY, ha, hb, Bool.true_and, Bool.true_and]
   by_cases h60 : w.h.rs.length < 60
   · have hd : decide ((w.h.rs.length : Int) < 60) = true := by simp; omega
     rw [hd]
     have h94 := zfy fr room nur hfr w.h g (zai w.out) h60 kk (by omega)
     rw [← hf] at h94
     have gt := zd4 (fr := fr) (room := room) (nur := nur) g
     have hrs := zc1 (fr := fr) (room := room) (nur := nur) (h := w.h)
     unfold putO
     generalize zbb fr room nur w.h = t at *
     obtain ⟨a1, a2, _⟩ := zfN gt (a := a) (by rw [hrs]; exact ha)
     obtain ⟨b1, b2, _⟩ := zfN gt (a := b) (by rw [hrs]; exact hb)
     refine zme kk w.h.o _ _ _ _ room nur w.full a b (rg w.h a) (rg w.h b) (addH t (zdn true a b t)).o _ _ _ _ (zb8 fr room t) t.o _ _ _ (zb8 fr room t) (!zb8 fr room t) (rg t a) (rg t b) (fun d => ⟨h94, a1, a2, b1, b2, zni t (zai w.out) room nur (zb8 fr room t) (zdn true a b t) gt kk (by omega), ?_⟩) (fun d => ⟨h94, ?_⟩)
     · simp only [Bool.not_eq_true'] at d
       rw [d]
     · simp only [Bool.not_eq_false'] at d
       rw [d]
   · have hd : decide ((w.h.rs.length : Int) < 60) = false := by simp; omega
     rw [hd]
     have h94 := zdf room nur w.h (zai w.out) w.full (by omega) kk (by omega)
     exact zme kk w.h.o _ _ _ _ room nur w.full a b (rg w.h a) (rg w.h b) 0 [] [] [] [] true w.h.o _ _ _ w.full false 0 0 (fun d => by cases d) (fun d => ⟨h94, rfl⟩)
 · rw [ziR, ha, hb, Bool.true_and, Bool.true_and]
   exact zo4 kk w.h.o _ _ _ _ room nur w.full a b (rg w.h a) (rg w.h b) _ _ _ _ _ _ (cg w.h.cs (rg w.h a)) (fun d => ⟨hc.1, hc.2, zmG w.h g (zai w.out) room nur w.full (rg w.h a) false (rg w.h b) hri kk (by omega), by rw [d]⟩) (fun d => ⟨hc.1, hc.2, by rw [d]⟩)
 · rw [zjh, ha, hb, Bool.true_and, Bool.true_and]
   exact zpt kk w.h.o _ _ _ _ room nur w.full a b (rg w.h a) (rg w.h b) _ _ _ _ _ _ (cg w.h.cs (rg w.h a)) (fun d => ⟨hc.1, hc.2, zmG w.h g (zai w.out) room nur w.full (rg w.h a) true (rg w.h b) hri kk (by omega), by rw [d]⟩) (fun d => ⟨hc.1, hc.2, by rw [d]⟩)
 · rw [ziZ, ha, hb, Bool.true_and]
   by_cases he : rg w.h a = rg w.h b
   · have h126 := zhC w room nur (ByteArray.mk #[115, 97, 109, 101]) ho (by decide) kk (by omega)
     rw [zpm] at h126
     rw [if_pos he]
     have hd : decide (rg w.h a = rg w.h b) = true := by simpa using he
     exact znw kk w.h.o _ _ _ _ room nur w.full a b (rg w.h a) (rg w.h b) _ _ _ _ _ _ _ ⟨by rw [hd]; rfl, h126, rfl⟩
   · have h126 := zhC w room nur (ByteArray.mk #[111, 116, 104, 101, 114]) ho (by decide) kk (by omega)
     rw [zon] at h126
     rw [if_neg he]
     have hd : decide (rg w.h a = rg w.h b) = false := by simpa using he
     exact znw kk w.h.o _ _ _ _ room nur w.full a b (rg w.h a) (rg w.h b) _ _ _ _ _ _ _ ⟨by rw [hd]; rfl, h126, rfl⟩
theorem zqz (fr : Bool) (room nur : Int) (hfr : fr = decide (room < 0)) (k a b : Int) (w : Ws) (g : Hg w.h) (hf : w.full = false) (ho : w.out.size ≤ 1000000) : EvN 1050400 77 [.ptr (.up 0) 0, .dat (N3 k a b)] [WrD w room nur] [] ([], [WrD (opW fr room nur k a b w) room nur], []) := by
 refine zaw Go.Proofs.Tryd.f77 1050399 (by kernel_rfl) (by kernel_rfl) fun kk hkk => ?_
 have n : ∀ j : Int, k ≠ j → decide (k = j) = false := fun j h => by simpa using h
 by_cases k1 : k = 1
 · subst k1
   rw [zlH]
   by_cases h60 : w.h.rs.length < 60
   · have hd : decide ((w.h.rs.length : Int) < 60) = true := by simp; omega
     rw [hd]
     have h94 := zfy fr room nur hfr w.h g (zai w.out) h60 kk (by omega)
     rw [← hf] at h94
     have gt := zd4 (fr := fr) (room := room) (nur := nur) g
     unfold putO
     generalize zbb fr room nur w.h = t at *
     refine zqv kk w.h.o _ _ _ _ room nur w.full a b (addH t (zdn false a b t)).o _ _ _ _ (zb8 fr room t) t.o _ _ _ (zb8 fr room t) (!zb8 fr room t) (fun d => ⟨h94, zni t (zai w.out) room nur (zb8 fr room t) (zdn false a b t) gt kk (by omega), ?_⟩) (fun d => ⟨h94, ?_⟩)
     · simp only [Bool.not_eq_true'] at d
       rw [d]
     · simp only [Bool.not_eq_false'] at d
       rw [d]
   · have hd : decide ((w.h.rs.length : Int) < 60) = false := by simp; omega
     rw [hd]
     have h94 := zdf room nur w.h (zai w.out) w.full (by omega) kk (by omega)
     exact zqv kk w.h.o _ _ _ _ room nur w.full a b 0 [] [] [] [] true w.h.o _ _ _ w.full false (fun d => by cases d) (fun d => ⟨h94, rfl⟩)
 have A1 := zkb w room nur g a kk (by omega)
 have B1 := zkb w room nur g b kk (by omega)
 have o97 := fun (h : ¬ One k) at_ => zms (kk - 1) w.h.o (CD w.h.cs) (ID w.h.rs) (ID w.h.ns) (zai w.out) room nur w.full k a b at_ (n 3 fun e => h (.inl e)) (n 4 fun e => h (.inr (.inl e))) (n 5 fun e => h (.inr (.inr (.inl e)))) (n 6 fun e => h (.inr (.inr (.inr e))))
 have e97 : ¬ One k → ∀ at_ : Int, den cfg kk 97 [.ptr (.up 0) 0, .dat (N3 k a b), .dat (I at_)] [WrD w room nur] [] = some ([], [WrD w room nur], []) := fun h at_ => (zaw Go.Proofs.Tryd.f97 0 (by kernel_rfl) (by kernel_rfl) fun kk _ => zms kk w.h.o (CD w.h.cs) (ID w.h.rs) (ID w.h.ns) (zai w.out) room nur w.full k a b at_ (n 3 fun e => h (.inl e)) (n 4 fun e => h (.inr (.inl e))) (n 5 fun e => h (.inr (.inr (.inl e)))) (n 6 fun e => h (.inr (.inr (.inr e))))) kk (by omega)
 have e98 : ¬ Two k → ∀ (v : Ws) (at_ to : Int), den cfg kk 98 [.ptr (.up 0) 0, .dat (N3 k a b), .dat (I at_), .dat (I to)] [WrD v room nur] [] = some ([], [WrD v room nur], []) := fun h v at_ to => (zaw Go.Proofs.Tryd.f98 0 (by kernel_rfl) (by kernel_rfl) fun kk _ => zpn kk v.h.o (CD v.h.cs) (ID v.h.rs) (ID v.h.ns) (zai v.out) room nur v.full k a b at_ to (n 2 fun e => h (.inl e)) (n 7 fun e => h (.inr (.inl e))) (n 8 fun e => h (.inr (.inr (.inl e)))) (n 9 fun e => h (.inr (.inr (.inr e))))) kk (by omega)
 clear o97
 by_cases k10 : k = 10
 · subst k10
   have c97 := e97 (fun h => by rcases h with h | h | h | h <;> cases h)
   have c98 := e98 (fun h => by rcases h with h | h | h | h <;> cases h)
   rw [zhW]
   exact zqi kk w.h.o _ _ _ _ room nur w.full a b _ _ (zac a w.h.rs.length) (zac b w.h.rs.length) w.h.o _ _ _ _ w.full w.h.o _ _ _ _ w.full (zb5 w.h).o _ _ _
    (fun d => ⟨zaz _, zg3 true w.h g kk (by omega), by
     have e : fr = false := by rw [hfr]; have := of_decide_eq_true d; simp; omega
     rw [e]⟩)
    (fun d d2 d3 => ⟨A1, B1, c97 _, c98 w _ _, by
     have e : fr = true := by rw [hfr]; have := of_decide_eq_false d; simp; omega
     rw [e]⟩)
    (fun d d2 d3 => ⟨A1, B1, c97 _, by
     have e : fr = true := by rw [hfr]; have := of_decide_eq_false d; simp; omega
     rw [e]⟩)
    (fun d d2 => ⟨A1, B1, by
     have e : fr = true := by rw [hfr]; have := of_decide_eq_false d; simp; omega
     rw [e]⟩)
 by_cases k11 : k = 11
 · subst k11
   have c97 := e97 (fun h => by rcases h with h | h | h | h <;> cases h)
   have c98 := e98 (fun h => by rcases h with h | h | h | h <;> cases h)
   rw [zhU]
   exact zpT kk w.h.o _ _ _ _ room nur w.full a b _ _ (zac a w.h.rs.length) (zac b w.h.rs.length) w.h.o _ _ _ _ w.full w.h.o _ _ _ _ w.full (zaF w.h).o _ _ _
    (fun d => ⟨zaz _, ziM true w.h g kk (by omega), by
     have e : fr = false := by rw [hfr]; have := of_decide_eq_true d; simp; omega
     rw [e]⟩)
    (fun d d2 d3 => ⟨A1, B1, c97 _, c98 w _ _, by
     have e : fr = true := by rw [hfr]; have := of_decide_eq_false d; simp; omega
     rw [e]⟩)
    (fun d d2 d3 => ⟨A1, B1, c97 _, by
     have e : fr = true := by rw [hfr]; have := of_decide_eq_false d; simp; omega
     rw [e]⟩)
    (fun d d2 => ⟨A1, B1, by
     have e : fr = true := by rw [hfr]; have := of_decide_eq_false d; simp; omega
     rw [e]⟩)
 -- all others: by roots
 have key : ∀ w1 w2 : Ws, (zac a w.h.rs.length = true → den cfg kk 97 [.ptr (.up 0) 0, .dat (N3 k a b), .dat (I (rg w.h a))] [WrD w room nur] [] = some ([], [WrD w1 room nur], [])) →
  (zac a w.h.rs.length = true → zac b w.h.rs.length = true → den cfg kk 98 [.ptr (.up 0) 0, .dat (N3 k a b), .dat (I (rg w.h a)), .dat (I (rg w.h b))] [WrD w1 room nur] [] = some ([], [WrD w2 room nur], [])) →
  opW fr room nur k a b w = (match zac a w.h.rs.length with | true => (match zac b w.h.rs.length with | true => w2 | false => w1) | false => w) →
  zaj cfg kk (den cfg kk) 77 Go.Proofs.Tryd.f77 [.ptr (.up 0) 0, .dat (N3 k a b)] [WrD w room nur] [] = some ([], [WrD (opW fr room nur k a b w) room nur], []) := by
  intro w1 w2 h1 h2 hr
  rw [hr]
  cases ha : zac a w.h.rs.length with
  | false =>
    rw [ha] at A1
    exact doW_n kk w.h.o _ _ _ _ room nur w.full k a b _ _ false (zac b w.h.rs.length) (n 1 k1) (n 10 k10) (n 11 k11) A1 B1 rfl rfl
  | true =>
    rw [ha] at A1
    cases hb : zac b w.h.rs.length with
    | false =>
      rw [hb] at B1
      exact zqH kk w.h.o _ _ _ _ room nur w.full k a b _ _ true false w1.h.o _ _ _ _ w1.full (n 1 k1) (n 10 k10) (n 11 k11) A1 B1 rfl (h1 ha) rfl rfl
    | true =>
      rw [hb] at B1
      exact zqb kk w.h.o _ _ _ _ room nur w.full k a b _ _ true true w1.h.o _ _ _ _ w1.full w2.h.o _ _ _ _ w2.full (n 1 k1) (n 10 k10) (n 11 k11) A1 B1 rfl (h1 ha) rfl rfl (h2 ha hb)
 by_cases hone : One k
 · have htwo : ¬ Two k := fun h => by rcases hone with rfl | rfl | rfl | rfl <;> rcases h with h | h | h | h <;> cases h
   refine key (opW fr room nur k a b w) (opW fr room nur k a b w) (fun ha => zot fr room nur k a b hone w g ho ha kk (by omega)) (fun _ _ => e98 htwo _ _ _) ?_
   cases ha : zac a w.h.rs.length with
   | true => cases zac b w.h.rs.length <;> rfl
   | false =>
     rcases hone with rfl | rfl | rfl | rfl
     · rw [zlr, ha]; rfl
     · rw [zlm, ha]; rfl
     · rw [zlf, ha]
     · rw [zlu, ha]
 by_cases htwo : Two k
 · refine key w (opW fr room nur k a b w) (fun _ => e97 hone _) (fun ha hb => zn2 fr room nur hfr k a b htwo w g hf ho ha hb kk (by omega)) ?_
   cases ha : zac a w.h.rs.length with
   | true =>
     cases hb : zac b w.h.rs.length with
     | true => rfl
     | false =>
       rcases htwo with rfl | rfl | rfl | rfl
       · rw [ziY, ha, hb]; rfl
       · rw [ziR, ha, hb]; rfl
       · rw [zjh, ha, hb]; rfl
       · rw [ziZ, ha, hb]; rfl
   | false =>
     rcases htwo with rfl | rfl | rfl | rfl
     · rw [ziY, ha]; rfl
     · rw [ziR, ha]; rfl
     · rw [zjh, ha]; rfl
     · rw [ziZ, ha]; rfl
 have ho : zqx k := ⟨k1, fun e => htwo (.inl e), fun e => hone (.inl e), fun e => hone (.inr (.inl e)), fun e => hone (.inr (.inr (.inl e))), fun e => hone (.inr (.inr (.inr e))), fun e => htwo (.inr (.inl e)), fun e => htwo (.inr (.inr (.inl e))), fun e => htwo (.inr (.inr (.inr e))), k10, k11⟩
 refine key w w (fun _ => e97 hone _) (fun _ _ => e98 htwo _ _ _) ?_
 rw [znm ho]
 cases zac a w.h.rs.length <;> cases zac b w.h.rs.length <;> rfl
end Go.Den
namespace Go.Den
open Go
set_option linter.unusedVariables false
set_option maxRecDepth 100000
open Go.Proofs.YtcmcfebihbmmeaaDoor (num numV)
abbrev Op3.d (x : Op3) : Dat := N3 x.k x.a x.b
abbrev OD (l : List Op3) : List Dat := l.map Op3.d
def w00 : Ws := ⟨⟨0, [], [], []⟩, false, ByteArray.empty⟩
theorem iv00 (fr : Bool) : Iv fr 0 w00 :=
 ⟨⟨fun i c h => by simp [w00] at h, by simp [w00], by simp [w00], Int.le_refl _, by simp [w00], fun x h => by simp [w00] at h, .nil, fun x h => by simp [w00] at h, fun i c h => by simp [w00] at h⟩, fun _ => by simp [w00], by show (0 : Nat) ≤ _; omega⟩
theorem zol (r n r' n' k a b : Int) (w : Ws) : opW true r n k a b w = opW true r' n' k a b w := by
 unfold opW putO zbb zb8
 rfl
theorem ziu (r n r' n' : Int) : ∀ (l : List Op3) (w : Ws), runW true r n l w = runW true r' n' l w
 | [], w => rfl
 | x :: l, w => by
   unfold runW
   rw [zol r n r' n', ziu r n r' n' l]
theorem zmc {α : Type} {L l : List α} {x : α} {i : Nat} (h : L.drop i = x :: l) : L[i]? = some x ∧ L.drop (i + 1) = l ∧ i < L.length := by
 have h1 : L[i]? = some x := by
  have := List.getElem?_drop (xs := L) (i := i) (j := 0)
  rw [h] at this
  simpa using this.symm
 refine ⟨h1, ?_, (List.getElem?_eq_some_iff.1 h1).1⟩
 have : (L.drop i).drop 1 = L.drop (i + 1) := by rw [List.drop_drop]
 rw [← this, h]; rfl
section
variable {fr : Bool} {room nur : Int}
theorem zey (hr : fr = false → room ≤ 200) (b : Bool) (L : List Op3) (hL : L.length ≤ 150) (ha : ∀ x ∈ L, In64 x.a) {kk : Nat} (hkk : 1050000 ≤ kk) {K : X → St → Prop} : ∀ (l : List Op3) (i : Nat) (w : Ws), L.drop i = l → i + l.length = L.length → Iv fr i w → w.full = false →
 K (match (runW fr room nur l w).full with | true => .ret | false => .exit 0) (Nm [] [] [] [LsD (runW fr room nur l w) room nur fr] []) →
 ∀ m, l.length < m → ∀ s : St, s.norm ((zad cfg kk 47 Go.Proofs.Tryd.f47).live (zaa (lp Go.Proofs.Tryd.f47 1))) = hd47 b (OD L) w.h.o (CD w.h.cs) (ID w.h.rs) (ID w.h.ns) room nur fr w.full w.out i → zae (zad cfg kk 47 Go.Proofs.Tryd.f47) kk (lp Go.Proofs.Tryd.f47 1) m s K
 | [], i, w, hd, hi, hI, hf, hK, m, hm, s, hs => by
   obtain ⟨m, rfl⟩ : ∃ k, m = k + 1 := ⟨m - 1, by omega⟩
   have hlen : ((OD L).length : Int) = (L.length : Int) := by simp
   have hK : K (match w.full with | true => .ret | false => .exit 0) (Nm [] [] [] [LsD w room nur fr] []) := hK
   rw [hf] at hK
   simp only [List.length_nil, Nat.add_zero] at hi
   exact zma kk m b _ _ _ _ _ room nur fr w.full w.out i 0 [] [] [] true ByteArray.empty 0 0 0 hs (fun d => absurd (of_decide_eq_true d) (by omega)) (fun d => absurd (of_decide_eq_true d) (by omega)) (fun _ => hK)
 | x :: l, i, w, hd, hi, hI, hf, hK, m, hm, s, hs => by
   obtain ⟨m, rfl⟩ : ∃ k, m = k + 1 := ⟨m - 1, by omega⟩
   obtain ⟨hx, hd', hlt⟩ := zmc hd
   have hxm := List.mem_of_getElem? hx
   have hlen : ((OD L).length : Int) = (L.length : Int) := by simp
   have h76 := zp4 fr room nur x.k x.a x.b w hI.g hf (by have := hI.out; omega) kk (by omega)
   have hI' := zjf (room := room) (nur := nur) (k := x.k) (b := x.b) hI hr (by omega) (ha x hxm)
   have hxd := ih (gm (f := Op3.d) hx)
   have hrun : runW fr room nur (x :: l) w = (match (opW fr room nur x.k x.a x.b w).full with | true => opW fr room nur x.k x.a x.b w | false => runW fr room nur l (opW fr room nur x.k x.a x.b w)) := rfl
   rw [hrun] at hK
   have ihl := zey hr b L hL ha hkk (K := K) l (i + 1) (opW fr room nur x.k x.a x.b w) hd' (by simp at hi; omega) hI'
   generalize opW fr room nur x.k x.a x.b w = p at h76 hI' hK ihl
   refine zma kk m b _ _ _ _ _ room nur fr w.full w.out i p.h.o _ _ _ p.full p.out x.k x.a x.b hs (fun _ d => ⟨hxd, h76, ?_⟩) (fun _ d => ⟨hxd, h76, fun s' hs' => ?_⟩) (fun d => absurd (of_decide_eq_false d) (by omega))
   · have hK2 : K .ret (Nm [] [] [] [LsD p room nur fr] []) := by
      rw [d] at hK
      simp only [d] at hK
      exact hK
     rw [d]
     have e : LsD p room nur fr = Ls p.h.o (CD p.h.cs) (ID p.h.rs) (ID p.h.ns) room nur fr true p.out := by rw [← d]
     rw [e] at hK2
     exact hK2
   · rw [d] at hK
     refine ihl d hK m (by simp at hm; omega) s' ?_
     rw [hs', wi i (by omega)]
     rfl
theorem znM (hr : fr = false → room ≤ 200) (b : Bool) (L : List Op3) (hL : L.length ≤ 150) (ha : ∀ x ∈ L, In64 x.a) : EvN 1050100 47 [.ptr (.up 0) 0, .dat (.lst b (OD L))] [LsD w00 room nur fr] [] ([], [LsD (runW fr room nur L w00) room nur fr], []) := by
 refine zaw Go.Proofs.Tryd.f47 1050099 (by kernel_rfl) (by kernel_rfl) fun kk hkk => ?_
 have hloop : zao cfg kk 47 Go.Proofs.Tryd.f47 1 (hd47 b (OD L) w00.h.o (CD w00.h.cs) (ID w00.h.rs) (ID w00.h.ns) room nur fr w00.full w00.out 0) (match (runW fr room nur L w00).full with | true => .ret | false => .exit 0) (Nm [] [] [] [LsD (runW fr room nur L w00) room nur fr] []) :=
  zcj fun s hs => zey hr b L hL ha (by omega) L 0 w00 rfl (by simp) (iv00 fr) rfl ⟨rfl, rfl⟩ kk (by omega) s hs
 generalize runW fr room nur L w00 = p at hloop ⊢
 cases hp : p.full with
 | true =>
   rw [hp] at hloop
   exact zpH kk b _ 0 [] [] [] room nur fr false ByteArray.empty p.h.o _ _ _ p.full p.out ⟨hloop, rfl⟩
 | false =>
   rw [hp] at hloop
   exact zo1 kk b _ 0 [] [] [] room nur fr false ByteArray.empty p.h.o _ _ _ p.full p.out ⟨hloop, rfl⟩
theorem zep (hfr : fr = decide (room < 0)) (hr : fr = false → room ≤ 200) (b : Bool) (L : List Op3) (hL : L.length ≤ 150) (ha : ∀ x ∈ L, In64 x.a) {kk : Nat} (hkk : 1050400 ≤ kk) {K : X → St → Prop} : ∀ (l : List Op3) (i : Nat) (w : Ws), L.drop i = l → i + l.length = L.length → Iv fr i w → w.full = false →
 K (.exit 0) (Nm [7, 13] [.ptr (.loc 13) 0, .ptr (.loc 13) 0] [none, some (WrD (runW fr room nur l w) room nur)] [] []) →
 ∀ m, l.length < m → ∀ s : St, s.norm ((zad cfg kk 49 Go.Proofs.Tryd.f49).live (zaa (lp Go.Proofs.Tryd.f49 3))) = hd49 b (OD L) w.h.o (CD w.h.cs) (ID w.h.rs) (ID w.h.ns) (zai w.out) room nur w.full i → zae (zad cfg kk 49 Go.Proofs.Tryd.f49) kk (lp Go.Proofs.Tryd.f49 3) m s K
 | [], i, w, hd, hi, hI, hf, hK, m, hm, s, hs => by
   obtain ⟨m, rfl⟩ : ∃ k, m = k + 1 := ⟨m - 1, by omega⟩
   have hlen : ((OD L).length : Int) = (L.length : Int) := by simp
   simp only [List.length_nil, Nat.add_zero] at hi
   exact zl0 kk m b _ _ _ _ _ _ room nur w.full i 0 [] [] [] [] true 0 0 0 hs (fun d => absurd (of_decide_eq_true d) (by omega)) (fun d => absurd (of_decide_eq_true d) (by omega)) (fun _ => hK)
 | x :: l, i, w, hd, hi, hI, hf, hK, m, hm, s, hs => by
   obtain ⟨m, rfl⟩ : ∃ k, m = k + 1 := ⟨m - 1, by omega⟩
   obtain ⟨hx, hd', hlt⟩ := zmc hd
   have hxm := List.mem_of_getElem? hx
   have hlen : ((OD L).length : Int) = (L.length : Int) := by simp
   have h77 := zqz fr room nur hfr x.k x.a x.b w hI.g hf (by have := hI.out; omega) kk (by omega)
   have hI' := zjf (room := room) (nur := nur) (k := x.k) (b := x.b) hI hr (by omega) (ha x hxm)
   have hxd := ih (gm (f := Op3.d) hx)
   have hrun : runW fr room nur (x :: l) w = (match (opW fr room nur x.k x.a x.b w).full with | true => opW fr room nur x.k x.a x.b w | false => runW fr room nur l (opW fr room nur x.k x.a x.b w)) := rfl
   rw [hrun] at hK
   have ihl := zep hfr hr b L hL ha hkk (K := K) l (i + 1) (opW fr room nur x.k x.a x.b w) hd' (by simp at hi; omega) hI'
   generalize opW fr room nur x.k x.a x.b w = p at h77 hI' hK ihl
   refine zl0 kk m b _ _ _ _ _ _ room nur w.full i p.h.o _ _ _ _ p.full x.k x.a x.b hs (fun _ d => ⟨hxd, h77, ?_⟩) (fun _ d => ⟨hxd, h77, fun s' hs' => ?_⟩) (fun d => absurd (of_decide_eq_false d) (by omega))
   · rw [d] at hK
     exact hK
   · rw [d] at hK
     refine ihl d hK m (by simp at hm; omega) s' ?_
     rw [hs', wi i (by omega)]
     rfl
theorem zkG (hfr : fr = decide (room < 0)) (hr : fr = false → room ≤ 200) (b : Bool) (L : List Op3) (hL : L.length ≤ 150) (ha : ∀ x ∈ L, In64 x.a) : EvN 1050500 49 [.dat (.lst b (OD L)), .dat (I room), .dat (I nur)] [] [] ([.ptr (.loc 0) 0], [WrD (runW fr room nur L w00) room nur], []) := by
 refine zaw Go.Proofs.Tryd.f49 1050499 (by kernel_rfl) (by kernel_rfl) fun kk hkk => ?_
 refine playW kk b _ room nur _ _ _ _ _ _ ⟨?_, rfl⟩
 exact zcj fun s hs => zep hfr hr b L hL ha (by omega) L 0 w00 rfl (by simp) (iv00 fr) rfl ⟨rfl, rfl⟩ kk (by omega) s hs
end
theorem zdw (x : ByteArray) : zdW (zai x) = some (.string x) := by
 have key : ∀ l : List UInt8, zej (l.map fun b => Dat.val (.int .u8 (b.toNat : Int))) = some l := by
  intro l
  induction l with
  | nil => rfl
  | cons b l ih =>
    show (zej (l.map _)).map (UInt8.ofNat ((b.toNat : Int)).toNat :: ·) = some (b :: l)
    rw [ih, Int.toNat_natCast]
    simp
 unfold zdW zai
 rw [key]
 simp
noncomputable def zeD (L : List Op3) : ByteArray × Bool := match decide (150 < (L.length : Int)) with | true => (ByteArray.mk #[], false) | false => ((runW true 0 0 L w00).out, true)
theorem zmb (b : Bool) (L : List Op3) (ha : ∀ x ∈ L, In64 x.a) : EvN 1050600 19 [.dat (.lst b (OD L))] [] [] ([.dat (S (zeD L).1), .dat (B (zeD L).2)], [], []) := by
 refine zaw Go.Proofs.Tryd.f19 1050599 (by kernel_rfl) (by kernel_rfl) fun kk hkk => ?_
 have hlen : ((OD L).length : Int) = (L.length : Int) := by simp
 unfold zeD
 rw [ziu 0 0 (-1) 1]
 refine zpZ kk b _ _ _ _ _ _ _ ByteArray.empty (fun d => by rw [← hlen, d]) (fun d => ⟨zkG (fr := true) (room := -1) (nur := 1) rfl (fun e => by cases e) b L (by have := of_decide_eq_false d; omega) ha kk (by omega), by
  show zdW (zai _) ≠ none
  rw [zdw]; simp, by
  rw [← hlen, d]
  show _ = (([.dat (.val ((zdW (zai (runW true (-1) 1 L w00).out)).getD (.string ByteArray.empty))), .dat (B true)], [], []) : Res)
  rw [zdw]; rfl⟩)
noncomputable def zcv (L : List Op3) (room nur : Int) : ByteArray × Bool × Bool := match decide (150 < (L.length : Int)) || !inB room 0 200 || !inB nur 1 200 with | true => (ByteArray.mk #[], false, false) | false => ((runW false room nur L w00).out, (runW false room nur L w00).full, true)
theorem znW (b : Bool) (L : List Op3) (room nur : Int) (ha : ∀ x ∈ L, In64 x.a) : EvN 1050600 21 [.dat (.lst b (OD L)), .dat (I room), .dat (I nur)] [] [] ([.dat (S (zcv L room nur).1), .dat (B (zcv L room nur).2.1), .dat (B (zcv L room nur).2.2)], [], []) := by
 refine zaw Go.Proofs.Tryd.f21 1050599 (by kernel_rfl) (by kernel_rfl) fun kk hkk => ?_
 have hlen : ((OD L).length : Int) = (L.length : Int) := by simp
 have h1 := zja room 0 200 kk (by omega)
 have h2 := zja nur 1 200 kk (by omega)
 unfold zcv
 refine sPlay kk b _ room nur _ _ _ _ _ _ (inB room 0 200) (inB nur 1 200) (fun d => by rw [← hlen, d]; rfl) (fun d d2 => ⟨h1, by rw [← hlen, d, d2]; rfl⟩) (fun d d2 d3 => ⟨h1, h2, by rw [← hlen, d, d2, d3]; rfl⟩) (fun d d2 d3 => ⟨h1, h2, znM (fr := false) (room := room) (nur := nur) (fun _ => ?_) b L (by have := of_decide_eq_false d; omega) ha kk (by omega), by rw [← hlen, d, d2, d3]; rfl⟩)
 simp [inB] at d2
 omega
theorem znR (b : Bool) (L : List Op3) (room nur : Int) (ha : ∀ x ∈ L, In64 x.a) : EvN 1050600 22 [.dat (.lst b (OD L)), .dat (I room), .dat (I nur)] [] [] ([.dat (S (zcv L room nur).1), .dat (B (zcv L room nur).2.1), .dat (B (zcv L room nur).2.2)], [], []) := by
 refine zaw Go.Proofs.Tryd.f22 1050599 (by kernel_rfl) (by kernel_rfl) fun kk hkk => ?_
 have hlen : ((OD L).length : Int) = (L.length : Int) := by simp
 have e1 : (!inB room 0 200) = (decide (room < 0) || decide (200 < room)) := by rw [Bool.eq_iff_iff]; simp [inB]
 have e2 : (!inB nur 1 200) = (decide (nur < 1) || decide (200 < nur)) := by rw [Bool.eq_iff_iff]; simp [inB]
 unfold zcv
 rw [e1, e2]
 refine iPlay kk b _ room nur _ _ _ _ _ _ (fun d => by rw [← hlen, d]; rfl) (fun d d2 => by rw [← hlen, d, d2]; rfl) (fun d d2 d3 => by rw [← hlen, d, d2, d3]; rfl) (fun d d2 d3 d4 => by rw [← hlen, d, d2, d3, d4]; rfl) (fun d d2 d3 d4 d5 => by rw [← hlen, d, d2, d3, d4, d5]; rfl)
  (fun d d2 d3 d4 d5 => ⟨zkG (fr := false) (room := room) (nur := nur) d2.symm (fun _ => by have := of_decide_eq_false d3; omega) b L (by have := of_decide_eq_false d; omega) ha kk (by omega), by
  show zdW (zai _) ≠ none
  rw [zdw]; simp, by
  rw [← hlen, d, d2, d3, d4, d5]
  show _ = (([.dat (.val ((zdW (zai (runW false room nur L w00).out)).getD (.string ByteArray.empty))), .dat (B (runW false room nur L w00).full), .dat (B true)], [], []) : Res)
  rw [zdw]; rfl⟩)
end Go.Den
namespace Go.Den
open Go
set_option linter.unusedVariables false
set_option maxRecDepth 100000
abbrev cp : D := .ptr (.up 0) 0
abbrev Cur (cs : List Dat) (p s : Int) : List D := [.dat (.lst false cs), .dat (I p), .dat (U64 s)]
def Bs (cs : List Dat) : Prop := cs.length ≤ 9223372036854775807 ∧ ∀ d ∈ cs, ∃ x : Int, d = Y8 x ∧ 0 ≤ x ∧ x ≤ 255
theorem zh4 : ∀ {cs : List Dat}, (∀ d ∈ cs, ∃ x : Int, d = Y8 x ∧ 0 ≤ x ∧ x ≤ 255) → Dat.cleans cs = true
 | [], _ => rfl
 | d :: cs, h => by
   obtain ⟨x, rfl, _⟩ := h d (by simp)
   have := zh4 fun e he => h e (List.mem_cons_of_mem _ he)
   simp only [Dat.cleans, this, Bool.and_true]
   rfl
theorem Bs.cleans {cs : List Dat} (h : Bs cs) : Dat.cleans cs = true := zh4 h.2
theorem Bs.box {cs : List Dat} (h : Bs cs) (p s : Int) : zax [Cur cs p s] = true := by
 have hb := h.cleans
 show (((Dat.lst false cs).clean && true) && true) = true
 show ((Dat.cleans cs && true) && true) = true
 rw [hb]
 rfl
theorem zpw {d : Dat} (h : WT cfg.ty 5 d) : ∃ x : Int, d = Y8 x ∧ 0 ≤ x ∧ x ≤ 255 := by
 obtain ⟨n, h1, h2⟩ := zp8 h (i := ⟨.int .u8, 1, 1, [], [.dat (.val (.int .u8 0))]⟩) (by kernel_rfl) rfl
 refine ⟨n, h1, ?_⟩
 simp only [Lit.wf, Bool.and_eq_true, decide_eq_true_eq] at h2
 exact h2
theorem zob {d : Dat} (h : WT cfg.ty 45 d) : ∃ cs : List Dat, d = .lst false cs ∧ Bs cs := by
 obtain ⟨es, rfl, hl, hx⟩ := zqa h (i := ⟨.slice 5, 1, 24, [], [.own 5 []]⟩) (by kernel_rfl) rfl
 exact ⟨es, rfl, hl, fun x hxe => zpw (hx x hxe)⟩
theorem zno (n : Nat) (h : n ≤ 255) : w64 (IntKind.u64.wrap (n : Int)) = n := by
 have : IntKind.u64.wrap (n : Int) = n := by
  simp [IntKind.wrap, IntKind.bits, IntKind.signed]; omega
 rw [this, zbm (by omega)]
theorem zpx (x : Int) : ((BitVec.ofInt IntKind.u64.bits x &&& BitVec.ofInt IntKind.u64.bits 255).toNat : Nat) ≤ 255 := by
 rw [BitVec.toNat_and]
 exact Nat.and_le_right
theorem zlX {cs : List Dat} (hb : Bs cs) (p s : Int) (h0 : 0 ≤ p) (h1 : p ≤ 1000000) : ∃ z s' : Int, 0 ≤ z ∧ z ≤ 255 ∧ EvN 1 80 [cp] [Cur cs p s] [] ([.dat (I z)], [Cur cs (p + 1) s'], []) := by
 have hp : w64 (p + 1) = p + 1 := zbm (by omega)
 by_cases hlt : p < (cs.length : Int)
 · have hget : cs[p.toNat]? = some (cs[p.toNat]'(by omega)) := List.getElem?_eq_getElem (by omega)
   obtain ⟨x, hx, hx0, hx1⟩ := hb.2 _ (List.getElem_mem (l := cs) (n := p.toNat) (by omega))
   refine ⟨x, IntKind.u64.wrap (IntKind.u64.wrap (IntKind.u64.wrap (s * 6364136223846793005) + IntKind.u64.wrap (w64 x)) + 1442695040888963407), hx0, hx1, zaw Go.Proofs.Tryd.f80 0 (by kernel_rfl) (by kernel_rfl) fun kk _ => ?_⟩
   have := zpy kk cs p s x (decide_eq_true hlt) ⟨⟨h0, hlt⟩, by rw [hget, hx]⟩ (by rw [hp]; exact decide_eq_true (by omega))
   have hx' : w64 x = x := zbm (by omega)
   rw [hp] at this
   rw [hx'] at this ⊢
   exact this
 · have h := fun kk => zoj kk cs p s (decide_eq_false hlt) (by rw [hp]; exact decide_eq_false (by omega))
   simp only [hp] at h
   generalize hS : IntKind.u64.wrap (IntKind.u64.wrap (IntKind.u64.wrap (s * 6364136223846793005) + IntKind.u64.wrap 0) + 1442695040888963407) = S' at h
   have hz := zpx (S'.fdiv (2 ^ min (Int.toNat 40) IntKind.u64.bits))
   generalize hZ : (BitVec.ofInt IntKind.u64.bits (S'.fdiv (2 ^ min (Int.toNat 40) IntKind.u64.bits)) &&& BitVec.ofInt IntKind.u64.bits 255).toNat = Z at h hz
   rw [zno Z hz] at h
   exact ⟨Z, S', by omega, by omega, zaw Go.Proofs.Tryd.f80 0 (by kernel_rfl) (by kernel_rfl) fun kk _ => h kk⟩
theorem zbS {cs : List Dat} (hb : Bs cs) (n p s : Int) (h0 : 0 ≤ p) (h1 : p ≤ 900000) (hn : n ≤ 1000000) : ∃ z p' s' : Int, p ≤ p' ∧ p' ≤ p + 2 ∧ 0 ≤ z ∧ (z < n ∨ z = 0) ∧
 EvN 2 54 [cp, .dat (I n)] [Cur cs p s] [] ([.dat (I z)], [Cur cs p' s'], []) := by
 by_cases h : n ≤ 1
 · refine ⟨0, p, s, by omega, by omega, by omega, .inr rfl, zaw Go.Proofs.Tryd.f54 1 (by kernel_rfl) (by kernel_rfl) fun kk _ => ?_⟩
   exact zqC kk cs p s n (decide_eq_true h)
 · obtain ⟨z, s', hz0, hz1, hz⟩ := zlX hb p s h0 (by omega)
   by_cases hbig : 200 < n
   · obtain ⟨w, s2, hw0, hw1, hw⟩ := zlX hb (p + 1) s' (by omega) (by omega)
     refine ⟨(z * 256 + w).tmod n, p + 1 + 1, s2, by omega, by omega, Int.tmod_nonneg _ (by omega), .inl (Int.tmod_lt_of_pos _ (by omega)), zaw Go.Proofs.Tryd.f54 1 (by kernel_rfl) (by kernel_rfl) fun kk hk => ?_⟩
     have := zp3 kk cs p s (p + 1) s' (p + 1 + 1) s2 n z w (decide_eq_false h) (hz kk hk) (decide_eq_true hbig) (hw kk hk) (by omega)
     rw [zbm (n := z * 256) (by omega), zbm (n := z * 256 + w) (by omega)] at this
     exact this
   · refine ⟨z.tmod n, p + 1, s', by omega, by omega, Int.tmod_nonneg _ (by omega), .inl (Int.tmod_lt_of_pos _ (by omega)), zaw Go.Proofs.Tryd.f54 1 (by kernel_rfl) (by kernel_rfl) fun kk hk => ?_⟩
     exact zqd kk cs p s (p + 1) s' n z (decide_eq_false h) (hz kk hk) (decide_eq_false hbig) (by omega)
theorem zgm {cs : List Dat} (hb : Bs cs) (n p s : Int) (h0 : 0 ≤ p) (h1 : p ≤ 900000) (hn : n ≤ 1000000) : ∃ (b : Bool) (p' s' : Int), p ≤ p' ∧ p' ≤ p + 2 ∧
 EvN 3 55 [cp, .dat (I n)] [Cur cs p s] [] ([.dat (B b)], [Cur cs p' s'], []) := by
 obtain ⟨z, p', s', hp1, hp2, _, _, hz⟩ := zbS hb n p s h0 h1 hn
 exact ⟨decide (z = 0), p', s', hp1, hp2, zaw Go.Proofs.Tryd.f55 2 (by kernel_rfl) (by kernel_rfl) fun kk hk => one_ kk cs p s p' s' n z (hz kk hk)⟩
theorem zdz {cs : List Dat} (hb : Bs cs) (b : Bool) (vs : List Int) (p s : Int) (h0 : 0 ≤ p) (h1 : p ≤ 900000) (hv : 0 < vs.length ∧ vs.length ≤ 100000) : ∃ (v p' s' : Int), v ∈ vs ∧ p ≤ p' ∧ p' ≤ p + 2 ∧
 EvN 3 69 [cp, .dat (.lst b (vs.map I))] [Cur cs p s] [] ([.dat (I v)], [Cur cs p' s'], []) := by
 obtain ⟨z, p', s', hp1, hp2, hz0, hz1, hz⟩ := zbS hb (vs.length : Int) p s h0 h1 (by omega)
 have hlt : z.toNat < vs.length := by omega
 refine ⟨vs[z.toNat], p', s', List.getElem_mem _, hp1, hp2, zaw Go.Proofs.Tryd.f69 2 (by kernel_rfl) (by kernel_rfl) fun kk hk => ?_⟩
 refine among kk cs p s p' s' b (vs.map I) z vs[z.toNat] ?_ ⟨⟨hz0, by rw [List.length_map]; omega⟩, ?_⟩
 · rw [List.length_map]; exact hz kk hk
 · rw [List.getElem?_map, List.getElem?_eq_getElem hlt]; rfl
theorem zi2 {α : Type} {E : Nat → Env} {c : Code} {N : Nat} (st : Nat → α → St) (P : Nat → α → Prop) (n : Nat)
 (hgo : ∀ i a, i < n → P i a → ∃ a', P (i + 1) a' ∧ ∀ kk : Nat, N ≤ kk → ∀ (m : Nat) (s : St) (K : X → St → Prop), s.norm ((E kk).live (zaa c)) = st i a → (∀ s : St, s.norm ((E kk).live (zaa c)) = st (i + 1) a' → zae (E kk) kk c m s K) → zae (E kk) kk c (m + 1) s K) :
 ∀ (d i : Nat) (a : α), i + d = n → P i a → ∃ a', P n a' ∧ ∀ kk : Nat, N ≤ kk → ∀ K : X → St → Prop, (∀ (m : Nat) (s : St), s.norm ((E kk).live (zaa c)) = st n a' → zae (E kk) kk c (m + 1) s K) → ∀ m, d < m → ∀ s : St, s.norm ((E kk).live (zaa c)) = st i a → zae (E kk) kk c m s K := by
 intro d
 induction d with
 | zero =>
   intro i a hi hP
   have : i = n := by omega
   subst this
   refine ⟨a, hP, fun kk hkk K hend m hm s hs => ?_⟩
   obtain ⟨m, rfl⟩ : ∃ k, m = k + 1 := ⟨m - 1, by omega⟩
   exact hend m s hs
 | succ d ih =>
   intro i a hi hP
   obtain ⟨a1, hP1, hstep⟩ := hgo i a (by omega) hP
   obtain ⟨a', hP', f⟩ := ih (i + 1) a1 (by omega) hP1
   refine ⟨a', hP', fun kk hkk K hend m hm s hs => ?_⟩
   obtain ⟨m, rfl⟩ : ∃ k, m = k + 1 := ⟨m - 1, by omega⟩
   exact hstep kk hkk m s K hs fun s hs => f kk hkk K hend m (by omega) s hs
theorem zjr {α : Type} {N f : Nat} {fn : Func} {r : Nat} {x : X} (st : Nat → α → St) (fin : α → St) (P : Nat → α → Prop) (n : Nat) (hk : n < N) (a0 : α) (h0 : P 0 a0)
 (hgo : ∀ i a, i < n → P i a → ∃ a', P (i + 1) a' ∧ ∀ kk : Nat, N ≤ kk → ∀ (m : Nat) (s : St) (K : X → St → Prop), s.norm ((zad cfg kk f fn).live (zaa (lp fn r))) = st i a → (∀ s : St, s.norm ((zad cfg kk f fn).live (zaa (lp fn r))) = st (i + 1) a' → zae (zad cfg kk f fn) kk (lp fn r) m s K) → zae (zad cfg kk f fn) kk (lp fn r) (m + 1) s K)
 (hend : ∀ a, P n a → ∀ kk : Nat, N ≤ kk → ∀ (m : Nat) (s : St) (K : X → St → Prop), s.norm ((zad cfg kk f fn).live (zaa (lp fn r))) = st n a → K x (fin a) → zae (zad cfg kk f fn) kk (lp fn r) (m + 1) s K) {s0 : St} (hs0 : s0 = st 0 a0) :
 ∃ a, P n a ∧ ∀ kk : Nat, N ≤ kk → zao cfg kk f fn r s0 x (fin a) := by
 obtain ⟨a', hP', f⟩ := zi2 (E := fun kk => zad cfg kk f fn) st P n hgo n 0 a0 (by omega) h0
 exact ⟨a', hP', fun kk hkk => zcj fun s hs => f kk hkk _ (fun m s hs => hend a' hP' kk hkk m s _ hs ⟨rfl, rfl⟩) kk (by omega) s (by rw [hs, hs0])⟩
theorem tmod6 {z n : Int} (h0 : 0 ≤ z) (h : z < n ∨ z = 0) (hn : n ≤ 1000) : In64 z := ⟨by omega, by omega⟩
theorem zfj {cs : List Dat} (hb : Bs cs) (p u : Int) : (true && !(true && (true && zax [Cur cs p u])) || false) = false := by rw [hb.box]; rfl
abbrev K68 : List Int := [1, 1, 2, 2, 3, 4, 5, 5, 6, 6, 7, 7, 8, 8, 9, 10, 11]
theorem zi7 {cs : List Dat} (hb : Bs cs) (n p u : Int) (hn0 : 0 ≤ n) (hn : n ≤ 200) (h0 : 0 ≤ p) (h1 : p ≤ 100000) :
 ∃ (L : List Op3) (p' u' : Int), (∀ x ∈ L, In64 x.a) ∧ L.length ≤ 200 ∧ p ≤ p' ∧ p' ≤ p + 4000 ∧ ∀ kk : Nat, 300 ≤ kk → zao cfg kk 68 Go.Proofs.Tryd.f68 6 (hd68 cs [] n p u 0) (.exit 0) (Nm [0, 3] [.ptr (.up 0) 0, .own 72 (OD L)] [none, none] [Cur cs p' u'] []) := by
 obtain ⟨t, ht, la⟩ := zjr (N := 300) (f := 68) (fn := Go.Proofs.Tryd.f68) (r := 6) (x := .exit 0) (fun i (t : List Op3 × Int × Int) => hd68 cs (OD t.1) n t.2.1 t.2.2 (i : Int))
  (fun t => Nm [0, 3] [.ptr (.up 0) 0, .own 72 (OD t.1)] [none, none] [Cur cs t.2.1 t.2.2] [])
  (fun i t => (∀ x ∈ t.1, In64 x.a) ∧ t.1.length = i ∧ p ≤ t.2.1 ∧ t.2.1 ≤ p + 20 * (i : Int)) n.toNat (by omega) ([], p, u) ⟨by simp, rfl, Int.le_refl _, by simp⟩
  (fun i t hi hP => by
   obtain ⟨L, q, w⟩ := t
   obtain ⟨ha, hl, hp0, hp1⟩ := hP
   simp only at ha hl hp0 hp1
   have hq1 : p + 20 * (i : Int) ≤ 104000 := by omega
   obtain ⟨k, q1, w1, hk, b1, c1, e1⟩ := zdz hb true K68 q w (by omega) (by omega) (by decide)
   obtain ⟨a, q2, w2, b2, c2, a0, a1, e2⟩ := zbS hb 6 q1 w1 (by omega) (by omega) (by omega)
   obtain ⟨b, q3, w3, b3, c3, _, _, e3⟩ := zbS hb 6 q2 w2 (by omega) (by omega) (by omega)
   obtain ⟨g, q4, w4, b4, c4, e4⟩ := zgm hb 40 q3 w3 (by omega) (by omega) (by omega)
   have hw : w64 ((i : Int) + 1) = ((i + 1 : Nat) : Int) := wi i (by omega)
   have hod : (OD L).length + 1 ≤ 2147483648 := by rw [List.length_map]; omega
   cases g with
   | false =>
     refine ⟨(L ++ [⟨k, a, b⟩], q4, w4), ⟨fun x hx => ?_, by simp [hl], by show p ≤ q4; omega, by show q4 ≤ _; omega⟩, fun kk hkk m s K hs hn => zhg kk m cs (OD L) n i k a b 0 0 0 false q w q1 w1 q2 w2 q3 w3 q4 w4 0 0 0 0 0 0 hs (fun _ d => by cases d) (fun _ _ => ⟨e1 kk (by omega), zfj hb _ _, e2 kk (by omega), e3 kk (by omega), e4 kk (by omega), hod, fun s' hs' => hn s' ?_⟩) (fun d => absurd (of_decide_eq_false d) (by omega))⟩
     · rcases List.mem_append.1 hx with hx | hx
       · exact ha x hx
       · rw [List.mem_singleton.1 hx]; exact tmod6 a0 a1 (by omega)
     · rw [hs', hw, show OD (L ++ [(⟨k, a, b⟩ : Op3)]) = OD L ++ [N3 k a b] by simp]
       rfl
   | true =>
     obtain ⟨k2, q5, w5, b5, c5, _, _, e5⟩ := zbS hb 13 q4 w4 (by omega) (by omega) (by omega)
     obtain ⟨a2, q6, w6, ha2, b6, c6, e6⟩ := zdz hb true [-1, 60, 5] q5 w5 (by omega) (by omega) (by decide)
     obtain ⟨b2', q7, w7, b7, c7, _, _, e7⟩ := zbS hb 3 q6 w6 (by omega) (by omega) (by omega)
     refine ⟨(L ++ [⟨k2, a2, b2'⟩], q7, w7), ⟨fun x hx => ?_, by simp [hl], by show p ≤ q7; omega, by show q7 ≤ _; omega⟩, fun kk hkk m s K hs hn => zhg kk m cs (OD L) n i k a b k2 a2 b2' true q w q1 w1 q2 w2 q3 w3 q4 w4 q5 w5 q6 w6 q7 w7 hs (fun _ _ => ⟨e1 kk (by omega), zfj hb _ _, e2 kk (by omega), e3 kk (by omega), e4 kk (by omega), e5 kk (by omega), e6 kk (by omega), zfj hb _ _, e7 kk (by omega), hod, fun s' hs' => hn s' ?_⟩) (fun _ d => by cases d) (fun d => absurd (of_decide_eq_false d) (by omega))⟩
     · rcases List.mem_append.1 hx with hx | hx
       · exact ha x hx
       · rw [List.mem_singleton.1 hx]
         show In64 a2
         simp only [List.mem_cons, List.not_mem_nil, or_false] at ha2
         unfold In64
         omega
     · rw [hs', hw, show OD (L ++ [(⟨k2, a2, b2'⟩ : Op3)]) = OD L ++ [N3 k2 a2 b2'] by simp]
       rfl)
  (fun t hP kk hkk q s K hs hK => zhg kk q cs (OD t.1) n _ 0 0 0 0 0 0 true t.2.1 t.2.2 0 0 0 0 0 0 0 0 0 0 0 0 0 0 hs (fun d => absurd (of_decide_eq_true d) (by omega)) (fun d => absurd (of_decide_eq_true d) (by omega)) (fun _ => hK))
  (s0 := hd68 cs [] n p u 0) rfl
 obtain ⟨L, q, w⟩ := t
 obtain ⟨ha, hl, hp0, hp1⟩ := ht
 exact ⟨L, q, w, ha, by have : L.length = n.toNat := hl; show L.length ≤ 200; omega, hp0, by show q ≤ _; have : q ≤ p + 20 * (n.toNat : Int) := hp1; omega, la⟩
theorem zmF {cs : List Dat} (hb : Bs cs) (p u : Int) (h0 : 0 ≤ p) (h1 : p ≤ 50000) : ∃ (L : List Op3) (p' u' : Int), (∀ x ∈ L, In64 x.a) ∧ L.length ≤ 400 ∧ p ≤ p' ∧ p' ≤ p + 5000 ∧
 EvN 301 68 [cp] [Cur cs p u] [] ([.own 72 (OD L)], [Cur cs p' u'], []) := by
 obtain ⟨z, q1, w1, b1, c1, z0, z1, e1⟩ := zbS hb 40 p u h0 (by omega) (by omega)
 obtain ⟨g, q2, w2, b2, c2, e2⟩ := zgm hb 8 q1 w1 (by omega) (by omega) (by omega)
 obtain ⟨y, q3, w3, b3, c3, y0, y1, e3⟩ := zbS hb 61 q2 w2 (by omega) (by omega) (by omega)
 obtain ⟨n, q4, w4, hn0, hn1, b4, c4, hg, hng⟩ : ∃ n q4 w4 : Int, 0 ≤ n ∧ n ≤ 200 ∧ q2 ≤ q4 ∧ q4 ≤ q2 + 2 ∧ (g = true → n = w64 (90 + y) ∧ q4 = q3 ∧ w4 = w3) ∧ (g = false → n = z ∧ q4 = q2 ∧ w4 = w2) := by
  by_cases hg : g = true
  · exact ⟨w64 (90 + y), q3, w3, by rw [zbm (by omega)]; omega, by rw [zbm (by omega)]; omega, b3, c3, fun _ => ⟨rfl, rfl, rfl⟩, fun e => absurd (hg.symm.trans e) (by decide)⟩
  · exact ⟨z, q2, w2, z0, by omega, Int.le_refl _, by omega, fun e => absurd e hg, fun _ => ⟨rfl, rfl, rfl⟩⟩
 obtain ⟨L, q5, w5, ha, hl, b5, c5, la⟩ := zi7 hb n q4 w4 hn0 hn1 (by omega) (by omega)
 obtain ⟨g42, q6, w6, b6, c6, e6⟩ := zgm hb 60 q5 w5 (by omega) (by omega) (by omega)
 have hlen : (OD L).length + 150 ≤ 2147483648 := by rw [List.length_map]; omega
 have hz : OD (L ++ List.replicate 150 ⟨0, 0, 0⟩) = OD L ++ List.replicate 150 (N3 0 0 0) := by simp
 have hhd : ∀ (p p' u u' m m' : Int), p = p' → u = u' → m = m' → hd68 cs [] m p u 0 = hd68 cs [] m' p' u' 0 := fun _ _ _ _ _ _ a b c => by rw [a, b, c]
 refine ⟨if g42 = true then L ++ List.replicate 150 ⟨0, 0, 0⟩ else L, q6, w6, ?_, ?_, by omega, by omega, zaw Go.Proofs.Tryd.f68 300 (by kernel_rfl) (by kernel_rfl) fun kk hkk => ?_⟩
 · intro x hx
   split at hx
   · rcases List.mem_append.1 hx with hx | hx
     · exact ha x hx
     · rw [(List.mem_replicate.1 hx).2]; exact ⟨by decide, by decide⟩
   · exact ha x hx
 · split
   · simp only [List.length_append, List.length_replicate]; omega
   · exact Nat.le_trans hl (by decide)
 · have E1 := e1 kk (by omega)
   have E2 := e2 kk (by omega)
   have E3 := e3 kk (by omega)
   have E6 := e6 kk (by omega)
   have LA := la kk (by omega)
   refine zqy kk cs (OD L) z y n g g42 p u q1 w1 q2 w2 q3 w3 q4 w4 q5 w5 q6 w6 (fun d d2 => ⟨E1, E2, E3, ?_, LA, E6, hlen, ?_⟩) (fun d d2 => ⟨E1, E2, E3, ?_, LA, E6, ?_⟩) (fun d d2 => ⟨E1, E2, ?_, LA, E6, hlen, ?_⟩) (fun d d2 => ⟨E1, E2, ?_, LA, E6, ?_⟩)
   · obtain ⟨a, b, c⟩ := hg d
     rw [a, b, c]; rfl
   · rw [if_pos d2, hz]; rfl
   · obtain ⟨a, b, c⟩ := hg d
     rw [a, b, c]; rfl
   · rw [if_neg (by rw [d2]; decide)]
   · obtain ⟨a, b, c⟩ := hng d
     rw [a, b, c]; rfl
   · rw [if_pos d2, hz]; rfl
   · obtain ⟨a, b, c⟩ := hng d
     rw [a, b, c]; rfl
   · rw [if_neg (by rw [d2]; decide)]
end Go.Den
namespace Go.Den
open Go
set_option linter.unusedVariables false
set_option maxRecDepth 100000
structure Twin (p q : Hp) (R : Int → Int → Prop) : Prop where
 lim : ∀ {i j}, R i j → (0 ≤ i ∧ i < (p.cs.length : Int)) ∧ 0 ≤ j ∧ j < (q.cs.length : Int)
 cell : ∀ {i j}, R i j → (cg p.cs i).l = (cg q.cs j).l ∧ (cg p.cs i).n = (cg q.cs j).n ∧ ((cg p.cs i).l = false → R (cg p.cs i).a (cg q.cs j).a ∧ R (cg p.cs i).b (cg q.cs j).b)
 one : ∀ {i j i' j'}, R i j → R i' j' → (i = i' ↔ j = j')
 len : p.rs.length = q.rs.length
 root : ∀ k : Nat, k < p.rs.length → R (p.rs.getD k 0) (q.rs.getD k 0)
def Twins (p q : Hp) : Prop := ∃ R, Twin p q R
theorem Twin.rg {p q : Hp} {R : Int → Int → Prop} (t : Twin p q R) {a : Int} (h : zac a p.rs.length = true) : R (rg p a) (rg q a) := t.root _ (by have := zhB h; omega)
theorem zmA {m : List Bool} : ∀ {c : List Cl} {l : List Bool} {i : Nat} {x : Cl}, c[i]? = some x → l[i]? = some true → (mvCs m c l)[(l.take i).count true]? = some (mvC m x)
 | [], _, _, _, h, _ => by simp at h
 | _ :: _, [], _, _, _, h => by simp at h
 | y :: c, b :: l, 0, x, h1, h2 => by
   simp only [List.getElem?_cons_zero, Option.some.injEq] at h1 h2
   subst h1
   subst h2
   simp [mvCs]
 | y :: c, b :: l, i + 1, x, h1, h2 => by
   have := zmA (m := m) (c := c) (l := l) (i := i) (x := x) (by simpa using h1) (by simpa using h2)
   cases b <;> simp [mvCs, this]
theorem zpa {m : List Bool} {x y : Int} (hx : 0 ≤ x) (hy : 0 ≤ y) (kx : K m x) (ky : K m y) (e : cnt m x = cnt m y) : x = y := by
 have key : ∀ x y : Int, 0 ≤ x → x < y → K m x → K m y → cnt m x < cnt m y := fun x y hx hlt kx ky => by
  have h1 := K_lt hx kx
  have h2 := K_lt (by omega) ky
  obtain ⟨x, rfl⟩ := Int.eq_ofNat_of_zero_le hx
  obtain ⟨y, rfl⟩ := Int.eq_ofNat_of_zero_le (show 0 ≤ y by omega)
  have h3 := zj9 m x (by omega) kx
  have h4 := zkq m (show x + 1 ≤ y by omega)
  omega
 rcases Int.lt_trichotomy x y with h | h | h
 · have := key x y hx h kx ky; omega
 · exact h
 · have := key y x hy h ky kx; omega
theorem zpU {m : List Bool} {i : Int} (h0 : 0 ≤ i) (hk : K m i) : m[i.toNat]? = some true := by
 have := K_lt h0 hk
 unfold K at hk
 rw [List.getD_eq_getElem?_getD, List.getElem?_eq_getElem (by omega)] at hk
 rw [List.getElem?_eq_getElem (by omega)]
 simpa using hk
theorem zn9 {l : List Int} {f : Int → Int} {k : Nat} (h : k < l.length) : (l.map f).getD k 0 = f (l.getD k 0) := by
 simp [List.getD_eq_getElem?_getD, h]
theorem zj5 {l : List Int} {k : Nat} (h : k < l.length) : l.getD k 0 ∈ l := by
 rw [List.getD_eq_getElem?_getD, List.getElem?_eq_getElem h]
 exact List.getElem_mem h
theorem Twin.mv {p q : Hp} {R : Int → Int → Prop} (t : Twin p q R) {m : List Bool} (hm : m.length = p.cs.length) (hs : Shut m p.cs) (hr : ∀ x ∈ p.rs, K m x) : Twins (mvH m p) q := by
 refine ⟨fun i j => ∃ x, 0 ≤ x ∧ K m x ∧ i = cnt m x ∧ R x j, ?_, ?_, ?_, ?_, ?_⟩
 · rintro i j ⟨x, h0, hk, rfl, hR⟩
   have := zks h0 hk
   have h2 := zhf hm
   exact ⟨⟨this.1, by show _ < ((mvCs m p.cs m).length : Int); omega⟩, (t.lim hR).2⟩
 · rintro i j ⟨x, h0, hk, rfl, hR⟩
   have hl := (t.lim hR).1
   have hc := ziQ hl.1 hl.2
   have := zmA (m := m) hc (zpU h0 hk)
   have e : cg (mvH m p).cs (cnt m x) = mvC m (cg p.cs x) := zka (by show (mvCs m p.cs m)[_]? = _; unfold cnt; rw [Int.toNat_natCast]; exact this)
   obtain ⟨c1, c2, c3⟩ := t.cell hR
   rw [e]
   unfold mvC
   split
   · rename_i h
     exact ⟨c1, c2, fun h' => by rw [h] at h'; cases h'⟩
   · rename_i h
     have h : (cg p.cs x).l = false := by simpa using h
     obtain ⟨x', rfl⟩ := Int.eq_ofNat_of_zero_le h0
     obtain ⟨⟨a0, ka⟩, b0, kb⟩ := hs x' hk h
     exact ⟨c1, c2, fun _ => ⟨⟨_, a0, ka, rfl, (c3 h).1⟩, ⟨_, b0, kb, rfl, (c3 h).2⟩⟩⟩
 · rintro i j i' j' ⟨x, h0, hk, rfl, hR⟩ ⟨x', h0', hk', rfl, hR'⟩
   rw [← t.one hR hR']
   exact ⟨fun e => zpa h0 h0' hk hk' e, fun e => by rw [e]⟩
 · show (p.rs.map (cnt m)).length = _
   rw [List.length_map, t.len]
 · intro k hk
   have hk : k < p.rs.length := by
    have : k < (p.rs.map (cnt m)).length := hk
    simpa using this
   have hR := t.root k hk
   exact ⟨p.rs.getD k 0, (t.lim hR).1.1, hr _ (zj5 hk), zn9 hk, hR⟩
theorem Twins.full {p q : Hp} (g : Hg p) (t : Twins p q) : Twins (zb5 p) q := by
 obtain ⟨R, t⟩ := t
 exact t.mv (zaT _ _) (zdU g) (zdJ g)
theorem Twins.young {p q : Hp} (g : Hg p) (t : Twins p q) : Twins (zaF p) q := by
 obtain ⟨R, t⟩ := t
 exact t.mv (zaT _ _) (zdE g) (zdy g)
theorem zoI {c : List Cl} {x : Cl} {i : Int} (h0 : 0 ≤ i) (h : i < (c.length : Int)) : cg (c ++ [x]) i = cg c i := by
 unfold cg
 rw [List.getD_eq_getElem?_getD, List.getD_eq_getElem?_getD, List.getElem?_append_left (by omega)]
theorem zoL {c : List Cl} {x : Cl} : cg (c ++ [x]) (c.length : Int) = x := by
 unfold cg
 rw [Int.toNat_natCast]
 simp
theorem zce {l : List Int} {x : Int} {k : Nat} (h : k < (l ++ [x]).length) : (k < l.length ∧ (l ++ [x]).getD k 0 = l.getD k 0) ∨ (k = l.length ∧ (l ++ [x]).getD k 0 = x) := by
 by_cases hk : k < l.length
 · exact .inl ⟨hk, by rw [List.getD_eq_getElem?_getD, List.getD_eq_getElem?_getD, List.getElem?_append_left hk]⟩
 · have : k = l.length := by simp at h; omega
   subst this
   exact .inr ⟨rfl, by simp⟩
theorem Twin.add {p q : Hp} {R : Int → Int → Prop} (t : Twin p q R) {c d : Cl} (h1 : c.l = d.l) (h2 : c.n = d.n) (h3 : c.l = false → R c.a d.a ∧ R c.b d.b) : Twins (addH p c) (addH q d) := by
 refine ⟨fun i j => R i j ∨ (i = (p.cs.length : Int) ∧ j = (q.cs.length : Int)), ?_, ?_, ?_, ?_, ?_⟩
 · rintro i j hR
   show (0 ≤ i ∧ i < ((p.cs ++ [c]).length : Int)) ∧ 0 ≤ j ∧ j < ((q.cs ++ [d]).length : Int)
   rw [List.length_append, List.length_append]
   simp only [List.length_singleton]
   rcases hR with hR | ⟨rfl, rfl⟩
   · have := t.lim hR; omega
   · omega
 · rintro i j (hR | ⟨rfl, rfl⟩)
   · obtain ⟨l1, l2⟩ := t.lim hR
     have e1 : cg (addH p c).cs i = cg p.cs i := zoI l1.1 l1.2
     have e2 : cg (addH q d).cs j = cg q.cs j := zoI l2.1 l2.2
     rw [e1, e2]
     obtain ⟨c1, c2, c3⟩ := t.cell hR
     exact ⟨c1, c2, fun h => ⟨.inl (c3 h).1, .inl (c3 h).2⟩⟩
   · have e1 : cg (addH p c).cs (p.cs.length : Int) = c := zoL
     have e2 : cg (addH q d).cs (q.cs.length : Int) = d := zoL
     rw [e1, e2]
     exact ⟨h1, h2, fun h => ⟨.inl (h3 h).1, .inl (h3 h).2⟩⟩
 · rintro i j i' j' (hR | ⟨rfl, rfl⟩) (hR' | ⟨rfl, rfl⟩)
   · exact t.one hR hR'
   · have := t.lim hR; omega
   · have := t.lim hR'; omega
   · simp
 · show (p.rs ++ [_]).length = (q.rs ++ [_]).length
   simp [t.len]
 · intro k hk
   show R ((p.rs ++ [(p.cs.length : Int)]).getD k 0) ((q.rs ++ [(q.cs.length : Int)]).getD k 0) ∨ _
   have hl := t.len
   rcases zce (l := p.rs) (x := (p.cs.length : Int)) hk with ⟨h, e⟩ | ⟨h, e⟩
   · rcases zce (l := q.rs) (x := (q.cs.length : Int)) (k := k) (by simp; omega) with ⟨_, e'⟩ | ⟨h', _⟩
     · exact .inl (by rw [e, e']; exact t.root k h)
     · omega
   · rcases zce (l := q.rs) (x := (q.cs.length : Int)) (k := k) (by simp; omega) with ⟨h', _⟩ | ⟨_, e'⟩
     · omega
     · exact .inr ⟨e, e'⟩
theorem Twin.rooted {p q : Hp} {R : Int → Int → Prop} (t : Twin p q R) {r s : Int} (h : R r s) : Twins (znL p r) (znL q s) := by
 refine ⟨R, t.lim, t.cell, t.one, ?_, ?_⟩
 · show (p.rs ++ [_]).length = (q.rs ++ [_]).length
   simp [t.len]
 · intro k hk
   show R ((p.rs ++ [r]).getD k 0) ((q.rs ++ [s]).getD k 0)
   have hl := t.len
   rcases zce (l := p.rs) (x := r) hk with ⟨h, e⟩ | ⟨h, e⟩
   · rcases zce (l := q.rs) (x := s) (k := k) (by simp; omega) with ⟨_, e'⟩ | ⟨h', _⟩
     · rw [e, e']; exact t.root k h
     · omega
   · rcases zce (l := q.rs) (x := s) (k := k) (by simp; omega) with ⟨h', _⟩ | ⟨_, e'⟩
     · omega
     · rw [e, e']; assumption
theorem zh2 (l : List Int) (a k : Nat) : (l.take a ++ l.drop (a + 1)).getD k 0 = l.getD (if k < a then k else k + 1) 0 ∨ l.length ≤ a := by
 by_cases ha : a < l.length
 · left
   rw [List.getD_eq_getElem?_getD, List.getD_eq_getElem?_getD]
   split
   · rename_i h
     rw [List.getElem?_append_left (by simp; omega), List.getElem?_take_of_lt h]
   · rename_i h
     rw [List.getElem?_append_right (by simp; omega), List.getElem?_drop]
     congr 2
     simp; omega
 · exact .inr (by omega)
theorem Twin.dropped {p q : Hp} {R : Int → Int → Prop} (t : Twin p q R) {a : Int} (ha : zac a p.rs.length = true) : Twins (zhF p a) (zhF q a) := by
 have hl := t.len
 have hb := zhB ha
 have e1 : (zhF p a).rs.length = p.rs.length - 1 := by show (p.rs.take a.toNat ++ p.rs.drop (a.toNat + 1)).length = _; simp; omega
 have e2 : (zhF q a).rs.length = q.rs.length - 1 := by show (q.rs.take a.toNat ++ q.rs.drop (a.toNat + 1)).length = _; simp; omega
 refine ⟨R, t.lim, t.cell, t.one, by omega, fun k hk => ?_⟩
 show R ((p.rs.take a.toNat ++ p.rs.drop (a.toNat + 1)).getD k 0) ((q.rs.take a.toNat ++ q.rs.drop (a.toNat + 1)).getD k 0)
 rcases zh2 p.rs a.toNat k with h | h
 · rcases zh2 q.rs a.toNat k with h' | h'
   · rw [h, h']
     refine t.root _ ?_
     split <;> omega
   · omega
 · omega
theorem zoH {c : List Cl} {x : Cl} {i j : Int} (h0 : 0 ≤ i) (h : i < (c.length : Int)) (hj : 0 ≤ j) : cg (c.set i.toNat x) j = if j = i then x else cg c j := by
 unfold cg
 rw [List.getD_eq_getElem?_getD, List.getD_eq_getElem?_getD]
 split
 · rename_i e
   subst e
   rw [List.getElem?_set_self (by omega)]
   rfl
 · rename_i e
   rw [List.getElem?_set_ne (by omega)]
theorem Twin.written {p q : Hp} {R : Int → Int → Prop} (t : Twin p q R) {x y to to' : Int} (second : Bool) (h : R x y) (h' : R to to') : Twins (setH p x second to) (setH q y second to') := by
 have hx := t.lim h
 obtain ⟨c1, c2, c3⟩ := t.cell h
 refine ⟨R, fun {i j} hR => ?_, fun {i j} hR => ?_, t.one, t.len, t.root⟩
 · show (0 ≤ i ∧ i < ((p.cs.set _ _).length : Int)) ∧ 0 ≤ j ∧ j < ((q.cs.set _ _).length : Int)
   rw [List.length_set, List.length_set]
   exact t.lim hR
 · have hl := t.lim hR
   have e1 : cg (setH p x second to).cs i = if i = x then setC (cg p.cs x) second to else cg p.cs i := zoH hx.1.1 hx.1.2 hl.1.1
   have e2 : cg (setH q y second to').cs j = if j = y then setC (cg q.cs y) second to' else cg q.cs j := zoH hx.2.1 hx.2.2 hl.2.1
   have h1 := t.one hR h
   rw [e1, e2]
   by_cases e : i = x
   · rw [if_pos e, if_pos (h1.1 e)]
     cases second with
     | true => exact ⟨c1, c2, fun hl => ⟨(c3 hl).1, h'⟩⟩
     | false => exact ⟨c1, c2, fun hl => ⟨h', (c3 hl).2⟩⟩
   · rw [if_neg e, if_neg (fun e' => e (h1.2 e'))]
     exact t.cell hR
theorem Twin.shows {p q : Hp} {R : Int → Int → Prop} (t : Twin p q R) : ∀ (d : Nat) {i j : Int}, R i j → showB p.cs d i = showB q.cs d j := by
 intro d
 induction d with
 | zero =>
   intro i j h
   obtain ⟨c1, c2, c3⟩ := t.cell h
   unfold showB
   show (match (cg p.cs i).l with | true => Go.Proofs.YtcmcfebihbmmeaaDoor.num (cg p.cs i).n | false => star) = (match (cg q.cs j).l with | true => Go.Proofs.YtcmcfebihbmmeaaDoor.num (cg q.cs j).n | false => star)
   rw [c1, c2]
 | succ d ih =>
   intro i j h
   obtain ⟨c1, c2, c3⟩ := t.cell h
   unfold showB
   show (match (cg p.cs i).l with | true => Go.Proofs.YtcmcfebihbmmeaaDoor.num (cg p.cs i).n | false => zjz (showB p.cs d (cg p.cs i).a) (showB p.cs d (cg p.cs i).b)) = (match (cg q.cs j).l with | true => Go.Proofs.YtcmcfebihbmmeaaDoor.num (cg q.cs j).n | false => zjz (showB q.cs d (cg q.cs j).a) (showB q.cs d (cg q.cs j).b))
   cases hl : (cg p.cs i).l with
   | true => rw [← c1, hl, c2]
   | false => rw [← c1, hl]; simp only; rw [ih (c3 hl).1, ih (c3 hl).2]
theorem Twin.self {p : Hp} (g : Hg p) : Twin p p (fun i j => i = j ∧ 0 ≤ i ∧ i < (p.cs.length : Int)) :=
 ⟨fun {i j} h => by obtain ⟨rfl, h⟩ := h; exact ⟨h, h⟩, fun {i j} h => by
  obtain ⟨rfl, h⟩ := h
  exact ⟨rfl, rfl, fun hl => by obtain ⟨ha, hb⟩ := g.wf i h.1 h.2 hl; exact ⟨⟨rfl, ha⟩, rfl, hb⟩⟩, fun {i j i' j'} h h' => by obtain ⟨rfl, _⟩ := h; obtain ⟨rfl, _⟩ := h'; exact Iff.rfl, rfl, fun k hk => ⟨rfl, g.rin _ (zj5 hk)⟩⟩
end Go.Den
namespace Go.Den
open Go
set_option linter.unusedVariables false
set_option maxRecDepth 100000
theorem zhJ {p q : Hp} (g : Hg p) (room nur : Int) (t : Twins p q) : Twins (zbb false room nur p) q := by
 unfold zbb
 show Twins (match decide (nur ≤ (p.cs.length : Int) - p.o) with
  | true => (match decide (room ≤ ((zaF p).cs.length : Int)) with | true => zb5 (zaF p) | false => zaF p)
  | false => (match decide (room ≤ (p.cs.length : Int)) with | true => zb5 p | false => p)) q
 have hy := zbJ g
 split
 · split
   · exact Twins.full hy (Twins.young g t)
   · exact Twins.young g t
 · split
   · exact Twins.full g t
   · exact t
structure LikeW (v w : Ws) : Prop where
 out : v.out = w.out
 free : w.full = false
 twin : v.full = false → Twins v.h w.h
theorem zgs {room nur r n : Int} {pair : Bool} {a b : Int} {v w : Ws} (g : Hg v.h) (h : LikeW v w) (hf : v.full = false) (hp : pair = true → zac a v.h.rs.length = true ∧ zac b v.h.rs.length = true) : LikeW (putO false room nur pair a b v) (putO true r n pair a b w) := by
 have t := zhJ g room nur (h.twin hf)
 have hrs := zc1 (fr := false) (room := room) (nur := nur) (h := v.h)
 have hw : putO true r n pair a b w = ⟨addH w.h (zdn pair a b w.h), false, w.out⟩ := rfl
 rw [hw]
 unfold putO
 generalize zbb false room nur v.h = p at *
 obtain ⟨R, t⟩ := t
 cases hfu : zb8 false room p with
 | true => exact ⟨h.out, rfl, fun e => by cases e⟩
 | false =>
   refine ⟨h.out, rfl, fun _ => ?_⟩
   show Twins (addH p (zdn pair a b p)) (addH w.h (zdn pair a b w.h))
   cases pair with
   | true =>
     obtain ⟨ha, hb⟩ := hp rfl
     rw [← hrs] at ha hb
     exact t.add rfl rfl fun _ => ⟨t.rg ha, t.rg hb⟩
   | false => exact t.add rfl rfl fun e => by cases e
theorem zmi {room nur r n : Int} {k a b : Int} {v w : Ws} (g : Hg v.h) (h : LikeW v w) (hf : v.full = false) : LikeW (opW false room nur k a b v) (opW true r n k a b w) := by
 obtain ⟨R, t⟩ := h.twin hf
 have hlen := t.len
 have keep : ∀ p q, Twins p q → LikeW ⟨p, v.full, v.out⟩ ⟨q, w.full, w.out⟩ := fun p q tt => ⟨h.out, h.free, fun _ => tt⟩
 have tell : ∀ x y : ByteArray, x = y → LikeW ⟨v.h, v.full, v.out ++ x⟩ ⟨w.h, w.full, w.out ++ y⟩ := fun x y e => ⟨by show v.out ++ x = w.out ++ y; rw [e, h.out], h.free, fun _ => ⟨R, t⟩⟩
 by_cases k1 : k = 1
 · subst k1
   rw [zlH, zlH, ← hlen]
   cases hd : decide ((v.h.rs.length : Int) < 60) with
   | true => exact zgs g h hf fun e => by cases e
   | false => exact h
 by_cases k2 : k = 2
 · subst k2
   rw [ziY, ziY, ← hlen]
   cases hd : zac a v.h.rs.length && zac b v.h.rs.length && decide ((v.h.rs.length : Int) < 60) with
   | true =>
     simp only [Bool.and_eq_true] at hd
     exact zgs g h hf fun _ => hd.1
   | false => exact h
 by_cases k3 : k = 3
 · subst k3
   rw [zlr, zlr, ← hlen]
   cases hb : zac a v.h.rs.length with
   | false => simp only [Bool.false_and]; exact h
   | true =>
     obtain ⟨c1, c2, c3⟩ := t.cell (t.rg hb)
     rw [← c1]
     cases hd : true && decide ((v.h.rs.length : Int) < 60) && !(cg v.h.cs (rg v.h a)).l with
     | true =>
       simp only [Bool.and_eq_true, Bool.not_eq_true'] at hd
       exact keep _ _ (t.rooted (c3 hd.2).1)
     | false => exact h
 by_cases k4 : k = 4
 · subst k4
   rw [zlm, zlm, ← hlen]
   cases hb : zac a v.h.rs.length with
   | false => simp only [Bool.false_and]; exact h
   | true =>
     obtain ⟨c1, c2, c3⟩ := t.cell (t.rg hb)
     rw [← c1]
     cases hd : true && decide ((v.h.rs.length : Int) < 60) && !(cg v.h.cs (rg v.h a)).l with
     | true =>
       simp only [Bool.and_eq_true, Bool.not_eq_true'] at hd
       exact keep _ _ (t.rooted (c3 hd.2).2)
     | false => exact h
 by_cases k5 : k = 5
 · subst k5
   rw [zlf, zlf, ← hlen]
   cases hb : zac a v.h.rs.length with
   | false => exact h
   | true => exact keep _ _ (t.dropped hb)
 by_cases k6 : k = 6
 · subst k6
   rw [zlu, zlu, ← hlen]
   cases hb : zac a v.h.rs.length with
   | false => exact h
   | true => exact tell _ _ (by rw [t.shows 4 (t.rg hb)])
 by_cases k7 : k = 7
 · subst k7
   rw [ziR, ziR, ← hlen]
   cases hb : zac a v.h.rs.length with
   | false => simp only [Bool.false_and]; exact h
   | true =>
     cases hb2 : zac b v.h.rs.length with
     | false => simp only [Bool.and_false, Bool.false_and]; exact h
     | true =>
       obtain ⟨c1, c2, c3⟩ := t.cell (t.rg hb)
       rw [← c1]
       cases hd : true && true && !(cg v.h.cs (rg v.h a)).l with
       | true => exact keep _ _ (t.written false (t.rg hb) (t.rg hb2))
       | false => exact h
 by_cases k8 : k = 8
 · subst k8
   rw [zjh, zjh, ← hlen]
   cases hb : zac a v.h.rs.length with
   | false => simp only [Bool.false_and]; exact h
   | true =>
     cases hb2 : zac b v.h.rs.length with
     | false => simp only [Bool.and_false, Bool.false_and]; exact h
     | true =>
       obtain ⟨c1, c2, c3⟩ := t.cell (t.rg hb)
       rw [← c1]
       cases hd : true && true && !(cg v.h.cs (rg v.h a)).l with
       | true => exact keep _ _ (t.written true (t.rg hb) (t.rg hb2))
       | false => exact h
 by_cases k9 : k = 9
 · subst k9
   rw [ziZ, ziZ, ← hlen]
   cases hb : zac a v.h.rs.length with
   | false => simp only [Bool.false_and]; exact h
   | true =>
     cases hb2 : zac b v.h.rs.length with
     | false => simp only [Bool.and_false]; exact h
     | true =>
       have e := t.one (t.rg hb) (t.rg hb2)
       refine tell _ _ ?_
       by_cases he : rg v.h a = rg v.h b
       · rw [if_pos he, if_pos (e.1 he)]
       · rw [if_neg he, if_neg fun x => he (e.2 x)]
 by_cases k10 : k = 10
 · subst k10
   rw [zhW, zhW]
   exact keep _ _ (Twins.full g ⟨R, t⟩)
 by_cases k11 : k = 11
 · subst k11
   rw [zhU, zhU]
   exact keep _ _ (Twins.young g ⟨R, t⟩)
 rw [znm ⟨k1, k2, k3, k4, k5, k6, k7, k8, k9, k10, k11⟩, znm ⟨k1, k2, k3, k4, k5, k6, k7, k8, k9, k10, k11⟩]
 exact h
theorem zmt {r n k a b : Int} {w : Ws} : ∃ t : ByteArray, (opW true r n k a b w).out = w.out ++ t := by
 have no : ∃ t : ByteArray, w.out = w.out ++ t := ⟨ByteArray.empty, by simp⟩
 have put : ∀ pair, ∃ t : ByteArray, (putO true r n pair a b w).out = w.out ++ t := fun _ => no
 by_cases k1 : k = 1
 · subst k1
   rw [zlH]
   split
   · exact put _
   · exact no
 by_cases k2 : k = 2
 · subst k2
   rw [ziY]
   split
   · exact put _
   · exact no
 by_cases k3 : k = 3
 · subst k3
   rw [zlr]
   split
   · exact no
   · exact no
 by_cases k4 : k = 4
 · subst k4
   rw [zlm]
   split
   · exact no
   · exact no
 by_cases k5 : k = 5
 · subst k5
   rw [zlf]
   split
   · exact no
   · exact no
 by_cases k6 : k = 6
 · subst k6
   rw [zlu]
   split
   · exact ⟨_, rfl⟩
   · exact no
 by_cases k7 : k = 7
 · subst k7
   rw [ziR]
   split
   · exact no
   · exact no
 by_cases k8 : k = 8
 · subst k8
   rw [zjh]
   split
   · exact no
   · exact no
 by_cases k9 : k = 9
 · subst k9
   rw [ziZ]
   split
   · exact ⟨_, rfl⟩
   · exact no
 by_cases k10 : k = 10
 · subst k10
   rw [zhW]
   exact no
 by_cases k11 : k = 11
 · subst k11
   rw [zhU]
   exact no
 rw [znm ⟨k1, k2, k3, k4, k5, k6, k7, k8, k9, k10, k11⟩]
 exact no
theorem zoR {r n : Int} : ∀ (l : List Op3) (w : Ws), ∃ t : ByteArray, (runW true r n l w).out = w.out ++ t
 | [], w => ⟨ByteArray.empty, by simp [runW]⟩
 | x :: l, w => by
   obtain ⟨t, ht⟩ := zmt (r := r) (n := n) (k := x.k) (a := x.a) (b := x.b) (w := w)
   unfold runW
   split
   · exact ⟨t, ht⟩
   · obtain ⟨u, hu⟩ := zoR l (opW true r n x.k x.a x.b w)
     exact ⟨t ++ u, by rw [hu, ht, ByteArray.append_assoc]⟩
theorem zgL {room nur r n : Int} (hr : room ≤ 200) : ∀ (l : List Op3) (m : Nat) (v w : Ws), (∀ x ∈ l, In64 x.a) → m + l.length ≤ 150 → Iv false m v → LikeW v w → v.full = false →
 ∃ t : ByteArray, (runW true r n l w).out = (runW false room nur l v).out ++ t ∧ ((runW false room nur l v).full = false → t = ByteArray.empty)
 | [], m, v, w, ha, hm, hi, h, hf => ⟨ByteArray.empty, by simp [runW, h.out], fun _ => rfl⟩
 | x :: l, m, v, w, ha, hm, hi, h, hf => by
   have hm : m + (l.length + 1) ≤ 150 := by simpa using hm
   have h1 := zmi (room := room) (nur := nur) (r := r) (n := n) (k := x.k) (a := x.a) (b := x.b) hi.g h hf
   have hi1 := zjf (room := room) (nur := nur) (k := x.k) (b := x.b) hi (fun _ => hr) (by omega) (ha x (by simp))
   unfold runW
   rw [h1.free]
   simp only
   cases hv : (opW false room nur x.k x.a x.b v).full with
   | true =>
     obtain ⟨t, ht⟩ := zoR (r := r) (n := n) l (opW true r n x.k x.a x.b w)
     refine ⟨t, ?_, fun e => ?_⟩
     · rw [ht, h1.out]
     · exact absurd (hv.symm.trans e) (by decide)
   | false => exact zgL hr l (m + 1) _ _ (fun y hy => ha y (by simp [hy])) (by omega) hi1 h1 hv
theorem zoE : LikeW w00 w00 := ⟨rfl, rfl, fun _ => ⟨_, Twin.self (iv00 false).g⟩⟩
theorem zqq (L : List Op3) (ha : ∀ x ∈ L, In64 x.a) (room nur : Int) (h : (zcv L room nur).2.2 = true) :
 (zeD L).2 = true ∧ ∃ t : ByteArray, (zeD L).1 = (zcv L room nur).1 ++ t ∧ ((zcv L room nur).2.1 = false → t = ByteArray.empty) := by
 unfold zcv at h ⊢
 unfold zeD
 cases h1 : decide (150 < (L.length : Int)) with
 | true => rw [h1] at h; exact absurd h (by simp)
 | false =>
   cases h2 : inB room 0 200 with
   | false => rw [h1, h2] at h; exact absurd h (by simp)
   | true =>
     cases h3 : inB nur 1 200 with
     | false => rw [h1, h2, h3] at h; exact absurd h (by simp)
     | true =>
       simp only [Bool.not_true, Bool.or_self]
       refine ⟨trivial, zgL ?_ L 0 w00 w00 ha (by have := of_decide_eq_false h1; omega) (iv00 false) zoE rfl⟩
       simp [inB] at h2
       omega
theorem zqK (L : List Op3) (room nur : Int) (h : (zcv L room nur).2.2 = false) : (zcv L room nur).1 = ByteArray.mk #[] := by
 unfold zcv at h ⊢
 cases hd : decide (150 < (L.length : Int)) || !inB room 0 200 || !inB nur 1 200 with
 | true => rfl
 | false => rw [hd] at h; exact absurd h (by simp)
end Go.Den
namespace Go.Den
open Go
set_option linter.unusedVariables false
set_option maxRecDepth 100000
theorem zl7 {cs : List Dat} (hb : Bs cs) : ∃ (L : List Op3) (room nur : Int), (∀ x ∈ L, In64 x.a) ∧ EvN 400 34 [.dat (.lst false cs)] [] [] ([.own 72 (OD L), .dat (I room), .dat (I nur)], [], []) := by
 obtain ⟨L, q1, w1, ha, hl, b1, c1, e1⟩ := zmF hb 0 0 (by omega) (by omega)
 obtain ⟨z, q2, w2, b2, c2, _, _, e2⟩ := zbS hb 40 q1 w1 (by omega) (by omega) (by omega)
 obtain ⟨g, q3, w3, b3, c3, e3⟩ := zgm hb 12 q2 w2 (by omega) (by omega) (by omega)
 obtain ⟨x, q4, w4, hx, b4, c4, e4⟩ := zdz hb true [-1, 0, 200, 201] q3 w3 (by omega) (by omega) (by decide)
 by_cases hg : g = true
 · obtain ⟨y, q5, w5, b5, c5, _, _, e5⟩ := zbS hb 12 q4 w4 (by omega) (by omega) (by omega)
   obtain ⟨g2, q6, w6, b6, c6, e6⟩ := zgm hb 20 q5 w5 (by omega) (by omega) (by omega)
   obtain ⟨v, q7, w7, hv, b7, c7, e7⟩ := zdz hb true [0, 200, 201] q6 w6 (by omega) (by omega) (by decide)
   refine ⟨L, x, if g2 = true then v else w64 (1 + y), ha, zaw Go.Proofs.Tryd.f34 399 (by kernel_rfl) (by kernel_rfl) fun kk hkk => ?_⟩
   exact zoK kk cs (OD L) z x y v g g2 q1 w1 q2 w2 q3 w3 q4 w4 q5 w5 q6 w6 q7 w7
    (fun _ d => ⟨e1 kk (by omega), e2 kk (by omega), e3 kk (by omega), e4 kk (by omega), zfj hb _ _, e5 kk (by omega), e6 kk (by omega), e7 kk (by omega), zfj hb _ _, by rw [if_pos d]⟩)
    (fun _ d => ⟨e1 kk (by omega), e2 kk (by omega), e3 kk (by omega), e4 kk (by omega), zfj hb _ _, e5 kk (by omega), e6 kk (by omega), by rw [if_neg (by rw [d]; decide)]⟩)
    (fun d => absurd (hg.symm.trans d) (by decide)) (fun d => absurd (hg.symm.trans d) (by decide))
 · obtain ⟨y, q5, w5, b5, c5, _, _, e5⟩ := zbS hb 12 q3 w3 (by omega) (by omega) (by omega)
   obtain ⟨g2, q6, w6, b6, c6, e6⟩ := zgm hb 20 q5 w5 (by omega) (by omega) (by omega)
   obtain ⟨v, q7, w7, hv, b7, c7, e7⟩ := zdz hb true [0, 200, 201] q6 w6 (by omega) (by omega) (by decide)
   refine ⟨L, w64 (3 + z), if g2 = true then v else w64 (1 + y), ha, zaw Go.Proofs.Tryd.f34 399 (by kernel_rfl) (by kernel_rfl) fun kk hkk => ?_⟩
   exact zoK kk cs (OD L) z x y v g g2 q1 w1 q2 w2 q3 w3 q4 w4 q5 w5 q6 w6 q7 w7
    (fun d => absurd d hg) (fun d => absurd d hg)
    (fun _ d => ⟨e1 kk (by omega), e2 kk (by omega), e3 kk (by omega), e5 kk (by omega), e6 kk (by omega), e7 kk (by omega), zfj hb _ _, by rw [if_pos d]⟩)
    (fun _ d => ⟨e1 kk (by omega), e2 kk (by omega), e3 kk (by omega), e5 kk (by omega), e6 kk (by omega), by rw [if_neg (by rw [d]; decide)]⟩)
theorem fnWritten_den : ∀ d0 : Dat, WT cfg.ty 45 d0 → ∃ k, den cfg k 9 [.dat d0] [] [] = some ([.dat (.val (.bool true))], [], []) := by
 intro d0 w0
 obtain ⟨cs, rfl, hb⟩ := zob w0
 obtain ⟨L, room, nur, ha, e0⟩ := zl7 hb
 refine ⟨1100001, zaw Go.Proofs.Tryd.f9 1100000 (by kernel_rfl) (by kernel_rfl) (fun kk hkk => ?_) (by kernel_rfl) 1100001 (Nat.le_refl _)⟩
 have E0 := e0 kk (by omega)
 have E1 := znR true L room nur ha kk (by omega)
 have E2 := znW true L room nur ha kk (by omega)
 have E3 := zmb true L ha kk (by omega)
 have ht := zqq L ha room nur
 have hn := zqK L room nur
 generalize (zcv L room nur).1 = s at *
 generalize (zcv L room nur).2.1 = f at *
 generalize (zcv L room nur).2.2 = k at *
 generalize (zeD L).1 = m at *
 generalize (zeD L).2 = g at *
 have hk : ∀ {p : Prop}, (!k) = false → (g = true → (∃ t : ByteArray, m = s ++ t ∧ (f = false → t = ByteArray.empty)) → p) → p := fun d c => by
  obtain ⟨h1, h2⟩ := ht (by simpa using d)
  exact c h1 h2
 have hsz : ∀ t : ByteArray, (s ++ t).size = s.size + t.size := fun t => ByteArray.size_append
 have hex : ∀ t : ByteArray, (s ++ t).extract 0 s.size = s := fun t => ByteArray.extract_append_eq_left rfl
 refine zkS kk cs (OD L) room nur s s m f k f k g (fun _ => rfl) (fun _ d => absurd d (by simp)) (fun _ _ d => absurd d (by simp)) (fun _ _ _ d => absurd d (by simp))
  (fun _ _ _ _ d => ⟨E0, E1, E2, by rw [hn (by simpa using d)]; rfl⟩) (fun _ _ _ _ d d6 d7 d8 d9 => ⟨E0, E1, E2, E3, ?_, rfl⟩) (fun _ _ _ _ d d6 d7 d8 d9 => ⟨E0, E1, E2, E3, ?_, ?_⟩)
  (fun _ _ _ _ d d6 d7 d8 => hk d fun _ ⟨t, h1, _⟩ => absurd (of_decide_eq_false d8) ?_) (fun _ _ _ _ d d6 d7 => hk d fun _ ⟨t, h1, _⟩ => absurd (of_decide_eq_false d7) ?_) (fun _ _ _ _ d d6 => hk d fun h _ => absurd (h.symm.trans d6) (by decide))
 · have := of_decide_eq_true d7
   show (0 : Int) ≤ 0 ∧ (0 : Int) ≤ (s.size : Int) ∧ (s.size : Int) ≤ (m.size : Int)
   omega
 · have := of_decide_eq_true d7
   show (0 : Int) ≤ 0 ∧ (0 : Int) ≤ (s.size : Int) ∧ (s.size : Int) ≤ (m.size : Int)
   omega
 · refine hk d fun _ ⟨t, h1, h2⟩ => ?_
   have h3 := h2 d9
   subst h3
   rw [h1, show s ++ ByteArray.empty = s by simp, decide_eq_true rfl]
 · rw [h1]
   refine not_not_intro ?_
   show (s ++ t).extract 0 s.size = s
   exact hex t
 · rw [h1, hsz]
   refine not_not_intro ?_
   omega
end Go.Den
namespace Go.Proofs.YtcmcfebihbmmeaaDoor.fnWritten
open Go.ChangeShapes Go.WideShapes Go.ChangeAt Go.RowKit Go.Den
set_option linter.unusedVariables false
theorem own : ownKnob Tryd.prog.godebug = none := by kernel_rfl
theorem zpD : laidOutB Tryd.prog = true := by kernel_rfl
theorem body : (Tryd.f9.body).isSome = true := by kernel_rfl
theorem fnThere : cfg.fn 9 = some Tryd.f9 := by kernel_rfl
theorem zpp : zdk cfg.ty 8 45 = true := by kernel_rfl
def setG (h : Array Obj) (g : Nat) (c : Array Value) : Array Obj := h.modify g fun
 | .cells _ t frozen => .cells c t frozen
 | o => o
def vals (d : DataW Unit) : Array Value := match d with
 | .agg l => (l.map fun | .lit (.int k n) => Value.int k n | _ => .nilIface).toArray
 | _ => #[]
noncomputable def zil (os : Os) : World :=
 let w0 := World.holding Tryd.prog os ⟨#[], #[], []⟩
 { w0 with heap := setG (setG (setG (w0.heap) 3 (vals Rows.laid_math_bits_deBruijn32tab)) 4 (vals Rows.laid_math_bits_deBruijn64tab)) 0 (vals Rows.laid_internal_strconv_uint64pow10) }
theorem znB (os : Os) (args : Array Value) : laidMetH Tryd.prog Rows.fnWrittenRow.laid ((zil os).forCall (fun _ _ => 0) ⟨#[], args, []⟩).memory :=
 laidMetH_of_parts (laidMet_of_run (ps := (List.range 32).map (MemPlace.cell 3 ·) ++ (List.range 64).map (MemPlace.cell 4 ·) ++ (List.range 20).map (MemPlace.cell 0 ·)) 8 (by kernel_rfl) (by kernel_rfl) (by kernel_rfl)) (by kernel_rfl)
set_option maxRecDepth 100000 in
theorem zoG (os : Os) (started : os.Started) (H : Type) (enc : TypeId × Value → H) :
 ReturnsInHanded {} Tryd.checked os 9 .any (fun w args => (Rows.fnWrittenSpec.pre enc Tryd.prog Tryd.f9 Rows.fnWrittenRow.domain false w args ∧ laidMetH Tryd.prog Rows.fnWrittenRow.laid w) ∧ sizedMet enc Tryd.prog Tryd.f9 (OpenSpec.ofChange Rows.fnWrittenSpec) false w args) (Rows.fnWrittenSpec.post enc Tryd.prog Tryd.f9 false true false false) := by
 refine returnsInHanded_of_change_and (C := Tryd.checked) (X := fun w _ => laidMetH Tryd.prog Rows.fnWrittenRow.laid w) (fun _ _ _ hh h => h.of_heap hh) own started (by kernel_rfl) Tryd.func9
  (ChangeSpec.witness_at (enc := enc) (C := Tryd.checked) (os := os) (X := fun w _ => laidMetH Tryd.prog Rows.fnWrittenRow.laid w) false (zil os) #[.slice none 0 0] 8 rfl (by kernel_rfl) (by kernel_rfl) (by kernel_rfl) (by kernel_rfl) (by kernel_rfl) (znB os _)) ?_
 intro W base args ds gs before hval0 hW hcnd _ hL _
 have hTab : Lib.TabIs Tryd.prog W "internal/strconv.uint64pow10" .u64 Lib.pow10Tab := Lib.tabIs_of_head (g := 0) (by kernel_rfl) (t := 162) (by kernel_rfl) (e := 90) (n := 20) (by kernel_rfl) (by kernel_rfl) (by kernel_rfl) (by kernel_rfl) (laidMet.tail (laidMet.tail (show laidMet Tryd.prog Rows.fnWrittenRow.laid W from hL)))
 have hval : ∀ (j : Nat) t v, Tryd.f9.params[j]? = some t → args[j]? = some v → Value.okWide Tryd.prog W .any base t v := hval0
 have hW' := hW
 obtain ⟨p, q, hA0, hV, rfl, hfz, hnd⟩ := hW
 have hA : DataW.TrodAll enc Tryd.prog W 0 (fun _ => true) true Tryd.f9.params.toList args.toList ds p := hA0
 rw [Tryd.params9] at hA hval
 obtain ⟨v0, vs0, d0, ds0, p0, q0, hargs, rfl, rfl, h0, r0⟩ := trodAll_cons hA
 obtain ⟨rfl, rfl, rfl⟩ := trodAll_nil r0
 obtain rfl : args = #[v0] := by cases args; simp_all
 obtain ⟨rfl, rfl⟩ := trodVars_none hV
 have k0 := h0
 have lt0 : ∀ x ∈ p0, x.block < W.heap.size := by obtain ⟨m, hm⟩ := k0; exact DataW.trod_lt m _ _ _ hm
 obtain ⟨e0, cv0, R0, V0, T0⟩ := zpM zkl zpp (hval 0 45 v0 rfl rfl) h0
 clear hA0 hval0
 have hden := fnWritten_den e0 T0
 refine (zl9 (P := Tryd.prog) (C := cfg) (f := 9) (fn := Tryd.f9) (vals := #[v0]) (ds := [e0]) (W := W) (b := true) (B := zfS Tryd.prog W "internal/strconv.uint64pow10") (zoB (znK hTab)).out (zoT fnThere) body rfl (fun j d v hj hv => ?_) (fun g o h => znV h) hden).mono fun e W' hh => ?_
 · match j, hj, hv with
   | 0, hj, hv => cases hj; cases hv; exact ⟨cv0, R0, V0⟩
   | j + 1, hj, hv => simp at hj
 · obtain ⟨he, bel⟩ := hh
   subst he
   exact ⟨_, rfl, _, _, _, [], _, [], hW', trodAll_mk1 (shut_bool Tryd.underlying4 _), (trodAll_cons_mk (Below.trod zpD (by kernel_rfl) (of_decide_eq_true (by kernel_rfl)) k0 bel lt0) trodAll_mk0), rfl, bel.frame _, fun h => by cases h⟩
theorem over : Rows.fnWrittenRow.holds Tryd.pinned (OpenSpec.ofChange Rows.fnWrittenSpec) :=
 OpenClaim.holds_of_wide 9 Tryd.f9 rfl rfl rfl rfl rfl rfl rfl ⟨rfl, rfl, rfl, rfl, rfl⟩ rfl rfl rfl rfl rfl (by kernel_rfl) Tryd.func9 (by kernel_rfl)
  (of_decide_eq_true (by kernel_rfl)) (by unfold Func.isWrapper; first | (rw [if_pos (by decide +kernel)]; kernel_rfl) | (rw [if_neg (by decide +kernel)]; exact ⟨rfl, rfl⟩))
  (fun os started H enc _ => zoG os started H enc)
theorem proved : Rows.FnWrittenSaid := over
end Go.Proofs.YtcmcfebihbmmeaaDoor.fnWritten
namespace Go.Proofs.YtcmcfebihbmmeaaDoor
theorem fnWritten_holds : Rows.FnWrittenSaid := fnWritten.proved
end Go.Proofs.YtcmcfebihbmmeaaDoor
namespace Go.Proofs.YtcmcfebihbmmeaaDoor
open Go
theorem fnWrittenCard_holds : Rows.FnWrittenCardSaid :=
 Claim7.holds_tied_plain_at .later [] [.data, .data, .data] true (true, "6ff86e34f5ef3fa93c68ab0da54ea809c76b7496032f1ace8724b71ef3b8924e") true
  fnWritten_holds (fun _ h => by cases h) (by kernel_rfl) (fun _ h => by cases h) fnWritten_row_tie rfl ⟨rfl, rfl⟩ (by kernel_rfl) rfl
  (fun f fn hf hfn => by
   obtain rfl : f = 9 := Option.some.inj ((show Tryd.prog.funcNamed Rows.fnWrittenRow.func = some 9 by kernel_rfl).symm.trans hf) |>.symm
   obtain rfl : fn = Tryd.f9 := (Option.some.inj (Tryd.func9.symm.trans hfn)).symm
   exact ⟨by kernel_rfl, fun j t ht => by
    rw [Tryd.params9] at ht
    match j, ht with
    | 0, ht => cases ht; exact (show Tryd.prog.wantsStandIn 45 = false by kernel_rfl)
    | j + 1, ht => simp at ht⟩)
  (by kernel_rfl)
end Go.Proofs.YtcmcfebihbmmeaaDoor
