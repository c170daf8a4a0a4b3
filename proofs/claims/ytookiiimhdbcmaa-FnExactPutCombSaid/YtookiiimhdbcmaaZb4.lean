/- Merged out of: D30 D31 D32 D38 Cf Fa D35 D36 D33 D34 Dt (prune.py, a program of this work's). -/
import Derived.Test.YtookiiimhdbcmaaZb3
import Derived.Sort.Grow
import Derived.Sort.Row
import Derived.Lib.SlicesCompact
import Derived.Test.YtookiiimhdbcmaaProg
import Derived.KernelRfl
import Derived.Test.YtookiiimhdbcmaaZb2
import Derived.Deep.Slices
import Derived.Deep.Fields
import Derived.ChangeSame
import Derived.ProofKit
import Derived.Lib.SmallJoins
import Derived.OpenShut
import Derived.ShutString
import Derived.ChangeOld
import Derived.Below
import Derived.Test.YtookiiimhdbcmaaZb1
set_option linter.unusedVariables false
set_option linter.unusedSimpArgs false
set_option linter.unnecessarySimpa false
namespace Go.Den
open Go Go.RowKit
set_option linter.unusedVariables false
def allocsOf : List PRow → List Nat
  | [] => []
  | (i, k, _) :: l => match Nat.beq k 3 with | true => i :: allocsOf l | false => allocsOf l
def setAll (L : Array Bool) : List Nat → Array Bool
  | [] => L
  | i :: l => setAll (L.setIfInBounds i true) l
def flagged (l : List PRow) (j : Nat) : Bool := !(l.any fun r => Nat.beq r.1 j && Nat.beq r.2.1 2)
def dstIs (o : Oper) (n : Nat) : Bool := match o.dst with | some m => Nat.beq m n | none => false
def dstsOK (ops : Array Oper) : Bool :=
  (List.range ops.size).all fun i => (List.range ops.size).all fun j => Nat.beq i j || match ops[i]?, ops[j]? with
    | some x, some y => (match x.dst with | some n => !dstIs y n | none => true)
    | _, _ => true
def allocOK (ty : Nat → Option TI) (ops : Array Oper) (ds : List Nat) (i : Nat) : Bool :=
  match ops[i]? with
  | some o => (match o.op, o.dst, o.guard with | .alloc t, some n, none => memN n ds && (ty t).isSome | _, _, _ => false)
  | none => false
def on? (D : List Nat) (i : Nat) (o : Oper) : Bool := o.after.any fun e => Region.binds .any e && (Nat.beq e.on i || memN e.on D)
/-- What must come behind i. -/
def behind (ops : Array Oper) (i : Nat) : List Nat → List Nat → List Nat
  | [], D => D
  | j :: l, D => behind ops i l (match ops[j]? with | some o => (match on? D i o with | true => j :: D | false => D) | none => D)
def behindOK (ops : Array Oper) (L : Array Bool) (i : Nat) (A D : List Nat) : Bool :=
  (D.all fun j => (match ops[j]? with | some o => on? D i o | none => true) && (!L.getD j false && !memN j A))
def freeOK (ops : Array Oper) (L : Array Bool) (i : Nat) (D : List Nat) : Bool :=
  match ops[i]? with
  | none => false
  | some oi => (List.range ops.size).all fun j => Nat.beq j i || (L.getD j true || (memN j D || match ops[j]? with | some oj => oi.apart ops oj | none => true))
def lateOK (ops : Array Oper) (fl : Nat → Bool) (L : Array Bool) (i : Nat) (D : List Nat) : Bool :=
  (List.range ops.size).all fun j => Nat.beq j i || (L.getD j true || (memN j D || fl j))
def calmOK (ops : Array Oper) (L : Array Bool) (i : Nat) (A : List Nat) : Bool := behindOK ops L i A (behind ops i (List.range ops.size) []) && freeOK ops L i (behind ops i (List.range ops.size) [])
def aloneOK (ops : Array Oper) (L : Array Bool) (i : Nat) (l : List PRow) : Bool := (Region.ready .any ops (setAll L (allocsOf l))).all (Nat.beq i)
def rowOK (ops : Array Oper) (fl : Nat → Bool) (L : Array Bool) (i k : Nat) (l : List PRow) : Bool :=
  match k with
  | 0 => calmOK ops L i (allocsOf l)
  | 1 => calmOK ops L i (allocsOf l) && lateOK ops fl L i (behind ops i (List.range ops.size) [])
  | 2 => aloneOK ops L i l && !fl i
  | _ => aloneOK ops L i l
def planGo (ty : Nat → Option TI) (ops : Array Oper) (fl : Nat → Bool) : Array Bool → List PRow → Bool
  | L, [] => (Region.ready .any ops L).isEmpty
  | L, (i, k, ds) :: l => ((Region.ready .any ops L).contains i && (!(l.any fun r => Nat.beq r.1 i) && (allocsOf ((i, k, ds) :: l)).all (allocOK ty ops ds))) && (rowOK ops fl L i k l && planGo ty ops fl (L.setIfInBounds i true) l)
def planOK (ty : Nat → Option TI) (ops : Array Oper) (p : Plan) : Bool :=
  (Region.noSelect ops && (dstsOK ops && Nat.ble p.2.length ops.size)) && ((match p.1 with | some M => ops.all (fun o => M.all fun n => !dstIs o n) | none => true) && planGo ty ops (flagged p.2) (Array.replicate ops.size false) p.2)
/-- Some have come up early. -/
def Sup (L listed : Array Bool) (A : List Nat) : Prop := ∀ j : Nat, listed[j]? = (L[j]?).map (· || memN j A)
theorem memN_cons {a x : Nat} {l : List Nat} : memN x (a :: l) = (Nat.beq x a || memN x l) := by
  cases h : memN x (a :: l) with
  | true =>
    have := memN_iff.1 h
    rcases List.mem_cons.1 this with e | e
    · simp [beq_eq.2 e]
    · simp [memN_iff.2 e]
  | false =>
    cases h2 : Nat.beq x a with
    | true => rw [memN_iff.2 (by rw [beq_eq.1 h2]; simp)] at h; cases h
    | false =>
      cases h3 : memN x l with
      | true => rw [memN_iff.2 (List.mem_cons_of_mem _ (memN_iff.1 h3))] at h; cases h
      | false => rfl
theorem Sup.refl (L : Array Bool) : Sup L L [] := fun j => by simp [memN]
theorem getElem?_set (L : Array Bool) (i j : Nat) : (L.setIfInBounds i true)[j]? = if i = j then (L[j]?).map (fun _ => true) else L[j]? := by
  by_cases h : i = j
  · subst h
    rw [if_pos rfl]
    by_cases hl : i < L.size
    · simp [hl]
    · rw [Array.getElem?_eq_none (by simp; omega), Array.getElem?_eq_none (by omega)]; rfl
  · rw [if_neg h, Array.getElem?_setIfInBounds_ne h]
theorem Sup.set {L listed : Array Bool} {A : List Nat} (h : Sup L listed A) (i : Nat) : Sup (L.setIfInBounds i true) (listed.setIfInBounds i true) A := fun j => by
  rw [getElem?_set, getElem?_set, h j]
  by_cases e : i = j
  · simp [e]
    cases L[j]? <;> rfl
  · simp [e]
theorem Sup.early {L listed : Array Bool} {A : List Nat} (h : Sup L listed A) (i : Nat) : Sup L (listed.setIfInBounds i true) (i :: A) := fun j => by
  rw [getElem?_set, h j]
  by_cases e : i = j
  · have hb : Nat.beq j i = true := beq_eq.2 e.symm
    simp only [e, if_true, memN_cons]
    rw [show Nat.beq j j = true from beq_eq.2 rfl]
    cases L[j]? <;> simp
  · have hb : Nat.beq j i = false := beq_ne.2 (fun h => e h.symm)
    simp [e, memN_cons, hb]
theorem Sup.adopt {L listed : Array Bool} {A : List Nat} (h : Sup L listed A) {i : Nat} (hi : memN i A = true) : Sup (L.setIfInBounds i true) listed (A.filter fun j => !Nat.beq j i) := fun j => by
  rw [getElem?_set, h j]
  by_cases e : i = j
  · subst e
    simp only [if_true, hi]
    cases L[i]? <;> simp
  · have hb : Nat.beq j i = false := beq_ne.2 (fun h => e h.symm)
    rw [if_neg e]
    have : memN j (A.filter fun j => !Nat.beq j i) = memN j A := by
      cases h1 : memN j A with
      | true => exact memN_iff.2 (List.mem_filter.2 ⟨memN_iff.1 h1, by simp [hb]⟩)
      | false =>
        cases h2 : memN j (A.filter fun j => !Nat.beq j i) with
        | false => rfl
        | true => rw [memN_iff.2 (List.mem_filter.1 (memN_iff.1 h2)).1] at h1; cases h1
    rw [this]
theorem setAll_sup : ∀ (B : List Nat) (L : Array Bool), Sup L (setAll L B) B
  | [], L => Sup.refl L
  | i :: B, L => fun j => by
    have := setAll_sup B (L.setIfInBounds i true) j
    simp only [setAll]
    rw [this, getElem?_set]
    by_cases e : i = j
    · subst e
      simp only [if_true, memN_cons, show Nat.beq i i = true from beq_eq.2 rfl]
      cases L[i]? <;> simp
    · have hb : Nat.beq j i = false := beq_ne.2 (fun h => e h.symm)
      simp [e, memN_cons, hb]
theorem Sup.un {L listed : Array Bool} {A : List Nat} (h : Sup L listed A) {j : Nat} (hu : listed.getD j true = false) : L.getD j true = false ∧ memN j A = false := by
  rw [Array.getD_eq_getD_getElem?, h j] at hu
  rw [Array.getD_eq_getD_getElem?]
  cases hL : L[j]? with
  | none => rw [hL] at hu; cases hu
  | some b =>
    rw [hL] at hu
    simp at hu ⊢
    exact hu
theorem Sup.un' {L listed : Array Bool} {A : List Nat} (h : Sup L listed A) {j : Nat} (hu : L.getD j true = false) (hA : memN j A = false) : listed.getD j true = false := by
  rw [Array.getD_eq_getD_getElem?] at hu
  rw [Array.getD_eq_getD_getElem?, h j]
  cases hL : L[j]? with
  | none => rw [hL] at hu; cases hu
  | some b =>
    rw [hL] at hu
    simp at hu ⊢
    exact ⟨hu, hA⟩
theorem Sup.on {L listed : Array Bool} {A : List Nat} (h : Sup L listed A) {j : Nat} (hu : L.getD j false = true) : listed.getD j false = true := by
  rw [Array.getD_eq_getD_getElem?] at hu
  rw [Array.getD_eq_getD_getElem?, h j]
  cases hL : L[j]? with
  | none => rw [hL] at hu; cases hu
  | some b =>
    rw [hL] at hu
    simp at hu ⊢
    exact .inl hu
theorem ready_up {md : Region.Mode} {ops : Array Oper} {L listed : Array Bool} {A : List Nat} (h : Sup L listed A) {j : Nat} (hj : j ∈ Region.ready md ops L) (hA : memN j A = false) : j ∈ Region.ready md ops listed := by
  obtain ⟨h1, o, ho, h2⟩ := mem_ready.1 hj
  exact mem_ready.2 ⟨h.un' h1 hA, o, ho, fun e he hb => h.on (h2 e he hb)⟩
theorem ready_dn {md : Region.Mode} {ops : Array Oper} {L listed : Array Bool} {A B : List Nat} (h : Sup L listed A) (hAB : ∀ k, memN k A = true → memN k B = true) {j : Nat} (hj : j ∈ Region.ready md ops listed) : memN j B = true ∨ j ∈ Region.ready md ops (setAll L B) := by
  cases hB : memN j B with
  | true => exact .inl rfl
  | false =>
    right
    obtain ⟨h1, o, ho, h2⟩ := mem_ready.1 hj
    have hs := setAll_sup B L
    refine mem_ready.2 ⟨hs.un' (h.un h1).1 hB, o, ho, fun e he hb => ?_⟩
    have h3 := h2 e he hb
    rw [Array.getD_eq_getD_getElem?, h e.on] at h3
    rw [Array.getD_eq_getD_getElem?, hs e.on]
    cases hL : L[e.on]? with
    | none => rw [hL] at h3; cases h3
    | some b =>
      rw [hL] at h3
      simp at h3 ⊢
      rcases h3 with h3 | h3
      · exact .inl h3
      · exact .inr (hAB _ h3)
/-- How many are still to come. -/
def still (A : List Nat) (l : List PRow) : Nat := l.countP fun r => !memN r.1 A
theorem still_cons {A : List Nat} {i k : Nat} {ds : List Nat} {l : List PRow} : still A ((i, k, ds) :: l) = still A l + (match memN i A with | true => 0 | false => 1) := by
  unfold still
  rw [List.countP_cons]
  cases memN i A <;> rfl
theorem still_mono {A B : List Nat} (h : ∀ k, memN k A = true → memN k B = true) (l : List PRow) : still B l ≤ still A l := by
  unfold still
  refine List.countP_mono_left fun r _ hr => ?_
  cases hA : memN r.1 A with
  | false => rfl
  | true => rw [h _ hA] at hr; cases hr
theorem still_early {A : List Nat} {j : Nat} (hj : memN j A = false) : ∀ {l : List PRow}, (∃ r ∈ l, r.1 = j) → still (j :: A) l + 1 ≤ still A l
  | [], h => by obtain ⟨r, h, _⟩ := h; cases h
  | (i, k, ds) :: l, h => by
    rw [still_cons, still_cons]
    have hm := still_mono (A := A) (B := j :: A) (fun k hk => by rw [memN_cons, hk]; simp) l
    by_cases e : i = j
    · subst e
      have h1 : memN i (i :: A) = true := memN_iff.2 (by simp)
      rw [h1, hj]
      simp only
      omega
    · have h2 : ∃ r ∈ l, r.1 = j := by
        obtain ⟨r, hr, hrj⟩ := h
        rcases List.mem_cons.1 hr with rfl | hr
        · exact (e hrj).elim
        · exact ⟨r, hr, hrj⟩
      have ih := still_early hj h2
      have hb : Nat.beq i j = false := beq_ne.2 e
      have : memN i (j :: A) = memN i A := by rw [memN_cons, hb]; rfl
      rw [this]
      omega
theorem still_adopt {A : List Nat} {i : Nat} {l : List PRow} (h : l.any (fun r => Nat.beq r.1 i) = false) : still (A.filter fun j => !Nat.beq j i) l ≤ still A l := by
  unfold still
  refine Nat.le_of_eq (List.countP_congr fun r hr => ?_)
  have hne : Nat.beq r.1 i = false := by
    have := (List.any_eq_false.1 h) r hr
    cases hb : Nat.beq r.1 i with
    | false => rfl
    | true => exact (this hb).elim
  have : memN r.1 (A.filter fun j => !Nat.beq j i) = memN r.1 A := by
    cases h1 : memN r.1 A with
    | true => exact memN_iff.2 (List.mem_filter.2 ⟨memN_iff.1 h1, by simp [hne]⟩)
    | false =>
      cases h2 : memN r.1 (A.filter fun j => !Nat.beq j i) with
      | false => rfl
      | true => rw [memN_iff.2 (List.mem_filter.1 (memN_iff.1 h2)).1] at h1; cases h1
  rw [this]
theorem allocsOf_mem : ∀ {l : List PRow} {j : Nat}, j ∈ allocsOf l → ∃ r ∈ l, r.1 = j
  | (i, k, ds) :: l, j, h => by
    unfold allocsOf at h
    split at h
    · rcases List.mem_cons.1 h with rfl | h
      · exact ⟨_, List.mem_cons_self, rfl⟩
      · obtain ⟨r, hr, e⟩ := allocsOf_mem h
        exact ⟨r, List.mem_cons_of_mem _ hr, e⟩
    · obtain ⟨r, hr, e⟩ := allocsOf_mem h
      exact ⟨r, List.mem_cons_of_mem _ hr, e⟩
theorem allocOK_at {ty : Nat → Option TI} {ops : Array Oper} {ds : List Nat} {j : Nat} (h : allocOK ty ops ds j = true) : ∃ o t n i, ops[j]? = some o ∧ o.op = .alloc t ∧ o.dst = some n ∧ o.guard = none ∧ n ∈ ds ∧ ty t = some i := by
  unfold allocOK at h
  split at h
  · rename_i o ho
    split at h
    · rename_i t n h1 h2 h3
      simp only [Bool.and_eq_true] at h
      obtain ⟨i, hi⟩ := Option.isSome_iff_exists.1 h.2
      exact ⟨o, t, n, i, ho, h1, h2, h3, memN_iff.1 h.1, hi⟩
    · cases h
  · cases h
theorem allJunk_at {s : St} : ∀ {ds : List Nat}, allJunk s ds = true → ∀ n ∈ ds, s.t n = .junk
  | [], h, n, hn => by cases hn
  | m :: ds, h, n, hn => by
    have h' : (isJunk (s.t m) && allJunk s ds) = true := h
    simp only [Bool.and_eq_true] at h'
    rcases List.mem_cons.1 hn with rfl | hn
    · exact isJunk_eq h'.1
    · exact allJunk_at h'.2 n hn
theorem dstsOK_at {ops : Array Oper} (h : dstsOK ops = true) {i j : Nat} {x y : Oper} {n : Nat} (hi : ops[i]? = some x) (hj : ops[j]? = some y) (hne : i ≠ j) (hx : x.dst = some n) : y.dst ≠ some n := by
  intro hy
  have hil := (Array.getElem?_eq_some_iff.1 hi).1
  have hjl := (Array.getElem?_eq_some_iff.1 hj).1
  have h1 := (List.all_eq_true.1 h) i (List.mem_range.2 hil)
  have h2 := (List.all_eq_true.1 h1) j (List.mem_range.2 hjl)
  rw [hi, hj, beq_ne.2 hne] at h2
  simp only [hx, dstIs, hy, Bool.false_or] at h2
  rw [show Nat.beq n n = true from beq_eq.2 rfl] at h2
  cases h2
theorem lateOK_at {ops : Array Oper} {fl : Nat → Bool} {L : Array Bool} {i : Nat} {D : List Nat} (h : lateOK ops fl L i D = true) {j : Nat} {oj : Oper} (hj : ops[j]? = some oj) (hne : j ≠ i) (hun : L.getD j true = false) (hno : memN j D = false) : fl j = true := by
  have h1 := (List.all_eq_true.1 h) j (List.mem_range.2 (Array.getElem?_eq_some_iff.1 hj).1)
  rw [beq_ne.2 hne, hun, hno] at h1
  simpa using h1
theorem freeOK_at {ops : Array Oper} {L : Array Bool} {i : Nat} {oi : Oper} {D : List Nat} (hi : ops[i]? = some oi) (h : freeOK ops L i D = true) {j : Nat} {oj : Oper} (hj : ops[j]? = some oj) (hne : j ≠ i) (hun : L.getD j true = false) (hno : memN j D = false) : oi.apart ops oj = true := by
  unfold freeOK at h
  rw [hi] at h
  have h1 := (List.all_eq_true.1 h) j (List.mem_range.2 (Array.getElem?_eq_some_iff.1 hj).1)
  rw [beq_ne.2 hne, hun, hno, hj] at h1
  simpa using h1
theorem behindOK_at {ops : Array Oper} {L : Array Bool} {i : Nat} {A D : List Nat} (h : behindOK ops L i A D = true) {j : Nat} (hD : memN j D = true) : (∀ oj, ops[j]? = some oj → ∃ e ∈ oj.after, Region.binds .any e = true ∧ (e.on = i ∨ memN e.on D = true)) ∧ L.getD j false = false ∧ memN j A = false := by
  have h1 := (List.all_eq_true.1 h) j (memN_iff.1 hD)
  simp only [Bool.and_eq_true, Bool.not_eq_true'] at h1
  refine ⟨fun oj hoj => ?_, h1.2.1, h1.2.2⟩
  rw [hoj] at h1
  obtain ⟨e, he, hb⟩ := Array.any_eq_true'.1 h1.1
  simp only [Bool.and_eq_true, Bool.or_eq_true] at hb
  refine ⟨e, he, hb.1, ?_⟩
  rcases hb.2 with h | h
  · exact .inl (beq_eq.1 h)
  · exact .inr h
theorem Sup.onL {L listed : Array Bool} {A : List Nat} (h : Sup L listed A) {j : Nat} (hu : listed.getD j false = true) : L.getD j false = true ∨ memN j A = true := by
  rw [Array.getD_eq_getD_getElem?, h j] at hu
  rw [Array.getD_eq_getD_getElem?]
  cases hL : L[j]? with
  | none => rw [hL] at hu; cases hu
  | some b =>
    rw [hL] at hu
    simpa using hu
end Go.Den
namespace Go.Den
open Go Go.RowKit
set_option linter.unusedVariables false
/-- The blocks that stay as they are while loads are about. -/
def Gd (c0 : Cx) (a0 : Act) : Option (List Nat) → Nat → Prop
  | none, _ => True
  | some M, g => (g < c0.W.heap.size ∧ stable (c0.ρ g)) ∨ ∃ n ∈ M, a0.tmps.getD n undef = .pointer (some ⟨g, 0, none⟩)
def RG (G : Nat → Prop) (w w' : World) : Prop := w.heap.size ≤ w'.heap.size ∧ ∀ g, g < w.heap.size → G g → w'.heap[g]? = w.heap[g]?
theorem RG.refl {G : Nat → Prop} (w : World) : RG G w w := ⟨Nat.le_refl _, fun _ _ _ => rfl⟩
theorem RG.trans {G : Nat → Prop} (a b c : World) (h : RG G a b) (k : RG G b c) : RG G a c :=
  ⟨Nat.le_trans h.1 k.1, fun g hg hG => (k.2 g (Nat.lt_of_lt_of_le hg h.1) hG).trans (h.2 g hg hG)⟩
theorem RG.of_below {G : Nat → Prop} {w w' : World} (h : Below w.heap.size w w') : RG G w w' := ⟨h.size, fun g hg _ => h.block g hg⟩
theorem getD_put {a : Act} {x : Option Nat} {v : Value} {y : Nat} (h : x ≠ some y) : (a.put x v).tmps.getD y undef = a.tmps.getD y undef := by
  cases x with
  | none => rfl
  | some x =>
    have hxy : x ≠ y := fun e => h (by rw [e])
    simp [Act.put, Array.getD_eq_getD_getElem?, Array.getElem?_setIfInBounds_ne hxy]
/-- A variable that came early. -/
def AllocAt (ops : Array Oper) (c0 c : Cx) (a : Act) (j g : Nat) : Prop :=
  ∃ o t n i vs T, ops[j]? = some o ∧ o.op = .alloc t ∧ o.dst = some n ∧ c.ty t = some i ∧ c0.W.heap.size ≤ g ∧ c.ρ g = .oth ∧ c.W.heap[g]? = some (.cells (List.toArray vs) T (0, 0)) ∧ a.tmps.getD n undef = .pointer (some ⟨g, 0, none⟩) ∧ ∀ c' Y, c'.ty = c.ty → CellsVR (Cx.nilH c' Y) Y i.zero vs
theorem AllocAt.step {ops : Array Oper} {c0 c c' : Cx} {a a' : Act} {j g : Nat} {x : Option Nat} {v : Value} (h : AllocAt ops c0 c a j g) (he : Ext c c') (ha : a'.tmps = (a.put x v).tmps) (hx : ∀ o n, ops[j]? = some o → o.dst = some n → x ≠ some n) : AllocAt ops c0 c' a' j g := by
  obtain ⟨o, t, n, i, vs, T, h1, h2, h3, h4, h5, h6, h7, h8, h9⟩ := h
  have hlt := (Array.getElem?_eq_some_iff.1 h7).1
  obtain ⟨h10, h11⟩ := he.keep g hlt (by rw [h6]; trivial)
  refine ⟨o, t, n, i, vs, T, h1, h2, h3, by rw [he.ty]; exact h4, h5, h10.trans h6, h11.trans h7, ?_, fun c' Y e => h9 c' Y (by rw [e, he.ty])⟩
  rw [ha, getD_put (hx o n h1 h3)]
  exact h8
structure Inv (P : Program) (E : Env) (ops : Array Oper) (X : Nat) (Mo : Option (List Nat)) (c0 : Cx) (a0 : Act) (first : Bool) (A : List Nat) (blk : Nat → Nat) (c : Cx) (a : Act) : Prop where
  fr : Fr X c a
  env : EnvOK P E c a
  ext : Ext c0 c
  sz : a.tmps.size = a0.tmps.size
  df : a.defers = a0.defers
  mtm : ∀ M, Mo = some M → ∀ n ∈ M, a.tmps.getD n undef = a0.tmps.getD n undef
  fst : first = true → ∀ b g, Rd c.ρ b g → g < c.W.heap.size → g < c0.W.heap.size ∧ stable (c0.ρ g)
  al : ∀ j, memN j A = true → AllocAt ops c0 c a j (blk j)
  dis : ∀ j k, memN j A = true → memN k A = true → j ≠ k → blk j ≠ blk k
theorem guarded_sound {α : Type} {E : Env} {ops : Array Oper} {c : Cx} {a : Act} {o : Oper} {k z : St → Option α} {r : α} (hs : Sim c a.tmps) (hops : ∀ o ∈ ops.toList, operOK E.nt o = true) (hsz : a.tmps.size = E.nt) (h : guarded ops c.s o.guard k z = some r) :
    (Region.wanted o (yielded ops a.tmps) = true ∧ k c.s = some r) ∨ (Region.wanted o (yielded ops a.tmps) = false ∧ z c.s = some r) := by
  unfold guarded at h
  split at h
  · rename_i hg
    exact .inl ⟨by simp [Region.wanted, hg], h⟩
  · rename_i j want hg
    split at h
    · cases h
    · rename_i n hn
      have hnlt : n < a.tmps.size := by
        cases hj : ops[j]? with
        | none => rw [hj] at hn; cases hn
        | some oj =>
          rw [hj] at hn
          rw [hsz]
          exact operOK_dst (hops oj (by have := Array.mem_of_getElem? hj; exact Array.mem_toList_iff.2 this)) n hn
      obtain ⟨h1, h2⟩ := guard_val (ops := ops) (j := j) hs hnlt hn
      split at h
      · rename_i b hb
        have hy := h1 _ hb
        cases b with
        | true =>
          simp only at h
          rw [force_eq hb] at h
          cases want with
          | true => exact .inl ⟨by simp [Region.wanted, hg, hy], h⟩
          | false => exact .inr ⟨by simp [Region.wanted, hg, hy], h⟩
        | false =>
          simp only at h
          rw [force_eq hb] at h
          cases want with
          | true => exact .inr ⟨by simp [Region.wanted, hg, hy], h⟩
          | false => exact .inl ⟨by simp [Region.wanted, hg, hy], h⟩
      · rename_i hb
        have hy := h2 hb
        exact .inr ⟨by simp [Region.wanted, hg, hy], h⟩
      · cases h
theorem undef_take {c : Cx} {a : Act} {X : Nat} {x : Option Nat} (hf : Fr X c a) (hd : ∀ n : Nat, x = some n → n < a.tmps.size) : Fr X { c with s := c.s.putO x .undef } (a.put x undef) ∧ Ext c { c with s := c.s.putO x .undef } := by
  cases x with
  | none => exact ⟨hf, Ext.refl c⟩
  | some n =>
    have hlt := hd n rfl
    have hne : X ≠ n := Nat.ne_of_gt (Nat.lt_of_lt_of_le hlt hf.ghost.out)
    have hsim := (Grown.refl c n).put hf.sim hlt (show VR c (.slot n []) .undef undef from rfl)
    exact ⟨⟨hsim, by simpa [Act.put] using hf.ghost.out, put_own hne hf.ghost.own⟩, (Ext.refl c).setS _⟩
theorem put_size (a : Act) (x : Option Nat) (v : Value) : (a.put x v).tmps.size = a.tmps.size := by cases x <;> simp [Act.put]
theorem put_defers (a : Act) (x : Option Nat) (v : Value) : (a.put x v).defers = a.defers := by cases x <;> rfl
section
variable {P : Program} {E : Env} {ops : Array Oper} {X : Nat} {Mo : Option (List Nat)} {c0 : Cx} {a0 : Act}
theorem Inv.step {first first' : Bool} {A : List Nat} {blk : Nat → Nat} {c c' : Cx} {a a' : Act} {i : Nat} {o : Oper} {v : Value} (h : Inv P E ops X Mo c0 a0 first A blk c a) (hdst : dstsOK ops = true) (hM : ∀ M, Mo = some M → ∀ o ∈ ops.toList, ∀ n ∈ M, o.dst ≠ some n)
    (hi : ops[i]? = some o) (hA : memN i A = false) (hf : Fr X c' a') (he : Ext c c') (hsz : a'.tmps.size = a.tmps.size) (hdf : a'.defers = a.defers) (ht : a'.tmps = (a.put o.dst v).tmps)
    (hfst : first' = true → ∀ b g, Rd c'.ρ b g → g < c'.W.heap.size → g < c0.W.heap.size ∧ stable (c0.ρ g)) : Inv P E ops X Mo c0 a0 first' A blk c' a' := by
  refine ⟨hf, h.env.next he hsz, h.ext.trans he, hsz.trans h.sz, hdf.trans h.df, fun M hMo n hn => ?_, hfst, fun j hj => (h.al j hj).step he ht fun oj n hoj hn => ?_, h.dis⟩
  · rw [ht, getD_put (hM M hMo o (Array.mem_toList_iff.2 (Array.mem_of_getElem? hi)) n hn)]
    exact h.mtm M hMo n hn
  · intro e
    have hne : j ≠ i := fun e => by rw [e, hA] at hj; cases hj
    exact dstsOK_at hdst hoj hi hne hn e
theorem calm_inv {c c' : Cx} (h : ∀ b g, Rd c.ρ b g → g < c.W.heap.size → g < c0.W.heap.size ∧ stable (c0.ρ g)) (hW : c'.W = c.W) (hρ : ∀ g, g < c.W.heap.size → c'.ρ g = c.ρ g) : ∀ b g, Rd c'.ρ b g → g < c'.W.heap.size → g < c0.W.heap.size ∧ stable (c0.ρ g) := fun b g hr hg => by
  rw [hW] at hg
  refine h b g ?_ hg
  unfold Rd at *
  rw [hρ g hg] at hr
  exact hr
theorem plan_sound {fl : Nat → Bool} {Q0 : Exit → Act → World → Prop} {s' : St} (hty : TyOk P c0.ty) (hops : ∀ o ∈ ops.toList, operOK E.nt o = true) (hsel : Region.noSelect ops = true) (hdst : dstsOK ops = true) (hM : ∀ M, Mo = some M → ∀ o ∈ ops.toList, ∀ n ∈ M, o.dst ≠ some n)
    (hQ0 : ∀ ch a w, ¬ Q0 (.panic ch) a w) (hEnd : EndsIn P X c0 a0 s' (Q0 .normal)) : ∀ (rows : List PRow) (fuel : Nat) (first : Bool) (L listed : Array Bool) (A : List Nat) (blk : Nat → Nat) (c : Cx) (a : Act), planGo E.ty ops fl L rows = true → Sup L listed A → (∀ j, memN j A = true → j ∈ allocsOf rows) →
      still A rows ≤ fuel → Inv P E ops X Mo c0 a0 first A blk c a → runOpsD E ops Mo first rows c.s = some s' → wpAnyG P .any ops Q0 (RG (Gd c0 a0 Mo)) fl fuel listed a c.W := by
  have hQ : ∀ (x : Option Nat) (v : Value) ch (a : Act) w, Q0 (.panic ch) (a.put x v) w → Q0 (.panic ch) a w := fun x v ch a w h => (hQ0 _ _ _ h).elim
  intro rows
  induction rows with
  | nil =>
    intro fuel first L listed A blk c a hgo hsup hA hst hinv h
    cases h
    have hre : Region.ready .any ops listed = [] := by
      rw [List.eq_nil_iff_forall_not_mem]
      intro j hj
      rcases ready_dn (B := []) hsup (fun k hk => by cases hA k hk) hj with h | h
      · cases h
      · have : (Region.ready .any ops L).isEmpty = true := hgo
        rw [List.isEmpty_iff] at this
        have h : j ∈ Region.ready .any ops L := h
        rw [this] at h
        cases h
    have hq : Q0 .normal a c.W := hEnd a c rfl hinv.fr hinv.ext hinv.sz hinv.df
    cases fuel with
    | zero => exact ⟨hre, hq⟩
    | succ fuel => exact ⟨fun _ => hq, fun i hi => by rw [hre] at hi; cases hi⟩
  | cons r l ihl =>
    obtain ⟨i, k, ds⟩ := r
    have hadopt : ∀ (fuel : Nat) (first : Bool) (L listed : Array Bool) (A : List Nat) (blk : Nat → Nat) (c : Cx) (a : Act), planGo E.ty ops fl L ((i, k, ds) :: l) = true → Sup L listed A → (∀ j, memN j A = true → j ∈ allocsOf ((i, k, ds) :: l)) →
        still A ((i, k, ds) :: l) ≤ fuel → Inv P E ops X Mo c0 a0 first A blk c a → runOpsD E ops Mo first ((i, k, ds) :: l) c.s = some s' → memN i A = true → wpAnyG P .any ops Q0 (RG (Gd c0 a0 Mo)) fl fuel listed a c.W := by
      intro fuel first L listed A blk c a hgo hsup hA hst hinv h hiA
      simp only [planGo, Bool.and_eq_true, Bool.not_eq_true'] at hgo
      obtain ⟨⟨hre, hni, hal⟩, hrow, hgo⟩ := hgo
      have hmem := hA i hiA
      have hnl : i ∉ allocsOf l := fun h => by
        obtain ⟨r, hr, e⟩ := allocsOf_mem h
        have := (List.any_eq_false.1 hni) r hr
        exact this (beq_eq.2 e)
      have hk3 : k = 3 := by
        unfold allocsOf at hmem
        split at hmem
        · rename_i hb; exact beq_eq.1 hb
        · exact (hnl hmem).elim
      subst hk3
      obtain ⟨o, t, n, i0, vs, T, h1, h2, h3, h4, h5, h6, h7, h8, h9⟩ := hinv.al i hiA
      obtain ⟨o', t', n', i0', h1', h2', h3', hg', hn', _⟩ := allocOK_at ((List.all_eq_true.1 hal) i hmem)
      rw [h1] at h1'
      cases h1'
      simp only [runOpsD, h1, hg', guarded] at h
      split at h
      · cases h
      rename_i hjunk
      simp only [Option.bind_eq_some_iff, rowStep] at h
      obtain ⟨s1, hs1, h⟩ := h
      unfold allocStep at hs1
      rw [h2, h3] at hs1
      simp only [Option.bind_eq_some_iff] at hs1
      obtain ⟨i1, hi1, hs1⟩ := hs1
      rw [hinv.env.ty, h4] at hi1
      cases hi1
      split at hs1
      · rename_i hb
        cases hs1
        have hlt : n < a.tmps.size := by
          rw [hinv.env.nt]
          exact operOK_dst (hops o (Array.mem_toList_iff.2 (Array.mem_of_getElem? h1))) n h3
        obtain ⟨hl, hv⟩ := h9 c X rfl
        obtain ⟨c1, a1, a2, a3, a4, a5, a6⟩ := adopt_sound (c := c.nilH X) (X := X) (tm := a.tmps) (n := n) (g := blk i) (cs := i0.zero) (vs := vs) (T := T) (nilH_sim hinv.fr.sim hinv.fr.ghost) hinv.fr.ghost.nilH hlt hb hl hv h6 h7 h8
        have hext : Ext c0 c1 := a4 c0 (hinv.ext.trans (nilH_ext c X)) h5
        have hty1 : c1.ty = c.ty := by rw [hext.ty, hinv.ext.ty]
        have hW1 : c1.W = c.W := a1
        rw [← hW1]
        refine ihl fuel first (L.setIfInBounds i true) listed (A.filter fun j => !Nat.beq j i) blk c1 a hgo (hsup.adopt hiA) (fun j hj => ?_) ?_ ⟨⟨a3, hinv.fr.ghost.out, ?_⟩, ⟨by rw [hty1]; exact hinv.env.ty, by rw [hty1]; exact hinv.env.tys, by rw [hty1]; exact hinv.env.call, hinv.env.nt⟩, hext, hinv.sz, hinv.df, hinv.mtm, fun hf b g hr hg => ?_, fun j hj => ?_, fun j k hj hk hne => ?_⟩ ?_
        · have hjA := (List.mem_filter.1 (memN_iff.1 hj))
          have hm := hA j (memN_iff.2 hjA.1)
          have hm' : j ∈ i :: allocsOf l := hm
          rcases List.mem_cons.1 hm' with e | hm'
          · subst e
            have := hjA.2
            rw [show Nat.beq j j = true from beq_eq.2 rfl] at this
            cases this
          · exact hm'
        · have := still_cons (A := A) (i := i) (k := 3) (ds := ds) (l := l)
          rw [hiA] at this
          have h10 := still_adopt (A := A) hni
          simp only at this
          omega
        · rw [a2]
          have hne : X ≠ n := Nat.ne_of_gt (Nat.lt_of_lt_of_le hlt hinv.fr.ghost.out)
          refine put_own hne ?_
          rw [setBox_tl.1]
          exact hinv.fr.ghost.own
        · rw [hW1] at hg
          exact hinv.fst hf b g (a6 b g hr) hg
        · have hjA := (List.mem_filter.1 (memN_iff.1 hj))
          have hji : j ≠ i := fun e => by
            have := hjA.2
            rw [e, show Nat.beq i i = true from beq_eq.2 rfl] at this
            cases this
          have hjA' := memN_iff.2 hjA.1
          obtain ⟨oj, t', n', i', vs', T', b1, b2, b3, b4, b5, b6, b7, b8, b9⟩ := hinv.al j hjA'
          refine ⟨oj, t', n', i', vs', T', b1, b2, b3, by rw [hty1]; exact b4, b5, ?_, by rw [hW1]; exact b7, b8, fun c' Y e => b9 c' Y (by rw [e, hty1])⟩
          exact (a5 (blk j) (hinv.dis j i hjA' hiA hji) (by show stable (c.ρ (blk j)); rw [b6]; trivial)).trans b6
        · exact hinv.dis j k (memN_iff.2 (List.mem_filter.1 (memN_iff.1 hj)).1) (memN_iff.2 (List.mem_filter.1 (memN_iff.1 hk)).1) hne
        · rw [a2]
          have h : runOpsD E ops Mo (first && stays 3) l ((c.s.setBox (.loc n) i0.zero).put n (.ptr (.loc n) 0)) = some s' := h
          rw [show (first && stays 3) = first from Bool.and_true first] at h
          exact h
      · cases hs1
    intro fuel
    induction fuel with
    | zero =>
      intro first L listed A blk c a hgo hsup hA hst hinv h
      cases hiA : memN i A with
      | true => exact hadopt _ first L listed A blk c a hgo hsup hA hst hinv h hiA
      | false =>
        rw [still_cons, hiA] at hst
        simp only at hst
        omega
    | succ fuel ihf =>
      intro first L listed A blk c a hgo hsup hA hst hinv h
      cases hiA : memN i A with
      | true => exact hadopt _ first L listed A blk c a hgo hsup hA hst hinv h hiA
      | false =>
      have hgo0 := hgo
      have h0 := h
      simp only [planGo, Bool.and_eq_true, Bool.not_eq_true'] at hgo
      obtain ⟨⟨hre, hni, hal⟩, hrow, hgo⟩ := hgo
      have hreadyL : i ∈ Region.ready .any ops L := by simpa using hre
      have hready := ready_up hsup hreadyL hiA
      have hst' : still A l ≤ fuel := by
        rw [still_cons, hiA] at hst
        simp only at hst
        omega
      unfold runOpsD at h
      split at h
      · cases h
      rename_i hjunk
      split at h
      · cases h
      rename_i o hi
      have hk := hops o (Array.mem_toList_iff.2 (Array.mem_of_getElem? hi))
      have hd : ∀ n : Nat, o.dst = some n → n < a.tmps.size := by rw [hinv.env.nt]; exact operOK_dst hk
      have hg := guarded_sound (E := E) hinv.fr.sim hops hinv.env.nt h
      have hAl : ∀ j, memN j A = true → j ∈ allocsOf l := fun j hj => by
        have hm := hA j hj
        unfold allocsOf at hm
        split at hm
        · rcases List.mem_cons.1 hm with e | hm
          · rw [e, hiA] at hj; cases hj
          · exact hm
        · exact hm
      -- alone
      have halone : aloneOK ops L i l = true → (k = 3 ∨ ∀ K, (K = fun a' w' => (fl i = true → RG (Gd c0 a0 Mo) c.W w') ∧ wpAnyG P .any ops Q0 (RG (Gd c0 a0 Mo)) fl fuel (listed.setIfInBounds i true) a' w') → wpOp P ops Q0 i K a c.W) → wpAnyG P .any ops Q0 (RG (Gd c0 a0 Mo)) fl (fuel + 1) listed a c.W := by
        intro hal1 hself
        refine ⟨fun e => (by rw [e] at hready; cases hready), fun j hj => ?_⟩
        have hjA : memN j A = false := (hsup.un (mem_ready.1 hj).1).2
        have hearly : j ∈ allocsOf ((i, k, ds) :: l) → wpOp P ops Q0 j (fun a' w' => (fl j = true → RG (Gd c0 a0 Mo) c.W w') ∧ wpAnyG P .any ops Q0 (RG (Gd c0 a0 Mo)) fl fuel (listed.setIfInBounds j true) a' w') a c.W := by
          intro hjm
          obtain ⟨oj, t, n, i0, b1, b2, b3, b4, b5, b6⟩ := allocOK_at ((List.all_eq_true.1 hal) j hjm)
          have hjn : c.s.t n = .junk := allJunk_at hjunk n b5
          have hlt : n < a.tmps.size := by
            rw [hinv.env.nt]
            exact operOK_dst (hops oj (Array.mem_toList_iff.2 (Array.mem_of_getElem? b1))) n b3
          rw [hinv.env.ty] at b6
          obtain ⟨inf, _, z, hfz⟩ := hinv.env.tys.facts b6
          have hrun : (execOp a.eval oj).run P c.W = .ok (.value (.pointer (some ⟨c.W.heap.size, 0, none⟩))) (c.W.alloc (.cells (List.toArray z.cells.toList) t (0, 0))) := by
            simp [execOp, b2, Instr.alloc, zeroValue, typeInfo, hfz.info, hfz.zero, newVar, newRow]
          obtain ⟨c', e1, e2, e3, e4, e5, e6⟩ := early_sound (n := n) (ob := .cells (List.toArray z.cells.toList) t (0, 0)) (v := .pointer (some ⟨c.W.heap.size, 0, none⟩)) hinv.fr hlt hjn
          have hbel : Below c.W.heap.size c.W c'.W := by
            rw [e2]
            exact ⟨rfl, rfl, rfl, by show c.W.heap.size ≤ (c.W.alloc _).heap.size; simp, fun k hk => Below.heap_alloc c.W _ k hk⟩
          unfold wpOp
          rw [b1]
          have hw : Region.wanted oj (yielded ops a.tmps) = true := by simp [Region.wanted, b4]
          simp only [hw, if_true]
          refine .inl ?_
          unfold Oper.wp
          rw [hrun]
          show _ ∧ _
          rw [b3, ← e2]
          refine ⟨fun _ => RG.of_below hbel, ?_⟩
          have hlj : listed.getD j true = false := (mem_ready.1 hj).1
          refine ihf first L _ (j :: A) (fun m => if m = j then c.W.heap.size else blk m) c' _ hgo0 (hsup.early j) (fun m hm => ?_) ?_ ⟨e3, hinv.env.next e4 (put_size _ _ _), hinv.ext.trans e4, (put_size _ _ _).trans hinv.sz, (put_defers _ _ _).trans hinv.df, fun M hMo m hm => ?_, fun hfst b g hr hgl => ?_, fun m hm => ?_, fun m1 m2 hm1 hm2 hne => ?_⟩ (by rw [e1]; exact h0)
          · rw [memN_cons, Bool.or_eq_true] at hm
            rcases hm with hm | hm
            · rw [beq_eq.1 hm]; exact hjm
            · exact hA m hm
          · have := still_early hjA (allocsOf_mem hjm)
            omega
          · rw [getD_put (hM M hMo oj (Array.mem_toList_iff.2 (Array.mem_of_getElem? b1)) m hm ∘ fun e => by rw [b3]; exact e)]
            exact hinv.mtm M hMo m hm
          · by_cases hgs : g < c.W.heap.size
            · have hr' : Rd c.ρ b g := by
                unfold Rd at *
                rw [e5 g hgs] at hr
                exact hr
              exact hinv.fst hfst b g hr' hgs
            · have hge : g = c.W.heap.size := by
                rw [e2] at hgl
                have : g < c.W.heap.size + 1 := by simpa using hgl
                omega
              subst hge
              rcases hr with hr | ⟨_, hr⟩ <;> (rw [e6] at hr; cases hr)
          · rw [memN_cons, Bool.or_eq_true] at hm
            by_cases hmj : m = j
            · subst hmj
              rw [if_pos rfl]
              refine ⟨oj, t, n, i0, z.cells.toList, t, b1, b2, b3, by rw [e4.ty]; exact b6, hinv.ext.size, e6, ?_, ?_, fun c'' Y e => zero_cells (by rw [e, e4.ty]) hfz.zs⟩
              · rw [e2]
                exact heap_alloc_new c.W _
              · simp [Act.put, Array.getD, hlt]
            · rw [if_neg hmj]
              have hmA : memN m A = true := by
                rcases hm with hm | hm
                · exact (hmj (beq_eq.1 hm)).elim
                · exact hm
              exact (hinv.al m hmA).step e4 rfl fun om nm hom hnm e => dstsOK_at hdst hom b1 hmj hnm (by rw [b3]; exact e)
          · have hold : ∀ m, memN m A = true → blk m < c.W.heap.size := fun m hm => by
              obtain ⟨_, _, _, _, _, _, _, _, _, _, _, _, h7, _⟩ := hinv.al m hm
              exact (Array.getElem?_eq_some_iff.1 h7).1
            have hin : ∀ m, memN m (j :: A) = true → m ≠ j → memN m A = true := fun m hm hne => by
              rw [memN_cons, Bool.or_eq_true] at hm
              rcases hm with hm | hm
              · exact (hne (beq_eq.1 hm)).elim
              · exact hm
            by_cases x1 : m1 = j
            · have x2 : m2 ≠ j := fun e => hne (by rw [x1, e])
              rw [if_pos x1, if_neg x2]
              have := hold m2 (hin m2 hm2 x2)
              omega
            · rw [if_neg x1]
              by_cases x2 : m2 = j
              · rw [if_pos x2]
                have := hold m1 (hin m1 hm1 x1)
                omega
              · rw [if_neg x2]
                exact hinv.dis m1 m2 (hin m1 hm1 x1) (hin m2 hm2 x2) hne
        rcases ready_dn (B := allocsOf l) hsup (fun m hm => memN_iff.2 (hAl m hm)) hj with hjl | hjr
        · refine hearly ?_
          unfold allocsOf
          split
          · exact List.mem_cons_of_mem _ (memN_iff.1 hjl)
          · exact memN_iff.1 hjl
        · have hji : i = j := beq_eq.1 ((List.all_eq_true.1 hal1) j hjr)
          subst hji
          rcases hself with hk3 | hself
          · refine hearly ?_
            rw [hk3]
            exact List.mem_cons_self
          · exact hself _ rfl
      -- what follows
      have hafter : ∀ (first' : Bool) (s1 : St) (c' : Cx) (a' : Act) (v : Value), c'.s = s1 → Fr X c' a' → Ext c c' → a'.tmps.size = a.tmps.size → a'.defers = a.defers → a'.tmps = (a.put o.dst v).tmps →
          (first' = true → ∀ b g, Rd c'.ρ b g → g < c'.W.heap.size → g < c0.W.heap.size ∧ stable (c0.ρ g)) → runOpsD E ops Mo first' l s1 = some s' → wpAnyG P .any ops Q0 (RG (Gd c0 a0 Mo)) fl fuel (listed.setIfInBounds i true) a' c'.W := by
        intro first' s1 c' a' v e1 e2 e3 e4 e5 e6 e7 e8
        exact ihl fuel first' _ _ A blk c' a' hgo (hsup.set i) hAl hst' (hinv.step hdst hM hi hiA e2 e3 e4 e5 e6 e7) (by rw [e1]; exact e8)
      generalize hD : behind ops i (List.range ops.size) [] = BH at *
      have hfree : calmOK ops L i (allocsOf l) = true → (∀ j oj, ops[j]? = some oj → memN j BH = true → ∃ e ∈ oj.after, Region.binds .any e = true ∧ (e.on = i ∨ memN e.on BH = true)) ∧ (∀ j oj, ops[j]? = some oj → j ≠ i → listed.getD j true = false → memN j BH = false → o.apart ops oj = true) ∧ (∀ k, listed.getD k false = true → memN k BH = false) := fun hc => by
        unfold calmOK at hc
        rw [hD] at hc
        simp only [Bool.and_eq_true] at hc
        refine ⟨fun j oj hoj hj => (behindOK_at hc.1 hj).1 oj hoj, fun j oj hj hne hun hno => freeOK_at hi hc.2 hj hne (hsup.un hun).1 hno, fun m hm => ?_⟩
        cases hmD : memN m BH with
        | false => rfl
        | true =>
          obtain ⟨_, h1, h2⟩ := behindOK_at hc.1 hmD
          rcases hsup.onL hm with h3 | h3
          · rw [h3] at h1; cases h1
          · rw [memN_iff.2 (hAl m h3)] at h2; cases h2
      obtain ⟨hu1, hu2⟩ := undef_take (x := o.dst) hinv.fr hd
      have hk5 : k = 0 ∨ k = 1 ∨ k = 2 ∨ k = 3 ∨ ∃ m, k = m + 4 := by
        match k with
        | 0 => exact .inl rfl
        | 1 => exact .inr (.inl rfl)
        | 2 => exact .inr (.inr (.inl rfl))
        | 3 => exact .inr (.inr (.inr (.inl rfl)))
        | m + 4 => exact .inr (.inr (.inr (.inr ⟨m, rfl⟩)))
      rcases hk5 with rfl | rfl | rfl | rfl | ⟨m, rfl⟩
      · -- calm
        rw [show (first && stays 0) = first from Bool.and_true first] at hg
        rcases hg with ⟨hw, hg⟩ | ⟨hw, hg⟩
        · simp only [rowStep, Option.bind_eq_some_iff] at hg
          obtain ⟨s1, hs1, hg⟩ := hg
          unfold calmStep at hs1
          split at hs1
          · rename_i n hcm hdn
            split at hs1
            · rename_i d hev
              cases hs1
              have hcalm := evOp_calm hinv.env.ty hinv.env.tys hinv.fr.sim hcm hev n (fun _ => True)
              obtain ⟨v, c', e1, e2, e3, e4, e5, e6⟩ := calm_take hinv.fr (hd n hdn) hcalm
              refine wpAnyG_calm RG.refl hi (Region.noSelect_spec hsel) (hQ _ _) (hfree hrow).1 fuel listed a c.W (hfree hrow).2.1 (hfree hrow).2.2 hready (.inl ⟨hw, fun w => e6 w trivial⟩) ?_
              rw [← e2]
              exact hafter first _ c' _ v e1 (by rw [hdn]; exact e3) e4 (put_size _ _ _) (put_defers _ _ _) rfl (fun hf => calm_inv (hinv.fst hf) e2 e5) hg
            · cases hs1
          · cases hs1
        · refine wpAnyG_calm RG.refl hi (Region.noSelect_spec hsel) (hQ _ _) (hfree hrow).1 fuel listed a c.W (hfree hrow).2.1 (hfree hrow).2.2 hready (.inr ⟨hw, rfl⟩) ?_
          exact hafter first _ { c with s := c.s.putO o.dst .undef } _ undef rfl hu1 hu2 (put_size _ _ _) (put_defers _ _ _) rfl (fun hf => hinv.fst hf) hg
      · -- a load
        rw [show (first && stays 1) = first from Bool.and_true first] at hg
        have hrow' : (calmOK ops L i (allocsOf l) && lateOK ops fl L i (behind ops i (List.range ops.size) [])) = true := hrow
        rw [hD] at hrow'
        simp only [Bool.and_eq_true] at hrow'
        obtain ⟨hfr, hlate⟩ := hrow'
        have hfree2 : ∀ j oj, ops[j]? = some oj → j ≠ i → listed.getD j true = false → memN j BH = false → o.apart ops oj = true ∧ fl j = true := fun j oj hj hne hun hno =>
          ⟨(hfree hfr).2.1 j oj hj hne hun hno, lateOK_at hlate hj hne (hsup.un hun).1 hno⟩
        rcases hg with ⟨hw, hg⟩ | ⟨hw, hg⟩
        · simp only [rowStep, Option.bind_eq_some_iff] at hg
          obtain ⟨s1, hs1, hg⟩ := hg
          have key : ∀ (n : Nat) (d : D), o.dst = some n → s1 = c.s.put n d → Calm P c a o n (RG (Gd c0 a0 Mo) c.W) d → wpAnyG P .any ops Q0 (RG (Gd c0 a0 Mo)) fl (fuel + 1) listed a c.W := by
            intro n d hdn he hcalm
            subst he
            obtain ⟨v, c', e1, e2, e3, e4, e5, e6⟩ := calm_take hinv.fr (hd n hdn) hcalm
            refine wpAnyG_load RG.trans RG.refl (w0 := c.W) hi (Region.noSelect_spec hsel) (hQ _ _) (hfree hfr).1 fuel listed a c.W hfree2 (hfree hfr).2.2 hready (.inl ⟨hw, e6⟩) (RG.refl _) ?_
            rw [← e2]
            exact hafter first _ c' _ v e1 (by rw [hdn]; exact e3) e4 (put_size _ _ _) (put_defers _ _ _) rfl (fun hf => calm_inv (hinv.fst hf) e2 e5) hg
          unfold loadStep at hs1
          split at hs1
          · rename_i t z n ho hdn
            simp only [Option.bind_eq_some_iff] at hs1
            obtain ⟨ti, hti, hs1⟩ := hs1
            rw [hinv.env.ty] at hti
            split at hs1
            · -- all stays
              simp only [Option.map_eq_some_iff] at hs1
              obtain ⟨d, hld, rfl⟩ := hs1
              refine key n d hdn rfl ?_
              have hT : ∀ g, g < c.W.heap.size → ∀ w, RG (Gd c0 a0 none) c.W w → w.heap[g]? = c.W.heap[g]? := fun g hg w hw => hw.2 g hg trivial
              exact y_loadT hinv.env.tys hinv.fr.sim (fun _ _ h => h) (fun _ _ h => h) (fun b g _ hg => hT g hg) (fun r cs hb => hT _ (hinv.fr.sim.boxes r cs hb).lt) (fun _ _ _ g hg => hT g hg) ho hti hld
            · rename_i M
              split at hs1
              · simp only [Option.map_eq_some_iff] at hs1
                obtain ⟨d, hld, rfl⟩ := hs1
                refine key n d hdn rfl ?_
                have hmask : ∀ r cs, maskB M c.s r = some cs → c.s.box r = some cs ∧ ∃ n ∈ M, r = .loc n ∧ c.s.t n = .ptr (.loc n) 0 := fun r cs hb => by
                  unfold maskB at hb
                  split at hb
                  · rename_i n
                    split at hb
                    · rename_i hc
                      simp only [Bool.and_eq_true] at hc
                      exact ⟨hb, n, memN_iff.1 hc.1, rfl, ptrAt_eq hc.2⟩
                    · cases hb
                  · cases hb
                refine y_loadT hinv.env.tys hinv.fr.sim (gp := fun _ => none) (bx := maskB M c.s) (fun _ _ h => by cases h) (fun r cs hb => (hmask r cs hb).1) (fun b g hr hg w hw => ?_) (fun r cs hb w hw => ?_) (fun _ _ h => by cases h) ho hti hld
                · obtain ⟨h1, h2⟩ := hinv.fst rfl b g hr hg
                  exact hw.2 g hg (.inl ⟨h1, h2⟩)
                · obtain ⟨h1, n, hn, rfl, h2⟩ := hmask r cs hb
                  have hlt := (hinv.fr.sim.boxes _ cs h1).lt
                  have hv := hinv.fr.sim.slots n
                  rw [h2] at hv
                  have hv2 : a0.tmps.getD n undef = .pointer (some ⟨c.β (.loc n), 0, none⟩) := by
                    rw [← hinv.mtm M rfl n hn]
                    exact hv.2
                  exact hw.2 _ hlt (.inr ⟨n, hn, hv2⟩)
              · cases hs1
          · cases hs1
        · refine wpAnyG_load RG.trans RG.refl (w0 := c.W) hi (Region.noSelect_spec hsel) (hQ _ _) (hfree hfr).1 fuel listed a c.W hfree2 (hfree hfr).2.2 hready (.inr ⟨hw, rfl⟩) (RG.refl _) ?_
          exact hafter first _ { c with s := c.s.putO o.dst .undef } _ undef rfl hu1 hu2 (put_size _ _ _) (put_defers _ _ _) rfl (fun hf => hinv.fst hf) hg
      · -- alone
        have hrow' : (aloneOK ops L i l && !fl i) = true := hrow
        simp only [Bool.and_eq_true, Bool.not_eq_true'] at hrow'
        refine halone hrow'.1 (.inr fun K hK => ?_)
        subst hK
        rw [show (first && stays 2) = false from Bool.and_false first] at hg
        unfold wpOp
        rw [hi]
        simp only
        rcases hg with ⟨hw, hg⟩ | ⟨hw, hg⟩
        · rw [if_pos hw]
          refine .inl ?_
          simp only [rowStep, Option.bind_eq_some_iff] at hg
          obtain ⟨s1, hs1, hg⟩ := hg
          refine Oper.wp_mono ?_ (wp_put (step_sound hinv.env hinv.fr hk hs1 (fun a' w' => ∃ c', c'.W = w' ∧ c'.s = s1 ∧ Fr X c' a' ∧ Ext c c' ∧ a'.tmps.size = a.tmps.size ∧ a'.defers = a.defers) Q0 fun a' c' e1 e2 e3 e4 e5 => ⟨c', rfl, e1, e2, e3, e4, e5⟩))
          rintro a' w' ⟨⟨c', rfl, e1, e2, e3, e4, e5⟩, v, e6⟩
          exact ⟨fun e => by (rw [hrow'.2] at e; cases e), hafter false s1 c' a' v e1 e2 e3 e4 e5 e6 (fun e => by cases e) hg⟩
        · rw [if_neg (by rw [hw]; exact fun e => by cases e)]
          exact ⟨fun _ => RG.refl _, hafter false _ { c with s := c.s.putO o.dst .undef } _ undef rfl hu1 hu2 (put_size _ _ _) (put_defers _ _ _) rfl (fun e => by cases e) hg⟩
      · -- a new variable
        exact halone hrow (.inl rfl)
      · -- alone, and loads are about
        refine halone hrow (.inr fun K hK => ?_)
        subst hK
        rw [show (first && stays (m + 4)) = false from Bool.and_false first] at hg
        unfold wpOp
        rw [hi]
        simp only
        rcases hg with ⟨hw, hg⟩ | ⟨hw, hg⟩
        · rw [if_pos hw]
          refine .inl ?_
          simp only [rowStep, Option.bind_eq_some_iff] at hg
          obtain ⟨s1, hs1, hg⟩ := hg
          unfold flagStep at hs1
          split at hs1
          · simp only [Option.bind_eq_some_iff] at hs1
            obtain ⟨ef, hev, hap⟩ := hs1
            have hef := evOp_sound hinv.env.ty hinv.env.tys hinv.env.call hinv.fr.sim (fun _ _ h => h) (fun _ _ h => h) hev
            refine Oper.wp_mono ?_ (wp_put (apply_soundB hinv.fr hd hef hap (fun a' w' => ∃ c', c'.W = w' ∧ c'.s = s1 ∧ Fr X c' a' ∧ Ext c c' ∧ Below c.W.heap.size c.W c'.W ∧ a'.tmps.size = a.tmps.size ∧ a'.defers = a.defers) Q0 fun a' c' e1 e2 e3 eb e4 e5 => ⟨c', rfl, e1, e2, e3, eb, e4, e5⟩))
            rintro a' w' ⟨⟨c', rfl, e1, e2, e3, eb, e4, e5⟩, v, e6⟩
            exact ⟨fun _ => RG.of_below eb, hafter false s1 c' a' v e1 e2 e3 e4 e5 e6 (fun e => by cases e) hg⟩
          · rename_i M
            split at hs1
            · cases hs1
            rename_i hhid
            simp only [Option.bind_eq_some_iff] at hs1
            obtain ⟨s2, hs2, hs1⟩ := hs1
            split at hs1
            · rename_i hno
              cases hs1
              obtain ⟨f1, f2⟩ := hide_sound hinv.fr hhid
              have hE2 := hinv.env.next f2 rfl
              refine Oper.wp_mono ?_ (wp_put (step_sound hE2 f1 hk hs2 (fun a' w' => ∃ c', c'.W = w' ∧ c'.s = s2 ∧ Fr X c' a' ∧ Ext (c.hid M) c' ∧ a'.tmps.size = a.tmps.size ∧ a'.defers = a.defers) Q0 fun a' c' e1 e2 e3 e4 e5 => ⟨c', rfl, e1, e2, e3, e4, e5⟩))
              rintro a' w' ⟨⟨c', rfl, e1, e2, e3, e4, e5⟩, v, e6⟩
              obtain ⟨g1, g2⟩ := shown_sound hinv.fr hhid e3 e2 e4 e6 (by rw [e1]; exact hno)
              refine ⟨fun _ => ⟨e3.size, fun g hgl hG => ?_⟩, hafter false _ (c.shown c' M o.dst) a' v (by show c'.s.shown M o.dst c.s = _; rw [e1]) g1 g2 e4 e5 e6 (fun e => by cases e) hg⟩
              refine (e3.keep g hgl ?_).2
              show stable (match c.isM M g with | true => Role.oth | false => c.ρ g)
              cases hM2 : c.isM M g with
              | true => trivial
              | false =>
                show stable (c.ρ g)
                rcases hG with ⟨h0, h1⟩ | ⟨n, hn, h1⟩
                · rw [(hinv.ext.keep g h0 h1).1]
                  exact h1
                · exfalso
                  have hv := hinv.fr.sim.slots n
                  rw [(hidOK_at hhid hn).1] at hv
                  have h2 : a.tmps.getD n undef = .pointer (some ⟨c.β (.loc n), 0, none⟩) := hv.2
                  rw [hinv.mtm M rfl n hn, h1] at h2
                  have h3 : g = c.β (.loc n) := by
                    injection h2 with h2
                    injection h2 with h2
                    injection h2
                  rw [isM_iff.2 ⟨n, hn, h3.symm⟩] at hM2
                  cases hM2
            · cases hs1
        · rw [if_neg (by rw [hw]; exact fun e => by cases e)]
          exact ⟨fun _ => RG.refl _, hafter false _ { c with s := c.s.putO o.dst .undef } _ undef rfl hu1 hu2 (put_size _ _ _) (put_defers _ _ _) rfl (fun e => by cases e) hg⟩
end
end Go.Den
namespace Go.Den
open Go Go.RowKit
set_option linter.unusedVariables false
theorem drew_fr {c : Cx} {a : Act} {X : Nat} (hf : Fr X c a) : Fr X { c with W := { c.W with drawn := c.W.drawn + 1 } } a ∧ Ext c { c with W := { c.W with drawn := c.W.drawn + 1 } } := by
  refine ⟨⟨Sim.same (Z := fun _ => False) hf.sim rfl (fun _ _ _ h => h) ⟨rfl, fun b g h _ => ⟨h, rfl⟩, fun q r hq _ => ⟨hq, rfl⟩, fun r hr _ => ⟨hr, rfl⟩, fun q _ => ⟨rfl, fun g h _ => ⟨h, rfl⟩⟩⟩ fun r hr => ?_, hf.ghost.out, hf.ghost.own⟩, rfl, rfl, rfl, Nat.le_refl _, fun _ _ _ => ⟨rfl, rfl⟩, rfl, fun _ => rfl, fun _ => rfl⟩
  obtain ⟨cs, hb⟩ := Option.isSome_iff_exists.1 hr
  obtain ⟨vs, T, h1, h2, _⟩ := (hf.sim.boxes r cs hb).out
  exact ⟨h2, rfl⟩
theorem junks_noOwn {s : St} : ∀ {ds : List Nat}, noOwns s ds = true → ∀ n ∈ ds, (s.t n).hasOwn = false
  | [], h, n, hn => by cases hn
  | m :: ds, h, n, hn => by
    have h' : (!(s.t m).hasOwn && noOwns s ds) = true := h
    simp only [Bool.and_eq_true, Bool.not_eq_true'] at h'
    rcases List.mem_cons.1 hn with rfl | hn
    · exact h'.1
    · exact junks_noOwn h'.2 n hn
theorem junks_fr {c : Cx} {a : Act} {X : Nat} {ds : List Nat} (hf : Fr X c a) (h : noOwns c.s ds = true) : Fr X { c with s := c.s.junks ds } a := by
  refine ⟨forget_sound (K := Kill.none) hf.sim (fun y => ?_) (fun r cs' h => ⟨cs', by cases r <;> exact h, (kills_none _).symm⟩) rfl (fun q r hq _ => ?_) (fun r hr _ => by cases r <;> exact hr), hf.ghost.out, ?_⟩
  · cases hm : memN y ds with
    | true => left; simp only [St.junks, hm]
    | false => right; simp only [St.junks, hm, kill_none, and_self]
  · cases q with
    | slot y l =>
      show (D.at_ l ((c.s.junks ds).t y)).row? = _
      cases hm : memN y ds with
      | true =>
        have hq' : (D.at_ l (c.s.t y)).row? = some r := hq
        rw [noOwn_at l _ (junks_noOwn h y (memN_iff.1 hm))] at hq'
        cases hq'
      | false => simp only [St.junks, hm]; exact hq
    | cell r0 o => cases r0 <;> exact hq
    | lent j => exact hq
  · show ((c.s.junks ds).t X).hasOwn = false
    cases hm : memN X ds with
    | true => simp only [St.junks, hm]; rfl
    | false => simp only [St.junks, hm]; exact hf.ghost.own
theorem draw_sound {P : Program} {E : Env} {X id : Nat} {ops : Array Oper} {p : Plan} (hm : P.follows .mixedOrders = true) (hp : E.plan id = some p) (hok : planOK E.ty ops p = true) (hops : ∀ o ∈ ops.toList, operOK E.nt o = true) : DrawOK P E X id ops := by
  intro c a s' Q hE hf h hEnd
  unfold planOK at hok
  simp only [Bool.and_eq_true] at hok
  obtain ⟨⟨hsel, hdst, hlen⟩, hMc, hgo⟩ := hok
  have hlen : p.2.length ≤ ops.size := by simpa using hlen
  have hM : ∀ M, p.1 = some M → ∀ o ∈ ops.toList, ∀ n ∈ M, o.dst ≠ some n := by
    intro M hM o ho n hn e
    rw [hM] at hMc
    simp only at hMc
    have h1 := (Array.all_eq_true_iff_forall_mem.1 hMc) o (Array.mem_toList_iff.1 ho)
    have h2 := (List.all_eq_true.1 h1) n hn
    simp [dstIs, e] at h2
  obtain ⟨hf1, he1⟩ := drew_fr hf
  let Q0 : Exit → Act → World → Prop := fun x a w => match x with | .normal => Q .normal a w | _ => False
  refine Code.wp_mono (Q := Q0) (fun e a w hq => ?_) (wp_region_any hm (wpAny_of_G (R := RG (Gd { c with W := { c.W with drawn := c.W.drawn + 1 } } a p.1)) (str := flagged p.2) _ _ _ _ ?_))
  · cases e <;> first | exact hq | exact hq.elim
  · simp only [runRegion, hp, runPlan] at h
    have hstill : still [] p.2 ≤ ops.size := by
      unfold still
      exact Nat.le_trans List.countP_le_length hlen
    have key : ∀ (s0 : St), Fr X { c with W := { c.W with drawn := c.W.drawn + 1 }, s := s0 } a → runOpsD E ops p.1 true p.2 s0 = some s' →
        wpAnyG P .any ops Q0 (RG (Gd { c with W := { c.W with drawn := c.W.drawn + 1 } } a p.1)) (flagged p.2) ops.size (Array.replicate ops.size false) a { c.W with drawn := c.W.drawn + 1 } := by
      intro s0 hf0 h0
      have he0 : Ext c { c with W := { c.W with drawn := c.W.drawn + 1 }, s := s0 } := ⟨rfl, rfl, rfl, Nat.le_refl _, fun _ _ _ => ⟨rfl, rfl⟩, rfl, fun _ => rfl, fun _ => rfl⟩
      have hE0 := hE.next he0 rfl
      refine plan_sound (E := E) (X := X) (Q0 := Q0) (c0 := { c with W := { c.W with drawn := c.W.drawn + 1 }, s := s0 }) (a0 := a) hE0.tys hops hsel hdst hM (fun _ _ _ h => h) (hEnd.from he0 rfl rfl) p.2 ops.size true (Array.replicate ops.size false) _ [] (fun _ => 0)
        { c with W := { c.W with drawn := c.W.drawn + 1 }, s := s0 } a hgo (Sup.refl _) (fun j hj => by cases hj) hstill ⟨hf0, hE0, Ext.refl _, rfl, rfl, fun _ _ _ _ => rfl, fun _ b g hr hg => ⟨hg, hr.stable⟩, fun j hj => (by cases hj), fun j k hj => (by cases hj)⟩ h0
    split at h
    · rename_i hnil
      refine key c.s hf1 ?_
      rw [hnil]
      exact h
    · rename_i i k ds l hcons
      split at h
      · rename_i hno
        refine key (c.s.junks ds) (junks_fr hf1 hno) ?_
        rw [hcons]
        exact h
      · cases h
/-- All regions of a function that draw their order have a plan that holds. -/
def drawsOK (ty : Nat → Option TI) (nt : Nat) (plan : Nat → Option Plan) : Code → Bool
  | .region id ops draw => match draw with
    | true => (match plan id with | some p => planOK ty ops p | none => true)
    | false => true
  | .seq a b => drawsOK ty nt plan a && drawsOK ty nt plan b
  | .cond _ a b => drawsOK ty nt plan a && drawsOK ty nt plan b
  | .block _ a => drawsOK ty nt plan a
  | .loop a => drawsOK ty nt plan a
  | _ => true
theorem draws_sound {P : Program} {E : Env} {X : Nat} (hm : P.follows .mixedOrders = true) : ∀ (code : Code), codeOK E.nt code = true → drawsOK E.ty E.nt E.plan code = true → DrawsOK P E X code
  | .region id ops draw, hk, h => fun hd => by
    subst hd
    have hops : ∀ o ∈ ops.toList, operOK E.nt o = true := List.all_eq_true.1 hk
    have h' : (match E.plan id with | some p => planOK E.ty ops p | none => true) = true := h
    cases hp : E.plan id with
    | none =>
      intro c a s' Q hE hf hr
      simp only [runRegion, hp] at hr
      cases hr
    | some p =>
      rw [hp] at h'
      exact draw_sound hm hp h' hops
  | .seq a b, hk, h => by
    have hk' : (codeOK E.nt a && codeOK E.nt b) = true := hk
    have h' : (drawsOK E.ty E.nt E.plan a && drawsOK E.ty E.nt E.plan b) = true := h
    simp only [Bool.and_eq_true] at hk' h'
    exact ⟨draws_sound hm a hk'.1 h'.1, draws_sound hm b hk'.2 h'.2⟩
  | .cond _ a b, hk, h => by
    have hk' : (codeOK E.nt a && codeOK E.nt b) = true := hk
    have h' : (drawsOK E.ty E.nt E.plan a && drawsOK E.ty E.nt E.plan b) = true := h
    simp only [Bool.and_eq_true] at hk' h'
    exact ⟨draws_sound hm a hk'.1 h'.1, draws_sound hm b hk'.2 h'.2⟩
  | .block _ a, hk, h => draws_sound hm a hk h
  | .loop a, hk, h => draws_sound hm a hk h
  | .skip, hk, h => trivial
  | .rangeFunc _ _ _ _, hk, h => trivial
  | .scope _, hk, h => trivial
  | .refuse _, hk, h => trivial
  | .exit _, hk, h => trivial
  | .ret, hk, h => trivial
  | .label _, hk, h => trivial
  | .goto _, hk, h => trivial
end Go.Den
namespace Go.Den
open Go Go.RowKit
set_option linter.unusedVariables false
/-- A contract is kept. -/
structure ExtOK (P : Program) (ty : Nat → Option TI) (f : Nat) (g : List D → List (List D) → List (Option Row) → Option (List D × List (List D) × List (Option Row))) : Prop where mk ::
  out : CallOK P ty fun f' args u l => if f' = f then g args u l else none
/-- A configuration whose contracts are kept is sound. -/
theorem cfgOK_of {P : Program} {C : Cfg} (h1 : TyOk P C.ty) (h2 : ∀ f fn, C.ext f = none → C.fn f = some fn → FnOK P C f fn) (h3 : ∀ f g, C.ext f = some g → ExtOK P C.ty f g) : CfgOK P C := ⟨h1, h2, fun f g h => (h3 f g h).out⟩
end Go.Den
namespace Go.Den
open Go
def tys : List (Nat × TI) := [(3, ⟨.int .i64, 1, 8, [], [.dat (.val (.int .i64 0))]⟩), (4, ⟨.bool, 1, 1, [], [.dat (.val (.bool false))]⟩), (22, ⟨.slice 42, 1, 24, [], [.own 42 []]⟩), (24, ⟨.slice 40, 1, 24, [], [.own 40 []]⟩), (34, ⟨.slice 36, 1, 24, [], [.own 36 []]⟩), (36, ⟨.struct, 3, 40, [(0, 3), (1, 3), (2, 34)], [.dat (.val (.int .i64 0)), .dat (.val (.int .i64 0)), .own 36 []]⟩), (40, ⟨.struct, 3, 24, [(0, 3), (1, 3), (2, 3)], [.dat (.val (.int .i64 0)), .dat (.val (.int .i64 0)), .dat (.val (.int .i64 0))]⟩), (42, ⟨.struct, 3, 24, [(0, 3), (1, 3), (2, 3)], [.dat (.val (.int .i64 0)), .dat (.val (.int .i64 0)), .dat (.val (.int .i64 0))]⟩), (43, ⟨.slice 45, 1, 24, [], [.own 45 []]⟩), (45, ⟨.struct, 3, 40, [(0, 3), (1, 3), (2, 43)], [.dat (.val (.int .i64 0)), .dat (.val (.int .i64 0)), .own 45 []]⟩), (51, ⟨.slice 3, 1, 24, [], [.own 3 []]⟩), (59, ⟨.other, 1, 8, [], [.dat (.val .nilFunc)]⟩)]
def assoc {α : Type} : List (Nat × α) → Nat → Option α
  | [], _ => none
  | (a, x) :: l, n => match Nat.beq a n with | true => some x | false => assoc l n
def livesOf : List (Nat × List (Nat × List Nat)) := [(6, [(3, [0, 3, 4])]), (8, [(4, [0, 1, 5])]), (9, [(2, [0, 1, 5])]), (10, [(2, [0, 1, 5])]), (11, [(4, [0, 14, 15, 16]), (10, [0, 3, 4, 5, 6, 14, 15, 16]), (15, [0, 3, 4, 5, 7, 8, 14, 15, 16])]), (14, [(5, [1, 5, 6, 7, 20, 21, 22])]), (15, [(3, [0, 4, 5, 21, 22, 23])]), (21, [(3, [0, 1, 5, 6])]), (22, [(4, [0, 7, 22, 23, 24])]), (24, [(4, [0, 1, 6, 9, 10])]), (27, [(4, [3, 6, 21, 22, 23])]), (28, [(4, [5, 6, 7, 32, 33, 34])])]
def outsOf : List (Nat × List (Nat × List Nat)) := [(6, [(3, [3])]), (8, [(4, [4])]), (9, [(2, [1])]), (10, [(2, [1, 4])]), (11, [(4, [2]), (10, [0, 3, 4, 5, 14, 15, 16]), (15, [0, 3, 4, 5, 7, 14, 15, 16])]), (14, [(5, [6, 7])]), (15, [(3, [4, 5])]), (21, [(3, [5])]), (22, [(4, [0])]), (24, [(4, [6, 7, 8, 9, 10])]), (27, [(4, [])]), (28, [(4, [5, 6, 7])])]
def modesOf : List (Nat × List Nat) := [(9, [1]), (10, [0]), (22, [2])]
def plansOf : List (Nat × List (Nat × Plan)) := [(8, [(6, (none, [(0, 0, []), (1, 0, []), (2, 0, []), (3, 1, []), (4, 0, []), (5, 0, []), (6, 0, []), (7, 1, []), (8, 2, []), (9, 0, [])]))]), (14, [(7, (none, [(0, 0, []), (1, 1, []), (2, 1, []), (3, 0, []), (4, 1, []), (5, 4, []), (6, 4, []), (7, 2, []), (8, 0, []), (9, 2, [])]))]), (15, [(1, (none, [(0, 0, [5]), (1, 0, [5]), (2, 0, [5]), (3, 0, [5]), (4, 1, [5]), (5, 0, [5]), (6, 0, [5]), (7, 0, [5]), (8, 0, [5]), (9, 1, [5]), (10, 0, [5]), (11, 3, [5]), (12, 2, [])])), (5, (none, [(0, 0, []), (1, 1, []), (2, 0, []), (3, 0, []), (4, 4, []), (5, 4, []), (6, 2, []), (7, 0, []), (8, 2, [])]))]), (17, [(4, (none, [(0, 1, []), (1, 0, []), (2, 0, []), (3, 0, []), (4, 0, []), (5, 0, []), (6, 0, []), (7, 0, []), (8, 0, []), (9, 1, []), (10, 4, []), (11, 0, []), (12, 2, []), (13, 0, [])]))]), (18, [(5, (none, [(0, 0, []), (1, 1, []), (2, 0, []), (3, 1, []), (4, 0, []), (5, 1, []), (7, 0, []), (8, 1, []), (9, 0, []), (10, 1, []), (11, 0, []), (12, 1, []), (6, 4, []), (13, 2, []), (14, 2, []), (15, 2, [])]))]), (24, [(3, (none, [(0, 0, [9]), (1, 0, [9]), (2, 0, [9]), (3, 0, [9]), (4, 1, [9]), (5, 0, [9]), (6, 0, [9]), (7, 0, [9]), (8, 0, [9]), (9, 1, [9]), (10, 0, [9]), (11, 0, [9]), (12, 0, [9]), (13, 3, [9]), (14, 2, []), (15, 0, [])]))])]
def cfgN : Nat := 44
def skips : List Nat := []
def extsOf : List (Nat × (List D → List (List D) → List (Option Row) → Option (List D × List (List D) × List (Option Row)))) := []
def extNums : List Nat := []
noncomputable def cfg : Cfg where
  ty := assoc tys
  fn := fun f => match Nat.blt f cfgN && !memN f skips && !memN f extNums with | true => Go.Proofs.Try.prog.funcs[f]? | false => none
  mode := fun f => (assoc modesOf f).getD []
  live := fun f r => ((assoc livesOf f).bind fun l => assoc l r).getD []
  out := fun f r => ((assoc outsOf f).bind fun l => assoc l r).getD []
  plan := fun f r => (assoc plansOf f).bind fun l => assoc l r
  ext := assoc extsOf
end Go.Den
namespace Go.Den
open Go
set_option linter.unusedVariables false
theorem assoc_mem {α : Type} {n : Nat} {x : α} : ∀ {l : List (Nat × α)}, assoc l n = some x → (n, x) ∈ l
  | [], h => by cases h
  | (a, y) :: l, h => by
    unfold assoc at h
    split at h
    · rename_i hb
      cases h
      rw [beq_eq.1 hb]
      exact List.mem_cons_self
    · exact List.mem_cons_of_mem _ (assoc_mem h)
noncomputable def tysGood : Bool := tys.all fun p => tyIs Go.Proofs.Try.prog (assoc tys) p.1 p.2
theorem tys_good : tysGood = true := by kernel_rfl
theorem cfg_ty : TyOk Go.Proofs.Try.prog cfg.ty := fun t i h => (List.all_eq_true.1 tys_good) (t, i) (assoc_mem h)
def fnGood (C : Cfg) (f : Nat) : Bool :=
  match C.fn f with
  | some fn => !(fn.name == "runtime.NumGoroutine") && (match fn.body with | some c => codeOK fn.ntmps c && drawsOK C.ty fn.ntmps (C.plan f) c | none => true)
  | none => true
noncomputable def fnsGood : Bool := (List.range cfgN).all (fnGood cfg)
theorem fns_good : fnsGood = true := by kernel_rfl
theorem follows_any : Go.Proofs.Try.prog.follows .mixedOrders = true := by kernel_rfl
theorem cfg_fn {f : Nat} {fn : Func} (h : cfg.fn f = some fn) : FnOK Go.Proofs.Try.prog cfg f fn := by
  have hlt : f < cfgN ∧ Go.Proofs.Try.prog.funcs[f]? = some fn := by
    unfold cfg at h
    simp only at h
    split at h
    · rename_i hb
      simp only [Bool.and_eq_true] at hb
      have : f + 1 ≤ cfgN := by simpa [Nat.blt] using hb.1.1
      exact ⟨by omega, h⟩
    · cases h
  have hg := (List.all_eq_true.1 fns_good) f (List.mem_range.2 hlt.1)
  unfold fnGood at hg
  rw [h] at hg
  simp only [Bool.and_eq_true, Bool.not_eq_true'] at hg
  refine ⟨hlt.2, hg.1, fun c hc => ?_, fun c hc call _ => ?_⟩
  · have := hg.2
    rw [hc] at this
    simp only [Bool.and_eq_true] at this
    exact this.1
  · have := hg.2
    rw [hc] at this
    simp only [Bool.and_eq_true] at this
    exact draws_sound (E := ⟨cfg.ty, cfg.mode, fn.ntmps, cfg.live f, cfg.out f, cfg.plan f, call⟩) follows_any c this.1 this.2
theorem cfg_e {f : Nat} {g : List D → List (List D) → List (Option Row) → Option (List D × List (List D) × List (Option Row))} (h : cfg.ext f = some g) : ExtOK Go.Proofs.Try.prog cfg.ty f g := by
  have hm := assoc_mem (show assoc extsOf f = some g from h)
  exact absurd hm (by simp [extsOf])
theorem cfg_ok : CfgOK Go.Proofs.Try.prog cfg := cfgOK_of cfg_ty (fun f fn _ h => cfg_fn h) (fun f g h => cfg_e h)
structure Says (P : Program) (C : Cfg) : Prop where mk ::
  out : ∀ k, CallOK P C.ty (den C k)
theorem says_of {P : Program} {C : Cfg} (h : CfgOK P C) : Says P C := ⟨den_sound h⟩
theorem den_true : Says Go.Proofs.Try.prog cfg := @says_of _ _ cfg_ok
end Go.Den
namespace Go.Den
open Go Go.RowKit Go.ChangeShapes Go.WideShapes Go.Deep
set_option linter.unusedVariables false
/-- Data of a type. -/
inductive WT (ty : Nat → Option TI) : Nat → Dat → Prop where
  | int {t : Nat} {i : TI} {k : IntKind} {n : Int} (ht : ty t = some i) (hk : i.kind = .int k) (h : (Lit.int k n).wf = true) : WT ty t (.val (.int k n))
  | bool {t : Nat} {i : TI} {b : Bool} (ht : ty t = some i) (hk : i.kind = .bool) : WT ty t (.val (.bool b))
  | str {t : Nat} {i : TI} {s : ByteArray} (ht : ty t = some i) (hk : i.kind = .str) (h : s.size ≤ maxLen) : WT ty t (.val (.string s))
  | lst {t : Nat} {i : TI} {e : Nat} {es : List Dat} (ht : ty t = some i) (hk : i.kind = .slice e) (hl : es.length ≤ maxLen) (h : ∀ d ∈ es, WT ty e d) : WT ty t (.lst false es)
  | agg {t : Nat} {i : TI} {cs : List Dat} (ht : ty t = some i) (hk : i.kind = .struct) (hl : cs.length = i.fs.length) (h : ∀ (j : Nat) (f : Nat × Nat) (d : Dat), i.fs[j]? = some f → cs[j]? = some d → WT ty f.2 d) : WT ty t (.agg cs)
/-- Types of which arguments are read: numbers, bools, strings, structs of one-cell fields, slices. -/
def plainTy (ty : Nat → Option TI) : Nat → Nat → Bool
  | 0, _ => false
  | n + 1, t => match ty t with
    | none => false
    | some i => match i.kind with
      | .int _ => true
      | .bool => true
      | .str => true
      | .slice e => plainTy ty n e && (match ty e with | some j => Nat.blt 0 j.sz | none => false)
      | .struct => Nat.beq i.sz i.fs.length && (List.range i.fs.length).all fun j => match i.fs[j]? with
        | some f => Nat.beq f.1 j && (plainTy ty n f.2 && (match ty f.2 with | some k => Nat.beq k.sz 1 && !k.agg | none => false))
        | none => false
      | .other => false
theorem cellsOf_eq {P : Program} {ty : Nat → Option TI} {t : Nat} {i : TI} {inf : TypeInfo} {d : TypeDesc} {z : Value} (h : TyFacts P ty t i inf d z) : P.cellsOf t = i.sz := by
  unfold Program.cellsOf
  rw [h.info]
  simpa using h.size
theorem spot_none {w : World} {a : Addr} {v : Value} (h : w.cell? a = some v) : a.spot = none := by
  unfold World.cell? at h
  split at h
  · split at h
    · cases h
    · rename_i hs
      simpa using hs
  · cases h
theorem addr_lit {a : Addr} (h : a.spot = none) : a = ⟨a.block, a.off, none⟩ := by cases a; simp at h; subst h; rfl
/-- What reads as data of a type stands as data of that type. -/
theorem rd_dat {P : Program} {ty : Nat → Option TI} (hty : TyOk P ty) : ∀ (n t : Nat), plainTy ty n t = true → ∀ {H : Type} (enc : TypeId × Value → H) (w : World) (base : Nat) (spare : Nat → Bool) (held : Bool) (fuel : Nat) (cs : List Value) (x : DataW H × List MemPlace),
    DataW.trod enc P w base spare held fuel t cs = some x → ∃ d, Rep (fun _ => .set) w d cs ∧ WT ty t d
  | 0, t, hp => by cases hp
  | n + 1, t, hp => by
    intro enc w base spare held fuel cs x h
    unfold plainTy at hp
    split at hp
    · cases hp
    · rename_i i hi
      obtain ⟨inf, de, z, hf⟩ := hty.facts hi
      have hkk := hf.kind
      split at hp
      · rename_i k hk
        have hu : P.underlying t = some (.int k) := by
          rw [hf.und]
          cases de <;> simp [kindIs, hk] at hkk ⊢
          exact hkk
        obtain ⟨m, rfl, _, hw⟩ := DataW.trod_int hu h
        exact ⟨.val (.int k m), .val rfl, .int hi hk hw⟩
      · rename_i hk
        have hu : P.underlying t = some .bool := by
          rw [hf.und]
          cases de <;> simp [kindIs, hk] at hkk ⊢
        obtain ⟨m, rfl, _⟩ := DataW.trod_bool hu h
        exact ⟨.val (.bool m), .val rfl, .bool hi hk⟩
      · rename_i hk
        have hu : P.underlying t = some .string := by
          rw [hf.und]
          cases de <;> simp [kindIs, hk] at hkk ⊢
        obtain ⟨m, rfl, _, hs⟩ := DataW.trod_string hu h
        exact ⟨.val (.string m), .val rfl, .str hi hk hs⟩
      · rename_i e hk
        simp only [Bool.and_eq_true] at hp
        obtain ⟨hp1, hp2⟩ := hp
        have hu : P.underlying t = some (.slice e) := by
          rw [hf.und]
          cases de <;> simp [kindIs, hk] at hkk ⊢
          exact hkk.1
        cases hj : ty e with
        | none => rw [hj] at hp2; cases hp2
        | some j =>
        rw [hj] at hp2
        have hsz : 0 < j.sz := by
          have : 0 + 1 ≤ j.sz := by simpa [Nat.blt] using hp2
          omega
        obtain ⟨_, _, _, hfe⟩ := hty.facts hj
        have hce := cellsOf_eq hfe
        rcases open_slice hu h with ⟨rfl, _⟩ | ⟨a, len, cap, m, n', D, Pl, rfl, _, hl, hm, hmm, _, hx⟩
        · exact ⟨.lst false [], .nil, .lst hi hk (Nat.zero_le _) (fun d hd => by cases hd)⟩
        · have hlm : len ≤ m := by rw [hmm]; split <;> omega
          have hex : ∀ k, k < len → ∃ p : Dat × List Value, Rep (fun _ => .set) w p.1 p.2 ∧ WT ty e p.1 ∧ p.2.length = j.sz ∧ ∀ i u, p.2[i]? = some u → w.cell? (a.add (k * j.sz + i)) = some u := by
            intro k hlt
            obtain ⟨cs', hc, ht'⟩ := hx k (by omega)
            obtain ⟨d, hr, hw⟩ := rd_dat hty n e hp1 enc w base spare held n' cs' _ ht'
            obtain ⟨_, hcl, hat⟩ := World.cells?_some hc
            rw [hce] at hcl hat
            refine ⟨(d, cs'), hr, hw, hcl, fun i u hu => ?_⟩
            have hi2 : i < j.sz := by rw [← hcl]; exact (List.getElem?_eq_some_iff.1 hu).1
            have := hat i hi2
            rw [Go.Deep.add_add] at this
            rw [this, hu]
          cases len with
          | zero => exact ⟨.lst false [], .nil, .lst hi hk (Nat.zero_le _) (fun d hd => by cases hd)⟩
          | succ len =>
            obtain ⟨p0, q1, q2, q3, q4⟩ := hex 0 (by omega)
            haveI : Inhabited (Dat × List Value) := ⟨p0⟩
            obtain ⟨f, hfx⟩ := choose_lt hex
            have hpos : 0 < p0.2.length := by omega
            have h0 := q4 0 _ (List.getElem?_eq_getElem hpos)
            have hspot : a.spot = none := by
              have := spot_none h0
              simpa [Addr.add] using this
            have hal := addr_lit hspot
            have hlt := World.block_lt_of_cell? w _ h0
            have hblk : a.block < w.heap.size := by simpa [Addr.add] using hlt
            refine ⟨.lst false ((List.range (len + 1)).map fun k => (f k).1), ?_, .lst hi hk (by simp; omega) ?_⟩
            · have hlen : ((List.range (len + 1)).map fun k => (f k).1).length = len + 1 := by simp
              have hat : ∀ (k : Nat) (d : Dat), ((List.range (len + 1)).map fun k => (f k).1)[k]? = some d → k < len + 1 ∧ d = (f k).1 := fun k d hd => by
                have hk2 : k < len + 1 := by
                  have := (List.getElem?_eq_some_iff.1 hd).1
                  simpa using this
                rw [List.getElem?_map, List.getElem?_range hk2] at hd
                exact ⟨hk2, by simpa using hd.symm⟩
              have hres := Rep.lst (ρ := fun _ => Role.set) (W := w) (b := false) (es := (List.range (len + 1)).map fun k => (f k).1) (g := a.block) (o := a.off) (c := cap) (sz := j.sz) (fun k => (f k).2) (by rw [hlen]; exact hl) hm (.inl rfl) hblk
                (fun k d hd => (hfx k (hat k d hd).1).2.2.1) (fun k d hd i u hu => by
                  have := (hfx k (hat k d hd).1).2.2.2 i u hu
                  rw [hal, Addr.add_lit, ← Nat.add_assoc] at this
                  exact this) (fun k d hd => by
                  obtain ⟨h1, rfl⟩ := hat k d hd
                  exact (hfx k h1).1)
              rw [hlen] at hres
              rw [hal]
              exact hres
            · intro d hd
              obtain ⟨k, hk1, rfl⟩ := List.mem_map.1 hd
              exact (hfx k (by simpa using hk1)).2.1
      · rename_i hk
        have ha : i.agg = true := by unfold TI.agg; rw [hk]
        simp only [Bool.and_eq_true] at hp
        obtain ⟨hsz, hall⟩ := hp
        have hsz := Nat.eq_of_beq_eq_true hsz
        obtain ⟨fs, h1, h2, h3⟩ := hf.struct ha
        obtain ⟨xs, n', _, _, hl, hlen, hg⟩ := DataW.trod_struct h1 h
        rw [cellsOf_eq hf, hsz] at hl
        have hone : ∀ (j : Nat) (f : Nat × Nat), i.fs[j]? = some f → f.1 = j ∧ plainTy ty n f.2 = true ∧ ∃ k, ty f.2 = some k ∧ k.sz = 1 ∧ k.agg = false := fun j f hj => by
          have hjl := (List.getElem?_eq_some_iff.1 hj).1
          have := (List.all_eq_true.1 hall) j (List.mem_range.2 hjl)
          rw [hj] at this
          simp only [Bool.and_eq_true] at this
          obtain ⟨a1, a2, a3⟩ := this
          refine ⟨Nat.eq_of_beq_eq_true a1, a2, ?_⟩
          cases hk2 : ty f.2 with
          | none => rw [hk2] at a3; cases a3
          | some k =>
            rw [hk2] at a3
            simp only [Bool.and_eq_true, Bool.not_eq_true'] at a3
            exact ⟨k, rfl, Nat.eq_of_beq_eq_true a3.1, a3.2⟩
        have hex : ∀ k, k < cs.length → ∃ d : Dat, ∃ v f, cs[k]? = some v ∧ i.fs[k]? = some f ∧ d.cells = [d] ∧ Rep (fun _ => .set) w d [v] ∧ WT ty f.2 d := by
          intro k hkl
          obtain ⟨ff, hfk⟩ : ∃ ff, i.fs[k]? = some ff := ⟨_, List.getElem?_eq_getElem (show k < i.fs.length by omega)⟩
          have hck := List.getElem?_eq_getElem hkl
          obtain ⟨o1, o2, kk, o3, o4, o5⟩ := hone k _ hfk
          obtain ⟨_, _, _, hfk2⟩ := hty.facts o3
          have hfl : ∃ fl, fs[k]? = some fl ∧ fl.offset = k ∧ fl.type = ff.2 := by
            have h4 := hfk
            rw [← h2, List.getElem?_map] at h4
            simp only [Option.map_eq_some_iff] at h4
            obtain ⟨fl, h5, h6⟩ := h4
            refine ⟨fl, by simpa using h5, ?_, ?_⟩
            · rw [← o1, ← h6]
            · rw [← h6]
          obtain ⟨fl, h5, h6, h7⟩ := hfl
          have h8 := hg k fl h5
          have hxk : ∃ y, xs[k]? = some y := ⟨_, List.getElem?_eq_getElem (by have := (Array.getElem?_eq_some_iff.1 h5).1; omega)⟩
          obtain ⟨y, hy⟩ := hxk
          rw [hy, h6, h7, cellsOf_eq hfk2, o4] at h8
          have h9 : (cs.drop k).take 1 = [cs[k]] := by
            rw [List.drop_eq_getElem_cons hkl]; rfl
          rw [h9] at h8
          obtain ⟨d, hr, hw⟩ := rd_dat hty n _ o2 enc w base spare held n' _ _ h8
          refine ⟨d, cs[k], _, hck, hfk, ?_, hr, hw⟩
          cases hw with
          | agg ht' hk' _ _ =>
            rw [o3] at ht'
            cases ht'
            unfold TI.agg at o5
            rw [hk'] at o5
            cases o5
          | _ => rfl
        haveI : Inhabited Dat := ⟨.val (.bool false)⟩
        obtain ⟨f, hfx⟩ := choose_lt hex
        have hat : ∀ (k : Nat) (d : Dat), ((List.range cs.length).map f)[k]? = some d → k < cs.length ∧ d = f k := fun k d hd => by
          have hk2 : k < cs.length := by
            have := (List.getElem?_eq_some_iff.1 hd).1
            simpa using this
          rw [List.getElem?_map, List.getElem?_range hk2] at hd
          exact ⟨hk2, by simpa using hd.symm⟩
        refine ⟨.agg ((List.range cs.length).map f), .agg (by simp) (fun k d v hd hv => ?_) (fun k d v hd hv => ?_), .agg hi hk (by simp; omega) (fun k ff d hff hd => ?_)⟩
        · obtain ⟨h4, rfl⟩ := hat k d hd
          obtain ⟨v', f', e1, e2, e3, e4, e5⟩ := hfx k h4
          exact e3
        · obtain ⟨h4, rfl⟩ := hat k d hd
          obtain ⟨v', f', e1, e2, e3, e4, e5⟩ := hfx k h4
          rw [hv] at e1
          cases e1
          exact e4
        · obtain ⟨h4, rfl⟩ := hat k d hd
          obtain ⟨v', f', e1, e2, e3, e4, e5⟩ := hfx k h4
          rw [hff] at e2
          cases e2
          exact e5
      · cases hp
end Go.Den
namespace Go.Den
open Go Go.RowKit Go.ChangeShapes Go.WideShapes
open Go.ChangeMaps (open_string shut_string)
set_option linter.unusedVariables false
/-- An argument as data. -/
theorem arg_dat {P : Program} {ty : Nat → Option TI} (hty : TyOk P ty) {n t : Nat} (hp : plainTy ty n t = true) {H : Type} {enc : TypeId × Value → H} {w : World} {base b0 : Nat} {spare : Nat → Bool} {held : Bool} {r : Reach} {v : Value} {y : DataW H} {p : List MemPlace}
    (hv : Value.okWide P w r b0 t v) (h : DataW.Trod enc P w base spare held t v y p) : ∃ d cv, Rep (fun _ => .set) w d cv ∧ IsV d cv v ∧ WT ty t d := by
  obtain ⟨fuel, hf⟩ := id h
  obtain ⟨d, hr, hw⟩ := rd_dat hty n t hp enc w base spare held fuel _ _ hf
  refine ⟨d, v.cells.toList, hr, ?_, hw⟩
  cases hw with
  | int ht hk _ =>
    rename_i i k m _
    obtain ⟨_, de, _, hfa⟩ := hty.facts ht
    have hkk := hfa.kind
    have hu : P.underlying t = some (.int k) := by
      rw [hfa.und]
      cases de <;> simp [kindIs, hk] at hkk ⊢
      exact hkk
    obtain ⟨a, rfl, _⟩ := open_int hu hv h
    rfl
  | bool ht hk =>
    obtain ⟨_, de, _, hfa⟩ := hty.facts ht
    have hkk := hfa.kind
    have hu : P.underlying t = some .bool := by
      rw [hfa.und]
      cases de <;> simp [kindIs, hk] at hkk ⊢
    obtain ⟨a, rfl, _⟩ := open_bool hu hv h
    rfl
  | str ht hk _ =>
    obtain ⟨_, de, _, hfa⟩ := hty.facts ht
    have hkk := hfa.kind
    have hu : P.underlying t = some .string := by
      rw [hfa.und]
      cases de <;> simp [kindIs, hk] at hkk ⊢
    obtain ⟨a, rfl, _⟩ := open_string hu hv h
    rfl
  | lst ht hk _ _ =>
    rename_i i e es _ _
    obtain ⟨_, de, _, hfa⟩ := hty.facts ht
    have hkk := hfa.kind
    have hu : P.underlying t = some (.slice e) := by
      rw [hfa.und]
      cases de <;> simp [kindIs, hk] at hkk ⊢
      exact hkk.1
    obtain ⟨a, len, cap, rfl⟩ := okWide_slice hu hv
    rfl
  | agg ht hk _ _ =>
    rename_i i cs _ _
    obtain ⟨_, _, _, hfa⟩ := hty.facts ht
    have ha : i.agg = true := by unfold TI.agg; rw [hk]
    obtain ⟨fs, h1, _, _⟩ := hfa.struct ha
    obtain ⟨xs, rfl, _⟩ := okWide_struct h1 hv
    show Value.agg xs = .agg (Value.cells (.agg xs)).toList.toArray
    simp [Value.cells]
/-- A law, by den. -/
theorem law_calls {P : Program} {C : Cfg} {f : Nat} {fn : Func} {vals : Array Value} {ds : List Dat} {W : World} {b : Bool} (hS : ∀ k, CallOK P C.ty (den C k)) (hF : FnOK P C f fn) (hb : fn.body.isSome = true) (hl : vals.size = ds.length)
    (hd : ∀ (j : Nat) (d : Dat) (v : Value), ds[j]? = some d → vals[j]? = some v → ∃ cv, Rep (fun _ => .set) W d cv ∧ IsV d cv v) (h : ∃ k, den C k f (ds.map .dat) [] [] = some ([.dat (.val (.bool b))], [], [])) :
    Calls P f vals W fun e W' => e = .returned (.bool b) ∧ Below W.heap.size W W' := by
  obtain ⟨k, hk⟩ := h
  let c : Cx := { ty := C.ty, ρ := fun _ => .set, β := fun _ => 0, H := fun _ => undef, W := W, s := start (ds.map .dat) [] [] }
  have hsim : Sim c vals := by
    refine ⟨fun y => ?_, fun r cs hb => ?_, fun j r hg => ?_⟩
    · show VR c (.slot y []) ((ds.map .dat).getD y .undef) (vals.getD y undef)
      by_cases hy : y < ds.length
      · have h1 := List.getElem?_eq_getElem hy
        have h2 : vals[y]? = some (vals[y]'(by omega)) := Array.getElem?_eq_getElem (by omega)
        have e1 : (ds.map D.dat).getD y .undef = .dat ds[y] := by simp [List.getD_eq_getElem?_getD, hy]
        have e2 : vals.getD y undef = vals[y]'(by omega) := by simp [Array.getD, show y < vals.size by omega]
        rw [e1, e2]
        exact hd y _ _ h1 h2
      · have e1 : (ds.map D.dat).getD y .undef = .undef := by simp [List.getD_eq_getElem?_getD, hy]
        have e2 : vals.getD y undef = undef := by simp [Array.getD, show ¬ y < vals.size by omega]
        rw [e1, e2]
        rfl
    · cases r with
      | loc n => cases hb
      | up n =>
        have hb' : ([] : List (List D))[n]? = some cs := hb
        simp at hb'
    · have hg' : (([] : List (Option Row))[j]?).bind id = some r := hg
      simp at hg'
  have hr := hS k f _ _ _ _ _ _ hk c vals rfl rfl (by simpa using hl) hsim
  have hent : (callFunc f vals).run P W = .ok (.enter f vals) W := by
    have h1 : fn.name ≠ "runtime.NumGoroutine" := by simpa using hF.name
    obtain ⟨code, hbd⟩ := Option.isSome_iff_exists.1 hb
    simp [callFunc, hF.there, h1, hbd, mark]
  unfold Reaches at hr
  have hent' : (callFunc f vals).run P c.W = .ok (.enter f vals) W := hent
  rw [hent'] at hr
  refine Calls.mono hr fun e W' he => ?_
  cases e with
  | returned v =>
    obtain ⟨c', rfl, ha⟩ := he
    refine ⟨?_, ha.ext.os, ha.ext.tape, ha.ext.output, ha.ext.size, fun g hg => (ha.ext.keep g hg trivial).2⟩
    have hv := ha.sim.slots 0
    rw [ha.s] at hv
    have hv' : VR c' (.slot 0 []) (.dat (.val (.bool b))) v := hv
    rw [(vr_val hv').1]
  | _ => exact he.elim
end Go.Den
namespace Go.Den
open Go
set_option linter.unusedVariables false
inductive Hint where
  | yes
  | no
  | put (d : D)
  | to (f : St → St)
  | at (d : Dat)
  | ok
  | ret (rs : List D)
  | back (rs : List D) (u : List (List D)) (l : List (Option Row))
  | loop (s0 : St) (x : X) (s : St)
def Obs : List Prop → Prop
  | [] => True
  | p :: l => p ∧ Obs l
theorem obs_append : ∀ {a b : List Prop}, Obs (a ++ b) → Obs a ∧ Obs b
  | [], b, h => ⟨trivial, h⟩
  | p :: a, b, h => by
    have h' : p ∧ Obs (a ++ b) := h
    obtain ⟨h1, h2⟩ := obs_append h'.2
    exact ⟨⟨h'.1, h1⟩, h2⟩
abbrev Hints := List (Nat × Hint)
def hintAt : Hints → Nat → Option Hint
  | [], _ => none
  | (a, x) :: l, n => match Nat.beq a n with | true => some x | false => hintAt l n
/-- keys: an operation's temporary; 100000 + the address' temporary of a store; 200000 + a condition's temporary; 300000 + a loop's first region -/
def keyOf (o : Oper) : Option Nat :=
  match o.dst, o.op with
  | some n, _ => some n
  | none, .store _ (.tmp a) _ => some (100000 + a)
  | _, _ => none
def hadd {α : Type} (p : Prop) : Option (List Prop × α) → Option (List Prop × α)
  | some r => some (p :: r.1, r.2)
  | none => none
/-- A condition's answer. -/
def hbool {α : Type} (hs : Hints) (s : St) (x : Nat) (yes no : St → Option (List Prop × α)) (und : Option (List Prop × α)) : Option (List Prop × α) :=
  match s.t x with
  | .dat (.val (.bool b)) => match hintAt hs (200000 + x) with
    | some .yes => hadd (b = true) (yes (s.force x true))
    | some .no => hadd (b = false) (no (s.force x false))
    | _ => match b with | true => yes (s.force x true) | false => no (s.force x false)
  | .undef => und
  | _ => none
def hcond {α : Type} (hs : Hints) (s : St) (c : Operand) (yes no : St → Option (List Prop × α)) : Option (List Prop × α) :=
  match c with
  | .tmp x => hbool hs s x yes no none
  | .const (.bool v) => match v with | true => yes s | false => no s
  | _ => none
def hguard {α : Type} (hs : Hints) (ops : Array Oper) (s : St) (g : Option (Nat × Bool)) (k z : St → Option (List Prop × α)) : Option (List Prop × α) :=
  match g with
  | none => k s
  | some (j, want) => match (ops[j]?).bind (·.dst) with
    | none => none
    | some x => match want with
      | true => hbool hs s x k z (z s)
      | false => hbool hs s x z k (z s)
def Env.with (E : Env) (q : List D × List (List D) × List (Option Row)) : Env := { E with call := fun _ _ _ _ => some q }
/-- The call that an operation makes on data. -/
def callEv (E : Env) (s : St) (o : Oper) : Option (Nat × List D × Bool) :=
  match o.op with
  | .call ca => match ca.callee with
    | .value z => match s.look z with
      | .fn f [] => match allZero (E.mode f) with
        | true => (match views s.get (argsD E s.look ca.args.toList ca.argTypes.toList) with
          | some r => some (f, r.1.map .dat, r.2)
          | none => none)
        | false => none
      | _ => none
    | _ => none
  | _ => none
/-- The call that it makes otherwise. -/
def callDo (E : Env) (s : St) (f : Nat) (cap : List Ref) (args : List D) : Option (List D × List (List D) × List (Option Row)) :=
  (readyArgs (E.mode f) args s).bind fun a =>
  (lendArgs a.2.get (E.mode f) a.1).bind fun ls =>
  match distinctPl ls with
  | false => none
  | true => match cap.isEmpty && a.1.all noRef with
    | true => (passArgs (hide ls false a.2.get) 0 [] (E.mode f) 0 a.1).map fun v => (v.1, [], ls.map fun p => some p.2)
    | false => match ls.all fun p => !p.1.ofCell with
      | false => none
      | true =>
        let keys := a.2.sent E.nt cap a.1; let m := a.2.u.length
        (passArgs (hide ls true a.2.get) m keys (E.mode f) 0 a.1).bind fun v =>
        (liftRefs m keys cap).bind fun caps =>
        (boxesOf a.2 keys).bind fun bs => (liftBoxes m keys (a.2.u ++ bs)).map fun us => (v.1 ++ caps.map (fun r => D.ptr r 0), us, ls.map fun p => some p.2)
def callOf (E : Env) (s : St) (o : Oper) : Option (Nat × List D × List (List D) × List (Option Row)) :=
  match o.op with
  | .call ca => match ca.callee with
    | .value z => match s.look z with
      | .fn f cap => match cap.isEmpty && (allZero (E.mode f) && (views s.get (argsD E s.look ca.args.toList ca.argTypes.toList)).isSome) with
        | true => none
        | false => (callDo E s f cap (argsD E s.look ca.args.toList ca.argTypes.toList)).map fun r => (f, r)
      | _ => none
    | _ => none
  | _ => none
theorem evOp_with {E : Env} {s : St} {o : Oper} {rs : List D} {f : Nat} {args : List D} {fl : Bool} (h : callEv E s o = some (f, args, fl)) (hfl : fl = true → D.cleans rs = true) (hc : E.call f args [] [] = some (rs, [], [])) : evOp E s.look s.get s.box o.type o.op = some (.pure (retD rs)) ∧ evOp (E.with (rs, [], [])) s.look s.get s.box o.type o.op = some (.pure (retD rs)) := by
  unfold callEv at h
  split at h
  · rename_i ca ho
    split at h
    · rename_i z hz
      split at h
      · rename_i f' hf
        split at h
        · rename_i hm
          split at h
          · rename_i r hr
            · cases h
              have hcl : (r.2 && !D.cleans rs) = false := by
                cases hr2 : r.2 with
                | false => rfl
                | true => rw [hfl hr2]; rfl
              rw [ho]
              refine ⟨?_, ?_⟩
              · simp only [evOp, hz, hf, evCall, hm, hr, Option.bind_some, hc, hcl, Option.map_some]
              · have hm' : allZero ((E.with (rs, [], [])).mode f) = true := hm
                have hr' : views s.get (argsD (E.with (rs, [], [])) s.look ca.args.toList ca.argTypes.toList) = some r := by
                  rw [← hr]
                  congr 1
                  generalize ca.args.toList = zs
                  generalize ca.argTypes.toList = ts
                  induction zs generalizing ts with
                  | nil => rfl
                  | cons z zs ih => simp only [argsD, ih]; rfl
                have hcc : (E.with (rs, [], [])).call f (r.1.map .dat) [] [] = some (rs, [], []) := rfl
                simp only [evOp, hz, hf, evCall, hm', hr', Option.bind_some, hcc, hcl, Option.map_some]
          · cases h
        · cases h
      · cases h
    · cases h
  · cases h
theorem argsD_with {E : Env} {q : List D × List (List D) × List (Option Row)} {lk : Operand → D} : ∀ (zs : List Operand) (ts : List Nat), argsD (E.with q) lk zs ts = argsD E lk zs ts
  | [], ts => rfl
  | z :: zs, ts => by simp only [argsD, argsD_with zs]; rfl
theorem step_callOf {E : Env} {s : St} {o : Oper} {q : List D × List (List D) × List (Option Row)} {r : Nat × List D × List (List D) × List (Option Row)} (h : callOf E s o = some r) (hc : E.call r.1 r.2.1 r.2.2.1 r.2.2.2 = some q) : step E s o = step (E.with q) s o := by
  unfold callOf at h
  split at h
  · rename_i ca ho
    split at h
    · rename_i z hz
      split at h
      · rename_i f cap hf
        split at h
        · cases h
        · rename_i hdead
          simp only [Option.map_eq_some_iff] at h
          obtain ⟨⟨a, u, l⟩, hdo, rfl⟩ := h
          simp only at hc
          have hev : ∀ E', E'.mode = E.mode → argsD E' s.look ca.args.toList ca.argTypes.toList = argsD E s.look ca.args.toList ca.argTypes.toList → evOp E' s.look s.get s.box o.type o.op = none := by
            intro E' hm ha
            rw [ho]
            simp only [evOp, hz, hf]
            cases cap with
            | cons r rs => rfl
            | nil =>
              simp only [List.isEmpty_nil, Bool.true_and] at hdead
              simp only [evCall, hm, ha]
              cases hz : allZero (E.mode f) with
              | false => rfl
              | true =>
                rw [hz, Bool.true_and] at hdead
                cases hv : views s.get (argsD E s.look ca.args.toList ca.argTypes.toList) with
                | none => rfl
                | some r => rw [hv] at hdead; cases hdead
          unfold step
          rw [hev E rfl rfl, hev (E.with q) rfl (argsD_with _ _)]
          simp only [ho, doOp, hz, hf, argsD_with]
          unfold callDo at hdo
          unfold doCall
          simp only [Option.bind_eq_some_iff] at hdo
          obtain ⟨a1, h1, ls, h2, hdo⟩ := hdo
          have h1' : readyArgs ((E.with q).mode f) (argsD E s.look ca.args.toList ca.argTypes.toList) s = some a1 := h1
          have h2' : lendArgs a1.2.get ((E.with q).mode f) a1.1 = some ls := h2
          simp only [h1, h1', h2, h2', Option.bind_some]
          split at hdo
          · cases hdo
          · rename_i hdis
            simp only [hdis]
            split at hdo
            · rename_i hcl
              simp only [hcl]
              simp only [Option.map_eq_some_iff, Prod.mk.injEq] at hdo
              obtain ⟨v, hv, rfl, rfl, rfl⟩ := hdo
              have hv' : passArgs (hide ls false a1.2.get) 0 [] ((E.with q).mode f) 0 a1.1 = some v := hv
              simp only [hv, hv', Option.bind_some, hc]
              rfl
            · rename_i hcl
              simp only [hcl]
              split at hdo
              · cases hdo
              · rename_i hnc
                simp only [hnc]
                simp only [Option.bind_eq_some_iff, Option.map_eq_some_iff, Prod.mk.injEq] at hdo
                obtain ⟨v, hv, caps, hcaps, bs, hbs, us, hus, rfl, rfl, rfl⟩ := hdo
                have hv' : passArgs (hide ls true a1.2.get) a1.2.u.length (a1.2.sent (E.with q).nt cap a1.1) ((E.with q).mode f) 0 a1.1 = some v := hv
                have e2 : (E.with q).nt = E.nt := rfl
                simp only [e2] at hv' ⊢
                simp only [hv, hv', Option.bind_some, hcaps, hbs, hus, hc]
                rfl
      · cases h
    · cases h
  · cases h
/-- What an operation yields, if its conditions hold. -/
def askEv (E : Env) (s : St) (hd : Option Dat) : Op → Option (Prop × D)
  | .indexAddr t x i => (E.ty t).bind fun k => match k.kind with
    | .slice e => (E.ty e).bind fun j => (intOf (s.look i)).bind fun n => match s.look x, hd with
      | .dat (.lst b es), some d => (match Nat.beq d.cells.length j.sz with | true => some ((0 ≤ n ∧ n < es.length) ∧ es[n.toNat]? = some d, .ep b d.cells) | false => none)
      | .bor p m, none => (s.get p).bind fun r => match Nat.beq r.1 e with | true => some (0 ≤ n ∧ n < (cutTo m r.2).length, .bp p n.toNat 0) | false => none
      | _, _ => none
    | _ => none
  | .load t x => (E.ty t).bind fun i => match s.look x, hd with
    | .bp p j o, some d => (s.get p).bind fun r => (loadDat i (d.cells.drop o)).map fun x => (r.2[j]? = some d, .dat x)
    | _, _ => none
  | .slice t x lo hi mx => match mx with
    | none => (sliceTy E.ty t).bind fun st => (optInt s.look lo).bind fun l => (optInt s.look hi).bind fun h => match st, s.look x with
      | none, .dat (.val (.string b)) => some (0 ≤ l.getD 0 ∧ l.getD 0 ≤ h.getD b.size ∧ h.getD b.size ≤ b.size, .dat (.val (.string (b.extract (l.getD 0).toNat (h.getD b.size).toNat))))
      | some n, .dat (.lst b es) => some ((0 ≤ l.getD 0 ∧ l.getD 0 ≤ h.getD es.length ∧ h.getD es.length ≤ es.length) ∧ wid n es = true, .dat (.lst b ((es.take (h.getD es.length).toNat).drop (l.getD 0).toNat)))
      | some n, .bor p m => (match l, h with
        | none, some h => (s.get p).bind fun r => some (0 ≤ h ∧ h ≤ (cutTo m r.2).length, .bor p (some h.toNat))
        | _, _ => none)
      | _, _ => none
    | some _ => none
  | .index t x i => (E.ty t).bind fun k => (intOf (s.look i)).bind fun n => match s.look x, k.kind with
    | .dat (.val (.string s)), .str => some (0 ≤ n ∧ n < s.size, .dat (.val (.int .u8 ((s[n.toNat]?).getD 0).toNat)))
    | _, _ => none
  | .binOp op t x y _ => match op, s.look x, s.look y, hd with
    | .rem, .dat (.val (.int k a)), .dat (.val (.int k' b)), none => match decide (k = k') with
      | true => some (b ≠ 0, .dat (.val (.int k (a.tmod b))))
      | false => none
    | .quo, .dat (.val (.int k a)), .dat (.val (.int k' b)), none => match decide (k = k') with
      | true => some (b ≠ 0, .dat (.val (.int k (k.wrap (a.tdiv b)))))
      | false => none
    | _, _, _, _ => none
  | .makeSlice t l c => (E.ty t).bind fun i => match i.kind with
    | .slice e => (E.ty e).bind fun j => j.zeroD.bind fun z => (intOf (s.look l)).bind fun n => (intOf (s.look c)).bind fun m =>
      match Nat.ble j.bytes 65536 with
      | true => some (0 ≤ n ∧ n ≤ m ∧ m ≤ 2147483648, .own e (List.replicate n.toNat z))
      | false => none
    | _ => none
  | _ => none
theorem askEv_sound {E : Env} {s : St} {hd : Option Dat} {op : Op} {ty : Nat} {p : Prop} {d : D} (h : askEv E s hd op = some (p, d)) (hp : p) : evOp E s.look s.get s.box ty op = some (.pure d) := by
  unfold askEv at h
  split at h
  · rename_i t x i
    simp only [Option.bind_eq_some_iff] at h
    obtain ⟨k, hk, h⟩ := h
    simp only [evOp, hk, Option.bind_some]
    split at h
    · rename_i e hke
      simp only [Option.bind_eq_some_iff] at h
      obtain ⟨j, hj, n, hn, h⟩ := h
      simp only [hke, hj, Option.bind_some, hn]
      split at h
      · rename_i b es dd hx
        split at h
        · rename_i hb
          cases h
          obtain ⟨h1, h2⟩ := hp
          simp only [hx, evIndexAddr, h1, h2, and_self, if_true, Option.bind_some, hb, Option.map_some]
        · cases h
      · rename_i pl m hx
        simp only [Option.bind_eq_some_iff] at h
        obtain ⟨r, hr, h⟩ := h
        split at h
        · rename_i hb
          cases h
          simp only [hx, evIndexAddr, hr, Option.bind_some, hb, hp, and_self, if_true, Option.map_some]
        · cases h
      · cases h
    · cases h
  · rename_i t x
    simp only [Option.bind_eq_some_iff] at h
    obtain ⟨i, hi, h⟩ := h
    simp only [evOp, hi, Option.bind_some]
    split at h
    · rename_i pl j o dd hx
      simp only [Option.bind_eq_some_iff, Option.map_eq_some_iff, Prod.mk.injEq] at h
      obtain ⟨r, hr, y, hy, rfl, rfl⟩ := h
      simp only [hx, evLoad, hr, Option.bind_some, hp, hy, Option.map_some]
    · cases h
  · rename_i t x lo hi mx
    split at h
    · simp only [Option.bind_eq_some_iff] at h
      obtain ⟨st, hst, l, hl, hh, hhi, h⟩ := h
      simp only [evOp, hst, hl, hhi, Option.bind_some]
      split at h
      · rename_i b hx
        cases h
        simp only [hx, evCut, evSlice, hp, and_self, if_true, Option.map_some]
      · rename_i n b es hx
        cases h
        obtain ⟨h1, h2⟩ := hp
        simp only [hx, evCut, evSlice, h1, h2, and_self, if_true, Option.map_some]
      · rename_i n pl m hx
        split at h
        · rename_i hhv
          simp only [Option.bind_eq_some_iff] at h
          obtain ⟨r, hr, h⟩ := h
          cases h
          simp only [hx, evCut, hr, Option.bind_some, hp, and_self, if_true, Option.map_some]
        · cases h
      · cases h
    · cases h
  · rename_i t x i
    simp only [Option.bind_eq_some_iff] at h
    obtain ⟨k, hk, n, hn, h⟩ := h
    simp only [evOp, hk, hn, Option.bind_some]
    split at h
    · rename_i b hx hkk
      cases h
      simp only [hx, hkk]
      rw [dif_pos hp]
      have : b[n.toNat]? = some (b[n.toNat]'(by omega)) := getElem?_pos b n.toNat (by omega)
      rw [this]
      rfl
    · cases h
  · rename_i op t x y ky
    split at h
    · rename_i k a k' b hx hy
      split at h
      · rename_i hk
        cases h
        simp [evOp, hx, hy, aggCmp, binD, binV, binV0, hk, hp]
      · cases h
    · rename_i k a k' b hx hy
      split at h
      · rename_i hk
        cases h
        simp [evOp, hx, hy, aggCmp, binD, binV, binV0, hk, hp]
      · cases h
    · cases h
  · rename_i t l c
    simp only [Option.bind_eq_some_iff] at h
    obtain ⟨i, hi, h⟩ := h
    simp only [evOp, hi, Option.bind_some]
    split at h
    · rename_i e hk
      simp only [Option.bind_eq_some_iff] at h
      obtain ⟨j, hj, z, hz, n, hn, m, hm, h⟩ := h
      split at h
      · rename_i hb
        cases h
        simp only [hk, hj, hz, hn, hm, Option.bind_some, hp, and_self, if_true, hb]
      · cases h
    · cases h
  · cases h
def askApp (E : Env) (s : St) (x : Option Nat) : Op → Option (Prop × St)
  | .call c => match c.callee with
    | .builtin .append => match c.args.toList, c.argTypes.toList with
      | [a, b], [t, u] => (E.ty t).bind fun i => match i.kind with
        | .slice e => match Nat.beq t u with
          | true => (rowOf s.get (s.look b)).bind fun es2 => (takeBase s e a).bind fun r => (E.ty e).bind fun i =>
            match Nat.beq r.1.1 e && Nat.ble i.bytes 65536 && Nat.blt 0 i.sz with
            | true => some (es2.all (fun d => Nat.beq d.cells.length i.sz) = true ∧ r.1.2.length + es2.length ≤ 2147483648, r.2.putO x (.own e (r.1.2 ++ es2)))
            | false => none
          | false => none
        | _ => none
      | _, _ => none
    | _ => none
  | _ => none
theorem askApp_sound {E : Env} {s : St} {o : Oper} {p : Prop} {s' : St} (h : askApp E s o.dst o.op = some (p, s')) (hp : p) : step E s o = some s' := by
  unfold askApp at h
  split at h
  · rename_i c ho
    split at h
    · rename_i hc
      split at h
      · rename_i a b t u ha hat
        simp only [Option.bind_eq_some_iff] at h
        obtain ⟨i, hi, h⟩ := h
        split at h
        · rename_i e hk
          split at h
          · rename_i htu
            simp only [Option.bind_eq_some_iff] at h
            obtain ⟨es2, hes, r, hr, i2, hi2, h⟩ := h
            split at h
            · rename_i hcond
              cases h
              have hev : evOp E s.look s.get s.box o.type o.op = none := by rw [ho]; simp only [evOp, hc]
              unfold step
              rw [hev]
              simp only [ho, doOp, hc, ha, hat, hi, Option.bind_some, hk, htu, doAppend, hes, hr, hi2, hcond, hp.1, Bool.and_self, hp.2, if_true]
            · cases h
          · cases h
        · cases h
      · cases h
    · cases h
  · cases h
/-- A store into an element of a slice that the frame holds. -/
def askSt (E : Env) (s : St) (hd : Dat) : Op → Option (Prop × St)
  | .store t a y => match isNil y with
    | true => none
    | false => (E.ty t).bind fun i => match s.look a with
      | .bp p j o => (s.datD (s.look y)).bind fun q => match Nat.beq q.1.cells.length i.sz with
        | false => none
        | true => (q.2.get p).bind fun r => (elemSet hd o q.1.cells).map fun d' => (r.2[j]? = some hd, q.2.setPl p (.own r.1 (r.2.set j d')))
      | _ => none
  | _ => none
theorem askSt_sound {E : Env} {s : St} {hd : Dat} {o : Oper} {p : Prop} {s' : St} (h : askSt E s hd o.op = some (p, s')) (hp : p) : step E s o = some s' := by
  unfold askSt at h
  split at h
  · rename_i t a y ho
    split at h
    · cases h
    · rename_i hn
      simp only [Option.bind_eq_some_iff] at h
      obtain ⟨i, hi, h⟩ := h
      split at h
      · rename_i pl j off ha
        simp only [Option.bind_eq_some_iff] at h
        obtain ⟨q, hq, h⟩ := h
        split at h
        · cases h
        · rename_i hb
          simp only [Option.bind_eq_some_iff, Option.map_eq_some_iff, Prod.mk.injEq] at h
          obtain ⟨r, hr, d', hd', rfl, rfl⟩ := h
          have hev : evOp E s.look s.get s.box o.type o.op = none := by rw [ho]; simp only [evOp]
          unfold step
          rw [hev]
          simp only [ho, doOp, hn, doStore, hi, Option.bind_some, ha, hq, hb, hr, hp, hd', Option.map_some]
      · cases h
  · cases h
def haddIf {α : Type} (b : Bool) (p : Prop) (r : Option (List Prop × α)) : Option (List Prop × α) := match b with | true => hadd p r | false => r
/-- What a call leads to, with what it answers put in. -/
def doCallH (E : Env) (s : St) (x : Option Nat) (f : Nat) (cap : List Ref) (args : List D) (q : List D × List (List D) × List (Option Row)) : Option (Prop × St) :=
  (readyArgs (E.mode f) args s).bind fun a =>
  (lendArgs a.2.get (E.mode f) a.1).bind fun ls =>
  match distinctPl ls with
  | false => none
  | true => match cap.isEmpty && a.1.all noRef with
    | true => (passArgs (hide ls false a.2.get) 0 [] (E.mode f) 0 a.1).bind fun v =>
      (giveBack a.2 ls q.2.2).map fun s => (((v.2 && !(D.cleans q.1 && cleanRows q.2.2)) || !D.plains q.1) = false, s.putO x (retD q.1))
    | false => match ls.all fun p => !p.1.ofCell with
      | false => none
      | true =>
        let keys := a.2.sent E.nt cap a.1; let m := a.2.u.length
        (passArgs (hide ls true a.2.get) m keys (E.mode f) 0 a.1).bind fun v =>
        (giveBack (a.2.regain m keys q.2.1) ls q.2.2).map fun s => (((v.2 && !(D.cleans q.1 && (cleanRows q.2.2 && cleanBoxes q.2.1))) || !D.plains q.1) = false, s.putO x (retD q.1))
def callH (E : Env) (s : St) (o : Oper) (q : List D × List (List D) × List (Option Row)) : Option (Prop × St) :=
  match o.op with
  | .call ca => match ca.callee with
    | .value z => match s.look z with
      | .fn f cap => doCallH E s o.dst f cap (argsD E s.look ca.args.toList ca.argTypes.toList) q
      | _ => none
    | _ => none
  | _ => none
theorem callH_sound {E : Env} {s : St} {o : Oper} {q : List D × List (List D) × List (Option Row)} {r : Nat × List D × List (List D) × List (Option Row)} {p : Prop} {s' : St} (h : callOf E s o = some r) (hc : E.call r.1 r.2.1 r.2.2.1 r.2.2.2 = some q) (hh : callH E s o q = some (p, s')) (hp : p) : step E s o = some s' := by
  unfold callOf at h
  unfold callH at hh
  split at h
  · rename_i ca ho
    simp only [ho] at hh
    split at h
    · rename_i z hz
      simp only [hz] at hh
      split at h
      · rename_i f cap hf
        simp only [hf] at hh
        split at h
        · cases h
        · rename_i hdead
          simp only [Option.map_eq_some_iff] at h
          obtain ⟨⟨a, u, l⟩, hdo, rfl⟩ := h
          simp only at hc
          have hev : evOp E s.look s.get s.box o.type o.op = none := by
            rw [ho]
            simp only [evOp, hz, hf]
            cases cap with
            | cons r rs => rfl
            | nil =>
              simp only [List.isEmpty_nil, Bool.true_and] at hdead
              simp only [evCall]
              cases hz : allZero (E.mode f) with
              | false => rfl
              | true =>
                rw [hz, Bool.true_and] at hdead
                cases hv : views s.get (argsD E s.look ca.args.toList ca.argTypes.toList) with
                | none => rfl
                | some r => rw [hv] at hdead; cases hdead
          unfold step
          rw [hev]
          simp only [ho, doOp, hz, hf]
          unfold callDo at hdo
          unfold doCall
          unfold doCallH at hh
          simp only [Option.bind_eq_some_iff] at hdo
          obtain ⟨a1, h1, ls, h2, hdo⟩ := hdo
          simp only [h1, h2, Option.bind_some] at hh ⊢
          split at hdo
          · cases hdo
          · rename_i hdis
            simp only [hdis] at hh ⊢
            split at hdo
            · rename_i hcl
              simp only [hcl] at hh ⊢
              simp only [Option.map_eq_some_iff, Prod.mk.injEq] at hdo
              obtain ⟨v, hv, rfl, rfl, rfl⟩ := hdo
              simp only [hv, Option.bind_some, Option.map_eq_some_iff, Prod.mk.injEq] at hh ⊢
              obtain ⟨s3, hg, rfl, rfl⟩ := hh
              simp only [hc, Option.bind_some, hp, hg, Option.map_some]
            · rename_i hcl
              simp only [hcl] at hh ⊢
              split at hdo
              · cases hdo
              · rename_i hnc
                simp only [hnc] at hh ⊢
                simp only [Option.bind_eq_some_iff, Option.map_eq_some_iff, Prod.mk.injEq] at hdo
                obtain ⟨v, hv, caps, hcaps, bs, hbs, us, hus, rfl, rfl, rfl⟩ := hdo
                simp only [hv, Option.bind_some, Option.map_eq_some_iff, Prod.mk.injEq] at hh ⊢
                obtain ⟨s3, hg, rfl, rfl⟩ := hh
                simp only [hcaps, hbs, hus, Option.bind_some, hc, hp, hg, Option.map_some]
      · cases h
    · cases h
  · cases h
/-- One operation: as a hint says, or as it is. -/
def hop {α : Type} (E : Env) (hs : Hints) (run : Env → St → Oper → Option St) (view : St → St) (pu ap : Oper → Bool) (s : St) (o : Oper) (k : St → Option (List Prop × α)) : Option (List Prop × α) :=
  match (keyOf o).bind (hintAt hs) with
  | some (.put d) => hadd (run E s o = some (s.putO o.dst d)) (k (s.putO o.dst d))
  | some (.to f) => hadd (run E s o = some (f s)) (k (f s))
  | some (.at d) => match askEv E s (some d) o.op with
    | some (p, d) => (match o.dst, pu o with | some n, true => hadd p (k (s.put n d)) | _, _ => none)
    | none => (match askSt E s d o.op, ap o with | some (p, s'), true => hadd p (k s') | _, _ => none)
  | some .ok => match askEv E s none o.op with
    | some (p, d) => (match o.dst, pu o with | some n, true => hadd p (k (s.put n d)) | _, _ => none)
    | none => (match askApp E s o.dst o.op, ap o with | some (p, s'), true => hadd p (k s') | _, _ => none)
  | some (.ret rs) => match callEv E (view s) o with
    | some (f, args, fl) => haddIf fl (D.cleans rs = true) (hadd (E.call f args [] [] = some (rs, [], [])) (match pu o, o.dst with | true, some n => k (s.put n (retD rs)) | _, _ => (run (E.with (rs, [], [])) s o).bind k))
    | none => none
  | some (.back rs u l) => match callOf E (view s) o with
    | some (f, args, us, ls) => hadd (E.call f args us ls = some (rs, u, l)) (match ap o with
      | true => (match callH E s o (rs, u, l) with | some (p, s') => hadd p (k s') | none => none)
      | false => (run (E.with (rs, u, l)) s o).bind k)
    | none => none
  | _ => (run E s o).bind k
def hops (E : Env) (hs : Hints) (ops : Array Oper) : List Oper → St → Option (List Prop × St)
  | [], s => some ([], s)
  | o :: l, s => hguard hs ops s o.guard (fun s => hop E hs step (fun s => s) (fun _ => true) (fun _ => true) s o (hops E hs ops l)) (fun s => hops E hs ops l (s.putO o.dst .undef))
def rowView (M : Option (List Nat)) (k : Nat) (s : St) : St :=
  match k with
  | 0 => s
  | 1 => s
  | 2 => s
  | 3 => s
  | _ => match M with | none => s | some M => s.hid M
def isLoad : Op → Bool
  | .load _ _ => true
  | _ => false
def rowPu (M : Option (List Nat)) (k : Nat) (o : Oper) : Bool :=
  match k with
  | 0 => isCalm o.op
  | 1 => isLoad o.op && M.isNone
  | 2 => true
  | 3 => false
  | _ => M.isNone
def hopsD (E : Env) (hs : Hints) (ops : Array Oper) (M : Option (List Nat)) : Bool → List PRow → St → Option (List Prop × St)
  | _, [], s => some ([], s)
  | first, (i, k, ds) :: l, s => match allJunk s ds with
    | false => none
    | true => match ops[i]? with
      | none => none
      | some o => hguard hs ops s o.guard (fun s => hop E hs (fun E => rowStep E M first k) (rowView M k) (rowPu M k) (fun _ => Nat.beq k 2) s o (hopsD E hs ops M (first && stays k) l)) (fun s => hopsD E hs ops M (first && stays k) l (s.putO o.dst .undef))
def hplan (E : Env) (hs : Hints) (ops : Array Oper) (p : Plan) (s : St) : Option (List Prop × St) :=
  match p.2 with
  | [] => some ([], s)
  | (i, k, ds) :: l => match noOwns s ds with
    | true => hopsD E hs ops p.1 true ((i, k, ds) :: l) (s.junks ds)
    | false => none
def hregion (E : Env) (hs : Hints) (id : Nat) (ops : Array Oper) (draw : Bool) (s : St) : Option (List Prop × St) :=
  match draw with
  | false => hops E hs ops ops.toList s
  | true => match E.plan id with
    | some p => hplan E hs ops p s
    | none => none
def hthen (r : Option (List Prop × X × St)) (k : X → St → Option (List Prop × X × St)) : Option (List Prop × X × St) :=
  match r with
  | some (ps, x, s) => match k x s with
    | some q => some (ps ++ q.1, q.2)
    | none => none
  | none => none
def pickD : List Nat → List D → Nat → D
  | a :: L, d :: ds, x => match Nat.beq a x with | true => d | false => pickD L ds x
  | _, _, _ => .junk
def pickB : List Nat → List (Option (List D)) → Nat → Option (List D)
  | a :: L, d :: ds, x => match Nat.beq a x with | true => d | false => pickB L ds x
  | _, _, _ => none
/-- What lives, in a form that is the same whenever its parts are. -/
def Nm (L : List Nat) (ds : List D) (bs : List (Option (List D))) (u : List (List D)) (l : List (Option Row)) : St := ⟨pickD L ds, pickB L bs, u, l⟩
/-- What lives of a state. -/
def nmOf (L : List Nat) (s : St) : St := Nm L (L.map fun x => (s.t x).kill (Kill.but L)) (L.map fun x => (s.b x).map (D.kills (Kill.but L))) (s.u.map (D.kills (Kill.but L))) s.l
def LoopOb (E : Env) (n : Nat) (c : Code) (s0 : St) (x : X) (s' : St) : Prop := ∀ s : St, s.norm (E.live (firstRegion c)) = s0 → exec E n (.loop c) s = some (x, s')
def hexec (E : Env) (n : Nat) (hs : Hints) : Code → St → Option (List Prop × X × St)
  | .skip, s => some ([], .normal, s)
  | .region id ops draw, s => match hregion E hs id ops draw s with | some r => some (r.1, .normal, r.2) | none => none
  | .seq a b, s => hthen (hexec E n hs a s) fun x s' => match x with
    | .normal => hexec E n hs b s'
    | x => some ([], x, s')
  | .cond c a b, s => hcond hs s c (hexec E n hs a) (hexec E n hs b)
  | .block id c, s => hthen (hexec E n hs c s) fun x s' => match x with
    | .exit i => (match Nat.beq i id with | true => some ([], .normal, s') | false => some ([], .exit i, s'))
    | x => some ([], x, s')
  | .loop c, s => match hintAt hs (300000 + firstRegion c) with
    | some (.loop s0 x s') => some ([nmOf (E.live (firstRegion c)) s = s0, LoopOb E n c s0 x s'], x, s')
    | _ => none
  | .exit id, s => some ([], .exit id, s)
  | .ret, s => some ([], .ret, s)
  | _, _ => none
theorem nbeq_eq {a b : Nat} : Nat.beq a b = true ↔ a = b := ⟨Nat.eq_of_beq_eq_true, fun h => by rw [h]; exact Nat.beq_refl b⟩
theorem nbeq_ne {a b : Nat} : Nat.beq a b = false ↔ a ≠ b := ⟨Nat.ne_of_beq_eq_false, fun h => by
  cases hb : Nat.beq a b with
  | false => rfl
  | true => exact (h (Nat.eq_of_beq_eq_true hb)).elim⟩
theorem memN_cons' {a x : Nat} {l : List Nat} : memN x (a :: l) = (Nat.beq x a || memN x l) := by
  show (match Nat.beq x a with | true => true | false => memN x l) = _
  cases Nat.beq x a <;> rfl
theorem pickD_map {f : Nat → D} {x : Nat} : ∀ {L : List Nat}, pickD L (L.map f) x = match memN x L with | true => f x | false => .junk
  | [] => rfl
  | a :: L => by
    simp only [List.map_cons, pickD]
    cases h : Nat.beq a x with
    | true => rw [nbeq_eq.1 h, memN_cons']; simp
    | false =>
      have h2 : Nat.beq x a = false := nbeq_ne.2 (fun e => nbeq_ne.1 h e.symm)
      simp only [pickD_map (L := L), memN_cons', h2, Bool.false_or]
theorem pickB_map {f : Nat → Option (List D)} {x : Nat} : ∀ {L : List Nat}, pickB L (L.map f) x = match memN x L with | true => f x | false => none
  | [] => rfl
  | a :: L => by
    simp only [List.map_cons, pickB]
    cases h : Nat.beq a x with
    | true => rw [nbeq_eq.1 h, memN_cons']; simp
    | false =>
      have h2 : Nat.beq x a = false := nbeq_ne.2 (fun e => nbeq_ne.1 h e.symm)
      simp only [pickB_map (L := L), memN_cons', h2, Bool.false_or]
theorem norm_eq (L : List Nat) (s : St) : s.norm L = nmOf L s := by
  simp only [St.norm, nmOf, Nm, St.mk.injEq, and_true]
  refine ⟨funext fun x => ?_, funext fun x => ?_⟩
  · rw [pickD_map]; cases memN x L <;> rfl
  · rw [pickB_map]; cases memN x L <;> rfl
theorem hadd_some {α : Type} {p : Prop} {r : Option (List Prop × α)} {q : List Prop × α} (h : hadd p r = some q) : ∃ ps, r = some (ps, q.2) ∧ q.1 = p :: ps := by
  unfold hadd at h
  split at h
  · rename_i r'
    cases h
    exact ⟨r'.1, rfl, rfl⟩
  · cases h
section
variable {E : Env} {hs : Hints} {ops : Array Oper}
/-- What follows a condition. -/
theorem hbool_sound {α β : Type} {s : St} {x : Nat} {yes no : St → Option (List Prop × α)} {und : Option (List Prop × α)} {q : List Prop × α} {yes' no' : St → Option β} {und' : Option β} {b : β}
    (h : hbool hs s x yes no und = some q) (hq : Obs q.1) (hy : ∀ s ps, yes s = some (ps, q.2) → Obs ps → yes' s = some b) (hn : ∀ s ps, no s = some (ps, q.2) → Obs ps → no' s = some b) (hu : ∀ ps, und = some (ps, q.2) → Obs ps → und' = some b) :
    (match s.t x with
      | .dat (.val (.bool v)) => match v with | true => yes' (s.force x true) | false => no' (s.force x false)
      | .undef => und'
      | _ => none) = some b := by
  unfold hbool at h
  cases hx : s.t x with
  | undef => rw [hx] at h; exact hu q.1 h hq
  | dat d =>
    rw [hx] at h
    cases d with
    | val v =>
      cases v with
      | bool v =>
        simp only at h ⊢
        split at h
        · obtain ⟨ps, h1, h2⟩ := hadd_some h
          rw [h2] at hq
          have hv : v = true := hq.1
          rw [hv]
          exact hy _ ps h1 hq.2
        · obtain ⟨ps, h1, h2⟩ := hadd_some h
          rw [h2] at hq
          have hv : v = false := hq.1
          rw [hv]
          exact hn _ ps h1 hq.2
        · cases v with
          | true => exact hy _ q.1 h hq
          | false => exact hn _ q.1 h hq
      | _ => cases h
    | _ => cases h
  | _ => rw [hx] at h; cases h
theorem hcond_sound {α β : Type} {s : St} {c : Operand} {yes no : St → Option (List Prop × α)} {q : List Prop × α} {yes' no' : St → Option β} {b : β}
    (h : hcond hs s c yes no = some q) (hq : Obs q.1) (hy : ∀ s ps, yes s = some (ps, q.2) → Obs ps → yes' s = some b) (hn : ∀ s ps, no s = some (ps, q.2) → Obs ps → no' s = some b) : condD s c yes' no' = some b := by
  unfold hcond at h
  unfold condD
  split at h
  · rename_i x
    have := hbool_sound (und' := (none : Option β)) h hq hy hn (fun ps h => by cases h)
    simp only
    revert this
    cases s.t x with
    | dat d =>
      cases d with
      | val v => cases v <;> exact id
      | _ => exact id
    | _ => intro h; first | exact h | cases h
  · rename_i v
    cases v with
    | true => exact hy _ q.1 h hq
    | false => exact hn _ q.1 h hq
  · cases h
theorem hguard_sound {α β : Type} {s : St} {g : Option (Nat × Bool)} {k z : St → Option (List Prop × α)} {q : List Prop × α} {k' z' : St → Option β} {b : β}
    (h : hguard hs ops s g k z = some q) (hq : Obs q.1) (hk : ∀ s ps, k s = some (ps, q.2) → Obs ps → k' s = some b) (hz : ∀ s ps, z s = some (ps, q.2) → Obs ps → z' s = some b) : guarded ops s g k' z' = some b := by
  unfold hguard at h
  unfold guarded
  split at h
  · exact hk _ q.1 h hq
  · rename_i j want
    simp only
    split at h
    · cases h
    · rename_i x hx
      rw [hx]
      simp only
      split at h
      · have := hbool_sound (und' := z' s) h hq hk hz (fun ps h h2 => hz _ ps h h2)
        revert this
        cases s.t x with
        | dat d =>
          cases d with
          | val v =>
            cases v with
            | bool v => cases v <;> exact id
            | _ => exact id
          | _ => exact id
        | _ => exact id
      · have := hbool_sound (und' := z' s) h hq hz hk (fun ps h h2 => hz _ ps h h2)
        revert this
        cases s.t x with
        | dat d =>
          cases d with
          | val v =>
            cases v with
            | bool v => cases v <;> exact id
            | _ => exact id
          | _ => exact id
        | _ => exact id
/-- What a step does, it does with the calls' answers put in. -/
structure RunOK (E : Env) (run : Env → St → Oper → Option St) (view : St → St) (pu ap : Oper → Bool) : Prop where
  pure : ∀ s o n d, evOp E s.look s.get s.box o.type o.op = some (.pure d) → o.dst = some n → pu o = true → run E s o = some (s.put n d)
  app : ∀ s o s', step E s o = some s' → ap o = true → run E s o = some s'
  vw : ∀ s o, pu o = true → view s = s
  vw2 : ∀ s o, ap o = true → view s = s
  ev : ∀ s o rs f args fl, callEv E (view s) o = some (f, args, fl) → (fl = true → D.cleans rs = true) → E.call f args [] [] = some (rs, [], []) → run E s o = run (E.with (rs, [], [])) s o
  go : ∀ s o r q, callOf E (view s) o = some r → E.call r.1 r.2.1 r.2.2.1 r.2.2.2 = some q → ∀ s', run (E.with q) s o = some s' → run E s o = some s'
theorem step_ok : RunOK E step (fun s => s) (fun _ => true) (fun _ => true) :=
  ⟨fun s o n d h hd _ => by
    unfold step
    rw [h, hd]
    rfl, fun s o s' h _ => h, fun _ _ _ => rfl, fun _ _ _ => rfl, fun s o rs f args fl h hfl hc => by
    obtain ⟨h1, h2⟩ := evOp_with h hfl hc
    unfold step
    rw [h1, h2], fun s o r q h hc s' hr => by rw [step_callOf h hc]; exact hr⟩
theorem rowStep_ok {M : Option (List Nat)} {first : Bool} {k : Nat} : RunOK E (fun E => rowStep E M first k) (rowView M k) (rowPu M k) (fun _ => Nat.beq k 2) := by
  have hcall : ∀ (s : St) (o : Oper) r, callEv E s o = some r → ∃ ca z, o.op = .call ca ∧ ca.callee = .value z := fun s o r h => by
    unfold callEv at h
    split at h
    · rename_i ca ho
      split at h
      · rename_i z hz; exact ⟨ca, z, ho, hz⟩
      · cases h
    · cases h
  have hcall2 : ∀ (s : St) (o : Oper) r, callOf E s o = some r → ∃ ca z, o.op = .call ca ∧ ca.callee = .value z := fun s o r h => by
    unfold callOf at h
    split at h
    · rename_i ca ho
      split at h
      · rename_i z hz; exact ⟨ca, z, ho, hz⟩
      · cases h
    · cases h
  have hno : ∀ (s : St) (o : Oper) (q : List D × List (List D) × List (Option Row)), (∃ ca z, o.op = .call ca ∧ ca.callee = .value z) → (k = 0 ∨ k = 1 ∨ k = 3) → ∀ E, rowStep E M first k s o = none := by
    rintro s o q ⟨ca, z, ho, hz⟩ hk E
    rcases hk with rfl | rfl | rfl
    · simp only [rowStep, calmStep, ho, isCalm, hz]
    · simp only [rowStep, loadStep, ho]
    · simp only [rowStep, allocStep, ho]
  have hev : ∀ (s : St) (o : Oper) (r : Nat × List D × List (List D) × List (Option Row)), callOf E s o = some r → ∀ E', E'.mode = E.mode → (∀ zs ts, argsD E' s.look zs ts = argsD E s.look zs ts) → evOp E' s.look s.get s.box o.type o.op = none := by
    intro s o r h E' hm ha
    unfold callOf at h
    split at h
    · rename_i ca ho
      split at h
      · rename_i z hz
        split at h
        · rename_i f cap hf
          split at h
          · cases h
          · rename_i hdead
            rw [ho]
            simp only [evOp, hz, hf]
            cases cap with
            | cons r rs => rfl
            | nil =>
              simp only [List.isEmpty_nil, Bool.true_and] at hdead
              simp only [evCall, hm, ha]
              cases hzz : allZero (E.mode f) with
              | false => rfl
              | true =>
                rw [hzz, Bool.true_and] at hdead
                cases hv : views s.get (argsD E s.look ca.args.toList ca.argTypes.toList) with
                | none => rfl
                | some r => rw [hv] at hdead; cases hdead
        · cases h
      · cases h
    · cases h
  have hpure : ∀ s o n d, evOp E s.look s.get s.box o.type o.op = some (.pure d) → o.dst = some n → rowPu M k o = true → rowStep E M first k s o = some (s.put n d) := by
    intro s o n d h hd hpu
    match k, hpu with
    | 0, hpu =>
      have hpu : isCalm o.op = true := hpu
      simp only [rowStep, calmStep, hpu, hd, h]
    | 1, hpu =>
      have hpu : (isLoad o.op && M.isNone) = true := hpu
      simp only [Bool.and_eq_true, Option.isNone_iff_eq_none] at hpu
      obtain ⟨h1, rfl⟩ := hpu
      unfold isLoad at h1
      split at h1
      · rename_i t x ho
        rw [ho] at h
        simp only [evOp, Option.bind_eq_some_iff, Option.map_eq_some_iff] at h
        obtain ⟨i, hi, y, hy, he⟩ := h
        cases he
        simp only [rowStep, loadStep, ho, hd, hi, Option.bind_some, hy, Option.map_some]
      · cases h1
    | 2, hpu => exact step_ok.pure s o n d h hd rfl
    | m + 4, hpu =>
      have hpu : M.isNone = true := hpu
      simp only [Option.isNone_iff_eq_none] at hpu
      subst hpu
      simp only [rowStep, flagStep, h, hd, Option.bind_some, St.apply, Option.map_some]
  have hvw : ∀ (s : St) (o : Oper), rowPu M k o = true → rowView M k s = s := by
    intro s o hpu
    match k, hpu with
    | 0, _ => rfl
    | 1, _ => rfl
    | 2, _ => rfl
    | m + 4, hpu =>
      have hpu : M.isNone = true := hpu
      simp only [Option.isNone_iff_eq_none] at hpu
      subst hpu
      rfl
  refine ⟨hpure, fun s o s' h hk => by rw [Nat.eq_of_beq_eq_true hk]; exact h, hvw, fun s o hk => by rw [Nat.eq_of_beq_eq_true hk]; rfl, fun s o rs f args fl h hfl hc => ?_, fun s o r q h hc s' hr => ?_⟩
  · have hk5 : (k = 0 ∨ k = 1 ∨ k = 3) ∨ k = 2 ∨ ∃ m, k = m + 4 := by
      match k with
      | 0 => exact .inl (.inl rfl)
      | 1 => exact .inl (.inr (.inl rfl))
      | 2 => exact .inr (.inl rfl)
      | 3 => exact .inl (.inr (.inr rfl))
      | m + 4 => exact .inr (.inr ⟨m, rfl⟩)
    rcases hk5 with hk | rfl | ⟨m, rfl⟩
    · rw [hno s o (rs, [], []) (hcall _ _ _ h) hk, hno s o (rs, [], []) (hcall _ _ _ h) hk]
    · exact step_ok.ev s o rs f args fl h hfl hc
    · show flagStep E M s o = flagStep (E.with (rs, [], [])) M s o
      unfold flagStep
      cases M with
      | none =>
        obtain ⟨h1, h2⟩ := evOp_with (s := s) h hfl hc
        simp only [h1, h2]
      | some M =>
        have h' := step_ok.ev (s.hid M) o rs f args fl h hfl hc
        simp only [h']
  · have hk5 : (k = 0 ∨ k = 1 ∨ k = 3) ∨ k = 2 ∨ ∃ m, k = m + 4 := by
      match k with
      | 0 => exact .inl (.inl rfl)
      | 1 => exact .inl (.inr (.inl rfl))
      | 2 => exact .inr (.inl rfl)
      | 3 => exact .inl (.inr (.inr rfl))
      | m + 4 => exact .inr (.inr ⟨m, rfl⟩)
    rcases hk5 with hk | rfl | ⟨m, rfl⟩
    · rw [hno s o q (hcall2 _ _ _ h) hk] at hr
      cases hr
    · exact step_ok.go s o r q h hc s' hr
    · have hr' : flagStep (E.with q) M s o = some s' := hr
      show flagStep E M s o = some s'
      unfold flagStep at hr' ⊢
      cases M with
      | none =>
        simp only at hr'
        rw [hev s o r h (E.with q) rfl (fun zs ts => argsD_with zs ts)] at hr'
        cases hr'
      | some M =>
        have h' := step_callOf (s := s.hid M) h hc
        simp only [h']
        exact hr'
theorem hop_sound {α β : Type} {run : Env → St → Oper → Option St} {view : St → St} {pu ap : Oper → Bool} (hrun : RunOK E run view pu ap) {s : St} {o : Oper} {k : St → Option (List Prop × α)} {q : List Prop × α} {k' : St → Option β} {b : β}
    (h : hop E hs run view pu ap s o k = some q) (hq : Obs q.1) (hk : ∀ s ps, k s = some (ps, q.2) → Obs ps → k' s = some b) : (run E s o).bind k' = some b := by
  unfold hop at h
  split at h
  · obtain ⟨ps, h1, h2⟩ := hadd_some h
    rw [h2] at hq
    rw [hq.1]
    exact hk _ ps h1 hq.2
  · obtain ⟨ps, h1, h2⟩ := hadd_some h
    rw [h2] at hq
    rw [hq.1]
    exact hk _ ps h1 hq.2
  · split at h
    · rename_i p d hask
      split at h
      · rename_i n hdn hpu
        obtain ⟨ps, h1, h2⟩ := hadd_some h
        rw [h2] at hq
        rw [hrun.pure s o _ _ (askEv_sound hask hq.1) hdn hpu]
        exact hk _ ps h1 hq.2
      · cases h
    · split at h
      · rename_i p s' hask hap
        obtain ⟨ps, h1, h2⟩ := hadd_some h
        rw [h2] at hq
        rw [hrun.app s o _ (askSt_sound hask hq.1) hap]
        exact hk _ ps h1 hq.2
      · cases h
  · split at h
    · rename_i p d hask
      split at h
      · rename_i n hdn hpu
        obtain ⟨ps, h1, h2⟩ := hadd_some h
        rw [h2] at hq
        rw [hrun.pure s o _ _ (askEv_sound hask hq.1) hdn hpu]
        exact hk _ ps h1 hq.2
      · cases h
    · split at h
      · rename_i p s' hask hap
        obtain ⟨ps, h1, h2⟩ := hadd_some h
        rw [h2] at hq
        rw [hrun.app s o _ (askApp_sound hask hq.1) hap]
        exact hk _ ps h1 hq.2
      · cases h
  · rename_i rs hhint
    split at h
    · rename_i f args fl hcv
      have hkey : ∃ ps, hadd (E.call f args [] [] = some (rs, [], [])) (match pu o, o.dst with | true, some n => k (s.put n (retD rs)) | _, _ => (run (E.with (rs, [], [])) s o).bind k) = some (ps, q.2) ∧ Obs ps ∧ (fl = true → D.cleans rs = true) := by
        cases fl with
        | false => exact ⟨q.1, h, hq, fun e => by cases e⟩
        | true =>
          obtain ⟨ps, h1, h2⟩ := hadd_some h
          rw [h2] at hq
          exact ⟨ps, h1, hq.2, fun _ => hq.1⟩
      obtain ⟨ps0, h0, hq0, hfl⟩ := hkey
      obtain ⟨ps, h1, h2⟩ := hadd_some h0
      simp only at h2
      rw [h2] at hq0
      split at h1
      · rename_i n hpu hdn
        have hv := hrun.vw s o hpu
        rw [hv] at hcv
        rw [hrun.pure s o _ _ (evOp_with hcv hfl hq0.1).1 hdn hpu]
        exact hk _ ps h1 hq0.2
      · rw [hrun.ev s o _ _ _ _ hcv hfl hq0.1]
        simp only [Option.bind_eq_some_iff] at h1
        obtain ⟨s', hr, h1⟩ := h1
        rw [hr]
        exact hk s' ps h1 hq0.2
    · cases h
  · split at h
    · rename_i f args us ls hcv
      obtain ⟨ps, h1, h2⟩ := hadd_some h
      rw [h2] at hq
      split at h1
      · rename_i hap
        split at h1
        · rename_i p s' hch
          obtain ⟨ps2, h3, h4⟩ := hadd_some h1
          simp only at h4
          rw [h4] at hq
          have hv : view s = s := hrun.vw2 s o hap
          rw [hv] at hcv
          rw [hrun.app s o _ (callH_sound hcv hq.1 hch hq.2.1) hap]
          exact hk s' ps2 h3 hq.2.2
        · cases h1
      · simp only [Option.bind_eq_some_iff] at h1
        obtain ⟨s', hr, h1⟩ := h1
        rw [hrun.go s o _ _ hcv hq.1 s' hr]
        exact hk s' ps h1 hq.2
    · cases h
  · cases hr : run E s o with
    | none => rw [hr] at h; cases h
    | some s' => rw [hr] at h; exact hk s' q.1 h hq
theorem hops_sound : ∀ (l : List Oper) (s : St) (q : List Prop × St), hops E hs ops l s = some q → Obs q.1 → runOps E ops l s = some q.2
  | [], s, q, h, hq => by cases h; rfl
  | o :: l, s, q, h, hq => by
    unfold hops at h
    unfold runOps
    exact hguard_sound h hq (fun s ps h1 h2 => hop_sound step_ok h1 h2 fun s ps h3 h4 => hops_sound l s (ps, q.2) h3 h4) (fun s ps h1 h2 => hops_sound l _ (ps, q.2) h1 h2)
theorem hopsD_sound {M : Option (List Nat)} : ∀ (l : List PRow) (first : Bool) (s : St) (q : List Prop × St), hopsD E hs ops M first l s = some q → Obs q.1 → runOpsD E ops M first l s = some q.2
  | [], first, s, q, h, hq => by cases h; rfl
  | (i, k, ds) :: l, first, s, q, h, hq => by
    unfold hopsD at h
    unfold runOpsD
    split at h
    · cases h
    · rename_i hj
      simp only [hj]
      split at h
      · cases h
      · rename_i o ho
        simp only [ho]
        exact hguard_sound h hq (fun s ps h1 h2 => hop_sound rowStep_ok h1 h2 fun s ps h3 h4 => hopsD_sound l _ s (ps, q.2) h3 h4) (fun s ps h1 h2 => hopsD_sound l _ _ (ps, q.2) h1 h2)
theorem hregion_sound {id : Nat} {draw : Bool} {s : St} {q : List Prop × St} (h : hregion E hs id ops draw s = some q) (hq : Obs q.1) : runRegion E id ops draw s = some q.2 := by
  unfold hregion at h
  unfold runRegion
  cases draw with
  | false => exact hops_sound _ _ _ h hq
  | true =>
    simp only at h ⊢
    split at h
    · rename_i p hp
      simp only [hp]
      unfold hplan at h
      unfold runPlan
      split at h
      · rename_i e
        simp only [e]
        cases h; rfl
      · rename_i i k ds l e
        simp only [e]
        split at h
        · rename_i hn
          simp only [hn]
          exact hopsD_sound _ _ _ _ h hq
        · cases h
    · cases h
theorem hthen_some {r : Option (List Prop × X × St)} {k : X → St → Option (List Prop × X × St)} {q : List Prop × X × St} (h : hthen r k = some q) (hq : Obs q.1) : ∃ ps x s qs, r = some (ps, x, s) ∧ k x s = some (qs, q.2) ∧ Obs ps ∧ Obs qs := by
  unfold hthen at h
  split at h
  · rename_i ps x s
    split at h
    · rename_i q' hk
      cases h
      obtain ⟨h1, h2⟩ := obs_append hq
      exact ⟨ps, x, s, q'.1, rfl, hk, h1, h2⟩
    · cases h
  · cases h
/-- What the hints lead to is what the code does, if all that they claim holds. -/
theorem hexec_sound {n : Nat} : ∀ (c : Code) (s : St) (q : List Prop × X × St), hexec E n hs c s = some q → Obs q.1 → exec E n c s = some q.2
  | .skip, s, q, h, hq => by cases h; rfl
  | .region id ops draw, s, q, h, hq => by
    simp only [hexec] at h
    split at h
    · rename_i r hr
      cases h
      simp only [exec]
      rw [hregion_sound hr hq]
      rfl
    · cases h
  | .seq a b, s, q, h, hq => by
    obtain ⟨pq, r⟩ := q
    simp only [hexec] at h
    obtain ⟨ps, x, s1, qs, h1, h2, h3, h4⟩ := hthen_some h hq
    have := hexec_sound a s _ h1 h3
    simp only [exec, this]
    cases x with
    | normal => exact hexec_sound b s1 (qs, r) h2 h4
    | exit i => cases h2; rfl
    | ret => cases h2; rfl
  | .cond c a b, s, q, h, hq => by
    simp only [hexec] at h
    simp only [exec]
    exact hcond_sound h hq (fun s ps h1 h2 => hexec_sound a s (ps, q.2) h1 h2) (fun s ps h1 h2 => hexec_sound b s (ps, q.2) h1 h2)
  | .block id c, s, q, h, hq => by
    obtain ⟨pq, r⟩ := q
    simp only [hexec] at h
    obtain ⟨ps, x, s1, qs, h1, h2, h3, h4⟩ := hthen_some h hq
    have := hexec_sound c s _ h1 h3
    simp only [exec, this]
    cases x with
    | normal => cases h2; rfl
    | exit i =>
      simp only at h2 ⊢
      split at h2
      · rename_i hb; simp only [hb]; cases h2; rfl
      · rename_i hb; simp only [hb]; cases h2; rfl
    | ret => cases h2; rfl
  | .loop c, s, q, h, hq => by
    simp only [hexec] at h
    split at h
    · cases h; exact hq.2.1 s ((norm_eq _ s).trans hq.1)
    · cases h
  | .exit id, s, q, h, hq => by cases h; rfl
  | .ret, s, q, h, hq => by cases h; rfl
  | .label _, s, q, h, hq => by cases h
  | .goto _, s, q, h, hq => by cases h
  | .rangeFunc _ _ _ _, s, q, h, hq => by cases h
  | .scope _, s, q, h, hq => by cases h
  | .refuse _, s, q, h, hq => by cases h
end
end Go.Den
namespace Go.Den
open Go
set_option linter.unusedVariables false
abbrev Res := List D × List (List D) × List (Option Row)
def hrun (C : Cfg) (n : Nat) (call : Nat → List D → List (List D) → List (Option Row) → Option Res) (hs : Hints) (f : Nat) (fn : Func) (args : List D) (u : List (List D)) (l : List (Option Row)) : Option (List Prop × Res) :=
  match fn.body with
  | none => none
  | some c => match hexec ⟨C.ty, C.mode, fn.ntmps, C.live f, C.out f, C.plan f, call⟩ n hs c (start args u l) with
    | some (_, .exit _, _) => none
    | some (ps, _, s) => (results C.ty fn.results.toList s).bind fun r => match Nat.beq r.2.u.length u.length with | true => some (ps, r.1, r.2.u.map (D.kills (Kill.but [])), r.2.l) | false => none
    | none => none
theorem hrun_sound {C : Cfg} {n : Nat} {call : Nat → List D → List (List D) → List (Option Row) → Option Res} (hs : Hints) {f : Nat} {fn : Func} {args : List D} {u : List (List D)} {l : List (Option Row)} {q : List Prop × Res} (h : hrun C n call hs f fn args u l = some q) (hq : Obs q.1) : runFn C n call f fn args u l = some q.2 := by
  unfold hrun at h
  unfold runFn
  split at h
  · cases h
  · rename_i c hc
    rw [hc]
    simp only
    split at h
    · cases h
    · rename_i ps x s hne he
      simp only [Option.bind_eq_some_iff] at h
      obtain ⟨r, hr, h⟩ := h
      split at h
      · rename_i hb
        cases h
        have := hexec_sound _ _ _ he hq
        rw [this]
        cases x with
        | exit i => exact (hne _ rfl).elim
        | normal => simp only [hr, Option.bind_some, hb]
        | ret => simp only [hr, Option.bind_some, hb]
      · cases h
    · cases h
theorem hrun_ok {C : Cfg} {n : Nat} {call : Nat → List D → List (List D) → List (Option Row) → Option Res} (hs : Hints) {f : Nat} {fn : Func} {args : List D} {u : List (List D)} {l : List (Option Row)} {ps : List Prop} {r : Res} (hq : Obs ps) (h : hrun C n call hs f fn args u l = some (ps, r)) : runFn C n call f fn args u l = some r := hrun_sound hs h hq
theorem ob0 : Obs [] := trivial
theorem ob {p : Prop} {l : List Prop} (h : p) (hl : Obs l) : Obs (p :: l) := ⟨h, hl⟩
theorem obT {p : Prop} (h : p) : true = true ∧ p := ⟨rfl, h⟩
def loopIn (r : Nat) : Code → Option Code
  | .seq a b => match loopIn r a with | some c => some c | none => loopIn r b
  | .cond _ a b => match loopIn r a with | some c => some c | none => loopIn r b
  | .block _ a => loopIn r a
  | .loop a => match Nat.beq (firstRegion a) r with | true => some a | false => loopIn r a
  | _ => none
/-- The body of a function's loop. -/
def lp (fn : Func) (r : Nat) : Code := match fn.body with | some c => (loopIn r c).getD .skip | none => .skip
def envOf (C : Cfg) (k f : Nat) (fn : Func) : Env := ⟨C.ty, C.mode, fn.ntmps, C.live f, C.out f, C.plan f, den C k⟩
def LoopAt (C : Cfg) (k f : Nat) (fn : Func) (r : Nat) (s0 : St) (x : X) (s' : St) : Prop := LoopOb (envOf C k f fn) k (lp fn r) s0 x s'
section
variable {E : Env} {n m : Nat} {c : Code} {L : List Nat} {s s0 s1 s2 : St} {ps : List Prop} {hs : Hints}
def stOf (r : Option (List Prop × X × St)) : St := match r with | some q => q.2.2 | none => start [] [] []
def wayOf (r : Option (List Prop × X × St)) : Option (List Prop × X) := match r with | some q => some (q.1, q.2.1) | none => none
def Rounds (E : Env) (n : Nat) (c : Code) (m : Nat) (s : St) (K : X → St → Prop) : Prop := ∃ x s1, iter (exec E n c) (St.norm (E.live (firstRegion c))) m s = some (x, s1) ∧ K x (s1.norm (E.out (firstRegion c)))
theorem wayOf_some {r : Option (List Prop × X × St)} {p : List Prop × X} (h : wayOf r = some p) : r = some (p.1, p.2, stOf r) := by
  unfold wayOf at h
  split at h
  · cases h; rfl
  · cases h
theorem rounds_go {K : X → St → Prop} (hs : Hints) (hL : s.norm (E.live (firstRegion c)) = s0) (h : wayOf (hexec E n hs c s0) = some (ps, .normal)) (ho : Obs ps) (hst : nmOf (E.live (firstRegion c)) (stOf (hexec E n hs c s0)) = s2) (hn : ∀ s, s.norm (E.live (firstRegion c)) = s2 → Rounds E n c m s K) : Rounds E n c (m + 1) s K := by
  obtain ⟨x, s1, h1, h2⟩ := hn (stOf (hexec E n hs c s0)) ((norm_eq _ _).trans hst)
  have := hexec_sound _ _ _ (wayOf_some h) ho
  refine ⟨x, s1, ?_, h2⟩
  simp only [iter, hL, this]
  exact h1
theorem rounds_end {K : X → St → Prop} {x : X} (hs : Hints) (hL : s.norm (E.live (firstRegion c)) = s0) (h : wayOf (hexec E n hs c s0) = some (ps, x)) (hx : (match x with | .normal => false | _ => true) = true) (ho : Obs ps) (hst : nmOf (E.out (firstRegion c)) (stOf (hexec E n hs c s0)) = s2) (hK : K x s2) : Rounds E n c (m + 1) s K := by
  have := hexec_sound _ _ _ (wayOf_some h) ho
  refine ⟨x, stOf (hexec E n hs c s0), ?_, by rw [norm_eq, hst]; exact hK⟩
  simp only [iter, hL, this]
  cases x with
  | normal => cases hx
  | _ => rfl
theorem loop_rounds {K : X → St → Prop} (h : Rounds E n c n s K) : ∃ x s', exec E n (.loop c) s = some (x, s') ∧ K x s' := by
  obtain ⟨x, s1, h1, h2⟩ := h
  exact ⟨x, _, by simp only [exec, h1, Option.map_some], h2⟩
theorem loopOb_of {x : X} (h : ∀ s : St, s.norm (E.live (firstRegion c)) = s0 → Rounds E n c n s (fun x' s' => x' = x ∧ s' = s1)) : LoopOb E n c s0 x s1 := fun s hL => by
  obtain ⟨x', s', h1, rfl, rfl⟩ := loop_rounds (h s hL)
  exact h1
end
end Go.Den
namespace Go.Den
open Go
abbrev I (n : Int) : Dat := .val (.int .i64 n)
abbrev B (b : Bool) : Dat := .val (.bool b)
abbrev S (s : ByteArray) : Dat := .val (.string s)
abbrev w64 (n : Int) : Int := IntKind.i64.wrap n
abbrev T (k n : Int) (ds : List Dat) : Dat := .agg [I k, I n, .lst false ds]
abbrev N3 (a b c : Int) : Dat := .agg [I a, I b, I c]
end Go.Den
