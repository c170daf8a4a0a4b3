/- How data that is read (as the row's form reads it) stands as values of the print's kinds: numbers, bools, strings, structs of one-cell fields, slices of these. No condition beyond the types' own shapes. -/
import Derived.Test.YtpjikgeglhjehaaWMore
import Derived.Deep.Slices
import Derived.Deep.Fields
import Derived.ChangeSame
import Derived.ProofKit
import Derived.Lib.SmallJoins
namespace Go.Proofs.Ytpjikgeglhjehaa.Op
open Go.RowKit Go.Proofs.YtpjikgeglhjehaaW.PrintWords Go.Proofs.YtpjikgeglhjehaaW.PrintLast Go.ChangeShapes Go.WideShapes Go.Deep
set_option linter.unusedVariables false

def I64 (x : Int) : Prop := -9223372036854775808 ≤ x ∧ x ≤ 9223372036854775807
theorem i64_of {x : Int} (h : (Lit.int .i64 x).wf = true) : I64 x := by
  simp only [Lit.wf, Bool.and_eq_true, decide_eq_true_eq] at h
  simp only [IntKind.min, IntKind.max, IntKind.signed, IntKind.bits] at h
  unfold I64
  constructor
  · have := h.1; simpa using this
  · have := h.2; simp at this; omega

/-- What reads as data of type t stands as a value of kind d. -/
def Rd {α : Type} (P : Program) (d : Kd α) (Q : α → Prop) (t : TypeId) : Prop :=
  ∀ {H : Type} (enc : TypeId × Value → H) (w : World) (base : Nat) (spare : Nat → Bool) (held : Bool) (fuel : Nat) (cs : List Value) (x : DataW H × List MemPlace),
    DataW.trod enc P w base spare held fuel t cs = some x → ∃ a, d.K w a cs ∧ Q a

theorem rd_i64 {P : Program} {t : TypeId} (ht : P.underlying t = some (.int .i64)) : Rd P (Kd.int .i64) I64 t := fun enc w base spare held fuel cs x h => by
  obtain ⟨n, rfl, _, hw⟩ := DataW.trod_int ht h
  exact ⟨n, rfl, i64_of hw⟩
def U8 (x : Int) : Prop := 0 ≤ x ∧ x ≤ 255
theorem u8_of {x : Int} (h : (Lit.int .u8 x).wf = true) : U8 x := by
  simp only [Lit.wf, Bool.and_eq_true, decide_eq_true_eq] at h
  simp only [IntKind.min, IntKind.max, IntKind.signed, IntKind.bits] at h
  unfold U8
  constructor
  · have := h.1; simpa using this
  · have := h.2; simp at this; omega
theorem rd_u8 {P : Program} {t : TypeId} (ht : P.underlying t = some (.int .u8)) : Rd P (Kd.int .u8) U8 t := fun enc w base spare held fuel cs x h => by
  obtain ⟨n, rfl, _, hw⟩ := DataW.trod_int ht h
  exact ⟨n, rfl, u8_of hw⟩
theorem rd_bool {P : Program} {t : TypeId} (ht : P.underlying t = some .bool) : Rd P Kd.bool (fun _ => True) t := fun enc w base spare held fuel cs x h => by
  obtain ⟨n, rfl, _⟩ := DataW.trod_bool ht h
  exact ⟨n, rfl, trivial⟩
theorem rd_string {P : Program} {t : TypeId} (ht : P.underlying t = some .string) : Rd P Kd.string (fun s => s.size ≤ 9223372036854775807) t := fun enc w base spare held fuel cs x h => by
  obtain ⟨n, rfl, _, hs⟩ := DataW.trod_string ht h
  exact ⟨n, rfl, hs⟩
theorem rd_slice {P : Program} {α : Type} {d : Kd α} {Q : α → Prop} {t e : TypeId} (ht : P.underlying t = some (.slice e)) (hsz : P.cellsOf e = d.sz) (hd : Rd P d Q e) :
    Rd P (Kd.slice e d) (fun l => l.length ≤ 9223372036854775807 ∧ ∀ x ∈ l, Q x) t := fun enc w base spare held fuel cs x h => by
  rcases open_slice ht h with ⟨rfl, _⟩ | ⟨a, len, cap, m, n, D, Pl, rfl, _, hl, hm, hmm, _, hi⟩
  · exact ⟨[], ⟨none, 0, rfl, Nat.le_refl _, rfl, by simp, fun h => absurd h (by simp)⟩, by simp, by simp⟩
  · have hlm : len ≤ m := by rw [hmm]; split <;> omega
    have hex : ∀ i, i < len → ∃ p : α × List Value, d.K w p.1 p.2 ∧ Q p.1 ∧ p.2.length = d.sz ∧ ∀ j u, p.2[j]? = some u → w.cell? (a.add (i * d.sz + j)) = some u := by
      intro i hlt
      obtain ⟨cs', hc, ht'⟩ := hi i (by omega)
      obtain ⟨x, hk, hq⟩ := hd enc w base spare held n cs' _ ht'
      obtain ⟨_, hcl, hat⟩ := World.cells?_some hc
      rw [hsz] at hcl hat
      refine ⟨(x, cs'), hk, hq, hcl, fun j u hu => ?_⟩
      have hj : j < d.sz := by rw [← hcl]; exact (List.getElem?_eq_some_iff.1 hu).1
      have := hat j hj
      rw [Go.Deep.add_add] at this
      rw [this, hu]
    have hml : (maxLen : Nat) ≤ 9223372036854775807 := by unfold maxLen; omega
    cases len with
    | zero => exact ⟨[], ⟨some a, cap, rfl, Nat.zero_le _, rfl, by simp, fun h => absurd h (by simp)⟩, by simp, by simp⟩
    | succ len =>
      obtain ⟨p0, _⟩ := hex 0 (by omega)
      haveI : Inhabited (α × List Value) := ⟨p0⟩
      obtain ⟨f, hf⟩ := choose_lt hex
      refine ⟨(List.range (len + 1)).map fun i => (f i).1, ⟨some a, cap, by simp, by simpa using hl, by simp, by simp; omega, fun _ => ⟨a, rfl, ?_⟩⟩, by simp; omega, ?_⟩
      · intro j p hj
        have hlt : j < len + 1 := by
          have := (List.getElem?_eq_some_iff.1 hj).1
          simpa using this
        have hp : p = (f j).1 := by
          rw [List.getElem?_map, List.getElem?_range hlt] at hj
          simpa using hj.symm
        subst hp
        obtain ⟨h1, h2, h3, h4⟩ := hf j hlt
        exact ⟨(f j).2, h3, h1, h4⟩
      · intro x hx
        obtain ⟨i, hi1, rfl⟩ := List.mem_map.1 hx
        exact (hf i (by simpa using hi1)).2.1
theorem rd_iso {P : Program} {α β : Type} {d : Kd α} {Q : α → Prop} {t : TypeId} (f : β → α) (g : α → β) (hfg : ∀ a, f (g a) = a) (hd : Rd P d Q t) : Rd P (Kd.iso d f) (fun b => Q (f b)) t := fun enc w base spare held fuel cs x h => by
  obtain ⟨a, hk, hq⟩ := hd enc w base spare held fuel cs x h
  exact ⟨g a, by show d.K w (f (g a)) cs; rw [hfg]; exact hk, by show Q (f (g a)); rw [hfg]; exact hq⟩
theorem rd_struct3 {P : Program} {α0 α1 α2 : Type} {d0 : Kd α0} {d1 : Kd α1} {d2 : Kd α2} {Q0 : α0 → Prop} {Q1 : α1 → Prop} {Q2 : α2 → Prop} {t : TypeId} {f0 f1 f2 : Field} (hs : P.underlying t = some (.struct #[f0, f1, f2]))
    (hone : oneCellFields P #[f0, f1, f2] = true) (hC : P.cellsOf t = 3) (h0 : Rd P d0 Q0 f0.type) (h1 : Rd P d1 Q1 f1.type) (h2 : Rd P d2 Q2 f2.type) :
    Rd P (Kd.pair d0 (Kd.pair d1 d2)) (fun x => Q0 x.1 ∧ Q1 x.2.1 ∧ Q2 x.2.2) t := fun enc w base spare held fuel cs x h => by
  obtain ⟨xs, n, _, hx, hl, hlen, hg⟩ := DataW.trod_struct hs h
  obtain ⟨o0, k0⟩ := hone_of hone 0 f0 rfl
  obtain ⟨o1, k1⟩ := hone_of hone 1 f1 rfl
  obtain ⟨o2, k2⟩ := hone_of hone 2 f2 rfl
  match cs, hl.trans hC with
  | [c0, c1, c2], _ =>
    match xs, hlen with
    | [y0, y1, y2], _ =>
      have g0 : DataW.trod enc P w base spare held n f0.type [c0] = some y0 := by simpa [o0, k0] using hg 0 f0 rfl
      have g1 : DataW.trod enc P w base spare held n f1.type [c1] = some y1 := by simpa [o1, k1] using hg 1 f1 rfl
      have g2 : DataW.trod enc P w base spare held n f2.type [c2] = some y2 := by simpa [o2, k2] using hg 2 f2 rfl
      obtain ⟨a0, e0, q0⟩ := h0 enc w base spare held n _ _ g0
      obtain ⟨a1, e1, q1⟩ := h1 enc w base spare held n _ _ g1
      obtain ⟨a2, e2, q2⟩ := h2 enc w base spare held n _ _ g2
      exact ⟨(a0, a1, a2), ⟨[c0], [c1, c2], rfl, e0, [c1], [c2], rfl, e1, e2⟩, q0, q1, q2⟩
theorem rd_struct4 {P : Program} {α0 α1 α2 α3 : Type} {d0 : Kd α0} {d1 : Kd α1} {d2 : Kd α2} {d3 : Kd α3} {Q0 : α0 → Prop} {Q1 : α1 → Prop} {Q2 : α2 → Prop} {Q3 : α3 → Prop} {t : TypeId} {f0 f1 f2 f3 : Field} (hs : P.underlying t = some (.struct #[f0, f1, f2, f3]))
    (hone : oneCellFields P #[f0, f1, f2, f3] = true) (hC : P.cellsOf t = 4) (h0 : Rd P d0 Q0 f0.type) (h1 : Rd P d1 Q1 f1.type) (h2 : Rd P d2 Q2 f2.type) (h3 : Rd P d3 Q3 f3.type) :
    Rd P (Kd.pair d0 (Kd.pair d1 (Kd.pair d2 d3))) (fun x => Q0 x.1 ∧ Q1 x.2.1 ∧ Q2 x.2.2.1 ∧ Q3 x.2.2.2) t := fun enc w base spare held fuel cs x h => by
  obtain ⟨xs, n, _, hx, hl, hlen, hg⟩ := DataW.trod_struct hs h
  obtain ⟨o0, k0⟩ := hone_of hone 0 f0 rfl
  obtain ⟨o1, k1⟩ := hone_of hone 1 f1 rfl
  obtain ⟨o2, k2⟩ := hone_of hone 2 f2 rfl
  obtain ⟨o3, k3⟩ := hone_of hone 3 f3 rfl
  match cs, hl.trans hC with
  | [c0, c1, c2, c3], _ =>
    match xs, hlen with
    | [y0, y1, y2, y3], _ =>
      have g0 : DataW.trod enc P w base spare held n f0.type [c0] = some y0 := by simpa [o0, k0] using hg 0 f0 rfl
      have g1 : DataW.trod enc P w base spare held n f1.type [c1] = some y1 := by simpa [o1, k1] using hg 1 f1 rfl
      have g2 : DataW.trod enc P w base spare held n f2.type [c2] = some y2 := by simpa [o2, k2] using hg 2 f2 rfl
      have g3 : DataW.trod enc P w base spare held n f3.type [c3] = some y3 := by simpa [o3, k3] using hg 3 f3 rfl
      obtain ⟨a0, e0, q0⟩ := h0 enc w base spare held n _ _ g0
      obtain ⟨a1, e1, q1⟩ := h1 enc w base spare held n _ _ g1
      obtain ⟨a2, e2, q2⟩ := h2 enc w base spare held n _ _ g2
      obtain ⟨a3, e3, q3⟩ := h3 enc w base spare held n _ _ g3
      exact ⟨(a0, a1, a2, a3), ⟨[c0], [c1, c2, c3], rfl, e0, [c1], [c2, c3], rfl, e1, [c2], [c3], rfl, e2, e3⟩, q0, q1, q2, q3⟩
/-- An argument that is a struct: its cells. -/
theorem agg_of {P : Program} {H : Type} {enc : TypeId × Value → H} {w : World} {base b0 : Nat} {spare : Nat → Bool} {held : Bool} {r : Reach} {α : Type} {d : Kd α} {Q : α → Prop} {t : TypeId} {fs : Array Field} {v : Value} {y : DataW H} {p : List MemPlace}
    (hs : P.underlying t = some (.struct fs)) (hv : Value.okWide P w r b0 t v) (h : DataW.Trod enc P w base spare held t v y p) (hd : Rd P d Q t) : ∃ a cs, v = .agg cs ∧ d.K w a cs.toList ∧ Q a := by
  obtain ⟨cs, rfl, hsz⟩ := okWide_struct hs hv
  obtain ⟨fuel, hf⟩ := h
  obtain ⟨a, hk, hq⟩ := hd enc w base spare held fuel _ _ hf
  exact ⟨a, cs, rfl, by simpa [Value.cells] using hk, hq⟩
/-- An argument that is a slice. -/
theorem slice_of {P : Program} {H : Type} {enc : TypeId × Value → H} {w : World} {base b0 : Nat} {spare : Nat → Bool} {held : Bool} {r : Reach} {α : Type} {d : Kd α} {Q : α → Prop} {t e : TypeId} {v : Value} {y : DataW H} {p : List MemPlace}
    (hs : P.underlying t = some (.slice e)) (hsz : P.cellsOf e = d.sz) (hv : Value.okWide P w r b0 t v) (h : DataW.Trod enc P w base spare held t v y p) (hd : Rd P d Q e) :
    ∃ (A : Option Addr) (c : Nat) (l : List α), v = .slice A l.length c ∧ l.length ≤ c ∧ Kd.C d w A l.length l ∧ l.length ≤ 9223372036854775807 ∧ ∀ x ∈ l, Q x := by
  obtain ⟨a, len, cap, rfl⟩ := okWide_slice hs hv
  obtain ⟨fuel, hf⟩ := h
  obtain ⟨l, ⟨A, c, hcs, hl, hC⟩, hq⟩ := rd_slice hs hsz hd enc w base spare held fuel _ _ hf
  simp only [Value.cells, List.cons.injEq, and_true] at hcs
  exact ⟨A, c, l, by simpa using hcs, hl, hC, hq⟩
end Go.Proofs.Ytpjikgeglhjehaa.Op
