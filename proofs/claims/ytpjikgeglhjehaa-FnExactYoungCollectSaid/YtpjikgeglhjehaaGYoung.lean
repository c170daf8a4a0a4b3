/- Texts of this claim, merged by merge.py (a program of this session's): the kit's printed words, where used; what functions come to; the plain law. -/
import Derived.Below
import Derived.ChangeOld
import Derived.ChangeSame
import Derived.Deep.Fields
import Derived.Deep.Slices
import Derived.Lib.SmallJoins
import Derived.OpenShut
import Derived.ProofKit
import Derived.ShutString
import Derived.Test.YtpjikgeglhjehaaGYoung1
import Derived.Test.YtpjikgeglhjehaaGYoung2
import Derived.Test.YtpjikgeglhjehaaGYoung3
import Derived.Test.YtpjikgeglhjehaaGYoung4
import Derived.Test.YtpjikgeglhjehaaGYoung5
import Derived.Test.YtpjikgeglhjehaaGYoung6
import Derived.Test.YtpjikgeglhjehaaGYoung7
import Derived.Test.YtpjikgeglhjehaaRows
import Derived.WalkKit
/- How data that is read (as the row's form reads it) stands as values of the print's kinds: numbers, bools, strings, structs of one-cell fields, slices of these. No condition beyond the types' own shapes. -/
namespace Go.Proofs.Ytpjikgeglhjehaa.Op
open Go.RowKit Go.Proofs.YtpjikgeglhjehaaW.PrintWords Go.Proofs.YtpjikgeglhjehaaW.PrintLast Go.ChangeShapes Go.WideShapes Go.Deep
set_option linter.unusedVariables false
def I64 (x : Int) : Prop := -9223372036854775808 ≤ x ∧ x ≤ 9223372036854775807
theorem i64_of {x : Int} (h : (Lit.int .i64 x).wf = true) : I64 x := by
  simp only [Lit.wf, Bool.and_eq_true, decide_eq_true_eq] at h
  simp only [IntKind.min, IntKind.max, IntKind.signed, IntKind.bits] at h
  unfold I64
  constructor
  · have := h.1; simpa using this
  · have := h.2; simp at this; omega
/-- What reads as data of type t stands as a value of kind d. -/
def Rd {α : Type} (P : Program) (d : Kd α) (Q : α → Prop) (t : TypeId) : Prop :=
  ∀ {H : Type} (enc : TypeId × Value → H) (w : World) (base : Nat) (spare : Nat → Bool) (held : Bool) (fuel : Nat) (cs : List Value) (x : DataW H × List MemPlace),
    DataW.trod enc P w base spare held fuel t cs = some x → ∃ a, d.K w a cs ∧ Q a
theorem rd_i64 {P : Program} {t : TypeId} (ht : P.underlying t = some (.int .i64)) : Rd P (Kd.int .i64) I64 t := fun enc w base spare held fuel cs x h => by
  obtain ⟨n, rfl, _, hw⟩ := DataW.trod_int ht h
  exact ⟨n, rfl, i64_of hw⟩
theorem rd_bool {P : Program} {t : TypeId} (ht : P.underlying t = some .bool) : Rd P Kd.bool (fun _ => True) t := fun enc w base spare held fuel cs x h => by
  obtain ⟨n, rfl, _⟩ := DataW.trod_bool ht h
  exact ⟨n, rfl, trivial⟩
theorem rd_slice {P : Program} {α : Type} {d : Kd α} {Q : α → Prop} {t e : TypeId} (ht : P.underlying t = some (.slice e)) (hsz : P.cellsOf e = d.sz) (hd : Rd P d Q e) :
    Rd P (Kd.slice e d) (fun l => l.length ≤ 9223372036854775807 ∧ ∀ x ∈ l, Q x) t := fun enc w base spare held fuel cs x h => by
  rcases open_slice ht h with ⟨rfl, _⟩ | ⟨a, len, cap, m, n, D, Pl, rfl, _, hl, hm, hmm, _, hi⟩
  · exact ⟨[], ⟨none, 0, rfl, Nat.le_refl _, rfl, by simp, fun h => absurd h (by simp)⟩, by simp, by simp⟩
  · have hlm : len ≤ m := by rw [hmm]; split <;> omega
    have hex : ∀ i, i < len → ∃ p : α × List Value, d.K w p.1 p.2 ∧ Q p.1 ∧ p.2.length = d.sz ∧ ∀ j u, p.2[j]? = some u → w.cell? (a.add (i * d.sz + j)) = some u := by
      intro i hlt
      obtain ⟨cs', hc, ht'⟩ := hi i (by omega)
      obtain ⟨x, hk, hq⟩ := hd enc w base spare held n cs' _ ht'
      obtain ⟨_, hcl, hat⟩ := World.cells?_some hc
      rw [hsz] at hcl hat
      refine ⟨(x, cs'), hk, hq, hcl, fun j u hu => ?_⟩
      have hj : j < d.sz := by rw [← hcl]; exact (List.getElem?_eq_some_iff.1 hu).1
      have := hat j hj
      rw [Go.Deep.add_add] at this
      rw [this, hu]
    have hml : (maxLen : Nat) ≤ 9223372036854775807 := by unfold maxLen; omega
    cases len with
    | zero => exact ⟨[], ⟨some a, cap, rfl, Nat.zero_le _, rfl, by simp, fun h => absurd h (by simp)⟩, by simp, by simp⟩
    | succ len =>
      obtain ⟨p0, _⟩ := hex 0 (by omega)
      haveI : Inhabited (α × List Value) := ⟨p0⟩
      obtain ⟨f, hf⟩ := choose_lt hex
      refine ⟨(List.range (len + 1)).map fun i => (f i).1, ⟨some a, cap, by simp, by simpa using hl, by simp, by simp; omega, fun _ => ⟨a, rfl, ?_⟩⟩, by simp; omega, ?_⟩
      · intro j p hj
        have hlt : j < len + 1 := by
          have := (List.getElem?_eq_some_iff.1 hj).1
          simpa using this
        have hp : p = (f j).1 := by
          rw [List.getElem?_map, List.getElem?_range hlt] at hj
          simpa using hj.symm
        subst hp
        obtain ⟨h1, h2, h3, h4⟩ := hf j hlt
        exact ⟨(f j).2, h3, h1, h4⟩
      · intro x hx
        obtain ⟨i, hi1, rfl⟩ := List.mem_map.1 hx
        exact (hf i (by simpa using hi1)).2.1
theorem rd_iso {P : Program} {α β : Type} {d : Kd α} {Q : α → Prop} {t : TypeId} (f : β → α) (g : α → β) (hfg : ∀ a, f (g a) = a) (hd : Rd P d Q t) : Rd P (Kd.iso d f) (fun b => Q (f b)) t := fun enc w base spare held fuel cs x h => by
  obtain ⟨a, hk, hq⟩ := hd enc w base spare held fuel cs x h
  exact ⟨g a, by show d.K w (f (g a)) cs; rw [hfg]; exact hk, by show Q (f (g a)); rw [hfg]; exact hq⟩
theorem rd_struct4 {P : Program} {α0 α1 α2 α3 : Type} {d0 : Kd α0} {d1 : Kd α1} {d2 : Kd α2} {d3 : Kd α3} {Q0 : α0 → Prop} {Q1 : α1 → Prop} {Q2 : α2 → Prop} {Q3 : α3 → Prop} {t : TypeId} {f0 f1 f2 f3 : Field} (hs : P.underlying t = some (.struct #[f0, f1, f2, f3]))
    (hone : oneCellFields P #[f0, f1, f2, f3] = true) (hC : P.cellsOf t = 4) (h0 : Rd P d0 Q0 f0.type) (h1 : Rd P d1 Q1 f1.type) (h2 : Rd P d2 Q2 f2.type) (h3 : Rd P d3 Q3 f3.type) :
    Rd P (Kd.pair d0 (Kd.pair d1 (Kd.pair d2 d3))) (fun x => Q0 x.1 ∧ Q1 x.2.1 ∧ Q2 x.2.2.1 ∧ Q3 x.2.2.2) t := fun enc w base spare held fuel cs x h => by
  obtain ⟨xs, n, _, hx, hl, hlen, hg⟩ := DataW.trod_struct hs h
  obtain ⟨o0, k0⟩ := hone_of hone 0 f0 rfl
  obtain ⟨o1, k1⟩ := hone_of hone 1 f1 rfl
  obtain ⟨o2, k2⟩ := hone_of hone 2 f2 rfl
  obtain ⟨o3, k3⟩ := hone_of hone 3 f3 rfl
  match cs, hl.trans hC with
  | [c0, c1, c2, c3], _ =>
    match xs, hlen with
    | [y0, y1, y2, y3], _ =>
      have g0 : DataW.trod enc P w base spare held n f0.type [c0] = some y0 := by simpa [o0, k0] using hg 0 f0 rfl
      have g1 : DataW.trod enc P w base spare held n f1.type [c1] = some y1 := by simpa [o1, k1] using hg 1 f1 rfl
      have g2 : DataW.trod enc P w base spare held n f2.type [c2] = some y2 := by simpa [o2, k2] using hg 2 f2 rfl
      have g3 : DataW.trod enc P w base spare held n f3.type [c3] = some y3 := by simpa [o3, k3] using hg 3 f3 rfl
      obtain ⟨a0, e0, q0⟩ := h0 enc w base spare held n _ _ g0
      obtain ⟨a1, e1, q1⟩ := h1 enc w base spare held n _ _ g1
      obtain ⟨a2, e2, q2⟩ := h2 enc w base spare held n _ _ g2
      obtain ⟨a3, e3, q3⟩ := h3 enc w base spare held n _ _ g3
      exact ⟨(a0, a1, a2, a3), ⟨[c0], [c1, c2, c3], rfl, e0, [c1], [c2, c3], rfl, e1, [c2], [c3], rfl, e2, e3⟩, q0, q1, q2, q3⟩
/-- An argument that is a struct: its cells. -/
theorem agg_of {P : Program} {H : Type} {enc : TypeId × Value → H} {w : World} {base b0 : Nat} {spare : Nat → Bool} {held : Bool} {r : Reach} {α : Type} {d : Kd α} {Q : α → Prop} {t : TypeId} {fs : Array Field} {v : Value} {y : DataW H} {p : List MemPlace}
    (hs : P.underlying t = some (.struct fs)) (hv : Value.okWide P w r b0 t v) (h : DataW.Trod enc P w base spare held t v y p) (hd : Rd P d Q t) : ∃ a cs, v = .agg cs ∧ d.K w a cs.toList ∧ Q a := by
  obtain ⟨cs, rfl, hsz⟩ := okWide_struct hs hv
  obtain ⟨fuel, hf⟩ := h
  obtain ⟨a, hk, hq⟩ := hd enc w base spare held fuel _ _ hf
  exact ⟨a, cs, rfl, by simpa [Value.cells] using hk, hq⟩
end Go.Proofs.Ytpjikgeglhjehaa.Op
/- The one pure statement that FnExactYoungCollect comes to (told by wp.py, a program of this session's). -/
namespace Go.Proofs.Ytpjikgeglhjehaa.PH
open Go.RowKit Go.Proofs.YtpjikgeglhjehaaW.PrintWords Go.Proofs.YtpjikgeglhjehaaW.PrintLast
namespace StFnExactYoungCollect
def Q65 (x : S65) : Prop := True ∧ Op.I64 x.f1 ∧ Op.I64 x.f2 ∧ Op.I64 x.f3
/-- THE ONE PURE STATEMENT of FnExactYoungCollect. -/
def Pure : Prop := ∀ (a0_0 : Int) (l0_1 : List (S65)) (l0_2 : List Int) (l0_3 : List Int), Op.I64 a0_0 → l0_1.length ≤ 9223372036854775807 → (∀ x ∈ l0_1, Q65 x) → l0_2.length ≤ 9223372036854775807 → (∀ x ∈ l0_2, Op.I64 x) → l0_3.length ≤ 9223372036854775807 → (∀ x ∈ l0_3, Op.I64 x) → ∃ k, laws_FnExactYoungCollect.f k a0_0 l0_1 l0_2 l0_3 = some true
end StFnExactYoungCollect
end Go.Proofs.Ytpjikgeglhjehaa.PH
/- Small plain words: 'from some number of rounds on' (Ev), the wrap of a number that is in range, a list read by an Int index. -/
namespace Go.Proofs.Ytpjikgeglhjehaa.Pl
open Go.RowKit Go.Proofs.YtpjikgeglhjehaaW.PrintWords Go.Proofs.YtpjikgeglhjehaaW.PrintLast
set_option linter.unusedVariables false
theorem w64 {x : Int} (h0 : -9223372036854775808 ≤ x) (h1 : x ≤ 9223372036854775807) : wrap64 x = x := by unfold wrap64; omega
theorem Ev.succ {α : Type} {g : Nat → Option α} {r : α} (h : Ev (fun k => g (k + 1)) r) : Ev g r := by
  obtain ⟨K, h⟩ := h
  refine ⟨K + 1, fun n hn => ?_⟩
  obtain ⟨m, rfl⟩ : ∃ m, n = m + 1 := ⟨n - 1, by omega⟩
  exact h m (by omega)
theorem Ev.const {α : Type} {o : Option α} {r : α} (h : o = some r) : Ev (fun _ => o) r := ⟨0, fun _ _ => h⟩
theorem Ev.bnd {α β : Type} {g : Nat → Option α} {f : Nat → α → Option β} (a : α) {r : β} (h : Ev g a) (k : Ev (fun n => f n a) r) : Ev (fun n => (g n).bind (f n)) r := Ev.bind h k
theorem Ev.eq {α : Type} {g : Nat → Option α} {r r' : α} (h : Ev g r) (e : r = r') : Ev g r' := e ▸ h
theorem drop_rd (l : List Int) (i : Nat) (h : i < l.length) : l.drop i = rd l (i : Int) :: l.drop (i + 1) := by
  rw [List.drop_eq_getElem_cons h]
  simp [rd, List.getD_eq_getElem?_getD, List.getElem?_eq_getElem h]
theorem drop_getD {α : Type} (l : List α) (z : α) (i : Nat) (h : i < l.length) : l.drop i = l.getD (i : Int).toNat z :: l.drop (i + 1) := by
  rw [List.drop_eq_getElem_cons h]
  simp [List.getD_eq_getElem?_getD, List.getElem?_eq_getElem h]
theorem rd_mem (l : List Int) (i : Int) (h0 : 0 ≤ i) (h : i < (l.length : Int)) : rd l i ∈ l := by
  have : i.toNat < l.length := by omega
  simp [rd, List.getD_eq_getElem?_getD, List.getElem?_eq_getElem this]
/-- A row that is filled from the front: what is filled, and what is as it was. -/
theorem set_fill {α : Type} (a b : List α) (x y : α) : (a ++ y :: b).set a.length x = (a ++ [x]) ++ b := by simp
theorem fill_set {β : Type} (m : List β) (z : β) (i d : Nat) (x : β) (h : i + (d + 1) = m.length) (hx : m[i]? = some x) : (m.take i ++ List.replicate (d + 1) z).set i x = m.take (i + 1) ++ List.replicate d z := by
  have hl : (m.take i).length = i := by simp; omega
  rw [List.replicate_succ]
  have := set_fill (m.take i) (List.replicate d z) x z
  rw [hl] at this
  rw [this]
  congr 1
  rw [List.take_add_one, hx]
  rfl
theorem len_fill {β : Type} (m : List β) (z : β) (i d : Nat) (h : i + d = m.length) : ((m.take i ++ List.replicate d z).length : Int) = (m.length : Int) := by simp; omega
theorem rd_some (l : List Int) (i : Nat) (h : i < l.length) : l[i]? = some (rd l (i : Int)) := by
  simp [rd, List.getD_eq_getElem?_getD, List.getElem?_eq_getElem h]
theorem getD_some {α : Type} (l : List α) (z : α) (i : Nat) (h : i < l.length) : l[i]? = some (l.getD (i : Int).toNat z) := by
  simp [List.getD_eq_getElem?_getD, List.getElem?_eq_getElem h]
end Go.Proofs.Ytpjikgeglhjehaa.Pl
/- Plain law: GoodYoung as the program and as the reference have it are one; what is copied is as it was. -/
namespace Go.Proofs.Ytpjikgeglhjehaa.Pl
open Go.RowKit Go.Proofs.Ytpjikgeglhjehaa.PH Go.Proofs.YtpjikgeglhjehaaW.PrintWords Go.Proofs.YtpjikgeglhjehaaW.PrintLast
set_option linter.unusedVariables false
set_option linter.unusedSimpArgs false
theorem toIntS_ev (l : List Int) (h : l.length ≤ 1048576) : Ev (fun k => laws_toIntS.f k l) l := by
  have key : ∀ d i : Nat, i + d = l.length → Ev (fun k => laws_toIntS.l0 k l (l.take i ++ List.replicate d 0) (i : Int)) l := by
    intro d
    induction d with
    | zero =>
      intro i hi
      refine Ev.succ ?_
      simp only [laws_toIntS.l0, if_neg (show ¬ (i : Int) < (l.length : Int) by omega)]
      exact Ev.const (by simp [List.take_of_length_le (show l.length ≤ i by omega)])
    | succ d ih =>
      intro i hi
      refine Ev.succ ?_
      simp only [laws_toIntS.l0, len_fill l 0 i (d + 1) hi, if_pos (show (i : Int) < (l.length : Int) by omega), if_pos (show (0 : Int) ≤ (i : Int) by omega),
        show wrap64 ((i : Int) + 1) = ((i + 1 : Nat) : Int) from by rw [w64 (by omega) (by omega)]; rfl, Int.toNat_natCast, fill_set l 0 i d _ hi (rd_some l i (by omega))]
      exact ih (i + 1) (by omega)
  unfold laws_toIntS.f
  simp only [if_pos (show (0 : Int) ≤ (l.length : Int) by omega), Int.toNat_natCast, if_pos (show l.length ≤ 35184372088832 by omega)]
  have := key l.length 0 (by omega)
  simpa using this
def cell (x : S65) : S46 := ⟨x.f0, x.f1, x.f2, x.f3⟩
theorem toCellS_ev (l : List S65) (h : l.length ≤ 1048576) : Ev (fun k => laws_toCellS.f k l) (l.map cell) := by
  have key : ∀ d i : Nat, i + d = (l.map cell).length → Ev (fun k => laws_toCellS.l0 k l ((l.map cell).take i ++ List.replicate d z46) (i : Int)) (l.map cell) := by
    intro d
    induction d with
    | zero =>
      intro i hi
      have hm : (l.map cell).length = l.length := by simp
      refine Ev.succ ?_
      simp only [laws_toCellS.l0, if_neg (show ¬ (i : Int) < (l.length : Int) by omega)]
      exact Ev.const (by rw [List.take_of_length_le (show (l.map cell).length ≤ i by omega)]; simp)
    | succ d ih =>
      intro i hi
      have hm : (l.map cell).length = l.length := by simp
      have hx : (l.map cell)[i]? = some ⟨(rd_T65 l i).f0, (rd_T65 l i).f1, (rd_T65 l i).f2, (rd_T65 l i).f3⟩ := by
        rw [List.getElem?_map, getD_some l z65 i (by omega)]
        rfl
      refine Ev.succ ?_
      simp only [laws_toCellS.l0, laws_toCell.f, Option.bind_some, len_fill (l.map cell) z46 i (d + 1) hi, if_pos (show (i : Int) < (l.length : Int) by omega), if_pos (show (i : Int) < ((l.map cell).length : Int) by omega), if_pos (show (0 : Int) ≤ (i : Int) by omega),
        show wrap64 ((i : Int) + 1) = ((i + 1 : Nat) : Int) from by rw [w64 (by omega) (by omega)]; rfl, Int.toNat_natCast, fill_set (l.map cell) z46 i d _ hi hx]
      exact ih (i + 1) (by omega)
  unfold laws_toCellS.f
  simp only [if_pos (show (0 : Int) ≤ (l.length : Int) by omega), Int.toNat_natCast, if_pos (show l.length ≤ 8796093022208 by omega)]
  have := key l.length 0 (by simp)
  simpa using this
theorem toYoung_ev (o : Int) (c : List S65) (r n : List Int) (hc : c.length ≤ 1048576) (hr : r.length ≤ 1048576) (hn : n.length ≤ 1048576) : Ev (fun k => laws_toYoung.f k o c r n) (o, c.map cell, r, n) := by
  unfold laws_toYoung.f
  refine Ev.bnd _ (toCellS_ev c hc) (Ev.bnd _ (toIntS_ev r hr) (Ev.bnd _ (toIntS_ev n hn) (Ev.const rfl)))
theorem eqIntS_ev (l : List Int) (h : l.length ≤ 1048576) : Ev (fun k => laws_eqIntS.f k l l) true := by
  have key : ∀ d i : Nat, i + d = l.length → Ev (fun k => laws_eqIntS.l0 k l l (i : Int)) true := by
    intro d
    induction d with
    | zero =>
      intro i hi
      refine Ev.succ ?_
      simp only [laws_eqIntS.l0, if_neg (show ¬ (i : Int) < (l.length : Int) by omega)]
      exact Ev.const rfl
    | succ d ih =>
      intro i hi
      refine Ev.succ ?_
      simp only [laws_eqIntS.l0, if_pos (show (i : Int) < (l.length : Int) by omega), if_pos (show (0 : Int) ≤ (i : Int) by omega), if_true,
        show wrap64 ((i : Int) + 1) = ((i + 1 : Nat) : Int) from by rw [w64 (by omega) (by omega)]; rfl]
      exact ih (i + 1) (by omega)
  unfold laws_eqIntS.f
  simp only [if_true]
  exact key l.length 0 (by omega)
theorem eqCellS_ev (l : List S46) (h : l.length ≤ 1048576) : Ev (fun k => laws_eqCellS.f k l l) true := by
  have key : ∀ d i : Nat, i + d = l.length → Ev (fun k => laws_eqCellS.l0 k l l (i : Int)) true := by
    intro d
    induction d with
    | zero =>
      intro i hi
      refine Ev.succ ?_
      simp only [laws_eqCellS.l0, if_neg (show ¬ (i : Int) < (l.length : Int) by omega)]
      exact Ev.const rfl
    | succ d ih =>
      intro i hi
      refine Ev.succ ?_
      simp only [laws_eqCellS.l0, laws_eqCell.f, bne_self_eq_false, Bool.false_eq_true, if_false, Option.bind_some, if_pos (show (i : Int) < (l.length : Int) by omega), if_pos (show (0 : Int) ≤ (i : Int) by omega), if_true,
        show wrap64 ((i : Int) + 1) = ((i + 1 : Nat) : Int) from by rw [w64 (by omega) (by omega)]; rfl]
      exact ih (i + 1) (by omega)
  unfold laws_eqCellS.f
  simp only [if_true]
  exact key l.length 0 (by omega)
theorem eqYoung_ev (o : Int) (c : List S46) (r n : List Int) (hc : c.length ≤ 1048576) (hr : r.length ≤ 1048576) (hn : n.length ≤ 1048576) : Ev (fun k => laws_eqYoung.f k o c r n o c r n) true := by
  unfold laws_eqYoung.f
  simp only [if_true]
  refine Ev.bnd _ (eqCellS_ev c hc) ?_
  simp only [if_true]
  refine Ev.bnd _ (eqIntS_ev r hr) ?_
  simp only [if_true]
  refine Ev.bnd _ (eqIntS_ev n hn) ?_
  exact Ev.const rfl
theorem has_ev (l : List Int) (x : Int) (h : l.length ≤ 1048576) : Ev (fun k => spec_lcHas.f k l x) (decide (x ∈ l)) := by
  have key : ∀ d i : Nat, i + d = l.length → Ev (fun k => spec_lcHas.l0 k x l (l.length : Int) (i : Int)) (decide (x ∈ l.drop i)) := by
    intro d
    induction d with
    | zero =>
      intro i hi
      refine Ev.succ ?_
      simp only [spec_lcHas.l0, if_neg (show ¬ (i : Int) < (l.length : Int) by omega)]
      exact Ev.const (by rw [List.drop_eq_nil_of_le (by omega)]; simp)
    | succ d ih =>
      intro i hi
      refine Ev.succ ?_
      rw [drop_rd l i (by omega)]
      simp only [spec_lcHas.l0, if_pos (show (i : Int) < (l.length : Int) by omega), if_pos (show (0 : Int) ≤ (i : Int) by omega),
        show wrap64 ((i : Int) + 1) = ((i + 1 : Nat) : Int) from by rw [w64 (by omega) (by omega)]; rfl]
      by_cases e : rd l (i : Int) = x
      · simp only [if_pos e]
        exact Ev.const (by simp [e])
      · simp only [if_neg e]
        refine Ev.eq (ih (i + 1) (by omega)) ?_
        simp [Ne.symm e]
  have := key l.length 0 (by omega)
  unfold spec_lcHas.f
  simpa using this
theorem contains_ev (l : List Int) (x : Int) (h : l.length ≤ 1048576) : Ev (fun k => slices_Contains_int_int.f k l x) (decide (x ∈ l)) := by
  have key : ∀ d i : Nat, i + d = l.length → ∃ r : Int, Ev (fun k => slices_Index_int_int.l0 k l x (l.length : Int) (i : Int)) r ∧ decide (r ≥ 0) = decide (x ∈ l.drop i) := by
    intro d
    induction d with
    | zero =>
      intro i hi
      refine ⟨-1, Ev.succ ?_, ?_⟩
      · simp only [slices_Index_int_int.l0, if_neg (show ¬ (i : Int) < (l.length : Int) by omega)]
        exact Ev.const rfl
      · rw [List.drop_eq_nil_of_le (by omega)]; simp
    | succ d ih =>
      intro i hi
      by_cases e : x = rd l (i : Int)
      · refine ⟨(i : Int), Ev.succ ?_, ?_⟩
        · simp only [slices_Index_int_int.l0, if_pos (show (i : Int) < (l.length : Int) by omega), if_pos (show (0 : Int) ≤ (i : Int) by omega), if_pos e]
          exact Ev.const rfl
        · rw [drop_rd l i (by omega)]; simp [← e]
      · obtain ⟨r, hr, hd⟩ := ih (i + 1) (by omega)
        refine ⟨r, Ev.succ ?_, ?_⟩
        · simp only [slices_Index_int_int.l0, if_pos (show (i : Int) < (l.length : Int) by omega), if_pos (show (0 : Int) ≤ (i : Int) by omega), if_neg e,
            show wrap64 ((i : Int) + 1) = ((i + 1 : Nat) : Int) from by rw [w64 (by omega) (by omega)]; rfl]
          exact hr
        · rw [drop_rd l i (by omega), hd]; simp [e]
  obtain ⟨r, hr, hd⟩ := key l.length 0 (by omega)
  unfold slices_Contains_int_int.f slices_Index_int_int.f
  refine Ev.bnd r hr (Ev.const ?_)
  rw [hd]; simp
def noteOk (o : Int) (n : List Int) (i : Nat) : Bool := decide (0 ≤ rd n i) && decide (rd n i < o) && (decide (i = 0) || decide (rd n ((i : Int) - 1) < rd n i))
def cellOk (o : Int) (m : Int) (n : List Int) (c : S46) (i : Nat) : Bool :=
  (if c.f0 then decide (c.f2 = 0) && decide (c.f3 = 0) else decide (c.f1 = 0) && (decide (0 ≤ c.f2) && decide (c.f2 < m)) && (decide (0 ≤ c.f3) && decide (c.f3 < m)))
  && (!(!c.f0 && decide ((i : Int) < o) && (decide (o ≤ c.f2) || decide (o ≤ c.f3))) || decide ((i : Int) ∈ n))
def allFrom {α : Type} (p : α → Nat → Bool) : List α → Nat → Bool
  | [], _ => true
  | x :: l, i => p x i && allFrom p l (i + 1)
def good (o : Int) (c : List S46) (r n : List Int) : Bool :=
  decide (c.length ≤ 200) && decide (r.length ≤ 60) && decide (0 ≤ o) && decide (o ≤ (c.length : Int)) && allFrom (fun _ i => noteOk o n i) n 0 && allFrom (cellOk o c.length n) c 0 && r.all (fun x => decide (0 ≤ x) && decide (x < (c.length : Int)))
theorem l1In_eq (a b c : Int) : spec_l1In.f a b c = some (decide (b ≤ a) && decide (a ≤ c)) := by
  unfold spec_l1In.f
  by_cases h : a ≥ b
  · rw [if_pos h]; simp [h]
  · rw [if_neg h]; simp; omega
theorem specRoots (o : Int) (c : List S46) (r n : List Int) (hr : r.length ≤ 1048576) (hc : c.length ≤ 200) :
    Ev (fun k => spec_GoodYoung.l2 k r (r.length : Int) 0 o c r n) (r.all (fun x => decide (0 ≤ x) && decide (x < (c.length : Int)))) := by
  have hcw : wrap64 ((c.length : Int) - 1) = (c.length : Int) - 1 := w64 (by omega) (by omega)
  have key : ∀ d i : Nat, i + d = r.length → Ev (fun k => spec_GoodYoung.l2 k r (r.length : Int) (i : Int) o c r n) ((r.drop i).all (fun x => decide (0 ≤ x) && decide (x < (c.length : Int)))) := by
    intro d
    induction d with
    | zero =>
      intro i hi
      refine Ev.succ ?_
      simp only [spec_GoodYoung.l2, if_neg (show ¬ (i : Int) < (r.length : Int) by omega)]
      exact Ev.const (by rw [List.drop_eq_nil_of_le (by omega)]; simp)
    | succ d ih =>
      intro i hi
      refine Ev.succ ?_
      rw [drop_rd r i (by omega), List.all_cons]
      simp only [spec_GoodYoung.l2, if_pos (show (i : Int) < (r.length : Int) by omega), if_pos (show (0 : Int) ≤ (i : Int) by omega), l1In_eq, hcw, Option.bind_some,
        show wrap64 ((i : Int) + 1) = ((i + 1 : Nat) : Int) from by rw [w64 (by omega) (by omega)]; rfl]
      have e : decide (rd r (i : Int) ≤ (c.length : Int) - 1) = decide (rd r (i : Int) < (c.length : Int)) := decide_eq_decide.2 (by omega)
      rw [e]
      cases hb : (decide (0 ≤ rd r (i : Int)) && decide (rd r (i : Int) < (c.length : Int))) with
      | false => exact Ev.const (by simp)
      | true =>
        simp only [if_true, Bool.true_and]
        exact ih (i + 1) (by omega)
  have := key r.length 0 (by omega)
  simpa using this
theorem specCells (o : Int) (c : List S46) (r n : List Int) (hr : r.length ≤ 1048576) (hn : n.length ≤ 1048576) (hc : c.length ≤ 200) :
    Ev (fun k => spec_GoodYoung.l1 k c (c.length : Int) 0 o c r n) (allFrom (cellOk o c.length n) c 0 && r.all (fun x => decide (0 ≤ x) && decide (x < (c.length : Int)))) := by
  have hcw : wrap64 ((c.length : Int) - 1) = (c.length : Int) - 1 := w64 (by omega) (by omega)
  have key : ∀ d i : Nat, i + d = c.length → Ev (fun k => spec_GoodYoung.l1 k c (c.length : Int) (i : Int) o c r n) (allFrom (cellOk o c.length n) (c.drop i) i && r.all (fun x => decide (0 ≤ x) && decide (x < (c.length : Int)))) := by
    intro d
    induction d with
    | zero =>
      intro i hi
      refine Ev.succ ?_
      simp only [spec_GoodYoung.l1, if_neg (show ¬ (i : Int) < (c.length : Int) by omega)]
      rw [List.drop_eq_nil_of_le (by omega)]
      simpa [allFrom] using specRoots o c r n hr hc
    | succ d ih =>
      intro i hi
      have hgo := ih (i + 1) (by omega)
      have hh := has_ev n (i : Int) hn
      refine Ev.succ ?_
      rw [drop_getD c z46 i (by omega)]
      simp only [allFrom]
      rw [Bool.and_assoc]
      generalize (allFrom (cellOk o c.length n) (c.drop (i + 1)) (i + 1) && r.all (fun x => decide (0 ≤ x) && decide (x < (c.length : Int)))) = T at hgo ⊢
      simp only [spec_GoodYoung.l1, rd_T46, if_pos (show (i : Int) < (c.length : Int) by omega), if_pos (show (0 : Int) ≤ (i : Int) by omega), l1In_eq, hcw, Option.bind_some,
        show wrap64 ((i : Int) + 1) = ((i + 1 : Nat) : Int) from by rw [w64 (by omega) (by omega)]; rfl]
      generalize c.getD (i : Int).toNat z46 = x at *
      have e2 : decide (x.f2 ≤ (c.length : Int) - 1) = decide (x.f2 < (c.length : Int)) := decide_eq_decide.2 (by omega)
      have e3 : decide (x.f3 ≤ (c.length : Int) - 1) = decide (x.f3 < (c.length : Int)) := decide_eq_decide.2 (by omega)
      rw [e2, e3]
      unfold cellOk
      cases x.f0 with
      | true =>
        simp only [if_true, Bool.not_true, Bool.false_and, Bool.not_false, Bool.true_or, Bool.and_true]
        by_cases h2 : x.f2 = 0
        · by_cases h3 : x.f3 = 0
          · simp only [if_pos h2, if_pos h3, decide_eq_true h2, decide_eq_true h3, Bool.true_and]
            exact hgo
          · simp only [if_pos h2, if_neg h3]
            exact Ev.const (by simp [h3])
        · simp only [if_neg h2]
          exact Ev.const (by simp [h2])
      | false =>
        simp only [Bool.false_eq_true, if_false, Bool.not_false, Bool.true_and]
        by_cases h1 : x.f1 = 0
        · simp only [if_pos h1, decide_eq_true h1, Bool.true_and]
          cases ha : (decide (0 ≤ x.f2) && decide (x.f2 < (c.length : Int))) with
          | false => exact Ev.const (by simp)
          | true =>
            simp only [if_true, Bool.true_and]
            cases hb : (decide (0 ≤ x.f3) && decide (x.f3 < (c.length : Int))) with
            | false => exact Ev.const (by simp)
            | true =>
              simp only [if_true, Bool.true_and]
              by_cases ho : (i : Int) < o
              · simp only [if_pos ho, decide_eq_true ho, Bool.true_and]
                by_cases h2 : x.f2 ≥ o
                · simp only [if_pos h2]
                  refine Ev.bnd _ hh ?_
                  have h2' : decide (o ≤ x.f2) = true := by simpa using h2
                  simp only [h2', Bool.true_or, Bool.not_true, Bool.false_or]
                  cases hm : decide ((i : Int) ∈ n) with
                  | false => exact Ev.const (by simp)
                  | true => simpa using hgo
                · have h2' : decide (o ≤ x.f2) = false := by simpa using h2
                  simp only [if_neg h2, h2', Bool.false_or]
                  by_cases h3 : x.f3 ≥ o
                  · simp only [if_pos h3]
                    refine Ev.bnd _ hh ?_
                    have h3' : decide (o ≤ x.f3) = true := by simpa using h3
                    simp only [h3', Bool.not_true, Bool.false_or]
                    cases hm : decide ((i : Int) ∈ n) with
                    | false => exact Ev.const (by simp)
                    | true => simpa using hgo
                  · have h3' : decide (o ≤ x.f3) = false := by simpa using h3
                    simp only [if_neg h3, h3', Bool.not_false, Bool.true_or, Bool.true_and]
                    exact hgo
              · have ho' : decide ((i : Int) < o) = false := by simpa using ho
                simp only [if_neg ho, ho', Bool.false_and, Bool.not_false, Bool.true_or, Bool.true_and]
                exact hgo
        · simp only [if_neg h1]
          exact Ev.const (by simp [h1])
  have := key c.length 0 (by omega)
  simpa using this
theorem specNotes (o : Int) (c : List S46) (r n : List Int) (hr : r.length ≤ 1048576) (hn : n.length ≤ 1048576) (hc : c.length ≤ 200) (h0 : 0 ≤ o) (ho : o ≤ (c.length : Int)) :
    Ev (fun k => spec_GoodYoung.l0 k n (n.length : Int) 0 o c r n) (allFrom (fun _ i => noteOk o n i) n 0 && (allFrom (cellOk o c.length n) c 0 && r.all (fun x => decide (0 ≤ x) && decide (x < (c.length : Int))))) := by
  have how : wrap64 (o - 1) = o - 1 := w64 (by omega) (by omega)
  have key : ∀ d i : Nat, i + d = n.length → Ev (fun k => spec_GoodYoung.l0 k n (n.length : Int) (i : Int) o c r n) (allFrom (fun _ i => noteOk o n i) (n.drop i) i && (allFrom (cellOk o c.length n) c 0 && r.all (fun x => decide (0 ≤ x) && decide (x < (c.length : Int))))) := by
    intro d
    induction d with
    | zero =>
      intro i hi
      refine Ev.succ ?_
      simp only [spec_GoodYoung.l0, if_neg (show ¬ (i : Int) < (n.length : Int) by omega)]
      rw [List.drop_eq_nil_of_le (by omega)]
      simpa [allFrom] using specCells o c r n hr hn hc
    | succ d ih =>
      intro i hi
      have hgo := ih (i + 1) (by omega)
      refine Ev.succ ?_
      rw [drop_rd n i (by omega)]
      simp only [allFrom]
      rw [Bool.and_assoc]
      generalize (allFrom (fun _ i => noteOk o n i) (n.drop (i + 1)) (i + 1) && (allFrom (cellOk o c.length n) c 0 && r.all (fun x => decide (0 ≤ x) && decide (x < (c.length : Int))))) = T at hgo ⊢
      simp only [spec_GoodYoung.l0, if_pos (show (i : Int) < (n.length : Int) by omega), if_pos (show (0 : Int) ≤ (i : Int) by omega), l1In_eq, how, Option.bind_some,
        show wrap64 ((i : Int) + 1) = ((i + 1 : Nat) : Int) from by rw [w64 (by omega) (by omega)]; rfl]
      have e : decide (rd n (i : Int) ≤ o - 1) = decide (rd n (i : Int) < o) := decide_eq_decide.2 (by omega)
      rw [e]
      unfold noteOk
      cases hb : (decide (0 ≤ rd n (i : Int)) && decide (rd n (i : Int) < o)) with
      | false => exact Ev.const (by simp)
      | true =>
        simp only [if_true, Bool.true_and]
        by_cases hi0 : i = 0
        · subst hi0
          simp only [if_neg (show ¬ ((0 : Nat) : Int) > 0 by omega), decide_true, Bool.true_or, Bool.true_and]
          exact hgo
        · have hw : wrap64 ((i : Int) - 1) = (i : Int) - 1 := w64 (by omega) (by omega)
          simp only [if_pos (show (i : Int) > 0 by omega), hw, if_pos (show (0 : Int) ≤ (i : Int) - 1 by omega), if_pos (show (i : Int) - 1 < (n.length : Int) by omega), decide_eq_false hi0, Bool.false_or]
          by_cases hge : rd n ((i : Int) - 1) ≥ rd n (i : Int)
          · simp only [if_pos hge]
            have : decide (rd n ((i : Int) - 1) < rd n (i : Int)) = false := by simpa using hge
            exact Ev.const (by rw [this]; simp)
          · simp only [if_neg hge]
            have : decide (rd n ((i : Int) - 1) < rd n (i : Int)) = true := by simpa using hge
            rw [this, Bool.true_and]
            exact hgo
  have := key n.length 0 (by omega)
  simpa using this
theorem specGood (o : Int) (c : List S46) (r n : List Int) (hcl : c.length ≤ 1048576) (hr : r.length ≤ 1048576) (hn : n.length ≤ 1048576) : Ev (fun k => spec_GoodYoung.f k o c r n) (good o c r n) := by
  unfold spec_GoodYoung.f good
  by_cases h1 : (c.length : Int) > 200
  · simp only [if_pos h1]
    exact Ev.const (by simp; omega)
  · have h1' : decide (c.length ≤ 200) = true := decide_eq_true (by omega)
    simp only [if_neg h1, h1', Bool.true_and]
    by_cases h2 : (r.length : Int) > 60
    · simp only [if_pos h2]
      exact Ev.const (by simp; omega)
    · have h2' : decide (r.length ≤ 60) = true := by simp; omega
      simp only [if_neg h2, h2', Bool.true_and, l1In_eq, Option.bind_some]
      cases hb : (decide (0 ≤ o) && decide (o ≤ (c.length : Int))) with
      | false => exact Ev.const (by simp)
      | true =>
        simp only [if_true, Bool.true_and]
        simp only [Bool.and_eq_true, decide_eq_true_eq] at hb
        refine Ev.eq (specNotes o c r n hr hn (by omega) hb.1 hb.2) ?_
        simp [Bool.and_assoc]
theorem isBelow_eq (a b : Int) : impl_isBelow.f a b = some (decide (0 ≤ a) && decide (a < b)) := by
  unfold impl_isBelow.f
  by_cases h : a ≥ 0
  · rw [if_pos h]; simp [h]
  · rw [if_neg h]; simp; omega
theorem implCells (o : Int) (c : List S46) (r n : List Int) (hn : n.length ≤ 1048576) (hc : c.length ≤ 200) :
    Ev (fun k => impl_GoodYoung.l1 k (c.length : Int) c (c.length : Int) 0 o c r n) (allFrom (cellOk o c.length n) c 0) := by
  have key : ∀ d i : Nat, i + d = c.length → Ev (fun k => impl_GoodYoung.l1 k (c.length : Int) c (c.length : Int) (i : Int) o c r n) (allFrom (cellOk o c.length n) (c.drop i) i) := by
    intro d
    induction d with
    | zero =>
      intro i hi
      refine Ev.succ ?_
      simp only [impl_GoodYoung.l1, if_neg (show ¬ (i : Int) < (c.length : Int) by omega)]
      rw [List.drop_eq_nil_of_le (by omega)]
      exact Ev.const rfl
    | succ d ih =>
      intro i hi
      have hgo := ih (i + 1) (by omega)
      have hh := contains_ev n (i : Int) hn
      refine Ev.succ ?_
      rw [show c.drop i = rd_T46 c (i : Int) :: c.drop (i + 1) from drop_getD c z46 i (by omega)]
      simp only [allFrom]
      generalize (allFrom (cellOk o c.length n) (c.drop (i + 1)) (i + 1)) = T at hgo ⊢
      simp only [impl_GoodYoung.l1, if_pos (show (i : Int) < (c.length : Int) by omega), if_pos (show (0 : Int) ≤ (i : Int) by omega),
        show wrap64 ((i : Int) + 1) = ((i + 1 : Nat) : Int) from by rw [w64 (by omega) (by omega)]; rfl]
      generalize rd_T46 c (i : Int) = x
      simp only [impl_isCell.f, impl_Young_namesYoung.f, isBelow_eq, Option.bind_some]
      unfold cellOk
      cases x.f0 with
      | true =>
        simp only [if_true, Bool.not_true, Bool.false_and, Bool.not_false, Bool.true_or, Bool.and_true]
        by_cases h2 : x.f2 = 0
        · by_cases h3 : x.f3 = 0
          · simp only [if_pos h2, decide_eq_true h2, decide_eq_true h3, Bool.true_and, Option.bind_some, show (x.f3 == 0) = true from by simp [h3], if_true, Bool.false_eq_true, if_false]
            by_cases ho : (i : Int) < o
            · simp only [if_pos ho]; exact hgo
            · simp only [if_neg ho]; exact hgo
          · simp only [if_pos h2, Option.bind_some, show (x.f3 == 0) = false from by simp [h3], Bool.false_eq_true, if_false]
            exact Ev.const (by simp [h3])
        · simp only [if_neg h2, Option.bind_some, Bool.false_eq_true, if_false]
          exact Ev.const (by simp [h2])
      | false =>
        simp only [Bool.false_eq_true, if_false, Bool.not_false, Bool.true_and]
        by_cases h1 : x.f1 = 0
        · simp only [if_pos h1, decide_eq_true h1, Bool.true_and]
          cases ha : (decide (0 ≤ x.f2) && decide (x.f2 < (c.length : Int))) with
          | false => exact Ev.const (by simp)
          | true =>
            simp only [if_true, Bool.true_and]
            cases hb : (decide (0 ≤ x.f3) && decide (x.f3 < (c.length : Int))) with
            | false => exact Ev.const (by simp)
            | true =>
              simp only [if_true, Bool.true_and, Option.bind_some]
              by_cases ho : (i : Int) < o
              · simp only [if_pos ho, decide_eq_true ho, Bool.true_and]
                by_cases h2 : x.f2 ≥ o
                · simp only [if_pos h2, Option.bind_some, if_true]
                  refine Ev.bnd _ hh ?_
                  have h2' : decide (o ≤ x.f2) = true := by simpa using h2
                  simp only [h2', Bool.true_or, Bool.not_true, Bool.false_or]
                  cases hm : decide ((i : Int) ∈ n) with
                  | false => exact Ev.const (by simp)
                  | true => simpa using hgo
                · have h2' : decide (o ≤ x.f2) = false := by simpa using h2
                  simp only [if_neg h2, h2', Bool.false_or, Option.bind_some]
                  by_cases h3 : x.f3 ≥ o
                  · have h3' : decide (o ≤ x.f3) = true := by simpa using h3
                    have h3'' : decide (x.f3 ≥ o) = true := by simpa using h3
                    simp only [h3', Bool.not_true, Bool.false_or, if_true]
                    refine Ev.bnd _ hh ?_
                    cases hm : decide ((i : Int) ∈ n) with
                    | false => exact Ev.const (by simp)
                    | true => simpa using hgo
                  · have h3' : decide (o ≤ x.f3) = false := by simpa using h3
                    have h3'' : decide (x.f3 ≥ o) = false := by simpa using h3
                    simp only [h3', Bool.not_false, Bool.true_or, Bool.true_and, Bool.false_eq_true, if_false]
                    exact hgo
              · have ho' : decide ((i : Int) < o) = false := by simpa using ho
                simp only [if_neg ho, ho', Bool.false_and, Bool.not_false, Bool.true_or, Bool.true_and]
                exact hgo
        · simp only [if_neg h1]
          exact Ev.const (by simp [h1])
  have := key c.length 0 (by omega)
  simpa using this
theorem implNotes (o : Int) (c : List S46) (r n : List Int) (hn : n.length ≤ 1048576) (hc : c.length ≤ 200) :
    Ev (fun k => impl_GoodYoung.l0 k (c.length : Int) n (n.length : Int) 0 o c r n) (allFrom (fun _ i => noteOk o n i) n 0 && allFrom (cellOk o c.length n) c 0) := by
  have key : ∀ d i : Nat, i + d = n.length → Ev (fun k => impl_GoodYoung.l0 k (c.length : Int) n (n.length : Int) (i : Int) o c r n) (allFrom (fun _ i => noteOk o n i) (n.drop i) i && allFrom (cellOk o c.length n) c 0) := by
    intro d
    induction d with
    | zero =>
      intro i hi
      refine Ev.succ ?_
      simp only [impl_GoodYoung.l0, if_neg (show ¬ (i : Int) < (n.length : Int) by omega)]
      rw [List.drop_eq_nil_of_le (by omega)]
      simpa [allFrom] using implCells o c r n hn hc
    | succ d ih =>
      intro i hi
      have hgo := ih (i + 1) (by omega)
      refine Ev.succ ?_
      rw [drop_rd n i (by omega)]
      simp only [allFrom]
      rw [Bool.and_assoc]
      generalize (allFrom (fun _ i => noteOk o n i) (n.drop (i + 1)) (i + 1) && allFrom (cellOk o c.length n) c 0) = T at hgo ⊢
      simp only [impl_GoodYoung.l0, if_pos (show (i : Int) < (n.length : Int) by omega), if_pos (show (0 : Int) ≤ (i : Int) by omega), isBelow_eq, Option.bind_some,
        show wrap64 ((i : Int) + 1) = ((i + 1 : Nat) : Int) from by rw [w64 (by omega) (by omega)]; rfl]
      unfold noteOk
      cases hb : (decide (0 ≤ rd n (i : Int)) && decide (rd n (i : Int) < o)) with
      | false => exact Ev.const (by simp)
      | true =>
        simp only [if_true, Bool.true_and]
        by_cases hi0 : i = 0
        · subst hi0
          simp only [if_neg (show ¬ ((0 : Nat) : Int) > 0 by omega), decide_true, Bool.true_or, Bool.true_and]
          exact hgo
        · have hw : wrap64 ((i : Int) - 1) = (i : Int) - 1 := w64 (by omega) (by omega)
          simp only [if_pos (show (i : Int) > 0 by omega), hw, if_pos (show (0 : Int) ≤ (i : Int) - 1 by omega), if_pos (show (i : Int) - 1 < (n.length : Int) by omega), decide_eq_false hi0, Bool.false_or]
          by_cases hge : rd n ((i : Int) - 1) ≥ rd n (i : Int)
          · simp only [if_pos hge]
            have : decide (rd n ((i : Int) - 1) < rd n (i : Int)) = false := by simpa using hge
            exact Ev.const (by rw [this]; simp)
          · simp only [if_neg hge]
            have : decide (rd n ((i : Int) - 1) < rd n (i : Int)) = true := by simpa using hge
            rw [this, Bool.true_and]
            exact hgo
  have := key n.length 0 (by omega)
  simpa using this
theorem implGood (o : Int) (c : List S46) (r n : List Int) (hn : n.length ≤ 1048576) : Ev (fun k => impl_GoodYoung.f k o c r n) (good o c r n) := by
  have hj : ∀ m : Int, Ev (fun k => impl_GoodYoung.j0 k m true o c r n) false := fun m => by
    refine Ev.succ ?_
    simp only [impl_GoodYoung.j0, if_true]
    exact Ev.const rfl
  have hnot : ∀ r : List Int, (!r.any fun x => !(decide (x ≥ 0) && decide (x < (c.length : Int)))) = r.all fun x => decide (0 ≤ x) && decide (x < (c.length : Int)) := fun r => by
    induction r with
    | nil => rfl
    | cons x r ih => simp only [List.any_cons, List.all_cons, ← ih, Bool.not_or, Bool.not_not, ge_iff_le]
  unfold impl_GoodYoung.f good
  by_cases h1 : (c.length : Int) > 200
  · simp only [if_pos h1]
    exact Ev.eq (hj _) (by rw [decide_eq_false (show ¬ c.length ≤ 200 by omega)]; rfl)
  · have h1' : decide (c.length ≤ 200) = true := decide_eq_true (by omega)
    simp only [if_neg h1, h1', Bool.true_and]
    by_cases h2 : o < 0
    · simp only [if_pos h2]
      exact Ev.eq (hj _) (by simp [show ¬ 0 ≤ o by omega])
    · have h2' : decide (0 ≤ o) = true := decide_eq_true (by omega)
      by_cases h3 : o > (c.length : Int)
      · simp only [if_neg h2, if_pos h3]
        exact Ev.eq (hj _) (by simp [show ¬ o ≤ (c.length : Int) by omega])
      · have h3' : decide (o ≤ (c.length : Int)) = true := decide_eq_true (by omega)
        simp only [if_neg h2, if_neg h3, h2', h3', impl_areRoots.f, Option.bind_some, Bool.and_true, hnot]
        cases hr : (decide (r.length ≤ 60) && r.all fun x => decide (0 ≤ x) && decide (x < (c.length : Int))) with
        | false =>
          refine Ev.eq (hj _) ?_
          generalize r.all _ = R at hr ⊢
          generalize decide (r.length ≤ 60) = L at hr ⊢
          cases L <;> cases R <;> simp_all
        | true =>
          refine Ev.succ ?_
          simp only [impl_GoodYoung.j0, Bool.not_true, Bool.false_eq_true, if_false]
          refine Ev.eq (implNotes o c r n hn (by omega)) ?_
          simp only [Bool.and_eq_true] at hr
          rw [hr.1, hr.2]
          simp
end Go.Proofs.Ytpjikgeglhjehaa.Pl
namespace Go.Proofs.Ytpjikgeglhjehaa.PH
open Go.RowKit Go.Proofs.YtpjikgeglhjehaaW.PrintWords Go.Proofs.YtpjikgeglhjehaaW.PrintLast Go.Proofs.YtpjikgeglhjehaaW.PrintMore
attribute [local go_sem] max2_int min2_int max_two min_two max_three min_three max_four min_four   -- for this text's walks alone
set_option linter.unusedVariables false
set_option linter.unusedSimpArgs false
def spec_lhLive.l0 : Nat → List Bool → List Int → Int → Int → Int → List (S46) → List Int → List Int → Option (List Bool)
 | 0, _, _, _, _, _, _, _, _ => none
 | k + 1, x3, x11, x12, x13, x221000, x221001, x221002, x221003 => if x13 < x12 then (if 0 ≤ x13 then (if x13 < (x11.length : Int) then ((spec_lhMark.f k x221000 x221001 x221002 x221003 (rd x11 x13) x3 false).bind fun t225 => (spec_lhLive.l0 k t225 x11 x12 (wrap64 (x13 + 1)) x221000 x221001 x221002 x221003)) else (none)) else (none)) else (some x3)
def spec_lhLive.f (k : Nat) (a0_0 : Int) (l0_1 : List (S46)) (l0_2 : List Int) (l0_3 : List Int) : Option (List Bool) := if 0 ≤ (l0_1.length : Int) then (if ((l0_1.length : Int) : Int).toNat ≤ 281474976710656 then (spec_lhLive.l0 k (List.replicate ((l0_1.length : Int) : Int).toNat false) l0_2 (l0_2.length : Int) 0 a0_0 l0_1 l0_2 l0_3) else (none)) else (none)
theorem spec_lhLive.mono_l : ∀ k, (∀ y0 y1 y2 y3 y4 y5 y6 y7, LeO (spec_lhLive.l0 k y0 y1 y2 y3 y4 y5 y6 y7) (spec_lhLive.l0 (k + 1) y0 y1 y2 y3 y4 y5 y6 y7))
 | 0 => fun _ _ _ _ _ _ _ _ r h => by simp [spec_lhLive.l0] at h
 | k + 1 => by
  have ih0 := spec_lhLive.mono_l k
  ·intro y0 y1 y2 y3 y4 y5 y6 y7
   unfold spec_lhLive.l0
   repeat' first
   | (with_reducible exact ih0 _ _ _ _ _ _ _ _)
   | (with_reducible exact spec_lhMark.mono _ _ _ _ _ _ _ _)
   | (with_reducible exact LeO.refl _)
   | (with_reducible exact LeO.none _)
   | (with_reducible refine LeO.ite ?_ ?_)
   | (with_reducible refine LeO.bind ?_ (fun _ => ?_))
   | exact ih0 _ _ _ _ _ _ _ _
   | exact spec_lhMark.mono _ _ _ _ _ _ _ _
   | exact LeO.none _
   | refine LeO.ite ?_ ?_
   | refine LeO.bind ?_ (fun _ => ?_)
theorem spec_lhLive.mono : ∀ a0 a1 a2 a3 k, LeO (spec_lhLive.f k a0 a1 a2 a3) (spec_lhLive.f (k + 1) a0 a1 a2 a3) := by
 intro a0 a1 a2 a3 k
 have ih0 := spec_lhLive.mono_l k
 unfold spec_lhLive.f
 repeat' first
   | (with_reducible exact ih0 _ _ _ _ _ _ _ _)
   | (with_reducible exact spec_lhMark.mono _ _ _ _ _ _ _ _)
   | (with_reducible exact LeO.refl _)
   | (with_reducible exact LeO.none _)
   | (with_reducible refine LeO.ite ?_ ?_)
   | (with_reducible refine LeO.bind ?_ (fun _ => ?_))
   | exact ih0 _ _ _ _ _ _ _ _
   | exact spec_lhMark.mono _ _ _ _ _ _ _ _
   | exact LeO.none _
   | refine LeO.ite ?_ ?_
   | refine LeO.bind ?_ (fun _ => ?_)
set_option maxHeartbeats 8000000 in
set_option maxRecDepth 100000 in
theorem spec_lhLive.calls (k : Nat) (a0_0 : Int) (A0_1 : Option Addr) (c0_1 : Nat) (l0_1 : List (S46)) (A0_2 : Option Addr) (c0_2 : Nat) (l0_2 : List Int) (A0_3 : Option Addr) (c0_3 : Nat) (l0_3 : List Int) (r : List Bool) (w : World) (hr0_1 : Kd.C k46 w A0_1 l0_1.length l0_1) (hc0_1 : l0_1.length ≤ c0_1) (hr0_2 : Kd.C (Kd.int .i64) w A0_2 l0_2.length l0_2) (hc0_2 : l0_2.length ≤ c0_2) (hr0_3 : Kd.C (Kd.int .i64) w A0_3 l0_3.length l0_3) (hc0_3 : l0_3.length ≤ c0_3) (h : spec_lhLive.f k a0_0 l0_1 l0_2 l0_3 = some r) :
  Calls Try.prog 38 #[.agg #[.int .i64 a0_0, .slice A0_1 l0_1.length c0_1, .slice A0_2 l0_2.length c0_2, .slice A0_3 l0_3.length c0_3]] w fun e w' => ∃ v0_ : Value, e = .returned (v0_) ∧ Kd.R Kd.bool 4 w' w.heap.size (fun _ => True) v0_ r ∧ Below w.heap.size w w' := by
 have hu30 := Try.underlying30
 have HR0_1 := Aside0.mk hr0_1
 have HC0_1 := Aside0.mk hc0_1
 clear hr0_1 hc0_1
 have HR0_2 := Aside0.mk hr0_2
 have HC0_2 := Aside0.mk hc0_2
 clear hr0_2 hc0_2
 have HR0_3 := Aside0.mk hr0_3
 have HC0_3 := Aside0.mk hc0_3
 clear hr0_3 hc0_3
 have HB := Aside0.mk (Below.refl w.heap.size w)
 have H : (if 0 ≤ (l0_1.length : Int) then (if ((l0_1.length : Int) : Int).toNat ≤ 281474976710656 then (spec_lhLive.l0 k (List.replicate ((l0_1.length : Int) : Int).toNat false) l0_2 (l0_2.length : Int) 0 a0_0 l0_1 l0_2 l0_3) else (none)) else (none)) = some r := h
 clear h
 by_cases c2 : 0 ≤ (l0_1.length : Int)
 ·rw [if_pos c2] at H
  have c2b0 := eq_true c2
  have c2b1 : decide (0 ≤ (l0_1.length : Int)) = true := decide_eq_true c2
  clear c2
  by_cases c3 : ((l0_1.length : Int) : Int).toNat ≤ 281474976710656
  ·rw [if_pos c3] at H
   have c3b0 := eq_true c3
   have c3b1 : decide (((l0_1.length : Int) : Int).toNat ≤ 281474976710656) = true := decide_eq_true c3
   clear c3
   obtain ⟨y221, hy221⟩ : ∃ y_ : List Bool, y_ = (List.replicate ((l0_1.length : Int) : Int).toNat false) := ⟨_, rfl⟩
   replace H : (spec_lhLive.l0 k y221 l0_2 (l0_2.length : Int) 0 a0_0 l0_1 l0_2 l0_3) = some r := by first | (rw [hy221]; with_reducible exact H) | (have H2_ := (Option.bind_some _ _).symm.trans H; rw [hy221]; with_reducible exact H2_) | (have H2_ := (Option.bind_some _ _).symm.trans H; with_reducible exact H2_) | with_reducible exact H | (rw [hy221]; exact H) | exact H
   have Ny221 := Aside0.mk hy221
   clear hy221
   have H' := Aside0.mk H
   clear H
   go_enter Try.func38, Try.ntmps38
   go_wp2_with (first | ((with_reducible refine gate_dst (N := 1) rfl ?_); refine box_event ?hg (N := 1) ?hd (cs := #[.int .i64 a0_0, .slice A0_1 l0_1.length c0_1, .slice A0_2 l0_2.length c0_2, .slice A0_3 l0_3.length c0_3]) (t := 30) ?hr ?_; (case hd => rfl); (case hg => rfl); (case hr => first | (go_simp; done) | (go_simp; rfl)); intro gb220 hg w4 hbox hb; have n0_ := Aside0.mk (below_step pb_ hb); have n1_ := Aside0.mk (hbox); have n2_ := Aside0.mk ((by rw [hg]; exact (below_size pb_) : w.heap.size ≤ gb220)); have n3_ := Aside0.mk ((by rw [hg]; exact (below_size pb_) : w.heap.size ≤ gb220)); clear HB; have HB := n0_; have BK220 := n1_; have GW220 := n2_; have GE220 := n3_; clear n0_ n1_ n2_ n3_; clear hb hbox hg; have hcz5_0 := bc0 BK220.out; have hcz5_1 := bc1 BK220.out; have hcz5_2 := bc2 BK220.out; have hcz5_3 := bc3 BK220.out; have hfz5_0 := blk_frozen BK220.out 0; have hfz5_1 := blk_frozen BK220.out 1; have hfz5_2 := blk_frozen BK220.out 2; have hfz5_3 := blk_frozen BK220.out 3) | ((with_reducible refine gate_dst (N := 9) rfl ?_); refine Kd.R_make Kd.bool _ 4 rfl (N := 9) rfl 54 _ _ rfl (l0_1.length : Int) rfl rfl Try.underlying54 (.bool false) 1 info4 rfl (by decide) (by omega) false (ok := fun _ => True) (okp := fun _ => True) rfl (fun _ hk => hk) trivial (of_decide_eq_true (by first | (with_reducible assumption) | assumption)) (Nat.le_trans (Nat.mul_le_mul_right _ (of_decide_eq_true (by first | (with_reducible assumption) | assumption) : (l0_1.length : Int).toNat ≤ 281474976710656)) (by omega)) (Below.refl _ _) (Nat.le_refl _) ?_; intro v222 w6 ho7 hb hg_ hnew_; clear hg_ hnew_; (first | rw [← Ny221.out] at ho7 | (simp only [Int.reduceToNat] at ho7; rw [← Ny221.out] at ho7)); have n0_ := Aside0.mk (Kd.R_lower ho7 (below_size pb_)); have n1_ := Aside0.mk (blk_below (pk_ BK220.out) hb); have n2_ := Aside0.mk (below_step pb_ hb); clear BK220; clear HB; have HO223 := n0_; have BK220 := n1_; have HB := n2_; clear n0_ n1_ n2_; clear hb ho7; have hcz8_0 := bc0 BK220.out; have hcz8_1 := bc1 BK220.out; have hcz8_2 := bc2 BK220.out; have hcz8_3 := bc3 BK220.out; have hfz8_0 := blk_frozen BK220.out 0; have hfz8_1 := blk_frozen BK220.out 1; have hfz8_2 := blk_frozen BK220.out 2; have hfz8_3 := blk_frozen BK220.out 3))
   go_loopg [13] k (fun kq v13 w' => ∃ (x3_1 : List Bool) (x13_1 : Int), v13 = .int .i64 x13_1 ∧ Aside0 (spec_lhLive.l0 kq x3_1 l0_2 (l0_2.length : Int) x13_1 a0_0 l0_1 l0_2 l0_3 = some r) ∧ Aside0 (kq ≤ k) ∧ Aside0 (Kd.R Kd.bool 4 w' w.heap.size (fun _ => True) v222 x3_1) ∧ Aside0 (w'.heap[gb220]? = some (.cells #[.int .i64 a0_0, (.slice A0_1 l0_1.length c0_1), (.slice A0_2 l0_2.length c0_2), (.slice A0_3 l0_3.length c0_3)] 30 (0, 0))) ∧ Aside0 (Below w.heap.size w w'))
   case atStart => exact ⟨(y221), (0), (by first | rfl | (simp; done) | (simp [*]; done)), H', ⟨Nat.le_refl _⟩, ⟨by (with_reducible repeat (first | apply Kd.R_alloc | apply Kd.R_drewN | apply Kd.R_drew)); exact HO223.out⟩, ⟨pk_ BK220.out⟩, ⟨pb_⟩⟩
   case round =>
    clear H'
    try clear c2
    try clear c2b0
    try clear c2b1
    try clear p2
    try clear c3
    try clear c3b0
    try clear c3b1
    try clear hcz5_0
    try clear hcz5_1
    try clear hcz5_2
    try clear hcz5_3
    try clear hcz8_0
    try clear hcz8_1
    try clear hcz8_2
    try clear hcz8_3
    try clear hfz5_0
    try clear hfz5_1
    try clear hfz5_2
    try clear hfz5_3
    try clear hfz8_0
    try clear hfz8_1
    try clear hfz8_2
    try clear hfz8_3
    obtain ⟨x3_1, x13_1, rfl, HA, HK1, HO_3, BK220, HB⟩ := hrel
    cases gk with
    | zero => exact absurd HA.out (by simp [spec_lhLive.l0])
    | succ k1 =>
     have H := HA.out
     clear HA
     simp only [spec_lhLive.l0] at H
     by_cases c9 : x13_1 < (l0_2.length : Int)
     ·rw [if_pos c9] at H
      have c9b0 : decide (x13_1 < (l0_2.length : Int)) = true := decide_eq_true c9
      clear c9
      by_cases c10 : 0 ≤ x13_1
      ·rw [if_pos c10] at H
       have c10b0 : decide (0 ≤ x13_1) = true := decide_eq_true c10
       clear c10
       by_cases c11 : x13_1 < (l0_2.length : Int)
       ·rw [if_pos c11] at H
        have c11b0 : decide (x13_1 < (l0_2.length : Int)) = true := decide_eq_true c11
        clear c11
        replace H := Option.bind_eq_some_iff.mp H
        obtain ⟨t225, A120, H⟩ := H
        replace H : (spec_lhLive.l0 k1 t225 l0_2 (l0_2.length : Int) (wrap64 (x13_1 + 1)) a0_0 l0_1 l0_2 l0_3) = some r := H
        have A12 := Aside0.mk A120
        clear A120
        have H' := Aside0.mk H
        clear H
        have p224 : 0 ≤ (x13_1 : Int) := of_decide_eq_true (by first | (with_reducible assumption) | assumption)
        have q224 : x13_1 < (l0_2.length : Int) := of_decide_eq_true (by first | (with_reducible assumption) | assumption)
        obtain ⟨ad224, e224, hx224_0⟩ := Kd.at_int HR0_2.out x13_1 p224 q224
        cases e224
        replace hx224_0 := (HB.out.cell (World.block_lt_of_cell? w _ hx224_0)).trans hx224_0
        replace p224 := eq_true p224
        replace q224 := eq_true q224
        have hcz13_0 := bc0 BK220.out
        have hcz13_1 := bc1 BK220.out
        have hcz13_2 := bc2 BK220.out
        have hcz13_3 := bc3 BK220.out
        have hfz13_0 := blk_frozen BK220.out 0
        have hfz13_1 := blk_frozen BK220.out 1
        have hfz13_2 := blk_frozen BK220.out 2
        have hfz13_3 := blk_frozen BK220.out 3
        obtain ⟨Ao14, co14, eo14⟩ := Kd.R_slice HO_3.out
        subst eo14
        go_wp2_with (first | ((with_reducible refine gate_callee (f := 56) rfl ?_); refine goesL_ (some 20) rfl rfl Try.func56 (by kernel_rfl) rfl #[.agg #[.int .i64 a0_0, .slice A0_1 l0_1.length c0_1, .slice (some ad224) l0_2.length c0_2, .slice A0_3 l0_3.length c0_3], .int .i64 (rd l0_2 x13_1), .slice Ao14 x3_1.length co14, .bool false] rfl (by (try simp only [List.map_toArray, List.map_cons, List.map_nil]); first | done | rfl | (simp only [List.length_drop, List.length_take]; rfl)) ?_; (with_reducible refine (spec_lhMark.calls k1 a0_0 _ _ l0_1 _ _ l0_2 _ _ l0_3 (rd l0_2 x13_1) (fun k_ => some k_ = (.slice Ao14 x3_1.length co14 : Value).ownBlock) (.slice Ao14 x3_1.length co14) x3_1 false t225 w _ ?side1 ?side2 ?side3 ?side4 ?side5 ?side6 ?side7 ?side8 A12.out).mono ?_); (case side1 => exact pb_); (case side2 => exact Kd.C_kept_came k46_heap HR0_1.out pb_ (fun k_ hs_ => (fun e_ => Kd.R_base HO_3.out k_ e_.symm) hs_)); (case side3 => exact HC0_1.out); (case side4 => exact Kd.C_kept_came (Kd.heap_int .i64) HR0_2.out pb_ (fun k_ hs_ => (fun e_ => Kd.R_base HO_3.out k_ e_.symm) hs_)); (case side5 => exact HC0_2.out); (case side6 => exact Kd.C_kept_came (Kd.heap_int .i64) HR0_3.out pb_ (fun k_ hs_ => (fun e_ => Kd.R_base HO_3.out k_ e_.symm) hs_)); (case side7 => exact HC0_3.out); (case side8 => exact Kd.R_tight rfl HO_3.out); rintro e w15 ⟨rfl, hy0, hb, hkp⟩; refine ⟨_, rfl, ?_⟩; have n0_ := Aside0.mk (Kd.R_reok rfl hy0 (fun k_ e_ => HO_3.out.1 k_ e_)); have n1_ := Aside0.mk (blk_kept (pk_ BK220.out) hkp (fun hs_ => (fun e_ => (Kd.R_ne HO_3.out BK220.out (by decide)) e_) hs_)); have n2_ := Aside0.mk (hb); clear HO_3; clear BK220; clear HB; have HO_3 := n0_; have BK220 := n1_; have HB := n2_; clear n0_ n1_ n2_; (try clear hb); (try clear hkp); (try clear hy0)))
        go_roundg k1
        case measure => have := HK1.out; omega
        case rel => exact ⟨(t225), (wrap64 (x13_1 + 1)), (by first | rfl | (simp; done) | (simp [*]; done)), H', ⟨by have := HK1.out; omega⟩, ⟨by (with_reducible repeat (first | apply Kd.R_alloc | apply Kd.R_drewN | apply Kd.R_drew)); exact HO_3.out⟩, ⟨pk_ BK220.out⟩, ⟨pb_⟩⟩
       ·rw [if_neg c11] at H
        exact absurd H (by simp)
      ·rw [if_neg c10] at H
       exact absurd H (by simp)
     ·rw [if_neg c9] at H
      have c9b0 : decide (x13_1 < (l0_2.length : Int)) = false := decide_eq_false c9
      clear c9
      obtain rfl := Option.some.inj H
      go_wp2
      go_ret
      exact ⟨_, by first | rfl | (simp [errW_none, errW_some] <;> rfl) | (simp [*, errW_none, errW_some] <;> rfl), by (with_reducible repeat (first | apply Kd.R_alloc | apply Kd.R_drewN | apply Kd.R_drew)); exact HO_3.out, pb_⟩
  ·rw [if_neg c3] at H
   exact absurd H (by simp)
 ·rw [if_neg c2] at H
  exact absurd H (by simp)
end Go.Proofs.Ytpjikgeglhjehaa.PH
/- Plain law: what the program marks with a list of open cells is what the reference marks by calling itself: the cells that are reached. -/
namespace Go.Proofs.Ytpjikgeglhjehaa.Pl
open Go.RowKit Go.Proofs.Ytpjikgeglhjehaa.PH Go.Proofs.YtpjikgeglhjehaaW.PrintWords Go.Proofs.YtpjikgeglhjehaaW.PrintLast
set_option linter.unusedVariables false
set_option linter.unusedSimpArgs false
/-- Cells that may be walked: each pair names cells. -/
def Wf (c : List S46) : Prop := ∀ i : Int, 0 ≤ i → i < (c.length : Int) → (rd_T46 c i).f0 = false → (0 ≤ (rd_T46 c i).f2 ∧ (rd_T46 c i).f2 < (c.length : Int)) ∧ (0 ≤ (rd_T46 c i).f3 ∧ (rd_T46 c i).f3 < (c.length : Int))
theorem allFrom_at {α : Type} {p : α → Nat → Bool} : ∀ {l : List α} {i : Nat}, allFrom p l i = true → ∀ (j : Nat) (x : α), l[j]? = some x → p x (i + j) = true
  | [], i, _, j, x, hx => by simp at hx
  | y :: l, i, h, j, x, hx => by
    simp only [allFrom, Bool.and_eq_true] at h
    cases j with
    | zero => simp at hx; subst hx; exact h.1
    | succ j =>
      have := allFrom_at h.2 j x (by simpa using hx)
      rwa [show i + 1 + j = i + (j + 1) from by omega] at this
theorem good_wf {o : Int} {c : List S46} {r n : List Int} (h : good o c r n = true) : Wf c ∧ c.length ≤ 200 ∧ r.length ≤ 60 ∧ 0 ≤ o ∧ o ≤ (c.length : Int) ∧ (∀ x ∈ r, 0 ≤ x ∧ x < (c.length : Int))
    ∧ (∀ i : Nat, i < n.length → 0 ≤ rd n i ∧ rd n i < o) ∧ (∀ i : Int, 0 ≤ i → i < o → (rd_T46 c i).f0 = false → (o ≤ (rd_T46 c i).f2 ∨ o ≤ (rd_T46 c i).f3) → i ∈ n) := by
  unfold good at h
  simp only [Bool.and_eq_true, decide_eq_true_eq, List.all_eq_true] at h
  obtain ⟨⟨⟨⟨⟨⟨h1, h2⟩, h3⟩, h4⟩, h5⟩, h6⟩, h7⟩ := h
  have hcell : ∀ i : Int, 0 ≤ i → i < (c.length : Int) → cellOk o c.length n (rd_T46 c i) i.toNat = true := fun i h0 hi => by
    have := allFrom_at h6 i.toNat (rd_T46 c i) (by
      have : i.toNat < c.length := by omega
      simp [rd_T46, List.getD_eq_getElem?_getD, List.getElem?_eq_getElem this])
    rwa [Nat.zero_add] at this
  refine ⟨fun i h0 hi hl => ?_, h1, h2, h3, h4, h7, fun i hi => ?_, fun i h0 hi hl ho => ?_⟩
  · have := hcell i h0 hi
    unfold cellOk at this
    rw [hl] at this
    simp only [Bool.false_eq_true, if_false, Bool.and_eq_true, decide_eq_true_eq] at this
    exact ⟨this.1.1.2, this.1.2⟩
  · have := allFrom_at h5 i (rd n i) (rd_some n i hi)
    unfold noteOk at this
    simp only [Bool.and_eq_true, decide_eq_true_eq, Nat.zero_add] at this
    exact this.1
  · have := hcell i h0 (by omega)
    unfold cellOk at this
    rw [hl] at this
    simp only [Bool.and_eq_true] at this
    have h2 := this.2
    have hio : decide (((i.toNat : Nat) : Int) < o) = true := by simp; omega
    have hor : (decide (o ≤ (rd_T46 c i).f2) || decide (o ≤ (rd_T46 c i).f3)) = true := by simpa using ho
    rw [hio, hor] at h2
    simp only [Bool.not_false, Bool.true_and, Bool.not_true, Bool.false_or, decide_eq_true_eq] at h2
    rwa [Int.toNat_of_nonneg h0] at h2
/-- Marked. -/
def K (l : List Bool) (i : Int) : Prop := rdOf false l i = true
def lack (l : List Bool) : Nat := (List.range l.length).countP fun i => !(l.getD i false)
theorem countP_lt {α : Type} {p q : α → Bool} : ∀ {l : List α}, (∀ x ∈ l, p x = true → q x = true) → (∃ x ∈ l, q x = true ∧ p x = false) → l.countP p < l.countP q
  | [], _, h => by obtain ⟨x, hx, _⟩ := h; simp at hx
  | y :: l, hpq, h => by
    have hle : l.countP p ≤ l.countP q := List.countP_mono_left (fun x hx => hpq x (List.mem_cons_of_mem _ hx))
    obtain ⟨x, hx, hq, hp⟩ := h
    rcases List.mem_cons.1 hx with rfl | hx
    · have e1 : (x :: l).countP p = l.countP p := List.countP_cons_of_neg (by simp [hp])
      have e2 : (x :: l).countP q = l.countP q + 1 := List.countP_cons_of_pos hq
      omega
    · have ih := countP_lt (fun x hx => hpq x (List.mem_cons_of_mem _ hx)) ⟨x, hx, hq, hp⟩
      by_cases hy : p y = true
      · have e1 : (y :: l).countP p = l.countP p + 1 := List.countP_cons_of_pos hy
        have e2 : (y :: l).countP q = l.countP q + 1 := List.countP_cons_of_pos (hpq y List.mem_cons_self hy)
        omega
      · have e1 : (y :: l).countP p = l.countP p := List.countP_cons_of_neg hy
        have e2 : l.countP q ≤ (y :: l).countP q := by rw [List.countP_cons]; omega
        omega
theorem lack_mono {l l' : List Bool} (hl : l'.length = l.length) (h : ∀ i : Int, 0 ≤ i → K l i → K l' i) : lack l' ≤ lack l := by
  unfold lack
  rw [hl]
  refine List.countP_mono_left fun i _ hi => ?_
  have := h (i : Int) (by omega)
  unfold K rdOf at this
  simp only [Int.toNat_natCast] at this
  revert hi this
  cases l.getD i false <;> cases l'.getD i false <;> simp
theorem K_set {l : List Bool} {i : Int} (h0 : 0 ≤ i) (hi : i < (l.length : Int)) (j : Int) (hj : 0 ≤ j) : K (l.set i.toNat true) j ↔ (j = i ∨ K l j) := by
  unfold K rdOf
  have hlt : i.toNat < l.length := by omega
  by_cases e : j = i
  · subst e
    simp [List.getD_eq_getElem?_getD, hlt]
  · have : i.toNat ≠ j.toNat := by omega
    simp [List.getD_eq_getElem?_getD, List.getElem?_set_ne this, e]
theorem lack_set {l : List Bool} {i : Int} (h0 : 0 ≤ i) (hi : i < (l.length : Int)) (hk : ¬ K l i) : lack (l.set i.toNat true) < lack l := by
  have hlt : i.toNat < l.length := by omega
  unfold lack
  rw [List.length_set]
  refine countP_lt (fun j _ hj => ?_) ⟨i.toNat, by simpa using hlt, ?_, ?_⟩
  · by_cases e : j = i.toNat
    · subst e
      simp [List.getD_eq_getElem?_getD, hlt] at hj
    · simp only [List.getD_eq_getElem?_getD, List.getElem?_set_ne (Ne.symm e)] at hj ⊢
      exact hj
  · unfold K rdOf at hk
    simpa using hk
  · simp [List.getD_eq_getElem?_getD, hlt]
/-- Reached from some cells, going on from those that 'on' lets. -/
inductive Rch (c : List S46) (on : Int → Prop) (src : Int → Prop) : Int → Prop
  | src {i} : src i → Rch c on src i
  | a {i} : Rch c on src i → on i → (rd_T46 c i).f0 = false → Rch c on src (rd_T46 c i).f2
  | b {i} : Rch c on src i → on i → (rd_T46 c i).f0 = false → Rch c on src (rd_T46 c i).f3
theorem Rch.mono {c : List S46} {on : Int → Prop} {s s' : Int → Prop} (h : ∀ i, s i → Rch c on s' i) {i : Int} (hr : Rch c on s i) : Rch c on s' i := by
  induction hr with
  | src hs => exact h _ hs
  | a _ ho hl ih => exact .a ih ho hl
  | b _ ho hl ih => exact .b ih ho hl
/-- What is marked and closed holds all that is reached. -/
theorem Rch.in_ {c : List S46} {on : Int → Prop} {s : Int → Prop} {k : List Bool} (hw : Wf c) (hs : ∀ i, s i → 0 ≤ i ∧ i < (c.length : Int) ∧ K k i)
    (hcl : ∀ i, 0 ≤ i → K k i → on i → (rd_T46 c i).f0 = false → K k (rd_T46 c i).f2 ∧ K k (rd_T46 c i).f3) {i : Int} (hr : Rch c on s i) : 0 ≤ i ∧ i < (c.length : Int) ∧ K k i := by
  induction hr with
  | src h => exact hs _ h
  | a _ ho hl ih => exact ⟨(hw _ ih.1 ih.2.1 hl).1.1, (hw _ ih.1 ih.2.1 hl).1.2, (hcl _ ih.1 ih.2.2 ho hl).1⟩
  | b _ ho hl ih => exact ⟨(hw _ ih.1 ih.2.1 hl).2.1, (hw _ ih.1 ih.2.1 hl).2.2, (hcl _ ih.1 ih.2.2 ho hl).2⟩
/-- Going on, as the reference does. -/
def On (o : Int) (young : Bool) (i : Int) : Prop := young = true → ¬ i < o
theorem mark_ev (o : Int) (c : List S46) (r n : List Int) (young : Bool) (hw : Wf c) : ∀ (m : Nat) (keep : List Bool) (at_ : Int), keep.length = c.length → 0 ≤ at_ → at_ < (c.length : Int) → lack keep ≤ m →
    ∃ k' : List Bool, Ev (fun k => spec_lhMark.f k o c r n at_ keep young) k' ∧ k'.length = c.length ∧ (∀ i, 0 ≤ i → K keep i → K k' i) ∧ K k' at_ ∧
      (∀ i, 0 ≤ i → K k' i → ¬ K keep i → (On o young i → (rd_T46 c i).f0 = false → K k' (rd_T46 c i).f2 ∧ K k' (rd_T46 c i).f3) ∧ Rch c (On o young) (· = at_) i) := by
  intro m
  induction m with
  | zero =>
    intro keep at_ hl h0 h1 hm
    have hk : K keep at_ := by
      by_cases hk : K keep at_
      · exact hk
      · have := lack_set h0 (by omega) hk
        omega
    refine ⟨keep, Ev.succ ?_, hl, fun _ _ h => h, hk, fun i _ h h' => absurd h h'⟩
    simp only [spec_lhMark.f, if_pos h0, if_pos (show at_ < (keep.length : Int) by omega), if_pos (show rdOf false keep at_ = true from hk)]
    exact Ev.const rfl
  | succ m ih =>
    intro keep at_ hl h0 h1 hm
    by_cases hk : K keep at_
    · refine ⟨keep, Ev.succ ?_, hl, fun _ _ h => h, hk, fun i _ h h' => absurd h h'⟩
      simp only [spec_lhMark.f, if_pos h0, if_pos (show at_ < (keep.length : Int) by omega), if_pos (show rdOf false keep at_ = true from hk)]
      exact Ev.const rfl
    · have hset := lack_set h0 (by omega) hk
      have hls : (keep.set at_.toNat true).length = c.length := by simpa using hl
      have hks : ∀ j, 0 ≤ j → (K (keep.set at_.toNat true) j ↔ (j = at_ ∨ K keep j)) := fun j hj => K_set h0 (by omega) j hj
      generalize hy : keep.set at_.toNat true = y at hset hls hks
      have hnk : ¬ rdOf false keep at_ = true := hk
      have start : ∀ R : List Bool, (∀ K0, Ev (fun k => spec_lhMark.j0 k y young K0 o c r n (rd_T46 c at_).f0 (rd_T46 c at_).f1 (rd_T46 c at_).f2 (rd_T46 c at_).f3) R → K0 = (if (rd_T46 c at_).f0 = true then true else if young = true then decide (at_ < o) else false) →
          Ev (fun k => spec_lhMark.f k o c r n at_ keep young) R) := by
        intro R K0 h e
        refine Ev.succ ?_
        simp only [spec_lhMark.f, if_pos h0, if_pos (show at_ < (keep.length : Int) by omega), if_neg hnk, Option.bind_some, if_pos h1, hy]
        subst e
        by_cases hf : (rd_T46 c at_).f0 = true
        · simp only [if_pos hf] at h ⊢; exact h
        · by_cases hyo : young = true
          · simp only [if_neg hf, if_pos hyo] at h ⊢; exact h
          · simp only [if_neg hf, if_neg hyo] at h ⊢; exact h
      by_cases hstop : (if (rd_T46 c at_).f0 = true then true else if young = true then decide (at_ < o) else false) = true
      · refine ⟨y, start y true (Ev.succ ?_) hstop.symm, hls, fun i hi h => (hks i hi).2 (.inr h), (hks at_ h0).2 (.inl rfl), fun i hi h h' => ?_⟩
        · simp only [spec_lhMark.j0, if_true]
          exact Ev.const rfl
        · rcases (hks i hi).1 h with rfl | h
          · refine ⟨fun hon hleaf => ?_, .src rfl⟩
            rw [if_neg (by rw [hleaf]; simp)] at hstop
            by_cases hyo : young = true
            · rw [if_pos hyo] at hstop
              exact absurd (of_decide_eq_true hstop) (hon hyo)
            · rw [if_neg hyo] at hstop
              exact absurd hstop (by simp)
          · exact absurd h h'
      · have hf : (rd_T46 c at_).f0 = false := by
          cases e : (rd_T46 c at_).f0 with
          | false => rfl
          | true => rw [if_pos e] at hstop; exact absurd rfl hstop
        have hon : On o young at_ := fun hyo hlt => by
          rw [if_neg (by rw [hf]; simp), if_pos hyo] at hstop
          exact hstop (decide_eq_true hlt)
        obtain ⟨⟨a0, a1⟩, b0, b1⟩ := hw at_ h0 h1 hf
        obtain ⟨k1, e1, l1, m1, t1, n1⟩ := ih y _ hls a0 a1 (by omega)
        have hle := lack_mono (l := y) (l' := k1) (by rw [l1, hls]) m1
        obtain ⟨k2, e2, l2, m2, t2, n2⟩ := ih k1 _ l1 b0 b1 (by omega)
        refine ⟨k2, start k2 false (Ev.succ ?_) (by simpa using hstop), l2, fun i hi h => m2 i hi (m1 i hi ((hks i hi).2 (.inr h))), m2 _ h0 (m1 _ h0 ((hks at_ h0).2 (.inl rfl))), fun i hi h h' => ?_⟩
        · simp only [spec_lhMark.j0, Bool.false_eq_true, if_false]
          refine Ev.bnd _ e1 (Ev.bnd _ e2 (Ev.const rfl))
        · by_cases h1' : K k1 i
          · by_cases h2' : K y i
            · rcases (hks i hi).1 h2' with rfl | h2'
              · exact ⟨fun _ _ => ⟨m2 _ a0 t1, t2⟩, .src rfl⟩
              · exact absurd h2' h'
            · obtain ⟨p, q⟩ := n1 i hi h1' h2'
              have hb : ∀ j, Rch c (On o young) (· = (rd_T46 c at_).f2) j → 0 ≤ j → True := fun _ _ _ => trivial
              refine ⟨fun ho hle => ?_, Rch.mono (fun j hj => by rw [hj]; exact .a (.src rfl) hon hf) q⟩
              have hkk := p ho hle
              by_cases hin : i < (c.length : Int)
              · obtain ⟨⟨p0, _⟩, q0, _⟩ := hw i hi hin hle
                exact ⟨m2 _ p0 hkk.1, m2 _ q0 hkk.2⟩
              · have : ¬ K k1 i := by
                  unfold K rdOf
                  rw [List.getD_eq_getElem?_getD, List.getElem?_eq_none (by omega)]
                  simp
                exact absurd h1' this
          · obtain ⟨p, q⟩ := n2 i hi h h1'
            exact ⟨p, Rch.mono (fun j hj => by rw [hj]; exact .b (.src rfl) hon hf) q⟩
end Go.Proofs.Ytpjikgeglhjehaa.Pl
/- Plain law: the program's list of open cells marks what is reached; both ways mark the same cells. -/
namespace Go.Proofs.Ytpjikgeglhjehaa.Pl
open Go.RowKit Go.Proofs.Ytpjikgeglhjehaa.PH Go.Proofs.YtpjikgeglhjehaaW.PrintWords Go.Proofs.YtpjikgeglhjehaaW.PrintLast
set_option linter.unusedVariables false
set_option linter.unusedSimpArgs false
theorem K_lt {l : List Bool} {i : Int} (h0 : 0 ≤ i) (h : K l i) : i < (l.length : Int) := by
  by_cases hi : i < (l.length : Int)
  · exact hi
  · have : ¬ K l i := by
      unfold K rdOf
      rw [List.getD_eq_getElem?_getD, List.getElem?_eq_none (by omega)]
      simp
    exact absurd h this
theorem rd_snoc (l : List Int) (x : Int) : rd (l ++ [x]) (l.length : Int) = x := by simp [rd, List.getD_eq_getElem?_getD]
theorem reached_ev (c : List S46) (v : FV) (hw : Wf c) : ∀ (m : Nat) (out : List Bool) (op : List Int), out.length = c.length → (∀ x ∈ op, 0 ≤ x ∧ x < (c.length : Int)) → 3 * lack out + op.length ≤ m → m ≤ 1000000 →
    ∃ o' : List Bool, Ev (fun k => impl_reached.l0 v k c out op) o' ∧ o'.length = c.length ∧ (∀ i, 0 ≤ i → K out i → K o' i) ∧ (∀ x ∈ op, K o' x) ∧
      (∀ i, 0 ≤ i → K o' i → ¬ K out i → (v.p i = true → (rd_T46 c i).f0 = false → K o' (rd_T46 c i).f2 ∧ K o' (rd_T46 c i).f3) ∧ Rch c (fun i => v.p i = true) (· ∈ op) i) := by
  intro m
  induction m with
  | zero =>
    intro out op hl ho hm hb
    obtain rfl : op = [] := List.eq_nil_of_length_eq_zero (by omega)
    refine ⟨out, Ev.succ ?_, hl, fun _ _ h => h, fun x hx => by simp at hx, fun i _ h h' => absurd h h'⟩
    simp only [impl_reached.l0, if_neg (show ¬ (([] : List Int).length : Int) > 0 by simp)]
    exact Ev.const rfl
  | succ m ih =>
    intro out op hl ho hm hb
    rcases List.eq_nil_or_concat op with rfl | ⟨l, x, rfl⟩
    · refine ⟨out, Ev.succ ?_, hl, fun _ _ h => h, fun x hx => by simp at hx, fun i _ h h' => absurd h h'⟩
      simp only [impl_reached.l0, if_neg (show ¬ (([] : List Int).length : Int) > 0 by simp)]
      exact Ev.const rfl
    · rw [List.concat_eq_append] at ho hm ⊢
      have hlen : ((l ++ [x]).length : Int) = (l.length : Int) + 1 := by simp
      have hlen' : (l ++ [x]).length = l.length + 1 := by simp
      have hwr : wrap64 ((l.length : Int) + 1 - 1) = (l.length : Int) := by rw [w64 (by omega) (by omega)]; omega
      obtain ⟨x0, x1⟩ := ho x (by simp)
      have htk : (l ++ [x]).take l.length = l := by simp
      have head : ∀ R : List Bool, (Ev (fun k => (if rdOf false out x = true then impl_reached.l0 v k c out l else
          ((some (out.set x.toNat true : List Bool)).bind fun y => if (rd_T46 c x).f0 = true then impl_reached.l0 v k c y l else
            ((FV.f v x).bind fun t => if t = true then ((some ([(rd_T46 c x).f2, (rd_T46 c x).f3] : List Int)).bind fun z => if l.length + z.length < 17592186044416 then impl_reached.l0 v k c y (l ++ z) else none) else impl_reached.l0 v k c y l)))) R) →
          Ev (fun k => impl_reached.l0 v k c out (l ++ [x])) R := by
        intro R h
        refine Ev.succ ?_
        simp only [impl_reached.l0, hlen, hwr, if_pos (show (l.length : Int) + 1 > 0 by omega), if_pos (show (0 : Int) ≤ (l.length : Int) by omega), if_pos (show (l.length : Int) < (l.length : Int) + 1 by omega), if_pos (show (l.length : Int) ≤ (l.length : Int) + 1 by omega),
          Int.toNat_natCast, htk, rd_snoc, Option.bind_some, if_pos x0, if_pos (show x < (out.length : Int) by omega), if_pos x1]
        simpa only [Option.bind_some] using h
      by_cases hk : K out x
      · obtain ⟨o', e, a, b, d, f⟩ := ih out l hl (fun y hy => ho y (by simp [hy])) (by omega) (by omega)
        refine ⟨o', head _ ?_, a, b, fun y hy => ?_, fun i hi h h' => ?_⟩
        · simp only [if_pos (show rdOf false out x = true from hk)]; exact e
        · rcases List.mem_append.1 hy with hy | hy
          · exact d y hy
          · obtain rfl : y = x := by simpa using hy
            exact b _ x0 hk
        · obtain ⟨p, q⟩ := f i hi h h'
          exact ⟨p, Rch.mono (fun j hj => .src (by simp [hj])) q⟩
      · have hnk : ¬ rdOf false out x = true := hk
        have hset := lack_set x0 (by omega) hk
        have hls : (out.set x.toNat true).length = c.length := by simpa using hl
        have hks : ∀ j, 0 ≤ j → (K (out.set x.toNat true) j ↔ (j = x ∨ K out j)) := fun j hj => K_set x0 (by omega) j hj
        by_cases hgo : (rd_T46 c x).f0 = false ∧ v.p x = true
        · obtain ⟨hf, hp⟩ := hgo
          obtain ⟨⟨a0, a1⟩, b0, b1⟩ := hw x x0 x1 hf
          obtain ⟨o', e, a, b, d, f⟩ := ih (out.set x.toNat true) (l ++ [(rd_T46 c x).f2, (rd_T46 c x).f3]) hls (fun y hy => by
            rcases List.mem_append.1 hy with hy | hy
            · exact ho y (by simp [hy])
            · simp only [List.mem_cons, List.not_mem_nil, or_false] at hy
              rcases hy with rfl | rfl
              · exact ⟨a0, a1⟩
              · exact ⟨b0, b1⟩) (by simp; omega) (by omega)
          refine ⟨o', head _ ?_, a, fun i hi h => b i hi ((hks i hi).2 (.inr h)), fun y hy => ?_, fun i hi h h' => ?_⟩
          · simp only [if_neg hnk, Option.bind_some, if_neg (show ¬ (rd_T46 c x).f0 = true by rw [hf]; simp), FV.f, hp, if_true]
            simp only [if_pos (show l.length + [(rd_T46 c x).f2, (rd_T46 c x).f3].length < 17592186044416 by simp; omega)]
            exact e
          · rcases List.mem_append.1 hy with hy | hy
            · exact d y (by simp [hy])
            · obtain rfl : y = x := by simpa using hy
              exact b _ x0 ((hks _ x0).2 (.inl rfl))
          · by_cases h2 : K (out.set x.toNat true) i
            · rcases (hks i hi).1 h2 with rfl | h2
              · exact ⟨fun _ _ => ⟨d _ (by simp), d _ (by simp)⟩, .src (by simp)⟩
              · exact absurd h2 h'
            · obtain ⟨p, q⟩ := f i hi h h2
              refine ⟨p, Rch.mono (fun j hj => ?_) q⟩
              rcases List.mem_append.1 hj with hj | hj
              · exact .src (by simp [hj])
              · simp only [List.mem_cons, List.not_mem_nil, or_false] at hj
                rcases hj with rfl | rfl
                · exact .a (.src (by simp)) hp hf
                · exact .b (.src (by simp)) hp hf
        · obtain ⟨o', e, a, b, d, f⟩ := ih (out.set x.toNat true) l hls (fun y hy => ho y (by simp [hy])) (by omega) (by omega)
          refine ⟨o', head _ ?_, a, fun i hi h => b i hi ((hks i hi).2 (.inr h)), fun y hy => ?_, fun i hi h h' => ?_⟩
          · simp only [if_neg hnk, Option.bind_some, FV.f]
            by_cases hf : (rd_T46 c x).f0 = true
            · simp only [if_pos hf]; exact e
            · have hp : ¬ v.p x = true := fun hp => hgo ⟨by simpa using hf, hp⟩
              simp only [if_neg hf, if_neg hp]; exact e
          · rcases List.mem_append.1 hy with hy | hy
            · exact d y hy
            · obtain rfl : y = x := by simpa using hy
              exact b _ x0 ((hks _ x0).2 (.inl rfl))
          · by_cases h2 : K (out.set x.toNat true) i
            · rcases (hks i hi).1 h2 with rfl | h2
              · exact ⟨fun hp hf => absurd ⟨hf, hp⟩ hgo, .src (by simp)⟩
              · exact absurd h2 h'
            · obtain ⟨p, q⟩ := f i hi h h2
              exact ⟨p, Rch.mono (fun j hj => .src (by simp [hj])) q⟩
theorem K_rep (n : Nat) (i : Int) : ¬ K (List.replicate n false) i := by
  unfold K rdOf
  by_cases h : i.toNat < n
  · simp [List.getD_eq_getElem?_getD, h]
  · simp [List.getD_eq_getElem?_getD, h]
theorem lack_le (l : List Bool) : lack l ≤ l.length := by
  unfold lack
  have := List.countP_le_length (p := fun i => !(l.getD i false)) (l := List.range l.length)
  simpa using this
/-- What the program marks from 'from'. -/
theorem reached_all (c : List S46) (fr : List Int) (v : FV) (hw : Wf c) (hc : c.length ≤ 200) (hr : ∀ x ∈ fr, 0 ≤ x ∧ x < (c.length : Int)) (hl : fr.length ≤ 5000) :
    ∃ o' : List Bool, Ev (fun k => impl_reached.f k c fr v) o' ∧ o'.length = c.length ∧ ∀ i, 0 ≤ i → (K o' i ↔ Rch c (fun i => v.p i = true) (· ∈ fr) i) := by
  obtain ⟨o', e, a, b, d, f⟩ := reached_ev c v hw (3 * 200 + 5000) (List.replicate c.length false) fr (by simp) hr (by have := lack_le (List.replicate c.length false); simp at this; omega) (by omega)
  refine ⟨o', ?_, a, fun i hi => ⟨fun h => (f i hi h (K_rep _ _)).2, fun h => (Rch.in_ hw (fun j hj => ⟨(hr j hj).1, (hr j hj).2, d j hj⟩) (fun j h0 hj ho hle => (f j h0 hj (K_rep _ _)).1 ho hle) h).2.2⟩⟩
  unfold impl_reached.f slices_Clone_int_int.f
  simp only [if_pos (show (0 : Int) ≤ (c.length : Int) by omega), Int.toNat_natCast, if_pos (show c.length ≤ 281474976710656 by omega), if_pos (show fr.length < 17592186044416 by omega), Option.bind_some]
  exact e
theorem K_ext {l l' : List Bool} (hl : l.length = l'.length) (h : ∀ i, 0 ≤ i → (K l i ↔ K l' i)) : l = l' := by
  refine List.ext_getElem hl fun i h1 h2 => ?_
  have := h (i : Int) (by omega)
  unfold K rdOf at this
  simp only [Int.toNat_natCast, List.getD_eq_getElem?_getD, List.getElem?_eq_getElem h1, List.getElem?_eq_getElem h2, Option.getD_some] at this
  cases e : l[i] <;> cases e' : l'[i] <;> simp_all
theorem Rch.on {c : List S46} {on on' : Int → Prop} {s : Int → Prop} (h : ∀ i, on i → on' i) {i : Int} (hr : Rch c on s i) : Rch c on' s i := by
  induction hr with
  | src hs => exact .src hs
  | a _ ho hl ih => exact .a ih (h _ ho) hl
  | b _ ho hl ih => exact .b ih (h _ ho) hl
end Go.Proofs.Ytpjikgeglhjehaa.Pl
namespace Go.Proofs.Ytpjikgeglhjehaa.PH
open Go.RowKit Go.Proofs.YtpjikgeglhjehaaW.PrintWords Go.Proofs.YtpjikgeglhjehaaW.PrintLast Go.Proofs.YtpjikgeglhjehaaW.PrintMore
attribute [local go_sem] max2_int min2_int max_two min_two max_three min_three max_four min_four   -- for this text's walks alone
set_option linter.unusedVariables false
set_option linter.unusedSimpArgs false
def impl_marked.l0 : Nat → List Int → List Bool → Int → Int → Option (List Int)
 | 0, _, _, _, _ => none
 | k + 1, x3, x7, x8, x9 => if x9 < x8 then (if 0 ≤ x9 then (if x9 < (x7.length : Int) then (if rdOf false x7 x9 = true then (if x3.length < 17592186044416 then (impl_marked.l0 k (x3 ++ [x9]) x7 x8 (wrap64 (x9 + 1))) else (none)) else (impl_marked.l0 k x3 x7 x8 (wrap64 (x9 + 1)))) else (none)) else (none)) else (some x3)
def impl_marked.f (k : Nat) (l0 : List Bool) : Option (List Int) := impl_marked.l0 k (([] : List Int)) l0 (l0.length : Int) 0
theorem impl_marked.mono_l : ∀ k, (∀ y0 y1 y2 y3, LeO (impl_marked.l0 k y0 y1 y2 y3) (impl_marked.l0 (k + 1) y0 y1 y2 y3))
 | 0 => fun _ _ _ _ r h => by simp [impl_marked.l0] at h
 | k + 1 => by
  have ih0 := impl_marked.mono_l k
  ·intro y0 y1 y2 y3
   unfold impl_marked.l0
   repeat' first
   | (with_reducible exact ih0 _ _ _ _)
   | (with_reducible exact LeO.refl _)
   | (with_reducible exact LeO.none _)
   | (with_reducible refine LeO.ite ?_ ?_)
   | (with_reducible refine LeO.bind ?_ (fun _ => ?_))
   | exact ih0 _ _ _ _
   | exact LeO.none _
   | refine LeO.ite ?_ ?_
   | refine LeO.bind ?_ (fun _ => ?_)
theorem impl_marked.mono : ∀ a0 k, LeO (impl_marked.f k a0) (impl_marked.f (k + 1) a0) := by
 intro a0 k
 have ih0 := impl_marked.mono_l k
 unfold impl_marked.f
 repeat' first
   | (with_reducible exact ih0 _ _ _ _)
   | (with_reducible exact LeO.refl _)
   | (with_reducible exact LeO.none _)
   | (with_reducible refine LeO.ite ?_ ?_)
   | (with_reducible refine LeO.bind ?_ (fun _ => ?_))
   | exact ih0 _ _ _ _
   | exact LeO.none _
   | refine LeO.ite ?_ ?_
   | refine LeO.bind ?_ (fun _ => ?_)
set_option maxHeartbeats 8000000 in
set_option maxRecDepth 100000 in
theorem impl_marked.calls (k : Nat) (A0 : Option Addr) (c0 : Nat) (l0 : List Bool) (r : List Int) (w : World) (hr0 : Kd.C Kd.bool w A0 l0.length l0) (hc0 : l0.length ≤ c0) (h : impl_marked.f k l0 = some r) :
  Calls Try.prog 39 #[.slice A0 l0.length c0] w fun e w' => ∃ v0_ : Value, e = .returned (v0_) ∧ Kd.R (Kd.int .i64) 3 w' w.heap.size (fun _ => True) v0_ r ∧ Below w.heap.size w w' := by
 have HR0 := Aside0.mk hr0
 have HC0 := Aside0.mk hc0
 clear hr0 hc0
 have HB := Aside0.mk (Below.refl w.heap.size w)
 have H : (impl_marked.l0 k (([] : List Int)) l0 (l0.length : Int) 0) = some r := h
 clear h
 obtain ⟨y235, hy235⟩ : ∃ y_ : List Int, y_ = (([] : List Int)) := ⟨_, rfl⟩
 replace H : (impl_marked.l0 k y235 l0 (l0.length : Int) 0) = some r := by first | (rw [hy235]; with_reducible exact H) | (have H2_ := (Option.bind_some _ _).symm.trans H; rw [hy235]; with_reducible exact H2_) | (have H2_ := (Option.bind_some _ _).symm.trans H; with_reducible exact H2_) | with_reducible exact H | (rw [hy235]; exact H) | exact H
 have Ny235 := Aside0.mk hy235
 clear hy235
 have H' := Aside0.mk H
 clear H
 go_enter Try.func39, Try.ntmps39
 go_wp2_with (first | ((with_reducible refine gate_dst (N := 6) rfl ?_); refine Kd.R_lit (Kd.int .i64) _ 3 ?hg (N := 6) ?hd (xs := ([] : List Int)) (inner := []) (ok := fun _ => True) (okp := fun _ => True) ?hr ?hp (fun _ hk => hk) trivial (Below.refl _ _) (Nat.le_refl _) (by simp) ?_; (case hd => rfl); (case hg => rfl); (case hr => first | (go_simp; done) | (go_simp; rfl)); (case hp => exact (Reps.none _ _)); intro v236 w2 ho3 hb hg_ hnew_; clear hg_ hnew_; (first | rw [← Ny235.out] at ho3 | (simp only [Int.reduceToNat] at ho3; rw [← Ny235.out] at ho3)); have n0_ := Aside0.mk (Kd.R_lower ho3 (below_size pb_)); have n1_ := Aside0.mk (below_step pb_ hb); clear HB; have HO237 := n0_; have HB := n1_; clear n0_ n1_; clear hb ho3))
 go_loopg [3, 9] k (fun kq v3 v9 w' => ∃ (x3_1 : List Int) (x9_1 : Int), v9 = .int .i64 x9_1 ∧ Aside0 (impl_marked.l0 kq x3_1 l0 (l0.length : Int) x9_1 = some r) ∧ Aside0 (kq ≤ k) ∧ Aside0 (Kd.R (Kd.int .i64) 3 w' w.heap.size (fun _ => True) v3 x3_1) ∧ Aside0 (Below w.heap.size w w'))
 case atStart => exact ⟨(y235), (0), (by first | rfl | (simp; done) | (simp [*]; done)), H', ⟨Nat.le_refl _⟩, ⟨by (with_reducible repeat (first | apply Kd.R_alloc | apply Kd.R_drewN | apply Kd.R_drew)); exact HO237.out⟩, ⟨pb_⟩⟩
 case round =>
  clear H'
  try clear p2
  try clear c3
  obtain ⟨x3_1, x9_1, rfl, HA, HK1, HO_3, HB⟩ := hrel
  cases gk with
  | zero => exact absurd HA.out (by simp [impl_marked.l0])
  | succ k1 =>
   have H := HA.out
   clear HA
   simp only [impl_marked.l0] at H
   by_cases c4 : x9_1 < (l0.length : Int)
   ·rw [if_pos c4] at H
    have c4b0 : decide (x9_1 < (l0.length : Int)) = true := decide_eq_true c4
    clear c4
    by_cases c5 : 0 ≤ x9_1
    ·rw [if_pos c5] at H
     have c5b0 : decide (0 ≤ x9_1) = true := decide_eq_true c5
     clear c5
     by_cases c6 : x9_1 < (l0.length : Int)
     ·rw [if_pos c6] at H
      have c6b0 : decide (x9_1 < (l0.length : Int)) = true := decide_eq_true c6
      clear c6
      obtain ⟨bq7, hbq7⟩ : ∃ b_ : Bool, b_ = (rdOf false l0 x9_1) := ⟨_, rfl⟩
      replace H : (if bq7 = true then (if x3_1.length < 17592186044416 then (impl_marked.l0 k1 (x3_1 ++ [x9_1]) l0 (l0.length : Int) (wrap64 (x9_1 + 1))) else (none)) else (impl_marked.l0 k1 x3_1 l0 (l0.length : Int) (wrap64 (x9_1 + 1)))) = some r := by rw [← hbq7] at H; exact H
      have Nbq7 := Aside0.mk hbq7
      clear hbq7
      by_cases c8 : bq7 = true
      ·subst c8
       have H1 : (if x3_1.length < 17592186044416 then (impl_marked.l0 k1 (x3_1 ++ [x9_1]) l0 (l0.length : Int) (wrap64 (x9_1 + 1))) else (none)) = some r := by rw [if_pos rfl] at H; exact H
       clear H
       have H := H1
       clear H1
       by_cases c9 : x3_1.length < 17592186044416
       ·rw [if_pos c9] at H
        have LMc9 := Aside0.mk c9
        clear c9
        obtain ⟨y239, hy239⟩ : ∃ y_ : List Int, y_ = (x3_1 ++ [x9_1]) := ⟨_, rfl⟩
        replace H : (impl_marked.l0 k1 y239 l0 (l0.length : Int) (wrap64 (x9_1 + 1))) = some r := by first | (rw [hy239]; with_reducible exact H) | (have H2_ := (Option.bind_some _ _).symm.trans H; rw [hy239]; with_reducible exact H2_) | (have H2_ := (Option.bind_some _ _).symm.trans H; with_reducible exact H2_) | with_reducible exact H | (rw [hy239]; exact H) | exact H
        have Ny239 := Aside0.mk hy239
        clear hy239
        have H' := Aside0.mk H
        clear H
        have p238 : 0 ≤ (x9_1 : Int) := of_decide_eq_true (by first | (with_reducible assumption) | assumption)
        have q238 : x9_1 < (l0.length : Int) := of_decide_eq_true (by first | (with_reducible assumption) | assumption)
        obtain ⟨ad238, e238, hx238_0⟩ := Kd.at_bool HR0.out x9_1 p238 q238
        (try rw [← Nbq7.out] at hx238_0)
        cases e238
        replace hx238_0 := (HB.out.cell (World.block_lt_of_cell? w _ hx238_0)).trans hx238_0
        replace p238 := eq_true p238
        replace q238 := eq_true q238
        go_wp2_with (first | ((with_reducible refine gate_builtin (b := .append) (xs := #[.tmp 15, .tmp 17]) rfl ?_); at_builtin; refine Kd.R_append (Kd.int .i64) (w0 := w) w.heap.size rfl (.tmp 15) (.tmp 17) 23 3 (.int .i64 0) 8 rfl Try.underlying23 info3 rfl (by decide) (by omega) u3 x3_1 x9_1 [.int .i64 x9_1] (fun _ => True) (fun _ => False) rfl rfl ?aP (fun _ hk => hk.elim) ?aF ?aO ?aB ?aS ?aL ?_; (case aP => exact rfl); (case aB => exact pb_); (case aF => exact (fun _ _ => trivial)); (case aO => exact (pr_ HO_3.out)); (case aS => exact (below_size pb_)); (case aL => have := LMc9.out; omega); intro v240 w10 ho hb hg hat; rw [← Ny239.out] at ho; have n0_ := Aside0.mk (hb); have n1_ := Aside0.mk (ho); clear HB; clear HO_3; have HB := n0_; have HO241 := n1_; clear n0_ n1_; clear ho hb hg hat))
        go_roundg k1
        case measure => have := HK1.out; omega
        case rel => exact ⟨(y239), (wrap64 (x9_1 + 1)), (by first | rfl | (simp; done) | (simp [*]; done)), H', ⟨by have := HK1.out; omega⟩, ⟨by (with_reducible repeat (first | apply Kd.R_alloc | apply Kd.R_drewN | apply Kd.R_drew)); exact HO241.out⟩, ⟨pb_⟩⟩
       ·rw [if_neg c9] at H
        exact absurd H (by simp)
      ·replace c8 := Bool.eq_false_iff.mpr c8
       subst c8
       have H1 : (impl_marked.l0 k1 x3_1 l0 (l0.length : Int) (wrap64 (x9_1 + 1))) = some r := by rw [if_neg (show ¬ (false = true) by decide)] at H; exact H
       clear H
       have H := H1
       clear H1
       have H' := Aside0.mk H
       clear H
       have p238 : 0 ≤ (x9_1 : Int) := of_decide_eq_true (by first | (with_reducible assumption) | assumption)
       have q238 : x9_1 < (l0.length : Int) := of_decide_eq_true (by first | (with_reducible assumption) | assumption)
       obtain ⟨ad238, e238, hx238_0⟩ := Kd.at_bool HR0.out x9_1 p238 q238
       (try rw [← Nbq7.out] at hx238_0)
       cases e238
       replace hx238_0 := (HB.out.cell (World.block_lt_of_cell? w _ hx238_0)).trans hx238_0
       replace p238 := eq_true p238
       replace q238 := eq_true q238
       go_wp2
       go_roundg k1
       case measure => have := HK1.out; omega
       case rel => exact ⟨(x3_1), (wrap64 (x9_1 + 1)), (by first | rfl | (simp; done) | (simp [*]; done)), H', ⟨by have := HK1.out; omega⟩, ⟨by (with_reducible repeat (first | apply Kd.R_alloc | apply Kd.R_drewN | apply Kd.R_drew)); exact HO_3.out⟩, ⟨pb_⟩⟩
     ·rw [if_neg c6] at H
      exact absurd H (by simp)
    ·rw [if_neg c5] at H
     exact absurd H (by simp)
   ·rw [if_neg c4] at H
    have c4b0 : decide (x9_1 < (l0.length : Int)) = false := decide_eq_false c4
    clear c4
    obtain rfl := Option.some.inj H
    go_wp2
    go_ret
    exact ⟨_, by first | rfl | (simp [errW_none, errW_some] <;> rfl) | (simp [*, errW_none, errW_some] <;> rfl), by (with_reducible repeat (first | apply Kd.R_alloc | apply Kd.R_drewN | apply Kd.R_drew)); exact HO_3.out, pb_⟩
def impl_LiveIn.f (k : Nat) (a0_0 : Int) (l0_1 : List (S46)) (l0_2 : List Int) (l0_3 : List Int) : Option (List Int × Bool) := (impl_GoodYoung.f k a0_0 l0_1 l0_2 l0_3).bind fun t264 => (if t264 = true then ((impl_reached.f k l0_1 l0_2 fv_always).bind fun t265 => ((impl_marked.f k t265).bind fun t268 => (some (t268, true)))) else (some (([] : List Int), false)))
theorem impl_LiveIn.mono : ∀ a0 a1 a2 a3 k, LeO (impl_LiveIn.f k a0 a1 a2 a3) (impl_LiveIn.f (k + 1) a0 a1 a2 a3) := by
 intro a0 a1 a2 a3 k
 unfold impl_LiveIn.f
 repeat' first
   | (with_reducible exact impl_GoodYoung.mono _ _ _ _ _)
   | (with_reducible exact impl_marked.mono _ _)
   | (with_reducible exact impl_reached.mono _ _ _ _)
   | (with_reducible exact LeO.refl _)
   | (with_reducible exact LeO.none _)
   | (with_reducible refine LeO.ite ?_ ?_)
   | (with_reducible refine LeO.bind ?_ (fun _ => ?_))
   | exact impl_GoodYoung.mono _ _ _ _ _
   | exact impl_marked.mono _ _
   | exact impl_reached.mono _ _ _ _
   | exact LeO.none _
   | refine LeO.ite ?_ ?_
   | refine LeO.bind ?_ (fun _ => ?_)
set_option maxHeartbeats 8000000 in
set_option maxRecDepth 100000 in
theorem impl_LiveIn.calls (k : Nat) (a0_0 : Int) (A0_1 : Option Addr) (c0_1 : Nat) (l0_1 : List (S46)) (A0_2 : Option Addr) (c0_2 : Nat) (l0_2 : List Int) (A0_3 : Option Addr) (c0_3 : Nat) (l0_3 : List Int) (r1 : List Int) (r2 : Bool) (w : World) (hr0_1 : Kd.C k46 w A0_1 l0_1.length l0_1) (hc0_1 : l0_1.length ≤ c0_1) (hr0_2 : Kd.C (Kd.int .i64) w A0_2 l0_2.length l0_2) (hc0_2 : l0_2.length ≤ c0_2) (hr0_3 : Kd.C (Kd.int .i64) w A0_3 l0_3.length l0_3) (hc0_3 : l0_3.length ≤ c0_3) (h : impl_LiveIn.f k a0_0 l0_1 l0_2 l0_3 = some (r1, r2)) :
  Calls Try.prog 14 #[.agg #[.int .i64 a0_0, .slice A0_1 l0_1.length c0_1, .slice A0_2 l0_2.length c0_2, .slice A0_3 l0_3.length c0_3]] w fun e w' => ∃ v0_ : Value, e = .returned (.tuple #[v0_, .bool r2]) ∧ Kd.R (Kd.int .i64) 3 w' w.heap.size (fun _ => True) v0_ r1 ∧ Below w.heap.size w w' := by
 have hu30 := Try.underlying30
 have HR0_1 := Aside0.mk hr0_1
 have HC0_1 := Aside0.mk hc0_1
 clear hr0_1 hc0_1
 have HR0_2 := Aside0.mk hr0_2
 have HC0_2 := Aside0.mk hc0_2
 clear hr0_2 hc0_2
 have HR0_3 := Aside0.mk hr0_3
 have HC0_3 := Aside0.mk hc0_3
 clear hr0_3 hc0_3
 have HB := Aside0.mk (Below.refl w.heap.size w)
 have H : ((impl_GoodYoung.f k a0_0 l0_1 l0_2 l0_3).bind fun t264 => (if t264 = true then ((impl_reached.f k l0_1 l0_2 fv_always).bind fun t265 => ((impl_marked.f k t265).bind fun t268 => (some (t268, true)))) else (some (([] : List Int), false)))) = some (r1, r2) := h
 clear h
 replace H := Option.bind_eq_some_iff.mp H
 obtain ⟨t264, A20, H⟩ := H
 replace H : (if t264 = true then ((impl_reached.f k l0_1 l0_2 fv_always).bind fun t265 => ((impl_marked.f k t265).bind fun t268 => (some (t268, true)))) else (some (([] : List Int), false))) = some (r1, r2) := H
 have A2 := Aside0.mk A20
 clear A20
 by_cases c3 : t264 = true
 ·subst c3
  have H1 : ((impl_reached.f k l0_1 l0_2 fv_always).bind fun t265 => ((impl_marked.f k t265).bind fun t268 => (some (t268, true)))) = some (r1, r2) := by rw [if_pos rfl] at H; exact H
  clear H
  have H := H1
  clear H1
  replace H := Option.bind_eq_some_iff.mp H
  obtain ⟨t265, A40, H⟩ := H
  replace H : ((impl_marked.f k t265).bind fun t268 => (some (t268, true))) = some (r1, r2) := H
  have A4 := Aside0.mk A40
  clear A40
  replace H := Option.bind_eq_some_iff.mp H
  obtain ⟨t268, A50, H⟩ := H
  replace H : (some (t268, true)) = some (r1, r2) := H
  have A5 := Aside0.mk A50
  clear A50
  simp only [Option.some.injEq, Prod.mk.injEq] at H
  obtain ⟨rfl, rfl⟩ := H
  go_enter Try.func14, Try.ntmps14
  go_wp2_with (first | ((with_reducible refine gate_dst (N := 1) rfl ?_); refine box_event ?hg (N := 1) ?hd (cs := #[.int .i64 a0_0, .slice A0_1 l0_1.length c0_1, .slice A0_2 l0_2.length c0_2, .slice A0_3 l0_3.length c0_3]) (t := 30) ?hr ?_; (case hd => rfl); (case hg => rfl); (case hr => first | (go_simp; done) | (go_simp; rfl)); intro gb263 hg w6 hbox hb; have n0_ := Aside0.mk (below_step pb_ hb); have n1_ := Aside0.mk (hbox); have n2_ := Aside0.mk ((by rw [hg]; exact (below_size pb_) : w.heap.size ≤ gb263)); have n3_ := Aside0.mk ((by rw [hg]; exact (below_size pb_) : w.heap.size ≤ gb263)); clear HB; have HB := n0_; have BK263 := n1_; have GW263 := n2_; have GE263 := n3_; clear n0_ n1_ n2_ n3_; clear hb hbox hg; have hcz7_0 := bc0 BK263.out; have hcz7_1 := bc1 BK263.out; have hcz7_2 := bc2 BK263.out; have hcz7_3 := bc3 BK263.out; have hfz7_0 := blk_frozen BK263.out 0; have hfz7_1 := blk_frozen BK263.out 1; have hfz7_2 := blk_frozen BK263.out 2; have hfz7_3 := blk_frozen BK263.out 3) | ((with_reducible refine gate_callee (f := 11) rfl ?_); refine goesL_ (some 5) rfl rfl Try.func11 (by kernel_rfl) rfl #[.agg #[.int .i64 a0_0, .slice A0_1 l0_1.length c0_1, .slice A0_2 l0_2.length c0_2, .slice A0_3 l0_3.length c0_3]] rfl (by (try simp only [List.map_toArray, List.map_cons, List.map_nil]); first | done | rfl | (simp only [List.length_drop, List.length_take]; rfl)) ?_; (with_reducible refine (impl_GoodYoung.calls k a0_0 _ _ l0_1 _ _ l0_2 _ _ l0_3 true _ ?side1 ?side2 ?side3 ?side4 ?side5 ?side6 A2.out).mono ?_); (case side1 => exact pc_ (Kd.C_below HR0_1.out HB.out)); (case side2 => exact HC0_1.out); (case side3 => exact pc_ (Kd.C_below HR0_2.out HB.out)); (case side4 => exact HC0_2.out); (case side5 => exact pc_ (Kd.C_below HR0_3.out HB.out)); (case side6 => exact HC0_3.out); rintro e w8 ⟨rfl, hb⟩; refine ⟨_, rfl, ?_⟩; have n0_ := Aside0.mk (blk_below (pk_ BK263.out) hb); have n1_ := Aside0.mk (below_step pb_ hb); clear BK263; clear HB; have BK263 := n0_; have HB := n1_; clear n0_ n1_; (try clear hb); (try clear hb2); (try clear hk); (try clear hi); have hcz9_0 := bc0 BK263.out; have hcz9_1 := bc1 BK263.out; have hcz9_2 := bc2 BK263.out; have hcz9_3 := bc3 BK263.out; have hfz9_0 := blk_frozen BK263.out 0; have hfz9_1 := blk_frozen BK263.out 1; have hfz9_2 := blk_frozen BK263.out 2; have hfz9_3 := blk_frozen BK263.out 3) | ((with_reducible refine gate_callee (f := 40) rfl ?_); refine goesL_ (some 11) rfl rfl Try.func40 (by kernel_rfl) rfl #[.slice A0_1 l0_1.length c0_1, .slice A0_2 l0_2.length c0_2, .func (.func 41) #[] #[]] rfl (by (try simp only [List.map_toArray, List.map_cons, List.map_nil]); first | done | rfl | (simp only [List.length_drop, List.length_take]; rfl)) ?_; (with_reducible refine (impl_reached.calls k _ _ l0_1 _ _ l0_2 fv_always t265 _ ?side1 ?side2 ?side3 ?side4 A4.out).mono ?_); (case side1 => exact pc_ (Kd.C_below HR0_1.out HB.out)); (case side2 => exact HC0_1.out); (case side3 => exact pc_ (Kd.C_below HR0_2.out HB.out)); (case side4 => exact HC0_2.out); rintro e w10 ⟨v266, rfl, ho0, hb⟩; refine ⟨_, rfl, ?_⟩; have n0_ := Aside0.mk (Kd.R_lower ho0 (below_size pb_)); have n1_ := Aside0.mk (blk_below (pk_ BK263.out) hb); have n2_ := Aside0.mk (below_step pb_ hb); clear BK263; clear HB; have HO267 := n0_; have BK263 := n1_; have HB := n2_; clear n0_ n1_ n2_; (try clear hb); (try clear hb2); (try clear hk); (try clear hi); (try clear ho0); obtain ⟨Ao11, co11, eo11⟩ := Kd.R_slice HO267.out; subst eo11) | ((with_reducible refine gate_callee (f := 39) rfl ?_); refine goesL_ (some 12) rfl rfl Try.func39 (by kernel_rfl) rfl #[.slice Ao11 t265.length co11] rfl (by (try simp only [List.map_toArray, List.map_cons, List.map_nil]); first | done | rfl | (simp only [List.length_drop, List.length_take]; rfl)) ?_; (with_reducible refine (impl_marked.calls k _ _ t265 t268 _ ?side1 ?side2 A5.out).mono ?_); (case side1 => repeat (first | exact (Kd.R_reads' HO267.out).2.2 | (with_reducible refine Kd.C_alloc ?_ _) | (with_reducible refine Kd.C_drewN ?_ _) | (with_reducible refine Kd.C_drew ?_))); (case side2 => exact (Kd.R_reads' HO267.out).2.1); rintro e w12 ⟨v269, rfl, ho0, hb⟩; refine ⟨_, rfl, ?_⟩; have n0_ := Aside0.mk (Kd.R_below (pr_ HO267.out) hb); have n1_ := Aside0.mk (Kd.R_lower ho0 (below_size pb_)); have n2_ := Aside0.mk (blk_below (pk_ BK263.out) hb); have n3_ := Aside0.mk (below_step pb_ hb); clear HO267; clear BK263; clear HB; have HO267 := n0_; have HO270 := n1_; have BK263 := n2_; have HB := n3_; clear n0_ n1_ n2_ n3_; (try clear hb); (try clear hb2); (try clear hk); (try clear hi); (try clear ho0)))
  go_ret2
  exact ⟨_, by first | rfl | (simp [errW_none, errW_some] <;> rfl) | (simp [*, errW_none, errW_some] <;> rfl), by (with_reducible repeat (first | apply Kd.R_alloc | apply Kd.R_drewN | apply Kd.R_drew)); exact HO270.out, pb_⟩
 ·replace c3 := Bool.eq_false_iff.mpr c3
  subst c3
  have H1 : (some (([] : List Int), false)) = some (r1, r2) := by rw [if_neg (show ¬ (false = true) by decide)] at H; exact H
  clear H
  have H := H1
  clear H1
  simp only [Option.some.injEq, Prod.mk.injEq] at H
  obtain ⟨rfl, rfl⟩ := H
  go_enter Try.func14, Try.ntmps14
  go_wp2_with (first | ((with_reducible refine gate_dst (N := 1) rfl ?_); refine box_event ?hg (N := 1) ?hd (cs := #[.int .i64 a0_0, .slice A0_1 l0_1.length c0_1, .slice A0_2 l0_2.length c0_2, .slice A0_3 l0_3.length c0_3]) (t := 30) ?hr ?_; (case hd => rfl); (case hg => rfl); (case hr => first | (go_simp; done) | (go_simp; rfl)); intro gb263 hg w13 hbox hb; have n0_ := Aside0.mk (below_step pb_ hb); have n1_ := Aside0.mk (hbox); have n2_ := Aside0.mk ((by rw [hg]; exact (below_size pb_) : w.heap.size ≤ gb263)); have n3_ := Aside0.mk ((by rw [hg]; exact (below_size pb_) : w.heap.size ≤ gb263)); clear HB; have HB := n0_; have BK263 := n1_; have GW263 := n2_; have GE263 := n3_; clear n0_ n1_ n2_ n3_; clear hb hbox hg; have hcz14_0 := bc0 BK263.out; have hcz14_1 := bc1 BK263.out; have hcz14_2 := bc2 BK263.out; have hcz14_3 := bc3 BK263.out; have hfz14_0 := blk_frozen BK263.out 0; have hfz14_1 := blk_frozen BK263.out 1; have hfz14_2 := blk_frozen BK263.out 2; have hfz14_3 := blk_frozen BK263.out 3) | ((with_reducible refine gate_callee (f := 11) rfl ?_); refine goesL_ (some 5) rfl rfl Try.func11 (by kernel_rfl) rfl #[.agg #[.int .i64 a0_0, .slice A0_1 l0_1.length c0_1, .slice A0_2 l0_2.length c0_2, .slice A0_3 l0_3.length c0_3]] rfl (by (try simp only [List.map_toArray, List.map_cons, List.map_nil]); first | done | rfl | (simp only [List.length_drop, List.length_take]; rfl)) ?_; (with_reducible refine (impl_GoodYoung.calls k a0_0 _ _ l0_1 _ _ l0_2 _ _ l0_3 false _ ?side1 ?side2 ?side3 ?side4 ?side5 ?side6 A2.out).mono ?_); (case side1 => exact pc_ (Kd.C_below HR0_1.out HB.out)); (case side2 => exact HC0_1.out); (case side3 => exact pc_ (Kd.C_below HR0_2.out HB.out)); (case side4 => exact HC0_2.out); (case side5 => exact pc_ (Kd.C_below HR0_3.out HB.out)); (case side6 => exact HC0_3.out); rintro e w15 ⟨rfl, hb⟩; refine ⟨_, rfl, ?_⟩; have n0_ := Aside0.mk (blk_below (pk_ BK263.out) hb); have n1_ := Aside0.mk (below_step pb_ hb); clear BK263; clear HB; have BK263 := n0_; have HB := n1_; clear n0_ n1_; (try clear hb); (try clear hb2); (try clear hk); (try clear hi)))
  go_ret2
  exact ⟨_, by first | rfl | (simp [errW_none, errW_some] <;> rfl) | (simp [*, errW_none, errW_some] <;> rfl), by first | exact Kd.R_nil _ _ _ _ _ | exact Kd.N_nil _ _ _ _ _ | exact Kd.V_nil _ _ _ _ _ | exact Kd.Q_nil _ _ _ _ _ | exact Kd.S_nil _ _ _ _ _, pb_⟩
def spec_LiveIn.l0 : Nat → List Int → List Bool → Int → Int → Option (List Int × Bool)
 | 0, _, _, _, _ => none
 | k + 1, x4, x11, x12, x13 => if x13 < x12 then (if 0 ≤ x13 then (if x13 < (x11.length : Int) then (if rdOf false x11 x13 = true then (if x4.length < 17592186044416 then (spec_LiveIn.l0 k (x4 ++ [x13]) x11 x12 (wrap64 (x13 + 1))) else (none)) else (spec_LiveIn.l0 k x4 x11 x12 (wrap64 (x13 + 1)))) else (none)) else (none)) else (some (x4, true))
def spec_LiveIn.f (k : Nat) (a0_0 : Int) (l0_1 : List (S46)) (l0_2 : List Int) (l0_3 : List Int) : Option (List Int × Bool) := (spec_GoodYoung.f k a0_0 l0_1 l0_2 l0_3).bind fun t227 => (if t227 = true then ((spec_lhLive.f k a0_0 l0_1 l0_2 l0_3).bind fun t228 => (spec_LiveIn.l0 k ([] : List Int) t228 (t228.length : Int) 0)) else (some (([] : List Int), false)))
theorem spec_LiveIn.mono_l : ∀ k, (∀ y0 y1 y2 y3, LeO (spec_LiveIn.l0 k y0 y1 y2 y3) (spec_LiveIn.l0 (k + 1) y0 y1 y2 y3))
 | 0 => fun _ _ _ _ r h => by simp [spec_LiveIn.l0] at h
 | k + 1 => by
  have ih0 := spec_LiveIn.mono_l k
  ·intro y0 y1 y2 y3
   unfold spec_LiveIn.l0
   repeat' first
   | (with_reducible exact ih0 _ _ _ _)
   | (with_reducible exact spec_GoodYoung.mono _ _ _ _ _)
   | (with_reducible exact spec_lhLive.mono _ _ _ _ _)
   | (with_reducible exact LeO.refl _)
   | (with_reducible exact LeO.none _)
   | (with_reducible refine LeO.ite ?_ ?_)
   | (with_reducible refine LeO.bind ?_ (fun _ => ?_))
   | exact ih0 _ _ _ _
   | exact spec_GoodYoung.mono _ _ _ _ _
   | exact spec_lhLive.mono _ _ _ _ _
   | exact LeO.none _
   | refine LeO.ite ?_ ?_
   | refine LeO.bind ?_ (fun _ => ?_)
theorem spec_LiveIn.mono : ∀ a0 a1 a2 a3 k, LeO (spec_LiveIn.f k a0 a1 a2 a3) (spec_LiveIn.f (k + 1) a0 a1 a2 a3) := by
 intro a0 a1 a2 a3 k
 have ih0 := spec_LiveIn.mono_l k
 unfold spec_LiveIn.f
 repeat' first
   | (with_reducible exact ih0 _ _ _ _)
   | (with_reducible exact spec_GoodYoung.mono _ _ _ _ _)
   | (with_reducible exact spec_lhLive.mono _ _ _ _ _)
   | (with_reducible exact LeO.refl _)
   | (with_reducible exact LeO.none _)
   | (with_reducible refine LeO.ite ?_ ?_)
   | (with_reducible refine LeO.bind ?_ (fun _ => ?_))
   | exact ih0 _ _ _ _
   | exact spec_GoodYoung.mono _ _ _ _ _
   | exact spec_lhLive.mono _ _ _ _ _
   | exact LeO.none _
   | refine LeO.ite ?_ ?_
   | refine LeO.bind ?_ (fun _ => ?_)
set_option maxHeartbeats 8000000 in
set_option maxRecDepth 100000 in
theorem spec_LiveIn.calls (k : Nat) (a0_0 : Int) (A0_1 : Option Addr) (c0_1 : Nat) (l0_1 : List (S46)) (A0_2 : Option Addr) (c0_2 : Nat) (l0_2 : List Int) (A0_3 : Option Addr) (c0_3 : Nat) (l0_3 : List Int) (r1 : List Int) (r2 : Bool) (w : World) (hr0_1 : Kd.C k46 w A0_1 l0_1.length l0_1) (hc0_1 : l0_1.length ≤ c0_1) (hr0_2 : Kd.C (Kd.int .i64) w A0_2 l0_2.length l0_2) (hc0_2 : l0_2.length ≤ c0_2) (hr0_3 : Kd.C (Kd.int .i64) w A0_3 l0_3.length l0_3) (hc0_3 : l0_3.length ≤ c0_3) (h : spec_LiveIn.f k a0_0 l0_1 l0_2 l0_3 = some (r1, r2)) :
  Calls Try.prog 13 #[.agg #[.int .i64 a0_0, .slice A0_1 l0_1.length c0_1, .slice A0_2 l0_2.length c0_2, .slice A0_3 l0_3.length c0_3]] w fun e w' => ∃ v0_ : Value, e = .returned (.tuple #[v0_, .bool r2]) ∧ Kd.R (Kd.int .i64) 3 w' w.heap.size (fun _ => True) v0_ r1 ∧ Below w.heap.size w w' := by
 have hu30 := Try.underlying30
 have HR0_1 := Aside0.mk hr0_1
 have HC0_1 := Aside0.mk hc0_1
 clear hr0_1 hc0_1
 have HR0_2 := Aside0.mk hr0_2
 have HC0_2 := Aside0.mk hc0_2
 clear hr0_2 hc0_2
 have HR0_3 := Aside0.mk hr0_3
 have HC0_3 := Aside0.mk hc0_3
 clear hr0_3 hc0_3
 have HB := Aside0.mk (Below.refl w.heap.size w)
 have H : ((spec_GoodYoung.f k a0_0 l0_1 l0_2 l0_3).bind fun t227 => (if t227 = true then ((spec_lhLive.f k a0_0 l0_1 l0_2 l0_3).bind fun t228 => (spec_LiveIn.l0 k ([] : List Int) t228 (t228.length : Int) 0)) else (some (([] : List Int), false)))) = some (r1, r2) := h
 clear h
 replace H := Option.bind_eq_some_iff.mp H
 obtain ⟨t227, A20, H⟩ := H
 replace H : (if t227 = true then ((spec_lhLive.f k a0_0 l0_1 l0_2 l0_3).bind fun t228 => (spec_LiveIn.l0 k ([] : List Int) t228 (t228.length : Int) 0)) else (some (([] : List Int), false))) = some (r1, r2) := H
 have A2 := Aside0.mk A20
 clear A20
 by_cases c3 : t227 = true
 ·subst c3
  have H1 : ((spec_lhLive.f k a0_0 l0_1 l0_2 l0_3).bind fun t228 => (spec_LiveIn.l0 k ([] : List Int) t228 (t228.length : Int) 0)) = some (r1, r2) := by rw [if_pos rfl] at H; exact H
  clear H
  have H := H1
  clear H1
  replace H := Option.bind_eq_some_iff.mp H
  obtain ⟨t228, A40, H⟩ := H
  replace H : (spec_LiveIn.l0 k ([] : List Int) t228 (t228.length : Int) 0) = some (r1, r2) := H
  have A4 := Aside0.mk A40
  clear A40
  have H' := Aside0.mk H
  clear H
  go_enter Try.func13, Try.ntmps13
  go_wp2_with (first | ((with_reducible refine gate_dst (N := 1) rfl ?_); refine box_event ?hg (N := 1) ?hd (cs := #[.int .i64 a0_0, .slice A0_1 l0_1.length c0_1, .slice A0_2 l0_2.length c0_2, .slice A0_3 l0_3.length c0_3]) (t := 30) ?hr ?_; (case hd => rfl); (case hg => rfl); (case hr => first | (go_simp; done) | (go_simp; rfl)); intro gb226 hg w5 hbox hb; have n0_ := Aside0.mk (below_step pb_ hb); have n1_ := Aside0.mk (hbox); have n2_ := Aside0.mk ((by rw [hg]; exact (below_size pb_) : w.heap.size ≤ gb226)); have n3_ := Aside0.mk ((by rw [hg]; exact (below_size pb_) : w.heap.size ≤ gb226)); clear HB; have HB := n0_; have BK226 := n1_; have GW226 := n2_; have GE226 := n3_; clear n0_ n1_ n2_ n3_; clear hb hbox hg; have hcz6_0 := bc0 BK226.out; have hcz6_1 := bc1 BK226.out; have hcz6_2 := bc2 BK226.out; have hcz6_3 := bc3 BK226.out; have hfz6_0 := blk_frozen BK226.out 0; have hfz6_1 := blk_frozen BK226.out 1; have hfz6_2 := blk_frozen BK226.out 2; have hfz6_3 := blk_frozen BK226.out 3) | ((with_reducible refine gate_callee (f := 9) rfl ?_); refine goesL_ (some 8) rfl rfl Try.func9 (by kernel_rfl) rfl #[.agg #[.int .i64 a0_0, .slice A0_1 l0_1.length c0_1, .slice A0_2 l0_2.length c0_2, .slice A0_3 l0_3.length c0_3]] rfl (by (try simp only [List.map_toArray, List.map_cons, List.map_nil]); first | done | rfl | (simp only [List.length_drop, List.length_take]; rfl)) ?_; (with_reducible refine (spec_GoodYoung.calls k a0_0 _ _ l0_1 _ _ l0_2 _ _ l0_3 true _ ?side1 ?side2 ?side3 ?side4 ?side5 ?side6 A2.out).mono ?_); (case side1 => exact pc_ (Kd.C_below HR0_1.out HB.out)); (case side2 => exact HC0_1.out); (case side3 => exact pc_ (Kd.C_below HR0_2.out HB.out)); (case side4 => exact HC0_2.out); (case side5 => exact pc_ (Kd.C_below HR0_3.out HB.out)); (case side6 => exact HC0_3.out); rintro e w7 ⟨rfl, hb⟩; refine ⟨_, rfl, ?_⟩; have n0_ := Aside0.mk (blk_below (pk_ BK226.out) hb); have n1_ := Aside0.mk (below_step pb_ hb); clear BK226; clear HB; have BK226 := n0_; have HB := n1_; clear n0_ n1_; (try clear hb); (try clear hb2); (try clear hk); (try clear hi); have hcz8_0 := bc0 BK226.out; have hcz8_1 := bc1 BK226.out; have hcz8_2 := bc2 BK226.out; have hcz8_3 := bc3 BK226.out; have hfz8_0 := blk_frozen BK226.out 0; have hfz8_1 := blk_frozen BK226.out 1; have hfz8_2 := blk_frozen BK226.out 2; have hfz8_3 := blk_frozen BK226.out 3) | ((with_reducible refine gate_callee (f := 38) rfl ?_); refine goesL_ (some 11) rfl rfl Try.func38 (by kernel_rfl) rfl #[.agg #[.int .i64 a0_0, .slice A0_1 l0_1.length c0_1, .slice A0_2 l0_2.length c0_2, .slice A0_3 l0_3.length c0_3]] rfl (by (try simp only [List.map_toArray, List.map_cons, List.map_nil]); first | done | rfl | (simp only [List.length_drop, List.length_take]; rfl)) ?_; (with_reducible refine (spec_lhLive.calls k a0_0 _ _ l0_1 _ _ l0_2 _ _ l0_3 t228 _ ?side1 ?side2 ?side3 ?side4 ?side5 ?side6 A4.out).mono ?_); (case side1 => exact pc_ (Kd.C_below HR0_1.out HB.out)); (case side2 => exact HC0_1.out); (case side3 => exact pc_ (Kd.C_below HR0_2.out HB.out)); (case side4 => exact HC0_2.out); (case side5 => exact pc_ (Kd.C_below HR0_3.out HB.out)); (case side6 => exact HC0_3.out); rintro e w9 ⟨v229, rfl, ho0, hb⟩; refine ⟨_, rfl, ?_⟩; have n0_ := Aside0.mk (Kd.R_lower ho0 (below_size pb_)); have n1_ := Aside0.mk (blk_below (pk_ BK226.out) hb); have n2_ := Aside0.mk (below_step pb_ hb); clear BK226; clear HB; have HO230 := n0_; have BK226 := n1_; have HB := n2_; clear n0_ n1_ n2_; (try clear hb); (try clear hb2); (try clear hk); (try clear hi); (try clear ho0); obtain ⟨Ao10, co10, eo10⟩ := Kd.R_slice HO230.out; subst eo10))
  go_loopg [4, 13] k (fun kq v4 v13 w' => ∃ (x4_1 : List Int) (x13_1 : Int), v13 = .int .i64 x13_1 ∧ Aside0 (spec_LiveIn.l0 kq x4_1 t228 (t228.length : Int) x13_1 = some (r1, r2)) ∧ Aside0 (kq ≤ k) ∧ Aside0 (Kd.R (Kd.int .i64) 3 w' w.heap.size (fun _ => True) v4 x4_1) ∧ Aside0 (Kd.R Kd.bool 4 w' w.heap.size (fun _ => True) (.slice Ao10 t228.length co10) t228) ∧ Aside0 (w'.heap[gb226]? = some (.cells #[.int .i64 a0_0, (.slice A0_1 l0_1.length c0_1), (.slice A0_2 l0_2.length c0_2), (.slice A0_3 l0_3.length c0_3)] 30 (0, 0))) ∧ Aside0 (Below w.heap.size w w'))
  case atStart => exact ⟨(([] : List Int)), (0), (by first | rfl | (simp; done) | (simp [*]; done)), H', ⟨Nat.le_refl _⟩, ⟨by first | exact Kd.R_nil _ _ _ _ _ | exact Kd.N_nil _ _ _ _ _ | exact Kd.V_nil _ _ _ _ _ | exact Kd.Q_nil _ _ _ _ _ | exact Kd.S_nil _ _ _ _ _⟩, ⟨by (with_reducible repeat (first | apply Kd.R_alloc | apply Kd.R_drewN | apply Kd.R_drew)); exact HO230.out⟩, ⟨pk_ BK226.out⟩, ⟨pb_⟩⟩
  case round =>
   clear H'
   try clear c1
   try clear p2
   try clear c3
   try clear c9
   try clear hcz6_0
   try clear hcz6_1
   try clear hcz6_2
   try clear hcz6_3
   try clear hcz8_0
   try clear hcz8_1
   try clear hcz8_2
   try clear hcz8_3
   try clear hfz6_0
   try clear hfz6_1
   try clear hfz6_2
   try clear hfz6_3
   try clear hfz8_0
   try clear hfz8_1
   try clear hfz8_2
   try clear hfz8_3
   obtain ⟨x4_1, x13_1, rfl, HA, HK1, HO_4, HO_11, BK226, HB⟩ := hrel
   cases gk with
   | zero => exact absurd HA.out (by simp [spec_LiveIn.l0])
   | succ k1 =>
    have H := HA.out
    clear HA
    simp only [spec_LiveIn.l0] at H
    by_cases c11 : x13_1 < (t228.length : Int)
    ·rw [if_pos c11] at H
     have c11b0 : decide (x13_1 < (t228.length : Int)) = true := decide_eq_true c11
     clear c11
     by_cases c12 : 0 ≤ x13_1
     ·rw [if_pos c12] at H
      have c12b0 : decide (0 ≤ x13_1) = true := decide_eq_true c12
      clear c12
      by_cases c13 : x13_1 < (t228.length : Int)
      ·rw [if_pos c13] at H
       have c13b0 : decide (x13_1 < (t228.length : Int)) = true := decide_eq_true c13
       clear c13
       obtain ⟨bq14, hbq14⟩ : ∃ b_ : Bool, b_ = (rdOf false t228 x13_1) := ⟨_, rfl⟩
       replace H : (if bq14 = true then (if x4_1.length < 17592186044416 then (spec_LiveIn.l0 k1 (x4_1 ++ [x13_1]) t228 (t228.length : Int) (wrap64 (x13_1 + 1))) else (none)) else (spec_LiveIn.l0 k1 x4_1 t228 (t228.length : Int) (wrap64 (x13_1 + 1)))) = some (r1, r2) := by rw [← hbq14] at H; exact H
       have Nbq14 := Aside0.mk hbq14
       clear hbq14
       by_cases c15 : bq14 = true
       ·subst c15
        have H1 : (if x4_1.length < 17592186044416 then (spec_LiveIn.l0 k1 (x4_1 ++ [x13_1]) t228 (t228.length : Int) (wrap64 (x13_1 + 1))) else (none)) = some (r1, r2) := by rw [if_pos rfl] at H; exact H
        clear H
        have H := H1
        clear H1
        by_cases c16 : x4_1.length < 17592186044416
        ·rw [if_pos c16] at H
         have LMc16 := Aside0.mk c16
         clear c16
         obtain ⟨y232, hy232⟩ : ∃ y_ : List Int, y_ = (x4_1 ++ [x13_1]) := ⟨_, rfl⟩
         replace H : (spec_LiveIn.l0 k1 y232 t228 (t228.length : Int) (wrap64 (x13_1 + 1))) = some (r1, r2) := by first | (rw [hy232]; with_reducible exact H) | (have H2_ := (Option.bind_some _ _).symm.trans H; rw [hy232]; with_reducible exact H2_) | (have H2_ := (Option.bind_some _ _).symm.trans H; with_reducible exact H2_) | with_reducible exact H | (rw [hy232]; exact H) | exact H
         have Ny232 := Aside0.mk hy232
         clear hy232
         have H' := Aside0.mk H
         clear H
         have p231 : 0 ≤ (x13_1 : Int) := of_decide_eq_true (by first | (with_reducible assumption) | assumption)
         have q231 : x13_1 < (t228.length : Int) := of_decide_eq_true (by first | (with_reducible assumption) | assumption)
         obtain ⟨ad231, e231, hx231_0⟩ := Kd.at_bool (Kd.R_reads' HO_11.out).2.2 x13_1 p231 q231
         (try rw [← Nbq14.out] at hx231_0)
         cases e231
         replace p231 := eq_true p231
         replace q231 := eq_true q231
         go_wp2_with (first | ((with_reducible refine gate_builtin (b := .append) (xs := #[.tmp 19, .tmp 21]) rfl ?_); at_builtin; refine Kd.R_append (Kd.int .i64) (w0 := w) w.heap.size rfl (.tmp 19) (.tmp 21) 23 3 (.int .i64 0) 8 rfl Try.underlying23 info3 rfl (by decide) (by omega) u4 x4_1 x13_1 [.int .i64 x13_1] (fun _ => True) (fun _ => False) rfl rfl ?aP (fun _ hk => hk.elim) ?aF ?aO ?aB ?aS ?aL ?_; (case aP => exact rfl); (case aB => exact pb_); (case aF => exact (fun _ _ => trivial)); (case aO => exact (pr_ HO_4.out)); (case aS => exact (below_size pb_)); (case aL => have := LMc16.out; omega); intro v233 w17 ho hb hg hat; rw [← Ny232.out] at ho; have n0_ := Aside0.mk (Kd.R_over' (pr_ HO_11.out) (Kd.R_typed (pr_ HO_4.out)) (by decide) hg); have n1_ := Aside0.mk (blk_grown (g := gb226) (o := .cells #[.int .i64 a0_0, .slice A0_1 l0_1.length c0_1, .slice A0_2 l0_2.length c0_2, .slice A0_3 l0_3.length c0_3] 30 (0, 0)) (pk_ BK226.out) hg (Kd.R_ne HO_4.out BK226.out (by decide))); have n2_ := Aside0.mk (hb); have n3_ := Aside0.mk (ho); clear HO_11; clear BK226; clear HB; clear HO_4; have HO_11 := n0_; have BK226 := n1_; have HB := n2_; have HO234 := n3_; clear n0_ n1_ n2_ n3_; clear ho hb hg hat))
         go_roundg k1
         case measure => have := HK1.out; omega
         case rel => exact ⟨(y232), (wrap64 (x13_1 + 1)), (by first | rfl | (simp; done) | (simp [*]; done)), H', ⟨by have := HK1.out; omega⟩, ⟨by (with_reducible repeat (first | apply Kd.R_alloc | apply Kd.R_drewN | apply Kd.R_drew)); exact HO234.out⟩, ⟨by (with_reducible repeat (first | apply Kd.R_alloc | apply Kd.R_drewN | apply Kd.R_drew)); exact HO_11.out⟩, ⟨pk_ BK226.out⟩, ⟨pb_⟩⟩
        ·rw [if_neg c16] at H
         exact absurd H (by simp)
       ·replace c15 := Bool.eq_false_iff.mpr c15
        subst c15
        have H1 : (spec_LiveIn.l0 k1 x4_1 t228 (t228.length : Int) (wrap64 (x13_1 + 1))) = some (r1, r2) := by rw [if_neg (show ¬ (false = true) by decide)] at H; exact H
        clear H
        have H := H1
        clear H1
        have H' := Aside0.mk H
        clear H
        have p231 : 0 ≤ (x13_1 : Int) := of_decide_eq_true (by first | (with_reducible assumption) | assumption)
        have q231 : x13_1 < (t228.length : Int) := of_decide_eq_true (by first | (with_reducible assumption) | assumption)
        obtain ⟨ad231, e231, hx231_0⟩ := Kd.at_bool (Kd.R_reads' HO_11.out).2.2 x13_1 p231 q231
        (try rw [← Nbq14.out] at hx231_0)
        cases e231
        replace p231 := eq_true p231
        replace q231 := eq_true q231
        go_wp2
        go_roundg k1
        case measure => have := HK1.out; omega
        case rel => exact ⟨(x4_1), (wrap64 (x13_1 + 1)), (by first | rfl | (simp; done) | (simp [*]; done)), H', ⟨by have := HK1.out; omega⟩, ⟨by (with_reducible repeat (first | apply Kd.R_alloc | apply Kd.R_drewN | apply Kd.R_drew)); exact HO_4.out⟩, ⟨by (with_reducible repeat (first | apply Kd.R_alloc | apply Kd.R_drewN | apply Kd.R_drew)); exact HO_11.out⟩, ⟨pk_ BK226.out⟩, ⟨pb_⟩⟩
      ·rw [if_neg c13] at H
       exact absurd H (by simp)
     ·rw [if_neg c12] at H
      exact absurd H (by simp)
    ·rw [if_neg c11] at H
     have c11b0 : decide (x13_1 < (t228.length : Int)) = false := decide_eq_false c11
     clear c11
     simp only [Option.some.injEq, Prod.mk.injEq] at H
     obtain ⟨rfl, rfl⟩ := H
     go_wp2
     go_ret2
     exact ⟨_, by first | rfl | (simp [errW_none, errW_some] <;> rfl) | (simp [*, errW_none, errW_some] <;> rfl), by (with_reducible repeat (first | apply Kd.R_alloc | apply Kd.R_drewN | apply Kd.R_drew)); exact HO_4.out, pb_⟩
 ·replace c3 := Bool.eq_false_iff.mpr c3
  subst c3
  have H1 : (some (([] : List Int), false)) = some (r1, r2) := by rw [if_neg (show ¬ (false = true) by decide)] at H; exact H
  clear H
  have H := H1
  clear H1
  simp only [Option.some.injEq, Prod.mk.injEq] at H
  obtain ⟨rfl, rfl⟩ := H
  go_enter Try.func13, Try.ntmps13
  go_wp2_with (first | ((with_reducible refine gate_dst (N := 1) rfl ?_); refine box_event ?hg (N := 1) ?hd (cs := #[.int .i64 a0_0, .slice A0_1 l0_1.length c0_1, .slice A0_2 l0_2.length c0_2, .slice A0_3 l0_3.length c0_3]) (t := 30) ?hr ?_; (case hd => rfl); (case hg => rfl); (case hr => first | (go_simp; done) | (go_simp; rfl)); intro gb226 hg w18 hbox hb; have n0_ := Aside0.mk (below_step pb_ hb); have n1_ := Aside0.mk (hbox); have n2_ := Aside0.mk ((by rw [hg]; exact (below_size pb_) : w.heap.size ≤ gb226)); have n3_ := Aside0.mk ((by rw [hg]; exact (below_size pb_) : w.heap.size ≤ gb226)); clear HB; have HB := n0_; have BK226 := n1_; have GW226 := n2_; have GE226 := n3_; clear n0_ n1_ n2_ n3_; clear hb hbox hg; have hcz19_0 := bc0 BK226.out; have hcz19_1 := bc1 BK226.out; have hcz19_2 := bc2 BK226.out; have hcz19_3 := bc3 BK226.out; have hfz19_0 := blk_frozen BK226.out 0; have hfz19_1 := blk_frozen BK226.out 1; have hfz19_2 := blk_frozen BK226.out 2; have hfz19_3 := blk_frozen BK226.out 3) | ((with_reducible refine gate_callee (f := 9) rfl ?_); refine goesL_ (some 8) rfl rfl Try.func9 (by kernel_rfl) rfl #[.agg #[.int .i64 a0_0, .slice A0_1 l0_1.length c0_1, .slice A0_2 l0_2.length c0_2, .slice A0_3 l0_3.length c0_3]] rfl (by (try simp only [List.map_toArray, List.map_cons, List.map_nil]); first | done | rfl | (simp only [List.length_drop, List.length_take]; rfl)) ?_; (with_reducible refine (spec_GoodYoung.calls k a0_0 _ _ l0_1 _ _ l0_2 _ _ l0_3 false _ ?side1 ?side2 ?side3 ?side4 ?side5 ?side6 A2.out).mono ?_); (case side1 => exact pc_ (Kd.C_below HR0_1.out HB.out)); (case side2 => exact HC0_1.out); (case side3 => exact pc_ (Kd.C_below HR0_2.out HB.out)); (case side4 => exact HC0_2.out); (case side5 => exact pc_ (Kd.C_below HR0_3.out HB.out)); (case side6 => exact HC0_3.out); rintro e w20 ⟨rfl, hb⟩; refine ⟨_, rfl, ?_⟩; have n0_ := Aside0.mk (blk_below (pk_ BK226.out) hb); have n1_ := Aside0.mk (below_step pb_ hb); clear BK226; clear HB; have BK226 := n0_; have HB := n1_; clear n0_ n1_; (try clear hb); (try clear hb2); (try clear hk); (try clear hi)))
  go_ret2
  exact ⟨_, by first | rfl | (simp [errW_none, errW_some] <;> rfl) | (simp [*, errW_none, errW_some] <;> rfl), by first | exact Kd.R_nil _ _ _ _ _ | exact Kd.N_nil _ _ _ _ _ | exact Kd.V_nil _ _ _ _ _ | exact Kd.Q_nil _ _ _ _ _ | exact Kd.S_nil _ _ _ _ _, pb_⟩
end Go.Proofs.Ytpjikgeglhjehaa.PH
/- Plain law: what is marked in the argument and in the result is held there; LiveIn's two ways. -/
namespace Go.Proofs.Ytpjikgeglhjehaa.Pl
open Go.RowKit Go.Proofs.Ytpjikgeglhjehaa.PH Go.Proofs.YtpjikgeglhjehaaW.PrintWords Go.Proofs.YtpjikgeglhjehaaW.PrintLast
set_option linter.unusedVariables false
set_option linter.unusedSimpArgs false
/-- Numbers counted up. -/
def ups (k : Int) : Nat → List Int
  | 0 => []
  | n + 1 => k :: ups (k + 1) n
theorem ups_length (k : Int) (n : Nat) : (ups k n).length = n := by induction n generalizing k <;> simp_all [ups]
theorem ups_get (k : Int) (n i : Nat) (h : i < n) : (ups k n)[i]? = some (k + i) := by
  induction n generalizing k i with
  | zero => omega
  | succ n ih =>
    cases i with
    | zero => simp [ups]
    | succ i => simp only [ups, List.getElem?_cons_succ]; rw [ih (k + 1) i (by omega)]; congr 1; omega
theorem take_set {α : Type} (l : List α) (i : Nat) (x : α) (h : i < l.length) : (l.set i x).take (i + 1) = l.take i ++ [x] := by
  rw [List.take_add_one, List.take_set, List.set_eq_of_length_le (by simp; omega)]
  simp [h]
theorem markInt_ev (l : List Int) (k : Int) (hl : l.length ≤ 10000000) (h0 : 0 ≤ k) (hk : k ≤ 1000000000) : Ev (fun f => laws_markIntS.f f l k) (k + l.length, ups k l.length) := by
  have key : ∀ d (i : Nat) (x : List Int), i + d = l.length → x.length = l.length → x.take i = ups k i → Ev (fun f => laws_markIntS.l0 f x (k + i) (i : Int)) (k + l.length, ups k l.length) := by
    intro d
    induction d with
    | zero =>
      intro i x hi hx ht
      refine Ev.succ ?_
      simp only [laws_markIntS.l0, if_neg (show ¬ (i : Int) < (x.length : Int) by omega)]
      refine Ev.const ?_
      rw [List.take_of_length_le (by omega)] at ht
      rw [ht, show i = l.length from by omega]
    | succ d ih =>
      intro i x hi hx ht
      refine Ev.succ ?_
      simp only [laws_markIntS.l0, if_pos (show (i : Int) < (x.length : Int) by omega), if_pos (show (0 : Int) ≤ (i : Int) by omega), Int.toNat_natCast,
        show wrap64 ((i : Int) + 1) = ((i + 1 : Nat) : Int) from by rw [w64 (by omega) (by omega)]; rfl, show wrap64 (k + (i : Int) + 1) = k + ((i + 1 : Nat) : Int) from by rw [w64 (by omega) (by omega)]; omega]
      refine ih (i + 1) (x.set i (k + i)) (by omega) (by simpa using hx) ?_
      rw [take_set _ _ _ (by omega), ht]
      refine List.ext_getElem? fun j => ?_
      rcases Nat.lt_trichotomy j i with hj | hj | hj
      · rw [List.getElem?_append_left (by rw [ups_length]; exact hj), ups_get _ _ _ hj, ups_get _ _ _ (by omega)]
      · subst hj
        rw [List.getElem?_append_right (by rw [ups_length]; omega), ups_length, Nat.sub_self, ups_get _ _ _ (by omega)]
        rfl
      · rw [List.getElem?_eq_none (by simp [ups_length]; omega), List.getElem?_eq_none (by rw [ups_length]; omega)]
  unfold laws_markIntS.f
  have := key l.length 0 l (by omega) rfl rfl
  simpa using this
theorem heldInt_ev (n : Nat) (k : Int) (hl : n ≤ 10000000) (h0 : 0 ≤ k) (hk : k ≤ 1000000000) : Ev (fun f => laws_heldIntS.f f (ups k n) k) (k + n) := by
  have key : ∀ d (i : Nat), i + d = n → Ev (fun f => laws_heldIntS.l0 f (ups k n) (k + i) (i : Int)) (k + n) := by
    intro d
    induction d with
    | zero =>
      intro i hi
      refine Ev.succ ?_
      simp only [laws_heldIntS.l0, if_neg (show ¬ (i : Int) < ((ups k n).length : Int) by rw [ups_length]; omega)]
      exact Ev.const (by rw [show i = n from by omega])
    | succ d ih =>
      intro i hi
      have hr : rd (ups k n) (i : Int) = k + i := by
        have := ups_get k n i (by omega)
        simp [rd, List.getD_eq_getElem?_getD, this]
      refine Ev.succ ?_
      simp only [laws_heldIntS.l0, if_pos (show (i : Int) < ((ups k n).length : Int) by rw [ups_length]; omega), if_pos (show (0 : Int) ≤ (i : Int) by omega), if_pos hr,
        show wrap64 ((i : Int) + 1) = ((i + 1 : Nat) : Int) from by rw [w64 (by omega) (by omega)]; rfl, show wrap64 (k + (i : Int) + 1) = k + ((i + 1 : Nat) : Int) from by rw [w64 (by omega) (by omega)]; omega]
      exact ih (i + 1) (by omega)
  unfold laws_heldIntS.f
  have := key n 0 (by omega)
  simpa using this
/-- Cells counted up. -/
def upc (k : Int) : Nat → List S46
  | 0 => []
  | n + 1 => ⟨Int.tmod k 3 == 0, k + 1, k + 1 + 1, k + 1 + 1 + 1⟩ :: upc (k + 4) n
theorem upc_length (k : Int) (n : Nat) : (upc k n).length = n := by induction n generalizing k <;> simp_all [upc]
theorem upc_get (k : Int) (n i : Nat) (h : i < n) : (upc k n)[i]? = some ⟨Int.tmod (k + 4 * i) 3 == 0, k + 4 * i + 1, k + 4 * i + 1 + 1, k + 4 * i + 1 + 1 + 1⟩ := by
  induction n generalizing k i with
  | zero => omega
  | succ n ih =>
    cases i with
    | zero => simp [upc]
    | succ i =>
      simp only [upc, List.getElem?_cons_succ]
      rw [ih (k + 4) i (by omega), show k + 4 + 4 * (i : Int) = k + 4 * ((i + 1 : Nat) : Int) from by omega]
theorem rd46 {l : List S46} {i : Nat} {x : S46} (h : l[i]? = some x) : rd_T46 l (i : Int) = x := by simp [rd_T46, List.getD_eq_getElem?_getD, h]
theorem rd46_set {l : List S46} {i : Nat} {x : S46} (h : i < l.length) : rd_T46 (l.set i x) (i : Int) = x := rd46 (by simp [h])
theorem markCell_ev (l : List S46) (k : Int) (hl : l.length ≤ 10000000) (h0 : 0 ≤ k) (hk : k ≤ 1000000000) : Ev (fun f => laws_markCellS.f f l k) (k + 4 * l.length, upc k l.length) := by
  have key : ∀ d (i : Nat) (x : List S46), i + d = l.length → x.length = l.length → x.take i = upc k i → Ev (fun f => laws_markCellS.l0 f x (k + 4 * i) (i : Int)) (k + 4 * l.length, upc k l.length) := by
    intro d
    induction d with
    | zero =>
      intro i x hi hx ht
      refine Ev.succ ?_
      simp only [laws_markCellS.l0, if_neg (show ¬ (i : Int) < (x.length : Int) by omega)]
      refine Ev.const ?_
      rw [List.take_of_length_le (by omega)] at ht
      rw [ht, show i = l.length from by omega]
    | succ d ih =>
      intro i x hi hx ht
      have w1 : wrap64 (k + 4 * (i : Int) + 1) = k + 4 * (i : Int) + 1 := w64 (by omega) (by omega)
      have w2 : wrap64 (k + 4 * (i : Int) + 1 + 1) = k + 4 * (i : Int) + 1 + 1 := w64 (by omega) (by omega)
      have w3 : wrap64 (k + 4 * (i : Int) + 1 + 1 + 1) = k + 4 * (i : Int) + 1 + 1 + 1 := w64 (by omega) (by omega)
      have w4 : wrap64 (k + 4 * (i : Int) + 1 + 1 + 1 + 1) = k + 4 * ((i + 1 : Nat) : Int) := by rw [w64 (by omega) (by omega)]; omega
      have hxi : i < x.length := by omega
      refine Ev.succ ?_
      simp only [laws_markCellS.l0, if_pos (show (i : Int) < (x.length : Int) by omega), if_pos (show (0 : Int) ≤ (i : Int) by omega), Int.toNat_natCast, Option.bind_some, w1, w2, w3, w4,
        show wrap64 ((i : Int) + 1) = ((i + 1 : Nat) : Int) from by rw [w64 (by omega) (by omega)]; rfl, List.set_set, rd46_set hxi]
      refine ih (i + 1) _ (by omega) (by simpa using hx) ?_
      rw [take_set _ _ _ (by omega), ht]
      refine List.ext_getElem? fun j => ?_
      rcases Nat.lt_trichotomy j i with hj | hj | hj
      · rw [List.getElem?_append_left (by rw [upc_length]; exact hj), upc_get _ _ _ hj, upc_get _ _ _ (by omega)]
      · subst hj
        rw [List.getElem?_append_right (by rw [upc_length]; omega), upc_length, Nat.sub_self, upc_get _ _ _ (by omega)]
        rfl
      · rw [List.getElem?_eq_none (by simp [upc_length]; omega), List.getElem?_eq_none (by rw [upc_length]; omega)]
  unfold laws_markCellS.f
  have := key l.length 0 l (by omega) rfl rfl
  simpa using this
theorem markYoung_ev (o : Int) (c : List S46) (r n : List Int) (k : Int) (hc : c.length ≤ 2000000) (hr : r.length ≤ 2000000) (hn : n.length ≤ 2000000) (h0 : 0 ≤ k) (hk : k ≤ 1000) :
    Ev (fun f => laws_markYoung.f f o c r n k) (k + 4 * c.length + r.length + n.length, upc k c.length, ups (k + 4 * c.length) r.length, ups (k + 4 * c.length + r.length) n.length) := by
  unfold laws_markYoung.f
  refine Ev.bnd _ (markCell_ev c k (by omega) h0 (by omega)) ?_
  refine Ev.bnd _ (markInt_ev r (k + 4 * c.length) (by omega) (by omega) (by omega)) ?_
  refine Ev.bnd _ (markInt_ev n (k + 4 * c.length + r.length) (by omega) (by omega) (by omega)) ?_
  exact Ev.const rfl
theorem dropB (l : List Bool) (i : Nat) (h : i < l.length) : l.drop i = rdOf false l (i : Int) :: l.drop (i + 1) := drop_getD l false i h
end Go.Proofs.Ytpjikgeglhjehaa.Pl
/- Plain law: moving the cells that stay to the front gives the same by both ways. -/
namespace Go.Proofs.Ytpjikgeglhjehaa.Pl
open Go.RowKit Go.Proofs.Ytpjikgeglhjehaa.PH Go.Proofs.YtpjikgeglhjehaaW.PrintWords Go.Proofs.YtpjikgeglhjehaaW.PrintLast
set_option linter.unusedVariables false
set_option linter.unusedSimpArgs false
theorem heldCell_ev (n : Nat) (k : Int) (hl : n ≤ 10000000) (h0 : 0 ≤ k) (hk : k ≤ 1000000000) : Ev (fun f => laws_heldCellS.f f (upc k n) k) (k + 4 * n) := by
  have key : ∀ d (i : Nat), i + d = n → Ev (fun f => laws_heldCellS.l0 f (upc k n) (k + 4 * i) (i : Int)) (k + 4 * n) := by
    intro d
    induction d with
    | zero =>
      intro i hi
      refine Ev.succ ?_
      simp only [laws_heldCellS.l0, if_neg (show ¬ (i : Int) < ((upc k n).length : Int) by rw [upc_length]; omega)]
      exact Ev.const (by rw [show i = n from by omega])
    | succ d ih =>
      intro i hi
      have w1 : wrap64 (k + 4 * (i : Int) + 1) = k + 4 * (i : Int) + 1 := w64 (by omega) (by omega)
      have w2 : wrap64 (k + 4 * (i : Int) + 1 + 1) = k + 4 * (i : Int) + 1 + 1 := w64 (by omega) (by omega)
      have w3 : wrap64 (k + 4 * (i : Int) + 1 + 1 + 1) = k + 4 * (i : Int) + 1 + 1 + 1 := w64 (by omega) (by omega)
      have w4 : wrap64 (k + 4 * (i : Int) + 1 + 1 + 1 + 1) = k + 4 * ((i + 1 : Nat) : Int) := by rw [w64 (by omega) (by omega)]; omega
      have hr := rd46 (upc_get k n i (by omega))
      refine Ev.succ ?_
      simp only [laws_heldCellS.l0, hr, w1, w2, w3, w4, bne_self_eq_false, Bool.false_eq_true, if_false, if_true, if_pos (show (i : Int) < ((upc k n).length : Int) by rw [upc_length]; omega), if_pos (show (0 : Int) ≤ (i : Int) by omega),
        show wrap64 ((i : Int) + 1) = ((i + 1 : Nat) : Int) from by rw [w64 (by omega) (by omega)]; rfl]
      exact ih (i + 1) (by omega)
  unfold laws_heldCellS.f
  have := key n 0 (by omega)
  simpa using this
theorem heldYoung_ev (o : Int) (c r n : Nat) (k : Int) (hc : c ≤ 2000000) (hr : r ≤ 2000000) (hn : n ≤ 2000000) (h0 : 0 ≤ k) (hk : k ≤ 1000) :
    Ev (fun f => laws_heldYoung.f f o (upc k c) (ups (k + 4 * c) r) (ups (k + 4 * c + r) n) k) (k + 4 * c + r + n) := by
  have z1 : ¬ (k + 4 * (c : Int) < 0) := by omega
  have z2 : ¬ (k + 4 * (c : Int) + (r : Int) < 0) := by omega
  have z3 : ¬ (k + 4 * (c : Int) + (r : Int) + (n : Int) < 0) := by omega
  unfold laws_heldYoung.f
  refine Ev.bnd _ (heldCell_ev c k (by omega) h0 (by omega)) ?_
  simp only [if_neg z1]
  refine Ev.bnd _ (heldInt_ev r (k + 4 * c) (by omega) (by omega) (by omega)) ?_
  simp only [if_neg z2]
  refine Ev.bnd _ (heldInt_ev n (k + 4 * c + r) (by omega) (by omega) (by omega)) ?_
  simp only [if_neg z3]
  exact Ev.const rfl
/-- How many stay ahead of a place. -/
def cnt (m : List Bool) (i : Int) : Int := ((m.take i.toNat).count true : Nat)
theorem cnt_zero (m : List Bool) : cnt m 0 = 0 := by simp [cnt]
theorem cnt_le (m : List Bool) (i : Nat) : 0 ≤ cnt m i ∧ cnt m i ≤ i := by
  unfold cnt
  have h1 : (m.take i).count true ≤ (m.take i).length := List.count_le_length
  have h2 : (m.take i).length ≤ i := by rw [List.length_take]; omega
  simp only [Int.toNat_natCast]
  omega
theorem cnt_on (m : List Bool) (i : Nat) (h : i < m.length) (hk : rdOf false m (i : Int) = true) : cnt m ((i + 1 : Nat) : Int) = cnt m i + 1 := by
  unfold cnt
  simp only [rdOf, Int.toNat_natCast, List.getD_eq_getElem?_getD, List.getElem?_eq_getElem h, Option.getD_some] at hk
  simp only [Int.toNat_natCast, List.take_add_one, List.getElem?_eq_getElem h, List.count_append, hk]
  simp
theorem cnt_off (m : List Bool) (i : Nat) (h : i < m.length) (hk : rdOf false m (i : Int) = false) : cnt m ((i + 1 : Nat) : Int) = cnt m i := by
  unfold cnt
  simp only [rdOf, Int.toNat_natCast, List.getD_eq_getElem?_getD, List.getElem?_eq_getElem h, Option.getD_some] at hk
  simp only [Int.toNat_natCast, List.take_add_one, List.getElem?_eq_getElem h, List.count_append, hk]
  simp
theorem rd_set (t : List Int) (i j : Nat) (x : Int) (h : i < t.length) : rd (t.set i x) (j : Int) = if j = i then x else rd t j := by
  unfold rd
  simp only [Int.toNat_natCast, List.getD_eq_getElem?_getD, List.getElem?_set]
  by_cases hj : i = j
  · subst hj; simp [h]
  · rw [if_neg hj, if_neg (fun h => hj h.symm)]
/-- A table that holds a number for each cell that stays. -/
def Tb (m : List Bool) (c : List S46) (t : List Int) : Prop := t.length = c.length ∧ ∀ j : Nat, K m j → rd t j = cnt m j
theorem specNum (o : Int) (c : List S46) (r n : List Int) (m : List Bool) (hl : m.length = c.length) (hm : m.length ≤ 1000) :
    ∃ t, Tb m c t ∧ ∀ R, Ev (fun k => spec_lhMove.l1 k m t c (c.length : Int) 0 o c r n (cnt m m.length) []) R → Ev (fun k => spec_lhMove.f k o c r n m) R := by
  have key : ∀ d (i : Nat) (t : List Int), i + d = m.length → t.length = c.length → (∀ j : Nat, j < i → K m j → rd t j = cnt m j) →
      ∃ t', Tb m c t' ∧ ∀ R, Ev (fun k => spec_lhMove.l1 k m t' c (c.length : Int) 0 o c r n (cnt m m.length) []) R → Ev (fun k => spec_lhMove.l0 k m t (cnt m i) m (m.length : Int) (i : Int) o c r n) R := by
    intro d
    induction d with
    | zero =>
      intro i t hi ht hg
      refine ⟨t, ⟨ht, fun j hj => hg j (by have := K_lt (Int.natCast_nonneg j) hj; omega) hj⟩, fun R h => Ev.succ ?_⟩
      simp only [spec_lhMove.l0, if_neg (show ¬ (i : Int) < (m.length : Int) by omega)]
      rw [show i = m.length from by omega]
      exact h
    | succ d ih =>
      intro i t hi ht hg
      have hb := cnt_le m i
      have w1 : wrap64 ((i : Int) + 1) = ((i + 1 : Nat) : Int) := by rw [w64 (by omega) (by omega)]; rfl
      have w2 : wrap64 (cnt m i + 1) = cnt m i + 1 := w64 (by omega) (by omega)
      cases e : rdOf false m (i : Int) with
      | true =>
        obtain ⟨t', a, b⟩ := ih (i + 1) (t.set i (cnt m i)) (by omega) (by simpa using ht) (fun j hj hk => by
          rw [rd_set _ _ _ _ (by omega)]
          by_cases hji : j = i
          · rw [if_pos hji, hji]
          · rw [if_neg hji]; exact hg j (by omega) hk)
        refine ⟨t', a, fun R h => Ev.succ ?_⟩
        simp only [spec_lhMove.l0, e, if_true, if_pos (show (i : Int) < (m.length : Int) by omega), if_pos (show (0 : Int) ≤ (i : Int) by omega), if_pos (show (i : Int) < (t.length : Int) by omega), Int.toNat_natCast, w1, w2]
        rw [← cnt_on m i (by omega) e]
        exact b R h
      | false =>
        obtain ⟨t', a, b⟩ := ih (i + 1) t (by omega) ht (fun j hj hk => by
          by_cases hji : j = i
          · subst hji; rw [K, e] at hk; simp at hk
          · exact hg j (by omega) hk)
        refine ⟨t', a, fun R h => Ev.succ ?_⟩
        simp only [spec_lhMove.l0, e, Bool.false_eq_true, if_false, if_pos (show (i : Int) < (m.length : Int) by omega), if_pos (show (0 : Int) ≤ (i : Int) by omega), w1, w2]
        rw [← cnt_off m i (by omega) e]
        exact b R h
  obtain ⟨t, a, b⟩ := key m.length 0 (List.replicate c.length 0) (by omega) (by simp) (fun j hj => by omega)
  refine ⟨t, a, fun R h => ?_⟩
  unfold spec_lhMove.f
  simp only [if_pos (show (0 : Int) ≤ (c.length : Int) by omega), Int.toNat_natCast, if_pos (show c.length ≤ 35184372088832 by omega)]
  have := b R h
  rw [show ((0 : Nat) : Int) = 0 from rfl, cnt_zero] at this
  exact this
theorem implNum (c : List S46) (r : List Int) (m : List Bool) (hl : m.length = c.length) (hm : m.length ≤ 1000) :
    ∃ t, Tb m c t ∧ ∀ R, Ev (fun k => impl_kept.l1 k r m t [] [] c (c.length : Int) 0) R → Ev (fun k => impl_kept.f k c r m) R := by
  have key : ∀ d (i : Nat) (t : List Int), i + d = m.length → t.length = c.length → (∀ j : Nat, j < i → K m j → rd t j = cnt m j) →
      ∃ t', Tb m c t' ∧ ∀ R, Ev (fun k => impl_kept.l1 k r m t' [] [] c (c.length : Int) 0) R → Ev (fun k => impl_kept.l0 k c r m t [] [] (cnt m i) m (m.length : Int) (i : Int)) R := by
    intro d
    induction d with
    | zero =>
      intro i t hi ht hg
      refine ⟨t, ⟨ht, fun j hj => hg j (by have := K_lt (Int.natCast_nonneg j) hj; omega) hj⟩, fun R h => Ev.succ ?_⟩
      simp only [impl_kept.l0, if_neg (show ¬ (i : Int) < (m.length : Int) by omega)]
      exact h
    | succ d ih =>
      intro i t hi ht hg
      have hb := cnt_le m i
      have w1 : wrap64 ((i : Int) + 1) = ((i + 1 : Nat) : Int) := by rw [w64 (by omega) (by omega)]; rfl
      have w2 : wrap64 (cnt m i + 1) = cnt m i + 1 := w64 (by omega) (by omega)
      obtain ⟨t', a, b⟩ := ih (i + 1) (t.set i (cnt m i)) (by omega) (by simpa using ht) (fun j hj hk => by
        rw [rd_set _ _ _ _ (by omega)]
        by_cases hji : j = i
        · rw [if_pos hji, hji]
        · rw [if_neg hji]; exact hg j (by omega) hk)
      refine ⟨t', a, fun R h => Ev.succ ?_⟩
      cases e : rdOf false m (i : Int) with
      | true =>
        simp only [impl_kept.l0, e, if_true, if_pos (show (i : Int) < (m.length : Int) by omega), if_pos (show (0 : Int) ≤ (i : Int) by omega), if_pos (show (i : Int) < (t.length : Int) by omega), Int.toNat_natCast, Option.bind_some, w1, w2]
        have := b R h
        rw [cnt_on m i (by omega) e] at this
        exact this
      | false =>
        simp only [impl_kept.l0, e, Bool.false_eq_true, if_false, if_pos (show (i : Int) < (m.length : Int) by omega), if_pos (show (0 : Int) ≤ (i : Int) by omega), if_pos (show (i : Int) < (t.length : Int) by omega), Int.toNat_natCast, Option.bind_some, w1, w2]
        have := b R h
        rw [cnt_off m i (by omega) e] at this
        exact this
  obtain ⟨t, a, b⟩ := key m.length 0 (List.replicate c.length 0) (by omega) (by simp) (fun j hj => by omega)
  refine ⟨t, a, fun R h => ?_⟩
  unfold impl_kept.f
  simp only [if_pos (show (0 : Int) ≤ (c.length : Int) by omega), Int.toNat_natCast, if_pos (show c.length ≤ 35184372088832 by omega)]
  have := b R h
  rw [show ((0 : Nat) : Int) = 0 from rfl, cnt_zero] at this
  exact this
/-- A cell that stays, with its new names. -/
def mvC (m : List Bool) (x : S46) : S46 := if x.f0 = true then x else ⟨x.f0, x.f1, cnt m x.f2, cnt m x.f3⟩
/-- The cells that stay. -/
def mvCs (m : List Bool) : List S46 → List Bool → List S46
  | x :: c, b :: l => if b = true then mvC m x :: mvCs m c l else mvCs m c l
  | _, _ => []
theorem mvCs_len (m : List Bool) (c : List S46) (l : List Bool) : (mvCs m c l).length ≤ l.length := by
  induction c generalizing l with
  | nil => simp [mvCs]
  | cons x c ih =>
    cases l with
    | nil => simp [mvCs]
    | cons b l =>
      unfold mvCs
      have := ih l
      split <;> simp <;> omega
theorem mvCs_count (m : List Bool) (c : List S46) (l : List Bool) (h : l.length = c.length) : (mvCs m c l).length = l.count true := by
  induction c generalizing l with
  | nil =>
    obtain rfl := List.eq_nil_of_length_eq_zero h
    simp [mvCs]
  | cons x c ih =>
    cases l with
    | nil => simp at h
    | cons b l =>
      unfold mvCs
      have := ih l (by simpa using h)
      cases b <;> simp [this]
/-- What stays names what stays. -/
def Cl (m : List Bool) (c : List S46) : Prop := ∀ i : Nat, K m i → (rd_T46 c i).f0 = false → (0 ≤ (rd_T46 c i).f2 ∧ K m (rd_T46 c i).f2) ∧ (0 ≤ (rd_T46 c i).f3 ∧ K m (rd_T46 c i).f3)
theorem Tb.rd {m : List Bool} {c : List S46} {t : List Int} (h : Tb m c t) {j : Int} (h0 : 0 ≤ j) (hk : K m j) : rd t j = cnt m j := by
  obtain ⟨n, rfl⟩ := Int.eq_ofNat_of_zero_le h0
  exact h.2 n hk
theorem dropC (c : List S46) (i : Nat) (h : i < c.length) : c.drop i = rd_T46 c (i : Int) :: c.drop (i + 1) := drop_getD c _ i h
theorem specCellsMv (o : Int) (c : List S46) (r n : List Int) (m : List Bool) (t : List Int) (N : Int) (hl : m.length = c.length) (hm : m.length ≤ 1000) (ht : Tb m c t) (hc : Cl m c) (R : Int × List S46 × List Int × List Int)
    (h : Ev (fun k => spec_lhMove.l2 k t r (r.length : Int) 0 N (mvCs m c m) []) R) : Ev (fun k => spec_lhMove.l1 k m t c (c.length : Int) 0 o c r n N []) R := by
  have key : ∀ d (i : Nat) (acc : List S46), i + d = c.length → acc.length ≤ i → acc ++ mvCs m (c.drop i) (m.drop i) = mvCs m c m → Ev (fun k => spec_lhMove.l1 k m t c (c.length : Int) (i : Int) o c r n N acc) R := by
    intro d
    induction d with
    | zero =>
      intro i acc hi ha he
      refine Ev.succ ?_
      simp only [spec_lhMove.l1, if_neg (show ¬ (i : Int) < (c.length : Int) by omega)]
      rw [List.drop_eq_nil_of_le (by omega)] at he
      simp only [mvCs, List.append_nil] at he
      rw [he]
      exact h
    | succ d ih =>
      intro i acc hi ha he
      have w1 : wrap64 ((i : Int) + 1) = ((i + 1 : Nat) : Int) := by rw [w64 (by omega) (by omega)]; rfl
      rw [dropC c i (by omega), dropB m i (by omega)] at he
      refine Ev.succ ?_
      simp only [spec_lhMove.l1, if_pos (show (i : Int) < (c.length : Int) by omega), if_pos (show (0 : Int) ≤ (i : Int) by omega), if_pos (show (i : Int) < (m.length : Int) by omega), w1]
      cases e : rdOf false m (i : Int) with
      | false =>
        simp only [Bool.false_eq_true, if_false]
        exact ih (i + 1) acc (by omega) (by omega) (by simpa [mvCs, e] using he)
      | true =>
        simp only [if_true]
        cases el : (rd_T46 c i).f0 with
        | true =>
          simp only [if_true, if_pos (show acc.length < 4398046511104 by omega)]
          refine ih (i + 1) _ (by omega) (by simp; omega) ?_
          rw [← he]
          have hx : mvC m (rd_T46 c i) = ⟨true, (rd_T46 c i).f1, (rd_T46 c i).f2, (rd_T46 c i).f3⟩ := by
            rw [mvC, if_pos el]; cases hh : rd_T46 c i; simp_all
          simp [mvCs, e, hx]
        | false =>
          obtain ⟨⟨a0, a1⟩, b0, b1⟩ := hc i e el
          have a2 := K_lt a0 a1
          have b2 := K_lt b0 b1
          have tl := ht.1
          simp only [Bool.false_eq_true, if_false, if_pos a0, if_pos b0, if_pos (show (rd_T46 c i).f2 < (t.length : Int) by omega), if_pos (show (rd_T46 c i).f3 < (t.length : Int) by omega), if_pos (show acc.length < 4398046511104 by omega), ht.rd a0 a1, ht.rd b0 b1]
          refine ih (i + 1) _ (by omega) (by simp; omega) ?_
          rw [← he]
          simp [mvCs, e, mvC, el]
  exact key c.length 0 [] (by omega) (by simp) (by simp)
theorem implCellsMv (c : List S46) (r : List Int) (m : List Bool) (t : List Int) (hl : m.length = c.length) (hm : m.length ≤ 1000) (ht : Tb m c t) (hc : Cl m c) (R : List S46 × List Int)
    (h : Ev (fun k => impl_kept.l2 k t (mvCs m c m) [] r (r.length : Int) 0) R) : Ev (fun k => impl_kept.l1 k r m t [] [] c (c.length : Int) 0) R := by
  have key : ∀ d (i : Nat) (acc : List S46), i + d = c.length → acc.length ≤ i → acc ++ mvCs m (c.drop i) (m.drop i) = mvCs m c m → Ev (fun k => impl_kept.l1 k r m t acc [] c (c.length : Int) (i : Int)) R := by
    intro d
    induction d with
    | zero =>
      intro i acc hi ha he
      refine Ev.succ ?_
      simp only [impl_kept.l1, if_neg (show ¬ (i : Int) < (c.length : Int) by omega)]
      rw [List.drop_eq_nil_of_le (by omega)] at he
      simp only [mvCs, List.append_nil] at he
      rw [he]
      exact h
    | succ d ih =>
      intro i acc hi ha he
      have w1 : wrap64 ((i : Int) + 1) = ((i + 1 : Nat) : Int) := by rw [w64 (by omega) (by omega)]; rfl
      rw [dropC c i (by omega), dropB m i (by omega)] at he
      refine Ev.succ ?_
      simp only [impl_kept.l1, if_pos (show (i : Int) < (c.length : Int) by omega), if_pos (show (0 : Int) ≤ (i : Int) by omega), if_pos (show (i : Int) < (m.length : Int) by omega), w1]
      cases e : rdOf false m (i : Int) with
      | false =>
        simp only [Bool.false_eq_true, if_false]
        exact ih (i + 1) acc (by omega) (by omega) (by simpa [mvCs, e] using he)
      | true =>
        simp only [if_true]
        cases el : (rd_T46 c i).f0 with
        | true =>
          simp only [if_true, if_pos (show acc.length < 4398046511104 by omega)]
          refine ih (i + 1) _ (by omega) (by simp; omega) ?_
          rw [← he]
          have hx : mvC m (rd_T46 c i) = ⟨true, (rd_T46 c i).f1, (rd_T46 c i).f2, (rd_T46 c i).f3⟩ := by
            rw [mvC, if_pos el]; cases hh : rd_T46 c i; simp_all
          simp [mvCs, e, hx]
        | false =>
          obtain ⟨⟨a0, a1⟩, b0, b1⟩ := hc i e el
          have a2 := K_lt a0 a1
          have b2 := K_lt b0 b1
          have tl := ht.1
          simp only [Bool.false_eq_true, if_false, if_pos a0, if_pos b0, if_pos (show (rd_T46 c i).f2 < (t.length : Int) by omega), if_pos (show (rd_T46 c i).f3 < (t.length : Int) by omega), if_pos (show acc.length < 4398046511104 by omega), ht.rd a0 a1, ht.rd b0 b1]
          refine ih (i + 1) _ (by omega) (by simp; omega) ?_
          rw [← he]
          simp [mvCs, e, mvC, el]
  exact key c.length 0 [] (by omega) (by simp) (by simp)
theorem specRootsMv (m : List Bool) (c C : List S46) (r t : List Int) (N : Int) (hl : m.length = c.length) (hr : r.length ≤ 1000) (ht : Tb m c t) (hk : ∀ x ∈ r, 0 ≤ x ∧ K m x) :
    Ev (fun k => spec_lhMove.l2 k t r (r.length : Int) 0 N C []) (N, C, r.map (cnt m), []) := by
  have key : ∀ d (i : Nat), i + d = r.length → Ev (fun k => spec_lhMove.l2 k t r (r.length : Int) (i : Int) N C ((r.take i).map (cnt m))) (N, C, r.map (cnt m), []) := by
    intro d
    induction d with
    | zero =>
      intro i hi
      refine Ev.succ ?_
      simp only [spec_lhMove.l2, if_neg (show ¬ (i : Int) < (r.length : Int) by omega)]
      exact Ev.const (by rw [List.take_of_length_le (by omega)])
    | succ d ih =>
      intro i hi
      have w1 : wrap64 ((i : Int) + 1) = ((i + 1 : Nat) : Int) := by rw [w64 (by omega) (by omega)]; rfl
      obtain ⟨x0, x1⟩ := hk _ (rd_mem r (i : Int) (by omega) (by omega))
      have x2 := K_lt x0 x1
      have tl := ht.1
      refine Ev.succ ?_
      simp only [spec_lhMove.l2, if_pos (show (i : Int) < (r.length : Int) by omega), if_pos (show (0 : Int) ≤ (i : Int) by omega), if_pos x0, if_pos (show rd r (i : Int) < (t.length : Int) by omega), w1, ht.rd x0 x1,
        if_pos (show ((r.take i).map (cnt m)).length < 17592186044416 by simp; omega)]
      have := ih (i + 1) (by omega)
      rw [List.take_add_one, rd_some r i (by omega)] at this
      simpa using this
  have := key r.length 0 (by omega)
  simpa using this
theorem implRootsMv (m : List Bool) (c C : List S46) (r t : List Int) (hl : m.length = c.length) (hr : r.length ≤ 1000) (ht : Tb m c t) (hk : ∀ x ∈ r, 0 ≤ x ∧ K m x) :
    Ev (fun k => impl_kept.l2 k t C [] r (r.length : Int) 0) (C, r.map (cnt m)) := by
  have key : ∀ d (i : Nat), i + d = r.length → Ev (fun k => impl_kept.l2 k t C ((r.take i).map (cnt m)) r (r.length : Int) (i : Int)) (C, r.map (cnt m)) := by
    intro d
    induction d with
    | zero =>
      intro i hi
      refine Ev.succ ?_
      simp only [impl_kept.l2, if_neg (show ¬ (i : Int) < (r.length : Int) by omega)]
      exact Ev.const (by rw [List.take_of_length_le (by omega)])
    | succ d ih =>
      intro i hi
      have w1 : wrap64 ((i : Int) + 1) = ((i + 1 : Nat) : Int) := by rw [w64 (by omega) (by omega)]; rfl
      obtain ⟨x0, x1⟩ := hk _ (rd_mem r (i : Int) (by omega) (by omega))
      have x2 := K_lt x0 x1
      have tl := ht.1
      refine Ev.succ ?_
      simp only [impl_kept.l2, if_pos (show (i : Int) < (r.length : Int) by omega), if_pos (show (0 : Int) ≤ (i : Int) by omega), if_pos x0, if_pos (show rd r (i : Int) < (t.length : Int) by omega), w1, ht.rd x0 x1,
        if_pos (show ((r.take i).map (cnt m)).length < 17592186044416 by simp; omega)]
      have := ih (i + 1) (by omega)
      rw [List.take_add_one, rd_some r i (by omega)] at this
      simpa using this
  have := key r.length 0 (by omega)
  simpa using this
/-- Both move alike. -/
theorem move_same (o : Int) (c : List S46) (r n : List Int) (m : List Bool) (hl : m.length = c.length) (hm : m.length ≤ 1000) (hr : r.length ≤ 1000) (hc : Cl m c) (hk : ∀ x ∈ r, 0 ≤ x ∧ K m x) :
    Ev (fun k => spec_lhMove.f k o c r n m) (cnt m m.length, mvCs m c m, r.map (cnt m), []) ∧ Ev (fun k => impl_Young_stay.f k o c r n m) (cnt m m.length, mvCs m c m, r.map (cnt m), []) := by
  obtain ⟨t, ht, h⟩ := specNum o c r n m hl hm
  obtain ⟨t', ht', h'⟩ := implNum c r m hl hm
  refine ⟨h _ (specCellsMv o c r n m t _ hl hm ht hc _ (specRootsMv m c _ r t _ hl hr ht hk)), ?_⟩
  unfold impl_Young_stay.f
  refine Ev.bnd _ (h' _ (implCellsMv c r m t' hl hm ht' hc _ (implRootsMv m c _ r t' hl hr ht' hk))) ?_
  refine Ev.const ?_
  have : ((mvCs m c m).length : Int) = cnt m m.length := by
    rw [mvCs_count m c m hl]; simp [cnt]
  simp only [this]
end Go.Proofs.Ytpjikgeglhjehaa.Pl
/- Plain law: the young collection leaves the same by both ways. -/
namespace Go.Proofs.Ytpjikgeglhjehaa.Pl
open Go.RowKit Go.Proofs.Ytpjikgeglhjehaa.PH Go.Proofs.YtpjikgeglhjehaaW.PrintWords Go.Proofs.YtpjikgeglhjehaaW.PrintLast
set_option linter.unusedVariables false
set_option linter.unusedSimpArgs false
/-- There are at most as many notes as old cells. -/
theorem good_notes {o : Int} {c : List S46} {r n : List Int} (h : good o c r n = true) : n.length ≤ 200 := by
  obtain ⟨_, hc, _, _, ho, _, hn, _⟩ := good_wf h
  have hs : ∀ i : Nat, i < n.length → (i : Int) ≤ rd n i := by
    unfold good at h
    simp only [Bool.and_eq_true] at h
    intro i
    induction i with
    | zero => intro hi; exact (hn 0 hi).1
    | succ i ih =>
      intro hi
      have := allFrom_at h.1.1.2 (i + 1) (rd n ((i + 1 : Nat) : Int)) (rd_some n (i + 1) hi)
      unfold noteOk at this
      simp only [Bool.and_eq_true, Bool.or_eq_true, decide_eq_true_eq, Nat.zero_add] at this
      have h2 := ih (by omega)
      have h3 : ((i + 1 : Nat) : Int) - 1 = (i : Int) := by omega
      rw [h3] at this
      omega
  by_cases hl : n.length ≤ 200
  · exact hl
  · have h1 := hs 200 (by omega)
    have h2 := (hn 200 (by omega)).2
    omega
/-- Marking: what was marked stays so; what is new is closed and reached. -/
structure Mk (c : List S46) (on : Int → Prop) (S : Int → Prop) (k k' : List Bool) : Prop where
  len : k'.length = c.length
  mono : ∀ i, 0 ≤ i → K k i → K k' i
  new : ∀ i, 0 ≤ i → K k' i → ¬ K k i → (on i → (rd_T46 c i).f0 = false → K k' (rd_T46 c i).f2 ∧ K k' (rd_T46 c i).f3) ∧ Rch c on S i
theorem Mk.refl {c : List S46} {on S : Int → Prop} {k : List Bool} (h : k.length = c.length) : Mk c on S k k := ⟨h, fun _ _ h => h, fun _ _ h h' => absurd h h'⟩
theorem Mk.trans {c : List S46} {on S : Int → Prop} {k k1 k2 : List Bool} (hw : Wf c) (h : Mk c on S k k1) (h' : Mk c on S k1 k2) : Mk c on S k k2 :=
  ⟨h'.len, fun i hi hk => h'.mono i hi (h.mono i hi hk), fun j hj hk hn => by
    by_cases hk1 : K k1 j
    · obtain ⟨p, q⟩ := h.new j hj hk1 hn
      refine ⟨fun ho hl => ?_, q⟩
      have hlt := K_lt hj hk1
      obtain ⟨⟨a0, _⟩, b0, _⟩ := hw j hj (by have := h.len; omega) hl
      exact ⟨h'.mono _ a0 (p ho hl).1, h'.mono _ b0 (p ho hl).2⟩
    · exact h'.new j hj hk hk1⟩
/-- One mark. -/
theorem mk_ev (o : Int) (c : List S46) (r n : List Int) (S : Int → Prop) (hw : Wf c) (keep : List Bool) (x : Int) (hl : keep.length = c.length) (h0 : 0 ≤ x) (h1 : x < (c.length : Int)) (hS : S x) :
    ∃ k', Mk c (On o true) S keep k' ∧ K k' x ∧ Ev (fun k => spec_lhMark.f k o c r n x keep true) k' := by
  obtain ⟨k1, e1, l1, m1, t1, n1⟩ := mark_ev o c r n true hw (lack keep) keep x hl h0 h1 (Nat.le_refl _)
  exact ⟨k1, ⟨l1, m1, fun j hj h h' => ⟨(n1 j hj h h').1, Rch.mono (fun z hz => by rw [hz]; exact .src hS) (n1 j hj h h').2⟩⟩, t1, e1⟩
/-- Where the young collection begins. -/
def Src (c : List S46) (r n : List Int) (i : Int) : Prop := i ∈ r ∨ ∃ x ∈ n, (rd_T46 c x).f0 = false ∧ (i = (rd_T46 c x).f2 ∨ i = (rd_T46 c x).f3)
theorem specRootsY (o : Int) (c : List S46) (r n : List Int) (hw : Wf c) (hr : ∀ x ∈ r, 0 ≤ x ∧ x < (c.length : Int)) (hrl : r.length ≤ 1000) (keep : List Bool) (hk : keep.length = c.length) :
    ∃ k', Mk c (On o true) (Src c r n) keep k' ∧ (∀ x ∈ r, K k' x) ∧ ∀ R, Ev (fun k => spec_lhYoung.l1 k k' n (n.length : Int) 0 o c r n) R → Ev (fun k => spec_lhYoung.l0 k keep r (r.length : Int) 0 o c r n) R := by
  have key : ∀ d (i : Nat) (keep : List Bool), i + d = r.length → keep.length = c.length →
      ∃ k', Mk c (On o true) (Src c r n) keep k' ∧ (∀ x ∈ r.drop i, K k' x) ∧ ∀ R, Ev (fun k => spec_lhYoung.l1 k k' n (n.length : Int) 0 o c r n) R → Ev (fun k => spec_lhYoung.l0 k keep r (r.length : Int) (i : Int) o c r n) R := by
    intro d
    induction d with
    | zero =>
      intro i keep hi hk
      refine ⟨keep, .refl hk, fun x hx => ?_, fun R h => Ev.succ ?_⟩
      · rw [List.drop_eq_nil_of_le (by omega)] at hx; simp at hx
      · simp only [spec_lhYoung.l0, if_neg (show ¬ (i : Int) < (r.length : Int) by omega)]
        exact h
    | succ d ih =>
      intro i keep hi hk
      have hm := rd_mem r (i : Int) (by omega) (by omega)
      obtain ⟨h0, h1⟩ := hr _ hm
      obtain ⟨k1, m1, t1, e1⟩ := mk_ev o c r n (Src c r n) hw keep (rd r (i : Int)) hk h0 h1 (Or.inl hm)
      obtain ⟨k2, m2, t2, e2⟩ := ih (i + 1) k1 (by omega) m1.len
      refine ⟨k2, m1.trans hw m2, fun x hx => ?_, fun R h => Ev.succ ?_⟩
      · rw [drop_rd r i (by omega)] at hx
        rcases List.mem_cons.1 hx with rfl | hx
        · exact m2.mono _ h0 t1
        · exact t2 x hx
      · simp only [spec_lhYoung.l0, if_pos (show (i : Int) < (r.length : Int) by omega), if_pos (show (0 : Int) ≤ (i : Int) by omega),
          show wrap64 ((i : Int) + 1) = ((i + 1 : Nat) : Int) from by rw [w64 (by omega) (by omega)]; rfl]
        exact Ev.bnd _ e1 (e2 R h)
  simpa using key r.length 0 keep (by omega) hk
theorem specNotesY (o : Int) (c : List S46) (r n : List Int) (hw : Wf c) (hn : ∀ x ∈ n, 0 ≤ x ∧ x < (c.length : Int)) (hnl : n.length ≤ 1000) (keep : List Bool) (hk : keep.length = c.length) :
    ∃ k', Mk c (On o true) (Src c r n) keep k' ∧ (∀ x ∈ n, (rd_T46 c x).f0 = false → K k' (rd_T46 c x).f2 ∧ K k' (rd_T46 c x).f3) ∧ ∀ R, Ev (fun k => spec_lhYoung.l2 k k' 0 o c r n) R → Ev (fun k => spec_lhYoung.l1 k keep n (n.length : Int) 0 o c r n) R := by
  have key : ∀ d (i : Nat) (keep : List Bool), i + d = n.length → keep.length = c.length →
      ∃ k', Mk c (On o true) (Src c r n) keep k' ∧ (∀ x ∈ n.drop i, (rd_T46 c x).f0 = false → K k' (rd_T46 c x).f2 ∧ K k' (rd_T46 c x).f3) ∧ ∀ R, Ev (fun k => spec_lhYoung.l2 k k' 0 o c r n) R → Ev (fun k => spec_lhYoung.l1 k keep n (n.length : Int) (i : Int) o c r n) R := by
    intro d
    induction d with
    | zero =>
      intro i keep hi hk
      refine ⟨keep, .refl hk, fun x hx => ?_, fun R h => Ev.succ ?_⟩
      · rw [List.drop_eq_nil_of_le (by omega)] at hx; simp at hx
      · simp only [spec_lhYoung.l1, if_neg (show ¬ (i : Int) < (n.length : Int) by omega)]
        exact h
    | succ d ih =>
      intro i keep hi hk
      have hm := rd_mem n (i : Int) (by omega) (by omega)
      obtain ⟨h0, h1⟩ := hn _ hm
      have w1 : wrap64 ((i : Int) + 1) = ((i + 1 : Nat) : Int) := by rw [w64 (by omega) (by omega)]; rfl
      cases hf : (rd_T46 c (rd n (i : Int))).f0 with
      | true =>
        obtain ⟨k2, m2, t2, e2⟩ := ih (i + 1) keep (by omega) hk
        refine ⟨k2, m2, fun x hx hx0 => ?_, fun R h => Ev.succ ?_⟩
        · rw [drop_rd n i (by omega)] at hx
          rcases List.mem_cons.1 hx with rfl | hx
          · rw [hf] at hx0; simp at hx0
          · exact t2 x hx hx0
        · simp only [spec_lhYoung.l1, if_pos (show (i : Int) < (n.length : Int) by omega), if_pos (show (0 : Int) ≤ (i : Int) by omega), if_pos h0, if_pos h1, hf, if_true, w1]
          exact e2 R h
      | false =>
        obtain ⟨⟨a0, a1⟩, b0, b1⟩ := hw _ h0 h1 hf
        obtain ⟨ka, ma, ta, ea⟩ := mk_ev o c r n (Src c r n) hw keep _ hk a0 a1 (Or.inr ⟨_, hm, hf, Or.inl rfl⟩)
        obtain ⟨kb, mb, tb, eb⟩ := mk_ev o c r n (Src c r n) hw ka _ ma.len b0 b1 (Or.inr ⟨_, hm, hf, Or.inr rfl⟩)
        obtain ⟨k2, m2, t2, e2⟩ := ih (i + 1) kb (by omega) mb.len
        refine ⟨k2, (ma.trans hw mb).trans hw m2, fun x hx hx0 => ?_, fun R h => Ev.succ ?_⟩
        · rw [drop_rd n i (by omega)] at hx
          rcases List.mem_cons.1 hx with rfl | hx
          · exact ⟨m2.mono _ a0 (mb.mono _ a0 ta), m2.mono _ b0 tb⟩
          · exact t2 x hx hx0
        · simp only [spec_lhYoung.l1, if_pos (show (i : Int) < (n.length : Int) by omega), if_pos (show (0 : Int) ≤ (i : Int) by omega), if_pos h0, if_pos h1, hf, Bool.false_eq_true, if_false, w1]
          exact Ev.bnd _ ea (Ev.bnd _ eb (e2 R h))
  simpa using key n.length 0 keep (by omega) hk
/-- All old cells are kept. -/
theorem specOld (o : Int) (c : List S46) (r n : List Int) (h0 : 0 ≤ o) (ho : o ≤ (c.length : Int)) (hc : c.length ≤ 200) (keep : List Bool) (hk : keep.length = c.length) :
    ∃ k' : List Bool, k'.length = c.length ∧ (∀ j, 0 ≤ j → (K k' j ↔ (K keep j ∨ j < o))) ∧ ∀ R, Ev (fun k => spec_lhMove.f k o c r n k') R → Ev (fun k => spec_lhYoung.l2 k keep 0 o c r n) R := by
  have key : ∀ (d i : Nat) (keep : List Bool), (i : Int) + d = o → keep.length = c.length →
      ∃ k' : List Bool, k'.length = c.length ∧ (∀ j, 0 ≤ j → (K k' j ↔ (K keep j ∨ ((i : Int) ≤ j ∧ j < o)))) ∧ ∀ R, Ev (fun k => spec_lhMove.f k o c r n k') R → Ev (fun k => spec_lhYoung.l2 k keep (i : Int) o c r n) R := by
    intro d
    induction d with
    | zero =>
      intro i keep hi hk
      refine ⟨keep, hk, fun j hj => ⟨Or.inl, fun h => h.elim id (fun h => by omega)⟩, fun R h => Ev.succ ?_⟩
      simp only [spec_lhYoung.l2, if_neg (show ¬ (i : Int) < o by omega)]
      exact Ev.bnd _ h (Ev.const rfl)
    | succ d ih =>
      intro i keep hi hk
      have w1 : wrap64 ((i : Int) + 1) = ((i + 1 : Nat) : Int) := by rw [w64 (by omega) (by omega)]; rfl
      obtain ⟨k2, l2, p2, e2⟩ := ih (i + 1) (keep.set i true) (by omega) (by simpa using hk)
      refine ⟨k2, l2, fun j hj => ?_, fun R h => Ev.succ ?_⟩
      · rw [p2 j hj]
        have := K_set (l := keep) (i := (i : Int)) (by omega) (by omega) j hj
        rw [Int.toNat_natCast] at this
        rw [this]
        constructor
        · rintro ((h | h) | h)
          · exact Or.inr ⟨by omega, by omega⟩
          · exact Or.inl h
          · exact Or.inr ⟨by omega, h.2⟩
        · rintro (h | h)
          · exact Or.inl (Or.inr h)
          · by_cases hji : j = (i : Int)
            · exact Or.inl (Or.inl hji)
            · exact Or.inr ⟨by omega, h.2⟩
      · simp only [spec_lhYoung.l2, if_pos (show (i : Int) < o by omega), if_pos (show (0 : Int) ≤ (i : Int) by omega), if_pos (show (i : Int) < (keep.length : Int) by omega), Int.toNat_natCast, w1]
        exact e2 R h
  obtain ⟨k', a, b, d⟩ := key o.toNat 0 keep (by omega) hk
  exact ⟨k', a, fun j hj => by rw [b j hj]; exact ⟨fun h => h.elim Or.inl (fun h => Or.inr h.2), fun h => h.elim Or.inl (fun h => Or.inr ⟨by omega, h⟩)⟩, d⟩
theorem implOld (o : Int) (c : List S46) (r n : List Int) (h0 : 0 ≤ o) (ho : o ≤ (c.length : Int)) (hc : c.length ≤ 200) (keep : List Bool) (hk : keep.length = c.length) :
    ∃ k' : List Bool, k'.length = c.length ∧ (∀ j, 0 ≤ j → (K k' j ↔ (K keep j ∨ j < o))) ∧ ∀ R, Ev (fun k => impl_Young_stay.f k o c r n k') R → Ev (fun k => impl_Young_young.l1 k keep o 0 o c r n) R := by
  have key : ∀ (d i : Nat) (keep : List Bool), (i : Int) + d = o → keep.length = c.length →
      ∃ k' : List Bool, k'.length = c.length ∧ (∀ j, 0 ≤ j → (K k' j ↔ (K keep j ∨ ((i : Int) ≤ j ∧ j < o)))) ∧ ∀ R, Ev (fun k => impl_Young_stay.f k o c r n k') R → Ev (fun k => impl_Young_young.l1 k keep o (i : Int) o c r n) R := by
    intro d
    induction d with
    | zero =>
      intro i keep hi hk
      refine ⟨keep, hk, fun j hj => ⟨Or.inl, fun h => h.elim id (fun h => by omega)⟩, fun R h => Ev.succ ?_⟩
      simp only [impl_Young_young.l1, if_neg (show ¬ (i : Int) < o by omega)]
      exact Ev.bnd _ h (Ev.const rfl)
    | succ d ih =>
      intro i keep hi hk
      have w1 : wrap64 ((i : Int) + 1) = ((i + 1 : Nat) : Int) := by rw [w64 (by omega) (by omega)]; rfl
      obtain ⟨k2, l2, p2, e2⟩ := ih (i + 1) (keep.set i true) (by omega) (by simpa using hk)
      refine ⟨k2, l2, fun j hj => ?_, fun R h => Ev.succ ?_⟩
      · rw [p2 j hj]
        have := K_set (l := keep) (i := (i : Int)) (by omega) (by omega) j hj
        rw [Int.toNat_natCast] at this
        rw [this]
        constructor
        · rintro ((h | h) | h)
          · exact Or.inr ⟨by omega, by omega⟩
          · exact Or.inl h
          · exact Or.inr ⟨by omega, h.2⟩
        · rintro (h | h)
          · exact Or.inl (Or.inr h)
          · by_cases hji : j = (i : Int)
            · exact Or.inl (Or.inl hji)
            · exact Or.inr ⟨by omega, h.2⟩
      · simp only [impl_Young_young.l1, if_pos (show (i : Int) < o by omega), if_pos (show (0 : Int) ≤ (i : Int) by omega), if_pos (show (i : Int) < (keep.length : Int) by omega), Int.toNat_natCast, w1]
        exact e2 R h
  obtain ⟨k', a, b, d⟩ := key o.toNat 0 keep (by omega) hk
  exact ⟨k', a, fun j hj => by rw [b j hj]; exact ⟨fun h => h.elim Or.inl (fun h => Or.inr h.2), fun h => h.elim Or.inl (fun h => Or.inr ⟨by omega, h⟩)⟩, d⟩
/-- The parts of a cell. -/
def kid (c : List S46) (x : Int) : List Int := if (rd_T46 c x).f0 = true then [] else [(rd_T46 c x).f2, (rd_T46 c x).f3]
theorem kid_len (c : List S46) (x : Int) : (kid c x).length ≤ 2 := by unfold kid; split <;> simp
theorem kids_len (c : List S46) (n : List Int) : (n.flatMap (kid c)).length ≤ 2 * n.length := by
  induction n with
  | nil => simp
  | cons x n ih =>
    have := kid_len c x
    simp only [List.flatMap_cons, List.length_append, List.length_cons]
    omega
theorem implFrom (o : Int) (c : List S46) (r n : List Int) (hn : ∀ x ∈ n, 0 ≤ x ∧ x < (c.length : Int)) (hnl : n.length ≤ 1000) (hrl : r.length ≤ 1000) (R : Int × List S46 × List Int × List Int)
    (h : Ev (fun k => (impl_reached.f k c (r ++ n.flatMap (kid c)) (fv_young #[] o r)).bind fun t => impl_Young_young.l1 k t o 0 o c r n) R) :
    Ev (fun k => impl_Young_young.l0 k r n (n.length : Int) 0 o c r n) R := by
  have key : ∀ d (i : Nat) (x3 : List Int), i + d = n.length → x3.length ≤ 1000 + 2 * i → x3 ++ (n.drop i).flatMap (kid c) = r ++ n.flatMap (kid c) → Ev (fun k => impl_Young_young.l0 k x3 n (n.length : Int) (i : Int) o c r n) R := by
    intro d
    induction d with
    | zero =>
      intro i x3 hi hx he
      rw [List.drop_eq_nil_of_le (by omega)] at he
      simp only [List.flatMap_nil, List.append_nil] at he
      refine Ev.succ ?_
      simp only [impl_Young_young.l0, if_neg (show ¬ (i : Int) < (n.length : Int) by omega), he]
      exact h
    | succ d ih =>
      intro i x3 hi hx he
      have hm := rd_mem n (i : Int) (by omega) (by omega)
      obtain ⟨h0, h1⟩ := hn _ hm
      have w1 : wrap64 ((i : Int) + 1) = ((i + 1 : Nat) : Int) := by rw [w64 (by omega) (by omega)]; rfl
      rw [drop_rd n i (by omega)] at he
      refine Ev.succ ?_
      cases hf : (rd_T46 c (rd n (i : Int))).f0 with
      | true =>
        simp only [impl_Young_young.l0, if_pos (show (i : Int) < (n.length : Int) by omega), if_pos (show (0 : Int) ≤ (i : Int) by omega), if_pos h0, if_pos h1, hf, if_true, w1]
        exact ih (i + 1) x3 (by omega) (by omega) (by simpa [kid, hf] using he)
      | false =>
        simp only [impl_Young_young.l0, if_pos (show (i : Int) < (n.length : Int) by omega), if_pos (show (0 : Int) ≤ (i : Int) by omega), if_pos h0, if_pos h1, hf, Bool.false_eq_true, if_false, w1, Option.bind_some,
          if_pos (show x3.length + [(rd_T46 c (rd n (i : Int))).f2, (rd_T46 c (rd n (i : Int))).f3].length < 17592186044416 by simp; omega)]
        exact ih (i + 1) _ (by omega) (by simp; omega) (by simpa [kid, hf] using he)
  exact key n.length 0 r (by omega) (by omega) (by simp)
theorem young_same (o : Int) (c : List S46) (r n : List Int) (hg : good o c r n = true) :
    ∃ m : List Bool, m.length = c.length ∧ Ev (fun k => spec_lhYoung.f k o c r n) (cnt m m.length, mvCs m c m, r.map (cnt m), []) ∧ Ev (fun k => impl_Young_young.f k o c r n) (cnt m m.length, mvCs m c m, r.map (cnt m), []) := by
  have hnl := good_notes hg
  obtain ⟨hw, hc, hrl, h0, ho, hr, hn, hold⟩ := good_wf hg
  have hn' : ∀ x ∈ n, 0 ≤ x ∧ x < (c.length : Int) := fun x hx => by
    obtain ⟨j, hj, rfl⟩ := List.getElem_of_mem hx
    have := hn j hj
    simp only [rd, Int.toNat_natCast, List.getD_eq_getElem?_getD, List.getElem?_eq_getElem hj, Option.getD_some] at this
    omega
  -- the reference
  obtain ⟨k1, m1, t1, e1⟩ := specRootsY o c r n hw hr (by omega) (List.replicate c.length false) (by simp)
  obtain ⟨k2, m2, t2, e2⟩ := specNotesY o c r n hw hn' (by omega) k1 m1.len
  obtain ⟨m, l3, p3, e3⟩ := specOld o c r n h0 ho hc k2 m2.len
  have mk := m1.trans hw m2
  have hS : ∀ i, Src c r n i → 0 ≤ i ∧ i < (c.length : Int) ∧ K k2 i := by
    rintro i (hi | ⟨x, hx, hf, hi⟩)
    · exact ⟨(hr i hi).1, (hr i hi).2, m2.mono i (hr i hi).1 (t1 i hi)⟩
    · obtain ⟨a, b⟩ := hw x (hn' x hx).1 (hn' x hx).2 hf
      rcases hi with rfl | rfl
      · exact ⟨a.1, a.2, (t2 x hx hf).1⟩
      · exact ⟨b.1, b.2, (t2 x hx hf).2⟩
  have hk2 : ∀ i, 0 ≤ i → (K k2 i ↔ Rch c (On o true) (Src c r n) i) := fun i hi =>
    ⟨fun h => (mk.new i hi h (K_rep _ _)).2, fun h => (Rch.in_ hw hS (fun j hj hk ho hf => (mk.new j hj hk (K_rep _ _)).1 ho hf) h).2.2⟩
  -- the program
  have hfl := kids_len c n
  have hfr : ∀ x ∈ r ++ n.flatMap (kid c), 0 ≤ x ∧ x < (c.length : Int) := fun x hx => by
    rcases List.mem_append.1 hx with hx | hx
    · exact hr x hx
    · obtain ⟨y, hy, hx⟩ := List.mem_flatMap.1 hx
      unfold kid at hx
      split at hx
      · simp at hx
      · rename_i hf
        obtain ⟨a, b⟩ := hw y (hn' y hy).1 (hn' y hy).2 (by simpa using hf)
        simp only [List.mem_cons, List.not_mem_nil, or_false] at hx
        rcases hx with rfl | rfl
        · exact a
        · exact b
  obtain ⟨q, eq, lq, pq⟩ := reached_all c (r ++ n.flatMap (kid c)) (fv_young #[] o r) hw hc hfr (by simp only [List.length_append]; omega)
  obtain ⟨m', l4, p4, e4⟩ := implOld o c r n h0 ho hc q lq
  have hsrc : ∀ i, i ∈ r ++ n.flatMap (kid c) ↔ Src c r n i := fun i => by
    unfold Src
    rw [List.mem_append, List.mem_flatMap]
    refine or_congr Iff.rfl ⟨?_, ?_⟩
    · rintro ⟨x, hx, h⟩
      unfold kid at h
      split at h
      · simp at h
      · rename_i hf
        exact ⟨x, hx, by simpa using hf, by simpa using h⟩
    · rintro ⟨x, hx, hf, h⟩
      refine ⟨x, hx, ?_⟩
      unfold kid
      rw [if_neg (by rw [hf]; simp)]
      simpa using h
  -- they agree
  have hto : ∀ i, Rch c (On o true) (Src c r n) i → Rch c (fun i => (fv_young #[] o r).p i = true) (· ∈ r ++ n.flatMap (kid c)) i := fun i h => by
    refine Rch.mono (fun j hj => .src ((hsrc j).2 hj)) (Rch.on (fun j hj => ?_) h)
    have : ¬ j < o := hj rfl
    simp only [Bool.or_eq_true, decide_eq_true_eq]
    omega
  have hof : ∀ i, Rch c (fun i => (fv_young #[] o r).p i = true) (· ∈ r ++ n.flatMap (kid c)) i → (0 ≤ i ∧ i < (c.length : Int)) ∧ (i < o ∨ Rch c (On o true) (Src c r n) i) := fun i h => by
    induction h with
    | src hs => exact ⟨hfr _ hs, Or.inr (.src ((hsrc _).1 hs))⟩
    | @a j _ hp hf ih =>
      refine ⟨(hw j ih.1.1 ih.1.2 hf).1, ?_⟩
      by_cases hj : j < o
      · by_cases hk : (rd_T46 c j).f2 < o
        · exact Or.inl hk
        · exact Or.inr (.src (Or.inr ⟨j, hold j ih.1.1 hj hf (Or.inl (by omega)), hf, Or.inl rfl⟩))
      · rcases ih.2 with h | h
        · exact absurd h hj
        · exact Or.inr (.a h (fun _ => hj) hf)
    | @b j _ hp hf ih =>
      refine ⟨(hw j ih.1.1 ih.1.2 hf).2, ?_⟩
      by_cases hj : j < o
      · by_cases hk : (rd_T46 c j).f3 < o
        · exact Or.inl hk
        · exact Or.inr (.src (Or.inr ⟨j, hold j ih.1.1 hj hf (Or.inr (by omega)), hf, Or.inr rfl⟩))
      · rcases ih.2 with h | h
        · exact absurd h hj
        · exact Or.inr (.b h (fun _ => hj) hf)
  have hm : ∀ i, 0 ≤ i → (K m i ↔ (Rch c (On o true) (Src c r n) i ∨ i < o)) := fun i hi => by rw [p3 i hi, hk2 i hi]
  obtain rfl : m = m' := K_ext (by omega) (fun i hi => by
    rw [hm i hi, p4 i hi, pq i hi]
    constructor
    · rintro (h | h)
      · exact Or.inl (hto i h)
      · exact Or.inr h
    · rintro (h | h)
      · rcases (hof i h).2 with h | h
        · exact Or.inr h
        · exact Or.inl h
      · exact Or.inr h)
  have hcl : Cl m c := fun i hk hf => by
    have hi := K_lt (Int.natCast_nonneg i) hk
    obtain ⟨⟨a0, a1⟩, b0, b1⟩ := hw i (by omega) (by omega) hf
    rcases (hm i (by omega)).1 hk with h | h
    · by_cases hio : (i : Int) < o
      · refine ⟨⟨a0, (hm _ a0).2 ?_⟩, b0, (hm _ b0).2 ?_⟩
        · by_cases hk : (rd_T46 c i).f2 < o
          · exact Or.inr hk
          · exact Or.inl (.src (Or.inr ⟨i, hold i (by omega) hio hf (Or.inl (by omega)), hf, Or.inl rfl⟩))
        · by_cases hk : (rd_T46 c i).f3 < o
          · exact Or.inr hk
          · exact Or.inl (.src (Or.inr ⟨i, hold i (by omega) hio hf (Or.inr (by omega)), hf, Or.inr rfl⟩))
      · exact ⟨⟨a0, (hm _ a0).2 (Or.inl (.a h (fun _ => hio) hf))⟩, b0, (hm _ b0).2 (Or.inl (.b h (fun _ => hio) hf))⟩
    · refine ⟨⟨a0, (hm _ a0).2 ?_⟩, b0, (hm _ b0).2 ?_⟩
      · by_cases hk : (rd_T46 c i).f2 < o
        · exact Or.inr hk
        · exact Or.inl (.src (Or.inr ⟨i, hold i (by omega) h hf (Or.inl (by omega)), hf, Or.inl rfl⟩))
      · by_cases hk : (rd_T46 c i).f3 < o
        · exact Or.inr hk
        · exact Or.inl (.src (Or.inr ⟨i, hold i (by omega) h hf (Or.inr (by omega)), hf, Or.inr rfl⟩))
  obtain ⟨f, f'⟩ := move_same o c r n m l3 (by omega) (by omega) hcl (fun x hx => ⟨(hr x hx).1, (hm x (hr x hx).1).2 (Or.inl (.src (Or.inl hx)))⟩)
  refine ⟨m, l3, ?_, ?_⟩
  · unfold spec_lhYoung.f
    simp only [if_pos (show (0 : Int) ≤ (c.length : Int) by omega), Int.toNat_natCast, if_pos (show c.length ≤ 281474976710656 by omega)]
    exact e1 _ (e2 _ (e3 _ f))
  · unfold impl_Young_young.f slices_Clone_int_int.f
    simp only [if_pos (show r.length < 17592186044416 by omega), Option.bind_some]
    exact implFrom o c r n hn' (by omega) (by omega) _ (Ev.bnd _ eq (e4 _ f'))
end Go.Proofs.Ytpjikgeglhjehaa.Pl
/- YoungCollect of the program returns what the reference's returns, for all arguments, both times, leaves its argument as it was, and gives rows of its own. No condition beyond the statement's own bound on the argument's size. -/
namespace Go.Proofs.Ytpjikgeglhjehaa.Pl
open Go.RowKit Go.Proofs.Ytpjikgeglhjehaa.PH Go.Proofs.YtpjikgeglhjehaaW.PrintWords Go.Proofs.YtpjikgeglhjehaaW.PrintLast
/-- YoungCollect, both ways. -/
theorem ycol_same (o : Int) (c : List S46) (r n : List Int) (hcl : c.length ≤ 1048576) (hr : r.length ≤ 1048576) (hn : n.length ≤ 1048576) :
    ∃ (o' : Int) (c' : List S46) (r' n' : List Int) (b : Bool), c'.length ≤ 1048576 ∧ r'.length ≤ 1048576 ∧ n'.length ≤ 1048576 ∧
      Ev (fun k => spec_YoungCollect.f k o c r n) (o', c', r', n', b) ∧ Ev (fun k => impl_YoungCollect.f k o c r n) (o', c', r', n', b) := by
  cases hg : good o c r n with
  | false =>
    refine ⟨0, [], [], [], false, by simp, by simp, by simp, ?_, ?_⟩
    · unfold spec_YoungCollect.f
      refine Ev.bnd _ (specGood o c r n hcl hr hn) ?_
      rw [hg]
      exact Ev.const rfl
    · unfold impl_YoungCollect.f
      refine Ev.bnd _ (implGood o c r n hn) ?_
      rw [hg]
      exact Ev.const rfl
  | true =>
    obtain ⟨m, l, f, f'⟩ := young_same o c r n hg
    obtain ⟨hw, hc, hrl, _⟩ := good_wf hg
    have hlen := mvCs_len m c m
    refine ⟨cnt m m.length, mvCs m c m, r.map (cnt m), [], true, ?_, ?_, ?_, ?_, ?_⟩
    case refine_4 =>
      unfold spec_YoungCollect.f
      refine Ev.bnd _ (specGood o c r n hcl hr hn) ?_
      rw [hg]
      simp only [if_true]
      refine Ev.bnd _ f ?_
      exact Ev.const rfl
    case refine_5 =>
      unfold impl_YoungCollect.f
      refine Ev.bnd _ (implGood o c r n hn) ?_
      rw [hg]
      simp only [if_true]
      refine Ev.bnd _ f' ?_
      exact Ev.const rfl
    · omega
    · simpa using hr
    · simp
end Go.Proofs.Ytpjikgeglhjehaa.Pl
namespace Go.Proofs.Ytpjikgeglhjehaa.Pure
open Go.RowKit Go.Proofs.Ytpjikgeglhjehaa.PH Go.Proofs.Ytpjikgeglhjehaa.Pl Go.Proofs.YtpjikgeglhjehaaW.PrintWords Go.Proofs.YtpjikgeglhjehaaW.PrintLast
theorem sz_eq6 (o : Int) (c : List S65) (r n : List Int) (hc : c.length ≤ 9223372036854775807) (hr : r.length ≤ 9223372036854775807) (hn : n.length ≤ 9223372036854775807) :
    ∃ t, laws_szYoung.f o c r n 1048576 = some t ∧ (0 ≤ t → c.length ≤ 1048576 ∧ r.length ≤ 1048576 ∧ n.length ≤ 1048576) := by
  unfold laws_szYoung.f laws_szCellS.f laws_szIntS.f
  have h1 : wrap64 (1048576 - (c.length : Int)) = 1048576 - (c.length : Int) := w64 (by omega) (by omega)
  rw [h1]
  by_cases a1 : 1048576 - (c.length : Int) < 0
  · exact ⟨-1, by simp [a1], by omega⟩
  · have h2 : wrap64 (1048576 - (c.length : Int) - (r.length : Int)) = 1048576 - (c.length : Int) - (r.length : Int) := w64 (by omega) (by omega)
    simp only [if_neg a1, Option.bind_some, h2]
    by_cases a2 : 1048576 - (c.length : Int) - (r.length : Int) < 0
    · exact ⟨-1, by simp [a2], by omega⟩
    · have h3 : wrap64 (1048576 - (c.length : Int) - (r.length : Int) - (n.length : Int)) = 1048576 - (c.length : Int) - (r.length : Int) - (n.length : Int) := w64 (by omega) (by omega)
      simp only [if_neg a2, Option.bind_some, h3]
      by_cases a3 : 1048576 - (c.length : Int) - (r.length : Int) - (n.length : Int) < 0
      · exact ⟨-1, by simp [a3], by omega⟩
      · exact ⟨1048576 - (c.length : Int) - (r.length : Int) - (n.length : Int), by simp [a3], by omega⟩
theorem FnExactYoungCollect : StFnExactYoungCollect.Pure := by
  intro o c r n _ hc _ hr _ hn _
  obtain ⟨t, ht, hs⟩ := sz_eq6 o c r n hc hr hn
  refine Ev.rounds ?_
  unfold laws_FnExactYoungCollect.f
  simp only [ht, Option.bind_some]
  by_cases h0 : t < 0
  · simp only [if_pos h0]
    exact Ev.const rfl
  · obtain ⟨hc', hr', hn'⟩ := hs (by omega)
    have hm : (c.map cell).length ≤ 1048576 := by simpa using hc'
    obtain ⟨o', c', r', n', b, hc2, hr2, hn2, es, ei⟩ := ycol_same o (c.map cell) r n hm hr' hn'
    have z1 : ¬ (1 + 4 * ((c.map cell).length : Int) + (r.length : Int) + (n.length : Int) < 0) := by omega
    have z2 : ¬ (1 + 4 * (c'.length : Int) + (r'.length : Int) + (n'.length : Int) < 0) := by omega
    simp only [if_neg h0]
    refine Ev.bnd _ (toYoung_ev o c r n hc' hr' hn') ?_
    refine Ev.bnd _ es ?_
    refine Ev.bnd _ (toYoung_ev o c r n hc' hr' hn') ?_
    refine Ev.bnd _ ei ?_
    refine Ev.bnd _ (eqYoung_ev o' c' r' n' hc2 hr2 hn2) ?_
    simp only [bne_self_eq_false, Bool.false_eq_true, if_false, if_true]
    refine Ev.bnd _ (toYoung_ev o c r n hc' hr' hn') ?_
    refine Ev.bnd _ (eqYoung_ev o (c.map cell) r n hm hr' hn') ?_
    simp only [if_true]
    refine Ev.bnd _ (markYoung_ev o (c.map cell) r n 1 (by omega) (by omega) (by omega) (by omega) (by omega)) ?_
    dsimp only
    simp only [if_neg z1]
    refine Ev.bnd _ (eqYoung_ev o' c' r' n' hc2 hr2 hn2) ?_
    simp only [if_true]
    refine Ev.bnd _ (markYoung_ev o' c' r' n' 1 (by omega) (by omega) (by omega) (by omega) (by omega)) ?_
    dsimp only
    refine Ev.bnd _ (heldYoung_ev o' c'.length r'.length n'.length 1 (by omega) (by omega) (by omega) (by omega) (by omega)) ?_
    simp only [if_neg z2, if_true]
    refine Ev.bnd _ (toYoung_ev o c r n hc' hr' hn') ?_
    refine Ev.bnd _ ei ?_
    refine Ev.bnd _ (eqYoung_ev o' c' r' n' hc2 hr2 hn2) ?_
    simp only [bne_self_eq_false, Bool.false_eq_true, if_false, if_true]
    refine Ev.bnd _ (heldYoung_ev o' c'.length r'.length n'.length 1 (by omega) (by omega) (by omega) (by omega) (by omega)) ?_
    simp only [if_neg z2, if_true]
    exact Ev.const rfl
end Go.Proofs.Ytpjikgeglhjehaa.Pure
/- FnExactYoungCollect: the row, out of its pure statement and of what it calls (told by wp.py, a program of this session's). No condition. -/
namespace Go.Proofs.Ytpjikgeglhjehaa.fnExactYoungCollect
open Go.ChangeShapes Go.WideShapes Go.ChangeAt Go.RowKit Go.Proofs.YtpjikgeglhjehaaW.PrintWords Go.Proofs.Ytpjikgeglhjehaa.PH Go.Proofs.Ytpjikgeglhjehaa.PH.StFnExactYoungCollect
open Go.ChangeMaps (open_string shut_string)
set_option linter.unusedVariables false
theorem own : ownKnob Try.prog.godebug = none := by kernel_rfl
theorem laidOut : laidOutB Try.prog = true := by kernel_rfl
theorem rd_65 : Op.Rd Try.prog k65 Q65 65 := Op.rd_iso _ (fun a => (⟨a.1, a.2.1, a.2.2.1, a.2.2.2⟩ : S65)) (fun _ => rfl) (Op.rd_struct4 Try.underlying65 (by kernel_rfl) (by kernel_rfl) (Op.rd_bool Try.underlying4) (Op.rd_i64 Try.underlying3) (Op.rd_i64 Try.underlying3) (Op.rd_i64 Try.underlying3))
set_option maxRecDepth 100000 in
theorem lifted (os : Os) (started : os.Started) (H : Type) (enc : TypeId × Value → H) :
    ReturnsInHanded {} Try.checked os 6 .any (Rows.fnExactYoungCollectSpec.pre6 enc Try.prog Try.f6 Rows.fnExactYoungCollectRow.domain false) (Rows.fnExactYoungCollectSpec.post enc Try.prog Try.f6 false true false false) := by
  refine returnsInHanded_of_change (C := Try.checked) own started (by kernel_rfl) Try.func6
    (ChangeSpec.witness6 (enc := enc) (C := Try.checked) false ⟨#[], #[.agg #[.int .i64 0, .slice none 0 0, .slice none 0 0, .slice none 0 0]], []⟩ 8 (by kernel_rfl) (by kernel_rfl) (by kernel_rfl) (by kernel_rfl)) ?_
  intro W base args ds gs before hval0 hW hcnd _
  have hval : ∀ (j : Nat) t v, Try.f6.params[j]? = some t → args[j]? = some v → Value.okWide Try.prog W .any base t v := hval0
  have hW' := hW
  obtain ⟨p, q, hA0, hV, rfl, hfz, hnd⟩ := hW
  have hA : DataW.TrodAll enc Try.prog W 0 (fun _ => true) true Try.f6.params.toList args.toList ds p := hA0
  rw [Try.params6] at hA hval
  obtain ⟨v0, vs0, d0, ds0, p0, q0, hargs, rfl, rfl, h0, r0⟩ := trodAll_cons hA
  obtain ⟨rfl, rfl, rfl⟩ := trodAll_nil r0
  obtain rfl : args = #[v0] := by cases args; simp_all
  obtain ⟨rfl, rfl⟩ := trodVars_none hV
  have k0 := h0
  have lt0 : ∀ x ∈ p0, x.block < W.heap.size := by obtain ⟨m, hm⟩ := k0; exact DataW.trod_lt m _ _ _ hm
  obtain ⟨⟨a0_0, l0_1, l0_2, l0_3⟩, cs0, rfl, ⟨_, _, e0, rfl, _, _, rfl, ⟨A0_1, c0_1, rfl, hc0_1, hr0_1⟩, _, _, rfl, ⟨A0_2, c0_2, rfl, hc0_2, hr0_2⟩, ⟨A0_3, c0_3, rfl, hc0_3, hr0_3⟩⟩, ⟨hq0_0, ⟨hm0_1, hq0_1⟩, ⟨hm0_2, hq0_2⟩, ⟨hm0_3, hq0_3⟩⟩⟩ := Op.agg_of Try.underlying25 (hval 0 25 v0 rfl rfl) h0 (Op.rd_struct4 Try.underlying25 (by kernel_rfl) (by kernel_rfl) (Op.rd_i64 Try.underlying3) (Op.rd_slice Try.underlying22 (by kernel_rfl) rd_65) (Op.rd_slice Try.underlying23 (by kernel_rfl) (Op.rd_i64 Try.underlying3)) (Op.rd_slice Try.underlying23 (by kernel_rfl) (Op.rd_i64 Try.underlying3)))
  obtain rfl : cs0 = #[.int .i64 a0_0, .slice A0_1 l0_1.length c0_1, .slice A0_2 l0_2.length c0_2, .slice A0_3 l0_3.length c0_3] := by cases cs0; simpa using e0
  clear hA0 hval0
  obtain ⟨k, h⟩ := Pure.FnExactYoungCollect a0_0 l0_1 l0_2 l0_3 hq0_0 hm0_1 hq0_1 hm0_2 hq0_2 hm0_3 hq0_3
  refine (laws_FnExactYoungCollect.calls k a0_0 A0_1 c0_1 l0_1 A0_2 c0_2 l0_2 A0_3 c0_3 l0_3 W hr0_1 hc0_1 hr0_2 hc0_2 hr0_3 hc0_3 h).mono fun e W' hh => ?_
  obtain ⟨he, bel0⟩ := hh
  have bel : Below W.heap.size W W' := bel0
  subst he
  exact ⟨_, rfl, _, _, _, [], _, [], hW', trodAll_mk1 (shut_bool Try.underlying4 _), (trodAll_cons_mk (Below.trod laidOut (by kernel_rfl) (of_decide_eq_true (by kernel_rfl)) k0 bel lt0) trodAll_mk0), rfl, bel.frame _, fun h => by cases h⟩
theorem over : Rows.fnExactYoungCollectRow.holds Try.pinned (OpenSpec.ofChange Rows.fnExactYoungCollectSpec) :=
  OpenClaim.holds_of_wide 6 Try.f6 rfl rfl rfl rfl rfl rfl rfl ⟨rfl, rfl, rfl, rfl, rfl⟩ rfl rfl rfl rfl rfl (by kernel_rfl) Try.func6 (by kernel_rfl)
    (of_decide_eq_true (by kernel_rfl)) (by unfold Func.isWrapper; first | (rw [if_pos (by decide +kernel)]; kernel_rfl) | (rw [if_neg (by decide +kernel)]; exact ⟨rfl, rfl⟩))
    (fun os started H enc _ => lifted os started H enc)
theorem proved : Rows.FnExactYoungCollectSaid := over
end Go.Proofs.Ytpjikgeglhjehaa.fnExactYoungCollect
namespace Go.Proofs.Ytpjikgeglhjehaa
/-- The row, under a short name, for the claim. -/
theorem fnExactYoungCollect_holds : Rows.FnExactYoungCollectSaid := fnExactYoungCollect.proved
end Go.Proofs.Ytpjikgeglhjehaa
