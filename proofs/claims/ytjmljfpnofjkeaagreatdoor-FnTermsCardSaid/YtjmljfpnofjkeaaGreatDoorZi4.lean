/- Merged out of: D28 D29 D30 D31 D32 D37 D38 D39 Shelf Ct Cf Fa D35 D36 (prune.py, a program of this work's). -/
import Derived.Test.YtjmljfpnofjkeaaGreatDoorZi3
import Derived.Sort.Grow
import Derived.Sort.Row
import Derived.Lib.SlicesCompact
import Derived.Shelf.Small.Bits
import Derived.Shelf.Small.Wraps
import Derived.Shelf.Strconv.Atoi
import Derived.Shelf.Strconv.Itoa0
import Derived.Shelf.Strconv.Itoa1
import Derived.Shelf.LaysM
import Derived.Shelf.Strconv.Itoa2
import Derived.Shelf.Strconv.Itoa3
import Derived.Shelf.Strconv.AtoiErrFast
import Derived.Shelf.Strconv.ParseIntEmpty
import Derived.Shelf.Strconv.AtoiFail
import Derived.Shelf.Strconv.Clone
import Derived.Shelf.Strconv.SyntaxError
import Derived.Shelf.LaysC
import Derived.Shelf.Strconv.ToError
import Derived.Shelf.Strconv.AtoiErr
import Derived.Shelf.Strconv.Lower
import Derived.Shelf.Strconv.ParseUint10
import Derived.Shelf.Strconv.ParseUint10Empty
import Derived.Shelf.Strconv.ParseUint10Any
import Derived.Shelf.Strconv.ParseInt10
import Derived.Shelf.Strconv.RangeError
import Derived.Shelf.Strconv.ToErrorRange
import Derived.Shelf.Strconv.ParseUintEmpty
import Derived.Shelf.Strconv.ParseUint10b64
import Derived.Shelf.Strconv.ParseUint10b32
import Derived.Shelf.Strconv.ParseUint10b16
import Derived.Shelf.Strconv.ParseUint10b8
import Derived.Shelf.Strconv.ParseUint10At
import Derived.Shelf.Strconv.ParseInt10At64
import Derived.Shelf.Strconv.ParseInt10At32
import Derived.Shelf.Strconv.ParseInt10At16
import Derived.Shelf.Strconv.ParseInt10At8
import Derived.Shelf.Sort.Plain
import Derived.Shelf.Strings.Prefix
import Derived.Ground.Names2Prog
import Derived.Shelf.Slices.CompactI
import Derived.Shelf.Slices.SearchI
import Derived.Shelf.Slices.Cells
import Derived.Shelf.Slices.In.SortNone
import Derived.Test.YtjmljfpnofjkeaaGreatDoorProg
import Derived.Test.YtjmljfpnofjkeaaGreatDoorChecked
import Derived.WalkKit
import Derived.Deep.RegionWith
import Derived.Laws.IdiomStrings
import Derived.KernelRfl
import Derived.Test.YtjmljfpnofjkeaaGreatDoorZi2
import Derived.Deep.Slices
import Derived.Deep.Fields
import Derived.ChangeSame
import Derived.ProofKit
import Derived.Lib.SmallJoins
import Derived.OpenShut
import Derived.ShutString
import Derived.ChangeOld
import Derived.Below
set_option linter.unusedVariables false
set_option linter.unusedSimpArgs false
set_option linter.unnecessarySimpa false
namespace Go.Den
open Go Go.RowKit
set_option linter.unusedVariables false
/-- An operation that is calm. -/
theorem evOp_calm {P : Program} {c : Cx} {a : Act} {o : Oper} {E : Env} {d : D} (hE : E.ty = c.ty) (hty : TyOk P c.ty) (hs : Sim c a.tmps) (hcm : isCalm o.op = true)
    (h : evOp E c.s.look c.s.get c.s.box o.type o.op = some (.pure d)) : ∀ x T, Calm P c a o x T d := by
  cases ho : o.op with
  | move z =>
    rw [ho] at h
    simp only [evOp] at h
    cases h
    exact fun x T => (y_move hs (.inl ho))
  | assign z =>
    rw [ho] at h
    simp only [evOp] at h
    split at h
    · rename_i hz
      simp only [Option.bind_eq_some_iff] at h
      obtain ⟨i, hi, h⟩ := h
      split at h
      · rename_i e hk
        cases h
        rw [hE] at hi
        exact fun x T => (y_nil hty ho hz hi hk)
      · cases h
    · split at h
      · cases h
        exact fun x T => (y_move hs (.inr ho))
      · cases h
  | pick z u w =>
    rw [ho] at h
    simp only [evOp, Option.map_eq_some_iff] at h
    obtain ⟨b, hb, h⟩ := h
    cases h
    exact fun x T => by cases b <;> exact (y_pick hs ho hb)
  | build t ps =>
    rw [ho] at h
    simp only [evOp, Option.bind_eq_some_iff] at h
    obtain ⟨i, hi, h⟩ := h
    rw [hE] at hi
    split at h
    · rename_i hq
      simp only [Bool.and_eq_true] at hq
      simp only [Option.map_eq_some_iff] at h
      obtain ⟨cs, hf, h⟩ := h
      cases h
      exact fun x T => (y_build hE hty hs ho hi hq.1 hq.2 hf)
    · cases h
  | nilCheck z =>
    rw [ho] at h
    simp only [evOp] at h
    split at h
    · rename_i r n hz
      cases h
      exact fun x T => (y_nilCheck hs ho hz)
    · cases h
  | binOp op t z u k =>
    rw [ho] at h
    simp only [evOp] at h
    split at h
    · rename_i b hb
      cases h
      rw [hE] at hb
      exact fun x T => (y_aggCmp hty hs ho hb)
    · simp only [Option.map_eq_some_iff] at h
      obtain ⟨d, hd, h⟩ := h
      cases h
      rw [hE] at hd
      exact fun x T => (y_binOp hty hs ho hd)
  | unOp op t z =>
    rw [ho] at h
    simp only [evOp, Option.map_eq_some_iff] at h
    obtain ⟨d, hd, h⟩ := h
    cases h
    exact fun x T => (y_unOp hs ho hd)
  | convert t u z =>
    rw [ho] at h
    simp only [evOp, Option.bind_eq_some_iff, Option.map_eq_some_iff] at h
    obtain ⟨i, hi, d, hd, h⟩ := h
    cases h
    rw [hE] at hd hi
    exact fun x T => (y_convert hty hs ho (by rw [hi]; rfl) hd)
  | makeFunc fn first cap =>
    rw [ho] at h
    cases fn with
    | func f =>
      simp only [evOp] at h
      split at h
      · rename_i hf
        simp only [Option.map_eq_some_iff] at h
        obtain ⟨rs, hr, h⟩ := h
        cases h
        exact fun x T => (y_makeFunc hs ho hf hr)
      · cases h
    | _ => simp only [evOp] at h; cases h
  | slice t z lo hi mx =>
    rw [ho] at h
    simp only [evOp] at h
    split at h
    · simp only [Option.bind_eq_some_iff, Option.map_eq_some_iff] at h
      obtain ⟨st, hst, l, hl, hh, hhi, d, hd, h⟩ := h
      cases h
      rw [hE] at hst
      exact fun x T => (y_slice hty hs (fun _ _ h => h) ho hst hl hhi hd)
    · cases h
  | fieldAddr t z f =>
    rw [ho] at h
    simp only [evOp, Option.bind_eq_some_iff] at h
    obtain ⟨i, hi, q, hq, j, hj, h⟩ := h
    rw [hE] at hi hj
    split at h
    · rename_i hc
      simp only [Option.map_eq_some_iff] at h
      obtain ⟨d, hd, h⟩ := h
      cases h
      exact fun x T => (y_fieldAddr hty hs ho hi hq hj hc hd)
    · cases h
  | field t z f =>
    rw [ho] at h
    simp only [evOp, Option.bind_eq_some_iff] at h
    obtain ⟨i, hi, q, hq, j, hj, h⟩ := h
    rw [hE] at hi hj
    split at h
    · cases h
    · rename_i ha
      split at h
      · rename_i cs hz
        simp only [Option.map_eq_some_iff] at h
        obtain ⟨d, hd, h⟩ := h
        cases h
        exact fun x T => ((y_field hty hs ho hi hq hj ha).1 cs d hz hd)
      · rename_i ds hz
        split at h
        · rename_i hja
          simp only [Option.map_eq_some_iff] at h
          obtain ⟨d, hd, h⟩ := h
          cases h
          exact fun x T => ((y_field hty hs ho hi hq hj ha).2.1 ds d hz hja hd)
        · rename_i hja
          split at h
          · rename_i hb
            cases h
            exact fun x T => ((y_field hty hs ho hi hq hj ha).2.2 ds hz hja hb)
          · cases h
      · cases h
  | indexAddr t z u =>
    rw [ho] at h
    simp only [evOp, Option.bind_eq_some_iff] at h
    obtain ⟨k, hk, h⟩ := h
    rw [hE] at hk
    split at h
    · rename_i e hkk
      simp only [Option.bind_eq_some_iff, Option.map_eq_some_iff] at h
      obtain ⟨j, hj, n, hn, d, hd, h⟩ := h
      rw [hE] at hj
      cases h
      exact fun x T => (y_indexAddr hty hs (fun _ _ h => h) ho hk hkk hj hn hd)
    · cases h
  | index t z u =>
    rw [ho] at h
    simp only [evOp, Option.bind_eq_some_iff] at h
    obtain ⟨k, hk, n, hn, h⟩ := h
    rw [hE] at hk
    split at h
    · rename_i s hz hkk
      split at h
      · rename_i hb
        cases h
        exact fun x T => (y_index hty hs ho hk hkk hn hz hb)
      · cases h
    · cases h
  | extract z j =>
    rw [ho] at h
    simp only [evOp] at h
    split at h
    · rename_i ds hz
      simp only [Option.map_eq_some_iff] at h
      obtain ⟨d, hd, h⟩ := h
      cases h
      exact fun x T => (y_extract hs ho hz hd)
    · cases h
  | call ca =>
    rw [ho] at h
    simp only [evOp] at h
    split at h
    · rename_i hc
      split at h
      · rename_i z t ha hat
        simp only [Option.bind_eq_some_iff, Option.map_eq_some_iff] at h
        obtain ⟨i, hi, n, hn, h⟩ := h
        cases h
        rw [hE] at hi
        exact fun x T => (y_len hty hs (fun _ _ h => h) ho hc ha hat hi hn)
      · cases h
    · rename_i hc
      split at h
      · rename_i z u ha
        simp only [Option.bind_eq_some_iff, Option.map_eq_some_iff] at h
        obtain ⟨m, hm, n, hn, h⟩ := h
        cases h
        exact fun x T => (y_maxmin (mx := true) hs ho hc ha hm hn)
      · cases h
    · rename_i hc
      split at h
      · rename_i z u ha
        simp only [Option.bind_eq_some_iff, Option.map_eq_some_iff] at h
        obtain ⟨m, hm, n, hn, h⟩ := h
        cases h
        exact fun x T => (y_maxmin (mx := false) hs ho hc ha hm hn)
      · cases h
    · rename_i z hc
      rw [ho] at hcm
      simp [isCalm, hc] at hcm
    · cases h
  | _ => rw [ho] at hcm; cases hcm
/-- Whatever an operation does, of temporaries it turns its own alone. -/
theorem wp_put {P : Program} {o : Oper} {a : Act} {w : World} {K : Act → World → Prop} {Q : Exit → Act → World → Prop} (h : o.wp P a w K Q) : o.wp P a w (fun a' w' => K a' w' ∧ ∃ v, a'.tmps = (a.put o.dst v).tmps) Q := by
  unfold Oper.wp at *
  generalize (execOp a.eval o).run P w = r at *
  cases r with
  | ok n w' =>
    cases n <;> simp only [Oper.upon] at h ⊢
    case value v => exact ⟨h, v, rfl⟩
    case skip => exact ⟨h, _, rfl⟩
    case defer d => exact ⟨h, undef, by cases o.dst <;> rfl⟩
    case enter f args =>
      refine Calls.mono h fun e w'' he => ?_
      cases e with
      | returned v => exact ⟨he, v, rfl⟩
      | panicked c => exact he
      | outgrown => exact he
    case row r args => exact Rows.mono h fun v w'' he => ⟨he, v, rfl⟩
  | halt x w' => cases x <;> simp only [Oper.upon] at h ⊢ <;> exact h
section
variable {P : Program} {c : Cx} {a : Act} {o : Oper} {X : Nat}
/-- A calm operation, taken. -/
theorem calm_take {n : Nat} {d : D} {T : World → Prop} (hf : Fr X c a) (hn : n < a.tmps.size) (h : Calm P c a o n T d) :
    ∃ v c', c'.s = c.s.put n d ∧ c'.W = c.W ∧ Fr X c' (a.put (some n) v) ∧ Ext c c' ∧ (∀ g, g < c.W.heap.size → c'.ρ g = c.ρ g) ∧ ∀ w, T w → (execOp a.eval o).run P w = .ok (.value v) w := by
  obtain ⟨v, c1, h0, h1, h2, h3⟩ := h
  have hsim := h2.put hf.sim hn h3
  have hne : X ≠ n := Nat.ne_of_gt (Nat.lt_of_lt_of_le hn hf.ghost.out)
  have e := h2.ext
  exact ⟨v, { c1 with s := c.s.put n d }, rfl, h0, ⟨hsim, by simpa [Act.put] using hf.ghost.out, put_own hne hf.ghost.own⟩, ⟨e.os, e.tape, e.output, e.size, e.keep, e.ty, e.up, e.lentH⟩, h2.ρ, h1⟩
def Cx.isM (c : Cx) (M : List Nat) (g : Nat) : Bool := M.any fun n => Nat.beq (c.β (.loc n)) g
def Cx.hid (c : Cx) (M : List Nat) : Cx := { c with ρ := fun g => match c.isM M g with | true => .oth | false => c.ρ g, s := c.s.hid M }
theorem isM_iff {M : List Nat} {g : Nat} : c.isM M g = true ↔ ∃ n ∈ M, c.β (.loc n) = g := by
  unfold Cx.isM
  rw [List.any_eq_true]
  constructor
  · rintro ⟨n, h1, h2⟩; exact ⟨n, h1, beq_eq.1 h2⟩
  · rintro ⟨n, h1, h2⟩; exact ⟨n, h1, beq_eq.2 h2⟩
theorem ptrAt_eq {s : St} {n : Nat} (h : ptrAt s n = true) : s.t n = .ptr (.loc n) 0 := by
  unfold ptrAt at h
  split at h
  · rename_i m o e
    simp only [Bool.and_eq_true] at h
    rw [e, beq_eq.1 h.1, beq_eq.1 h.2]
  · cases h
theorem hidOK_at {M : List Nat} {s : St} (h : hidOK M s = true) {n : Nat} (hn : n ∈ M) : s.t n = .ptr (.loc n) 0 ∧ ∃ cs, s.b n = some cs ∧ ∀ d ∈ cs, ∃ x, d = .dat x := by
  have := (List.all_eq_true.1 h) n hn
  simp only [Bool.and_eq_true] at this
  refine ⟨ptrAt_eq this.1, ?_⟩
  have h2 := this.2
  unfold datBox at h2
  split at h2
  · rename_i cs hcs
    refine ⟨cs, hcs, fun d hd => ?_⟩
    have := (List.all_eq_true.1 h2) d hd
    split at this
    · exact ⟨_, rfl⟩
    · cases this
  · cases h2
theorem hid_box_ρ {M : List Nat} {tm : Array Value} (hs : Sim c tm) (h : hidOK M c.s = true) {g : Nat} (hg : c.isM M g = true) : ∃ n ∈ M, c.β (.loc n) = g ∧ c.ρ g = .box (.loc n) ∧ g < c.W.heap.size := by
  obtain ⟨n, hn, rfl⟩ := isM_iff.1 hg
  obtain ⟨_, cs, hcs, _⟩ := hidOK_at h hn
  have hb := hs.boxes (.loc n) cs hcs
  obtain ⟨vs, T, h1, h2, _⟩ := hb.out
  exact ⟨n, hn, rfl, h2, hb.lt⟩
theorem hid_get {M : List Nat} {s : St} {q : Pl} {r : Row} (h : s.get q = some r) (hk : (Kill.hide M).pl q = false) : (s.hid M).get q = some r := by
  cases q with
  | slot y l =>
    show (D.at_ l ((s.hid M).t y)).row? = _
    simp only [St.hid]
    rw [kill_at]
    exact h
  | cell r0 o =>
    simp only [St.get, Option.bind_eq_some_iff] at h ⊢
    obtain ⟨cs, h1, d, h2, h3⟩ := h
    refine ⟨D.kills (Kill.hide M) cs, ?_, d.kill (Kill.hide M), by rw [get_kills, h2]; rfl, ?_⟩
    · cases r0 with
      | loc n =>
        have hm : memN n M = false := hk
        have h1 : s.b n = some cs := h1
        simp only [St.hid, St.box, hm, h1, Option.map_some]
      | up n =>
        have h1 : s.u[n]? = some cs := h1
        simp only [St.hid, St.box, List.getElem?_map, h1, Option.map_some]
    · have := kill_at (k := Kill.hide M) [] d
      simp only [D.at_] at this
      rw [this]; exact h3
  | lent j => exact h
theorem hid_box {M : List Nat} {s : St} {r : Ref} {cs' : List D} (h : (s.hid M).box r = some cs') : (∀ n ∈ M, r ≠ .loc n) ∧ ∃ cs, s.box r = some cs ∧ cs' = D.kills (Kill.hide M) cs := by
  cases r with
  | loc n =>
    simp only [St.hid, St.box] at h
    split at h
    · cases h
    · rename_i hm
      simp only [Option.map_eq_some_iff] at h
      obtain ⟨cs, h1, rfl⟩ := h
      refine ⟨fun k hk e => ?_, cs, h1, rfl⟩
      cases e
      rw [memN_iff.2 hk] at hm
      cases hm
  | up n =>
    simp only [St.hid, St.box, List.getElem?_map, Option.map_eq_some_iff] at h
    obtain ⟨cs, h1, rfl⟩ := h
    exact ⟨fun k hk e => (by cases e), cs, h1, rfl⟩
theorem hid_box_some {M : List Nat} {s : St} {r : Ref} (h : (s.box r).isSome = true) (hk : (Kill.hide M).ref r = false) : ((s.hid M).box r).isSome = true := by
  obtain ⟨cs, hcs⟩ := Option.isSome_iff_exists.1 h
  cases r with
  | loc n =>
    have hm : memN n M = false := hk
    have hcs : s.b n = some cs := hcs
    simp only [St.hid, St.box, hm, hcs, Option.map_some, Option.isSome_some]
  | up n =>
    have hcs : s.u[n]? = some cs := hcs
    simp only [St.hid, St.box, List.getElem?_map, hcs, Option.map_some, Option.isSome_some]
theorem hid_ρ {M : List Nat} {g : Nat} {r : Role} (h : c.ρ g = r) (hg : c.isM M g = false) : (c.hid M).ρ g = r := by
  show (match c.isM M g with | true => Role.oth | false => c.ρ g) = r
  rw [hg]; exact h
theorem hide_sound {M : List Nat} (hf : Fr X c a) (h : hidOK M c.s = true) : Fr X (c.hid M) a ∧ Ext c (c.hid M) := by
  have hs := hf.sim
  have hne : ∀ g r, c.ρ g = r → (∀ n : Nat, r ≠ .box (.loc n)) → c.isM M g = false := fun g r hr hn => by
    cases hg : c.isM M g with
    | false => rfl
    | true =>
      obtain ⟨n, _, _, h1, _⟩ := hid_box_ρ hs h hg
      exact (hn n (hr.symm.trans h1)).elim
  have hrd : ∀ b g, Rd c.ρ b g → Rd (c.hid M).ρ b g := fun b g hr => by
    rcases hr with hr | ⟨h1, hr⟩
    · exact .inl (hid_ρ hr (hne g _ hr fun n e => by cases e))
    · exact .inr ⟨h1, hid_ρ hr (hne g _ hr fun n e => by cases e)⟩
  have m : Mono c (c.hid M) (Kill.hide M) (fun _ => False) := ⟨rfl, fun b g hr _ => ⟨hrd b g hr, rfl⟩, fun q r hq hk => ⟨hid_get hq hk, rfl⟩, fun r hr hk => ⟨hid_box_some hr hk, rfl⟩, fun q _ => ⟨rfl, fun g hg _ => ⟨hid_ρ hg (hne g _ hg fun n e => by cases e), rfl⟩⟩⟩
  refine ⟨⟨⟨fun y => ?_, fun r cs' hb' => ?_, fun j r hg => ?_⟩, hf.ghost.out, ?_⟩, rfl, rfl, rfl, Nat.le_refl _, fun g hg hst => ⟨?_, rfl⟩, rfl, fun _ => rfl, fun _ => rfl⟩
  · exact VR.mono m _ _ _ (fun _ _ _ h => h) (hs.slots y)
  · obtain ⟨hr, cs, h1, rfl⟩ := hid_box hb'
    obtain ⟨vs, T, h2, h3, h4, h5⟩ := (hs.boxes r cs h1).out
    refine ⟨vs, T, h2, hid_ρ h3 ?_, by rw [len_kills]; exact h4, fun i d v hd hv => ?_⟩
    · show c.isM M (c.β r) = false
      cases hg : c.isM M (c.β r) with
      | false => rfl
      | true =>
        obtain ⟨n, hn, _, h6, _⟩ := hid_box_ρ hs h hg
        have e : Role.box r = .box (.loc n) := h3.symm.trans h6
        cases e
        exact (hr n hn rfl).elim
    · rw [get_kills] at hd
      simp only [Option.map_eq_some_iff] at hd
      obtain ⟨d0, hd0, rfl⟩ := hd
      obtain ⟨h6, h7, h8⟩ := h5 i d0 v hd0 hv
      exact ⟨VR.mono m _ _ _ (fun _ _ _ h => h) h6, h7, kill_isCell h8⟩
  · have hg' : c.s.get (.lent j) = some r := hg
    exact (hs.lent j r hg').mono m (fun h => h)
  · show ((c.s.t X).kill (Kill.hide M)).hasOwn = false
    rw [hasOwn_kill]
    exact hf.ghost.own
  · refine hid_ρ rfl (hne g _ rfl fun n e => ?_)
    rw [e] at hst
    exact hst
theorem isJunk_eq {d : D} (h : isJunk d = true) : d = .junk := by
  unfold isJunk at h
  split at h
  · rfl
  · cases h
/-- They are seen again. -/
def Cx.shown (c c' : Cx) (M : List Nat) (dst : Option Nat) : Cx :=
  { c' with
    ρ := fun g => match c.isM M g with | true => c.ρ g | false => c'.ρ g
    β := fun r => match r with | .loc n => (match memN n M with | true => c.β (.loc n) | false => c'.β (.loc n)) | .up n => c'.β (.up n)
    s := c'.s.shown M dst c.s }
theorem shown_t {M : List Nat} {dst : Option Nat} {s0 s : St} (y : Nat) : (s.shown M dst s0).t y = s.t y ∨ ∃ n o, n ∈ M ∧ s0.t y = .ptr (.loc n) o ∧ s.t y = .junk ∧ dst ≠ some y ∧ (s.shown M dst s0).t y = .ptr (.loc n) o := by
  simp only [St.shown]
  split
  · rename_i n o e
    split
    · rename_i hc
      simp only [Bool.and_eq_true] at hc
      refine .inr ⟨n, o, memN_iff.1 hc.1.1, by rw [e], isJunk_eq hc.1.2, fun hd => ?_, rfl⟩
      rw [hd] at hc
      have := hc.2
      simp at this
    · exact .inl rfl
  · exact .inl rfl
theorem shown_sound {M : List Nat} {c' : Cx} {a' : Act} {v : Value} (hf : Fr X c a) (h : hidOK M c.s = true) (he : Ext (c.hid M) c') (hf' : Fr X c' a') (hsz : a'.tmps.size = a.tmps.size) (htm : a'.tmps = (a.put o.dst v).tmps)
    (hno : M.all (fun n => (c'.s.b n).isNone) = true) : Fr X (c.shown c' M o.dst) a' ∧ Ext c (c.shown c' M o.dst) := by
  have hs := hf.sim
  have hs' := hf'.sim
  have hnone : ∀ n ∈ M, c'.s.b n = none := fun n hn => by simpa using (List.all_eq_true.1 hno) n hn
  have hoth : ∀ g, c.isM M g = true → c'.ρ g = .oth ∧ c'.W.heap[g]? = c.W.heap[g]? := fun g hg => by
    obtain ⟨n, _, _, _, hlt⟩ := hid_box_ρ hs h hg
    have hr : (c.hid M).ρ g = .oth := by
      show (match c.isM M g with | true => Role.oth | false => c.ρ g) = .oth
      rw [hg]
    obtain ⟨h1, h2⟩ := he.keep g hlt (by rw [hr]; trivial)
    exact ⟨h1.trans hr, h2⟩
  have hne : ∀ g r, c'.ρ g = r → r ≠ .oth → c.isM M g = false := fun g r hr hn => by
    cases hg : c.isM M g with
    | false => rfl
    | true => exact (hn (hr.symm.trans (hoth g hg).1)).elim
  have hρ : ∀ g r, c'.ρ g = r → r ≠ .oth → (c.shown c' M o.dst).ρ g = r := fun g r hr hn => by
    show (match c.isM M g with | true => c.ρ g | false => c'.ρ g) = r
    rw [hne g r hr hn]; exact hr
  have hrd : ∀ b g, Rd c'.ρ b g → Rd (c.shown c' M o.dst).ρ b g := fun b g hr => by
    rcases hr with hr | ⟨h1, hr⟩
    · exact .inl (hρ g _ hr (fun e => by cases e))
    · exact .inr ⟨h1, hρ g _ hr (fun e => by cases e)⟩
  have hmem : ∀ n, memN n M = true → c'.s.b n = none := fun n hn => hnone n (memN_iff.1 hn)
  have hbox : ∀ r cs, c'.s.box r = some cs → (c.shown c' M o.dst).s.box r = some cs ∧ (c.shown c' M o.dst).β r = c'.β r := fun r cs hb => by
    cases r with
    | loc n =>
      have hb : c'.s.b n = some cs := hb
      have hm : memN n M = false := by
        cases hm : memN n M with
        | false => rfl
        | true => rw [hmem n hm] at hb; cases hb
      refine ⟨?_, ?_⟩
      · show (match memN n M with | true => c.s.b n | false => c'.s.b n) = some cs
        rw [hm]; exact hb
      · show (match memN n M with | true => c.β (.loc n) | false => c'.β (.loc n)) = _
        rw [hm]
    | up n => exact ⟨hb, rfl⟩
  have hget : ∀ q r, c'.s.get q = some r → (c.shown c' M o.dst).s.get q = some r := fun q r hq => by
    cases q with
    | slot y l =>
      show (D.at_ l ((c'.s.shown M o.dst c.s).t y)).row? = _
      have hq' : (D.at_ l (c'.s.t y)).row? = some r := hq
      rcases shown_t (M := M) (dst := o.dst) (s0 := c.s) (s := c'.s) y with e | ⟨n, k, _, _, e, _, _⟩
      · rw [e]; exact hq'
      · rw [e] at hq'
        cases l <;> cases hq'
    | cell r0 k =>
      simp only [St.get, Option.bind_eq_some_iff] at hq ⊢
      obtain ⟨cs, h1, d, h2, h3⟩ := hq
      exact ⟨cs, (hbox r0 cs h1).1, d, h2, h3⟩
    | lent j => exact hq
  have m : Mono c' (c.shown c' M o.dst) Kill.none (fun _ => False) := ⟨rfl, fun b g hr _ => ⟨hrd b g hr, rfl⟩, fun q r hq _ => ⟨hget q r hq, rfl⟩, fun r hr _ => (by
    obtain ⟨cs, hcs⟩ := Option.isSome_iff_exists.1 hr
    obtain ⟨h1, h2⟩ := hbox r cs hcs
    exact ⟨by rw [h1]; rfl, h2⟩), fun q _ => ⟨rfl, fun g hg _ => ⟨hρ g _ hg (fun e => by cases e), rfl⟩⟩⟩
  have hMbox : ∀ n ∈ M, (c.shown c' M o.dst).s.box (.loc n) = c.s.b n ∧ (c.shown c' M o.dst).β (.loc n) = c.β (.loc n) := fun n hn => by
    have hm := memN_iff.2 hn
    refine ⟨?_, ?_⟩
    · show (match memN n M with | true => c.s.b n | false => c'.s.b n) = _
      rw [hm]
    · show (match memN n M with | true => c.β (.loc n) | false => c'.β (.loc n)) = _
      rw [hm]
  refine ⟨⟨⟨fun y => ?_, fun r cs hb => ?_, fun j r hg => ?_⟩, hf'.ghost.out, ?_⟩, ?_⟩
  · show VR _ _ ((c'.s.shown M o.dst c.s).t y) _
    rcases shown_t (M := M) (dst := o.dst) (s0 := c.s) (s := c'.s) y with e | ⟨n, k, hn, e0, _, hd, e⟩
    · rw [e]
      exact VR.same m (fun _ _ _ h => h) (hs'.slots y)
    · rw [e]
      obtain ⟨h1, h2⟩ := hMbox n hn
      obtain ⟨_, cs, hcs, _⟩ := hidOK_at h hn
      have hv := hs.slots y
      rw [e0] at hv
      have et : a'.tmps.getD y undef = a.tmps.getD y undef := by
        rw [htm]
        cases hdd : o.dst with
        | none => rfl
        | some x =>
          have hxy : x ≠ y := fun e => hd (by rw [hdd, e])
          simp [Act.put, Array.getD_eq_getD_getElem?, Array.getElem?_setIfInBounds_ne hxy]
      refine ⟨by rw [h1, hcs]; rfl, ?_⟩
      rw [et, h2]
      exact hv.2
  · by_cases hr : ∃ n ∈ M, r = .loc n
    · obtain ⟨n, hn, rfl⟩ := hr
      obtain ⟨h1, h2⟩ := hMbox n hn
      rw [h1] at hb
      obtain ⟨_, cs', hcs, hdat⟩ := hidOK_at h hn
      rw [hcs] at hb
      cases hb
      obtain ⟨vs, T, h3, h4, h5, h6⟩ := (hs.boxes (.loc n) _ hcs).out
      have hM : c.isM M (c.β (.loc n)) = true := isM_iff.2 ⟨n, hn, rfl⟩
      refine ⟨vs, T, ?_, ?_, h5, fun i d v hd hv => ?_⟩
      · rw [h2]
        exact (hoth _ hM).2.trans h3
      · rw [h2]
        show (match c.isM M (c.β (.loc n)) with | true => c.ρ (c.β (.loc n)) | false => c'.ρ (c.β (.loc n))) = _
        rw [hM]
        exact h4
      · obtain ⟨h7, h8, h9⟩ := h6 i d v hd hv
        obtain ⟨x, rfl⟩ := hdat d (List.mem_of_getElem? hd)
        refine ⟨?_, h8, h9⟩
        obtain ⟨cv, h10, h11⟩ := h7
        refine ⟨cv, h10.mono fun b g hr hg => ?_, h11⟩
        have hgM : c.isM M g = false := by
          cases hgM : c.isM M g with
          | false => rfl
          | true =>
            obtain ⟨k, _, _, h12, _⟩ := hid_box_ρ hs h hgM
            rcases hr with hr | ⟨_, hr⟩ <;> (rw [h12] at hr; cases hr)
        have hr1 : Rd (c.hid M).ρ b g := by
          rcases hr with hr | ⟨h1, hr⟩
          · exact .inl (hid_ρ hr hgM)
          · exact .inr ⟨h1, hid_ρ hr hgM⟩
        obtain ⟨h13, h14⟩ := he.rd b g hr1 hg
        exact ⟨hrd b g h13, h14⟩
    · have hbc : c'.s.box r = some cs := by
        cases r with
        | loc n =>
          have hm : memN n M = false := by
            cases hm : memN n M with
            | false => rfl
            | true => exact (hr ⟨n, memN_iff.1 hm, rfl⟩).elim
          have hb' : (match memN n M with | true => c.s.b n | false => c'.s.b n) = some cs := hb
          rw [hm] at hb'
          exact hb'
        | up n => exact hb
      obtain ⟨vs, T, h3, h4, h5, h6⟩ := (hs'.boxes r cs hbc).out
      have hβ := (hbox r cs hbc).2
      refine ⟨vs, T, by rw [hβ]; exact h3, by rw [hβ]; exact hρ _ _ h4 (fun e => by cases e), h5, fun i d v hd hv => ?_⟩
      obtain ⟨h7, h8, h9⟩ := h6 i d v hd hv
      exact ⟨VR.same m (fun _ _ _ h => h) h7, h8, h9⟩
  · have hg' : c'.s.get (.lent j) = some r := hg
    exact (hs'.lent j r hg').mono m (fun h => h)
  · show ((c'.s.shown M o.dst c.s).t X).hasOwn = false
    rcases shown_t (M := M) (dst := o.dst) (s0 := c.s) (s := c'.s) X with e | ⟨n, k, hn, e0, _, hd, e⟩
    · rw [e]; exact hf'.ghost.own
    · rw [e]; rfl
  · refine ⟨he.os, he.tape, he.output, he.size, fun g hg hst => ?_, he.ty, fun n => he.up n, fun j => he.lentH j⟩
    have hgM : c.isM M g = false := by
      cases hgM : c.isM M g with
      | false => rfl
      | true =>
        obtain ⟨k, _, _, h12, _⟩ := hid_box_ρ hs h hgM
        rw [h12] at hst
        exact hst.elim
    have h1 : (c.hid M).ρ g = c.ρ g := hid_ρ rfl hgM
    obtain ⟨h2, h3⟩ := he.keep g hg (by rw [h1]; exact hst)
    refine ⟨?_, h3⟩
    show (match c.isM M g with | true => c.ρ g | false => c'.ρ g) = _
    rw [hgM]
    exact h2.trans h1
end
end Go.Den
namespace Go.Den
open Go Go.RowKit
set_option linter.unusedVariables false
theorem put_junk {s : St} {n : Nat} (h : s.t n = .junk) : s.put n .junk = s := by
  have ho : (s.t n).hasOwn = false := by rw [h]; rfl
  unfold St.put
  rw [ho]
  cases s with
  | mk t b u l =>
    simp only [St.mk.injEq, and_true]
    funext y
    cases hb : Nat.beq y n with
    | true => rw [beq_eq.1 hb]; exact h.symm
    | false => rfl
section
variable {P : Program} {c : Cx} {a : Act} {o : Oper} {X : Nat}
/-- The block comes early: nobody knows of it. -/
theorem early_sound {n : Nat} {ob : Obj} {v : Value} (hf : Fr X c a) (hn : n < a.tmps.size) (hj : c.s.t n = .junk) :
    ∃ c', c'.s = c.s ∧ c'.W = c.W.alloc ob ∧ Fr X c' (a.put (some n) v) ∧ Ext c c' ∧ (∀ g, g < c.W.heap.size → c'.ρ g = c.ρ g) ∧ c'.ρ c.W.heap.size = .oth := by
  let c1 : Cx := { c with ρ := fun g => if g = c.W.heap.size then .oth else c.ρ g, W := c.W.alloc ob }
  have hρ : ∀ g, g < c.W.heap.size → c1.ρ g = c.ρ g := fun g hg => if_neg (by omega)
  have hg : Grown c c1 n := ⟨rfl, rfl, rfl, ⟨rfl, rfl, rfl, by show c.W.heap.size ≤ (c.W.alloc ob).heap.size; simp, fun k hk => Below.heap_alloc c.W ob k hk⟩, hρ, fun _ _ => rfl⟩
  have hsim := hg.put hf.sim hn (d := .junk) (v := v) trivial
  have hne : X ≠ n := Nat.ne_of_gt (Nat.lt_of_lt_of_le hn hf.ghost.out)
  have e := hg.ext
  refine ⟨{ c1 with s := c.s.put n .junk }, put_junk hj, rfl, ⟨hsim, by simpa [Act.put] using hf.ghost.out, put_own hne hf.ghost.own⟩, ⟨e.os, e.tape, e.output, e.size, e.keep, e.ty, e.up, e.lentH⟩, hρ, if_pos rfl⟩
/-- It is known from now on. -/
theorem adopt_sound {tm : Array Value} {n g : Nat} {cs : List D} {vs : List Value} {T : TypeId} (hs : Sim c tm) (hX : Ghost c tm X) (hn : n < tm.size) (hb : c.s.b n = none) (hl : vs.length = cs.length)
    (hv : ∀ (i : Nat) (d : D) (v : Value), cs[i]? = some d → vs[i]? = some v → VR c (.slot X [i]) d v ∧ v.oneCell' = true ∧ isCell d = true)
    (hg : c.ρ g = .oth) (hgh : c.W.heap[g]? = some (.cells vs.toArray T (0, 0))) (htm : tm.getD n undef = .pointer (some ⟨g, 0, none⟩)) :
    ∃ c1, c1.W = c.W ∧ c1.s = ((c.s.setBox (.loc n) cs).put n (.ptr (.loc n) 0)) ∧ Sim c1 tm ∧ (∀ c0, Ext c0 c → c0.W.heap.size ≤ g → Ext c0 c1) ∧ (∀ k, k ≠ g → stable (c.ρ k) → c1.ρ k = c.ρ k) ∧ (∀ b k, Rd c1.ρ b k → Rd c.ρ b k) := by
  have hbx : c.s.box (.loc n) = none := hb
  let h := c.home X (toCells (.loc n) 0) (ofCells (.loc n) 0 cs.length)
  let c1 : Cx := { h with ρ := fun k => if k = g then .box (.loc n) else h.ρ k, β := fun r => match r.is (.loc n) with | true => g | false => c.β r, W := c.W, s := c.s.setBox (.loc n) cs }
  have hρ : ∀ k, k ≠ g → c1.ρ k = h.ρ k := fun k hk => if_neg hk
  have hng : ∀ k r, c.ρ k = r → r ≠ .oth → k ≠ g := fun k r hk hr e => hr (by rw [← hk, e, hg])
  have hβ : ∀ r, r ≠ .loc n → c1.β r = c.β r := fun r hr => by
    have : r.is (.loc n) = false := by
      cases e : r.is (.loc n) with
      | true => exact absurd (Ref.is_eq.1 e) hr
      | false => rfl
    simp only [c1, this]
  have hsome : ∀ r, (c.s.box r).isSome = true → r ≠ .loc n := fun r hr e => by rw [e, hbx] at hr; cases hr
  have hget : ∀ q r, c.s.get q = some r → ∀ o, q ≠ .cell (.loc n) o := fun q r hq o e => by
    rw [e] at hq
    simp [St.get, hbx] at hq
  have hH : ∀ q, (∀ o, q ≠ .cell (.loc n) o) → c1.H q = c.H q := fun q hq => by
    have : ofCells (.loc n) 0 cs.length q = none := by
      cases q with
      | cell r o =>
        have : r.is (.loc n) = false := by
          cases e : r.is (.loc n) with
          | true => exact absurd (by rw [Ref.is_eq.1 e]) (hq o)
          | false => rfl
        simp [ofCells, this]
      | _ => rfl
    show h.H q = c.H q
    simp only [h, Cx.home, this]
  have hrd : ∀ b k, Rd c.ρ b k → k < c.W.heap.size → Rd c1.ρ b k ∧ c1.W.heap[k]? = c.W.heap[k]? := fun b k hr hk => ⟨by
    have hkg : k ≠ g := by
      rcases hr with hr | ⟨_, hr⟩
      · exact hng k _ hr (fun e => by cases e)
      · exact hng k _ hr (fun e => by cases e)
    unfold Rd
    rw [hρ k hkg]
    exact Cx.home_rd b k hr, rfl⟩
  have hbs : ∀ r, r ≠ .loc n → c1.s.box r = c.s.box r := fun r hr => box_setBox hr
  have m : Mono c c1 Kill.none (fun q => (∃ o, q = .cell (.loc n) o) ∨ Under X q) := by
    refine ⟨rfl, hrd, fun q r hq _ => ⟨?_, hH q (hget q r hq)⟩, fun r hr _ => ⟨by rw [hbs r (hsome r hr)]; exact hr, hβ r (hsome r hr)⟩, fun q hq => ⟨hH q (fun o e => hq (.inl ⟨o, e⟩)), fun k hk hlt => ⟨?_, rfl⟩⟩⟩
    · cases q with
      | slot y l => show ((D.at_ l ((c.s.setBox (.loc n) cs).t y)).row? = _); rw [setBox_tl.1]; exact hq
      | cell r' o =>
        have hne : r' ≠ .loc n := fun e => hget _ r hq o (by rw [e])
        simp only [St.get] at hq ⊢
        rw [hbs r' hne]
        exact hq
      | lent j => simp only [St.get] at hq ⊢; rw [show c1.s.l = c.s.l from setBox_tl.2]; exact hq
    · rw [hρ k (hng k _ hk (fun e => by cases e)), Cx.home_ρ k (fun l e => by rw [hk] at e; injection e with e; exact hq (.inr ⟨l, e⟩))]
      exact hk
  have hb1 : c1.β (.loc n) = g := by
    have : (Ref.loc n).is (.loc n) = true := Ref.is_eq.2 rfl
    simp only [c1, this]
  have hnew : BoxOK c1 (.loc n) cs := by
    refine ⟨vs, T, ?_, ?_, hl, fun i d v hd hvv => ?_⟩
    · rw [hb1]
      exact hgh
    · rw [hb1]
      exact if_pos rfl
    · obtain ⟨h1, h2, h3⟩ := hv i d v hd hvv
      refine ⟨?_, h2, h3⟩
      have hlt : i < cs.length := (List.getElem?_eq_some_iff.1 hd).1
      refine home_vr (c := c) (c1 := c1) (sl := false) (X := X) (fwd := fun l => match l with | [j] => if j < cs.length then some (.cell (.loc n) j) else none | _ => none) ⟨rfl, hrd, fun l q hl' => ?_, fun r hr => ⟨by rw [hbs r (hsome r hr)]; exact hr, hβ r (hsome r hr)⟩, fun q r hf => by cases hf⟩ d [i] (.cell (.loc n) i) v (by cases d <;> simp [isCell] at h3 <;> rfl) h1 (fun l r hr => ?_)
      · split at hl'
        · rename_i j
          split at hl'
          · rename_i hj
            cases hl'
            refine ⟨?_, fun k hk hlt => ⟨?_, rfl⟩⟩
            · have : ofCells (.loc n) 0 cs.length (.cell (.loc n) j) = some [j] := by
                have e1 : (Ref.loc n).is (.loc n) = true := Ref.is_eq.2 rfl
                have e2 : Nat.ble 0 j = true := by simp
                have e3 : Nat.blt j (0 + cs.length) = true := by simp [Nat.blt]; omega
                simp only [ofCells, e1, e2, e3, Bool.and_self, Nat.sub_zero]
              show h.H _ = _
              simp only [h, Cx.home, this]
            · rw [hρ k (hng k _ hk (fun e => by cases e))]
              exact Cx.home_row hk (by simp [toCells])
          · cases hl'
        · cases hl'
      · cases l with
        | nil => simp [hlt, Pl.subs]
        | cons j l => cases d <;> simp [D.at_, D.row?, isCell] at hr h3
  have hsim : Sim c1 tm := by
    refine Sim.setBox (r := .loc n) (cs := cs) (K := Kill.none) hs m (fun _ => rfl) (by rw [killed_none]) (fun q r' hq e => ?_) (fun r' hne hr' => ?_) hnew
    · rcases e with ⟨o, e⟩ | e
      · exact ⟨o, e⟩
      · exact (hX.get hq e).elim
    · obtain ⟨cs', hb'⟩ := Option.isSome_iff_exists.1 hr'
      have hlt := (hs.boxes r' cs' hb').lt
      obtain ⟨vs', T', h1, h2, _⟩ := (hs.boxes r' cs' hb').out
      refine ⟨?_, rfl⟩
      rw [hρ _ (hng _ _ h2 (fun e => by cases e)), Cx.home_ρ _ (fun l e => by rw [h2] at e; cases e)]
      exact h2
  have htm' : tm.setIfInBounds n (.pointer (some ⟨g, 0, none⟩)) = tm := by
    apply Array.ext (by simp)
    intro i h1 h2
    by_cases e : n = i
    · subst e
      simp only [Array.getElem_setIfInBounds_self]
      rw [← htm]
      simp [Array.getD, h2]
    · rw [Array.getElem_setIfInBounds_ne h2 e]
  refine ⟨{ c1 with s := c1.s.put n (.ptr (.loc n) 0) }, rfl, rfl, ?_, fun c0 he hlt => ?_, fun k hk hst => ?_, fun b k hr => ?_⟩
  · have := Sim.put (c1 := c1) (x := n) (d := .ptr (.loc n) 0) (v := .pointer (some ⟨g, 0, none⟩)) hsim hn rfl ⟨rfl, fun b g h _ => ⟨h, rfl⟩, fun q r h _ => ⟨h, rfl⟩, fun r h _ => ⟨h, rfl⟩, fun q _ => ⟨rfl, fun g h _ => ⟨h, rfl⟩⟩⟩ (fun r _ => ⟨rfl, rfl, rfl⟩) ⟨by
      show ((c.s.setBox (.loc n) cs).box (.loc n)).isSome = true
      have hb2 : Nat.beq n n = true := beq_eq.2 rfl
      simp only [St.setBox, St.box, hb2]
      rfl, by rw [hb1]⟩
    rwa [htm'] at this
  · refine ⟨he.os, he.tape, he.output, he.size, fun k hk hst => ?_, he.ty, fun k => (hβ (.up k) (fun e => by cases e)).trans (he.up k), fun j => ?_⟩
    · obtain ⟨h1, h2⟩ := he.keep k hk hst
      refine ⟨?_, h2⟩
      show c1.ρ k = _
      rw [hρ k (by omega), ← h1]
      exact Cx.home_stable (by rw [h1]; exact hst)
    · show h.H (.lent j) = _
      exact (hH (.lent j) (fun o e => by cases e)).trans (he.lentH j)
  · show c1.ρ k = _
    rw [hρ k hk]
    exact Cx.home_stable hst
  · have hr' : Rd c1.ρ b k := hr
    have hkg : k ≠ g := fun e => by
      subst e
      have h1 : c1.ρ k = .box (.loc n) := if_pos rfl
      rcases hr' with hr | ⟨_, hr⟩ <;> (rw [h1] at hr; cases hr)
    unfold Rd at hr' ⊢
    rw [hρ k hkg] at hr'
    have hback : ∀ r, h.ρ k = r → (r = .set ∨ r = .out) → c.ρ k = r := fun r hk hr => by
      simp only [h, Cx.home] at hk
      split at hk
      · split at hk
        · split at hk <;> (rcases hr with hr | hr <;> (rw [← hk] at hr; cases hr))
        · rcases hr with hr | hr <;> (rw [← hk] at hr; cases hr)
      · exact hk
    rcases hr' with hr | ⟨h1, hr⟩
    · exact .inl (hback _ hr (.inl rfl))
    · exact .inr ⟨h1, hback _ hr (.inr rfl)⟩
end
end Go.Den
namespace Go.Den
open Go Go.RowKit
set_option linter.unusedVariables false
def allocsOf : List PRow → List Nat
  | [] => []
  | (i, k, _) :: l => match Nat.beq k 3 with | true => i :: allocsOf l | false => allocsOf l
def setAll (L : Array Bool) : List Nat → Array Bool
  | [] => L
  | i :: l => setAll (L.setIfInBounds i true) l
def flagged (l : List PRow) (j : Nat) : Bool := !(l.any fun r => Nat.beq r.1 j && Nat.beq r.2.1 2)
def dstIs (o : Oper) (n : Nat) : Bool := match o.dst with | some m => Nat.beq m n | none => false
def dstsOK (ops : Array Oper) : Bool :=
  (List.range ops.size).all fun i => (List.range ops.size).all fun j => Nat.beq i j || match ops[i]?, ops[j]? with
    | some x, some y => (match x.dst with | some n => !dstIs y n | none => true)
    | _, _ => true
def allocOK (ty : Nat → Option TI) (ops : Array Oper) (ds : List Nat) (i : Nat) : Bool :=
  match ops[i]? with
  | some o => (match o.op, o.dst, o.guard with | .alloc t, some n, none => memN n ds && (ty t).isSome | _, _, _ => false)
  | none => false
def on? (D : List Nat) (i : Nat) (o : Oper) : Bool := o.after.any fun e => Region.binds .any e && (Nat.beq e.on i || memN e.on D)
/-- What must come behind i. -/
def behind (ops : Array Oper) (i : Nat) : List Nat → List Nat → List Nat
  | [], D => D
  | j :: l, D => behind ops i l (match ops[j]? with | some o => (match on? D i o with | true => j :: D | false => D) | none => D)
def behindOK (ops : Array Oper) (L : Array Bool) (i : Nat) (A D : List Nat) : Bool :=
  (D.all fun j => (match ops[j]? with | some o => on? D i o | none => true) && (!L.getD j false && !memN j A))
def freeOK (ops : Array Oper) (L : Array Bool) (i : Nat) (D : List Nat) : Bool :=
  match ops[i]? with
  | none => false
  | some oi => (List.range ops.size).all fun j => Nat.beq j i || (L.getD j true || (memN j D || match ops[j]? with | some oj => oi.apart ops oj | none => true))
def lateOK (ops : Array Oper) (fl : Nat → Bool) (L : Array Bool) (i : Nat) (D : List Nat) : Bool :=
  (List.range ops.size).all fun j => Nat.beq j i || (L.getD j true || (memN j D || fl j))
def calmOK (ops : Array Oper) (L : Array Bool) (i : Nat) (A : List Nat) : Bool := behindOK ops L i A (behind ops i (List.range ops.size) []) && freeOK ops L i (behind ops i (List.range ops.size) [])
def aloneOK (ops : Array Oper) (L : Array Bool) (i : Nat) (l : List PRow) : Bool := (Region.ready .any ops (setAll L (allocsOf l))).all (Nat.beq i)
def rowOK (ops : Array Oper) (fl : Nat → Bool) (L : Array Bool) (i k : Nat) (l : List PRow) : Bool :=
  match k with
  | 0 => calmOK ops L i (allocsOf l)
  | 1 => calmOK ops L i (allocsOf l) && lateOK ops fl L i (behind ops i (List.range ops.size) [])
  | 2 => aloneOK ops L i l && !fl i
  | _ => aloneOK ops L i l
def planGo (ty : Nat → Option TI) (ops : Array Oper) (fl : Nat → Bool) : Array Bool → List PRow → Bool
  | L, [] => (Region.ready .any ops L).isEmpty
  | L, (i, k, ds) :: l => ((Region.ready .any ops L).contains i && (!(l.any fun r => Nat.beq r.1 i) && (allocsOf ((i, k, ds) :: l)).all (allocOK ty ops ds))) && (rowOK ops fl L i k l && planGo ty ops fl (L.setIfInBounds i true) l)
def planOK (ty : Nat → Option TI) (ops : Array Oper) (p : Plan) : Bool :=
  (Region.noSelect ops && (dstsOK ops && Nat.ble p.2.length ops.size)) && ((match p.1 with | some M => ops.all (fun o => M.all fun n => !dstIs o n) | none => true) && planGo ty ops (flagged p.2) (Array.replicate ops.size false) p.2)
/-- Some have come up early. -/
def Sup (L listed : Array Bool) (A : List Nat) : Prop := ∀ j : Nat, listed[j]? = (L[j]?).map (· || memN j A)
theorem memN_cons {a x : Nat} {l : List Nat} : memN x (a :: l) = (Nat.beq x a || memN x l) := by
  cases h : memN x (a :: l) with
  | true =>
    have := memN_iff.1 h
    rcases List.mem_cons.1 this with e | e
    · simp [beq_eq.2 e]
    · simp [memN_iff.2 e]
  | false =>
    cases h2 : Nat.beq x a with
    | true => rw [memN_iff.2 (by rw [beq_eq.1 h2]; simp)] at h; cases h
    | false =>
      cases h3 : memN x l with
      | true => rw [memN_iff.2 (List.mem_cons_of_mem _ (memN_iff.1 h3))] at h; cases h
      | false => rfl
theorem Sup.refl (L : Array Bool) : Sup L L [] := fun j => by simp [memN]
theorem getElem?_set (L : Array Bool) (i j : Nat) : (L.setIfInBounds i true)[j]? = if i = j then (L[j]?).map (fun _ => true) else L[j]? := by
  by_cases h : i = j
  · subst h
    rw [if_pos rfl]
    by_cases hl : i < L.size
    · simp [hl]
    · rw [Array.getElem?_eq_none (by simp; omega), Array.getElem?_eq_none (by omega)]; rfl
  · rw [if_neg h, Array.getElem?_setIfInBounds_ne h]
theorem Sup.set {L listed : Array Bool} {A : List Nat} (h : Sup L listed A) (i : Nat) : Sup (L.setIfInBounds i true) (listed.setIfInBounds i true) A := fun j => by
  rw [getElem?_set, getElem?_set, h j]
  by_cases e : i = j
  · simp [e]
    cases L[j]? <;> rfl
  · simp [e]
theorem Sup.early {L listed : Array Bool} {A : List Nat} (h : Sup L listed A) (i : Nat) : Sup L (listed.setIfInBounds i true) (i :: A) := fun j => by
  rw [getElem?_set, h j]
  by_cases e : i = j
  · have hb : Nat.beq j i = true := beq_eq.2 e.symm
    simp only [e, if_true, memN_cons]
    rw [show Nat.beq j j = true from beq_eq.2 rfl]
    cases L[j]? <;> simp
  · have hb : Nat.beq j i = false := beq_ne.2 (fun h => e h.symm)
    simp [e, memN_cons, hb]
theorem Sup.adopt {L listed : Array Bool} {A : List Nat} (h : Sup L listed A) {i : Nat} (hi : memN i A = true) : Sup (L.setIfInBounds i true) listed (A.filter fun j => !Nat.beq j i) := fun j => by
  rw [getElem?_set, h j]
  by_cases e : i = j
  · subst e
    simp only [if_true, hi]
    cases L[i]? <;> simp
  · have hb : Nat.beq j i = false := beq_ne.2 (fun h => e h.symm)
    rw [if_neg e]
    have : memN j (A.filter fun j => !Nat.beq j i) = memN j A := by
      cases h1 : memN j A with
      | true => exact memN_iff.2 (List.mem_filter.2 ⟨memN_iff.1 h1, by simp [hb]⟩)
      | false =>
        cases h2 : memN j (A.filter fun j => !Nat.beq j i) with
        | false => rfl
        | true => rw [memN_iff.2 (List.mem_filter.1 (memN_iff.1 h2)).1] at h1; cases h1
    rw [this]
theorem setAll_sup : ∀ (B : List Nat) (L : Array Bool), Sup L (setAll L B) B
  | [], L => Sup.refl L
  | i :: B, L => fun j => by
    have := setAll_sup B (L.setIfInBounds i true) j
    simp only [setAll]
    rw [this, getElem?_set]
    by_cases e : i = j
    · subst e
      simp only [if_true, memN_cons, show Nat.beq i i = true from beq_eq.2 rfl]
      cases L[i]? <;> simp
    · have hb : Nat.beq j i = false := beq_ne.2 (fun h => e h.symm)
      simp [e, memN_cons, hb]
theorem Sup.un {L listed : Array Bool} {A : List Nat} (h : Sup L listed A) {j : Nat} (hu : listed.getD j true = false) : L.getD j true = false ∧ memN j A = false := by
  rw [Array.getD_eq_getD_getElem?, h j] at hu
  rw [Array.getD_eq_getD_getElem?]
  cases hL : L[j]? with
  | none => rw [hL] at hu; cases hu
  | some b =>
    rw [hL] at hu
    simp at hu ⊢
    exact hu
theorem Sup.un' {L listed : Array Bool} {A : List Nat} (h : Sup L listed A) {j : Nat} (hu : L.getD j true = false) (hA : memN j A = false) : listed.getD j true = false := by
  rw [Array.getD_eq_getD_getElem?] at hu
  rw [Array.getD_eq_getD_getElem?, h j]
  cases hL : L[j]? with
  | none => rw [hL] at hu; cases hu
  | some b =>
    rw [hL] at hu
    simp at hu ⊢
    exact ⟨hu, hA⟩
theorem Sup.on {L listed : Array Bool} {A : List Nat} (h : Sup L listed A) {j : Nat} (hu : L.getD j false = true) : listed.getD j false = true := by
  rw [Array.getD_eq_getD_getElem?] at hu
  rw [Array.getD_eq_getD_getElem?, h j]
  cases hL : L[j]? with
  | none => rw [hL] at hu; cases hu
  | some b =>
    rw [hL] at hu
    simp at hu ⊢
    exact .inl hu
theorem ready_up {md : Region.Mode} {ops : Array Oper} {L listed : Array Bool} {A : List Nat} (h : Sup L listed A) {j : Nat} (hj : j ∈ Region.ready md ops L) (hA : memN j A = false) : j ∈ Region.ready md ops listed := by
  obtain ⟨h1, o, ho, h2⟩ := mem_ready.1 hj
  exact mem_ready.2 ⟨h.un' h1 hA, o, ho, fun e he hb => h.on (h2 e he hb)⟩
theorem ready_dn {md : Region.Mode} {ops : Array Oper} {L listed : Array Bool} {A B : List Nat} (h : Sup L listed A) (hAB : ∀ k, memN k A = true → memN k B = true) {j : Nat} (hj : j ∈ Region.ready md ops listed) : memN j B = true ∨ j ∈ Region.ready md ops (setAll L B) := by
  cases hB : memN j B with
  | true => exact .inl rfl
  | false =>
    right
    obtain ⟨h1, o, ho, h2⟩ := mem_ready.1 hj
    have hs := setAll_sup B L
    refine mem_ready.2 ⟨hs.un' (h.un h1).1 hB, o, ho, fun e he hb => ?_⟩
    have h3 := h2 e he hb
    rw [Array.getD_eq_getD_getElem?, h e.on] at h3
    rw [Array.getD_eq_getD_getElem?, hs e.on]
    cases hL : L[e.on]? with
    | none => rw [hL] at h3; cases h3
    | some b =>
      rw [hL] at h3
      simp at h3 ⊢
      rcases h3 with h3 | h3
      · exact .inl h3
      · exact .inr (hAB _ h3)
/-- How many are still to come. -/
def still (A : List Nat) (l : List PRow) : Nat := l.countP fun r => !memN r.1 A
theorem still_cons {A : List Nat} {i k : Nat} {ds : List Nat} {l : List PRow} : still A ((i, k, ds) :: l) = still A l + (match memN i A with | true => 0 | false => 1) := by
  unfold still
  rw [List.countP_cons]
  cases memN i A <;> rfl
theorem still_mono {A B : List Nat} (h : ∀ k, memN k A = true → memN k B = true) (l : List PRow) : still B l ≤ still A l := by
  unfold still
  refine List.countP_mono_left fun r _ hr => ?_
  cases hA : memN r.1 A with
  | false => rfl
  | true => rw [h _ hA] at hr; cases hr
theorem still_early {A : List Nat} {j : Nat} (hj : memN j A = false) : ∀ {l : List PRow}, (∃ r ∈ l, r.1 = j) → still (j :: A) l + 1 ≤ still A l
  | [], h => by obtain ⟨r, h, _⟩ := h; cases h
  | (i, k, ds) :: l, h => by
    rw [still_cons, still_cons]
    have hm := still_mono (A := A) (B := j :: A) (fun k hk => by rw [memN_cons, hk]; simp) l
    by_cases e : i = j
    · subst e
      have h1 : memN i (i :: A) = true := memN_iff.2 (by simp)
      rw [h1, hj]
      simp only
      omega
    · have h2 : ∃ r ∈ l, r.1 = j := by
        obtain ⟨r, hr, hrj⟩ := h
        rcases List.mem_cons.1 hr with rfl | hr
        · exact (e hrj).elim
        · exact ⟨r, hr, hrj⟩
      have ih := still_early hj h2
      have hb : Nat.beq i j = false := beq_ne.2 e
      have : memN i (j :: A) = memN i A := by rw [memN_cons, hb]; rfl
      rw [this]
      omega
theorem still_adopt {A : List Nat} {i : Nat} {l : List PRow} (h : l.any (fun r => Nat.beq r.1 i) = false) : still (A.filter fun j => !Nat.beq j i) l ≤ still A l := by
  unfold still
  refine Nat.le_of_eq (List.countP_congr fun r hr => ?_)
  have hne : Nat.beq r.1 i = false := by
    have := (List.any_eq_false.1 h) r hr
    cases hb : Nat.beq r.1 i with
    | false => rfl
    | true => exact (this hb).elim
  have : memN r.1 (A.filter fun j => !Nat.beq j i) = memN r.1 A := by
    cases h1 : memN r.1 A with
    | true => exact memN_iff.2 (List.mem_filter.2 ⟨memN_iff.1 h1, by simp [hne]⟩)
    | false =>
      cases h2 : memN r.1 (A.filter fun j => !Nat.beq j i) with
      | false => rfl
      | true => rw [memN_iff.2 (List.mem_filter.1 (memN_iff.1 h2)).1] at h1; cases h1
  rw [this]
theorem allocsOf_mem : ∀ {l : List PRow} {j : Nat}, j ∈ allocsOf l → ∃ r ∈ l, r.1 = j
  | (i, k, ds) :: l, j, h => by
    unfold allocsOf at h
    split at h
    · rcases List.mem_cons.1 h with rfl | h
      · exact ⟨_, List.mem_cons_self, rfl⟩
      · obtain ⟨r, hr, e⟩ := allocsOf_mem h
        exact ⟨r, List.mem_cons_of_mem _ hr, e⟩
    · obtain ⟨r, hr, e⟩ := allocsOf_mem h
      exact ⟨r, List.mem_cons_of_mem _ hr, e⟩
theorem allocOK_at {ty : Nat → Option TI} {ops : Array Oper} {ds : List Nat} {j : Nat} (h : allocOK ty ops ds j = true) : ∃ o t n i, ops[j]? = some o ∧ o.op = .alloc t ∧ o.dst = some n ∧ o.guard = none ∧ n ∈ ds ∧ ty t = some i := by
  unfold allocOK at h
  split at h
  · rename_i o ho
    split at h
    · rename_i t n h1 h2 h3
      simp only [Bool.and_eq_true] at h
      obtain ⟨i, hi⟩ := Option.isSome_iff_exists.1 h.2
      exact ⟨o, t, n, i, ho, h1, h2, h3, memN_iff.1 h.1, hi⟩
    · cases h
  · cases h
theorem allJunk_at {s : St} : ∀ {ds : List Nat}, allJunk s ds = true → ∀ n ∈ ds, s.t n = .junk
  | [], h, n, hn => by cases hn
  | m :: ds, h, n, hn => by
    have h' : (isJunk (s.t m) && allJunk s ds) = true := h
    simp only [Bool.and_eq_true] at h'
    rcases List.mem_cons.1 hn with rfl | hn
    · exact isJunk_eq h'.1
    · exact allJunk_at h'.2 n hn
theorem dstsOK_at {ops : Array Oper} (h : dstsOK ops = true) {i j : Nat} {x y : Oper} {n : Nat} (hi : ops[i]? = some x) (hj : ops[j]? = some y) (hne : i ≠ j) (hx : x.dst = some n) : y.dst ≠ some n := by
  intro hy
  have hil := (Array.getElem?_eq_some_iff.1 hi).1
  have hjl := (Array.getElem?_eq_some_iff.1 hj).1
  have h1 := (List.all_eq_true.1 h) i (List.mem_range.2 hil)
  have h2 := (List.all_eq_true.1 h1) j (List.mem_range.2 hjl)
  rw [hi, hj, beq_ne.2 hne] at h2
  simp only [hx, dstIs, hy, Bool.false_or] at h2
  rw [show Nat.beq n n = true from beq_eq.2 rfl] at h2
  cases h2
theorem lateOK_at {ops : Array Oper} {fl : Nat → Bool} {L : Array Bool} {i : Nat} {D : List Nat} (h : lateOK ops fl L i D = true) {j : Nat} {oj : Oper} (hj : ops[j]? = some oj) (hne : j ≠ i) (hun : L.getD j true = false) (hno : memN j D = false) : fl j = true := by
  have h1 := (List.all_eq_true.1 h) j (List.mem_range.2 (Array.getElem?_eq_some_iff.1 hj).1)
  rw [beq_ne.2 hne, hun, hno] at h1
  simpa using h1
theorem freeOK_at {ops : Array Oper} {L : Array Bool} {i : Nat} {oi : Oper} {D : List Nat} (hi : ops[i]? = some oi) (h : freeOK ops L i D = true) {j : Nat} {oj : Oper} (hj : ops[j]? = some oj) (hne : j ≠ i) (hun : L.getD j true = false) (hno : memN j D = false) : oi.apart ops oj = true := by
  unfold freeOK at h
  rw [hi] at h
  have h1 := (List.all_eq_true.1 h) j (List.mem_range.2 (Array.getElem?_eq_some_iff.1 hj).1)
  rw [beq_ne.2 hne, hun, hno, hj] at h1
  simpa using h1
theorem behindOK_at {ops : Array Oper} {L : Array Bool} {i : Nat} {A D : List Nat} (h : behindOK ops L i A D = true) {j : Nat} (hD : memN j D = true) : (∀ oj, ops[j]? = some oj → ∃ e ∈ oj.after, Region.binds .any e = true ∧ (e.on = i ∨ memN e.on D = true)) ∧ L.getD j false = false ∧ memN j A = false := by
  have h1 := (List.all_eq_true.1 h) j (memN_iff.1 hD)
  simp only [Bool.and_eq_true, Bool.not_eq_true'] at h1
  refine ⟨fun oj hoj => ?_, h1.2.1, h1.2.2⟩
  rw [hoj] at h1
  obtain ⟨e, he, hb⟩ := Array.any_eq_true'.1 h1.1
  simp only [Bool.and_eq_true, Bool.or_eq_true] at hb
  refine ⟨e, he, hb.1, ?_⟩
  rcases hb.2 with h | h
  · exact .inl (beq_eq.1 h)
  · exact .inr h
theorem Sup.onL {L listed : Array Bool} {A : List Nat} (h : Sup L listed A) {j : Nat} (hu : listed.getD j false = true) : L.getD j false = true ∨ memN j A = true := by
  rw [Array.getD_eq_getD_getElem?, h j] at hu
  rw [Array.getD_eq_getD_getElem?]
  cases hL : L[j]? with
  | none => rw [hL] at hu; cases hu
  | some b =>
    rw [hL] at hu
    simpa using hu
end Go.Den
namespace Go.Den
open Go Go.RowKit
set_option linter.unusedVariables false
/-- The blocks that stay as they are while loads are about. -/
def Gd (c0 : Cx) (a0 : Act) : Option (List Nat) → Nat → Prop
  | none, _ => True
  | some M, g => (g < c0.W.heap.size ∧ stable (c0.ρ g)) ∨ ∃ n ∈ M, a0.tmps.getD n undef = .pointer (some ⟨g, 0, none⟩)
def RG (G : Nat → Prop) (w w' : World) : Prop := w.heap.size ≤ w'.heap.size ∧ ∀ g, g < w.heap.size → G g → w'.heap[g]? = w.heap[g]?
theorem RG.refl {G : Nat → Prop} (w : World) : RG G w w := ⟨Nat.le_refl _, fun _ _ _ => rfl⟩
theorem RG.trans {G : Nat → Prop} (a b c : World) (h : RG G a b) (k : RG G b c) : RG G a c :=
  ⟨Nat.le_trans h.1 k.1, fun g hg hG => (k.2 g (Nat.lt_of_lt_of_le hg h.1) hG).trans (h.2 g hg hG)⟩
theorem RG.of_below {G : Nat → Prop} {w w' : World} (h : Below w.heap.size w w') : RG G w w' := ⟨h.size, fun g hg _ => h.block g hg⟩
theorem getD_put {a : Act} {x : Option Nat} {v : Value} {y : Nat} (h : x ≠ some y) : (a.put x v).tmps.getD y undef = a.tmps.getD y undef := by
  cases x with
  | none => rfl
  | some x =>
    have hxy : x ≠ y := fun e => h (by rw [e])
    simp [Act.put, Array.getD_eq_getD_getElem?, Array.getElem?_setIfInBounds_ne hxy]
/-- A variable that came early. -/
def AllocAt (ops : Array Oper) (c0 c : Cx) (a : Act) (j g : Nat) : Prop :=
  ∃ o t n i vs T, ops[j]? = some o ∧ o.op = .alloc t ∧ o.dst = some n ∧ c.ty t = some i ∧ c0.W.heap.size ≤ g ∧ c.ρ g = .oth ∧ c.W.heap[g]? = some (.cells (List.toArray vs) T (0, 0)) ∧ a.tmps.getD n undef = .pointer (some ⟨g, 0, none⟩) ∧ ∀ c' Y, c'.ty = c.ty → CellsVR (Cx.nilH c' Y) Y i.zero vs
theorem AllocAt.step {ops : Array Oper} {c0 c c' : Cx} {a a' : Act} {j g : Nat} {x : Option Nat} {v : Value} (h : AllocAt ops c0 c a j g) (he : Ext c c') (ha : a'.tmps = (a.put x v).tmps) (hx : ∀ o n, ops[j]? = some o → o.dst = some n → x ≠ some n) : AllocAt ops c0 c' a' j g := by
  obtain ⟨o, t, n, i, vs, T, h1, h2, h3, h4, h5, h6, h7, h8, h9⟩ := h
  have hlt := (Array.getElem?_eq_some_iff.1 h7).1
  obtain ⟨h10, h11⟩ := he.keep g hlt (by rw [h6]; trivial)
  refine ⟨o, t, n, i, vs, T, h1, h2, h3, by rw [he.ty]; exact h4, h5, h10.trans h6, h11.trans h7, ?_, fun c' Y e => h9 c' Y (by rw [e, he.ty])⟩
  rw [ha, getD_put (hx o n h1 h3)]
  exact h8
structure Inv (P : Program) (E : Env) (ops : Array Oper) (X : Nat) (Mo : Option (List Nat)) (c0 : Cx) (a0 : Act) (first : Bool) (A : List Nat) (blk : Nat → Nat) (c : Cx) (a : Act) : Prop where
  fr : Fr X c a
  env : EnvOK P E c a
  ext : Ext c0 c
  sz : a.tmps.size = a0.tmps.size
  df : a.defers = a0.defers
  mtm : ∀ M, Mo = some M → ∀ n ∈ M, a.tmps.getD n undef = a0.tmps.getD n undef
  fst : first = true → ∀ b g, Rd c.ρ b g → g < c.W.heap.size → g < c0.W.heap.size ∧ stable (c0.ρ g)
  al : ∀ j, memN j A = true → AllocAt ops c0 c a j (blk j)
  dis : ∀ j k, memN j A = true → memN k A = true → j ≠ k → blk j ≠ blk k
theorem guarded_sound {α : Type} {E : Env} {ops : Array Oper} {c : Cx} {a : Act} {o : Oper} {k z : St → Option α} {r : α} (hs : Sim c a.tmps) (hops : ∀ o ∈ ops.toList, operOK E.nt o = true) (hsz : a.tmps.size = E.nt) (h : guarded ops c.s o.guard k z = some r) :
    (Region.wanted o (yielded ops a.tmps) = true ∧ k c.s = some r) ∨ (Region.wanted o (yielded ops a.tmps) = false ∧ z c.s = some r) := by
  unfold guarded at h
  split at h
  · rename_i hg
    exact .inl ⟨by simp [Region.wanted, hg], h⟩
  · rename_i j want hg
    split at h
    · cases h
    · rename_i n hn
      have hnlt : n < a.tmps.size := by
        cases hj : ops[j]? with
        | none => rw [hj] at hn; cases hn
        | some oj =>
          rw [hj] at hn
          rw [hsz]
          exact operOK_dst (hops oj (by have := Array.mem_of_getElem? hj; exact Array.mem_toList_iff.2 this)) n hn
      obtain ⟨h1, h2⟩ := guard_val (ops := ops) (j := j) hs hnlt hn
      split at h
      · rename_i b hb
        have hy := h1 _ hb
        cases b with
        | true =>
          simp only at h
          rw [force_eq hb] at h
          cases want with
          | true => exact .inl ⟨by simp [Region.wanted, hg, hy], h⟩
          | false => exact .inr ⟨by simp [Region.wanted, hg, hy], h⟩
        | false =>
          simp only at h
          rw [force_eq hb] at h
          cases want with
          | true => exact .inr ⟨by simp [Region.wanted, hg, hy], h⟩
          | false => exact .inl ⟨by simp [Region.wanted, hg, hy], h⟩
      · rename_i hb
        have hy := h2 hb
        exact .inr ⟨by simp [Region.wanted, hg, hy], h⟩
      · cases h
theorem undef_take {c : Cx} {a : Act} {X : Nat} {x : Option Nat} (hf : Fr X c a) (hd : ∀ n : Nat, x = some n → n < a.tmps.size) : Fr X { c with s := c.s.putO x .undef } (a.put x undef) ∧ Ext c { c with s := c.s.putO x .undef } := by
  cases x with
  | none => exact ⟨hf, Ext.refl c⟩
  | some n =>
    have hlt := hd n rfl
    have hne : X ≠ n := Nat.ne_of_gt (Nat.lt_of_lt_of_le hlt hf.ghost.out)
    have hsim := (Grown.refl c n).put hf.sim hlt (show VR c (.slot n []) .undef undef from rfl)
    exact ⟨⟨hsim, by simpa [Act.put] using hf.ghost.out, put_own hne hf.ghost.own⟩, (Ext.refl c).setS _⟩
theorem put_size (a : Act) (x : Option Nat) (v : Value) : (a.put x v).tmps.size = a.tmps.size := by cases x <;> simp [Act.put]
theorem put_defers (a : Act) (x : Option Nat) (v : Value) : (a.put x v).defers = a.defers := by cases x <;> rfl
section
variable {P : Program} {E : Env} {ops : Array Oper} {X : Nat} {Mo : Option (List Nat)} {c0 : Cx} {a0 : Act}
theorem Inv.step {first first' : Bool} {A : List Nat} {blk : Nat → Nat} {c c' : Cx} {a a' : Act} {i : Nat} {o : Oper} {v : Value} (h : Inv P E ops X Mo c0 a0 first A blk c a) (hdst : dstsOK ops = true) (hM : ∀ M, Mo = some M → ∀ o ∈ ops.toList, ∀ n ∈ M, o.dst ≠ some n)
    (hi : ops[i]? = some o) (hA : memN i A = false) (hf : Fr X c' a') (he : Ext c c') (hsz : a'.tmps.size = a.tmps.size) (hdf : a'.defers = a.defers) (ht : a'.tmps = (a.put o.dst v).tmps)
    (hfst : first' = true → ∀ b g, Rd c'.ρ b g → g < c'.W.heap.size → g < c0.W.heap.size ∧ stable (c0.ρ g)) : Inv P E ops X Mo c0 a0 first' A blk c' a' := by
  refine ⟨hf, h.env.next he hsz, h.ext.trans he, hsz.trans h.sz, hdf.trans h.df, fun M hMo n hn => ?_, hfst, fun j hj => (h.al j hj).step he ht fun oj n hoj hn => ?_, h.dis⟩
  · rw [ht, getD_put (hM M hMo o (Array.mem_toList_iff.2 (Array.mem_of_getElem? hi)) n hn)]
    exact h.mtm M hMo n hn
  · intro e
    have hne : j ≠ i := fun e => by rw [e, hA] at hj; cases hj
    exact dstsOK_at hdst hoj hi hne hn e
theorem calm_inv {c c' : Cx} (h : ∀ b g, Rd c.ρ b g → g < c.W.heap.size → g < c0.W.heap.size ∧ stable (c0.ρ g)) (hW : c'.W = c.W) (hρ : ∀ g, g < c.W.heap.size → c'.ρ g = c.ρ g) : ∀ b g, Rd c'.ρ b g → g < c'.W.heap.size → g < c0.W.heap.size ∧ stable (c0.ρ g) := fun b g hr hg => by
  rw [hW] at hg
  refine h b g ?_ hg
  unfold Rd at *
  rw [hρ g hg] at hr
  exact hr
theorem plan_sound {fl : Nat → Bool} {Q0 : Exit → Act → World → Prop} {s' : St} (hty : TyOk P c0.ty) (hops : ∀ o ∈ ops.toList, operOK E.nt o = true) (hsel : Region.noSelect ops = true) (hdst : dstsOK ops = true) (hM : ∀ M, Mo = some M → ∀ o ∈ ops.toList, ∀ n ∈ M, o.dst ≠ some n)
    (hQ0 : ∀ ch a w, ¬ Q0 (.panic ch) a w) (hEnd : EndsIn P X c0 a0 s' (Q0 .normal)) : ∀ (rows : List PRow) (fuel : Nat) (first : Bool) (L listed : Array Bool) (A : List Nat) (blk : Nat → Nat) (c : Cx) (a : Act), planGo E.ty ops fl L rows = true → Sup L listed A → (∀ j, memN j A = true → j ∈ allocsOf rows) →
      still A rows ≤ fuel → Inv P E ops X Mo c0 a0 first A blk c a → runOpsD E ops Mo first rows c.s = some s' → wpAnyG P .any ops Q0 (RG (Gd c0 a0 Mo)) fl fuel listed a c.W := by
  have hQ : ∀ (x : Option Nat) (v : Value) ch (a : Act) w, Q0 (.panic ch) (a.put x v) w → Q0 (.panic ch) a w := fun x v ch a w h => (hQ0 _ _ _ h).elim
  intro rows
  induction rows with
  | nil =>
    intro fuel first L listed A blk c a hgo hsup hA hst hinv h
    cases h
    have hre : Region.ready .any ops listed = [] := by
      rw [List.eq_nil_iff_forall_not_mem]
      intro j hj
      rcases ready_dn (B := []) hsup (fun k hk => by cases hA k hk) hj with h | h
      · cases h
      · have : (Region.ready .any ops L).isEmpty = true := hgo
        rw [List.isEmpty_iff] at this
        have h : j ∈ Region.ready .any ops L := h
        rw [this] at h
        cases h
    have hq : Q0 .normal a c.W := hEnd a c rfl hinv.fr hinv.ext hinv.sz hinv.df
    cases fuel with
    | zero => exact ⟨hre, hq⟩
    | succ fuel => exact ⟨fun _ => hq, fun i hi => by rw [hre] at hi; cases hi⟩
  | cons r l ihl =>
    obtain ⟨i, k, ds⟩ := r
    have hadopt : ∀ (fuel : Nat) (first : Bool) (L listed : Array Bool) (A : List Nat) (blk : Nat → Nat) (c : Cx) (a : Act), planGo E.ty ops fl L ((i, k, ds) :: l) = true → Sup L listed A → (∀ j, memN j A = true → j ∈ allocsOf ((i, k, ds) :: l)) →
        still A ((i, k, ds) :: l) ≤ fuel → Inv P E ops X Mo c0 a0 first A blk c a → runOpsD E ops Mo first ((i, k, ds) :: l) c.s = some s' → memN i A = true → wpAnyG P .any ops Q0 (RG (Gd c0 a0 Mo)) fl fuel listed a c.W := by
      intro fuel first L listed A blk c a hgo hsup hA hst hinv h hiA
      simp only [planGo, Bool.and_eq_true, Bool.not_eq_true'] at hgo
      obtain ⟨⟨hre, hni, hal⟩, hrow, hgo⟩ := hgo
      have hmem := hA i hiA
      have hnl : i ∉ allocsOf l := fun h => by
        obtain ⟨r, hr, e⟩ := allocsOf_mem h
        have := (List.any_eq_false.1 hni) r hr
        exact this (beq_eq.2 e)
      have hk3 : k = 3 := by
        unfold allocsOf at hmem
        split at hmem
        · rename_i hb; exact beq_eq.1 hb
        · exact (hnl hmem).elim
      subst hk3
      obtain ⟨o, t, n, i0, vs, T, h1, h2, h3, h4, h5, h6, h7, h8, h9⟩ := hinv.al i hiA
      obtain ⟨o', t', n', i0', h1', h2', h3', hg', hn', _⟩ := allocOK_at ((List.all_eq_true.1 hal) i hmem)
      rw [h1] at h1'
      cases h1'
      simp only [runOpsD, h1, hg', guarded] at h
      split at h
      · cases h
      rename_i hjunk
      simp only [Option.bind_eq_some_iff, rowStep] at h
      obtain ⟨s1, hs1, h⟩ := h
      unfold allocStep at hs1
      rw [h2, h3] at hs1
      simp only [Option.bind_eq_some_iff] at hs1
      obtain ⟨i1, hi1, hs1⟩ := hs1
      rw [hinv.env.ty, h4] at hi1
      cases hi1
      split at hs1
      · rename_i hb
        cases hs1
        have hlt : n < a.tmps.size := by
          rw [hinv.env.nt]
          exact operOK_dst (hops o (Array.mem_toList_iff.2 (Array.mem_of_getElem? h1))) n h3
        obtain ⟨hl, hv⟩ := h9 c X rfl
        obtain ⟨c1, a1, a2, a3, a4, a5, a6⟩ := adopt_sound (c := c.nilH X) (X := X) (tm := a.tmps) (n := n) (g := blk i) (cs := i0.zero) (vs := vs) (T := T) (nilH_sim hinv.fr.sim hinv.fr.ghost) hinv.fr.ghost.nilH hlt hb hl hv h6 h7 h8
        have hext : Ext c0 c1 := a4 c0 (hinv.ext.trans (nilH_ext c X)) h5
        have hty1 : c1.ty = c.ty := by rw [hext.ty, hinv.ext.ty]
        have hW1 : c1.W = c.W := a1
        rw [← hW1]
        refine ihl fuel first (L.setIfInBounds i true) listed (A.filter fun j => !Nat.beq j i) blk c1 a hgo (hsup.adopt hiA) (fun j hj => ?_) ?_ ⟨⟨a3, hinv.fr.ghost.out, ?_⟩, ⟨by rw [hty1]; exact hinv.env.ty, by rw [hty1]; exact hinv.env.tys, by rw [hty1]; exact hinv.env.call, hinv.env.nt⟩, hext, hinv.sz, hinv.df, hinv.mtm, fun hf b g hr hg => ?_, fun j hj => ?_, fun j k hj hk hne => ?_⟩ ?_
        · have hjA := (List.mem_filter.1 (memN_iff.1 hj))
          have hm := hA j (memN_iff.2 hjA.1)
          have hm' : j ∈ i :: allocsOf l := hm
          rcases List.mem_cons.1 hm' with e | hm'
          · subst e
            have := hjA.2
            rw [show Nat.beq j j = true from beq_eq.2 rfl] at this
            cases this
          · exact hm'
        · have := still_cons (A := A) (i := i) (k := 3) (ds := ds) (l := l)
          rw [hiA] at this
          have h10 := still_adopt (A := A) hni
          simp only at this
          omega
        · rw [a2]
          have hne : X ≠ n := Nat.ne_of_gt (Nat.lt_of_lt_of_le hlt hinv.fr.ghost.out)
          refine put_own hne ?_
          rw [setBox_tl.1]
          exact hinv.fr.ghost.own
        · rw [hW1] at hg
          exact hinv.fst hf b g (a6 b g hr) hg
        · have hjA := (List.mem_filter.1 (memN_iff.1 hj))
          have hji : j ≠ i := fun e => by
            have := hjA.2
            rw [e, show Nat.beq i i = true from beq_eq.2 rfl] at this
            cases this
          have hjA' := memN_iff.2 hjA.1
          obtain ⟨oj, t', n', i', vs', T', b1, b2, b3, b4, b5, b6, b7, b8, b9⟩ := hinv.al j hjA'
          refine ⟨oj, t', n', i', vs', T', b1, b2, b3, by rw [hty1]; exact b4, b5, ?_, by rw [hW1]; exact b7, b8, fun c' Y e => b9 c' Y (by rw [e, hty1])⟩
          exact (a5 (blk j) (hinv.dis j i hjA' hiA hji) (by show stable (c.ρ (blk j)); rw [b6]; trivial)).trans b6
        · exact hinv.dis j k (memN_iff.2 (List.mem_filter.1 (memN_iff.1 hj)).1) (memN_iff.2 (List.mem_filter.1 (memN_iff.1 hk)).1) hne
        · rw [a2]
          have h : runOpsD E ops Mo (first && stays 3) l ((c.s.setBox (.loc n) i0.zero).put n (.ptr (.loc n) 0)) = some s' := h
          rw [show (first && stays 3) = first from Bool.and_true first] at h
          exact h
      · cases hs1
    intro fuel
    induction fuel with
    | zero =>
      intro first L listed A blk c a hgo hsup hA hst hinv h
      cases hiA : memN i A with
      | true => exact hadopt _ first L listed A blk c a hgo hsup hA hst hinv h hiA
      | false =>
        rw [still_cons, hiA] at hst
        simp only at hst
        omega
    | succ fuel ihf =>
      intro first L listed A blk c a hgo hsup hA hst hinv h
      cases hiA : memN i A with
      | true => exact hadopt _ first L listed A blk c a hgo hsup hA hst hinv h hiA
      | false =>
      have hgo0 := hgo
      have h0 := h
      simp only [planGo, Bool.and_eq_true, Bool.not_eq_true'] at hgo
      obtain ⟨⟨hre, hni, hal⟩, hrow, hgo⟩ := hgo
      have hreadyL : i ∈ Region.ready .any ops L := by simpa using hre
      have hready := ready_up hsup hreadyL hiA
      have hst' : still A l ≤ fuel := by
        rw [still_cons, hiA] at hst
        simp only at hst
        omega
      unfold runOpsD at h
      split at h
      · cases h
      rename_i hjunk
      split at h
      · cases h
      rename_i o hi
      have hk := hops o (Array.mem_toList_iff.2 (Array.mem_of_getElem? hi))
      have hd : ∀ n : Nat, o.dst = some n → n < a.tmps.size := by rw [hinv.env.nt]; exact operOK_dst hk
      have hg := guarded_sound (E := E) hinv.fr.sim hops hinv.env.nt h
      have hAl : ∀ j, memN j A = true → j ∈ allocsOf l := fun j hj => by
        have hm := hA j hj
        unfold allocsOf at hm
        split at hm
        · rcases List.mem_cons.1 hm with e | hm
          · rw [e, hiA] at hj; cases hj
          · exact hm
        · exact hm
      -- alone
      have halone : aloneOK ops L i l = true → (k = 3 ∨ ∀ K, (K = fun a' w' => (fl i = true → RG (Gd c0 a0 Mo) c.W w') ∧ wpAnyG P .any ops Q0 (RG (Gd c0 a0 Mo)) fl fuel (listed.setIfInBounds i true) a' w') → wpOp P ops Q0 i K a c.W) → wpAnyG P .any ops Q0 (RG (Gd c0 a0 Mo)) fl (fuel + 1) listed a c.W := by
        intro hal1 hself
        refine ⟨fun e => (by rw [e] at hready; cases hready), fun j hj => ?_⟩
        have hjA : memN j A = false := (hsup.un (mem_ready.1 hj).1).2
        have hearly : j ∈ allocsOf ((i, k, ds) :: l) → wpOp P ops Q0 j (fun a' w' => (fl j = true → RG (Gd c0 a0 Mo) c.W w') ∧ wpAnyG P .any ops Q0 (RG (Gd c0 a0 Mo)) fl fuel (listed.setIfInBounds j true) a' w') a c.W := by
          intro hjm
          obtain ⟨oj, t, n, i0, b1, b2, b3, b4, b5, b6⟩ := allocOK_at ((List.all_eq_true.1 hal) j hjm)
          have hjn : c.s.t n = .junk := allJunk_at hjunk n b5
          have hlt : n < a.tmps.size := by
            rw [hinv.env.nt]
            exact operOK_dst (hops oj (Array.mem_toList_iff.2 (Array.mem_of_getElem? b1))) n b3
          rw [hinv.env.ty] at b6
          obtain ⟨inf, _, z, hfz⟩ := hinv.env.tys.facts b6
          have hrun : (execOp a.eval oj).run P c.W = .ok (.value (.pointer (some ⟨c.W.heap.size, 0, none⟩))) (c.W.alloc (.cells (List.toArray z.cells.toList) t (0, 0))) := by
            simp [execOp, b2, Instr.alloc, zeroValue, typeInfo, hfz.info, hfz.zero, newVar, newRow]
          obtain ⟨c', e1, e2, e3, e4, e5, e6⟩ := early_sound (n := n) (ob := .cells (List.toArray z.cells.toList) t (0, 0)) (v := .pointer (some ⟨c.W.heap.size, 0, none⟩)) hinv.fr hlt hjn
          have hbel : Below c.W.heap.size c.W c'.W := by
            rw [e2]
            exact ⟨rfl, rfl, rfl, by show c.W.heap.size ≤ (c.W.alloc _).heap.size; simp, fun k hk => Below.heap_alloc c.W _ k hk⟩
          unfold wpOp
          rw [b1]
          have hw : Region.wanted oj (yielded ops a.tmps) = true := by simp [Region.wanted, b4]
          simp only [hw, if_true]
          refine .inl ?_
          unfold Oper.wp
          rw [hrun]
          show _ ∧ _
          rw [b3, ← e2]
          refine ⟨fun _ => RG.of_below hbel, ?_⟩
          have hlj : listed.getD j true = false := (mem_ready.1 hj).1
          refine ihf first L _ (j :: A) (fun m => if m = j then c.W.heap.size else blk m) c' _ hgo0 (hsup.early j) (fun m hm => ?_) ?_ ⟨e3, hinv.env.next e4 (put_size _ _ _), hinv.ext.trans e4, (put_size _ _ _).trans hinv.sz, (put_defers _ _ _).trans hinv.df, fun M hMo m hm => ?_, fun hfst b g hr hgl => ?_, fun m hm => ?_, fun m1 m2 hm1 hm2 hne => ?_⟩ (by rw [e1]; exact h0)
          · rw [memN_cons, Bool.or_eq_true] at hm
            rcases hm with hm | hm
            · rw [beq_eq.1 hm]; exact hjm
            · exact hA m hm
          · have := still_early hjA (allocsOf_mem hjm)
            omega
          · rw [getD_put (hM M hMo oj (Array.mem_toList_iff.2 (Array.mem_of_getElem? b1)) m hm ∘ fun e => by rw [b3]; exact e)]
            exact hinv.mtm M hMo m hm
          · by_cases hgs : g < c.W.heap.size
            · have hr' : Rd c.ρ b g := by
                unfold Rd at *
                rw [e5 g hgs] at hr
                exact hr
              exact hinv.fst hfst b g hr' hgs
            · have hge : g = c.W.heap.size := by
                rw [e2] at hgl
                have : g < c.W.heap.size + 1 := by simpa using hgl
                omega
              subst hge
              rcases hr with hr | ⟨_, hr⟩ <;> (rw [e6] at hr; cases hr)
          · rw [memN_cons, Bool.or_eq_true] at hm
            by_cases hmj : m = j
            · subst hmj
              rw [if_pos rfl]
              refine ⟨oj, t, n, i0, z.cells.toList, t, b1, b2, b3, by rw [e4.ty]; exact b6, hinv.ext.size, e6, ?_, ?_, fun c'' Y e => zero_cells (by rw [e, e4.ty]) hfz.zs⟩
              · rw [e2]
                exact heap_alloc_new c.W _
              · simp [Act.put, Array.getD, hlt]
            · rw [if_neg hmj]
              have hmA : memN m A = true := by
                rcases hm with hm | hm
                · exact (hmj (beq_eq.1 hm)).elim
                · exact hm
              exact (hinv.al m hmA).step e4 rfl fun om nm hom hnm e => dstsOK_at hdst hom b1 hmj hnm (by rw [b3]; exact e)
          · have hold : ∀ m, memN m A = true → blk m < c.W.heap.size := fun m hm => by
              obtain ⟨_, _, _, _, _, _, _, _, _, _, _, _, h7, _⟩ := hinv.al m hm
              exact (Array.getElem?_eq_some_iff.1 h7).1
            have hin : ∀ m, memN m (j :: A) = true → m ≠ j → memN m A = true := fun m hm hne => by
              rw [memN_cons, Bool.or_eq_true] at hm
              rcases hm with hm | hm
              · exact (hne (beq_eq.1 hm)).elim
              · exact hm
            by_cases x1 : m1 = j
            · have x2 : m2 ≠ j := fun e => hne (by rw [x1, e])
              rw [if_pos x1, if_neg x2]
              have := hold m2 (hin m2 hm2 x2)
              omega
            · rw [if_neg x1]
              by_cases x2 : m2 = j
              · rw [if_pos x2]
                have := hold m1 (hin m1 hm1 x1)
                omega
              · rw [if_neg x2]
                exact hinv.dis m1 m2 (hin m1 hm1 x1) (hin m2 hm2 x2) hne
        rcases ready_dn (B := allocsOf l) hsup (fun m hm => memN_iff.2 (hAl m hm)) hj with hjl | hjr
        · refine hearly ?_
          unfold allocsOf
          split
          · exact List.mem_cons_of_mem _ (memN_iff.1 hjl)
          · exact memN_iff.1 hjl
        · have hji : i = j := beq_eq.1 ((List.all_eq_true.1 hal1) j hjr)
          subst hji
          rcases hself with hk3 | hself
          · refine hearly ?_
            rw [hk3]
            exact List.mem_cons_self
          · exact hself _ rfl
      -- what follows
      have hafter : ∀ (first' : Bool) (s1 : St) (c' : Cx) (a' : Act) (v : Value), c'.s = s1 → Fr X c' a' → Ext c c' → a'.tmps.size = a.tmps.size → a'.defers = a.defers → a'.tmps = (a.put o.dst v).tmps →
          (first' = true → ∀ b g, Rd c'.ρ b g → g < c'.W.heap.size → g < c0.W.heap.size ∧ stable (c0.ρ g)) → runOpsD E ops Mo first' l s1 = some s' → wpAnyG P .any ops Q0 (RG (Gd c0 a0 Mo)) fl fuel (listed.setIfInBounds i true) a' c'.W := by
        intro first' s1 c' a' v e1 e2 e3 e4 e5 e6 e7 e8
        exact ihl fuel first' _ _ A blk c' a' hgo (hsup.set i) hAl hst' (hinv.step hdst hM hi hiA e2 e3 e4 e5 e6 e7) (by rw [e1]; exact e8)
      generalize hD : behind ops i (List.range ops.size) [] = BH at *
      have hfree : calmOK ops L i (allocsOf l) = true → (∀ j oj, ops[j]? = some oj → memN j BH = true → ∃ e ∈ oj.after, Region.binds .any e = true ∧ (e.on = i ∨ memN e.on BH = true)) ∧ (∀ j oj, ops[j]? = some oj → j ≠ i → listed.getD j true = false → memN j BH = false → o.apart ops oj = true) ∧ (∀ k, listed.getD k false = true → memN k BH = false) := fun hc => by
        unfold calmOK at hc
        rw [hD] at hc
        simp only [Bool.and_eq_true] at hc
        refine ⟨fun j oj hoj hj => (behindOK_at hc.1 hj).1 oj hoj, fun j oj hj hne hun hno => freeOK_at hi hc.2 hj hne (hsup.un hun).1 hno, fun m hm => ?_⟩
        cases hmD : memN m BH with
        | false => rfl
        | true =>
          obtain ⟨_, h1, h2⟩ := behindOK_at hc.1 hmD
          rcases hsup.onL hm with h3 | h3
          · rw [h3] at h1; cases h1
          · rw [memN_iff.2 (hAl m h3)] at h2; cases h2
      obtain ⟨hu1, hu2⟩ := undef_take (x := o.dst) hinv.fr hd
      have hk5 : k = 0 ∨ k = 1 ∨ k = 2 ∨ k = 3 ∨ ∃ m, k = m + 4 := by
        match k with
        | 0 => exact .inl rfl
        | 1 => exact .inr (.inl rfl)
        | 2 => exact .inr (.inr (.inl rfl))
        | 3 => exact .inr (.inr (.inr (.inl rfl)))
        | m + 4 => exact .inr (.inr (.inr (.inr ⟨m, rfl⟩)))
      rcases hk5 with rfl | rfl | rfl | rfl | ⟨m, rfl⟩
      · -- calm
        rw [show (first && stays 0) = first from Bool.and_true first] at hg
        rcases hg with ⟨hw, hg⟩ | ⟨hw, hg⟩
        · simp only [rowStep, Option.bind_eq_some_iff] at hg
          obtain ⟨s1, hs1, hg⟩ := hg
          unfold calmStep at hs1
          split at hs1
          · rename_i n hcm hdn
            split at hs1
            · rename_i d hev
              cases hs1
              have hcalm := evOp_calm hinv.env.ty hinv.env.tys hinv.fr.sim hcm hev n (fun _ => True)
              obtain ⟨v, c', e1, e2, e3, e4, e5, e6⟩ := calm_take hinv.fr (hd n hdn) hcalm
              refine wpAnyG_calm RG.refl hi (Region.noSelect_spec hsel) (hQ _ _) (hfree hrow).1 fuel listed a c.W (hfree hrow).2.1 (hfree hrow).2.2 hready (.inl ⟨hw, fun w => e6 w trivial⟩) ?_
              rw [← e2]
              exact hafter first _ c' _ v e1 (by rw [hdn]; exact e3) e4 (put_size _ _ _) (put_defers _ _ _) rfl (fun hf => calm_inv (hinv.fst hf) e2 e5) hg
            · cases hs1
          · cases hs1
        · refine wpAnyG_calm RG.refl hi (Region.noSelect_spec hsel) (hQ _ _) (hfree hrow).1 fuel listed a c.W (hfree hrow).2.1 (hfree hrow).2.2 hready (.inr ⟨hw, rfl⟩) ?_
          exact hafter first _ { c with s := c.s.putO o.dst .undef } _ undef rfl hu1 hu2 (put_size _ _ _) (put_defers _ _ _) rfl (fun hf => hinv.fst hf) hg
      · -- a load
        rw [show (first && stays 1) = first from Bool.and_true first] at hg
        have hrow' : (calmOK ops L i (allocsOf l) && lateOK ops fl L i (behind ops i (List.range ops.size) [])) = true := hrow
        rw [hD] at hrow'
        simp only [Bool.and_eq_true] at hrow'
        obtain ⟨hfr, hlate⟩ := hrow'
        have hfree2 : ∀ j oj, ops[j]? = some oj → j ≠ i → listed.getD j true = false → memN j BH = false → o.apart ops oj = true ∧ fl j = true := fun j oj hj hne hun hno =>
          ⟨(hfree hfr).2.1 j oj hj hne hun hno, lateOK_at hlate hj hne (hsup.un hun).1 hno⟩
        rcases hg with ⟨hw, hg⟩ | ⟨hw, hg⟩
        · simp only [rowStep, Option.bind_eq_some_iff] at hg
          obtain ⟨s1, hs1, hg⟩ := hg
          have key : ∀ (n : Nat) (d : D), o.dst = some n → s1 = c.s.put n d → Calm P c a o n (RG (Gd c0 a0 Mo) c.W) d → wpAnyG P .any ops Q0 (RG (Gd c0 a0 Mo)) fl (fuel + 1) listed a c.W := by
            intro n d hdn he hcalm
            subst he
            obtain ⟨v, c', e1, e2, e3, e4, e5, e6⟩ := calm_take hinv.fr (hd n hdn) hcalm
            refine wpAnyG_load RG.trans RG.refl (w0 := c.W) hi (Region.noSelect_spec hsel) (hQ _ _) (hfree hfr).1 fuel listed a c.W hfree2 (hfree hfr).2.2 hready (.inl ⟨hw, e6⟩) (RG.refl _) ?_
            rw [← e2]
            exact hafter first _ c' _ v e1 (by rw [hdn]; exact e3) e4 (put_size _ _ _) (put_defers _ _ _) rfl (fun hf => calm_inv (hinv.fst hf) e2 e5) hg
          unfold loadStep at hs1
          split at hs1
          · rename_i t z n ho hdn
            simp only [Option.bind_eq_some_iff] at hs1
            obtain ⟨ti, hti, hs1⟩ := hs1
            rw [hinv.env.ty] at hti
            split at hs1
            · -- all stays
              simp only [Option.map_eq_some_iff] at hs1
              obtain ⟨d, hld, rfl⟩ := hs1
              refine key n d hdn rfl ?_
              have hT : ∀ g, g < c.W.heap.size → ∀ w, RG (Gd c0 a0 none) c.W w → w.heap[g]? = c.W.heap[g]? := fun g hg w hw => hw.2 g hg trivial
              exact y_loadT hinv.env.tys hinv.fr.sim (fun _ _ h => h) (fun _ _ h => h) (fun b g _ hg => hT g hg) (fun r cs hb => hT _ (hinv.fr.sim.boxes r cs hb).lt) (fun _ _ _ g hg => hT g hg) ho hti hld
            · rename_i M
              split at hs1
              · simp only [Option.map_eq_some_iff] at hs1
                obtain ⟨d, hld, rfl⟩ := hs1
                refine key n d hdn rfl ?_
                have hmask : ∀ r cs, maskB M c.s r = some cs → c.s.box r = some cs ∧ ∃ n ∈ M, r = .loc n ∧ c.s.t n = .ptr (.loc n) 0 := fun r cs hb => by
                  unfold maskB at hb
                  split at hb
                  · rename_i n
                    split at hb
                    · rename_i hc
                      simp only [Bool.and_eq_true] at hc
                      exact ⟨hb, n, memN_iff.1 hc.1, rfl, ptrAt_eq hc.2⟩
                    · cases hb
                  · cases hb
                refine y_loadT hinv.env.tys hinv.fr.sim (gp := fun _ => none) (bx := maskB M c.s) (fun _ _ h => by cases h) (fun r cs hb => (hmask r cs hb).1) (fun b g hr hg w hw => ?_) (fun r cs hb w hw => ?_) (fun _ _ h => by cases h) ho hti hld
                · obtain ⟨h1, h2⟩ := hinv.fst rfl b g hr hg
                  exact hw.2 g hg (.inl ⟨h1, h2⟩)
                · obtain ⟨h1, n, hn, rfl, h2⟩ := hmask r cs hb
                  have hlt := (hinv.fr.sim.boxes _ cs h1).lt
                  have hv := hinv.fr.sim.slots n
                  rw [h2] at hv
                  have hv2 : a0.tmps.getD n undef = .pointer (some ⟨c.β (.loc n), 0, none⟩) := by
                    rw [← hinv.mtm M rfl n hn]
                    exact hv.2
                  exact hw.2 _ hlt (.inr ⟨n, hn, hv2⟩)
              · cases hs1
          · cases hs1
        · refine wpAnyG_load RG.trans RG.refl (w0 := c.W) hi (Region.noSelect_spec hsel) (hQ _ _) (hfree hfr).1 fuel listed a c.W hfree2 (hfree hfr).2.2 hready (.inr ⟨hw, rfl⟩) (RG.refl _) ?_
          exact hafter first _ { c with s := c.s.putO o.dst .undef } _ undef rfl hu1 hu2 (put_size _ _ _) (put_defers _ _ _) rfl (fun hf => hinv.fst hf) hg
      · -- alone
        have hrow' : (aloneOK ops L i l && !fl i) = true := hrow
        simp only [Bool.and_eq_true, Bool.not_eq_true'] at hrow'
        refine halone hrow'.1 (.inr fun K hK => ?_)
        subst hK
        rw [show (first && stays 2) = false from Bool.and_false first] at hg
        unfold wpOp
        rw [hi]
        simp only
        rcases hg with ⟨hw, hg⟩ | ⟨hw, hg⟩
        · rw [if_pos hw]
          refine .inl ?_
          simp only [rowStep, Option.bind_eq_some_iff] at hg
          obtain ⟨s1, hs1, hg⟩ := hg
          refine Oper.wp_mono ?_ (wp_put (step_sound hinv.env hinv.fr hk hs1 (fun a' w' => ∃ c', c'.W = w' ∧ c'.s = s1 ∧ Fr X c' a' ∧ Ext c c' ∧ a'.tmps.size = a.tmps.size ∧ a'.defers = a.defers) Q0 fun a' c' e1 e2 e3 e4 e5 => ⟨c', rfl, e1, e2, e3, e4, e5⟩))
          rintro a' w' ⟨⟨c', rfl, e1, e2, e3, e4, e5⟩, v, e6⟩
          exact ⟨fun e => by (rw [hrow'.2] at e; cases e), hafter false s1 c' a' v e1 e2 e3 e4 e5 e6 (fun e => by cases e) hg⟩
        · rw [if_neg (by rw [hw]; exact fun e => by cases e)]
          exact ⟨fun _ => RG.refl _, hafter false _ { c with s := c.s.putO o.dst .undef } _ undef rfl hu1 hu2 (put_size _ _ _) (put_defers _ _ _) rfl (fun e => by cases e) hg⟩
      · -- a new variable
        exact halone hrow (.inl rfl)
      · -- alone, and loads are about
        refine halone hrow (.inr fun K hK => ?_)
        subst hK
        rw [show (first && stays (m + 4)) = false from Bool.and_false first] at hg
        unfold wpOp
        rw [hi]
        simp only
        rcases hg with ⟨hw, hg⟩ | ⟨hw, hg⟩
        · rw [if_pos hw]
          refine .inl ?_
          simp only [rowStep, Option.bind_eq_some_iff] at hg
          obtain ⟨s1, hs1, hg⟩ := hg
          unfold flagStep at hs1
          split at hs1
          · simp only [Option.bind_eq_some_iff] at hs1
            obtain ⟨ef, hev, hap⟩ := hs1
            have hef := evOp_sound hinv.env.ty hinv.env.tys hinv.env.call hinv.fr.sim (fun _ _ h => h) (fun _ _ h => h) hev
            refine Oper.wp_mono ?_ (wp_put (apply_soundB hinv.fr hd hef hap (fun a' w' => ∃ c', c'.W = w' ∧ c'.s = s1 ∧ Fr X c' a' ∧ Ext c c' ∧ Below c.W.heap.size c.W c'.W ∧ a'.tmps.size = a.tmps.size ∧ a'.defers = a.defers) Q0 fun a' c' e1 e2 e3 eb e4 e5 => ⟨c', rfl, e1, e2, e3, eb, e4, e5⟩))
            rintro a' w' ⟨⟨c', rfl, e1, e2, e3, eb, e4, e5⟩, v, e6⟩
            exact ⟨fun _ => RG.of_below eb, hafter false s1 c' a' v e1 e2 e3 e4 e5 e6 (fun e => by cases e) hg⟩
          · rename_i M
            split at hs1
            · cases hs1
            rename_i hhid
            simp only [Option.bind_eq_some_iff] at hs1
            obtain ⟨s2, hs2, hs1⟩ := hs1
            split at hs1
            · rename_i hno
              cases hs1
              obtain ⟨f1, f2⟩ := hide_sound hinv.fr hhid
              have hE2 := hinv.env.next f2 rfl
              refine Oper.wp_mono ?_ (wp_put (step_sound hE2 f1 hk hs2 (fun a' w' => ∃ c', c'.W = w' ∧ c'.s = s2 ∧ Fr X c' a' ∧ Ext (c.hid M) c' ∧ a'.tmps.size = a.tmps.size ∧ a'.defers = a.defers) Q0 fun a' c' e1 e2 e3 e4 e5 => ⟨c', rfl, e1, e2, e3, e4, e5⟩))
              rintro a' w' ⟨⟨c', rfl, e1, e2, e3, e4, e5⟩, v, e6⟩
              obtain ⟨g1, g2⟩ := shown_sound hinv.fr hhid e3 e2 e4 e6 (by rw [e1]; exact hno)
              refine ⟨fun _ => ⟨e3.size, fun g hgl hG => ?_⟩, hafter false _ (c.shown c' M o.dst) a' v (by show c'.s.shown M o.dst c.s = _; rw [e1]) g1 g2 e4 e5 e6 (fun e => by cases e) hg⟩
              refine (e3.keep g hgl ?_).2
              show stable (match c.isM M g with | true => Role.oth | false => c.ρ g)
              cases hM2 : c.isM M g with
              | true => trivial
              | false =>
                show stable (c.ρ g)
                rcases hG with ⟨h0, h1⟩ | ⟨n, hn, h1⟩
                · rw [(hinv.ext.keep g h0 h1).1]
                  exact h1
                · exfalso
                  have hv := hinv.fr.sim.slots n
                  rw [(hidOK_at hhid hn).1] at hv
                  have h2 : a.tmps.getD n undef = .pointer (some ⟨c.β (.loc n), 0, none⟩) := hv.2
                  rw [hinv.mtm M rfl n hn, h1] at h2
                  have h3 : g = c.β (.loc n) := by
                    injection h2 with h2
                    injection h2 with h2
                    injection h2
                  rw [isM_iff.2 ⟨n, hn, h3.symm⟩] at hM2
                  cases hM2
            · cases hs1
        · rw [if_neg (by rw [hw]; exact fun e => by cases e)]
          exact ⟨fun _ => RG.refl _, hafter false _ { c with s := c.s.putO o.dst .undef } _ undef rfl hu1 hu2 (put_size _ _ _) (put_defers _ _ _) rfl (fun e => by cases e) hg⟩
end
end Go.Den
namespace Go.Den
open Go Go.RowKit
set_option linter.unusedVariables false
theorem drew_fr {c : Cx} {a : Act} {X : Nat} (hf : Fr X c a) : Fr X { c with W := { c.W with drawn := c.W.drawn + 1 } } a ∧ Ext c { c with W := { c.W with drawn := c.W.drawn + 1 } } := by
  refine ⟨⟨Sim.same (Z := fun _ => False) hf.sim rfl (fun _ _ _ h => h) ⟨rfl, fun b g h _ => ⟨h, rfl⟩, fun q r hq _ => ⟨hq, rfl⟩, fun r hr _ => ⟨hr, rfl⟩, fun q _ => ⟨rfl, fun g h _ => ⟨h, rfl⟩⟩⟩ fun r hr => ?_, hf.ghost.out, hf.ghost.own⟩, rfl, rfl, rfl, Nat.le_refl _, fun _ _ _ => ⟨rfl, rfl⟩, rfl, fun _ => rfl, fun _ => rfl⟩
  obtain ⟨cs, hb⟩ := Option.isSome_iff_exists.1 hr
  obtain ⟨vs, T, h1, h2, _⟩ := (hf.sim.boxes r cs hb).out
  exact ⟨h2, rfl⟩
theorem junks_noOwn {s : St} : ∀ {ds : List Nat}, noOwns s ds = true → ∀ n ∈ ds, (s.t n).hasOwn = false
  | [], h, n, hn => by cases hn
  | m :: ds, h, n, hn => by
    have h' : (!(s.t m).hasOwn && noOwns s ds) = true := h
    simp only [Bool.and_eq_true, Bool.not_eq_true'] at h'
    rcases List.mem_cons.1 hn with rfl | hn
    · exact h'.1
    · exact junks_noOwn h'.2 n hn
theorem junks_fr {c : Cx} {a : Act} {X : Nat} {ds : List Nat} (hf : Fr X c a) (h : noOwns c.s ds = true) : Fr X { c with s := c.s.junks ds } a := by
  refine ⟨forget_sound (K := Kill.none) hf.sim (fun y => ?_) (fun r cs' h => ⟨cs', by cases r <;> exact h, (kills_none _).symm⟩) rfl (fun q r hq _ => ?_) (fun r hr _ => by cases r <;> exact hr), hf.ghost.out, ?_⟩
  · cases hm : memN y ds with
    | true => left; simp only [St.junks, hm]
    | false => right; simp only [St.junks, hm, kill_none, and_self]
  · cases q with
    | slot y l =>
      show (D.at_ l ((c.s.junks ds).t y)).row? = _
      cases hm : memN y ds with
      | true =>
        have hq' : (D.at_ l (c.s.t y)).row? = some r := hq
        rw [noOwn_at l _ (junks_noOwn h y (memN_iff.1 hm))] at hq'
        cases hq'
      | false => simp only [St.junks, hm]; exact hq
    | cell r0 o => cases r0 <;> exact hq
    | lent j => exact hq
  · show ((c.s.junks ds).t X).hasOwn = false
    cases hm : memN X ds with
    | true => simp only [St.junks, hm]; rfl
    | false => simp only [St.junks, hm]; exact hf.ghost.own
theorem draw_sound {P : Program} {E : Env} {X id : Nat} {ops : Array Oper} {p : Plan} (hm : P.follows .mixedOrders = true) (hp : E.plan id = some p) (hok : planOK E.ty ops p = true) (hops : ∀ o ∈ ops.toList, operOK E.nt o = true) : DrawOK P E X id ops := by
  intro c a s' Q hE hf h hEnd
  unfold planOK at hok
  simp only [Bool.and_eq_true] at hok
  obtain ⟨⟨hsel, hdst, hlen⟩, hMc, hgo⟩ := hok
  have hlen : p.2.length ≤ ops.size := by simpa using hlen
  have hM : ∀ M, p.1 = some M → ∀ o ∈ ops.toList, ∀ n ∈ M, o.dst ≠ some n := by
    intro M hM o ho n hn e
    rw [hM] at hMc
    simp only at hMc
    have h1 := (Array.all_eq_true_iff_forall_mem.1 hMc) o (Array.mem_toList_iff.1 ho)
    have h2 := (List.all_eq_true.1 h1) n hn
    simp [dstIs, e] at h2
  obtain ⟨hf1, he1⟩ := drew_fr hf
  let Q0 : Exit → Act → World → Prop := fun x a w => match x with | .normal => Q .normal a w | _ => False
  refine Code.wp_mono (Q := Q0) (fun e a w hq => ?_) (wp_region_any hm (wpAny_of_G (R := RG (Gd { c with W := { c.W with drawn := c.W.drawn + 1 } } a p.1)) (str := flagged p.2) _ _ _ _ ?_))
  · cases e <;> first | exact hq | exact hq.elim
  · simp only [runRegion, hp, runPlan] at h
    have hstill : still [] p.2 ≤ ops.size := by
      unfold still
      exact Nat.le_trans List.countP_le_length hlen
    have key : ∀ (s0 : St), Fr X { c with W := { c.W with drawn := c.W.drawn + 1 }, s := s0 } a → runOpsD E ops p.1 true p.2 s0 = some s' →
        wpAnyG P .any ops Q0 (RG (Gd { c with W := { c.W with drawn := c.W.drawn + 1 } } a p.1)) (flagged p.2) ops.size (Array.replicate ops.size false) a { c.W with drawn := c.W.drawn + 1 } := by
      intro s0 hf0 h0
      have he0 : Ext c { c with W := { c.W with drawn := c.W.drawn + 1 }, s := s0 } := ⟨rfl, rfl, rfl, Nat.le_refl _, fun _ _ _ => ⟨rfl, rfl⟩, rfl, fun _ => rfl, fun _ => rfl⟩
      have hE0 := hE.next he0 rfl
      refine plan_sound (E := E) (X := X) (Q0 := Q0) (c0 := { c with W := { c.W with drawn := c.W.drawn + 1 }, s := s0 }) (a0 := a) hE0.tys hops hsel hdst hM (fun _ _ _ h => h) (hEnd.from he0 rfl rfl) p.2 ops.size true (Array.replicate ops.size false) _ [] (fun _ => 0)
        { c with W := { c.W with drawn := c.W.drawn + 1 }, s := s0 } a hgo (Sup.refl _) (fun j hj => by cases hj) hstill ⟨hf0, hE0, Ext.refl _, rfl, rfl, fun _ _ _ _ => rfl, fun _ b g hr hg => ⟨hg, hr.stable⟩, fun j hj => (by cases hj), fun j k hj => (by cases hj)⟩ h0
    split at h
    · rename_i hnil
      refine key c.s hf1 ?_
      rw [hnil]
      exact h
    · rename_i i k ds l hcons
      split at h
      · rename_i hno
        refine key (c.s.junks ds) (junks_fr hf1 hno) ?_
        rw [hcons]
        exact h
      · cases h
/-- All regions of a function that draw their order have a plan that holds. -/
def drawsOK (ty : Nat → Option TI) (nt : Nat) (plan : Nat → Option Plan) : Code → Bool
  | .region id ops draw => match draw with
    | true => (match plan id with | some p => planOK ty ops p | none => true)
    | false => true
  | .seq a b => drawsOK ty nt plan a && drawsOK ty nt plan b
  | .cond _ a b => drawsOK ty nt plan a && drawsOK ty nt plan b
  | .block _ a => drawsOK ty nt plan a
  | .loop a => drawsOK ty nt plan a
  | _ => true
theorem draws_sound {P : Program} {E : Env} {X : Nat} (hm : P.follows .mixedOrders = true) : ∀ (code : Code), codeOK E.nt code = true → drawsOK E.ty E.nt E.plan code = true → DrawsOK P E X code
  | .region id ops draw, hk, h => fun hd => by
    subst hd
    have hops : ∀ o ∈ ops.toList, operOK E.nt o = true := List.all_eq_true.1 hk
    have h' : (match E.plan id with | some p => planOK E.ty ops p | none => true) = true := h
    cases hp : E.plan id with
    | none =>
      intro c a s' Q hE hf hr
      simp only [runRegion, hp] at hr
      cases hr
    | some p =>
      rw [hp] at h'
      exact draw_sound hm hp h' hops
  | .seq a b, hk, h => by
    have hk' : (codeOK E.nt a && codeOK E.nt b) = true := hk
    have h' : (drawsOK E.ty E.nt E.plan a && drawsOK E.ty E.nt E.plan b) = true := h
    simp only [Bool.and_eq_true] at hk' h'
    exact ⟨draws_sound hm a hk'.1 h'.1, draws_sound hm b hk'.2 h'.2⟩
  | .cond _ a b, hk, h => by
    have hk' : (codeOK E.nt a && codeOK E.nt b) = true := hk
    have h' : (drawsOK E.ty E.nt E.plan a && drawsOK E.ty E.nt E.plan b) = true := h
    simp only [Bool.and_eq_true] at hk' h'
    exact ⟨draws_sound hm a hk'.1 h'.1, draws_sound hm b hk'.2 h'.2⟩
  | .block _ a, hk, h => draws_sound hm a hk h
  | .loop a, hk, h => draws_sound hm a hk h
  | .skip, hk, h => trivial
  | .rangeFunc _ _ _ _, hk, h => trivial
  | .scope _, hk, h => trivial
  | .refuse _, hk, h => trivial
  | .exit _, hk, h => trivial
  | .ret, hk, h => trivial
  | .label _, hk, h => trivial
  | .goto _, hk, h => trivial
end Go.Den
namespace Go.Den
open Go Go.RowKit
set_option linter.unusedVariables false
/-- What a call leaves as it was but for a row's block. -/
structure Left (w w' : World) (v : Value) : Prop where
  os : w'.os = w.os
  tape : w'.tape = w.tape
  output : w'.output = w.output
  size : w.heap.size ≤ w'.heap.size
  keep : ∀ g, g < w.heap.size → v.ownBlock ≠ some g → w'.heap[g]? = w.heap[g]?
theorem calls_reaches {P : Program} {f : Nat} {fn : Func} {vals : Array Value} {W : World} {R : Value → World → Prop} (hf : P.funcs[f]? = some fn) (hn : (fn.name == "runtime.NumGoroutine") = false) (hb : fn.body.isSome = true) (h : Calls P f vals W fun e w' => ∃ v, e = .returned v ∧ R v w') : Reaches P f vals W R := by
  obtain ⟨code, hbd⟩ := Option.isSome_iff_exists.1 hb
  have hent : (callFunc f vals).run P W = .ok (.enter f vals) W := by
    have h1 : fn.name ≠ "runtime.NumGoroutine" := by simpa using hn
    simp [callFunc, hf, h1, hbd, mark]
  unfold Reaches
  rw [hent]
  refine Calls.mono h fun e w' he => ?_
  obtain ⟨v, rfl, hr⟩ := he
  exact hr
/-- A row of one-cell elements that is lent, turned in place. -/
def extLent (e : Nat) (φ : List Dat → Option (List Dat)) (args : List D) (u : List (List D)) (l : List (Option Row)) : Option (List D × List (List D) × List (Option Row)) :=
  match args, u, l with
  | [.bor (.lent 0) none], [], [some (e', es)] => match Nat.beq e' e with
    | true => (φ es).map fun es' => ([], [], [some (e, es')])
    | false => none
  | _, _, _ => none
/-- A row of one-cell elements that goes over and comes back, another. -/
def extOver (e : Nat) (φ : List Dat → Option (List Dat)) (args : List D) (u : List (List D)) (l : List (Option Row)) : Option (List D × List (List D) × List (Option Row)) :=
  match args, u, l with
  | [.own e' es], [], [] => match Nat.beq e' e with
    | true => (φ es).map fun es' => ([.own e es'], [], [])
    | false => none
  | _, _, _ => none
def rowCells (es : List Dat) (xs : List Value) : Prop := es.length = xs.length ∧ ∀ (j : Nat) (d : Dat) (v : Value), es[j]? = some d → xs[j]? = some v → d = .val v ∧ scal v = true
theorem repRow_cells {ρ : Nat → Role} {W : World} {es : List Dat} {xs : List Value} (h : rowCells es xs) : RepRow ρ W 1 es xs := by
  obtain ⟨hl, h⟩ := h
  refine ⟨by omega, fun j d hj => ?_, fun j d hj => ?_⟩
  · have hlt := (List.getElem?_eq_some_iff.1 hj).1
    have hx := List.getElem?_eq_getElem (show j < xs.length by omega)
    obtain ⟨rfl, hs⟩ := h j d _ hj hx
    have e1 : (xs.drop (j * 1)).take 1 = [xs[j]] := by
      rw [Nat.mul_one, List.drop_eq_getElem_cons (by omega)]
      rfl
    rw [e1]
    exact .val hs
  · have hlt := (List.getElem?_eq_some_iff.1 hj).1
    have hx := List.getElem?_eq_getElem (show j < xs.length by omega)
    obtain ⟨rfl, hs⟩ := h j d _ hj hx
    rfl
/-- Scalars read back. -/
theorem cells_repRow {ρ : Nat → Role} {W : World} {es : List Dat} {xs : List Value} (h : RepRow ρ W 1 es xs) (hv : ∀ d ∈ es, ∃ v, d = .val v) : rowCells es xs := by
  refine ⟨by have := h.len; omega, fun j d v hd hx => ?_⟩
  obtain ⟨u, rfl⟩ := hv d (List.mem_of_getElem? hd)
  have hr := h.rep j _ hd
  have hlt := (List.getElem?_eq_some_iff.1 hx).1
  have e1 : (xs.drop (j * 1)).take 1 = [v] := by
    rw [Nat.mul_one, List.drop_eq_getElem_cons hlt, (List.getElem?_eq_some_iff.1 hx).2]
    rfl
  rw [e1] at hr
  cases hr with
  | val hs => exact ⟨rfl, hs⟩
theorem extLent_ok {P : Program} {ty : Nat → Option TI} {f e : Nat} {i : TI} {φ : List Dat → Option (List Dat)} (hty : ty e = some i) (hsz : i.sz = 1)
    (hall : ∀ es es', φ es = some es' → ∀ d ∈ es, ∃ v, d = .val v)
    (h : ∀ (es es' : List Dat) (xs : List Value) (W : World) (v : Value), φ es = some es' → rowCells es xs → W.ownsRow 0 e 1 v es.length xs → Reaches P f #[v] W fun r W' => r = undef ∧ Left W W' v ∧ es'.length = es.length ∧ ∃ xs', rowCells es' xs' ∧ W'.ownsRow 0 e 1 v es'.length xs') :
    CallOK P ty fun f' args u l => if f' = f then extLent e φ args u l else none := by
  intro f' args u l rs u' l' hc c vals hcty hcs hsz2 hs
  simp only at hc
  split at hc
  · rename_i hff
    subst hff
    unfold extLent at hc
    split at hc
    · rename_i args u l e' es
      split at hc
      · rename_i hb
        have hb := Nat.eq_of_beq_eq_true hb
        subst hb
        obtain ⟨es', hφ, hq⟩ := Option.map_eq_some_iff.1 hc
        cases hq
        have hrow := hs.lent 0 (e', es) (by rw [hcs]; rfl)
        have hslot := hs.slots 0
        rw [hcs] at hslot
        have hslot : VR c (.slot 0 []) (.bor (.lent 0) none) (vals.getD 0 undef) := hslot
        obtain ⟨e2, es2, A, k, hg, hH, hv⟩ := hslot
        have hg' : c.s.get (.lent 0) = some (e', es) := by rw [hcs]; rfl
        rw [hg'] at hg
        cases hg
        obtain ⟨i2, xs, h1, h2, h3, h4⟩ := hrow.out
        rw [hcty, hty] at h1
        cases h1
        rw [hsz] at h2 h3
        have hvv : vals.getD 0 undef = c.H (.lent 0) := by rw [hH]; exact hv
        have hvals : vals = #[c.H (.lent 0)] := by
          have hsz3 : vals.size = 1 := hsz2
          obtain ⟨⟨a⟩⟩ := vals
          · simp at hsz3
          · rename_i a l
            have : l = [] := by
              simp at hsz3
              exact hsz3
            subst this
            have : a = c.H (.lent 0) := by simpa [Array.getD] using hvv
            rw [this]
        have hcells := cells_repRow h3 (hall es es' hφ)
        rw [hvals]
        refine (h es es' xs c.W (c.H (.lent 0)) hφ hcells h2).mono fun r W' hr => ?_
        obtain ⟨rfl, hL, hlen, xs', hx1, hx2⟩ := hr
        refine ⟨{ c with W := W', s := ⟨fun x => match Nat.beq x 0 with | true => .undef | false => .junk, fun _ => none, [], [some (e', es')]⟩ }, rfl, ?_, rfl, ?_, rfl, ?_⟩
        · refine ⟨hL.os, hL.tape, hL.output, hL.size, fun g hg hst => ⟨rfl, hL.keep g hg fun hob => ?_⟩, rfl, fun _ => rfl, fun _ => rfl⟩
          rw [h4 g hob] at hst
          exact hst.elim
        · refine ⟨fun x => ?_, fun r cs hb => ?_, fun j r hgj => ?_⟩
          · show VR _ _ (match Nat.beq x 0 with | true => .undef | false => .junk) _
            cases hx : Nat.beq x 0 with
            | true =>
              have := Nat.eq_of_beq_eq_true hx
              subst this
              rfl
            | false => trivial
          · cases r with
            | loc n => cases hb
            | up n =>
              have hb' : ([] : List (List D))[n]? = some cs := hb
              simp at hb'
          · have hgj' : (([some (e', es')] : List (Option Row))[j]?).bind id = some r := hgj
            cases j with
            | zero =>
              cases hgj'
              refine ⟨i, xs', by show c.ty e' = some i; rw [hcty]; exact hty, by rw [hsz]; exact hx2, by rw [hsz]; exact repRow_cells hx1, h4⟩
            | succ j => simp at hgj'
        · rw [hcs]
          rfl
      · cases hc
    · cases hc
  · cases hc
theorem extOver_ok {P : Program} {ty : Nat → Option TI} {f e : Nat} {i : TI} {φ : List Dat → Option (List Dat)} (hty : ty e = some i) (hsz : i.sz = 1)
    (hall : ∀ es es', φ es = some es' → ∀ d ∈ es, ∃ v, d = .val v)
    (h : ∀ (es es' : List Dat) (xs : List Value) (W : World) (v : Value), φ es = some es' → rowCells es xs → W.ownsRow 0 e 1 v es.length xs → Reaches P f #[v] W fun r W' => Left W W' v ∧ (∀ g, r.ownBlock = some g → v.ownBlock = some g) ∧ ∃ xs', rowCells es' xs' ∧ W'.ownsRow 0 e 1 r es'.length xs') :
    CallOK P ty fun f' args u l => if f' = f then extOver e φ args u l else none := by
  intro f' args u l rs u' l' hc c vals hcty hcs hsz2 hs
  simp only at hc
  split at hc
  · rename_i hff
    subst hff
    unfold extOver at hc
    split at hc
    · rename_i args u l e' es
      split at hc
      · rename_i hb
        have hb := Nat.eq_of_beq_eq_true hb
        subst hb
        obtain ⟨es', hφ, hq⟩ := Option.map_eq_some_iff.1 hc
        cases hq
        have hslot := hs.slots 0
        rw [hcs] at hslot
        have hslot : VR c (.slot 0 []) (.own e' es) (vals.getD 0 undef) := hslot
        obtain ⟨hvv, hrow⟩ := hslot
        obtain ⟨i2, xs, h1, h2, h3, h4⟩ := hrow.out
        rw [hcty, hty] at h1
        cases h1
        rw [hsz] at h2 h3
        have hvals : vals = #[c.H (.slot 0 [])] := by
          have hsz3 : vals.size = 1 := hsz2
          obtain ⟨⟨a⟩⟩ := vals
          · simp at hsz3
          · rename_i a l
            have : l = [] := by
              simp at hsz3
              exact hsz3
            subst this
            have : a = c.H (.slot 0 []) := by simpa [Array.getD] using hvv
            rw [this]
        have hcells := cells_repRow h3 (hall es es' hφ)
        rw [hvals]
        refine (h es es' xs c.W (c.H (.slot 0 [])) hφ hcells h2).mono fun r W' hr => ?_
        obtain ⟨hL, hob, xs', hx1, hx2⟩ := hr
        refine ⟨{ c with W := W', H := fun q => match q with | .slot 0 [] => r | q => c.H q, s := ⟨fun x => match Nat.beq x 0 with | true => .own e' es' | false => .junk, fun _ => none, [], []⟩ }, rfl, ?_, rfl, ?_, rfl, ?_⟩
        · refine ⟨hL.os, hL.tape, hL.output, hL.size, fun g hg hst => ⟨rfl, hL.keep g hg fun hob => ?_⟩, rfl, fun _ => rfl, fun _ => rfl⟩
          rw [h4 g hob] at hst
          exact hst.elim
        · refine ⟨fun x => ?_, fun r cs hb => ?_, fun j r hgj => ?_⟩
          · show VR _ (.slot x []) (match Nat.beq x 0 with | true => .own e' es' | false => .junk) _
            cases hx : Nat.beq x 0 with
            | true =>
              have := Nat.eq_of_beq_eq_true hx
              subst this
              refine ⟨rfl, ⟨i, xs', by show c.ty e' = some i; rw [hcty]; exact hty, by rw [hsz]; exact hx2, by rw [hsz]; exact repRow_cells hx1, fun g hg => h4 g (hob g hg)⟩⟩
            | false => trivial
          · cases r with
            | loc n => cases hb
            | up n =>
              have hb' : ([] : List (List D))[n]? = some cs := hb
              simp at hb'
          · have hgj' : (([] : List (Option Row))[j]?).bind id = some r := hgj
            simp at hgj'
        · rw [hcs]
          rfl
      · cases hc
    · cases hc
  · cases hc
end Go.Den
namespace Go.Den
open Go Go.RowKit
set_option linter.unusedVariables false
/-- A contract is kept. -/
structure ExtOK (P : Program) (ty : Nat → Option TI) (f : Nat) (g : List D → List (List D) → List (Option Row) → Option (List D × List (List D) × List (Option Row))) : Prop where mk ::
  out : CallOK P ty fun f' args u l => if f' = f then g args u l else none
/-- A configuration whose contracts are kept is sound. -/
theorem cfgOK_of {P : Program} {C : Cfg} (h1 : TyOk P C.ty) (h2 : ∀ f fn, C.ext f = none → C.fn f = some fn → FnOK P C f fn) (h3 : ∀ f g, C.ext f = some g → ExtOK P C.ty f g) : CfgOK P C := ⟨h1, h2, fun f g h => (h3 f g h).out⟩
def intsOf : List Dat → Option (List Int)
  | [] => some []
  | .val (.int .i64 n) :: l => (intsOf l).map (n :: ·)
  | _ => none
def DI (n : Int) : Dat := .val (.int .i64 n)
theorem intsOf_map : ∀ zs : List Int, intsOf (zs.map DI) = some zs
  | [] => rfl
  | z :: zs => by
    show (intsOf (zs.map DI)).map (z :: ·) = _
    rw [intsOf_map zs]
    rfl
theorem intsOf_some : ∀ {es : List Dat} {zs : List Int}, intsOf es = some zs → es = zs.map DI
  | [], zs, h => by cases h; rfl
  | d :: es, zs, h => by
    unfold intsOf at h
    split at h
    · rename_i h0; cases h0
    · rename_i n l h0
      cases h0
      obtain ⟨ys, h1, rfl⟩ := Option.map_eq_some_iff.1 h
      rw [intsOf_some h1]
      rfl
    · cases h
def sortI (es : List Dat) : Option (List Dat) := (intsOf es).map fun zs => (zs.mergeSort fun x y => decide (x ≤ y)).map DI
def compI (es : List Dat) : Option (List Dat) := (intsOf es).map fun zs => (Lib.compact zs).map DI
def extSort (e : Nat) := extLent e fun es => match Nat.ble es.length 1000000 with | true => sortI es | false => none
def extComp (e : Nat) := extOver e fun es => match Nat.ble es.length 1000000 with | true => compI es | false => none
theorem cells_ints {zs : List Int} {xs : List Value} (h : rowCells (zs.map DI) xs) : xs = zs.map (Value.int .i64) := by
  obtain ⟨hl, h⟩ := h
  apply List.ext_getElem?
  intro j
  cases hx : xs[j]? with
  | none =>
    have := List.getElem?_eq_none_iff.1 hx
    have hl' : zs.length ≤ j := by simp at hl; omega
    simp [List.getElem?_eq_none hl']
  | some v =>
    have hlt := (List.getElem?_eq_some_iff.1 hx).1
    have hz : j < zs.length := by simp at hl; omega
    have hd : (zs.map DI)[j]? = some (DI zs[j]) := by simp [hz]
    obtain ⟨h1, _⟩ := h j _ _ hd hx
    have : v = .int .i64 zs[j] := by unfold DI at h1; injection h1 with h1; exact h1.symm
    rw [this]
    simp [hz]
theorem ints_cells (zs : List Int) : rowCells (zs.map DI) (zs.map (Value.int .i64)) := by
  refine ⟨by simp, fun j d v hd hv => ?_⟩
  rw [List.getElem?_map] at hd hv
  cases hz : zs[j]? with
  | none => rw [hz] at hd; cases hd
  | some z =>
    rw [hz] at hd hv
    cases hd; cases hv
    exact ⟨rfl, rfl⟩
theorem row_holds {w : World} {g e cap : Nat} {cur : Array Value} {zs : List Int} (hg : w.heap[g]? = some (.cells cur e (0, 0))) (hc : zs.length ≤ cap) (hs : cur.size = cap * 1) (ht : cur.toList.take (zs.length * 1) = zs.map (Value.int .i64)) : Sort.Holds (Value.int .i64) w g 0 zs.toArray := by
  intro j hj
  have hj : j < zs.length := by simpa using hj
  refine ⟨?_, ?_⟩
  · unfold World.cell?
    simp only [hg]
    have e1 : (cur.toList.take (zs.length * 1))[j]? = (zs.map (Value.int .i64))[j]? := by rw [ht]
    rw [List.getElem?_take, if_pos (by omega), List.getElem?_map, List.getElem?_eq_getElem hj] at e1
    have e2 : (zs.toArray)[j]! = zs[j] := by simp [hj]
    rw [e2]
    simpa using e1
  · unfold World.frozen?
    simp only [hg]
    simp
theorem put_row {w : World} {g e cap n : Nat} {cur : Array Value} {zs : List Int} {os : Array Obj} (hg : w.heap[g]? = some (.cells cur e (0, 0))) (hc : zs.length ≤ cap) (hm : cap ≤ maxLen) (hs : cur.size = cap * 1) {m : Nat} (hmz : m ≤ zs.length) :
    let W' := Sort.grow (Sort.putRow (Value.int .i64) (Sort.ahead w n) g 0 zs.toArray) os
    Left w W' (.slice (some ⟨g, 0, none⟩) m cap) ∧ W'.ownsRow 0 e 1 (.slice (some ⟨g, 0, none⟩) m cap) m ((zs.take m).map (Value.int .i64)) := by
  intro W'
  have hglt : g < w.heap.size := by
    rcases Nat.lt_or_ge g w.heap.size with h | h
    · exact h
    · rw [Array.getElem?_eq_none h] at hg; cases hg
  have hheap : ∀ k, k < w.heap.size → W'.heap[k]? = (w.heap.modify g (Sort.onCells (Sort.putCells (Value.int .i64) 0 zs.toArray)))[k]? := fun k hk => by
    show ((w.heap.modify g _) ++ os)[k]? = _
    rw [Array.getElem?_append_left (by simpa using hk)]
  refine ⟨⟨rfl, rfl, rfl, ?_, fun k hk hne => ?_⟩, ?_⟩
  · show w.heap.size ≤ ((w.heap.modify g _) ++ os).size
    simp
  · rw [hheap k hk, Array.getElem?_modify, if_neg]
    intro h
    subst h
    exact hne rfl
  · refine ⟨by simp; omega, .inr ⟨g, cap, Sort.putCells (Value.int .i64) 0 zs.toArray cur, rfl, Nat.zero_le _, ?_, by omega, hm, ?_, ?_⟩⟩
    · rw [hheap g hglt, Array.getElem?_modify, if_pos rfl, hg]
      rfl
    · unfold Sort.putCells
      simpa using hs
    · apply List.ext_getElem?
      intro j
      rw [List.getElem?_take, List.getElem?_map, List.getElem?_take]
      by_cases hj : j < m
      · have hj1 : j < m * 1 := by omega
        rw [if_pos hj1, if_pos hj]
        have hjc : j < cur.size := by omega
        have hjz : j < zs.length := by omega
        unfold Sort.putCells
        rw [Array.getElem?_toList, Array.getElem?_mapIdx, Array.getElem?_eq_getElem hjc]
        simp only [Option.map_some]
        rw [if_pos ⟨Nat.zero_le _, by simpa using hjz⟩, List.getElem?_eq_getElem hjz]
        simp [hjz]
      · rw [if_neg (by omega), if_neg hj]
        rfl
theorem sort_ok {P : Program} {ty : Nat → Option TI} {f e : Nat} {fn : Func} (hts : (ty e).map TI.sz = some 1) (hf : P.funcs[f]? = some fn) (hn : (fn.name == "runtime.NumGoroutine") = false) (hb : fn.body.isSome = true)
    (h1 : ∀ (blk off cap : Nat) (zs : List Int) (w : World), Sort.Holds (Value.int .i64) w blk off zs.toArray → blk < w.heap.size → zs.length < 4611686018427387904 →
      Calls P f #[.slice (some ⟨blk, off, none⟩) zs.length cap] w fun e w' => e = .returned (.tuple #[]) ∧ ∃ n os, w' = Sort.grow (Sort.putRow (Value.int .i64) (Sort.ahead w n) blk off (zs.mergeSort fun x y => decide (x ≤ y)).toArray) os)
    (h0 : ∀ (p : Option Addr) (cap : Nat) (w : World), Calls P f #[.slice p 0 cap] w fun e w' => e = .returned (.tuple #[]) ∧ w' = w) :
    ExtOK P ty f (extSort e) := by
  constructor
  obtain ⟨i, hty, hsz⟩ := Option.map_eq_some_iff.1 hts
  refine extLent_ok hty hsz (fun es es' hφ d hd => ?_) (fun es es' xs W v hφ hc ho => calls_reaches hf hn hb ?_)
  · split at hφ
    · obtain ⟨zs, hz, _⟩ := Option.map_eq_some_iff.1 hφ
      rw [intsOf_some hz] at hd
      obtain ⟨z, _, rfl⟩ := List.mem_map.1 hd
      exact ⟨_, rfl⟩
    · cases hφ
  · split at hφ
    · rename_i hle
      have hle := Nat.le_of_ble_eq_true hle
      obtain ⟨zs, hz, rfl⟩ := Option.map_eq_some_iff.1 hφ
      have := intsOf_some hz
      subst this
      have hx := cells_ints hc
      subst hx
      have hl : (zs.map DI).length = zs.length := by simp
      rw [hl] at ho hle
      obtain ⟨_, ho⟩ := ho
      rcases ho with ⟨rfl, hz0⟩ | ⟨g, cap, cur, rfl, _, hg, hcap, hm, hs, ht⟩
      · have : zs = [] := List.eq_nil_of_length_eq_zero hz0
        subst this
        refine (h0 none 0 W).mono ?_
        rintro e' w' ⟨rfl, rfl⟩
        refine ⟨_, rfl, rfl, ⟨rfl, rfl, rfl, Nat.le_refl _, fun _ _ _ => rfl⟩, by simp, [], by simpa using ints_cells [], by simp, .inl ⟨rfl, by simp⟩⟩
      · have hglt : g < W.heap.size := by
          rcases Nat.lt_or_ge g W.heap.size with h | h
          · exact h
          · rw [Array.getElem?_eq_none h] at hg; cases hg
        refine (h1 g 0 cap zs W (row_holds hg hcap hs ht) hglt (by omega)).mono ?_
        rintro e' w' ⟨rfl, n, os, rfl⟩
        have hlm : (zs.mergeSort fun x y => decide (x ≤ y)).length = zs.length := by simp
        obtain ⟨hL, hO⟩ := put_row (n := n) (os := os) (zs := zs.mergeSort fun x y => decide (x ≤ y)) hg (by omega) hm hs (m := zs.length) (by omega)
        refine ⟨_, rfl, rfl, hL, by simp, _, ints_cells _, ?_⟩
        rw [List.take_of_length_le (by omega)] at hO
        simpa using hO
    · cases hφ
theorem comp_le (zs : List Int) : (Lib.compact zs).length ≤ zs.length := by
  unfold Lib.compact Lib.compactUpTo
  rw [List.length_map]
  exact Nat.le_trans (List.length_filter_le _ _) (by simp)
theorem comp_ok {P : Program} {ty : Nat → Option TI} {f e : Nat} {fn : Func} (hts : (ty e).map TI.sz = some 1) (hf : P.funcs[f]? = some fn) (hn : (fn.name == "runtime.NumGoroutine") = false) (hb : fn.body.isSome = true)
    (h1 : ∀ (blk off cap : Nat) (zs : List Int) (w : World), Sort.Holds (Value.int .i64) w blk off zs.toArray → zs.length ≤ 9223372036854775807 → zs.length ≤ cap →
      Calls P f #[.slice (some ⟨blk, off, none⟩) zs.length cap] w fun e w' => e = .returned (.slice (some ⟨blk, off, none⟩) (Lib.compact zs).length cap) ∧ ∃ q, w' = Sort.putRow (Value.int .i64) (Sort.ahead w q) blk off (Lib.compact zs ++ List.replicate (zs.length - (Lib.compact zs).length) 0).toArray)
    (h0 : ∀ (p : Option Addr) (cap : Nat) (w : World), Calls P f #[.slice p 0 cap] w fun e w' => e = .returned (.slice p 0 cap) ∧ w' = w) :
    ExtOK P ty f (extComp e) := by
  constructor
  obtain ⟨i, hty, hsz⟩ := Option.map_eq_some_iff.1 hts
  refine extOver_ok hty hsz (fun es es' hφ d hd => ?_) (fun es es' xs W v hφ hc ho => calls_reaches hf hn hb ?_)
  · split at hφ
    · obtain ⟨zs, hz, _⟩ := Option.map_eq_some_iff.1 hφ
      rw [intsOf_some hz] at hd
      obtain ⟨z, _, rfl⟩ := List.mem_map.1 hd
      exact ⟨_, rfl⟩
    · cases hφ
  · split at hφ
    · rename_i hle
      have hle := Nat.le_of_ble_eq_true hle
      obtain ⟨zs, hz, rfl⟩ := Option.map_eq_some_iff.1 hφ
      have := intsOf_some hz
      subst this
      have hx := cells_ints hc
      subst hx
      have hl : (zs.map DI).length = zs.length := by simp
      rw [hl] at ho hle
      obtain ⟨_, ho⟩ := ho
      rcases ho with ⟨rfl, hz0⟩ | ⟨g, cap, cur, rfl, _, hg, hcap, hm, hs, ht⟩
      · have : zs = [] := List.eq_nil_of_length_eq_zero hz0
        subst this
        refine (h0 none 0 W).mono ?_
        rintro e' w' ⟨rfl, rfl⟩
        refine ⟨_, rfl, ⟨rfl, rfl, rfl, Nat.le_refl _, fun _ _ _ => rfl⟩, fun g hg => (by cases hg), [], ints_cells [], rfl, .inl ⟨rfl, rfl⟩⟩
      · refine (h1 g 0 cap zs W (row_holds hg hcap hs ht) (by omega) hcap).mono ?_
        rintro e' w' ⟨rfl, n, rfl⟩
        have hcz := comp_le zs
        have hl2 : (Lib.compact zs ++ List.replicate (zs.length - (Lib.compact zs).length) 0).length = zs.length := by simp; omega
        obtain ⟨hL, hO⟩ := put_row (n := n) (os := #[]) (zs := Lib.compact zs ++ List.replicate (zs.length - (Lib.compact zs).length) 0) hg (by omega) hm hs (m := (Lib.compact zs).length) (by simp)
        rw [Sort.grow_empty] at hL hO
        refine ⟨_, rfl, ⟨hL.os, hL.tape, hL.output, hL.size, hL.keep⟩, fun g' hg' => hg', _, ints_cells _, ?_⟩
        rw [List.take_left' rfl] at hO
        simpa using hO
    · cases hφ
end Go.Den
namespace Go.Den
open Go Go.RowKit
set_option linter.unusedVariables false
/-- What a call leaves as it was. -/
structure Kept0 (w w' : World) : Prop where
  os : w'.os = w.os
  tape : w'.tape = w.tape
  output : w'.output = w.output
  size : w.heap.size ≤ w'.heap.size
  keep : ∀ g, g < w.heap.size → w'.heap[g]? = w.heap[g]?
theorem Kept0.trans {a b c : World} (h : Kept0 a b) (k : Kept0 b c) : Kept0 a c :=
  ⟨k.os.trans h.os, k.tape.trans h.tape, k.output.trans h.output, Nat.le_trans h.size k.size, fun g hg => (k.keep g (Nat.lt_of_lt_of_le hg h.size)).trans (h.keep g hg)⟩
theorem Kept0.alloc (w : World) (o : Obj) : Kept0 w (w.alloc o) := ⟨rfl, rfl, rfl, by simp, fun g hg => Below.heap_alloc w o g hg⟩
theorem Kept0.drew (w : World) : Kept0 w w.drew := ⟨rfl, rfl, rfl, Nat.le_refl _, fun _ _ => rfl⟩
def valsOf : List D → Option (List Value)
  | [] => some []
  | .dat (.val v) :: ds => (valsOf ds).map (v :: ·)
  | _ => none
def DV (v : Value) : D := .dat (.val v)
def extVal (φ : List Value → Option (List Value)) (args : List D) (u : List (List D)) (l : List (Option Row)) : Option (List D × List (List D) × List (Option Row)) :=
  match u, l with
  | [], [] => (valsOf args).bind fun vs => (φ vs).map fun rs => (rs.map DV, [], [])
  | _, _ => none
def retV : List Value → Value
  | [v] => v
  | vs => .tuple vs.toArray
theorem valsOf_at {c : Cx} {tm : Array Value} (hs : ∀ x, VR c (.slot x []) (c.s.t x) (tm.getD x undef)) : ∀ {args : List D} {vs : List Value} (k : Nat), valsOf args = some vs → (∀ i d, args[i]? = some d → c.s.t (k + i) = d) → vs.length = args.length ∧ ∀ i v, vs[i]? = some v → tm.getD (k + i) undef = v
  | [], vs, k, h, ht => by cases h; exact ⟨rfl, fun i v hv => by simp at hv⟩
  | d :: ds, vs, k, h, ht => by
    unfold valsOf at h
    split at h
    · rename_i h0; cases h0
    · rename_i w ds' h0
      cases h0
      obtain ⟨ws, hw, rfl⟩ := Option.map_eq_some_iff.1 h
      obtain ⟨h1, h2⟩ := valsOf_at hs (k + 1) hw (fun i d hd => by rw [show k + 1 + i = k + (i + 1) by omega]; exact ht (i + 1) d (by simpa using hd))
      refine ⟨by simp [h1], fun i v hv => ?_⟩
      cases i with
      | zero =>
        cases hv
        have h3 := hs (k + 0)
        rw [ht 0 _ rfl] at h3
        exact (vr_val h3).1
      | succ i => rw [show k + (i + 1) = k + 1 + i by omega]; exact h2 i v (by simpa using hv)
    · cases h
theorem vrs_of {c : Cx} {p : Pl} : ∀ (rs : List Value) (i : Nat), (∀ r ∈ rs, scal r = true) → VRs c p i (rs.map DV) rs
  | [], i, h => rfl
  | r :: rs, i, h => ⟨r, rs, rfl, dat_vr (h r (by simp)), vrs_of rs (i + 1) fun x hx => h x (List.mem_cons_of_mem _ hx)⟩
theorem tights_of (b : Bool) : ∀ rs : List Value, D.tights b (rs.map DV) = true
  | [] => rfl
  | r :: rs => by
    show (D.tight b (DV r) && D.tights b (rs.map DV)) = true
    rw [tights_of b rs]
    rfl
theorem extVal_ok {P : Program} {ty : Nat → Option TI} {f : Nat} {φ : List Value → Option (List Value)}
    (h : ∀ vs rs W, φ vs = some rs → rs ≠ [] ∧ (∀ r ∈ rs, scal r = true) ∧ Reaches P f vs.toArray W fun r W' => r = retV rs ∧ Kept0 W W') :
    CallOK P ty fun f' args u l => if f' = f then extVal φ args u l else none := by
  intro f' args u l rs u' l' hc c vals hcty hcs hsz2 hs
  simp only at hc
  split at hc
  · rename_i hff
    subst hff
    unfold extVal at hc
    split at hc
    · simp only [Option.bind_eq_some_iff, Option.map_eq_some_iff] at hc
      obtain ⟨vs, hv, ws, hw, hq⟩ := hc
      cases hq
      obtain ⟨hne, hsc, hr⟩ := h vs ws c.W hw
      obtain ⟨h1, h2⟩ := valsOf_at (c := c) (tm := vals) hs.slots 0 hv (fun i d hd => by
        rw [hcs]
        show args.getD (0 + i) .undef = d
        rw [Nat.zero_add, List.getD_eq_getElem?_getD, hd]
        rfl)
      have hvals : vals = vs.toArray := by
        apply Array.ext
        · simp [hsz2, h1]
        · intro i hi1 hi2
          have hi3 : i < vs.length := by simpa using hi2
          have := h2 i vs[i] (List.getElem?_eq_getElem hi3)
          rw [Nat.zero_add] at this
          simpa [Array.getD, hi1] using this
      rw [hvals]
      refine hr.mono fun r W' hrr => ?_
      obtain ⟨rfl, hk⟩ := hrr
      refine ⟨{ c with W := W', s := ⟨fun x => match Nat.beq x 0 with | true => retD (ws.map DV) | false => .junk, fun _ => none, [], []⟩ }, rfl, ?_, rfl, ?_, ?_, ?_⟩
      · exact ⟨hk.os, hk.tape, hk.output, hk.size, fun g hg _ => ⟨rfl, hk.keep g hg⟩, rfl, fun _ => rfl, fun _ => rfl⟩
      · refine ⟨fun x => ?_, fun r cs hb => ?_, fun j r hgj => ?_⟩
        · show VR _ _ (match Nat.beq x 0 with | true => retD (ws.map DV) | false => .junk) _
          cases hx : Nat.beq x 0 with
          | true =>
            have := Nat.eq_of_beq_eq_true hx
            subst this
            match ws, hne, hsc with
            | [w], _, hsc => exact dat_vr (hsc w (by simp))
            | w :: w2 :: ws, _, hsc => exact ⟨w :: w2 :: ws, rfl, fun e => (by cases e), vrs_of (w :: w2 :: ws) 0 hsc⟩
          | false => trivial
        · cases r with
          | loc n => cases hb
          | up n =>
            have hb' : ([] : List (List D))[n]? = some cs := hb
            simp at hb'
        · have hgj' : (([] : List (Option Row))[j]?).bind id = some r := hgj
          simp at hgj'
      · match ws, hne with
        | [w], _ => rfl
        | w :: w2 :: ws, _ => exact tights_of false (w :: w2 :: ws)
      · rw [hcs]
        rfl
    · cases hc
  · cases hc
theorem extVal_of {P : Program} {ty : Nat → Option TI} {f : Nat} {fn : Func} {φ : List Value → Option (List Value)} (hf : P.funcs[f]? = some fn) (hn : (fn.name == "runtime.NumGoroutine") = false) (hb : fn.body.isSome = true)
    (h : ∀ vs rs W, φ vs = some rs → rs ≠ [] ∧ (∀ r ∈ rs, scal r = true) ∧ Calls P f vs.toArray W fun e w' => ∃ v, e = .returned v ∧ (v = retV rs ∧ Kept0 W w')) : ExtOK P ty f (extVal φ) :=
  ⟨extVal_ok fun vs rs W hv => ⟨(h vs rs W hv).1, (h vs rs W hv).2.1, calls_reaches hf hn hb (h vs rs W hv).2.2⟩⟩
end Go.Den
namespace Go.Proofs
open Go.Shelf
def Tryz.lays172_ren : Go.Shelf.Ren := ⟨fun | 172 => 55 | 244 => 83 | 245 => 84 | 247 => 104 | 279 => 105 | 280 => 106 | 281 => 107 | 282 => 108 | 287 => 129 | 316 => 130 | 171 => 49 | 205 => 131 | 321 => 141 | 322 => 142 | 243 => 81 | 246 => 102 | 283 => 125 | 284 => 126 | 285 => 127 | 286 => 128 | 129 => 97 | 317 => 137 | 318 => 138 | 319 => 139 | 320 => 140 | 337 => 144 | 338 => 145 | n => n, fun | 9 => 9 | 3 => 3 | 75 => 93 | 76 => 94 | 4 => 4 | 5 => 5 | 167 => 136 | 37 => 22 | 0 => 0 | 85 => 137 | 2 => 2 | 168 => 139 | 53 => 39 | 175 => 160 | 46 => 113 | 210 => 164 | 127 => 175 | 145 => 178 | 143 => 176 | 21 => 21 | 171 => 156 | 173 => 158 | 212 => 172 | 51 => 130 | 20 => 20 | 213 => 173 | 232 => 180 | 233 => 181 | 80 => 49 | n => n, fun | 15 => 0 | 16 => 1 | 17 => 2 | 18 => 3 | 19 => 4 | n => n⟩
theorem Tryz.lays172 : Go.Proofs.Lays.n172 Tryz.prog Tryz.lays172_ren := {
  mixed := by kernel_rfl
  f129 := Tryz.func97.trans (congrArg some (by kernel_rfl))
  f171 := Tryz.func49.trans (congrArg some (by kernel_rfl))
  f172 := Tryz.func55.trans (congrArg some (by kernel_rfl))
  f205 := Tryz.func131.trans (congrArg some (by kernel_rfl))
  f243 := Tryz.func81.trans (congrArg some (by kernel_rfl))
  f244 := Tryz.func83.trans (congrArg some (by kernel_rfl))
  f245 := Tryz.func84.trans (congrArg some (by kernel_rfl))
  f246 := Tryz.func102.trans (congrArg some (by kernel_rfl))
  f247 := Tryz.func104.trans (congrArg some (by kernel_rfl))
  f279 := Tryz.func105.trans (congrArg some (by kernel_rfl))
  f280 := Tryz.func106.trans (congrArg some (by kernel_rfl))
  f281 := Tryz.func107.trans (congrArg some (by kernel_rfl))
  f282 := Tryz.func108.trans (congrArg some (by kernel_rfl))
  f283 := Tryz.func125.trans (congrArg some (by kernel_rfl))
  f284 := Tryz.func126.trans (congrArg some (by kernel_rfl))
  f285 := Tryz.func127.trans (congrArg some (by kernel_rfl))
  f286 := Tryz.func128.trans (congrArg some (by kernel_rfl))
  f287 := Tryz.func129.trans (congrArg some (by kernel_rfl))
  f316 := Tryz.func130.trans (congrArg some (by kernel_rfl))
  f317 := Tryz.func137.trans (congrArg some (by kernel_rfl))
  f318 := Tryz.func138.trans (congrArg some (by kernel_rfl))
  f319 := Tryz.func139.trans (congrArg some (by kernel_rfl))
  f320 := Tryz.func140.trans (congrArg some (by kernel_rfl))
  f321 := Tryz.func141.trans (congrArg some (by kernel_rfl))
  f322 := Tryz.func142.trans (congrArg some (by kernel_rfl))
  f337 := Tryz.func144.trans (congrArg some (by kernel_rfl))
  f338 := Tryz.func145.trans (congrArg some (by kernel_rfl))
  t0 := Tryz.underlying0
  a0 := Tryz.isAgg0
  z0 := Tryz.sizeOf0
  v0 := Tryz.zeroValue0
  t2 := Tryz.underlying2
  a2 := Tryz.isAgg2
  z2 := Tryz.sizeOf2
  v2 := Tryz.zeroValue2
  t3 := Tryz.underlying3
  a3 := Tryz.isAgg3
  z3 := Tryz.sizeOf3
  v3 := Tryz.zeroValue3
  t4 := Tryz.underlying4
  a4 := Tryz.isAgg4
  z4 := Tryz.sizeOf4
  v4 := Tryz.zeroValue4
  t5 := Tryz.underlying5
  a5 := Tryz.isAgg5
  z5 := Tryz.sizeOf5
  v5 := Tryz.zeroValue5
  t9 := Tryz.underlying9
  a9 := Tryz.isAgg9
  z9 := Tryz.sizeOf9
  v9 := Tryz.zeroValue9
  t20 := Tryz.underlying20
  a20 := Tryz.isAgg20
  z20 := Tryz.sizeOf20
  v20 := Tryz.zeroValue20
  t21 := Tryz.underlying21
  a21 := Tryz.isAgg21
  z21 := Tryz.sizeOf21
  v21 := Tryz.zeroValue21
  t37 := Tryz.underlying22
  a37 := Tryz.isAgg22
  z37 := Tryz.sizeOf22
  v37 := Tryz.zeroValue22
  t46 := Tryz.underlying113
  a46 := Tryz.isAgg113
  z46 := Tryz.sizeOf113
  v46 := Tryz.zeroValue113
  t51 := Tryz.underlying130
  a51 := Tryz.isAgg130
  z51 := Tryz.sizeOf130
  v51 := Tryz.zeroValue130
  t53 := Tryz.underlying39
  a53 := Tryz.isAgg39
  z53 := Tryz.sizeOf39
  v53 := Tryz.zeroValue39
  t75 := Tryz.underlying93
  a75 := Tryz.isAgg93
  z75 := Tryz.sizeOf93
  v75 := Tryz.zeroValue93
  t76 := Tryz.underlying94
  a76 := Tryz.isAgg94
  z76 := Tryz.sizeOf94
  v76 := Tryz.zeroValue94
  t85 := Tryz.underlying137
  a85 := Tryz.isAgg137
  z85 := Tryz.sizeOf137
  v85 := Tryz.zeroValue137
  t127 := Tryz.underlying175
  a127 := Tryz.isAgg175
  z127 := Tryz.sizeOf175
  v127 := Tryz.zeroValue175
  t143 := Tryz.underlying176
  a143 := Tryz.isAgg176
  z143 := Tryz.sizeOf176
  v143 := Tryz.zeroValue176
  t145 := Tryz.underlying178
  a145 := Tryz.isAgg178
  z145 := Tryz.sizeOf178
  v145 := Tryz.zeroValue178
  t167 := Tryz.underlying136
  a167 := Tryz.isAgg136
  z167 := Tryz.sizeOf136
  v167 := Tryz.zeroValue136
  t168 := Tryz.underlying139
  a168 := Tryz.isAgg139
  z168 := Tryz.sizeOf139
  v168 := Tryz.zeroValue139
  t171 := Tryz.underlying156
  a171 := Tryz.isAgg156
  z171 := Tryz.sizeOf156
  v171 := Tryz.zeroValue156
  t173 := Tryz.underlying158
  a173 := Tryz.isAgg158
  z173 := Tryz.sizeOf158
  v173 := Tryz.zeroValue158
  t175 := Tryz.underlying160
  a175 := Tryz.isAgg160
  z175 := Tryz.sizeOf160
  v175 := Tryz.zeroValue160
  t210 := Tryz.underlying164
  a210 := Tryz.isAgg164
  z210 := Tryz.sizeOf164
  v210 := Tryz.zeroValue164
  t212 := Tryz.underlying172
  a212 := Tryz.isAgg172
  z212 := Tryz.sizeOf172
  v212 := Tryz.zeroValue172
  t213 := Tryz.underlying173
  a213 := Tryz.isAgg173
  z213 := Tryz.sizeOf173
  t232 := Tryz.underlying180
  a232 := Tryz.isAgg180
  z232 := Tryz.sizeOf180
  v232 := Tryz.zeroValue180
  t233 := Tryz.underlying181
  a233 := Tryz.isAgg181
  z233 := Tryz.sizeOf181
  v233 := Tryz.zeroValue181
  g15 := by kernel_rfl
  g16 := by kernel_rfl
  g17 := by kernel_rfl
  g18 := by kernel_rfl
  g19 := by kernel_rfl }
open Go.RowKit in
/-- strconv.Atoi: "Atoi is equivalent to ParseInt(s, 10, 0), converted to type int.": AT A DECIMAL NUMERAL OF AT MOST 18 BYTES: its value, and a nil error. The world behind the call: the one new row that the library's '[]byte(s)' lays. (LAID: no walk: one application.) -/
theorem Tryz.strconv_Atoi (s : ByteArray) (n : Int) (hl : s.size ≤ 18) (h : Lib.atoi s.data.toList = some n) (w : World) :
    Calls Tryz.prog 55 #[.string s] w fun e w' => e = .returned (.tuple #[.int .i64 n, .nilIface]) ∧ ∃ t, w' = Lib.bytesWorld w 5 t := Any.strconv_Atoi Tryz.lays172 s n hl h w
def Tryz.lays189_ren : Go.Shelf.Ren := ⟨fun | 189 => 60 | 125 => 72 | 257 => 85 | 128 => 96 | 129 => 97 | 294 => 109 | 295 => 110 | 296 => 111 | 297 => 112 | 298 => 113 | 299 => 114 | 216 => 115 | 300 => 116 | 301 => 117 | 328 => 132 | 329 => 119 | 330 => 120 | 331 => 133 | 332 => 134 | 215 => 135 | 343 => 143 | n => n, fun | 28 => 62 | 3 => 3 | 46 => 113 | 0 => 0 | 51 => 130 | 53 => 39 | 4 => 4 | 183 => 122 | 182 => 121 | 131 => 127 | 5 => 5 | 9 => 9 | 218 => 148 | 222 => 152 | 228 => 168 | 229 => 169 | n => n, fun | n => n⟩
theorem Tryz.lays189 : Go.Proofs.Lays.n189 Tryz.prog Tryz.lays189_ren := {
  mixed := by kernel_rfl
  f125 := Tryz.func72.trans (congrArg some (by kernel_rfl))
  f128 := Tryz.func96.trans (congrArg some (by kernel_rfl))
  f129 := Tryz.func97.trans (congrArg some (by kernel_rfl))
  f189 := Tryz.func60.trans (congrArg some (by kernel_rfl))
  f215 := Tryz.func135.trans (congrArg some (by kernel_rfl))
  f216 := Tryz.func115.trans (congrArg some (by kernel_rfl))
  f257 := Tryz.func85.trans (congrArg some (by kernel_rfl))
  f294 := Tryz.func109.trans (congrArg some (by kernel_rfl))
  f295 := Tryz.func110.trans (congrArg some (by kernel_rfl))
  f296 := Tryz.func111.trans (congrArg some (by kernel_rfl))
  f297 := Tryz.func112.trans (congrArg some (by kernel_rfl))
  f298 := Tryz.func113.trans (congrArg some (by kernel_rfl))
  f299 := Tryz.func114.trans (congrArg some (by kernel_rfl))
  f300 := Tryz.func116.trans (congrArg some (by kernel_rfl))
  f301 := Tryz.func117.trans (congrArg some (by kernel_rfl))
  f328 := Tryz.func132.trans (congrArg some (by kernel_rfl))
  f329 := Tryz.func119.trans (congrArg some (by kernel_rfl))
  f330 := Tryz.func120.trans (congrArg some (by kernel_rfl))
  f331 := Tryz.func133.trans (congrArg some (by kernel_rfl))
  f332 := Tryz.func134.trans (congrArg some (by kernel_rfl))
  f343 := Tryz.func143.trans (congrArg some (by kernel_rfl))
  t0 := Tryz.underlying0
  a0 := Tryz.isAgg0
  z0 := Tryz.sizeOf0
  v0 := Tryz.zeroValue0
  t3 := Tryz.underlying3
  a3 := Tryz.isAgg3
  z3 := Tryz.sizeOf3
  v3 := Tryz.zeroValue3
  t4 := Tryz.underlying4
  a4 := Tryz.isAgg4
  z4 := Tryz.sizeOf4
  v4 := Tryz.zeroValue4
  t5 := Tryz.underlying5
  a5 := Tryz.isAgg5
  z5 := Tryz.sizeOf5
  v5 := Tryz.zeroValue5
  t9 := Tryz.underlying9
  a9 := Tryz.isAgg9
  z9 := Tryz.sizeOf9
  v9 := Tryz.zeroValue9
  t28 := Tryz.underlying62
  a28 := Tryz.isAgg62
  z28 := Tryz.sizeOf62
  v28 := Tryz.zeroValue62
  t46 := Tryz.underlying113
  a46 := Tryz.isAgg113
  z46 := Tryz.sizeOf113
  v46 := Tryz.zeroValue113
  t51 := Tryz.underlying130
  a51 := Tryz.isAgg130
  z51 := Tryz.sizeOf130
  v51 := Tryz.zeroValue130
  t53 := Tryz.underlying39
  a53 := Tryz.isAgg39
  z53 := Tryz.sizeOf39
  v53 := Tryz.zeroValue39
  t131 := Tryz.underlying127
  a131 := Tryz.isAgg127
  z131 := Tryz.sizeOf127
  v131 := Tryz.zeroValue127
  t182 := Tryz.underlying121
  a182 := Tryz.isAgg121
  z182 := Tryz.sizeOf121
  v182 := Tryz.zeroValue121
  t183 := Tryz.underlying122
  a183 := Tryz.isAgg122
  z183 := Tryz.sizeOf122
  v183 := Tryz.zeroValue122
  t218 := Tryz.underlying148
  a218 := Tryz.isAgg148
  z218 := Tryz.sizeOf148
  v218 := Tryz.zeroValue148
  t222 := Tryz.underlying152
  a222 := Tryz.isAgg152
  z222 := Tryz.sizeOf152
  v222 := Tryz.zeroValue152
  t228 := Tryz.underlying168
  a228 := Tryz.isAgg168
  z228 := Tryz.sizeOf168
  v228 := Tryz.zeroValue168
  t229 := Tryz.underlying169
  a229 := Tryz.isAgg169
  z229 := Tryz.sizeOf169
  v229 := Tryz.zeroValue169 }
open Go.Sort Go.RowKit in
theorem Tryz.slices_Sort_int (blk off cap : Nat) (zs : List Int) (w : World) (hH : Holds (Value.int .i64) w blk off zs.toArray) (hblk : blk < w.heap.size) (hsz : zs.length < 4611686018427387904) :
    Calls Tryz.prog 60 #[.slice (some ⟨blk, off, none⟩) zs.length cap] w fun e w' =>
      e = .returned (.tuple #[]) ∧ ∃ n os, w' = grow (putRow (Value.int .i64) (Sort.ahead w n) blk off (zs.mergeSort fun x y => decide (x ≤ y)).toArray) os := Any.slices_Sort_int Tryz.lays189 blk off cap zs w hH hblk hsz
def Tryz.laysNm220_ren : Go.Shelf.Ren := ⟨fun | 20 => 61 | n => n, fun | 22 => 62 | 3 => 3 | 4 => 4 | 0 => 0 | n => n, fun | n => n⟩
theorem Tryz.laysNm220 : Go.Proofs.Lays2.n20 Tryz.prog Tryz.laysNm220_ren := {
  mixed := by kernel_rfl
  f20 := Tryz.func61.trans (congrArg some (by kernel_rfl))
  t0 := Tryz.underlying0
  a0 := Tryz.isAgg0
  z0 := Tryz.sizeOf0
  v0 := Tryz.zeroValue0
  t3 := Tryz.underlying3
  a3 := Tryz.isAgg3
  z3 := Tryz.sizeOf3
  v3 := Tryz.zeroValue3
  t4 := Tryz.underlying4
  a4 := Tryz.isAgg4
  z4 := Tryz.sizeOf4
  v4 := Tryz.zeroValue4
  t22 := Tryz.underlying62
  a22 := Tryz.isAgg62
  z22 := Tryz.sizeOf62
  v22 := Tryz.zeroValue62
  i3 := by kernel_rfl }
open Go.RowKit Go.Lib Go.Sort in
/-- slices.Compact at []int: "Compact replaces consecutive runs of equal elements with a single copy. This is like the uniq command found on Unix. Compact modifies the contents of the slice s and returns the modified slice, which may have a smaller length. Compact zeroes the elements between the new length and the original length. The result preserves the nilness of s.": IT RETURNS THE SLICE CUT TO 'Lib.compact zs'; ITS CELLS HOLD 'Lib.compact zs', THEN ZERO VALUES up to the old length; all else is as it was, but for the count of draws. IN THE WORDS OF slices.Sort's CONTRACT ('Holds', 'putRow'): so the everyday 'slices.Sort(xs); xs = slices.Compact(xs)' goes from the one contract to the other. It asks 'zs.length ≤ cap' (every slice's: the reslicing 's[:k]' looks at it). Length 0, nil: '.._empty'. (LAID: no walk: one application.) -/
theorem Tryz.slices_Compact_int (blk off cap : Nat) (zs : List Int) (w : World) (hH : Holds (Value.int .i64) w blk off zs.toArray) (hsz : zs.length ≤ 9223372036854775807) (hcap : zs.length ≤ cap) :
    Calls Tryz.prog 61 #[.slice (some ⟨blk, off, none⟩) zs.length cap] w fun e w' => e = .returned (.slice (some ⟨blk, off, none⟩) (Lib.compact zs).length cap) ∧ ∃ q, w' = putRow (Value.int .i64) (Sort.ahead w q) blk off (Lib.compact zs ++ List.replicate (zs.length - (Lib.compact zs).length) 0).toArray := Any.slices_Compact_int Tryz.laysNm220 blk off cap zs w hH hsz hcap
open Go.RowKit Go.Lib Go.Sort in
/-- The same at a slice of length 0, a nil one too: it comes back as it is. (LAID: no walk: one application.) -/
theorem Tryz.slices_Compact_int_empty (a : Option Addr) (cap : Nat) (w : World) :
    Calls Tryz.prog 61 #[.slice a 0 cap] w fun e w' => e = .returned (.slice a 0 cap) ∧ w' = w := Any.slices_Compact_int_empty Tryz.laysNm220 a cap w
open Go.RowKit Go.Sort in
/-- .. and plain. (LAID: no walk: one application.) -/
theorem Tryz.slices_Sort_int_none (p : Option Addr) (cap : Nat) (w : World) :
    Calls Tryz.prog 60 #[.slice p 0 cap] w fun e w' => e = .returned (.tuple #[]) ∧ w' = w := Any.slices_Sort_int_none Tryz.lays189 p cap w
end Go.Proofs
namespace Go.Proofs.YtjmljfpnofjkeaaGreatDoor
open Go Go.RowKit Go.Proofs
open Go.Den (Kept0 ExtOK extVal extVal_ok calls_reaches scal retV)
set_option linter.unusedVariables false
theorem hf51 : Tryz.prog.funcs[51]? = some Tryz.f51 := by kernel_rfl
theorem hn51 : Tryz.f51.ntmps = 28 := by kernel_rfl
theorem u22 : Tryz.prog.underlying 22 = some (.slice 5) := by kernel_rfl
theorem u5 : Tryz.prog.underlying 5 = some (.int .u8) := by kernel_rfl
theorem u9 : Tryz.prog.underlying 9 = some .string := by kernel_rfl
theorem conv1 (w : World) (b : Int) (h0 : 0 ≤ b) (h1 : b < 256) : (convert 22 9 (.slice (some ⟨w.heap.size, 0, none⟩) 1 1)).run Tryz.prog (w.alloc (.cells #[.int .u8 b] 5)) = .ok (.string ⟨#[UInt8.ofNat b.toNat]⟩) (w.alloc (.cells #[.int .u8 b] 5)) := by
  have := run_convert_bytes_back (P := Tryz.prog) (w.alloc (.cells #[.int .u8 b] 5)) 22 9 5 ⟨w.heap.size, 0, none⟩ 1 [UInt8.ofNat b.toNat] u22 u5 u9 (fun j hj => by
    have : j = 0 := by simpa using hj
    subst this
    have hb : ((UInt8.ofNat b.toNat).toNat : Int) = b := by
      rw [UInt8.toNat_ofNat']
      omega
    show (w.alloc (.cells #[.int .u8 b] 5)).cell? ⟨w.heap.size, 0, none⟩ = some (.int .u8 ((UInt8.ofNat b.toNat).toNat : Int))
    rw [World.cell?_alloc_mark, hb]
    rfl)
  exact this
set_option maxRecDepth 100000 in
set_option maxHeartbeats 2000000 in
theorem l1_small (n : Int) (h0 : 0 ≤ n) (h9 : n < 10) (w : World) :
    Calls Tryz.prog 51 #[.int .i64 n] w fun e w' => e = .returned (.string ⟨#[UInt8.ofNat (48 + n).toNat]⟩) ∧ Kept0 w w' := by
  have kc := fun w : World => conv1 w (48 + n) (by omega) (by omega)
  go_enter hf51, hn51
  unfold Tryz.f51
  go_wp2
  refine bodyPost_ret (v := .string ⟨#[UInt8.ofNat (48 + n).toNat]⟩) (by simp [results, go_sem]) rfl ?_
  exact ⟨rfl, Kept0.alloc w _⟩
theorem conv2 (W : World) (g : Nat) (b : Int) (h0 : 0 ≤ b) (h1 : b < 256) (hc : W.cell? ⟨g, 0, none⟩ = some (.int .u8 b)) : (convert 22 9 (.slice (some ⟨g, 0, none⟩) 1 1)).run Tryz.prog W = .ok (.string ⟨#[UInt8.ofNat b.toNat]⟩) W := by
  have := run_convert_bytes_back (P := Tryz.prog) W 22 9 5 ⟨g, 0, none⟩ 1 [UInt8.ofNat b.toNat] u22 u5 u9 (fun j hj => by
    have : j = 0 := by simpa using hj
    subst this
    have hb : ((UInt8.ofNat b.toNat).toNat : Int) = b := by
      rw [UInt8.toNat_ofNat']
      omega
    show W.cell? ⟨g, 0, none⟩ = some (.int .u8 ((UInt8.ofNat b.toNat).toNat : Int))
    rw [hc, hb])
  exact this
theorem cell_keep {W w' : World} {g : Nat} {v : Value} (hc : W.cell? ⟨g, 0, none⟩ = some v) (hg : g < W.heap.size) (hk : Kept0 W w') : w'.cell? ⟨g, 0, none⟩ = some v := by
  have h1 := hk.keep g hg
  unfold World.cell? at hc ⊢
  rw [h1]
  exact hc
set_option maxRecDepth 100000 in
set_option maxHeartbeats 1000000 in
theorem l1_two (n : Int) (h0 : 10 ≤ n) (h9 : n < 100) (w : World) :
    Calls Tryz.prog 51 #[.int .i64 n] w fun e w' => e = .returned (.string (⟨#[UInt8.ofNat (48 + IntKind.i64.wrap (n.tdiv 10)).toNat]⟩ ++ ⟨#[UInt8.ofNat (IntKind.u8.wrap (IntKind.i64.wrap (48 + n.tmod 10))).toNat]⟩)) ∧ Kept0 w w' := by
  have hm0 := Int.tmod_nonneg 10 (show 0 ≤ n by omega)
  have hm1 := Int.tmod_lt_of_pos n (show 0 < 10 by omega)
  have hd0 : 0 ≤ n.tdiv 10 := Int.tdiv_nonneg (by omega) (by omega)
  have hd1 : n.tdiv 10 < 10 := by rw [Int.tdiv_eq_ediv_of_nonneg (by omega)]; omega
  have hq : IntKind.i64.wrap (n.tdiv 10) = n.tdiv 10 := by simp [IntKind.wrap, IntKind.bits, IntKind.signed]; omega
  have hq0 : 0 ≤ IntKind.i64.wrap (n.tdiv 10) := by rw [hq]; exact hd0
  have hq1 : IntKind.i64.wrap (n.tdiv 10) < 10 := by rw [hq]; exact hd1
  have hb : IntKind.u8.wrap (IntKind.i64.wrap (48 + n.tmod 10)) = 48 + n.tmod 10 := by simp [IntKind.wrap, IntKind.bits, IntKind.signed]; omega
  have hb0 : 0 ≤ IntKind.u8.wrap (IntKind.i64.wrap (48 + n.tmod 10)) := by rw [hb]; omega
  have hb1 : IntKind.u8.wrap (IntKind.i64.wrap (48 + n.tmod 10)) < 256 := by rw [hb]; omega
  have kc := fun w : World => conv1 w (IntKind.u8.wrap (IntKind.i64.wrap (48 + n.tmod 10))) hb0 hb1
  have kc2 : ∀ w : World, (convert 22 9 (.slice (some ⟨w.heap.size, 0, none⟩) 1 1)).run Tryz.prog (w.alloc (.cells #[.int .u8 (IntKind.u8.wrap (IntKind.i64.wrap (48 + n.tmod 10)))] 5)).drew = .ok (.string ⟨#[UInt8.ofNat (IntKind.u8.wrap (IntKind.i64.wrap (48 + n.tmod 10))).toNat]⟩) (w.alloc (.cells #[.int .u8 (IntKind.u8.wrap (IntKind.i64.wrap (48 + n.tmod 10)))] 5)).drew := fun w => conv2 _ _ _ hb0 hb1 (by show (World.alloc _ _).cell? _ = _; rw [World.cell?_alloc_mark]; rfl)
  clear hq hb
  go_enter hf51, hn51
  unfold Tryz.f51
  go_wp2
  go_region_with (go_at_call 51; refine (l1_small _ hq0 hq1 _).mono ?_; rintro e w' ⟨rfl, hk⟩; try (have kd : (convert 22 9 (.slice (some ⟨w.heap.size, 0, none⟩) 1 1)).run Tryz.prog w' = .ok (.string ⟨#[UInt8.ofNat (IntKind.u8.wrap (IntKind.i64.wrap (48 + n.tmod 10))).toNat]⟩) w' := conv2 _ _ _ hb0 hb1 (cell_keep (by first | (rw [World.cell?_alloc_mark]; rfl) | (show (World.alloc _ _).cell? _ = _; rw [World.cell?_alloc_mark]; rfl) | (go_simp; done) | (simp; done)) (by first | (simp; done) | (show _ < (World.alloc _ _).heap.size; simp; done)) hk)))
  all_goals (try go_wp2)
  all_goals (refine bodyPost_ret (v := .string (⟨#[UInt8.ofNat (48 + IntKind.i64.wrap (n.tdiv 10)).toNat]⟩ ++ ⟨#[UInt8.ofNat (IntKind.u8.wrap (IntKind.i64.wrap (48 + n.tmod 10))).toNat]⟩)) (by first | (simp [results, go_sem]; done) | rfl) rfl ?_)
  all_goals refine ⟨rfl, ?_⟩
  all_goals first
    | exact (Kept0.drew w).trans (hk.trans (Kept0.alloc _ _))
    | exact (Kept0.alloc w _).trans ((Kept0.drew _).trans hk)
    | exact (Kept0.alloc w _).trans hk
    | exact ((Kept0.drew w).trans (Kept0.alloc _ _)).trans hk
    | exact ((Kept0.drew w).trans (Kept0.alloc _ _)).trans ((Kept0.drew _).trans hk)
    | trace_state
/-- A number below a hundred, as a text. -/
def dig (n : Int) : ByteArray := if n < 10 then ⟨#[UInt8.ofNat (48 + n).toNat]⟩ else ⟨#[UInt8.ofNat (48 + IntKind.i64.wrap (n.tdiv 10)).toNat]⟩ ++ ⟨#[UInt8.ofNat (IntKind.u8.wrap (IntKind.i64.wrap (48 + n.tmod 10))).toNat]⟩
def l1V : List Value → Option (List Value)
  | [.int .i64 n] => if 0 ≤ n ∧ n < 100 then some [.string (dig n)] else none
  | _ => none
def atoiV : List Value → Option (List Value)
  | [.string s] => if s.size ≤ 18 then (Lib.atoi s.data.toList).map fun n => [.int .i64 n, .nilIface] else none
  | _ => none
theorem l1_calls (vs rs : List Value) (W : World) (h : l1V vs = some rs) : rs ≠ [] ∧ (∀ r ∈ rs, scal r = true) ∧ Calls Tryz.prog 51 vs.toArray W fun e w' => ∃ v, e = .returned v ∧ (v = retV rs ∧ Kept0 W w') := by
  unfold l1V at h
  split at h
  · rename_i n
    split at h
    · rename_i hn
      cases h
      refine ⟨by simp, fun r hr => (by rw [List.mem_singleton] at hr; subst hr; rfl), ?_⟩
      by_cases h1 : n < 10
      · refine (l1_small n hn.1 h1 W).mono fun e w' he => ?_
        obtain ⟨rfl, hk⟩ := he
        exact ⟨_, rfl, by simp only [dig, if_pos h1]; rfl, hk⟩
      · refine (l1_two n (by omega) hn.2 W).mono fun e w' he => ?_
        obtain ⟨rfl, hk⟩ := he
        exact ⟨_, rfl, by simp only [dig, if_neg h1]; rfl, hk⟩
    · cases h
  · cases h
theorem kept_bytes (w : World) (e : TypeId) (t : ByteArray) : Kept0 w (Lib.bytesWorld w e t) :=
  ⟨rfl, rfl, rfl, by rw [Lib.bytesWorld_size]; omega, fun g hg => Lib.bytesWorld_at_old w e t g hg⟩
theorem atoi_calls (vs rs : List Value) (W : World) (h : atoiV vs = some rs) : rs ≠ [] ∧ (∀ r ∈ rs, scal r = true) ∧ Calls Tryz.prog 55 vs.toArray W fun e w' => ∃ v, e = .returned v ∧ (v = retV rs ∧ Kept0 W w') := by
  unfold atoiV at h
  split at h
  · rename_i s
    split at h
    · rename_i hs
      obtain ⟨n, hn, rfl⟩ := Option.map_eq_some_iff.1 h
      refine ⟨by simp, fun r hr => (by simp at hr; rcases hr with rfl | rfl <;> rfl), ?_⟩
      refine (Tryz.strconv_Atoi s n hs hn W).mono fun e w' he => ?_
      obtain ⟨rfl, t, rfl⟩ := he
      exact ⟨_, rfl, rfl, kept_bytes W 5 t⟩
    · cases h
  · cases h
end Go.Proofs.YtjmljfpnofjkeaaGreatDoor
namespace Go.Den
open Go
def tys : List (Nat × TI) := [(2, ⟨.int .i64, 1, 8, [], [.dat (.val (.int .i64 0))]⟩), (3, ⟨.int .i64, 1, 8, [], [.dat (.val (.int .i64 0))]⟩), (4, ⟨.bool, 1, 1, [], [.dat (.val (.bool false))]⟩), (5, ⟨.int .u8, 1, 1, [], [.dat (.val (.int .u8 0))]⟩), (9, ⟨.str, 1, 16, [], [.dat (.val (.string ByteArray.empty))]⟩), (21, ⟨.int .i32, 1, 4, [], [.dat (.val (.int .i32 0))]⟩), (22, ⟨.slice 5, 1, 24, [], [.own 5 []]⟩), (23, ⟨.slice 60, 1, 24, [], [.own 60 []]⟩), (34, ⟨.slice 9, 1, 24, [], [.own 9 []]⟩), (38, ⟨.other, 1, 8, [], [.dat (.val (.pointer none))]⟩), (39, ⟨.int .u64, 1, 8, [], [.dat (.val (.int .u64 0))]⟩), (41, ⟨.struct, 3, 40, [(0, 22), (1, 3), (2, 39)], [.own 5 [], .dat (.val (.int .i64 0)), .dat (.val (.int .u64 0))]⟩), (44, ⟨.slice 46, 1, 24, [], [.own 46 []]⟩), (46, ⟨.struct, 3, 40, [(0, 3), (1, 3), (2, 44)], [.dat (.val (.int .i64 0)), .dat (.val (.int .i64 0)), .own 46 []]⟩), (52, ⟨.slice 54, 1, 24, [], [.own 54 []]⟩), (54, ⟨.struct, 3, 40, [(0, 3), (1, 3), (2, 52)], [.dat (.val (.int .i64 0)), .dat (.val (.int .i64 0)), .own 54 []]⟩), (60, ⟨.struct, 3, 24, [(0, 3), (1, 3), (2, 3)], [.dat (.val (.int .i64 0)), .dat (.val (.int .i64 0)), .dat (.val (.int .i64 0))]⟩), (62, ⟨.slice 3, 1, 24, [], [.own 3 []]⟩), (64, ⟨.other, 1, 8, [], [.dat (.val .nilFunc)]⟩), (65, ⟨.other, 1, 8, [], [.dat (.val .nilFunc)]⟩), (93, ⟨.other, 1, 16, [], [.dat (.val .nilIface)]⟩), (99, ⟨.other, 1, 8, [], [.dat (.val .nilFunc)]⟩), (108, ⟨.other, 1, 8, [], [.dat (.val (.map none))]⟩), (109, ⟨.other, 1, 8, [], [.dat (.val .nilFunc)]⟩), (113, ⟨.int .u64, 1, 8, [], [.dat (.val (.int .u64 0))]⟩), (116, ⟨.other, 1, 8, [], [.dat (.val .nilFunc)]⟩), (121, ⟨.int .i64, 1, 8, [], [.dat (.val (.int .i64 0))]⟩), (130, ⟨.int .u32, 1, 4, [], [.dat (.val (.int .u32 0))]⟩), (134, ⟨.other, 1, 8, [], [.dat (.val .nilFunc)]⟩), (139, ⟨.other, 1, 8, [], [.dat (.val (.pointer none))]⟩), (148, ⟨.int .u64, 1, 8, [], [.dat (.val (.int .u64 0))]⟩), (152, ⟨.other, 1, 8, [], [.dat (.val (.pointer none))]⟩), (175, ⟨.other, 1, 8, [], [.dat (.val (.pointer none))]⟩), (178, ⟨.struct, 1, 16, [(0, 9)], [.dat (.val (.string ByteArray.empty))]⟩)]
def assoc {α : Type} : List (Nat × α) → Nat → Option α
  | [], _ => none
  | (a, x) :: l, n => match Nat.beq a n with | true => some x | false => assoc l n
def livesOf : List (Nat × List (Nat × List Nat)) := [(4, [(16, [6, 12, 72, 73, 74]), (27, [6, 12, 20, 72, 73, 74, 99, 100, 101])]), (9, [(4, [0, 1, 12, 13])]), (13, [(9, [7, 25, 26, 27])]), (14, [(8, [6, 20, 21, 22])]), (21, [(4, [0, 14, 15, 16]), (10, [0, 3, 4, 5, 6, 14, 15, 16]), (15, [0, 3, 4, 5, 7, 8, 14, 15, 16])]), (23, [(3, [0, 4, 5, 21, 22, 23])]), (24, [(13, [0, 4, 18])]), (31, [(9, [1, 2, 3, 6, 8, 41, 42, 43])]), (37, [(4, [0, 7, 22, 23, 24])]), (38, [(8, [1, 4, 5, 6, 7, 14, 45, 46, 47]), (11, [1, 4, 5, 6, 7, 14, 17, 45, 46, 47, 51, 52, 53]), (24, [4, 5, 6, 7, 91, 92, 93])]), (40, [(9, [6, 34, 35, 36]), (18, [1, 6, 9, 56, 57, 58]), (21, [1, 6, 9, 12, 56, 57, 58, 62, 63, 64])]), (42, [(10, [2, 9, 60, 61, 62])]), (44, [(3, [1, 2, 4, 15, 16, 17])]), (47, [(5, [0, 1, 6, 9, 10, 59, 60])]), (50, [(3, [0, 1, 5, 6])]), (57, [(2, [0, 1, 7, 8])]), (58, [(6, [1, 2, 29, 30, 31])]), (61, [(4, [0, 3]), (9, [0, 3, 4, 5])]), (67, [(18, [0, 4, 13])]), (71, [(2, [0, 1, 2, 3, 8, 9])]), (73, [(3, [0, 3, 5, 6])]), (77, [(4, [3, 6, 21, 22, 23])]), (78, [(3, [3, 7, 8, 9])]), (79, [(3, [3, 7, 8, 9])]), (83, [(10, [5, 6, 47, 48, 49])]), (85, [(2, [0, 1, 2, 3, 8, 9])]), (86, [(3, [0, 3, 4])]), (87, [(1, [0, 1, 2, 6]), (4, [0, 1, 2, 6, 7])]), (88, [(4, [0, 6, 7, 8, 9]), (8, [0, 6, 7, 10])]), (89, [(5, [0, 1, 6, 7, 8, 9])]), (91, [(2, [0, 6, 7])]), (92, [(3, [0, 1, 2, 7, 8]), (5, [0, 1, 2, 7, 8]), (14, [0, 1, 2, 7, 8, 9]), (20, [0, 1, 2, 7, 8, 10])]), (94, [(0, [0, 1, 9, 10]), (3, [0, 1, 9, 10]), (5, [0, 1, 9, 10])]), (95, [(0, [0, 1, 10, 11]), (3, [0, 1, 10, 11]), (5, [0, 1, 10, 11]), (13, [0, 1, 10, 11]), (15, [0, 1, 10, 11])]), (109, [(1, [0, 1, 2, 6]), (4, [0, 1, 2, 6, 7])]), (110, [(4, [0, 6, 7, 8, 9]), (8, [0, 6, 7, 10])]), (111, [(5, [0, 1, 6, 7, 8, 9])]), (113, [(2, [0, 6, 7])]), (114, [(3, [0, 1, 2, 7, 8]), (5, [0, 1, 2, 7, 8]), (14, [0, 1, 2, 7, 8, 9]), (20, [0, 1, 2, 7, 8, 10])]), (116, [(0, [0, 1, 9, 10]), (3, [0, 1, 9, 10]), (5, [0, 1, 9, 10])]), (117, [(0, [0, 1, 10, 11]), (3, [0, 1, 10, 11]), (5, [0, 1, 10, 11]), (13, [0, 1, 10, 11]), (15, [0, 1, 10, 11])]), (118, [(1, [0, 2, 3, 8])]), (124, [(2, [0, 1, 7, 8])]), (127, [(1, [0, 1, 4])]), (128, [(11, [0, 1, 3, 4, 10, 11, 12, 13, 14, 15, 16]), (18, [0, 1, 3, 4, 10, 11, 12, 13, 17])]), (129, [(36, [1, 8, 9, 10, 11, 12, 13, 99, 100, 101])]), (132, [(1, [0, 2, 3, 8])]), (142, [(10, [0, 3, 4, 5])])]
def outsOf : List (Nat × List (Nat × List Nat)) := [(4, [(16, [2]), (27, [6, 12, 20, 72, 73, 74])]), (9, [(4, [4])]), (13, [(9, [7])]), (14, [(8, [2, 3, 6])]), (21, [(4, [2]), (10, [0, 3, 4, 5, 14, 15, 16]), (15, [0, 3, 4, 5, 7, 14, 15, 16])]), (23, [(3, [4, 5])]), (24, [(13, [0, 4, 18])]), (31, [(9, [6, 7, 8])]), (37, [(4, [0])]), (38, [(8, [4, 5, 6]), (11, [1, 4, 5, 6, 7, 14, 45, 46, 47]), (24, [4, 5, 6])]), (40, [(9, [6]), (18, [2, 3, 6]), (21, [1, 2, 3, 6, 9, 56, 57, 58])]), (42, [(10, [2, 3, 9])]), (44, [(3, [1, 2, 3, 4])]), (47, [(5, [6, 7, 8, 9, 10])]), (50, [(3, [5])]), (57, [(2, [4])]), (58, [(6, [])]), (61, [(4, [0, 2]), (9, [0, 3])]), (67, [(18, [0, 4, 13])]), (71, [(2, [])]), (73, [(3, [0, 3, 5, 6])]), (77, [(4, [])]), (78, [(3, [3])]), (79, [(3, [3])]), (83, [(10, [2, 3, 5, 6])]), (85, [(2, [])]), (86, [(3, [3])]), (87, [(1, []), (4, [0, 1, 2, 6])]), (88, [(4, [0, 6, 7, 8]), (8, [])]), (89, [(5, [])]), (91, [(2, [])]), (92, [(3, [6]), (5, [0, 1, 2, 7, 8]), (14, [0, 1, 2, 7, 8]), (20, [0, 1, 2, 7, 8])]), (94, [(0, [9]), (3, [0, 1, 9, 10]), (5, [0, 1, 9, 10])]), (95, [(0, [0, 1, 11]), (3, [0, 1, 10, 11]), (5, [0, 1, 10, 11]), (13, [0, 1, 10, 11]), (15, [0, 1, 10, 11])]), (109, [(1, []), (4, [0, 1, 2, 6])]), (110, [(4, [0, 6, 7, 8]), (8, [])]), (111, [(5, [])]), (113, [(2, [])]), (114, [(3, [6]), (5, [0, 1, 2, 7, 8]), (14, [0, 1, 2, 7, 8]), (20, [0, 1, 2, 7, 8])]), (116, [(0, [9]), (3, [0, 1, 9, 10]), (5, [0, 1, 9, 10])]), (117, [(0, [0, 1, 11]), (3, [0, 1, 10, 11]), (5, [0, 1, 10, 11]), (13, [0, 1, 10, 11]), (15, [0, 1, 10, 11])]), (118, [(1, [])]), (124, [(2, [4])]), (127, [(1, [0, 1, 4])]), (128, [(11, [0, 1, 3, 4, 10, 11, 12, 13]), (18, [0, 1, 3, 4, 10, 11, 12, 13])]), (129, [(36, [6, 7, 9, 12, 13])]), (132, [(1, [])]), (142, [(10, [2, 3])])]
def modesOf : List (Nat × List Nat) := [(37, [2]), (60, [1]), (61, [2])]
def plansOf : List (Nat × List (Nat × Plan)) := [(9, [(6, (none, [(0, 0, []), (1, 0, []), (2, 0, []), (3, 1, []), (4, 0, []), (5, 0, []), (6, 0, []), (7, 1, []), (8, 0, [])]))]), (12, [(4, (some [4], [(0, 0, []), (2, 1, []), (1, 4, []), (3, 2, []), (4, 2, [])]))]), (17, [(6, (some [3], [(0, 0, []), (2, 1, []), (1, 4, []), (3, 2, []), (4, 2, [])]))]), (19, [(4, (none, [(0, 1, []), (1, 0, []), (2, 0, []), (3, 0, []), (4, 0, []), (5, 0, []), (6, 0, []), (7, 0, []), (8, 0, []), (9, 1, []), (10, 4, []), (11, 0, []), (12, 2, []), (13, 0, [])]))]), (20, [(6, (none, [(0, 0, []), (1, 1, []), (2, 0, []), (3, 1, []), (7, 0, []), (8, 1, []), (9, 0, []), (10, 1, []), (4, 4, []), (5, 0, []), (6, 0, []), (11, 2, []), (12, 0, []), (13, 0, []), (14, 0, [])]))]), (22, [(6, (none, [(0, 0, []), (1, 1, []), (2, 0, []), (3, 1, []), (7, 0, []), (8, 1, []), (9, 0, []), (10, 1, []), (4, 4, []), (5, 0, []), (6, 0, []), (11, 2, []), (12, 0, []), (13, 0, []), (14, 0, [])]))]), (23, [(1, (none, [(0, 0, [5]), (1, 0, [5]), (2, 0, [5]), (3, 0, [5]), (4, 1, [5]), (5, 0, [5]), (6, 0, [5]), (7, 0, [5]), (8, 0, [5]), (9, 1, [5]), (10, 0, [5]), (11, 3, [5]), (12, 2, [])])), (5, (none, [(0, 0, []), (1, 1, []), (2, 0, []), (3, 0, []), (4, 4, []), (5, 4, []), (6, 2, []), (7, 0, []), (8, 2, [])]))]), (24, [(16, (none, [(0, 0, []), (2, 0, []), (3, 0, []), (4, 0, []), (5, 0, []), (6, 0, []), (1, 2, []), (7, 2, []), (8, 0, []), (9, 0, [])]))]), (31, [(4, (some [3], [(0, 0, []), (1, 1, []), (2, 0, []), (3, 0, []), (5, 0, []), (6, 1, []), (7, 0, []), (8, 0, []), (9, 0, []), (10, 0, []), (4, 4, []), (11, 4, []), (12, 0, [])]))]), (38, [(28, (none, [(0, 1, []), (1, 1, []), (2, 0, []), (3, 0, [])]))]), (42, [(7, (none, [(0, 1, []), (1, 1, []), (2, 4, []), (3, 2, []), (4, 0, [])])), (17, (none, [(0, 1, []), (1, 1, []), (2, 4, []), (3, 2, []), (4, 0, [])]))]), (44, [(12, (none, [(0, 1, []), (1, 1, []), (2, 4, []), (3, 2, []), (4, 0, [])]))]), (46, [(2, (none, [(0, 0, []), (1, 0, []), (2, 0, []), (3, 1, []), (4, 0, []), (5, 0, []), (6, 0, []), (7, 1, []), (8, 0, []), (9, 0, [])])), (3, (none, [(0, 0, []), (1, 0, []), (2, 0, []), (3, 1, []), (4, 0, []), (5, 0, []), (6, 0, []), (7, 1, []), (8, 0, []), (9, 1, []), (10, 0, []), (11, 0, [])])), (6, (none, [(0, 0, []), (1, 0, []), (2, 0, []), (3, 1, []), (4, 0, []), (5, 0, []), (6, 0, []), (7, 1, []), (8, 0, []), (9, 0, [])]))]), (47, [(3, (none, [(0, 0, [9]), (1, 0, [9]), (2, 0, [9]), (3, 0, [9]), (4, 1, [9]), (5, 0, [9]), (6, 0, [9]), (7, 0, [9]), (8, 0, [9]), (9, 1, [9]), (10, 0, [9]), (11, 0, [9]), (12, 0, [9]), (13, 3, [9]), (14, 2, []), (15, 0, [])]))]), (61, [(6, (none, [(0, 0, []), (1, 0, []), (2, 0, []), (3, 1, []), (4, 0, []), (5, 0, []), (6, 0, []), (7, 0, []), (8, 1, []), (9, 0, [])])), (11, (none, [(0, 0, []), (1, 0, []), (2, 0, []), (3, 1, []), (4, 0, []), (5, 0, []), (6, 0, []), (7, 0, []), (8, 1, []), (9, 0, [])]))]), (62, [(7, (some [3], [(0, 0, []), (1, 1, []), (2, 0, []), (3, 1, []), (4, 0, []), (5, 0, []), (7, 0, []), (8, 1, []), (9, 0, []), (10, 1, []), (11, 0, []), (12, 0, []), (6, 4, []), (13, 2, []), (14, 2, []), (15, 2, [])]))]), (70, [(1, (none, [(0, 0, []), (1, 1, []), (2, 0, []), (3, 0, []), (4, 1, []), (5, 0, []), (6, 1, []), (7, 0, []), (8, 1, []), (9, 0, []), (10, 1, []), (11, 2, []), (12, 2, [])]))]), (71, [(17, (none, [(0, 0, []), (1, 0, []), (2, 0, []), (3, 0, []), (4, 0, []), (5, 0, []), (6, 0, []), (7, 1, []), (8, 0, []), (9, 0, []), (10, 0, []), (11, 1, []), (12, 2, []), (13, 0, []), (14, 0, [])]))]), (75, [(1, (none, [(0, 0, []), (1, 1, []), (2, 0, []), (3, 0, []), (4, 1, []), (5, 0, []), (6, 1, []), (7, 0, []), (8, 1, []), (9, 0, []), (10, 1, []), (11, 2, []), (12, 2, [])]))]), (85, [(17, (none, [(0, 0, []), (1, 0, []), (2, 0, []), (3, 0, []), (4, 0, []), (5, 0, []), (6, 0, []), (7, 1, []), (8, 0, []), (9, 0, []), (10, 0, []), (11, 1, []), (12, 2, []), (13, 0, []), (14, 0, [])]))]), (87, [(4, (none, [(0, 0, []), (1, 0, []), (2, 0, []), (3, 0, []), (4, 0, []), (5, 0, []), (6, 0, []), (7, 1, []), (8, 0, []), (9, 0, []), (10, 0, []), (11, 0, []), (12, 1, []), (13, 2, []), (14, 0, [])])), (6, (none, [(0, 0, []), (1, 0, []), (2, 0, []), (3, 0, []), (4, 0, []), (5, 0, []), (6, 0, []), (7, 0, []), (8, 0, []), (9, 1, []), (10, 0, []), (11, 0, []), (12, 0, []), (13, 1, []), (14, 0, []), (15, 2, []), (16, 0, []), (17, 2, [])]))]), (88, [(10, (none, [(0, 0, []), (1, 0, []), (2, 0, []), (3, 0, []), (4, 0, []), (5, 0, []), (6, 0, []), (7, 0, []), (8, 0, []), (9, 0, []), (10, 0, []), (11, 1, []), (12, 0, []), (13, 0, []), (14, 0, []), (15, 1, []), (16, 0, []), (17, 2, []), (18, 0, []), (19, 2, [])]))]), (89, [(10, (none, [(0, 0, []), (1, 0, []), (2, 0, []), (3, 0, []), (4, 0, []), (5, 0, []), (6, 0, []), (7, 0, []), (8, 0, []), (9, 0, []), (10, 0, []), (11, 1, []), (12, 0, []), (13, 0, []), (14, 0, []), (15, 1, []), (16, 0, []), (17, 2, []), (18, 0, []), (19, 2, [])]))]), (91, [(3, (none, [(0, 0, []), (1, 0, []), (2, 0, []), (3, 0, []), (4, 0, []), (5, 0, []), (6, 0, []), (7, 1, []), (8, 0, []), (9, 0, []), (10, 0, []), (11, 1, []), (12, 0, []), (13, 2, []), (14, 0, []), (15, 2, [])]))]), (92, [(5, (none, [(0, 0, []), (1, 0, []), (2, 0, []), (3, 0, []), (4, 0, []), (5, 0, []), (6, 0, []), (7, 1, []), (8, 0, []), (9, 0, []), (10, 0, []), (11, 0, []), (12, 1, []), (13, 2, []), (14, 0, []), (15, 0, [])])), (11, (none, [(0, 0, []), (1, 0, []), (2, 0, []), (3, 0, []), (4, 0, []), (5, 0, []), (6, 0, []), (7, 0, []), (8, 0, []), (9, 1, []), (10, 0, []), (11, 0, []), (12, 0, []), (13, 1, []), (14, 0, []), (15, 2, []), (16, 0, []), (17, 2, [])])), (16, (none, [(0, 0, []), (1, 0, []), (2, 0, []), (3, 1, []), (4, 0, []), (5, 0, []), (6, 0, []), (7, 0, []), (8, 1, []), (9, 2, []), (10, 0, [])])), (17, (none, [(0, 0, []), (1, 0, []), (2, 0, []), (3, 0, []), (4, 0, []), (5, 0, []), (6, 0, []), (7, 0, []), (8, 0, []), (9, 1, []), (10, 0, []), (11, 0, []), (12, 0, []), (13, 1, []), (14, 0, []), (15, 2, []), (16, 0, []), (17, 2, [])])), (22, (none, [(0, 0, []), (1, 0, []), (2, 0, []), (3, 1, []), (4, 0, []), (5, 0, []), (6, 0, []), (7, 0, []), (8, 1, []), (9, 2, []), (10, 0, [])])), (23, (none, [(0, 0, []), (1, 0, []), (2, 0, []), (3, 0, []), (4, 0, []), (5, 0, []), (6, 0, []), (7, 0, []), (8, 0, []), (9, 1, []), (10, 0, []), (11, 0, []), (12, 0, []), (13, 1, []), (14, 0, []), (15, 2, []), (16, 0, []), (17, 2, [])]))]), (94, [(1, (none, [(0, 0, []), (1, 0, []), (2, 0, []), (3, 0, []), (4, 0, []), (5, 0, []), (6, 0, []), (7, 1, []), (8, 0, []), (9, 0, []), (10, 0, []), (11, 1, []), (12, 0, []), (13, 2, []), (14, 0, []), (15, 2, [])])), (3, (none, [(0, 0, []), (1, 0, []), (2, 0, []), (3, 0, []), (4, 0, []), (5, 0, []), (6, 0, []), (7, 1, []), (8, 0, []), (9, 0, []), (10, 0, []), (11, 1, []), (12, 2, []), (13, 0, []), (14, 0, [])])), (5, (none, [(0, 0, []), (1, 0, []), (2, 0, []), (3, 0, []), (4, 0, []), (5, 0, []), (6, 0, []), (7, 1, []), (8, 0, []), (9, 0, []), (10, 0, []), (11, 1, []), (12, 2, []), (13, 0, [])])), (8, (none, [(0, 0, []), (1, 0, []), (2, 0, []), (3, 0, []), (4, 0, []), (5, 0, []), (6, 0, []), (7, 1, []), (8, 0, []), (9, 0, []), (10, 0, []), (11, 1, []), (12, 0, []), (13, 2, []), (14, 0, []), (15, 2, [])]))]), (95, [(1, (none, [(0, 0, []), (1, 0, []), (2, 0, []), (3, 0, []), (4, 0, []), (5, 0, []), (6, 0, []), (7, 1, []), (8, 0, []), (9, 0, []), (10, 0, []), (11, 1, []), (12, 0, []), (13, 2, []), (14, 0, []), (15, 2, [])])), (3, (none, [(0, 0, []), (1, 0, []), (2, 0, []), (3, 0, []), (4, 0, []), (5, 0, []), (6, 0, []), (7, 1, []), (8, 0, []), (9, 0, []), (10, 0, []), (11, 1, []), (12, 2, []), (13, 0, [])])), (5, (none, [(0, 0, []), (1, 0, []), (2, 0, []), (3, 0, []), (4, 0, []), (5, 0, []), (6, 0, []), (7, 1, []), (8, 0, []), (9, 0, []), (10, 0, []), (11, 1, []), (12, 2, []), (13, 0, []), (14, 0, [])])), (8, (none, [(0, 0, []), (1, 0, []), (2, 0, []), (3, 0, []), (4, 0, []), (5, 0, []), (6, 0, []), (7, 1, []), (8, 0, []), (9, 0, []), (10, 0, []), (11, 1, []), (12, 0, []), (13, 2, []), (14, 0, []), (15, 2, [])])), (10, (none, [(0, 0, []), (1, 0, []), (2, 0, []), (3, 0, []), (4, 0, []), (5, 0, []), (6, 0, []), (7, 1, []), (8, 0, []), (9, 0, []), (10, 0, []), (11, 1, []), (12, 0, []), (13, 2, []), (14, 0, []), (15, 2, [])])), (13, (none, [(0, 0, []), (1, 0, []), (2, 0, []), (3, 0, []), (4, 0, []), (5, 0, []), (6, 0, []), (7, 1, []), (8, 0, []), (9, 0, []), (10, 0, []), (11, 1, []), (12, 2, []), (13, 0, [])])), (15, (none, [(0, 0, []), (1, 0, []), (2, 0, []), (3, 0, []), (4, 0, []), (5, 0, []), (6, 0, []), (7, 1, []), (8, 0, []), (9, 0, []), (10, 0, []), (11, 1, []), (12, 2, []), (13, 0, []), (14, 0, [])])), (18, (none, [(0, 0, []), (1, 0, []), (2, 0, []), (3, 0, []), (4, 0, []), (5, 0, []), (6, 0, []), (7, 1, []), (8, 0, []), (9, 0, []), (10, 0, []), (11, 1, []), (12, 0, []), (13, 2, []), (14, 0, []), (15, 2, [])])), (21, (none, [(0, 0, []), (1, 0, []), (2, 0, []), (3, 0, []), (4, 0, []), (5, 0, []), (6, 0, []), (7, 1, []), (8, 0, []), (9, 0, []), (10, 0, []), (11, 1, []), (12, 0, []), (13, 2, []), (14, 0, []), (15, 2, [])]))]), (98, [(9, (none, [(0, 0, []), (1, 1, []), (2, 0, []), (3, 1, []), (4, 0, []), (5, 1, []), (6, 0, []), (7, 0, []), (8, 2, []), (9, 2, []), (10, 2, [])])), (10, (none, [(0, 0, []), (1, 1, []), (2, 0, []), (3, 1, []), (4, 0, []), (5, 1, []), (6, 0, []), (8, 0, []), (9, 1, []), (10, 0, []), (11, 1, []), (12, 0, []), (13, 1, []), (14, 0, []), (7, 4, []), (15, 2, []), (16, 2, []), (17, 2, [])]))]), (105, [(1, (none, [(0, 0, []), (1, 0, []), (3, 1, []), (2, 4, []), (4, 0, []), (5, 2, []), (6, 0, [])]))]), (106, [(1, (none, [(0, 0, []), (1, 0, []), (3, 1, []), (2, 4, []), (4, 0, []), (5, 2, []), (6, 0, [])]))]), (109, [(4, (none, [(0, 0, []), (1, 0, []), (2, 0, []), (3, 0, []), (4, 0, []), (5, 0, []), (6, 0, []), (7, 1, []), (8, 0, []), (9, 0, []), (10, 0, []), (11, 0, []), (12, 1, []), (13, 2, []), (14, 0, [])])), (6, (none, [(0, 0, []), (1, 0, []), (2, 0, []), (3, 0, []), (4, 0, []), (5, 0, []), (6, 0, []), (7, 0, []), (8, 0, []), (9, 1, []), (10, 0, []), (11, 0, []), (12, 0, []), (13, 1, []), (14, 0, []), (15, 2, []), (16, 0, []), (17, 2, [])]))]), (110, [(10, (none, [(0, 0, []), (1, 0, []), (2, 0, []), (3, 0, []), (4, 0, []), (5, 0, []), (6, 0, []), (7, 0, []), (8, 0, []), (9, 0, []), (10, 0, []), (11, 1, []), (12, 0, []), (13, 0, []), (14, 0, []), (15, 1, []), (16, 0, []), (17, 2, []), (18, 0, []), (19, 2, [])]))]), (111, [(10, (none, [(0, 0, []), (1, 0, []), (2, 0, []), (3, 0, []), (4, 0, []), (5, 0, []), (6, 0, []), (7, 0, []), (8, 0, []), (9, 0, []), (10, 0, []), (11, 1, []), (12, 0, []), (13, 0, []), (14, 0, []), (15, 1, []), (16, 0, []), (17, 2, []), (18, 0, []), (19, 2, [])]))]), (113, [(3, (none, [(0, 0, []), (1, 0, []), (2, 0, []), (3, 0, []), (4, 0, []), (5, 0, []), (6, 0, []), (7, 1, []), (8, 0, []), (9, 0, []), (10, 0, []), (11, 1, []), (12, 0, []), (13, 2, []), (14, 0, []), (15, 2, [])]))]), (114, [(5, (none, [(0, 0, []), (1, 0, []), (2, 0, []), (3, 0, []), (4, 0, []), (5, 0, []), (6, 0, []), (7, 1, []), (8, 0, []), (9, 0, []), (10, 0, []), (11, 0, []), (12, 1, []), (13, 2, []), (14, 0, []), (15, 0, [])])), (11, (none, [(0, 0, []), (1, 0, []), (2, 0, []), (3, 0, []), (4, 0, []), (5, 0, []), (6, 0, []), (7, 0, []), (8, 0, []), (9, 1, []), (10, 0, []), (11, 0, []), (12, 0, []), (13, 1, []), (14, 0, []), (15, 2, []), (16, 0, []), (17, 2, [])])), (16, (none, [(0, 0, []), (1, 0, []), (2, 0, []), (3, 1, []), (4, 0, []), (5, 0, []), (6, 0, []), (7, 0, []), (8, 1, []), (9, 2, []), (10, 0, [])])), (17, (none, [(0, 0, []), (1, 0, []), (2, 0, []), (3, 0, []), (4, 0, []), (5, 0, []), (6, 0, []), (7, 0, []), (8, 0, []), (9, 1, []), (10, 0, []), (11, 0, []), (12, 0, []), (13, 1, []), (14, 0, []), (15, 2, []), (16, 0, []), (17, 2, [])])), (22, (none, [(0, 0, []), (1, 0, []), (2, 0, []), (3, 1, []), (4, 0, []), (5, 0, []), (6, 0, []), (7, 0, []), (8, 1, []), (9, 2, []), (10, 0, [])])), (23, (none, [(0, 0, []), (1, 0, []), (2, 0, []), (3, 0, []), (4, 0, []), (5, 0, []), (6, 0, []), (7, 0, []), (8, 0, []), (9, 1, []), (10, 0, []), (11, 0, []), (12, 0, []), (13, 1, []), (14, 0, []), (15, 2, []), (16, 0, []), (17, 2, [])]))]), (116, [(1, (none, [(0, 0, []), (1, 0, []), (2, 0, []), (3, 0, []), (4, 0, []), (5, 0, []), (6, 0, []), (7, 1, []), (8, 0, []), (9, 0, []), (10, 0, []), (11, 1, []), (12, 0, []), (13, 2, []), (14, 0, []), (15, 2, [])])), (3, (none, [(0, 0, []), (1, 0, []), (2, 0, []), (3, 0, []), (4, 0, []), (5, 0, []), (6, 0, []), (7, 1, []), (8, 0, []), (9, 0, []), (10, 0, []), (11, 1, []), (12, 2, []), (13, 0, []), (14, 0, [])])), (5, (none, [(0, 0, []), (1, 0, []), (2, 0, []), (3, 0, []), (4, 0, []), (5, 0, []), (6, 0, []), (7, 1, []), (8, 0, []), (9, 0, []), (10, 0, []), (11, 1, []), (12, 2, []), (13, 0, [])])), (8, (none, [(0, 0, []), (1, 0, []), (2, 0, []), (3, 0, []), (4, 0, []), (5, 0, []), (6, 0, []), (7, 1, []), (8, 0, []), (9, 0, []), (10, 0, []), (11, 1, []), (12, 0, []), (13, 2, []), (14, 0, []), (15, 2, [])]))]), (117, [(1, (none, [(0, 0, []), (1, 0, []), (2, 0, []), (3, 0, []), (4, 0, []), (5, 0, []), (6, 0, []), (7, 1, []), (8, 0, []), (9, 0, []), (10, 0, []), (11, 1, []), (12, 0, []), (13, 2, []), (14, 0, []), (15, 2, [])])), (3, (none, [(0, 0, []), (1, 0, []), (2, 0, []), (3, 0, []), (4, 0, []), (5, 0, []), (6, 0, []), (7, 1, []), (8, 0, []), (9, 0, []), (10, 0, []), (11, 1, []), (12, 2, []), (13, 0, [])])), (5, (none, [(0, 0, []), (1, 0, []), (2, 0, []), (3, 0, []), (4, 0, []), (5, 0, []), (6, 0, []), (7, 1, []), (8, 0, []), (9, 0, []), (10, 0, []), (11, 1, []), (12, 2, []), (13, 0, []), (14, 0, [])])), (8, (none, [(0, 0, []), (1, 0, []), (2, 0, []), (3, 0, []), (4, 0, []), (5, 0, []), (6, 0, []), (7, 1, []), (8, 0, []), (9, 0, []), (10, 0, []), (11, 1, []), (12, 0, []), (13, 2, []), (14, 0, []), (15, 2, [])])), (10, (none, [(0, 0, []), (1, 0, []), (2, 0, []), (3, 0, []), (4, 0, []), (5, 0, []), (6, 0, []), (7, 1, []), (8, 0, []), (9, 0, []), (10, 0, []), (11, 1, []), (12, 0, []), (13, 2, []), (14, 0, []), (15, 2, [])])), (13, (none, [(0, 0, []), (1, 0, []), (2, 0, []), (3, 0, []), (4, 0, []), (5, 0, []), (6, 0, []), (7, 1, []), (8, 0, []), (9, 0, []), (10, 0, []), (11, 1, []), (12, 2, []), (13, 0, [])])), (15, (none, [(0, 0, []), (1, 0, []), (2, 0, []), (3, 0, []), (4, 0, []), (5, 0, []), (6, 0, []), (7, 1, []), (8, 0, []), (9, 0, []), (10, 0, []), (11, 1, []), (12, 2, []), (13, 0, []), (14, 0, [])])), (18, (none, [(0, 0, []), (1, 0, []), (2, 0, []), (3, 0, []), (4, 0, []), (5, 0, []), (6, 0, []), (7, 1, []), (8, 0, []), (9, 0, []), (10, 0, []), (11, 1, []), (12, 0, []), (13, 2, []), (14, 0, []), (15, 2, [])])), (21, (none, [(0, 0, []), (1, 0, []), (2, 0, []), (3, 0, []), (4, 0, []), (5, 0, []), (6, 0, []), (7, 1, []), (8, 0, []), (9, 0, []), (10, 0, []), (11, 1, []), (12, 0, []), (13, 2, []), (14, 0, []), (15, 2, [])]))]), (118, [(3, (none, [(0, 0, []), (1, 0, []), (2, 0, []), (3, 0, []), (4, 0, []), (5, 0, []), (6, 0, []), (7, 0, []), (8, 0, []), (9, 0, []), (10, 1, []), (11, 0, []), (12, 0, []), (13, 0, []), (14, 0, []), (15, 0, []), (16, 0, []), (17, 1, []), (18, 2, []), (19, 0, [])])), (5, (none, [(0, 0, []), (1, 0, []), (2, 0, []), (3, 0, []), (4, 0, []), (5, 1, []), (6, 0, []), (7, 0, []), (8, 0, []), (9, 0, []), (10, 0, []), (11, 1, []), (12, 2, []), (13, 0, [])])), (6, (none, [(0, 0, []), (1, 0, []), (2, 0, []), (3, 0, []), (4, 0, []), (5, 0, []), (6, 0, []), (7, 0, []), (8, 0, []), (9, 0, []), (10, 0, []), (11, 0, []), (12, 0, []), (13, 1, []), (14, 0, []), (15, 0, []), (16, 0, []), (17, 0, []), (18, 0, []), (19, 1, []), (20, 0, []), (21, 2, []), (22, 0, []), (23, 2, [])]))]), (120, [(1, (none, [(0, 0, []), (1, 0, []), (2, 1, []), (3, 0, []), (4, 0, []), (5, 1, []), (6, 0, []), (7, 0, []), (8, 0, []), (9, 2, [])])), (2, (none, [(0, 0, []), (1, 0, []), (2, 1, []), (3, 0, []), (4, 0, []), (5, 1, []), (6, 0, []), (7, 0, []), (8, 0, []), (9, 2, [])])), (3, (none, [(0, 0, []), (1, 0, []), (2, 1, []), (3, 0, []), (4, 0, []), (5, 1, []), (6, 0, []), (7, 0, []), (8, 0, []), (9, 2, [])]))]), (127, [(7, (none, [(0, 0, []), (1, 0, []), (2, 0, []), (3, 0, []), (4, 0, []), (5, 0, []), (6, 0, []), (7, 0, []), (8, 0, []), (9, 0, []), (10, 0, []), (11, 0, []), (12, 2, []), (13, 0, []), (14, 2, [])])), (8, (none, [(0, 0, []), (1, 0, []), (2, 0, []), (3, 0, []), (4, 0, []), (5, 0, []), (6, 0, []), (7, 0, []), (8, 0, []), (9, 0, []), (10, 0, []), (11, 0, []), (12, 2, []), (13, 0, []), (14, 2, [])])), (9, (none, [(0, 0, []), (1, 0, []), (2, 0, []), (3, 0, []), (4, 0, []), (5, 0, []), (6, 0, []), (7, 0, []), (8, 0, []), (9, 0, []), (10, 0, []), (11, 0, []), (12, 2, []), (13, 0, []), (14, 2, [])])), (10, (none, [(0, 0, []), (1, 0, []), (2, 0, []), (3, 0, []), (4, 0, []), (5, 0, []), (6, 0, []), (7, 0, []), (8, 0, []), (9, 0, []), (10, 0, []), (11, 0, []), (12, 2, []), (13, 0, []), (14, 2, [])])), (17, (none, [(0, 0, []), (1, 0, []), (2, 0, []), (3, 0, []), (4, 0, []), (5, 0, []), (6, 0, []), (7, 0, []), (8, 0, []), (9, 0, []), (10, 0, []), (11, 0, []), (12, 2, []), (13, 0, []), (14, 2, [])])), (18, (none, [(0, 0, []), (1, 0, []), (2, 0, []), (3, 0, []), (4, 0, []), (5, 0, []), (6, 0, []), (7, 0, []), (8, 0, []), (9, 0, []), (10, 0, []), (11, 0, []), (12, 2, []), (13, 0, []), (14, 2, [])])), (23, (none, [(0, 0, []), (1, 0, []), (2, 0, []), (3, 0, []), (4, 0, []), (5, 0, []), (6, 0, []), (7, 0, []), (8, 0, []), (9, 0, []), (10, 0, []), (11, 0, []), (12, 2, []), (13, 0, []), (14, 2, [])]))]), (132, [(3, (none, [(0, 0, []), (1, 0, []), (2, 0, []), (3, 0, []), (4, 0, []), (5, 0, []), (6, 0, []), (7, 0, []), (8, 0, []), (9, 0, []), (10, 1, []), (11, 0, []), (12, 0, []), (13, 0, []), (14, 0, []), (15, 0, []), (16, 0, []), (17, 1, []), (18, 2, []), (19, 0, [])])), (5, (none, [(0, 0, []), (1, 0, []), (2, 0, []), (3, 0, []), (4, 0, []), (5, 1, []), (6, 0, []), (7, 0, []), (8, 0, []), (9, 0, []), (10, 0, []), (11, 1, []), (12, 2, []), (13, 0, [])])), (6, (none, [(0, 0, []), (1, 0, []), (2, 0, []), (3, 0, []), (4, 0, []), (5, 0, []), (6, 0, []), (7, 0, []), (8, 0, []), (9, 0, []), (10, 0, []), (11, 0, []), (12, 0, []), (13, 1, []), (14, 0, []), (15, 0, []), (16, 0, []), (17, 0, []), (18, 0, []), (19, 1, []), (20, 0, []), (21, 2, []), (22, 0, []), (23, 2, [])]))]), (136, [(1, (none, [(0, 0, []), (1, 0, []), (2, 0, []), (3, 1, []), (4, 0, []), (5, 0, []), (6, 0, []), (7, 1, []), (8, 2, [])]))]), (143, [(1, (none, [(0, 0, []), (1, 0, []), (2, 0, []), (3, 1, []), (4, 0, []), (5, 0, []), (6, 0, []), (7, 1, []), (8, 2, [])]))])]
def cfgN : Nat := 175
def skips : List Nat := [0, 1, 2, 39, 51, 55, 60, 61, 71, 72, 83, 84, 85, 87, 88, 89, 90, 91, 92, 93, 94, 95, 96, 97, 104, 105, 106, 107, 108, 109, 110, 111, 112, 113, 114, 115, 116, 117, 118, 119, 120, 121, 122, 123, 126, 127, 128, 129, 130, 131, 132, 133, 134, 135, 136, 137, 138, 139, 140, 141, 142, 143, 144, 145, 146, 147, 148, 149, 150, 151, 152, 153, 154, 155, 156, 157, 158, 159, 160, 161, 162, 163, 164, 165, 166, 167, 168, 169, 170, 171, 172, 173, 174]
def extsOf : List (Nat × (List D → List (List D) → List (Option Row) → Option (List D × List (List D) × List (Option Row)))) := [(51, extVal Go.Proofs.YtjmljfpnofjkeaaGreatDoor.l1V), (55, extVal Go.Proofs.YtjmljfpnofjkeaaGreatDoor.atoiV), (60, extSort 3), (61, extComp 3)]
def extNums : List Nat := [51, 55, 60, 61]
noncomputable def cfg : Cfg where
  ty := assoc tys
  fn := fun f => match Nat.blt f cfgN && !memN f skips && !memN f extNums with | true => Go.Proofs.Tryz.prog.funcs[f]? | false => none
  mode := fun f => (assoc modesOf f).getD []
  live := fun f r => ((assoc livesOf f).bind fun l => assoc l r).getD []
  out := fun f r => ((assoc outsOf f).bind fun l => assoc l r).getD []
  plan := fun f r => (assoc plansOf f).bind fun l => assoc l r
  ext := assoc extsOf
end Go.Den
namespace Go.Den
open Go
set_option linter.unusedVariables false
theorem assoc_mem {α : Type} {n : Nat} {x : α} : ∀ {l : List (Nat × α)}, assoc l n = some x → (n, x) ∈ l
  | [], h => by cases h
  | (a, y) :: l, h => by
    unfold assoc at h
    split at h
    · rename_i hb
      cases h
      rw [beq_eq.1 hb]
      exact List.mem_cons_self
    · exact List.mem_cons_of_mem _ (assoc_mem h)
noncomputable def tysGood : Bool := tys.all fun p => tyIs Go.Proofs.Tryz.prog (assoc tys) p.1 p.2
theorem tys_good : tysGood = true := by kernel_rfl
theorem cfg_ty : TyOk Go.Proofs.Tryz.prog cfg.ty := fun t i h => (List.all_eq_true.1 tys_good) (t, i) (assoc_mem h)
def fnGood (C : Cfg) (f : Nat) : Bool :=
  match C.fn f with
  | some fn => !(fn.name == "runtime.NumGoroutine") && (match fn.body with | some c => codeOK fn.ntmps c && drawsOK C.ty fn.ntmps (C.plan f) c | none => true)
  | none => true
noncomputable def fnsGood : Bool := (List.range cfgN).all (fnGood cfg)
theorem fns_good : fnsGood = true := by kernel_rfl
theorem follows_any : Go.Proofs.Tryz.prog.follows .mixedOrders = true := by kernel_rfl
theorem cfg_fn {f : Nat} {fn : Func} (h : cfg.fn f = some fn) : FnOK Go.Proofs.Tryz.prog cfg f fn := by
  have hlt : f < cfgN ∧ Go.Proofs.Tryz.prog.funcs[f]? = some fn := by
    unfold cfg at h
    simp only at h
    split at h
    · rename_i hb
      simp only [Bool.and_eq_true] at hb
      have : f + 1 ≤ cfgN := by simpa [Nat.blt] using hb.1.1
      exact ⟨by omega, h⟩
    · cases h
  have hg := (List.all_eq_true.1 fns_good) f (List.mem_range.2 hlt.1)
  unfold fnGood at hg
  rw [h] at hg
  simp only [Bool.and_eq_true, Bool.not_eq_true'] at hg
  refine ⟨hlt.2, hg.1, fun c hc => ?_, fun c hc call _ => ?_⟩
  · have := hg.2
    rw [hc] at this
    simp only [Bool.and_eq_true] at this
    exact this.1
  · have := hg.2
    rw [hc] at this
    simp only [Bool.and_eq_true] at this
    exact draws_sound (E := ⟨cfg.ty, cfg.mode, fn.ntmps, cfg.live f, cfg.out f, cfg.plan f, call⟩) follows_any c this.1 this.2
theorem cfg_e {f : Nat} {g : List D → List (List D) → List (Option Row) → Option (List D × List (List D) × List (Option Row))} (h : cfg.ext f = some g) : ExtOK Go.Proofs.Tryz.prog cfg.ty f g := by
  have hm := assoc_mem (show assoc extsOf f = some g from h)
  simp only [extsOf, List.mem_cons, Prod.mk.injEq, List.not_mem_nil, or_false] at hm
  rcases hm with ⟨rfl, rfl⟩ | ⟨rfl, rfl⟩ | ⟨rfl, rfl⟩ | ⟨rfl, rfl⟩
  · exact extVal_of (fn := Go.Proofs.Tryz.f51) (by kernel_rfl) (by kernel_rfl) (by kernel_rfl) Go.Proofs.YtjmljfpnofjkeaaGreatDoor.l1_calls
  · exact extVal_of (fn := Go.Proofs.Tryz.f55) (by kernel_rfl) (by kernel_rfl) (by kernel_rfl) Go.Proofs.YtjmljfpnofjkeaaGreatDoor.atoi_calls
  · exact sort_ok (fn := Go.Proofs.Tryz.f60) (by kernel_rfl) (by kernel_rfl) (by kernel_rfl) (by kernel_rfl) (fun blk off cap zs w h1 h2 h3 => Go.Proofs.Tryz.slices_Sort_int blk off cap zs w h1 h2 h3) (fun p cap w => Go.Proofs.Tryz.slices_Sort_int_none p cap w)
  · exact comp_ok (fn := Go.Proofs.Tryz.f61) (by kernel_rfl) (by kernel_rfl) (by kernel_rfl) (by kernel_rfl) (fun blk off cap zs w h1 h2 h3 => Go.Proofs.Tryz.slices_Compact_int blk off cap zs w h1 h2 h3) (fun p cap w => Go.Proofs.Tryz.slices_Compact_int_empty p cap w)
theorem cfg_ok : CfgOK Go.Proofs.Tryz.prog cfg := cfgOK_of cfg_ty (fun f fn _ h => cfg_fn h) (fun f g h => cfg_e h)
structure Says (P : Program) (C : Cfg) : Prop where mk ::
  out : ∀ k, CallOK P C.ty (den C k)
theorem says_of {P : Program} {C : Cfg} (h : CfgOK P C) : Says P C := ⟨den_sound h⟩
theorem den_true : Says Go.Proofs.Tryz.prog cfg := @says_of _ _ cfg_ok
end Go.Den
namespace Go.Den
open Go Go.RowKit Go.ChangeShapes Go.WideShapes Go.Deep
set_option linter.unusedVariables false
/-- Data of a type. -/
inductive WT (ty : Nat → Option TI) : Nat → Dat → Prop where
  | int {t : Nat} {i : TI} {k : IntKind} {n : Int} (ht : ty t = some i) (hk : i.kind = .int k) (h : (Lit.int k n).wf = true) : WT ty t (.val (.int k n))
  | bool {t : Nat} {i : TI} {b : Bool} (ht : ty t = some i) (hk : i.kind = .bool) : WT ty t (.val (.bool b))
  | str {t : Nat} {i : TI} {s : ByteArray} (ht : ty t = some i) (hk : i.kind = .str) (h : s.size ≤ maxLen) : WT ty t (.val (.string s))
  | lst {t : Nat} {i : TI} {e : Nat} {es : List Dat} (ht : ty t = some i) (hk : i.kind = .slice e) (hl : es.length ≤ maxLen) (h : ∀ d ∈ es, WT ty e d) : WT ty t (.lst false es)
  | agg {t : Nat} {i : TI} {cs : List Dat} (ht : ty t = some i) (hk : i.kind = .struct) (hl : cs.length = i.fs.length) (h : ∀ (j : Nat) (f : Nat × Nat) (d : Dat), i.fs[j]? = some f → cs[j]? = some d → WT ty f.2 d) : WT ty t (.agg cs)
/-- Types of which arguments are read: numbers, bools, strings, structs of one-cell fields, slices. -/
def plainTy (ty : Nat → Option TI) : Nat → Nat → Bool
  | 0, _ => false
  | n + 1, t => match ty t with
    | none => false
    | some i => match i.kind with
      | .int _ => true
      | .bool => true
      | .str => true
      | .slice e => plainTy ty n e && (match ty e with | some j => Nat.blt 0 j.sz | none => false)
      | .struct => Nat.beq i.sz i.fs.length && (List.range i.fs.length).all fun j => match i.fs[j]? with
        | some f => Nat.beq f.1 j && (plainTy ty n f.2 && (match ty f.2 with | some k => Nat.beq k.sz 1 && !k.agg | none => false))
        | none => false
      | .other => false
theorem cellsOf_eq {P : Program} {ty : Nat → Option TI} {t : Nat} {i : TI} {inf : TypeInfo} {d : TypeDesc} {z : Value} (h : TyFacts P ty t i inf d z) : P.cellsOf t = i.sz := by
  unfold Program.cellsOf
  rw [h.info]
  simpa using h.size
theorem spot_none {w : World} {a : Addr} {v : Value} (h : w.cell? a = some v) : a.spot = none := by
  unfold World.cell? at h
  split at h
  · split at h
    · cases h
    · rename_i hs
      simpa using hs
  · cases h
theorem addr_lit {a : Addr} (h : a.spot = none) : a = ⟨a.block, a.off, none⟩ := by cases a; simp at h; subst h; rfl
/-- What reads as data of a type stands as data of that type. -/
theorem rd_dat {P : Program} {ty : Nat → Option TI} (hty : TyOk P ty) : ∀ (n t : Nat), plainTy ty n t = true → ∀ {H : Type} (enc : TypeId × Value → H) (w : World) (base : Nat) (spare : Nat → Bool) (held : Bool) (fuel : Nat) (cs : List Value) (x : DataW H × List MemPlace),
    DataW.trod enc P w base spare held fuel t cs = some x → ∃ d, Rep (fun _ => .set) w d cs ∧ WT ty t d
  | 0, t, hp => by cases hp
  | n + 1, t, hp => by
    intro enc w base spare held fuel cs x h
    unfold plainTy at hp
    split at hp
    · cases hp
    · rename_i i hi
      obtain ⟨inf, de, z, hf⟩ := hty.facts hi
      have hkk := hf.kind
      split at hp
      · rename_i k hk
        have hu : P.underlying t = some (.int k) := by
          rw [hf.und]
          cases de <;> simp [kindIs, hk] at hkk ⊢
          exact hkk
        obtain ⟨m, rfl, _, hw⟩ := DataW.trod_int hu h
        exact ⟨.val (.int k m), .val rfl, .int hi hk hw⟩
      · rename_i hk
        have hu : P.underlying t = some .bool := by
          rw [hf.und]
          cases de <;> simp [kindIs, hk] at hkk ⊢
        obtain ⟨m, rfl, _⟩ := DataW.trod_bool hu h
        exact ⟨.val (.bool m), .val rfl, .bool hi hk⟩
      · rename_i hk
        have hu : P.underlying t = some .string := by
          rw [hf.und]
          cases de <;> simp [kindIs, hk] at hkk ⊢
        obtain ⟨m, rfl, _, hs⟩ := DataW.trod_string hu h
        exact ⟨.val (.string m), .val rfl, .str hi hk hs⟩
      · rename_i e hk
        simp only [Bool.and_eq_true] at hp
        obtain ⟨hp1, hp2⟩ := hp
        have hu : P.underlying t = some (.slice e) := by
          rw [hf.und]
          cases de <;> simp [kindIs, hk] at hkk ⊢
          exact hkk.1
        cases hj : ty e with
        | none => rw [hj] at hp2; cases hp2
        | some j =>
        rw [hj] at hp2
        have hsz : 0 < j.sz := by
          have : 0 + 1 ≤ j.sz := by simpa [Nat.blt] using hp2
          omega
        obtain ⟨_, _, _, hfe⟩ := hty.facts hj
        have hce := cellsOf_eq hfe
        rcases open_slice hu h with ⟨rfl, _⟩ | ⟨a, len, cap, m, n', D, Pl, rfl, _, hl, hm, hmm, _, hx⟩
        · exact ⟨.lst false [], .nil, .lst hi hk (Nat.zero_le _) (fun d hd => by cases hd)⟩
        · have hlm : len ≤ m := by rw [hmm]; split <;> omega
          have hex : ∀ k, k < len → ∃ p : Dat × List Value, Rep (fun _ => .set) w p.1 p.2 ∧ WT ty e p.1 ∧ p.2.length = j.sz ∧ ∀ i u, p.2[i]? = some u → w.cell? (a.add (k * j.sz + i)) = some u := by
            intro k hlt
            obtain ⟨cs', hc, ht'⟩ := hx k (by omega)
            obtain ⟨d, hr, hw⟩ := rd_dat hty n e hp1 enc w base spare held n' cs' _ ht'
            obtain ⟨_, hcl, hat⟩ := World.cells?_some hc
            rw [hce] at hcl hat
            refine ⟨(d, cs'), hr, hw, hcl, fun i u hu => ?_⟩
            have hi2 : i < j.sz := by rw [← hcl]; exact (List.getElem?_eq_some_iff.1 hu).1
            have := hat i hi2
            rw [Go.Deep.add_add] at this
            rw [this, hu]
          cases len with
          | zero => exact ⟨.lst false [], .nil, .lst hi hk (Nat.zero_le _) (fun d hd => by cases hd)⟩
          | succ len =>
            obtain ⟨p0, q1, q2, q3, q4⟩ := hex 0 (by omega)
            haveI : Inhabited (Dat × List Value) := ⟨p0⟩
            obtain ⟨f, hfx⟩ := choose_lt hex
            have hpos : 0 < p0.2.length := by omega
            have h0 := q4 0 _ (List.getElem?_eq_getElem hpos)
            have hspot : a.spot = none := by
              have := spot_none h0
              simpa [Addr.add] using this
            have hal := addr_lit hspot
            have hlt := World.block_lt_of_cell? w _ h0
            have hblk : a.block < w.heap.size := by simpa [Addr.add] using hlt
            refine ⟨.lst false ((List.range (len + 1)).map fun k => (f k).1), ?_, .lst hi hk (by simp; omega) ?_⟩
            · have hlen : ((List.range (len + 1)).map fun k => (f k).1).length = len + 1 := by simp
              have hat : ∀ (k : Nat) (d : Dat), ((List.range (len + 1)).map fun k => (f k).1)[k]? = some d → k < len + 1 ∧ d = (f k).1 := fun k d hd => by
                have hk2 : k < len + 1 := by
                  have := (List.getElem?_eq_some_iff.1 hd).1
                  simpa using this
                rw [List.getElem?_map, List.getElem?_range hk2] at hd
                exact ⟨hk2, by simpa using hd.symm⟩
              have hres := Rep.lst (ρ := fun _ => Role.set) (W := w) (b := false) (es := (List.range (len + 1)).map fun k => (f k).1) (g := a.block) (o := a.off) (c := cap) (sz := j.sz) (fun k => (f k).2) (by rw [hlen]; exact hl) hm (.inl rfl) hblk
                (fun k d hd => (hfx k (hat k d hd).1).2.2.1) (fun k d hd i u hu => by
                  have := (hfx k (hat k d hd).1).2.2.2 i u hu
                  rw [hal, Addr.add_lit, ← Nat.add_assoc] at this
                  exact this) (fun k d hd => by
                  obtain ⟨h1, rfl⟩ := hat k d hd
                  exact (hfx k h1).1)
              rw [hlen] at hres
              rw [hal]
              exact hres
            · intro d hd
              obtain ⟨k, hk1, rfl⟩ := List.mem_map.1 hd
              exact (hfx k (by simpa using hk1)).2.1
      · rename_i hk
        have ha : i.agg = true := by unfold TI.agg; rw [hk]
        simp only [Bool.and_eq_true] at hp
        obtain ⟨hsz, hall⟩ := hp
        have hsz := Nat.eq_of_beq_eq_true hsz
        obtain ⟨fs, h1, h2, h3⟩ := hf.struct ha
        obtain ⟨xs, n', _, _, hl, hlen, hg⟩ := DataW.trod_struct h1 h
        rw [cellsOf_eq hf, hsz] at hl
        have hone : ∀ (j : Nat) (f : Nat × Nat), i.fs[j]? = some f → f.1 = j ∧ plainTy ty n f.2 = true ∧ ∃ k, ty f.2 = some k ∧ k.sz = 1 ∧ k.agg = false := fun j f hj => by
          have hjl := (List.getElem?_eq_some_iff.1 hj).1
          have := (List.all_eq_true.1 hall) j (List.mem_range.2 hjl)
          rw [hj] at this
          simp only [Bool.and_eq_true] at this
          obtain ⟨a1, a2, a3⟩ := this
          refine ⟨Nat.eq_of_beq_eq_true a1, a2, ?_⟩
          cases hk2 : ty f.2 with
          | none => rw [hk2] at a3; cases a3
          | some k =>
            rw [hk2] at a3
            simp only [Bool.and_eq_true, Bool.not_eq_true'] at a3
            exact ⟨k, rfl, Nat.eq_of_beq_eq_true a3.1, a3.2⟩
        have hex : ∀ k, k < cs.length → ∃ d : Dat, ∃ v f, cs[k]? = some v ∧ i.fs[k]? = some f ∧ d.cells = [d] ∧ Rep (fun _ => .set) w d [v] ∧ WT ty f.2 d := by
          intro k hkl
          obtain ⟨ff, hfk⟩ : ∃ ff, i.fs[k]? = some ff := ⟨_, List.getElem?_eq_getElem (show k < i.fs.length by omega)⟩
          have hck := List.getElem?_eq_getElem hkl
          obtain ⟨o1, o2, kk, o3, o4, o5⟩ := hone k _ hfk
          obtain ⟨_, _, _, hfk2⟩ := hty.facts o3
          have hfl : ∃ fl, fs[k]? = some fl ∧ fl.offset = k ∧ fl.type = ff.2 := by
            have h4 := hfk
            rw [← h2, List.getElem?_map] at h4
            simp only [Option.map_eq_some_iff] at h4
            obtain ⟨fl, h5, h6⟩ := h4
            refine ⟨fl, by simpa using h5, ?_, ?_⟩
            · rw [← o1, ← h6]
            · rw [← h6]
          obtain ⟨fl, h5, h6, h7⟩ := hfl
          have h8 := hg k fl h5
          have hxk : ∃ y, xs[k]? = some y := ⟨_, List.getElem?_eq_getElem (by have := (Array.getElem?_eq_some_iff.1 h5).1; omega)⟩
          obtain ⟨y, hy⟩ := hxk
          rw [hy, h6, h7, cellsOf_eq hfk2, o4] at h8
          have h9 : (cs.drop k).take 1 = [cs[k]] := by
            rw [List.drop_eq_getElem_cons hkl]; rfl
          rw [h9] at h8
          obtain ⟨d, hr, hw⟩ := rd_dat hty n _ o2 enc w base spare held n' _ _ h8
          refine ⟨d, cs[k], _, hck, hfk, ?_, hr, hw⟩
          cases hw with
          | agg ht' hk' _ _ =>
            rw [o3] at ht'
            cases ht'
            unfold TI.agg at o5
            rw [hk'] at o5
            cases o5
          | _ => rfl
        haveI : Inhabited Dat := ⟨.val (.bool false)⟩
        obtain ⟨f, hfx⟩ := choose_lt hex
        have hat : ∀ (k : Nat) (d : Dat), ((List.range cs.length).map f)[k]? = some d → k < cs.length ∧ d = f k := fun k d hd => by
          have hk2 : k < cs.length := by
            have := (List.getElem?_eq_some_iff.1 hd).1
            simpa using this
          rw [List.getElem?_map, List.getElem?_range hk2] at hd
          exact ⟨hk2, by simpa using hd.symm⟩
        refine ⟨.agg ((List.range cs.length).map f), .agg (by simp) (fun k d v hd hv => ?_) (fun k d v hd hv => ?_), .agg hi hk (by simp; omega) (fun k ff d hff hd => ?_)⟩
        · obtain ⟨h4, rfl⟩ := hat k d hd
          obtain ⟨v', f', e1, e2, e3, e4, e5⟩ := hfx k h4
          exact e3
        · obtain ⟨h4, rfl⟩ := hat k d hd
          obtain ⟨v', f', e1, e2, e3, e4, e5⟩ := hfx k h4
          rw [hv] at e1
          cases e1
          exact e4
        · obtain ⟨h4, rfl⟩ := hat k d hd
          obtain ⟨v', f', e1, e2, e3, e4, e5⟩ := hfx k h4
          rw [hff] at e2
          cases e2
          exact e5
      · cases hp
end Go.Den
namespace Go.Den
open Go Go.RowKit Go.ChangeShapes Go.WideShapes
open Go.ChangeMaps (open_string shut_string)
set_option linter.unusedVariables false
/-- An argument as data. -/
theorem arg_dat {P : Program} {ty : Nat → Option TI} (hty : TyOk P ty) {n t : Nat} (hp : plainTy ty n t = true) {H : Type} {enc : TypeId × Value → H} {w : World} {base b0 : Nat} {spare : Nat → Bool} {held : Bool} {r : Reach} {v : Value} {y : DataW H} {p : List MemPlace}
    (hv : Value.okWide P w r b0 t v) (h : DataW.Trod enc P w base spare held t v y p) : ∃ d cv, Rep (fun _ => .set) w d cv ∧ IsV d cv v ∧ WT ty t d := by
  obtain ⟨fuel, hf⟩ := id h
  obtain ⟨d, hr, hw⟩ := rd_dat hty n t hp enc w base spare held fuel _ _ hf
  refine ⟨d, v.cells.toList, hr, ?_, hw⟩
  cases hw with
  | int ht hk _ =>
    rename_i i k m _
    obtain ⟨_, de, _, hfa⟩ := hty.facts ht
    have hkk := hfa.kind
    have hu : P.underlying t = some (.int k) := by
      rw [hfa.und]
      cases de <;> simp [kindIs, hk] at hkk ⊢
      exact hkk
    obtain ⟨a, rfl, _⟩ := open_int hu hv h
    rfl
  | bool ht hk =>
    obtain ⟨_, de, _, hfa⟩ := hty.facts ht
    have hkk := hfa.kind
    have hu : P.underlying t = some .bool := by
      rw [hfa.und]
      cases de <;> simp [kindIs, hk] at hkk ⊢
    obtain ⟨a, rfl, _⟩ := open_bool hu hv h
    rfl
  | str ht hk _ =>
    obtain ⟨_, de, _, hfa⟩ := hty.facts ht
    have hkk := hfa.kind
    have hu : P.underlying t = some .string := by
      rw [hfa.und]
      cases de <;> simp [kindIs, hk] at hkk ⊢
    obtain ⟨a, rfl, _⟩ := open_string hu hv h
    rfl
  | lst ht hk _ _ =>
    rename_i i e es _ _
    obtain ⟨_, de, _, hfa⟩ := hty.facts ht
    have hkk := hfa.kind
    have hu : P.underlying t = some (.slice e) := by
      rw [hfa.und]
      cases de <;> simp [kindIs, hk] at hkk ⊢
      exact hkk.1
    obtain ⟨a, len, cap, rfl⟩ := okWide_slice hu hv
    rfl
  | agg ht hk _ _ =>
    rename_i i cs _ _
    obtain ⟨_, _, _, hfa⟩ := hty.facts ht
    have ha : i.agg = true := by unfold TI.agg; rw [hk]
    obtain ⟨fs, h1, _, _⟩ := hfa.struct ha
    obtain ⟨xs, rfl, _⟩ := okWide_struct h1 hv
    show Value.agg xs = .agg (Value.cells (.agg xs)).toList.toArray
    simp [Value.cells]
/-- A law, by den. -/
theorem law_calls {P : Program} {C : Cfg} {f : Nat} {fn : Func} {vals : Array Value} {ds : List Dat} {W : World} {b : Bool} (hS : ∀ k, CallOK P C.ty (den C k)) (hF : FnOK P C f fn) (hb : fn.body.isSome = true) (hl : vals.size = ds.length)
    (hd : ∀ (j : Nat) (d : Dat) (v : Value), ds[j]? = some d → vals[j]? = some v → ∃ cv, Rep (fun _ => .set) W d cv ∧ IsV d cv v) (h : ∃ k, den C k f (ds.map .dat) [] [] = some ([.dat (.val (.bool b))], [], [])) :
    Calls P f vals W fun e W' => e = .returned (.bool b) ∧ Below W.heap.size W W' := by
  obtain ⟨k, hk⟩ := h
  let c : Cx := { ty := C.ty, ρ := fun _ => .set, β := fun _ => 0, H := fun _ => undef, W := W, s := start (ds.map .dat) [] [] }
  have hsim : Sim c vals := by
    refine ⟨fun y => ?_, fun r cs hb => ?_, fun j r hg => ?_⟩
    · show VR c (.slot y []) ((ds.map .dat).getD y .undef) (vals.getD y undef)
      by_cases hy : y < ds.length
      · have h1 := List.getElem?_eq_getElem hy
        have h2 : vals[y]? = some (vals[y]'(by omega)) := Array.getElem?_eq_getElem (by omega)
        have e1 : (ds.map D.dat).getD y .undef = .dat ds[y] := by simp [List.getD_eq_getElem?_getD, hy]
        have e2 : vals.getD y undef = vals[y]'(by omega) := by simp [Array.getD, show y < vals.size by omega]
        rw [e1, e2]
        exact hd y _ _ h1 h2
      · have e1 : (ds.map D.dat).getD y .undef = .undef := by simp [List.getD_eq_getElem?_getD, hy]
        have e2 : vals.getD y undef = undef := by simp [Array.getD, show ¬ y < vals.size by omega]
        rw [e1, e2]
        rfl
    · cases r with
      | loc n => cases hb
      | up n =>
        have hb' : ([] : List (List D))[n]? = some cs := hb
        simp at hb'
    · have hg' : (([] : List (Option Row))[j]?).bind id = some r := hg
      simp at hg'
  have hr := hS k f _ _ _ _ _ _ hk c vals rfl rfl (by simpa using hl) hsim
  have hent : (callFunc f vals).run P W = .ok (.enter f vals) W := by
    have h1 : fn.name ≠ "runtime.NumGoroutine" := by simpa using hF.name
    obtain ⟨code, hbd⟩ := Option.isSome_iff_exists.1 hb
    simp [callFunc, hF.there, h1, hbd, mark]
  unfold Reaches at hr
  have hent' : (callFunc f vals).run P c.W = .ok (.enter f vals) W := hent
  rw [hent'] at hr
  refine Calls.mono hr fun e W' he => ?_
  cases e with
  | returned v =>
    obtain ⟨c', rfl, ha⟩ := he
    refine ⟨?_, ha.ext.os, ha.ext.tape, ha.ext.output, ha.ext.size, fun g hg => (ha.ext.keep g hg trivial).2⟩
    have hv := ha.sim.slots 0
    rw [ha.s] at hv
    have hv' : VR c' (.slot 0 []) (.dat (.val (.bool b))) v := hv
    rw [(vr_val hv').1]
  | _ => exact he.elim
end Go.Den
