/- Small plain words: 'from some number of rounds on' (Ev), the wrap of a number that is in range, a list read by an Int index. -/
import Derived.Test.YtpjikgeglhjehaaWMore
namespace Go.Proofs.Ytpjikgeglhjehaa.Pl
open Go.RowKit Go.Proofs.YtpjikgeglhjehaaW.PrintWords Go.Proofs.YtpjikgeglhjehaaW.PrintLast
set_option linter.unusedVariables false

theorem w64 {x : Int} (h0 : -9223372036854775808 ≤ x) (h1 : x ≤ 9223372036854775807) : wrap64 x = x := by unfold wrap64; omega
theorem Ev.succ {α : Type} {g : Nat → Option α} {r : α} (h : Ev (fun k => g (k + 1)) r) : Ev g r := by
  obtain ⟨K, h⟩ := h
  refine ⟨K + 1, fun n hn => ?_⟩
  obtain ⟨m, rfl⟩ : ∃ m, n = m + 1 := ⟨n - 1, by omega⟩
  exact h m (by omega)
theorem Ev.const {α : Type} {o : Option α} {r : α} (h : o = some r) : Ev (fun _ => o) r := ⟨0, fun _ _ => h⟩
theorem Ev.bnd {α β : Type} {g : Nat → Option α} {f : Nat → α → Option β} (a : α) {r : β} (h : Ev g a) (k : Ev (fun n => f n a) r) : Ev (fun n => (g n).bind (f n)) r := Ev.bind h k
theorem Ev.eq {α : Type} {g : Nat → Option α} {r r' : α} (h : Ev g r) (e : r = r') : Ev g r' := e ▸ h
/-- Two tellings of one thing are one. -/
theorem Ev.uniq {α : Type} {g : Nat → Option α} {r r' : α} (h : Ev g r) (h' : Ev g r') : r = r' := by
  obtain ⟨K, h⟩ := h
  obtain ⟨K', h'⟩ := h'
  have h1 := h (max K K') (by omega)
  rw [h' (max K K') (by omega)] at h1
  exact (Option.some.inj h1).symm
theorem drop_rd (l : List Int) (i : Nat) (h : i < l.length) : l.drop i = rd l (i : Int) :: l.drop (i + 1) := by
  rw [List.drop_eq_getElem_cons h]
  simp [rd, List.getD_eq_getElem?_getD, List.getElem?_eq_getElem h]
theorem drop_getD {α : Type} (l : List α) (z : α) (i : Nat) (h : i < l.length) : l.drop i = l.getD (i : Int).toNat z :: l.drop (i + 1) := by
  rw [List.drop_eq_getElem_cons h]
  simp [List.getD_eq_getElem?_getD, List.getElem?_eq_getElem h]
theorem rd_mem (l : List Int) (i : Int) (h0 : 0 ≤ i) (h : i < (l.length : Int)) : rd l i ∈ l := by
  have : i.toNat < l.length := by omega
  simp [rd, List.getD_eq_getElem?_getD, List.getElem?_eq_getElem this]
theorem getD_mem {α : Type} (l : List α) (z : α) (i : Int) (h0 : 0 ≤ i) (h : i < (l.length : Int)) : l.getD i.toNat z ∈ l := by
  have : i.toNat < l.length := by omega
  simp [List.getD_eq_getElem?_getD, List.getElem?_eq_getElem this]
/-- A row that is filled from the front: what is filled, and what is as it was. -/
theorem set_fill {α : Type} (a b : List α) (x y : α) : (a ++ y :: b).set a.length x = (a ++ [x]) ++ b := by simp
theorem fill_set {β : Type} (m : List β) (z : β) (i d : Nat) (x : β) (h : i + (d + 1) = m.length) (hx : m[i]? = some x) : (m.take i ++ List.replicate (d + 1) z).set i x = m.take (i + 1) ++ List.replicate d z := by
  have hl : (m.take i).length = i := by simp; omega
  rw [List.replicate_succ]
  have := set_fill (m.take i) (List.replicate d z) x z
  rw [hl] at this
  rw [this]
  congr 1
  rw [List.take_add_one, hx]
  rfl
theorem len_fill {β : Type} (m : List β) (z : β) (i d : Nat) (h : i + d = m.length) : ((m.take i ++ List.replicate d z).length : Int) = (m.length : Int) := by simp; omega
theorem rd_some (l : List Int) (i : Nat) (h : i < l.length) : l[i]? = some (rd l (i : Int)) := by
  simp [rd, List.getD_eq_getElem?_getD, List.getElem?_eq_getElem h]
theorem getD_some {α : Type} (l : List α) (z : α) (i : Nat) (h : i < l.length) : l[i]? = some (l.getD (i : Int).toNat z) := by
  simp [List.getD_eq_getElem?_getD, List.getElem?_eq_getElem h]
end Go.Proofs.Ytpjikgeglhjehaa.Pl
