/- Merged out of: DZ D16 D17 D18 D19 D20 D21 D22 D23 DN (prune.py, a program of this work's). -/
import Derived.Lib.AppendStr
import Derived.Maps.AppendAt
import Derived.Test.YtmoocdlfclhgcaaDoorZc2
import Derived.Laws.CopyRow
set_option linter.unusedVariables false
set_option linter.unusedSimpArgs false
set_option linter.unnecessarySimpa false
namespace Go.Den
open Go
set_option linter.unusedVariables false
section
variable {P : Program}
theorem zjp (z : Array Value) (n : Nat) : (Builtin.zeroCells z n).toList.length = n * z.size := by
 rw [Array.length_toList, size_zeroCells]
theorem zh4 {w : World} {t u ty e : TypeId} {i : TypeInfo} {z : Value} {k : IntKind} (ht : P.underlying t = some (.slice e)) (hu : P.underlying u = some (.int k)) (hi : P.info? e = some i) (hz : i.zero = some z) (hzs : z.cells.size = i.size) (hs0 : 0 < i.size)
 (hon : ∀ m, ∀ u ∈ (Builtin.zeroCells z.cells m).toList, u.oneCell' = true)
 {v : Value} {n : Nat} {xs : List Value} (hown : w.ownsRow 0 e i.size v n xs) (m : Nat) (hl : n + m ≤ 2147483648) (hb : i.bytes ≤ 65536) :
 ∃ v' w', (Builtin.append_ #[t, u] ty #[v, .int .i64 (m : Int)]).run P w = .ok v' w' ∧ w'.ownsRow 0 e i.size v' (n + m) (xs ++ (Builtin.zeroCells z.cells m).toList) ∧ w.grownBy w' v.ownBlock ∧ (v'.ownBlock = v.ownBlock ∨ v'.ownBlock = some w.heap.size) := by
 have hnl : (Builtin.zeroCells z.cells m).toList.length = m * i.size := by rw [zjp, hzs]
 have h63 : n + m ≤ maxLen := by simp only [maxLen]; omega
 have hwr : IntKind.i64.wrap (m : Int) = (m : Int) := by
  simp [IntKind.wrap, IntKind.bits, IntKind.signed]; omega
 have hbytes : (n + m) * i.bytes ≤ 140737488355328 := by
  calc (n + m) * i.bytes ≤ 2147483648 * 65536 := Nat.mul_le_mul hl hb
   _ = 140737488355328 := by decide
 have hmb : ¬ ((m : Int) * (i.bytes : Int) > 281474976710656) := by
  have h1 : m * i.bytes ≤ (n + m) * i.bytes := Nat.mul_le_mul_right _ (by omega)
  have h2 : ((m * i.bytes : Nat) : Int) = (m : Int) * (i.bytes : Int) := by simp
  omega
 have hm0 : ¬ ((m : Int) < 0) := by omega
 have hzi : (if m * i.size = 0 then (pure #[] : Sem (Array Value)) else pure (Builtin.zeroCells z.cells m)) = pure (Builtin.zeroCells z.cells m) := by
  split
  · rename_i h0
    have : Builtin.zeroCells z.cells m = #[] := by
     apply Array.eq_empty_of_size_eq_zero
     rw [size_zeroCells, hzs]; exact h0
    rw [this]
  · rfl
 generalize hnews : Builtin.zeroCells z.cells m = news at *
 have hlen : (xs ++ news.toList).length = (n + m) * i.size := by rw [List.length_append, hown.1, hnl, Nat.add_mul]
 have grown : ∀ (old : Nat), old < n + m → ∀ (row : Option Nat),
  (w.drew.alloc (.cells (xs.toArray ++ news ++ Builtin.zeroCells z.cells (grownCap w (n + m) old e - (n + m))) e)).ownsRow 0 e i.size
   (.slice (some ⟨w.heap.size, 0, none⟩) (n + m) (grownCap w (n + m) old e)) (n + m) (xs ++ news.toList) ∧
  w.grownBy (w.drew.alloc (.cells (xs.toArray ++ news ++ Builtin.zeroCells z.cells (grownCap w (n + m) old e - (n + m))) e)) row := by
  intro old ho row
  have hge := grownCap_ge w (n + m) old e
  have hcm : grownCap w (n + m) old e ≤ maxLen := grownCap_le_maxLen w (n + m) old e h63
  refine ⟨⟨hlen, .inr ⟨w.heap.size, _, _, rfl, Nat.zero_le _, heap_alloc_new w.drew _, hge, hcm, ?_, ?_⟩⟩, ⟨rfl, rfl, rfl, by simp, fun k hk _ => by first | exact heap_alloc_old w.drew _ k hk | exact heap_alloc_old w.drew _ hk⟩⟩
  · have hns : news.size = m * i.size := by rw [← hnl, Array.length_toList]
    simp only [Array.size_append, List.size_toArray, size_zeroCells, hzs, hown.1, hns, ← Nat.add_mul]
    congr 1
    omega
  · simp only [Array.toList_append, List.append_assoc]
    rw [← List.append_assoc, ← hlen]
    exact List.take_left
 have hgrow : ∀ (base : Option Addr) (cap : Nat), cap < n + m → (∀ w' : World, w' = w.drew → (Builtin.firstCells i.size n (.slice base n cap)).run P w' = .ok xs.toArray w') →
  (Builtin.append_ #[t, u] ty #[.slice base n cap, .int .i64 (m : Int)]).run P w = .ok (.slice (some ⟨w.heap.size, 0, none⟩) (n + m) (grownCap w (n + m) cap e)) (w.drew.alloc (.cells (xs.toArray ++ news ++ Builtin.zeroCells z.cells (grownCap w (n + m) cap e - (n + m))) e)) := by
  intro base cap hc hfo
  have hfit := growslice_fits (old := cap) hc hbytes
  have hn : ¬ (n + m ≤ cap) := by omega
  have h63' : ¬ (9223372036854775807 < ((n : Int) + (m : Int))) := by omega
  have h48' : ¬ (281474976710656 < Builtin.nextslicecap (n + m) cap * i.bytes) := by omega
  have hfo' := hfo w.drew rfl
  by_cases h0 : m * i.size = 0
  · have hne : news = #[] := Array.eq_empty_of_size_eq_zero (by have := hnl; rw [Array.length_toList] at this; rw [this, h0])
    simp [Builtin.append_, run_underlying ht, run_underlying hu, sizeOf, typeInfo, zeroValue, hi, hz, asInt, asIntOf, hwr, hm0, hmb, hn, h63', h48', Question.forced, hfo', newRow, grownCap, h0, hne]
  · simp [Builtin.append_, run_underlying ht, run_underlying hu, sizeOf, typeInfo, zeroValue, hi, hz, asInt, asIntOf, hwr, hm0, hmb, hn, h63', h48', Question.forced, hfo', newRow, grownCap, h0, hnews]
 rcases hown.2 with ⟨rfl, rfl⟩ | ⟨g, cap, cur, rfl, hbg, hg, hnc, hcm, hcs, htake⟩
 · have hx : xs = [] := List.eq_nil_of_length_eq_zero (by simpa using hown.1)
   subst hx
   by_cases hm : m = 0
   · subst hm
     have hn : news.toList = [] := List.eq_nil_of_length_eq_zero (by simpa using hnl)
     refine ⟨.slice none 0 0, w, ?_, by rw [hn]; exact World.ownsRow_nil w 0 e i.size, ⟨rfl, rfl, rfl, Nat.le_refl _, fun _ _ _ => rfl⟩, Or.inl rfl⟩
     simp [Builtin.append_, run_underlying ht, run_underlying hu, sizeOf, typeInfo, hi, asInt, asIntOf, hwr, hmb]
     try simp [IntKind.wrap, IntKind.bits, IntKind.signed]
   · have hr := hgrow none 0 (by omega) (fun w' _ => by simp [Builtin.firstCells])
     have hgr := grown 0 (by omega) (Value.ownBlock (.slice none 0 0))
     exact ⟨_, _, hr, hgr.1, hgr.2, Or.inr rfl⟩
 · by_cases hroom : n + m ≤ cap
   · have hfit : n * i.size + news.toList.length ≤ cur.size := by rw [hnl, hcs, ← Nat.add_mul]; exact Nat.mul_le_mul_right _ hroom
     have hst := run_storeCells_at P g (n * i.size) e news.toList 0 cur w hg (by simpa using hfit) (by rw [← hnews]; exact hon m)
     have hr : (Builtin.append_ #[t, u] ty #[.slice (some ⟨g, 0, none⟩) n cap, .int .i64 (m : Int)]).run P w = .ok (.slice (some ⟨g, 0, none⟩) (n + m) cap) (w.setRow g (cur.toList.take (n * i.size) ++ news.toList ++ cur.toList.drop (n * i.size + news.toList.length)).toArray) := by
      simp only [Nat.add_zero] at hst
      by_cases h0 : m * i.size = 0
      · have hne : news = #[] := Array.eq_empty_of_size_eq_zero (by have := hnl; rw [Array.length_toList] at this; rw [this, h0])
        rw [hne] at hst ⊢
        simp [Builtin.append_, run_underlying ht, run_underlying hu, sizeOf, typeInfo, zeroValue, hi, hz, asInt, asIntOf, hwr, hm0, hmb, hroom, h0, Addr.add_lit]
        simp only [List.length_nil, Nat.add_zero, List.append_nil] at hst
        simp only [List.length_nil, Nat.add_zero, List.append_nil, List.take_append_drop, Array.toArray_toList] at hst ⊢
        rw [hst]
        rfl
      · simp [Builtin.append_, run_underlying ht, run_underlying hu, sizeOf, typeInfo, zeroValue, hi, hz, asInt, asIntOf, hwr, hm0, hmb, hroom, h0, hnews, Addr.add_lit]
        simp only [List.append_assoc, Array.length_toList] at hst ⊢
        rw [hst]
        rfl
     refine ⟨_, _, hr, ⟨hlen, .inr ⟨g, cap, _, rfl, hbg, setRow_heap w g cur _ e _ hg, hroom, hcm, ?_, ?_⟩⟩, ⟨rfl, rfl, rfl, by simp, fun k _ hk => setRow_other w g k _ (fun e => hk (by simp [Value.ownBlock, e]))⟩, Or.inl rfl⟩
     · simp only [List.size_toArray, List.length_append, List.length_take, List.length_drop, Array.length_toList]
       simp only [Array.length_toList] at hfit
       omega
     · rw [htake, ← hlen]
       exact List.take_left
   · have holds : ∀ j u, xs[j]? = some u → w.cell? ((⟨g, 0, none⟩ : Addr).add j) = some u := hown.cells (g := g) rfl
     have hr := hgrow (some ⟨g, 0, none⟩) cap (by omega) (fun w' hw => by subst hw; exact run_firstCells_some (P := P) w.drew i.size n ⟨g, 0, none⟩ n cap xs hown.1 (by simpa using holds))
     have hgr := grown cap (by omega) (Value.ownBlock (.slice (some ⟨g, 0, none⟩) n cap))
     exact ⟨_, _, hr, hgr.1, hgr.2, Or.inr rfl⟩
end
end Go.Den
namespace Go.Den
open Go Go.RowKit
set_option linter.unusedVariables false
theorem RepRow.append {ρ : Nat → Role} {W : World} {sz : Nat} {es es2 : List Dat} {xs xs2 : List Value} (h : RepRow ρ W sz es xs) (h2 : RepRow ρ W sz es2 xs2) : RepRow ρ W sz (es ++ es2) (xs ++ xs2) := by
 have hl := h.len
 refine ⟨by simp [h.len, h2.len, Nat.add_mul], fun j d hj => ?_, fun j d hj => ?_⟩
 · by_cases hlt : j < es.length
   · rw [List.getElem?_append_left hlt] at hj
     have hle : (j + 1) * sz ≤ es.length * sz := Nat.mul_le_mul_right _ hlt
     rw [Nat.add_mul, Nat.one_mul] at hle
     have : ((xs ++ xs2).drop (j * sz)).take sz = (xs.drop (j * sz)).take sz := by
      rw [List.drop_append_of_le_length (by omega), List.take_append_of_le_length (by simp; omega)]
     rw [this]
     exact h.rep j d hj
   · rw [List.getElem?_append_right (by omega)] at hj
     have hge : es.length * sz ≤ j * sz := Nat.mul_le_mul_right _ (by omega)
     have : ((xs ++ xs2).drop (j * sz)).take sz = (xs2.drop ((j - es.length) * sz)).take sz := by
      rw [List.drop_append, List.drop_of_length_le (by omega), List.nil_append, hl, Nat.sub_mul]
     rw [this]
     exact h2.rep _ d hj
 · by_cases hlt : j < es.length
   · rw [List.getElem?_append_left hlt] at hj
     exact h.wid j d hj
   · rw [List.getElem?_append_right (by omega)] at hj
     exact h2.wid _ d hj
theorem zih {c : Cx} {tm : Array Value} {gp : Pl → Option Row} {p : Pl} {d : D} {v : Value} {es : List Dat} {sz : Nat} (hs : Sim c tm) (hg : ∀ q r, gp q = some r → c.s.get q = some r) (h : VR c p d v) (hr : zfo gp d = some es) (hw : ∀ e ∈ es, e.cells.length = sz) (hsz : 0 < sz) :
 (es = [] ∧ ∃ k, v = .slice none 0 k) ∨ ∃ ad k news, v = .slice (some ad) es.length k ∧ RepRow c.ρ c.W sz es news ∧ ∀ (j : Nat) (u : Value), news[j]? = some u → c.W.cell? (ad.add j) = some u := by
 unfold zfo at hr
 split at hr
 · cases hr
   have h1 := zd6 h
   cases h1 with
   | nil =>
     rename_i A k
     cases A with
     | none => exact .inl ⟨rfl, _, rfl⟩
     | some ad => exact .inr ⟨ad, _, [], rfl, ⟨by simp, (fun j d hj => by simp at hj), (fun j d hj => by simp at hj)⟩, fun j u hu => by simp at hu⟩
   | lst f hc hm hrd hgg hwf hv hrep =>
     rename_i g o k sz0
     cases es with
     | nil => exact .inr ⟨_, _, [], rfl, ⟨by simp, (fun j d hj => by simp at hj), (fun j d hj => by simp at hj)⟩, fun j u hu => by simp at hu⟩
     | cons e0 es0 =>
       have hsz0 : sz0 = sz := by
        have e1 := hwf 0 e0 rfl
        rw [(hrep 0 e0 rfl).width, hw e0 (by simp)] at e1
        omega
       subst hsz0
       generalize hes : e0 :: es0 = es at *
       -- all cells in one list
       let news : List Value := (List.range (es.length * sz0)).map fun k => (f (k / sz0)).getD (k % sz0) undef
       have hnl : news.length = es.length * sz0 := by simp [news]
       have hat : ∀ (j k : Nat), j < es.length → k < sz0 → news[j * sz0 + k]? = (f j)[k]? := by
        intro j k hj hk
        have hle : (j + 1) * sz0 ≤ es.length * sz0 := Nat.mul_le_mul_right _ hj
        rw [Nat.add_mul, Nat.one_mul] at hle
        have hfl := hwf j _ (List.getElem?_eq_getElem hj)
        have e1 : (j * sz0 + k) / sz0 = j := by
         rw [Nat.mul_comm, Nat.mul_add_div hsz, Nat.div_eq_of_lt hk, Nat.add_zero]
        have e2 : (j * sz0 + k) % sz0 = k := by
         rw [Nat.mul_comm, Nat.mul_add_mod, Nat.mod_eq_of_lt hk]
        simp only [news, List.getElem?_map]
        rw [List.getElem?_range (by omega)]
        simp only [Option.map_some, e1, e2]
        have hkk : k < (f j).length := by omega
        simp [List.getD_eq_getElem?_getD, hkk]
       refine .inr ⟨_, _, news, rfl, ⟨hnl, fun j d hj => ?_, fun j d hj => ?_⟩, fun j u hu => ?_⟩
       · have hjl := (List.getElem?_eq_some_iff.1 hj).1
         have hfl := hwf j d hj
         have : (news.drop (j * sz0)).take sz0 = f j := by
          apply List.ext_getElem?
          intro k
          rw [List.getElem?_take]
          split
          · rename_i hk
            rw [List.getElem?_drop]
            exact hat j k hjl hk
          · rw [List.getElem?_eq_none (by omega)]
         rw [this]
         exact hrep j d hj
       · exact hw d (List.mem_of_getElem? hj)
       · have hjl := (List.getElem?_eq_some_iff.1 hu).1
         rw [hnl] at hjl
         have hq : j / sz0 < es.length := (Nat.div_lt_iff_lt_mul hsz).2 hjl
         have hm' : j % sz0 < sz0 := Nat.mod_lt _ hsz
         have hj' : j = j / sz0 * sz0 + j % sz0 := by rw [Nat.mul_comm]; exact (Nat.div_add_mod j sz0).symm
         rw [hj', hat _ _ hq hm'] at hu
         have := hv _ _ (List.getElem?_eq_getElem hq) _ u hu
         rw [Addr.add_lit]
         rw [Nat.add_assoc, ← hj'] at this
         exact this
 · rename_i q n
   simp only [Option.map_eq_some_iff] at hr
   obtain ⟨r, h1, rfl⟩ := hr
   obtain ⟨A, k, hH, hv, hm⟩ := zcI h (hg _ _ h1)
   have hrow := (hs.row (hg _ _ h1)).at_
   rw [hH] at hrow
   have hcut : RowAt c (.row q) (.slice A (zaT n r.2).length k) r.1 (zaT n r.2) := by
    cases n with
    | none => exact hrow
    | some m =>
      have hml := hm m rfl
      have hl : (zaT (some m) r.2).length = m := by simp [zaT]; omega
      rw [hl]
      exact hrow.cut m hml
   obtain ⟨A', k', hA, _, _, hcase⟩ := hcut.head
   injection hA with hA1 hA2 hA3
   subst hA1 hA3
   rcases hcase with ⟨hn, h0, hk0⟩ | ⟨g, hgA, hown⟩
   · subst hn
     rw [h0] at hv
     exact .inl ⟨h0, _, hv⟩
   · subst hgA
     obtain ⟨i, xs, h2, h3, h4, h5⟩ := hcut
     have hxs : xs = [] ∨ i.sz = sz := by
      cases hes : zaT n r.2 with
      | nil =>
        have := h4.len
        rw [hes] at this
        left
        exact List.eq_nil_of_length_eq_zero (by simpa using this)
      | cons e0 es0 =>
        right
        have e1 := h4.wid 0 e0 (by rw [hes]; rfl)
        rw [hw e0 (by rw [hes]; simp)] at e1
        omega
     have hrep : RepRow c.ρ c.W sz (zaT n r.2) xs := by
      rcases hxs with hxs | hxs
      · subst hxs
        cases hes : zaT n r.2 with
        | nil => exact ⟨by simp, (fun j d hj => by simp at hj), (fun j d hj => by simp at hj)⟩
        | cons e0 es0 =>
          have e1 := h4.wid 0 e0 (by rw [hes]; rfl)
          rw [hw e0 (by rw [hes]; simp)] at e1
          rw [← e1, hes] at h4
          exact e1 ▸ h4
      · rw [← hxs]; exact h4
     exact .inr ⟨_, _, xs, hv, hrep, fun j u hu => h3.cells hown j u hu⟩
 · rename_i q l z
   simp only [Option.map_eq_some_iff] at hr
   obtain ⟨r, h1, rfl⟩ := hr
   · obtain ⟨e, es, A, k, h2, hH, hl, ⟨ii, hii, hzz⟩, hv⟩ := h
     rw [hg _ _ h1] at h2
     cases h2
     have hrow : RowAt c (.row q) (c.H q) e es := (hs.row (hg _ _ h1)).at_
     rw [hH] at hrow
     have hw : ∀ d ∈ es.drop l, d.cells.length = sz := hw
     obtain ⟨A', k', hA, hk, _, hcase⟩ := hrow.head
     injection hA with hA1 hA2 hA3
     subst hA1 hA3
     show (es.drop l = [] ∧ _) ∨ _
     have hdl : (es.drop l).length = es.length - l := by simp
     by_cases hfull : k = l
     · -- nothing is left
       have h0 : es.drop l = [] := by apply List.eq_nil_of_length_eq_zero; rw [hdl]; omega
       rw [if_pos hfull] at hv
       rw [h0]
       cases A with
       | none => exact .inl ⟨rfl, k - l, by rw [hv, show es.length - l = 0 by omega]⟩
       | some ad => exact .inr ⟨ad, k - l, [], by rw [hv, show es.length - l = 0 by omega]; rfl, ⟨by simp, (fun j d hj => by simp at hj), (fun j d hj => by simp at hj)⟩, fun j u hu => by simp at hu⟩
     · rw [if_neg hfull] at hv
       rcases hcase with ⟨hn, h0, hk0⟩ | ⟨g, hgA, hown⟩
       · have : es.length = 0 := by rw [h0]; rfl
         exfalso
         omega
       · subst hgA
         obtain ⟨i, xs, h3, h4, h5, h6⟩ := hrow
         have ha : (some (⟨g, 0, none⟩ : Addr)).map (·.add (l * z)) = some ⟨g, l * z, none⟩ := by rw [Option.map_some, zgu]
         rw [ha] at hv
         by_cases h0 : es.drop l = []
         · rw [h0]
           have : es.length - l = 0 := by rw [← hdl, h0]; rfl
           exact .inr ⟨_, k - l, [], by rw [hv, this]; rfl, ⟨by simp, (fun j d hj => by simp at hj), (fun j d hj => by simp at hj)⟩, fun j u hu => by simp at hu⟩
         · have hne : l < es.length := by
            rcases Nat.lt_or_ge l es.length with h | h
            · exact h
            · exact absurd (List.drop_eq_nil_of_le h) h0
           have hzi : z = i.sz := by
            rw [h3] at hii
            cases hii
            exact hzz.symm
           have hsi : i.sz = sz := by
            have e1 := h5.wid l _ (List.getElem?_eq_getElem hne)
            have e2 := hw (es[l]) (List.mem_of_getElem? (i := 0) (by rw [List.getElem?_drop]; exact List.getElem?_eq_getElem hne))
            omega
           subst hzi
           refine .inr ⟨⟨g, l * i.sz, none⟩, k - l, xs.drop (l * i.sz), by rw [hv, hdl], ?_, fun j u hu => ?_⟩
           · rw [← hsi]
             refine ⟨by rw [List.length_drop, h5.len, hdl, Nat.sub_mul], fun j d hj => ?_, fun j d hj => ?_⟩
             · rw [List.getElem?_drop] at hj
               have := h5.rep _ d hj
               rw [Nat.add_mul, ← List.drop_drop] at this
               exact this
             · rw [List.getElem?_drop] at hj
               exact h5.wid _ d hj
           · rw [List.getElem?_drop] at hu
             have := h4.cells hown _ u hu
             rw [zgu] at this
             rw [Addr.add_lit]
             exact this
 · cases hr
section
variable {P : Program} {c : Cx} {a : Act} {o : Oper} {x : Nat} {X : Nat}
def Cx.grew (c : Cx) (x : Nat) (v' : Value) (w' : World) (s : St) : Cx :=
 { c with
   W := w'
   ρ := fun g => if v'.ownBlock = some g then .row (.slot x []) else if g < c.W.heap.size then c.ρ g else .oth
   H := fun q => match q.is (.slot x []) with | true => v' | false => c.H q
   s := s }
theorem zdZ {tm : Array Value} {v v' : Value} {w' : World} {e : Nat} {es : List Dat} {i : TI} {zs : List Value} (hs : Sim c tm) (hX : Ghost c tm X) (hx : x < tm.size) (hv : ∀ g, v.ownBlock = some g → c.ρ g = .row (.slot X []) ∧ g < c.W.heap.size) (hi : c.ty e = some i)
 (how : w'.ownsRow 0 e i.sz v' es.length zs) (hrep : RepRow c.ρ c.W i.sz es zs) (hg : c.W.grownBy w' v.ownBlock) (hat : v'.ownBlock = v.ownBlock ∨ v'.ownBlock = some c.W.heap.size) :
 Sim (c.grew x v' w' (c.s.put x (.own e es))) (tm.setIfInBounds x v') ∧ Ext c (c.grew x v' w' (c.s.put x (.own e es))) := by
 have hne : ∀ g, g < c.W.heap.size → (∀ q, c.ρ g = .row q → ¬ zaI X q) → v'.ownBlock ≠ some g ∧ w'.heap[g]? = c.W.heap[g]? := by
  intro g hlt hq
  have h1 : v.ownBlock ≠ some g := fun e => hq _ (hv g e).1 ⟨[], rfl⟩
  refine ⟨?_, hg.block g hlt (fun e => h1 e.symm)⟩
  rcases hat with h | h <;> rw [h]
  · exact h1
  · intro e
    injection e with e
    omega
 have hρ : ∀ g, g < c.W.heap.size → (∀ q, c.ρ g = .row q → ¬ zaI X q) → (c.grew x v' w' c.s).ρ g = c.ρ g := by
  intro g hlt hq
  show (if v'.ownBlock = some g then Role.row (.slot x []) else if g < c.W.heap.size then c.ρ g else .oth) = _
  rw [if_neg (hne g hlt hq).1, if_pos hlt]
 have hrd : ∀ b g, Rd c.ρ b g → g < c.W.heap.size → Rd (c.grew x v' w' c.s).ρ b g ∧ (c.grew x v' w' c.s).W.heap[g]? = c.W.heap[g]? := by
  intro b g hr hlt
  have hq : ∀ q, c.ρ g = .row q → ¬ zaI X q := fun q e => by rcases hr with h | ⟨_, h⟩ <;> rw [h] at e <;> cases e
  exact ⟨by unfold Rd; rw [hρ g hlt hq]; exact hr, (hne g hlt hq).2⟩
 have hH : (c.grew x v' w' c.s).H (.slot x []) = v' := by
  have : (Pl.slot x []).is (.slot x []) = true := Pl.is_eq.2 rfl
  simp only [Cx.grew, this]
 have hHne : ∀ q, ¬ zaI x q → (c.grew x v' w' c.s).H q = c.H q := fun q hq => by
  have : q.is (.slot x []) = false := Pl.is_ne.2 (fun e => hq ⟨[], e⟩)
  simp only [Cx.grew, this]
 refine ⟨?_, ⟨hg.os, hg.tape, hg.output, hg.size, fun g hlt hst => ?_, rfl, fun _ => rfl, fun _ => rfl⟩⟩
 · refine Sim.putZ (c1 := c.grew x v' w' c.s) (Z := zaI X) hs hx rfl (fun q r hq => hX.get hq) ⟨rfl, hrd, fun q r hq hk => ⟨hq, hHne q (Kill.slot_pl' hk)⟩, fun r hr _ => ⟨hr, rfl⟩, fun q hq => ⟨hHne q (fun e => hq (.inl e)), fun g hgq hlt => ?_⟩⟩ (fun r hr => ?_) ?_
   · have hq' : ∀ q', c.ρ g = .row q' → ¬ zaI X q' := fun q' e => by rw [hgq] at e; injection e with e; rw [← e]; exact fun h => hq (.inr h)
     exact ⟨by rw [hρ g hlt hq']; exact hgq, (hne g hlt hq').2⟩
   · obtain ⟨cs, hb⟩ := Option.isSome_iff_exists.1 hr
     have hlt := (hs.boxes r cs hb).lt
     obtain ⟨vs, T, h1, h2, _⟩ := (hs.boxes r cs hb).out
     have hq' : ∀ q', c.ρ (c.β r) = .row q' → ¬ zaI X q' := fun q' e => by rw [h2] at e; cases e
     exact ⟨rfl, hρ _ hlt hq', (hne _ hlt hq').2⟩
   · refine ⟨hH.symm, ⟨i, zs, hi, ?_, hrep.mono hrd, fun g hgv => ?_⟩⟩
     · rw [hH]; exact how
     · rw [hH] at hgv
       show (if v'.ownBlock = some g then Role.row (.slot x []) else _) = _
       rw [if_pos hgv]
 · have hq' : ∀ q', c.ρ g = .row q' → ¬ zaI X q' := fun q' e => by rw [e] at hst; exact hst.elim
   exact ⟨hρ g hlt hq', (hne g hlt hq').2⟩
theorem ze4 {t ty e : TypeId} {i : TypeInfo} {size base : Nat} {w : World} (ht : P.underlying t = some (.slice e)) (hi : P.info? e = some i) {v : Value} {n k : Nat} {xs : List Value} (hown : w.ownsRow base e size v n xs) : (Builtin.append_ #[t, t] ty #[v, .slice none 0 k]).run P w = .ok v w := by
 rcases hown.2 with ⟨rfl, rfl⟩ | ⟨g, cap, cur, rfl, _, _, hnc, _⟩
 · simp [Builtin.append_, run_underlying ht, Go.sizeOf, typeInfo, hi, Builtin.lenOf, Builtin.firstCells]
 · simp [Builtin.append_, run_underlying ht, Go.sizeOf, typeInfo, hi, Builtin.lenOf, Builtin.firstCells, hnc, storeCells]
theorem zis {ca : Call} {ab sb : Operand} {t el : TypeId} {i ti : TI} {es2 : List Dat} {r : Row × St} (hty : TyOk P c.ty) (hf : Fr X c a) (hd : ∀ n : Nat, o.dst = some n → n < a.tmps.size) (hdst : o.dst.isSome = true) (ho : o.op = .call ca) (hc : ca.callee = .builtin .append) (hargs : ca.args.toList = [ab, sb]) (hat : ca.argTypes.toList = [t, t])
 (ht : c.ty t = some ti) (hk : ti.kind = .slice el) (hi : c.ty el = some i) (hsrc : zfo c.s.get (c.s.look sb) = some es2) (hbase : zbe c.s el ab = some r) (hel : r.1.1 = el) (hby : i.bytes ≤ 65536) (hsz : 0 < i.sz) (hw : ∀ e ∈ es2, e.cells.length = i.sz) (hlen : r.1.2.length + es2.length ≤ 2147483648) :
 OpOKF P X c a o (r.2.putO o.dst (.own el (r.1.2 ++ es2))) := by
 obtain ⟨n, hn⟩ := Option.isSome_iff_exists.1 hdst
 have hlt := hd n hn
 obtain ⟨_, _, _, hft⟩ := hty.facts ht
 obtain ⟨inf, _, z, hfi⟩ := hty.facts hi
 have hu := (hft.slice hk).1
 have hs := hf.sim
 have hX := hf.ghost
 -- the base is taken out
 obtain ⟨c', h1, h2, h3, h4, h5, h6, hfrm⟩ : ∃ c', c'.s = r.2 ∧ Sim c' a.tmps ∧ Ghost c' a.tmps X ∧ RowAt c' (.row (.slot X [])) (a.eval ab) el r.1.2 ∧ c'.W = c.W ∧ Ext c c' ∧ ∀ g, (a.eval ab).ownBlock = some g → ∀ r, c.ρ g ≠ .box r := by
  unfold zbe at hbase
  split at hbase
  · rename_i hz
    cases hbase
    rw [zca hz]
    exact ⟨c, rfl, hs, hX, RowAt.nil (by rw [hi]; rfl), rfl, Ext.refl c, fun g hg => by cases hg⟩
  · split at hbase
    · rename_i p m hz
      simp only [Option.map_eq_some_iff] at hbase
      obtain ⟨⟨r0, s0⟩, h7, h8⟩ := hbase
      subst h8
      have hvw := zbW hs ab
      rw [hz] at hvw
      obtain ⟨c', h9, h10, h11, h12, h13⟩ := zb8 (sl := false) (π := []) hs hX h7 (by simp) hvw
      refine ⟨c', h9, h10, h11, ?_, h13.W, h13.ext, fun g hg r2 hr2 => ?_⟩
      rotate_left
      · simp only [St.take, Option.map_eq_some_iff] at h7
        obtain ⟨r1, hg1, h7⟩ := h7
        obtain ⟨e1, es1, A1, k1, q1, q2, q3⟩ := hvw r1 hg1
        have hro := (hs.row hg1).at_
        have hob : (c.H p).ownBlock = some g := by
         rw [q2]
         cases m with
         | none => rw [q3] at hg; cases A1 <;> exact hg
         | some m => rw [q3.2] at hg; cases A1 <;> exact hg
        have := hro.choose_spec.choose_spec.2.2.2 g hob
        rw [this] at hr2
        cases hr2
      have := h12.2.at_
      rw [← h12.1] at this
      have hel : r0.1 = el := hel
      rw [hel] at this
      exact this
    · cases hbase
 have hsv := (zaf hs sb (.lent 0)).1
 -- what is appended, read before
 have hnews := zih hs (fun _ _ h => h) hsv hsrc hw hsz
 obtain ⟨i', xs, h7, h8, h9, h10⟩ := h4
 have hi' : c'.ty el = some i := by rw [h6.ty]; exact hi
 rw [hi'] at h7
 cases h7
 have hargs' : ca.args = #[ab, sb] := by
  apply Array.ext'
  simpa using hargs
 have hat' : ca.argTypes = #[t, t] := by
  apply Array.ext'
  simpa using hat
 have hzs : z.cells.size = i.sz := by
  have := zbM hfi.zs
  simp at this
  rw [this, hfi.zlen]
 have hrun : ∀ v' w', (Builtin.append_ #[t, t] o.type #[a.eval ab, a.eval sb]).run P c'.W = .ok v' w' → (execOp a.eval o).run P c.W = .ok (.value v') w' := by
  intro v' w' hr
  rw [← h5]
  simp [execOp, ho, resolve, hc, hargs', hat', invoke, builtin, hr]
 have hvrole : ∀ g, (a.eval ab).ownBlock = some g → c'.ρ g = .row (.slot X []) ∧ g < c'.W.heap.size := fun g hg => ⟨h10 g hg, zbm h8 hg⟩
 have hXn : X ≠ n := Nat.ne_of_gt (Nat.lt_of_lt_of_le hlt h3.out)
 intro K Q hK
 unfold Oper.wp
 have finish : ∀ v' w' zs, (Builtin.append_ #[t, t] o.type #[a.eval ab, a.eval sb]).run P c'.W = .ok v' w' → w'.ownsRow 0 el i.sz v' (r.1.2 ++ es2).length zs → RepRow c'.ρ c'.W i.sz (r.1.2 ++ es2) zs → c'.W.grownBy w' (a.eval ab).ownBlock → (v'.ownBlock = (a.eval ab).ownBlock ∨ v'.ownBlock = some c'.W.heap.size) → o.upon P a K Q ((execOp a.eval o).run P c.W) := by
  intro v' w' zs hr how hrep hgr hatv
  rw [hrun v' w' hr]
  obtain ⟨h11, h12⟩ := zdZ (x := n) h2 h3 hlt hvrole hi' how hrep hgr hatv
  show K (a.put o.dst v') w'
  rw [hn]
  rw [hn] at hK
  refine hK (a.put (some n) v') (c'.grew n v' w' (c'.s.put n (.own el (r.1.2 ++ es2)))) (by rw [← h1]; rfl) ⟨h11, by simpa [Act.put] using h3.out, zaY hXn h3.own⟩ (h6.trans h12) (by simp [Act.put]) rfl (fun g r2 hgl hr2 => by
   show w'.heap[g]? = _
   rw [← h5]
   exact hgr.block g (by rw [h5]; exact hgl) fun e => hfrm g e.symm r2 hr2)
 rcases hnews with ⟨he, k, hv⟩ | ⟨ad, k, news, hv, hrep, hcell⟩
 · subst he
   refine finish (a.eval ab) c'.W xs ?_ (by rw [List.append_nil]; exact h8) (by rw [List.append_nil]; exact h9) ⟨rfl, rfl, rfl, Nat.le_refl _, fun _ _ _ => rfl⟩ (.inl rfl)
   rw [hv]
   exact ze4 hu hfi.info h8
 · have hrep' : RepRow c'.ρ c'.W i.sz es2 news := hrep.mono h6.rd
   have hone : ∀ u ∈ news, u.oneCell' = true := by
    intro u hu
    obtain ⟨j, hj, rfl⟩ := List.getElem_of_mem hu
    have hjl : j < es2.length * i.sz := by rw [← hrep.len]; exact hj
    have hq : j / i.sz < es2.length := (Nat.div_lt_iff_lt_mul hsz).2 hjl
    have hr0 := (hrep.rep _ _ (List.getElem?_eq_getElem hq)).ones
    refine hr0 _ ?_
    have hj' : j / i.sz * i.sz + j % i.sz = j := by rw [Nat.mul_comm]; exact Nat.div_add_mod j i.sz
    refine List.mem_of_getElem? (i := j % i.sz) ?_
    rw [List.getElem?_take_of_lt (Nat.mod_lt _ hsz), List.getElem?_drop, hj']
    exact List.getElem?_eq_getElem hj
   have hb1 : (r.1.2.length + es2.length) * inf.bytes ≤ 140737488355328 := by
    rw [hfi.bytes]
    calc (r.1.2.length + es2.length) * i.bytes ≤ 2147483648 * 65536 := Nat.mul_le_mul hlen hby
     _ = 140737488355328 := by decide
   obtain ⟨v', w', h11, h12, h13, h14, h15⟩ := run_append_own_at (P := P) c'.W 0 t o.type el inf z i.sz inf.bytes hu hfi.info hfi.zero hfi.size rfl hzs hsz (a.eval ab) r.1.2.length xs h8 ad es2.length k news (by rw [hrep.len]) (by rw [h5]; exact hcell) hone (by simp only [maxLen]; omega) hb1 (Nat.zero_le _)
   refine finish v' w' (xs ++ news) (by rw [hv]; exact h11) (by rw [List.length_append]; exact h12) (h9.append hrep') h13 h15
theorem zhi {j : TI} (h : zgY j = true) : j.kind = .int .u8 ∧ j.zero = [.dat (.val (.int .u8 0))] ∧ j.bytes = 1 ∧ j.sz = 1 := by
 unfold zgY at h
 split at h
 · rename_i n h1 h2
   simp only [Bool.and_eq_true, decide_eq_true_eq] at h
   obtain ⟨rfl, h3, h4⟩ := h
   exact ⟨h1, h2, beq_eq.1 h3, beq_eq.1 h4⟩
 · cases h
theorem zhO {w : World} {t u ty e : TypeId} {i : TypeInfo} (ht : P.underlying t = some (.slice e)) (hu : P.underlying u = some .string) (hi : P.info? e = some i) (hz : i.zero = some (.int .u8 0)) (hsize : i.size = 1) (hby : i.bytes = 1)
 {v : Value} {n : Nat} {xs : List Value} (hown : w.ownsRow 0 e 1 v n xs) (s : ByteArray) (hl : n + s.size ≤ 2147483648) :
 ∃ v' w', (Builtin.append_ #[t, u] ty #[v, .string s]).run P w = .ok v' w' ∧ w'.ownsRow 0 e 1 v' (n + s.size) (xs ++ Lib.strCells s) ∧ w.grownBy w' v.ownBlock ∧ (v'.ownBlock = v.ownBlock ∨ v'.ownBlock = some w.heap.size) := by
 have hml : n + s.size ≤ maxLen := by simp only [maxLen]; omega
 obtain ⟨v', w', h1, h2, h3, h4⟩ := Lib.run_append_own_string (P := P) w 0 t u ty e i ht hu hi hz hsize hby v n xs hown s hml (by omega) (Nat.zero_le _)
 refine ⟨v', w', h1, h2, h3, ?_⟩
 have hxl : xs.length = n := by simpa using hown.1
 rcases hown.2 with ⟨rfl, rfl⟩ | ⟨g, cap, cur, rfl, _, hg, hnc, hcm, hcs, htake⟩
 · by_cases hm : s.size = 0
   · rw [h4.2 ⟨rfl, hm⟩]
     exact .inl rfl
   · have hr := run_append_nil_string (P := P) w t u ty e i (.int .u8 0) ht hu hi hz s (by omega) (by omega) (by rw [hby]; omega)
     rw [hr] at h1
     injection h1 with h1
     rw [← h1]
     exact .inr rfl
 · by_cases hroom : n + s.size ≤ cap
   · have hcs' : cur.size = cap := by simpa using hcs
     have hr := Lib.run_append_room_string (P := P) w t u ty e i ht hu hi hsize g n cap cur hg s hroom (by omega)
     rw [hr] at h1
     injection h1 with h1
     rw [← h1]
     exact .inl rfl
   · have hr := Lib.run_append_grow_string (P := P) w t u ty e i (.int .u8 0) ht hu hi hz ⟨g, 0, none⟩ n cap xs (by rw [hsize]; simpa using hxl) (hown.cells (g := g) rfl) s (by omega) (by omega) (by rw [hby]; exact growslice_fits (by omega) (by omega))
     rw [hr] at h1
     injection h1 with h1
     rw [← h1]
     exact .inr rfl
theorem zhe {ρ : Nat → Role} {W : World} (s : ByteArray) : RepRow ρ W 1 (zaV s) (Lib.strCells s) := by
 unfold zaV Lib.strCells
 generalize s.data.toList = l
 refine ⟨by simp, fun j d hj => ?_, fun j d hj => ?_⟩
 · rw [List.getElem?_map] at hj
   simp only [Option.map_eq_some_iff] at hj
   obtain ⟨b, hb, rfl⟩ := hj
   have hlt := (List.getElem?_eq_some_iff.1 hb).1
   have : ((l.map fun b => Value.int .u8 b.toNat).drop (j * 1)).take 1 = [Value.int .u8 b.toNat] := by
    rw [Nat.mul_one, List.drop_eq_getElem_cons (by simpa using hlt)]
    simp only [List.take_succ_cons, List.take_zero, List.getElem_map]
    rw [(List.getElem?_eq_some_iff.1 hb).2]
   rw [this]
   exact .val rfl
 · rw [List.getElem?_map] at hj
   simp only [Option.map_eq_some_iff] at hj
   obtain ⟨b, hb, rfl⟩ := hj
   rfl
theorem zjR {ca : Call} {ab sb : Operand} {t u el : TypeId} {i ti ui : TI} {s : ByteArray} {r : Row × St} (hty : TyOk P c.ty) (hf : Fr X c a) (hd : ∀ n : Nat, o.dst = some n → n < a.tmps.size) (hdst : o.dst.isSome = true) (ho : o.op = .call ca) (hc : ca.callee = .builtin .append) (hargs : ca.args.toList = [ab, sb]) (hat : ca.argTypes.toList = [t, u])
 (ht : c.ty t = some ti) (hk : ti.kind = .slice el) (hi : c.ty el = some i) (hib : zgY i = true) (hut : c.ty u = some ui) (huk : ui.kind = .str) (hsrc : c.s.look sb = .dat (.val (.string s))) (hbase : zbe c.s el ab = some r) (hel : r.1.1 = el) (hlen : r.1.2.length + (zaV s).length ≤ 2147483648) :
 OpOK P X c a o (r.2.putO o.dst (.own el (r.1.2 ++ zaV s))) := by
 obtain ⟨n, hn⟩ := Option.isSome_iff_exists.1 hdst
 have hlt := hd n hn
 obtain ⟨_, _, _, hft⟩ := hty.facts ht
 obtain ⟨_, _, _, hfu⟩ := hty.facts hut
 obtain ⟨inf, _, z, hfi⟩ := hty.facts hi
 obtain ⟨hb1, hb2, hb3, hb4⟩ := zhi hib
 have hu := (hft.slice hk).1
 have hs := hf.sim
 have hX := hf.ghost
 obtain ⟨c', h1, h2, h3, h4, h5, h6⟩ : ∃ c', c'.s = r.2 ∧ Sim c' a.tmps ∧ Ghost c' a.tmps X ∧ RowAt c' (.row (.slot X [])) (a.eval ab) el r.1.2 ∧ c'.W = c.W ∧ Ext c c' := by
  unfold zbe at hbase
  split at hbase
  · rename_i hz
    cases hbase
    rw [zca hz]
    exact ⟨c, rfl, hs, hX, RowAt.nil (by rw [hi]; rfl), rfl, Ext.refl c⟩
  · split at hbase
    · rename_i p m hz
      simp only [Option.map_eq_some_iff] at hbase
      obtain ⟨⟨r0, s0⟩, h7, h8⟩ := hbase
      subst h8
      have hvw := zbW hs ab
      rw [hz] at hvw
      obtain ⟨c', h9, h10, h11, h12, h13⟩ := zb8 (sl := false) (π := []) hs hX h7 (by simp) hvw
      refine ⟨c', h9, h10, h11, ?_, h13.W, h13.ext⟩
      have := h12.2.at_
      rw [← h12.1] at this
      have hel : r0.1 = el := hel
      rw [hel] at this
      exact this
    · cases hbase
 have hsv := (zaf hs sb (.lent 0)).1
 rw [hsrc] at hsv
 have hsv := (zaq hsv).1
 obtain ⟨i', xs, h7, h8, h9, h10⟩ := h4
 have hi' : c'.ty el = some i := by rw [h6.ty]; exact hi
 rw [hi'] at h7
 cases h7
 have hargs' : ca.args = #[ab, sb] := by
  apply Array.ext'
  simpa using hargs
 have hat' : ca.argTypes = #[t, u] := by
  apply Array.ext'
  simpa using hat
 have hz : inf.zero = some (.int .u8 0) := by
  have h0 := hfi.zs
  rw [hb2] at h0
  have hag : i.agg = false := by unfold TI.agg; rw [hb1]
  rcases hfi.zagg with ⟨_, _, ha⟩ | ⟨hc0, _⟩
  · rw [hag] at ha; cases ha
  · rw [hc0] at h0
    simp only [zda, Bool.and_eq_true] at h0
    rcases zcs h0.1 with ⟨e, _⟩ | ⟨_, e, _⟩
    · injection e with e
      injection e with e
      rw [hfi.zero, ← e]
    · cases e
 have hvrole : ∀ g, (a.eval ab).ownBlock = some g → c'.ρ g = .row (.slot X []) ∧ g < c'.W.heap.size := fun g hg => ⟨h10 g hg, zbm h8 hg⟩
 have hXn : X ≠ n := Nat.ne_of_gt (Nat.lt_of_lt_of_le hlt h3.out)
 rw [hb4] at h8 h9
 have hsl : (zaV s).length = s.size := by simp [zaV]
 obtain ⟨v', w', h11, h12, h13, h14⟩ := zhO (P := P) (ty := o.type) hu (hfu.str huk) hfi.info hz (by rw [hfi.size, hb4]) (by rw [hfi.bytes, hb3]) h8 s (by rw [hsl] at hlen; exact hlen)
 have hrun : (execOp a.eval o).run P c.W = .ok (.value v') w' := by
  rw [← h5]
  simp [execOp, ho, resolve, hc, hargs', hat', invoke, builtin, hsv, h11]
 intro K Q hK
 unfold Oper.wp
 rw [hrun]
 obtain ⟨h15, h16⟩ := zdZ (x := n) (es := r.1.2 ++ zaV s) h2 h3 hlt hvrole hi' (by rw [hb4, List.length_append, hsl]; exact h12) (by rw [hb4]; exact h9.append (zhe s)) h13 h14
 show K (a.put o.dst v') w'
 rw [hn]
 rw [hn] at hK
 exact hK (a.put (some n) v') (c'.grew n v' w' (c'.s.put n (.own el (r.1.2 ++ zaV s)))) (by rw [← h1]; rfl) ⟨h15, by simpa [Act.put] using h3.out, zaY hXn h3.own⟩ (h6.trans h16) (by simp [Act.put]) rfl
theorem zft (z : Array Value) (n : Nat) : Builtin.zeroCells z n = madeCells z (n * z.size) := rfl
theorem zkz {ca : Call} {ab sb : Operand} {t u el : TypeId} {i ti ui : TI} {zd : Dat} {n : Int} {k : IntKind} {r : Row × St} (hty : TyOk P c.ty) (hf : Fr X c a) (hd : ∀ n : Nat, o.dst = some n → n < a.tmps.size) (hdst : o.dst.isSome = true) (ho : o.op = .call ca) (hc : ca.callee = .builtin .append) (hargs : ca.args.toList = [ab, sb]) (hat : ca.argTypes.toList = [t, u])
 (ht : c.ty t = some ti) (hk : ti.kind = .slice el) (hi : c.ty el = some i) (hzd : i.zeroD = some zd) (hut : c.ty u = some ui) (huk : ui.kind = .int k) (hsrc : Den.intOf (c.s.look sb) = some n) (hn0 : 0 ≤ n) (hbase : zbe c.s el ab = some r) (hel : r.1.1 = el) (hby : i.bytes ≤ 65536) (hsz : 0 < i.sz) (hlen : r.1.2.length + n.toNat ≤ 2147483648) :
 OpOK P X c a o (r.2.putO o.dst (.own el (r.1.2 ++ List.replicate n.toNat zd))) := by
 obtain ⟨x, hdn⟩ := Option.isSome_iff_exists.1 hdst
 have hlt := hd x hdn
 obtain ⟨_, _, _, hft⟩ := hty.facts ht
 obtain ⟨_, _, _, hfu⟩ := hty.facts hut
 obtain ⟨inf, _, z, hfi⟩ := hty.facts hi
 have hu := (hft.slice hk).1
 have hs := hf.sim
 have hX := hf.ghost
 obtain ⟨c', h1, h2, h3, h4, h5, h6⟩ : ∃ c', c'.s = r.2 ∧ Sim c' a.tmps ∧ Ghost c' a.tmps X ∧ RowAt c' (.row (.slot X [])) (a.eval ab) el r.1.2 ∧ c'.W = c.W ∧ Ext c c' := by
  unfold zbe at hbase
  split at hbase
  · rename_i hz
    cases hbase
    rw [zca hz]
    exact ⟨c, rfl, hs, hX, RowAt.nil (by rw [hi]; rfl), rfl, Ext.refl c⟩
  · split at hbase
    · rename_i p m hz
      simp only [Option.map_eq_some_iff] at hbase
      obtain ⟨⟨r0, s0⟩, h7, h8⟩ := hbase
      subst h8
      have hvw := zbW hs ab
      rw [hz] at hvw
      obtain ⟨c', h9, h10, h11, h12, h13⟩ := zb8 (sl := false) (π := []) hs hX h7 (by simp) hvw
      refine ⟨c', h9, h10, h11, ?_, h13.W, h13.ext⟩
      have := h12.2.at_
      rw [← h12.1] at this
      have hel : r0.1 = el := hel
      rw [hel] at this
      exact this
    · cases hbase
 have hsv := (zaf hs sb (.lent 0)).1
 rw [zbR hsrc] at hsv
 have hsv := (zaq hsv).1
 obtain ⟨i', xs, h7, h8, h9, h10⟩ := h4
 have hi' : c'.ty el = some i := by rw [h6.ty]; exact hi
 rw [hi'] at h7
 cases h7
 have hargs' : ca.args = #[ab, sb] := by
  apply Array.ext'
  simpa using hargs
 have hat' : ca.argTypes = #[t, u] := by
  apply Array.ext'
  simpa using hat
 obtain ⟨hrep, hw⟩ := zev c'.ρ c'.W hfi.zs hfi.zlen hfi.zagg hzd
 have hzs : z.cells.size = i.sz := by
  have := zbM hfi.zs
  simp at this
  rw [this, hfi.zlen]
 have hmade : RepRow c'.ρ c'.W i.sz (List.replicate n.toNat zd) (Builtin.zeroCells z.cells n.toNat).toList := by
  rw [zft, hzs]
  exact zgd hzs hrep hw
 have hon : ∀ m, ∀ v ∈ (Builtin.zeroCells z.cells m).toList, v.oneCell' = true := fun m v hv => by
  unfold Builtin.zeroCells at hv
  simp only [Array.toList_map, List.mem_map, Array.toList_range, List.mem_range] at hv
  obtain ⟨j, hj, rfl⟩ := hv
  have hpos : 0 < z.cells.size := by rw [hzs]; exact hsz
  have hjl : j % z.cells.size < z.cells.size := Nat.mod_lt _ hpos
  rw [getElem!_pos z.cells _ hjl]
  exact hrep.ones _ (by simp)
 have hvrole : ∀ g, (a.eval ab).ownBlock = some g → c'.ρ g = .row (.slot X []) ∧ g < c'.W.heap.size := fun g hg => ⟨h10 g hg, zbm h8 hg⟩
 have hXn : X ≠ x := Nat.ne_of_gt (Nat.lt_of_lt_of_le hlt h3.out)
 have hn : n = (n.toNat : Int) := by omega
 have hfs := hfi.size
 obtain ⟨v', w', h11, h12, h13, h14⟩ := zh4 (P := P) (ty := o.type) hu (hfu.int huk) hfi.info hfi.zero (by rw [hfs]; exact hzs) (by rw [hfs]; exact hsz) hon (by rw [hfs]; exact h8) n.toNat hlen (by rw [hfi.bytes]; exact hby)
 rw [← hn] at h11
 have hrun : (execOp a.eval o).run P c.W = .ok (.value v') w' := by
  rw [← h5]
  simp [execOp, ho, resolve, hc, hargs', hat', invoke, builtin, hsv, h11]
 intro K Q hK
 unfold Oper.wp
 rw [hrun]
 obtain ⟨h15, h16⟩ := zdZ (x := x) (es := r.1.2 ++ List.replicate n.toNat zd) h2 h3 hlt hvrole hi' (by rw [hfs] at h12; rw [List.length_append, List.length_replicate]; exact h12) (h9.append hmade) h13 h14
 show K (a.put o.dst v') w'
 rw [hdn]
 rw [hdn] at hK
 exact hK (a.put (some x) v') (c'.grew x v' w' (c'.s.put x (.own el (r.1.2 ++ List.replicate n.toNat zd)))) (by rw [← h1]; rfl) ⟨h15, by simpa [Act.put] using h3.out, zaY hXn h3.own⟩ (h6.trans h16) (by simp [Act.put]) rfl
end
end Go.Den
namespace Go.Den
open Go Go.RowKit
set_option linter.unusedVariables false
section
variable {P : Program} {c : Cx} {a : Act} {o : Oper} {X : Nat}
theorem zfn {t : TypeId} {i : TI} {inf : TypeInfo} {de : TypeDesc} {z : Value} (hf : TyFacts P c.ty t i inf de z) {W : World} {g n : Nat} {v : Value} {cur : Array Value} {T : TypeId} (hg : W.heap[g]? = some (.cells cur T (0, 0))) (hl : v.cells.toList.length = i.sz) (hfit : n + v.cells.toList.length ≤ cur.size) (h1 : ∀ u ∈ v.cells.toList, u.oneCell' = true) :
 (Instr.storeAt t (.pointer (some ⟨g, n, none⟩)) v).run P W = .ok () (W.setRow g (cur.toList.take n ++ v.cells.toList ++ cur.toList.drop (n + v.cells.toList.length)).toArray) := by
 have h := run_storeCells_at P g n T v.cells.toList 0 cur W hg (by simpa using hfit) h1
 have hs : v.cells.size = i.sz := by simpa using hl
 simp only [Nat.add_zero] at h
 simp only [Instr.storeAt, Instr.sureAddr, storeVar, Sem.run_bind, Sem.run_pure, Result.andThen_ok, hf.sizeOf]
 rw [if_neg (by simp [hs])]
 simpa using h
theorem zf2 {t : TypeId} {za zv : Operand} {i : TI} {r : Ref} {n : Nat} {c' : Cx} {ds cs : List D} (hty : TyOk P c.ty) (hf : Fr X c a) (ho : o.op = .store t za zv) (hdst : o.dst = none) (ht : c.ty t = some i)
 (ha : a.eval za = .pointer (some ⟨c'.β r, n, none⟩)) (hs' : Sim c' a.tmps) (hX' : Ghost c' a.tmps X) (hW : c'.W = c.W) (he : Ext c c') (hc : zc8 c' X ds (a.eval zv).cells.toList) (hl : ds.length = i.sz) (hb : c'.s.box r = some cs) (hM : isM cs = false) (hMd : isM ds = false) (hfit : n + ds.length ≤ cs.length) :
 OpOK P X c a o ((c'.s.killed (Kill.cells r n ds.length)).setBox r (cs.take n ++ ds ++ cs.drop (n + ds.length))) := by
 obtain ⟨_, _, _, hft⟩ := hty.facts ht
 obtain ⟨vs, T, h1, h2, h3, h4⟩ := (hs'.boxes r cs hb).out
 have hMn : isM (cs.take n ++ ds ++ cs.drop (n + ds.length)) = false := by
  rw [← hM]
  by_cases h0 : n = 0 ∧ 0 < ds.length
  · obtain ⟨rfl, h0⟩ := h0
    cases ds with
    | nil => cases h0
    | cons d ds =>
      have e : List.take 0 cs ++ (d :: ds) ++ List.drop (0 + (d :: ds).length) cs = d :: (ds ++ List.drop (0 + (d :: ds).length) cs) := rfl
      rw [e, zbi, hM, ← zbi d ds]
      exact hMd
  · refine ziP (by simp; omega) fun d d' hd hd' => ?_
    by_cases hn : n = 0
    · have hds : ds = [] := List.eq_nil_of_length_eq_zero (by omega)
      subst hn hds
      simp at hd
      rw [hd] at hd'
      cases hd'
      rfl
    · rw [List.append_assoc, List.getElem?_append_left (by simp; omega), List.getElem?_take_of_lt (by omega), hd'] at hd
      cases hd
      rfl
 rw [hM] at h1
 have hvl := hc.1
 have hone : ∀ u ∈ (a.eval zv).cells.toList, u.oneCell' = true := by
  intro u hu
  obtain ⟨j, hj, rfl⟩ := List.getElem_of_mem hu
  exact (hc.2 j _ _ (List.getElem?_eq_getElem (by omega)) (List.getElem?_eq_getElem hj)).2.1
 have hrun := zfn hft (W := c'.W) (g := c'.β r) (n := n) (v := a.eval zv) (cur := vs.toArray) (T := T.t) h1 (by omega) (by simp only [List.size_toArray]; omega) hone
 generalize hvv : (a.eval zv).cells.toList = vv at hrun hc hvl hone
 let nv : List Value := vs.take n ++ vv ++ vs.drop (n + vv.length)
 let W' := c'.W.setRow (c'.β r) nv.toArray
 have hhit : ∀ q, (Kill.cells r n ds.length).pl q = true ↔ ∃ j, j < ds.length ∧ q = .cell r (n + j) := by
  intro q
  cases q with
  | cell r' m =>
    simp only [Kill.cells, Bool.and_eq_true, Ref.is_eq]
    constructor
    · rintro ⟨rfl, h5, h6⟩
      have h5 : n ≤ m := by simpa using h5
      have h6 : m + 1 ≤ n + ds.length := by simpa [Nat.blt] using h6
      exact ⟨m - n, by omega, by rw [show n + (m - n) = m by omega]⟩
    · rintro ⟨j, h5, h6⟩
      injection h6 with h6 h7
      subst h6 h7
      exact ⟨rfl, by simp, by simp [Nat.blt]; omega⟩
  | slot y l => simp [Kill.cells]
  | lent j => simp [Kill.cells]
 have hof : ∀ q, (∀ j, j < ds.length → q ≠ .cell r (n + j)) → zaU r n ds.length q = none := by
  intro q hq
  cases q with
  | cell r' m =>
    cases hk : (r'.is r && (Nat.ble n m && Nat.blt m (n + ds.length))) with
    | false => simp only [zaU, hk]
    | true =>
      have : (Kill.cells r n ds.length).pl (.cell r' m) = true := hk
      obtain ⟨j, h5, h6⟩ := (hhit _).1 this
      exact absurd h6 (hq j h5)
  | _ => rfl
 have hof2 : ∀ j, j < ds.length → zaU r n ds.length (.cell r (n + j)) = some [j] := by
  intro j hj
  have : (r.is r && (Nat.ble n (n + j) && Nat.blt (n + j) (n + ds.length))) = true := (hhit _).2 ⟨j, hj, rfl⟩
  simp only [zaU, this]
  rw [Nat.add_sub_cancel_left]
 let h := c'.home X (zc4 r n) (zaU r n ds.length)
 let s1 := (c'.s.killed (Kill.cells r n ds.length)).setBox r (cs.take n ++ ds ++ cs.drop (n + ds.length))
 let c1 : Cx := { h with W := W', s := s1 }
 have hblk : ∀ g, g ≠ c'.β r → W'.heap[g]? = c'.W.heap[g]? := fun g hg => setRow_other _ _ _ _ hg
 have hrd : ∀ b g, Rd c'.ρ b g → g < c'.W.heap.size → Rd c1.ρ b g ∧ c1.W.heap[g]? = c'.W.heap[g]? := fun b g hr hg => by
  refine ⟨Cx.home_rd (X := X) (fwd := zc4 r n) (bwd := zaU r n ds.length) b g hr, hblk g fun e => ?_⟩
  rw [e] at hr
  rcases hr with hr | ⟨_, hr⟩ <;> rw [h2] at hr <;> cases hr
 have hH : ∀ q, (∀ j, j < ds.length → q ≠ .cell r (n + j)) → c1.H q = c'.H q := fun q hq => by
  show h.H q = c'.H q
  simp only [h, Cx.home, hof q hq]
 have hbs : ∀ r', r' ≠ r → s1.box r' = c'.s.box r' := fun r' hr => (za3 hr).trans (zak r')
 have hbr : s1.box r = some (cs.take n ++ ds ++ cs.drop (n + ds.length)) := zal (by rw [zak]; exact hb)
 have hnew : ∀ i, ¬ (∃ j, j < ds.length ∧ i = n + j) → (cs.take n ++ ds ++ cs.drop (n + ds.length))[i]? = cs[i]? := by
  intro i hi
  by_cases h5 : i < n
  · rw [List.append_assoc, List.getElem?_append_left (by simp; omega), List.getElem?_take_of_lt h5]
  · have h6 : n + ds.length ≤ i := by
     rcases Nat.lt_or_ge i (n + ds.length) with h7 | h7
     · exact absurd ⟨i - n, by omega, by omega⟩ hi
     · exact h7
    rw [List.getElem?_append_right (by simp; omega), List.getElem?_drop]
    congr 1
    simp
    omega
 have hnewin : ∀ j, j < ds.length → (cs.take n ++ ds ++ cs.drop (n + ds.length))[n + j]? = ds[j]? := by
  intro j hj
  rw [List.getElem?_append_left (by simp; omega), List.getElem?_append_right (by simp; omega)]
  congr 1
  simp
  omega
 have hnv : ∀ i, ¬ (∃ j, j < ds.length ∧ i = n + j) → nv[i]? = vs[i]? := by
  intro i hi
  simp only [nv]
  by_cases h5 : i < n
  · rw [List.append_assoc, List.getElem?_append_left (by simp; omega), List.getElem?_take_of_lt h5]
  · have h6 : n + ds.length ≤ i := by
     rcases Nat.lt_or_ge i (n + ds.length) with h7 | h7
     · exact absurd ⟨i - n, by omega, by omega⟩ hi
     · exact h7
    rw [List.getElem?_append_right (by simp; omega), List.getElem?_drop]
    congr 1
    simp
    omega
 have hnvin : ∀ j, j < ds.length → nv[n + j]? = vv[j]? := by
  intro j hj
  simp only [nv]
  rw [List.getElem?_append_left (by simp; omega), List.getElem?_append_right (by simp; omega)]
  congr 1
  simp
  omega
 have hget : ∀ q r', c'.s.get q = some r' → (Kill.cells r n ds.length).pl q = false → s1.get q = some r' := by
  intro q r' hq hk
  cases q with
  | slot y l =>
    show (D.at_ l (s1.t y)).row? = _
    have : s1.t y = (c'.s.t y).kill (Kill.cells r n ds.length) := by
     show ((c'.s.killed _).setBox r _).t y = _
     rw [setBox_tl.1]
     rfl
    rw [this, zaZ]
    exact hq
  | cell r2 m =>
    by_cases he : r2 = r
    · subst he
      simp only [St.get, hb, Option.bind_some] at hq
      simp only [St.get, hbr, Option.bind_some]
      rw [hnew m (fun ⟨j, h5, h6⟩ => by
       have := (hhit (.cell r2 m)).2 ⟨j, h5, by rw [h6]⟩
       rw [this] at hk
       cases hk)]
      exact hq
    · simp only [St.get] at hq ⊢
      rw [hbs r2 he]
      exact hq
  | lent j =>
    simp only [St.get] at hq ⊢
    rw [show s1.l = c'.s.l from setBox_tl.2]
    exact hq
 have m : Mono c' c1 (Kill.cells r n ds.length) (fun q => (∃ j, j < ds.length ∧ q = .cell r (n + j)) ∨ zaI X q) := by
  refine ⟨rfl, hrd, fun q r' hq hk => ⟨hget q r' hq hk, hH q fun j hj e => ?_⟩, fun r' hr' _ => ⟨?_, rfl⟩, fun q hq => ⟨hH q fun j hj e => hq (.inl ⟨j, hj, e⟩), fun g hg hlt => ⟨?_, hblk g fun e => ?_⟩⟩⟩
  · have := (hhit q).2 ⟨j, hj, e⟩
    rw [this] at hk
    cases hk
  · show (s1.box r').isSome = true
    by_cases he : r' = r
    · rw [he, hbr]; rfl
    · rw [hbs r' he]; exact hr'
  · show h.ρ g = _
    rw [Cx.home_ρ g (fun l e => by rw [hg] at e; injection e with e; exact hq (.inr ⟨l, e⟩))]
    exact hg
  · rw [e, h2] at hg
    cases hg
 have hbox : BoxOK c1 r (cs.take n ++ ds ++ cs.drop (n + ds.length)) := by
  refine ⟨nv, T, ?_, ?_, ?_, fun i d v hd hv => ?_⟩
  · rw [hMn]
    exact setRow_heap _ _ _ _ _ _ h1
  · show h.ρ (c'.β r) = _
    rw [Cx.home_ρ _ (fun l e => by rw [h2] at e; cases e)]
    exact h2
  · simp [nv]; omega
  · by_cases hi : ∃ j, j < ds.length ∧ i = n + j
    · obtain ⟨j, hj, rfl⟩ := hi
      rw [hnewin j hj] at hd
      rw [hnvin j hj] at hv
      obtain ⟨h5, h6, h7⟩ := hc.2 j d v hd hv
      refine ⟨?_, h6, h7⟩
      refine zbO (c := c') (c1 := c1) (sl := false) (X := X) (fwd := fun l => match l with | [k] => if k < ds.length then some (.cell r (n + k)) else none | _ => none) ⟨rfl, hrd, fun l q hl' => ?_, fun r' hr' => (m.ref r' hr' rfl), fun q r hf => by cases hf⟩ d [j] (.cell r (n + j)) v (zdX h7) h5 (fun l r hr => ?_)
      · split at hl'
        · rename_i k
          split at hl'
          · rename_i hk
            cases hl'
            refine ⟨?_, fun g hg hlt => ⟨?_, hblk g fun e => ?_⟩⟩
            · show h.H _ = _
              simp only [h, Cx.home, hof2 k hk]
            · exact Cx.home_row (bwd := zaU r n ds.length) hg rfl
            · rw [e, h2] at hg
              cases hg
          · cases hl'
        · cases hl'
      · cases l with
        | nil => simp [hj, Pl.subs]
        | cons k l => cases d <;> simp [D.at_, D.row?, zap] at hr h7
    · rw [hnew i hi] at hd
      rw [hnv i hi] at hv
      obtain ⟨h5, h6, h7⟩ := h4 i d v hd hv
      refine ⟨?_, h6, h7⟩
      have := VR.mono m (.cell r i) d v (fun l r' hr e => by
       cases l with
       | cons k l => cases d <;> simp [D.at_, D.row?, zap] at hr h7
       | nil =>
         rw [Pl.subs_nil] at e
         rcases e with ⟨j, hj, e⟩ | ⟨l, e⟩
         · injection e with _ e
           exact hi ⟨j, hj, e⟩
         · cases e) h5
      rwa [zcy (fun _ => rfl) h7] at this
 have hsim : Sim c1 a.tmps := by
  refine Sim.setBox (r := r) hs' m (fun _ => rfl) rfl (fun q r' hq e => ?_) (fun r' hne hr' => ?_) hbox
  · rcases e with ⟨j, _, e⟩ | e
    · exact ⟨_, e⟩
    · exact (hX'.get hq e).elim
  · obtain ⟨cs', hb'⟩ := Option.isSome_iff_exists.1 hr'
    obtain ⟨vs', T', h5, h6, _⟩ := (hs'.boxes r' cs' hb').out
    refine ⟨?_, hblk _ fun e => ?_⟩
    · show h.ρ (c'.β r') = _
      rw [Cx.home_ρ _ (fun l e => by rw [h6] at e; cases e)]
      exact h6
    · rw [e, h2] at h6
      injection h6 with h6
      exact hne h6.symm
 intro K Q hK
 have hr2 : (execOp a.eval o).run P c.W = .ok .skip W' := by
  rw [← hW]
  simp only [execOp, ho, ha, Sem.run_bind, hrun, Result.andThen_ok, Sem.run_pure]
  rfl
 unfold Oper.wp
 rw [hr2]
 show K (a.put o.dst undef) W'
 rw [hdst]
 have hXown : (s1.t X).hasOwn = false := by
  show (((c'.s.killed _).setBox r _).t X).hasOwn = false
  rw [setBox_tl.1]
  show ((c'.s.t X).kill _).hasOwn = false
  rw [zaw]
  exact hX'.own
 refine hK a c1 rfl ⟨hsim, hX'.out, hXown⟩ (he.trans ⟨rfl, rfl, rfl, ?_, fun g hg hst => ⟨Cx.home_stable (X := X) (fwd := zc4 r n) (bwd := zaU r n ds.length) hst, hblk g fun e => ?_⟩, rfl, fun _ => rfl, fun _ => rfl⟩) rfl rfl
 · show c'.W.heap.size ≤ (c'.W.setRow _ _).heap.size
   simp [World.setRow]
 · rw [e, h2] at hst
   exact hst.elim
end
end Go.Den
namespace Go.Den
open Go Go.RowKit
set_option linter.unusedVariables false
theorem zbZ {s : St} {p : Pl} {r : Row} {e : Nat} {es : List Dat} (hg : s.get p = some r) : (s.setPl p (.own e es)).get p = some (e, es) := by
 cases p with
 | slot x l =>
   have hb : Nat.beq x x = true := beq_eq.2 rfl
   simp only [St.get, St.setPl, hb] at hg ⊢
   rw [zcx hg]
   rfl
 | cell r0 o =>
   simp only [St.get, Option.bind_eq_some_iff] at hg
   obtain ⟨cs, hb, d, hd, hr⟩ := hg
   have hlt := (List.getElem?_eq_some_iff.1 hd).1
   simp only [St.setPl, hb, St.get]
   rw [zal hb]
   simp [hlt, D.row?]
 | lent j =>
   simp only [St.get, Option.bind_eq_some_iff] at hg
   obtain ⟨o0, ho0, _⟩ := hg
   have hlt := (List.getElem?_eq_some_iff.1 ho0).1
   simp [St.setPl, St.get, hlt, D.row?]
theorem Sim.write {c c1 : Cx} {tm : Array Value} {p : Pl} {r : Row} {es' : List Dat} (hs : Sim c tm) (hg : c.s.get p = some r) (m : MonoW c c1 Kill.none (fun q => q = p)) (hs1 : c1.s = c.s.setPl p (.own r.1 es')) (hrow : RowOK c1 p r.1 es') (hH : c1.H p = c.H p)
 (hbox : ∀ r', (c.s.box r').isSome = true → c1.β r' = c.β r' ∧ c1.ρ (c.β r') = .box r' ∧ c1.W.heap[c.β r']? = c.W.heap[c.β r']?) : Sim c1 tm := by
 have hn : VR c1 p (.own r.1 es') (c.H p) := ⟨hH.symm, hrow⟩
 refine ⟨fun y => ?_, fun r2 cs hb => ?_, fun j r2 hg2 => ?_⟩
 · by_cases hp : ∃ l, p = .slot y l
   · obtain ⟨l, rfl⟩ := hp
     have ht : c1.s.t y = D.set_ l (.own r.1 es') ((c.s.t y).kill Kill.none) := by
      rw [hs1, zbb]
      have hb : Nat.beq y y = true := beq_eq.2 rfl
      simp [St.setPl]
     rw [ht]
     refine VR.setW m l (.slot y []) _ _ r (hs.slots y) hg (fun l' r' hl' h' e => ?_) (by rw [zaj]; exact hn)
     rw [zaj] at e
     exact hl' (by injection e)
   · have ht : c1.s.t y = c.s.t y := by
      rw [hs1]
      cases p with
      | slot x l =>
        have hy : y ≠ x := fun e => hp ⟨l, by rw [e]⟩
        have hb : Nat.beq y x = false := beq_ne.2 hy
        simp only [St.setPl, hb]
      | cell r0 o' =>
        simp only [St.setPl]
        cases hb : c.s.box r0 with
        | none => rfl
        | some cs => simp only [setBox_tl.1]
      | lent j => rfl
     rw [ht]
     have := VR.monoW m _ _ _ (fun l r' h' e => ?_) (hs.slots y)
     · rwa [zbb] at this
     · rw [zaj] at e
       exact hp ⟨l, e.symm⟩
 · have key : ∀ (cs0 : List D), c.s.box r2 = some cs0 → (∀ i d, cs[i]? = some d → (p ≠ .cell r2 i ∧ cs0[i]? = some d) ∨ (p = .cell r2 i ∧ d = .own r.1 es')) → cs.length = cs0.length → BoxOK c1 r2 cs := by
    intro cs0 hb0 hi hlen
    obtain ⟨vs, T, h1, h2, h3, h4⟩ := (hs.boxes r2 cs0 hb0).out
    obtain ⟨h5, h6, h7⟩ := hbox r2 (by rw [hb0]; rfl)
    have hM : isM cs = isM cs0 := ziP hlen fun d d' hd hd' => by
     rcases hi 0 d hd with ⟨_, h⟩ | ⟨hpc, rfl⟩
     · rw [h] at hd'; cases hd'; rfl
     · have hg' := hg
       rw [hpc] at hg'
       simp only [St.get, hb0, Option.bind_some, hd'] at hg'
       cases d' <;> first | rfl | (simp [D.row?] at hg')
    refine ⟨vs, T, by rw [h5, h7, hM]; exact h1, by rw [h5]; exact h6, by rw [h3, hlen], fun i d v hd hv => ?_⟩
    rcases hi i d hd with ⟨hne, h⟩ | ⟨hpc, rfl⟩
    · obtain ⟨h8, h9, h10⟩ := h4 i d v h hv
      refine ⟨?_, h9, h10⟩
      have := VR.monoW m (.cell r2 i) d v (fun l r' h' e => by
       cases l with
       | nil => rw [Pl.subs_nil] at e; exact hne e.symm
       | cons a l => cases d <;> simp [D.at_, D.row?, zap] at h' h10) h8
      rwa [zbb] at this
    · have hlt : i < cs0.length := by rw [← h3]; exact (List.getElem?_eq_some_iff.1 hv).1
      have hd0 := List.getElem?_eq_getElem hlt
      obtain ⟨h8, h9, h10⟩ := h4 i _ v hd0 hv
      have hg' := hg
      rw [hpc] at hg'
      simp only [St.get, hb0, Option.bind_some, hd0] at hg'
      cases hx : cs0[i] with
      | own e es =>
        rw [hx] at h8
        refine ⟨?_, h9, rfl⟩
        rw [h8.1, ← hpc]
        exact hn
      | _ => rw [hx] at hg'; simp [D.row?] at hg'
   by_cases hpc : ∃ o, p = .cell r2 o
   · obtain ⟨o', rfl⟩ := hpc
     have hg' := hg
     simp only [St.get, Option.bind_eq_some_iff] at hg'
     obtain ⟨cs0, hb0, d0, hd0, _⟩ := hg'
     rw [hs1] at hb
     simp only [St.setPl, hb0] at hb
     rw [zal hb0] at hb
     cases hb
     refine key cs0 hb0 (fun i d hd => ?_) (by simp)
     by_cases hi : i = o'
     · subst hi
       rw [List.getElem?_set_self (List.getElem?_eq_some_iff.1 hd0).1] at hd
       cases hd
       exact .inr ⟨rfl, rfl⟩
     · rw [List.getElem?_set_ne (fun e => hi e.symm)] at hd
       exact .inl ⟨fun e => hi (by injection e with _ e; exact e.symm), hd⟩
   · rw [hs1, zeO r2 (fun o' e => hpc ⟨o', e⟩)] at hb
     exact key cs hb (fun i d hd => .inl ⟨fun e => hpc ⟨i, e⟩, hd⟩) rfl
 · by_cases hpj : p = .lent j
   · subst hpj
     rw [hs1, zbZ hg] at hg2
     cases hg2
     exact hrow
   · have : c.s.get (.lent j) = some r2 := by
      rw [hs1] at hg2
      cases p with
      | slot x l => exact hg2
      | cell r0 o' =>
        simp only [St.setPl] at hg2
        cases hb : c.s.box r0 with
        | none => rw [hb] at hg2; exact hg2
        | some cs => rw [hb] at hg2; simp only [St.get, setBox_tl.2] at hg2; exact hg2
      | lent j' =>
        have hne : j' ≠ j := fun e => hpj (by rw [e])
        simp only [St.get, St.setPl] at hg2 ⊢
        rw [List.getElem?_set_ne hne] at hg2
        exact hg2
     exact (hs.lent j r2 this).monoW m (fun e => hpj e.symm)
theorem zh0 {ρ : Nat → Role} {W : World} {d d' : Dat} {n : Nat} {vs : List Dat} {cv cvs : List Value} (h : zfk d n vs = some d') (hd : Rep ρ W d cv) (hl : cvs.length = vs.length) (hv : ∀ (i : Nat) (x : Dat) (u : Value), vs[i]? = some x → cvs[i]? = some u → x.cells = [x] ∧ Rep ρ W x [u]) :
 n + vs.length ≤ d.cells.length ∧ d'.cells.length = d.cells.length ∧ Rep ρ W d' (cv.take n ++ cvs ++ cv.drop (n + cvs.length)) := by
 unfold zfk at h
 have hw := hd.width
 split at h
 · rename_i vs00 cs
   split at h
   · rename_i hfit
     cases h
     simp only [Dat.cells] at hw ⊢
     have hin : ∀ (i : Nat) (x : Dat) (u : Value), (cs.take n ++ vs ++ cs.drop (n + vs.length))[i]? = some x → (cv.take n ++ cvs ++ cv.drop (n + cvs.length))[i]? = some u → x.cells = [x] ∧ Rep ρ W x [u] := by
      intro i x u hx hu
      by_cases h1 : i < n
      · rw [List.append_assoc, List.getElem?_append_left (by simp; omega), List.getElem?_take_of_lt h1] at hx hu
        exact hd.cellsAt i x u hx hu
      · by_cases h2 : i < n + vs.length
        · rw [List.getElem?_append_left (by simp; omega), List.getElem?_append_right (by simp; omega)] at hx hu
          have e1 : (cs.take n).length = n := by simp; omega
          have e2 : (cv.take n).length = n := by simp; omega
          rw [e1] at hx
          rw [e2] at hu
          exact hv _ x u hx hu
        · rw [List.getElem?_append_right (by simp; omega), List.getElem?_drop] at hx hu
          have e1 : n + vs.length + (i - (cs.take n ++ vs).length) = i := by simp; omega
          have e2 : n + cvs.length + (i - (cv.take n ++ cvs).length) = i := by simp; omega
          rw [e1] at hx
          rw [e2] at hu
          exact hd.cellsAt i x u hx hu
     refine ⟨hfit, by simp; omega, .agg (by simp; omega) (fun j x u hx hu => (hin j x u hx hu).1) (fun j x u hx hu => (hin j x u hx hu).2)⟩
   · cases h
 · rename_i v hne
   split at h
   · rename_i hn
     cases h
     subst hn
     have hd1 : d.cells.length = 1 := by
      cases d with
      | agg cs => exact (hne cs rfl).elim
      | _ => rfl
     have hcv : cv.length = 1 := by omega
     cases cvs with
     | nil => simp at hl
     | cons u cvs =>
       have : cvs = [] := List.eq_nil_of_length_eq_zero (by simpa using hl)
       subst this
       obtain ⟨h1, h2⟩ := hv 0 d' u rfl rfl
       refine ⟨by rw [hd1]; exact Nat.le_refl _, by rw [h1, hd1]; rfl, ?_⟩
       have : cv.drop (0 + [u].length) = [] := List.drop_of_length_le (by rw [hcv]; exact Nat.le_refl _)
       rw [this]
       simpa using h2
   · cases h
 · cases h
section
variable {P : Program} {c : Cx} {a : Act} {o : Oper} {X : Nat}
theorem zhF {t : TypeId} {za zv : Operand} {i : TI} {p : Pl} {j n : Nat} {q : Dat × St} {r : Row} {d d' : Dat} (hty : TyOk P c.ty) (hf : Fr X c a) (ho : o.op = .store t za zv) (hdst : o.dst = none) (ht : c.ty t = some i)
 (ha : c.s.look za = .bp p j n) (hq : c.s.datD (c.s.look zv) = some q) (hl : q.1.cells.length = i.sz) (hg : q.2.get p = some r) (hd : r.2[j]? = some d) (hset : zfk d n q.1.cells = some d') :
 OpOK P X c a o (q.2.setPl p (.own r.1 (r.2.set j d'))) := by
 obtain ⟨_, _, _, hft⟩ := hty.facts ht
 have hs := hf.sim
 have hav := (zaf hs za (.lent 0)).1
 rw [ha] at hav
 obtain ⟨e, es, g, k, i', h1, h2, h3, h4, h5⟩ := hav
 obtain ⟨c', h6, h7, ⟨cvd, h8, h8'⟩, h9, h10⟩ := zb2 (c.s.look zv) c (a.eval zv) q.1 q.2 hs hq (zbW hs zv)
 have hX' := h10 X hf.ghost
 rw [← h6] at hg
 have hgc := h9.get p r hg
 rw [h1] at hgc
 cases hgc
 have hH : c'.H p = .slice (some ⟨g, 0, none⟩) es.length k := by rw [h9.H p (fun h => h)]; exact h2
 have hrow := (h7.row hg).at_
 rw [hH] at hrow
 have hty' : c'.ty = c.ty := h9.ext.ty
 obtain ⟨i2, xs, h11, h12, h13, h14⟩ := hrow
 rw [hty', h4] at h11
 cases h11
 have hvc : (a.eval zv).cells.toList = cvd := zgX h8 h8'
 have hcl : cvd.length = q.1.cells.length := h8.width
 obtain ⟨h15, h16, h17⟩ := zh0 (cvs := cvd) hset (h13.rep j d hd) hcl (fun ii x u hx hu => h8.cellsAt ii x u hx hu)
 have hdw := h13.wid j d hd
 have hxl : xs.length = es.length * i'.sz := h13.len
 rw [hdw] at h15 h16
 have hrole := h14 g rfl
 -- the row's block
 rcases h12.2 with ⟨hv0, _⟩ | ⟨g', cap, cur, hv0, _, hgc, hnc, hcm, hcs, htake⟩
 · cases hv0
 injection hv0 with hv1 hv2 hv3
 injection hv1 with hv1
 injection hv1 with hv1
 subst hv1 hv3
 have hjl : (j + 1) * i'.sz ≤ es.length * i'.sz := Nat.mul_le_mul_right _ h3
 have hcl2 : es.length * i'.sz ≤ k * i'.sz := Nat.mul_le_mul_right _ hnc
 rw [Nat.add_mul, Nat.one_mul] at hjl
 have hone : ∀ u ∈ (a.eval zv).cells.toList, u.oneCell' = true := by rw [hvc]; exact h8.ones
 have hrun := zfn hft (W := c'.W) (g := g) (n := j * i'.sz + n) (v := a.eval zv) (cur := cur) hgc (by rw [hvc, hcl]; exact hl) (by rw [hvc]; omega) hone
 rw [hvc] at hrun
 let nv : Array Value := (cur.toList.take (j * i'.sz + n) ++ cvd ++ cur.toList.drop (j * i'.sz + n + cvd.length)).toArray
 let W' := c'.W.setRow g nv
 let c1 : Cx := { c' with W := W', s := c'.s.setPl p (.own e (es.set j d')) }
 have hnvs : nv.size = cur.size := by simp [nv]; omega
 have hblk : ∀ g', g' ≠ g → W'.heap[g']? = c'.W.heap[g']? := fun g' h => setRow_other _ _ _ _ h
 have hnew : W'.heap[g]? = some (.cells nv e (0, 0)) := setRow_heap _ _ _ _ _ _ hgc
 have hrd : ∀ b g', Rd c'.ρ b g' → g' < c'.W.heap.size → Rd c1.ρ b g' ∧ c1.W.heap[g']? = c'.W.heap[g']? := fun b g' hr hlt => by
  refine ⟨hr, hblk g' fun e => ?_⟩
  rw [e] at hr
  rcases hr with hr | ⟨_, hr⟩ <;> rw [hrole] at hr <;> cases hr
 have m : MonoW c' c1 Kill.none (fun q => q = p) := by
  refine ⟨rfl, hrd, fun q0 e0 es0 hq0 _ => ⟨?_, rfl⟩, fun r' hr' _ => ⟨za8 r' hr', rfl⟩, fun q0 hq0 => ⟨rfl, fun g' hg' hlt => ⟨hg', hblk g' fun e => ?_⟩⟩⟩
  · by_cases hqp : q0 = p
    · subst hqp
      rw [hg] at hq0
      cases hq0
      exact ⟨_, zbZ hg, by simp⟩
    · exact ⟨es0, zbT hg hq0 hqp, rfl⟩
  · rw [e, hrole] at hg'
    injection hg' with hg'
    exact hq0 hg'.symm
 let xs' := nv.toList.take (es.length * i'.sz)
 have hxs' : xs'.length = es.length * i'.sz := by simp [xs']; omega
 have hcurget : ∀ m, m < es.length * i'.sz → cur.toList[m]? = xs[m]? := by
  intro m hm
  rw [← htake, List.getElem?_take_of_lt hm]
 have hget' : ∀ m, m < es.length * i'.sz → xs'[m]? = if j * i'.sz ≤ m ∧ m < j * i'.sz + i'.sz then (((xs.drop (j * i'.sz)).take i'.sz).take n ++ cvd ++ ((xs.drop (j * i'.sz)).take i'.sz).drop (n + cvd.length))[m - j * i'.sz]? else xs[m]? := by
  intro m hm
  have hlen1 : ((xs.drop (j * i'.sz)).take i'.sz).length = i'.sz := by
   rw [List.length_take, List.length_drop, hxl]
   omega
  simp only [xs', nv]
  rw [List.getElem?_take_of_lt hm]
  by_cases h1 : m < j * i'.sz + n
  · rw [List.append_assoc, List.getElem?_append_left (by simp; omega), List.getElem?_take_of_lt h1, hcurget m hm]
    split
    · rename_i hin
      rw [List.append_assoc, List.getElem?_append_left (by simp; omega), List.getElem?_take_of_lt (by omega), List.getElem?_take_of_lt (by omega), List.getElem?_drop]
      congr 1
      omega
    · rfl
  · by_cases h2 : m < j * i'.sz + n + cvd.length
    · rw [List.getElem?_append_left (by simp; omega), List.getElem?_append_right (by simp; omega), if_pos (by omega), List.getElem?_append_left (by simp; omega), List.getElem?_append_right (by simp; omega)]
      congr 1
      simp
      omega
    · rw [List.getElem?_append_right (by simp; omega), List.getElem?_drop]
      have e1 : j * i'.sz + n + cvd.length + (m - (cur.toList.take (j * i'.sz + n) ++ cvd).length) = m := by simp; omega
      rw [e1, hcurget m hm]
      split
      · rename_i hin
        rw [List.getElem?_append_right (by simp; omega), List.getElem?_drop]
        have e2 : n + cvd.length + (m - j * i'.sz - (((xs.drop (j * i'.sz)).take i'.sz).take n ++ cvd).length) = m - j * i'.sz := by simp; omega
        rw [e2, List.getElem?_take_of_lt (by omega), List.getElem?_drop]
        congr 1
        omega
      · rfl
 have hrow1 : RowOK c1 p e (es.set j d') := by
  have hrr : RepRow c1.ρ c1.W i'.sz es xs := h13.mono hrd
  have hd1 : Rep c1.ρ c1.W d' (((xs.drop (j * i'.sz)).take i'.sz).take n ++ cvd ++ ((xs.drop (j * i'.sz)).take i'.sz).drop (n + cvd.length)) := h17.mono hrd
  have hx := RepRow.set (cells := xs.toArray) (cells' := xs'.toArray) (by simpa using hrr) h3 hd1 h16 (by simp [hxs', h13.len]) (fun m => by
   by_cases hm : m < es.length * i'.sz
   · simpa using hget' m hm
   · have e1 : xs'.toArray[m]? = none := by simp; omega
     have e2 : xs.toArray[m]? = none := by have := h13.len; simp; omega
     rw [e1, e2, if_neg (by omega)])
  refine ⟨i', xs', by show c'.ty e = _; rw [hty']; exact h4, ?_, by simpa using hx, fun g' hg' => ?_⟩
  · have hH1 : c1.H p = .slice (some ⟨g, 0, none⟩) es.length k := hH
    rw [hH1]
    refine ⟨by simpa using hxs', .inr ⟨g, k, nv, by simp, Nat.zero_le _, hnew, by simpa using hnc, hcm, by rw [hnvs]; exact hcs, by simp [xs']⟩⟩
  · have hH1 : c1.H p = .slice (some ⟨g, 0, none⟩) es.length k := hH
    rw [hH1] at hg'
    cases hg'
    exact hrole
 have hbx : ∀ r', (c'.s.box r').isSome = true → c1.β r' = c'.β r' ∧ c1.ρ (c'.β r') = .box r' ∧ c1.W.heap[c'.β r']? = c'.W.heap[c'.β r']? := fun r' hr' => by
  obtain ⟨cs, hb⟩ := Option.isSome_iff_exists.1 hr'
  obtain ⟨vs, T, h18, h19, _⟩ := (h7.boxes r' cs hb).out
  refine ⟨rfl, h19, hblk _ fun e => ?_⟩
  rw [e, hrole] at h19
  cases h19
 have hsim : Sim c1 a.tmps := Sim.write (r := (e, es)) h7 hg m rfl hrow1 rfl hbx
 intro K Q hK
 have hr2 : (execOp a.eval o).run P c.W = .ok .skip W' := by
  have e1 : c.W = c'.W := h9.W.symm
  rw [e1]
  simp only [execOp, ho, h5, Sem.run_bind, hrun, Result.andThen_ok, Sem.run_pure]
  rfl
 unfold Oper.wp
 rw [hr2]
 show K (a.put o.dst undef) W'
 rw [hdst]
 have hXown : ((c'.s.setPl p (.own e (es.set j d'))).t X).hasOwn = false := by
  cases hp : p with
  | slot y l =>
    have hne : X ≠ y := by
     intro e0
     subst e0
     rw [hp] at hg
     exact hX'.get hg ⟨l, rfl⟩
    have hb : Nat.beq X y = false := beq_ne.2 hne
    simp only [St.setPl, hb]
    exact hX'.own
  | cell r0 o' =>
    simp only [St.setPl]
    cases hb : c'.s.box r0 with
    | none => exact hX'.own
    | some cs => simp only [setBox_tl.1]; exact hX'.own
  | lent j' => exact hX'.own
 refine hK a c1 (by rw [← h6]) ⟨hsim, hX'.out, hXown⟩ (h9.ext.trans ⟨rfl, rfl, rfl, ?_, fun g' hg' hst => ⟨rfl, hblk g' fun e => ?_⟩, rfl, fun _ => rfl, fun _ => rfl⟩) rfl rfl
 · show c'.W.heap.size ≤ (c'.W.setRow _ _).heap.size
   simp [World.setRow]
 · rw [e, hrole] at hst
   exact hst.elim
theorem zlX {E : Env} {t : TypeId} {za zv : Operand} {s' : St} (hE : E.ty = c.ty) (hty : TyOk P c.ty) (hf : Fr X c a) (ho : o.op = .store t za zv) (hdst : o.dst = none)
 (h : (match ze9 zv with
  | true => (E.ty t).bind fun i => match i.kind with | .slice e => zcd E c.s t (c.s.look za) (.own e []) | _ => none
  | false => zcd E c.s t (c.s.look za) (c.s.look zv)) = some s') : OpOK P X c a o s' := by
 have hs := hf.sim
 have hav := (zaf hs za (.lent 0)).1
 split at h
 · rename_i hz
   simp only [Option.bind_eq_some_iff] at h
   obtain ⟨i, hi, h⟩ := h
   rw [hE] at hi
   obtain ⟨_, _, _, hft⟩ := hty.facts hi
   split at h
   · rename_i e hk
     obtain ⟨je, hje⟩ := Option.isSome_iff_exists.1 (hft.slice hk).2
     have hvn : a.eval zv = .slice none 0 0 := by rw [zca hz]; rfl
     simp only [zcd, hE, hi, Option.bind_some] at h
     split at h
     · rename_i r n haz
       simp only [Option.bind_eq_some_iff] at h
       obtain ⟨q, hq, h⟩ := h
       simp only [St.takeD, Option.some.injEq] at hq
       subst hq
       split at h
       · cases h
       · rename_i hc
         simp only [Bool.and_eq_true] at hc
         simp only [Option.bind_eq_some_iff] at h
         obtain ⟨cs, hb, h⟩ := h
         split at h
         · cases h
         rename_i hM
         split at h
         · rename_i hfit
           cases h
           rw [haz] at hav
           have hl : (zar (D.own e [])).length = i.sz := beq_eq.1 hc.1
           refine zf2 (c' := c.nilH X) hty hf ho hdst hi hav.2 (zgw hs hf.ghost) hf.ghost.nilH rfl (zga c X) ⟨by rw [hvn]; rfl, fun k d v hd hv => ?_⟩ hl hb hM rfl hfit
           rw [hvn] at hv
           have hd' : ([D.own e []] : List D)[k]? = some d := hd
           have hv' : ([Value.slice none 0 0] : List Value)[k]? = some v := hv
           cases k <;> simp at hd' hv'
           subst hd' hv'
           refine ⟨⟨(zgA _).symm, RowAt.ok ?_⟩, rfl, rfl⟩
           rw [zgA]
           exact RowAt.nil (by show (c.ty e).isSome = true; rw [hje]; rfl)
         · cases h
     · simp only [Option.bind_eq_some_iff] at h
       obtain ⟨q, hq, _⟩ := h
       simp only [St.datD] at hq
       cases hq
     · cases h
   · cases h
 · simp only [zcd, Option.bind_eq_some_iff] at h
   obtain ⟨i, hi, h⟩ := h
   rw [hE] at hi
   split at h
   · rename_i r n haz
     simp only [Option.bind_eq_some_iff] at h
     obtain ⟨q, hq, h⟩ := h
     split at h
     · cases h
     · rename_i hc
       simp only [Bool.and_eq_true] at hc
       simp only [Option.bind_eq_some_iff] at h
       obtain ⟨cs, hb, h⟩ := h
       split at h
       · cases h
       rename_i hM
       split at h
       · rename_i hfit
         cases h
         rw [haz] at hav
         have hl : (zar q.1).length = i.sz := beq_eq.1 hc.1
         have hall : (zar q.1).all za2 = true := by
          have hcc := hc.2
          cases r with
          | loc _ => exact hcc
          | up _ =>
            simp only [List.all_eq_true] at hcc ⊢
            intro d hd
            have := hcc d hd
            cases d with
            | dat dd => cases dd <;> first | rfl | exact this
            | own _ _ => rfl
            | _ => cases this
         obtain ⟨c', h1, h2, h3, h4, h5⟩ := zgK (X := X) (d' := q.1) (s1 := q.2) hs hf.ghost hq (zbW hs zv) hall
         rw [← h1]
         rw [← h1] at hb
         exact zf2 (c' := c') hty hf ho hdst hi (by rw [h5.β]; exact hav.2) h2 h3 h5.W h5.ext h4 hl hb hM (zjS hall) hfit
       · cases h
   · rename_i p j n haz
     simp only [Option.bind_eq_some_iff] at h
     obtain ⟨q, hq, h⟩ := h
     split at h
     · cases h
     · rename_i hc
       simp only [Option.bind_eq_some_iff, Option.map_eq_some_iff] at h
       obtain ⟨r, hr, d, hd, d', hset, h⟩ := h
       cases h
       exact zhF hty hf ho hdst hi haz hq (beq_eq.1 hc) hr hd hset
   · cases h
end
end Go.Den
namespace Go.Den
open Go Go.RowKit
set_option linter.unusedVariables false
theorem zfs (ms : List Nat) (d : D) (ds : List D) (s : St) : zan ms (d :: ds) s = (match Nat.beq (ms.headD 0) 2 with
 | true => match d with
   | .bor p n => (s.take p).bind fun q => (zan ms.tail ds q.2).map fun r => (D.own q.1.1 (zaT n q.1.2) :: r.1, r.2)
   | .own e [] => (zan ms.tail ds s).map fun r => (D.own e [] :: r.1, r.2)
   | _ => none
 | false => match Nat.beq (ms.headD 0) 3 with
   | true => (s.datD d).bind fun q => (zan ms.tail ds q.2).map fun r => (D.dat q.1 :: r.1, r.2)
   | false => (zan ms.tail ds s).map fun r => (d :: r.1, r.2)) := by cases ms <;> rfl
theorem zdc (gp : Pl → Option Row) (ms : List Nat) (d : D) (ds : List D) : zaB gp ms (d :: ds) = (match Nat.beq (ms.headD 0) 1 with
 | true => match d with
   | .bor p none => (gp p).bind fun r => (zaB gp ms.tail ds).map ((p, r) :: ·)
   | _ => none
 | false => match Nat.beq (ms.headD 0) 4 with
   | true => match d with
     | .seq false es => (zbV gp es).bind fun a => (zaB gp ms.tail ds).map (a ++ ·)
     | _ => none
   | false => zaB gp ms.tail ds) := by cases ms <;> rfl
theorem zfi {gp : Pl → Option Row} {ds : List D} : ∀ {ls : List (Pl × Row)}, zbV gp ds = some ls → ls.length = borN ds ∧ ∀ (k : Nat) (p : Pl) (r : Row), ls[k]? = some (p, r) → gp p = some r := by
 induction ds with
 | nil =>
   intro ls h
   cases h
   exact ⟨rfl, fun k p r hk => by simp at hk⟩
 | cons d ds ih =>
   intro ls h
   cases d with
   | dat x => exact ih (show zbV gp ds = some ls from h)
   | bor p0 n =>
     cases n with
     | some n => cases h
     | none =>
       have h : ((gp p0).bind fun r => (zbV gp ds).map ((p0, r) :: ·)) = some ls := h
       simp only [Option.bind_eq_some_iff, Option.map_eq_some_iff] at h
       obtain ⟨r0, h1, l, h2, rfl⟩ := h
       obtain ⟨h3, h4⟩ := ih h2
       refine ⟨by simp [h3, borN], fun k p r hk => ?_⟩
       cases k with
       | zero =>
         simp at hk
         rw [← hk.1, ← hk.2]
         exact h1
       | succ k => exact h4 k p r (by simpa using hk)
   | _ => cases h
theorem zgp (gp : Pl → Option Row) (m : Nat) (keys ms : List Nat) (j0 : Nat) (d : D) (ds : List D) : zas gp m keys ms j0 (d :: ds) = (match ms.headD 0 with
 | 1 => (zas gp m keys ms.tail (j0 + 1) ds).map fun r => (D.bor (.lent j0) none :: r.1, r.2)
 | 2 => (zas gp m keys ms.tail j0 ds).map fun r => (d :: r.1, r.2)
 | 4 => match d with
   | .seq false es => (zas gp m keys ms.tail (j0 + borN es) ds).map fun r => (.seq false (zeA j0 es) :: r.1, r.2)
   | _ => none
 | _ => match zgo d with
   | false => (d.lift m keys).bind fun x => (zas gp m keys ms.tail j0 ds).map fun r => (x :: r.1, r.2)
   | true => (zi6 gp d).bind fun v => (zas gp m keys ms.tail j0 ds).map fun r => (.dat v.1 :: r.1, v.2 || r.2)) := by cases ms <;> rfl
def ArgV (c : Cx) (d : D) (v : Value) : Prop := VW c d v ∨ ((∃ e, d = .own e [] ∧ (c.ty e).isSome = true) ∧ v = .slice none 0 0)
theorem ArgV.took {c c' : Cx} {sl : Bool} {Z : Pl → Prop} (k : Took c c' sl Z) (hZ : ∀ q r, c.s.get q = some r → ¬ Z q) {d : D} {v : Value} (h : ArgV c d v) : ArgV c' d v := by
 rcases h with h | ⟨⟨e, h1, h2⟩, h3⟩
 · exact .inl (VW.took k hZ d v h)
 · exact .inr ⟨⟨e, h1, by rw [k.ext.ty]; exact h2⟩, h3⟩
def Cx.setH (c : Cx) (p : Pl) (v : Value) : Cx := { c with H := fun q => match q.is p with | true => v | false => c.H q }
theorem setH_same {c : Cx} {p : Pl} {v : Value} : (c.setH p v).H p = v := by
 have : p.is p = true := Pl.is_eq.2 rfl
 simp only [Cx.setH, this]
theorem zgv {c : Cx} {p q : Pl} {v : Value} (h : q ≠ p) : (c.setH p v).H q = c.H q := by
 have : q.is p = false := Pl.is_ne.2 h
 simp only [Cx.setH, this]
theorem zkd {c : Cx} {tm : Array Value} {X : Nat} {l : List Nat} {v : Value} (hs : Sim c tm) (hX : Ghost c tm X) : Sim (c.setH (.slot X l) v) tm ∧ Ghost (c.setH (.slot X l) v) tm X ∧ Took c (c.setH (.slot X l) v) false (fun q => q = .slot X l) := by
 have hne : ∀ q r, c.s.get q = some r → q ≠ .slot X l := fun q r h e => hX.get h ⟨l, e⟩
 have m : Mono c (c.setH (.slot X l) v) Kill.none (fun q => q = .slot X l) := ⟨rfl, fun b g h _ => ⟨h, rfl⟩, fun q r h _ => ⟨h, zgv (hne q r h)⟩, fun r h _ => ⟨h, rfl⟩, fun q hq => ⟨zgv hq, fun g h _ => ⟨h, rfl⟩⟩⟩
 refine ⟨Sim.same (Z := fun q => q = .slot X l) hs rfl (fun q r h => hne q r h) m (fun r hr => ?_), ⟨hX.out, hX.own⟩, ⟨rfl, ⟨rfl, rfl, rfl, Nat.le_refl _, fun _ _ _ => ⟨rfl, rfl⟩, rfl, fun _ => rfl, fun j => zgv (fun e => by cases e)⟩, rfl, fun _ h => h, fun _ _ h => h, fun p d u hu _ hl => VR.same m (fun l r hr => (hl l r hr).1) hu, fun q hq => zgv hq, fun _ _ h => h⟩⟩
 obtain ⟨cs, hb⟩ := Option.isSome_iff_exists.1 hr
 obtain ⟨vs, T, h1, h2, _⟩ := (hs.boxes r cs hb).out
 exact ⟨h2, rfl⟩
def ownZ (X k : Nat) : Pl → Prop := fun q => ∃ j l, k ≤ j ∧ q = .slot X (j :: l)
def zhm (c : Cx) (X : Nat) (mode j : Nat) (d : D) (v : Value) : Prop :=
 (mode = 2 ∧ (∃ e es, d = .own e es) ∧ VR c (.slot X [j]) d v) ∨ (mode ≠ 2 ∧ ArgV c d v)
theorem zfh {X : Nat} {tm : Array Value} : ∀ (ds : List D) (ms : List Nat) (k : Nat) (c : Cx) (vs : List Value) (ds' : List D) (s1 : St), Sim c tm → Ghost c tm X → zan ms ds c.s = some (ds', s1) → vs.length = ds.length → (∀ (j : Nat) (d : D) (v : Value), ds[j]? = some d → vs[j]? = some v → ArgV c d v) →
 ∃ c', c'.s = s1 ∧ Sim c' tm ∧ Ghost c' tm X ∧ Took c c' false (ownZ X k) ∧ ds'.length = ds.length ∧ ∀ (j : Nat) (d' : D) (v : Value), ds'[j]? = some d' → vs[j]? = some v → zhm c' X (ms.getD j 0) (k + j) d' v
 | [], ms, k, c, vs, ds', s1, hs, hX, h, hl, hv => by
   have h : some (([] : List D), c.s) = some (ds', s1) := by cases ms <;> exact h
   cases h
   exact ⟨c, rfl, hs, hX, Took.refl _ _ _, rfl, fun j d v hd => by simp at hd⟩
 | d :: ds, ms, k, c, [], ds', s1, hs, hX, h, hl, hv => by cases hl
 | d :: ds, ms, k, c, v :: vs, ds', s1, hs, hX, h, hl, hv => by
   -- the rest, from a later context
   have rest : ∀ (c1 : Cx) (d1 : D) (ds2 : List D), Sim c1 tm → Ghost c1 tm X → Took c c1 false (fun q => ∃ l, q = .slot X (k :: l)) → zan ms.tail ds c1.s = some (ds2, s1) → zhm c1 X (ms.getD 0 0) k d1 v →
    ∃ c', c'.s = s1 ∧ Sim c' tm ∧ Ghost c' tm X ∧ Took c c' false (ownZ X k) ∧ (d1 :: ds2).length = (d :: ds).length ∧ ∀ (j : Nat) (d' : D) (u : Value), (d1 :: ds2)[j]? = some d' → (v :: vs)[j]? = some u → zhm c' X (ms.getD j 0) (k + j) d' u := by
    intro c1 d1 ds2 hs1 hX1 ht1 h2 hr1
    have hv1 : ∀ (j : Nat) (d : D) (u : Value), ds[j]? = some d → vs[j]? = some u → ArgV c1 d u := fun j d u hd hu => (hv (j + 1) d u (by simpa using hd) (by simpa using hu)).took ht1 (fun q r hq ⟨l, e⟩ => hX.get hq ⟨_, e⟩)
    obtain ⟨c', h3, h4, h5, h6, h7, h8⟩ := zfh ds ms.tail (k + 1) c1 vs ds2 s1 hs1 hX1 h2 (by simpa using hl) hv1
    refine ⟨c', h3, h4, h5, (ht1.weak fun q ⟨l, e⟩ => ⟨k, l, Nat.le_refl _, e⟩).trans (h6.weak fun q ⟨j, l, hj, e⟩ => ⟨j, l, by omega, e⟩), by simp [h7], fun j d' u hd hu => ?_⟩
    cases j with
    | zero =>
      simp at hd hu
      subst hd hu
      rcases hr1 with ⟨hm, ⟨e, es, he⟩, hvr⟩ | ⟨hm, hvr⟩
      · refine .inl ⟨hm, ⟨e, es, he⟩, ?_⟩
        refine h6.vr _ _ _ hvr (by rw [he]; rfl) fun l r hr => ⟨?_, ?_⟩
        · rintro ⟨j, l', hj, e'⟩
          have e'' : Pl.slot X ([k + 0] ++ l) = Pl.slot X (j :: l') := e'
          injection e'' with _ e''
          simp at e''
          omega
        · cases hg : c1.s.get ((Pl.slot X [k + 0]).subs l) with
          | none => rfl
          | some r' => exact (hX1.get hg ⟨[k + 0] ++ l, rfl⟩).elim
      · exact .inr ⟨hm, hvr.took h6 (fun q r hq ⟨j, l, _, e⟩ => hX1.get hq ⟨_, e⟩)⟩
    | succ j =>
      have := h8 j d' u (by simpa using hd) (by simpa using hu)
      have e1 : ms.tail.getD j 0 = ms.getD (j + 1) 0 := by cases ms <;> simp
      rw [e1, show k + 1 + j = k + (j + 1) by omega] at this
      exact this
   have e0 : ms.headD 0 = ms.getD 0 0 := by cases ms <;> simp
   have hv0 := hv 0 d v rfl rfl
   have h' := h
   rw [zfs] at h'
   clear h
   split at h'
   · rename_i hm
     have hm : ms.headD 0 = 2 := beq_eq.1 hm
     split at h'
     · rename_i p n
       simp only [Option.bind_eq_some_iff, Option.map_eq_some_iff] at h'
       obtain ⟨⟨r0, s0⟩, h1, ⟨ds2, s2⟩, h2, h3⟩ := h'
       cases h3
       have hvw : VW c (.bor p n) v := by
        rcases hv0 with h | ⟨⟨e, h, _⟩, _⟩
        · exact h
        · cases h
       obtain ⟨c1, h4, h5, h6, h7, h8⟩ := zb8 (sl := false) (π := [k]) hs hX h1 (by simp) hvw
       refine rest c1 _ ds2 h5 h6 (h8.weak fun q ⟨l, e⟩ => ⟨l, e⟩) (by rw [h4]; exact h2) (.inl ⟨by rw [← e0]; exact hm, ⟨_, _, rfl⟩, h7⟩)
     · rename_i e
       simp only [Option.map_eq_some_iff] at h'
       obtain ⟨⟨ds2, s2⟩, h2, h3⟩ := h'
       cases h3
       obtain ⟨he, hn⟩ : (c.ty e).isSome = true ∧ v = .slice none 0 0 := by
        rcases hv0 with h | ⟨⟨e', h, h4⟩, h5⟩
        · exact h.elim
        · cases h
          exact ⟨h4, h5⟩
       subst hn
       obtain ⟨h5, h6, h7⟩ := zkd (l := [k]) (v := .slice none 0 0) hs hX
       refine rest _ _ ds2 h5 h6 (h7.weak fun q e => ⟨[], e⟩) h2 (.inl ⟨by rw [← e0]; exact hm, ⟨_, _, rfl⟩, setH_same.symm, RowAt.ok ?_⟩)
       rw [setH_same]
       exact RowAt.nil he
     · cases h'
   · rename_i hm
     have hm : ms.headD 0 ≠ 2 := beq_ne.1 hm
     split at h'
     · simp only [Option.bind_eq_some_iff, Option.map_eq_some_iff] at h'
       obtain ⟨⟨q0, s0⟩, h1, ⟨ds2, s2⟩, h2, h3⟩ := h'
       cases h3
       have hvw : VW c d v := by
        rcases hv0 with h | ⟨⟨e, h, _⟩, _⟩
        · exact h
        · rw [h] at h1; cases h1
       obtain ⟨c1, h4, h5, h6, h7, h8⟩ := zb2 d c v q0 s0 hs h1 hvw
       exact rest c1 (.dat q0) ds2 h5 (h8 X hX) (h7.weak fun q e => e.elim) (by rw [h4]; exact h2) (.inr ⟨by rw [← e0]; exact hm, .inl h6⟩)
     simp only [Option.map_eq_some_iff] at h'
     obtain ⟨⟨ds2, s2⟩, h2, h3⟩ := h'
     cases h3
     exact rest c d ds2 hs hX (Took.refl _ _ _) h2 (.inr ⟨by rw [← e0]; exact hm, hv0⟩)
theorem zcQ {p : Pl} : ∀ {ls : List (Pl × Row)} {k : Nat}, zcl p ls = some k → ∃ r, ls[k]? = some (p, r)
 | [], k, h => by cases h
 | (q, r) :: ls, k, h => by
   unfold zcl at h
   split at h
   · rename_i hq
     cases h
     rw [Pl.is_eq.1 hq]
     exact ⟨r, rfl⟩
   · simp only [Option.map_eq_some_iff] at h
     obtain ⟨k', h1, rfl⟩ := h
     obtain ⟨r', h2⟩ := zcQ h1
     exact ⟨r', by simpa using h2⟩
theorem zfY {p : Pl} : ∀ {ls : List (Pl × Row)}, zcl p ls = none → ∀ (k : Nat) (q : Pl) (r : Row), ls[k]? = some (q, r) → q ≠ p
 | [], h, k, q, r, hk => by simp at hk
 | (q0, r0) :: ls, h, k, q, r, hk => by
   unfold zcl at h
   split at h
   · cases h
   · rename_i hq
     simp only [Option.map_eq_none_iff] at h
     cases k with
     | zero =>
       simp at hk
       rw [← hk.1]
       exact Pl.is_ne.1 hq
     | succ k => exact zfY h k q r (by simpa using hk)
theorem zeo : ∀ {ls : List (Pl × Row)}, zaM ls = true → ∀ (k : Nat) (p : Pl) (r : Row), ls[k]? = some (p, r) → zcl p ls = some k
 | [], h, k, p, r, hk => by simp at hk
 | (q0, r0) :: ls, h, k, p, r, hk => by
   simp only [zaM, Bool.and_eq_true] at h
   cases k with
   | zero =>
     simp at hk
     unfold zcl
     rw [← hk.1, Pl.is_eq.2 rfl]
   | succ k =>
     have hk' : ls[k]? = some (p, r) := by simpa using hk
     have h1 : zcl q0 ls = none := by simpa using h.1
     have hne := zfY h1 k p r hk'
     unfold zcl
     rw [Pl.is_ne.2 (fun e => hne e.symm)]
     rw [zeo h.2 k p r hk']
     rfl
theorem zey {gp : Pl → Option Row} : ∀ {ds : List D} {ms : List Nat} {ls : List (Pl × Row)}, zaB gp ms ds = some ls → ∀ (k : Nat) (p : Pl) (r : Row), ls[k]? = some (p, r) → gp p = some r
 | [], ms, ls, h, k, p, r, hk => by
   have h : some ([] : List (Pl × Row)) = some ls := by cases ms <;> exact h
   cases h
   simp at hk
 | d :: ds, ms, ls, h, k, p, r, hk => by
   have h' := h
   rw [zdc] at h'
   split at h'
   · split at h'
     · simp only [Option.bind_eq_some_iff, Option.map_eq_some_iff] at h'
       obtain ⟨r0, h1, ls', h2, rfl⟩ := h'
       cases k with
       | zero =>
         simp at hk
         rw [← hk.1, ← hk.2]
         exact h1
       | succ k => exact zey h2 k p r (by simpa using hk)
     · cases h'
   · split at h'
     · split at h'
       · rename_i es
         simp only [Option.bind_eq_some_iff, Option.map_eq_some_iff] at h'
         obtain ⟨a, h1, ls', h2, rfl⟩ := h'
         obtain ⟨h3, h4⟩ := zfi h1
         by_cases hka : k < a.length
         · rw [List.getElem?_append_left hka] at hk
           exact h4 k p r hk
         · rw [List.getElem?_append_right (by omega)] at hk
           exact zey h2 _ p r hk
       · cases h'
     · exact zey h' k p r hk
structure Passes (c cc : Cx) (X : Nat) (ls : List (Pl × Row)) (m : Nat) (keys : List Nat) (b : Bool) (gp : Pl → Option Row) : Prop where
 seen : Seen c gp b cc.ρ
 W : cc.W = c.W
 ty : cc.ty = c.ty
 lent : ∀ k p r, ls[k]? = some (p, r) → cc.s.get (.lent k) = some r ∧ cc.H (.lent k) = c.H p
 own : ∀ j, cc.H (.slot j []) = c.H (.slot X [j]) ∧ ∀ g, (c.H (.slot X [j])).ownBlock = some g → c.ρ g = .row (.slot X [j]) → cc.ρ g = .row (.slot j [])
 ref : ∀ r r', (c.s.box r).isSome = true → zad m keys r = some r' → (cc.s.box r').isSome = true ∧ cc.β r' = c.β r
theorem zce {m : Nat} {keys : List Nat} : ∀ {cap cap' : List Ref}, zbD m keys cap = some cap' → cap'.length = cap.length ∧ ∀ (j : Nat) (r r' : Ref), cap[j]? = some r → cap'[j]? = some r' → zad m keys r = some r'
 | [], cap', h => by cases h; exact ⟨rfl, fun j r r' h => by simp at h⟩
 | r0 :: cap, cap', h => by
   simp only [zbD, Option.bind_eq_some_iff, Option.map_eq_some_iff] at h
   obtain ⟨x, hx, y, hy, rfl⟩ := h
   obtain ⟨h1, h2⟩ := zce hy
   refine ⟨by simp [h1], fun j r r' hr hr' => ?_⟩
   cases j with
   | zero =>
     simp at hr hr'
     subst hr hr'
     exact hx
   | succ j => exact h2 j r r' (by simpa using hr) (by simpa using hr')
theorem zhr {m : Nat} {keys : List Nat} {cap cap' : List Ref} (h : zbD m keys cap = some cap') : ∀ r' ∈ cap', ∃ r ∈ cap, zad m keys r = some r' := by
 obtain ⟨h1, h2⟩ := zce h
 intro r' hr'
 obtain ⟨j, hj, rfl⟩ := List.getElem_of_mem hr'
 have hlt : j < cap.length := by omega
 exact ⟨cap[j], List.getElem_mem _, h2 j _ _ (List.getElem?_eq_getElem hlt) (List.getElem?_eq_getElem hj)⟩
theorem zcX {c cc : Cx} {m : Nat} {keys : List Nat} (href : ∀ r r', (c.s.box r).isSome = true → zad m keys r = some r' → (cc.s.box r').isSome = true ∧ cc.β r' = c.β r) {cap cap' : List Ref} (h : zbD m keys cap = some cap') (hc : ∀ r ∈ cap, (c.s.box r).isSome = true) :
 (∀ r ∈ cap', (cc.s.box r).isSome = true) ∧ (cap'.map fun r => Value.pointer (some ⟨cc.β r, 0, none⟩)) = cap.map fun r => Value.pointer (some ⟨c.β r, 0, none⟩) := by
 obtain ⟨h1, h2⟩ := zce h
 refine ⟨fun r' hr' => ?_, ?_⟩
 · obtain ⟨r, hr, h3⟩ := zhr h r' hr'
   exact (href r r' (hc r hr) h3).1
 · apply List.ext_getElem (by simp [h1])
   intro j hj1 hj2
   simp only [List.length_map] at hj1 hj2
   simp only [List.getElem_map]
   have h3 := h2 j _ _ (List.getElem?_eq_getElem hj2) (List.getElem?_eq_getElem hj1)
   rw [(href _ _ (hc _ (List.getElem_mem _)) h3).2]
theorem zgs {c cc : Cx} {m : Nat} {keys : List Nat} {p q : Pl} {d d' : D} {v : Value} (href : ∀ r r', (c.s.box r).isSome = true → zad m keys r = some r' → (cc.s.box r').isSome = true ∧ cc.β r' = c.β r) (hn : zgo d = false) (h : d.lift m keys = some d') (hv : VR c p d v) : VR cc q d' v ∧ d'.hasOwn = false := by
 cases d with
 | ptr r o =>
   simp only [D.lift, Option.map_eq_some_iff] at h
   obtain ⟨r', h1, rfl⟩ := h
   obtain ⟨h2, h3⟩ := href r r' hv.1 h1
   exact ⟨⟨h2, by rw [h3]; exact hv.2⟩, rfl⟩
 | fn f cap =>
   simp only [D.lift, Option.map_eq_some_iff] at h
   obtain ⟨cap', h1, rfl⟩ := h
   obtain ⟨h2, h3⟩ := zcX href h1 hv.1
   exact ⟨⟨h2, by rw [h3]; exact hv.2⟩, rfl⟩
 | etc e =>
   cases e with
   | map r =>
     simp only [D.lift, Option.map_eq_some_iff] at h
     obtain ⟨r', h1, rfl⟩ := h
     obtain ⟨h2, h3⟩ := href r r' hv.1 h1
     exact ⟨⟨h2, by rw [h3]; exact hv.2⟩, rfl⟩
   | mark => cases h; exact ⟨hv, rfl⟩
   | err => cases h; exact ⟨hv, rfl⟩
   | vp _ _ => cases h
 | _ => cases hn
theorem znh {c : Cx} {d : D} {v : Value} (hn : zgo d = false) (h : VW c d v) : VR c (.lent 0) d v := by
 cases d with
 | ptr r o => exact h
 | fn f cap => exact h
 | etc e => cases e with
   | vp _ _ => cases hn
   | map _ => exact h
   | mark => exact h
   | err => exact h
 | _ => cases hn
theorem zja {c cc : Cx} {tm : Array Value} {X m : Nat} {ls : List (Pl × Row)} {keys : List Nat} {b : Bool} {gp : Pl → Option Row} (hs : Sim c tm) (hp : Passes c cc X ls m keys b gp) (p0 : Pl) : ∀ (es : List D) (vs : List Value) (i j0 : Nat) (la : List (Pl × Row)), zbV c.s.get es = some la → (∀ (k : Nat) (p : Pl) (r : Row), la[k]? = some (p, r) → ls[j0 + k]? = some (p, r)) → VWs c es vs → VRs cc p0 i (zeA j0 es) vs := by
 intro es
 induction es with
 | nil =>
   intro vs i j0 la h hls hv
   exact hv
 | cons d es ih =>
   rintro vs i j0 la h hls ⟨v, vs', rfl, h1, h2⟩
   cases d with
   | dat x =>
     refine ⟨v, vs', rfl, ?_, ih vs' (i + 1) j0 la h hls h2⟩
     obtain ⟨cv, h3, h4⟩ := zc7 hs hp.seen (d := .dat x) (fl := false) (dt := x) rfl (fun e => by cases e) (.inl h1)
     exact ⟨cv, by rw [hp.W]; exact h3, h4⟩
   | bor q n =>
     cases n with
     | some n => cases h
     | none =>
       have h : ((c.s.get q).bind fun r => (zbV c.s.get es).map ((q, r) :: ·)) = some la := h
       simp only [Option.bind_eq_some_iff, Option.map_eq_some_iff] at h
       obtain ⟨r0, h3, l, h4, rfl⟩ := h
       obtain ⟨h5, h6⟩ := hp.lent j0 q r0 (by have := hls 0 q r0 rfl; simpa using this)
       refine ⟨v, vs', rfl, ?_, ih vs' (i + 1) (j0 + 1) l h4 (fun k p r hk => by have := hls (k + 1) p r (by simpa using hk); rw [show j0 + 1 + k = j0 + (k + 1) by omega]; exact this) h2⟩
       obtain ⟨e, es', A, k, h7, h8, h9⟩ := h1 r0 h3
       rw [h3] at h7
       cases h7
       exact ⟨e, es', A, k, h5, by rw [h6]; exact h8, h9⟩
   | _ => cases h
theorem zbn {c cc : Cx} {tm : Array Value} {X m : Nat} {ls : List (Pl × Row)} {keys : List Nat} {b : Bool} {gp : Pl → Option Row} (hs : Sim c tm) (hp : Passes c cc X ls m keys b gp) : ∀ (ds : List D) (ms : List Nat) (j0 n : Nat) (vs : List Value) (ds' : List D) (fl : Bool) (ls' : List (Pl × Row)),
 zas gp m keys ms j0 ds = some (ds', fl) → (fl = true → b = true) → zaB c.s.get ms ds = some ls' → (∀ k, ls'[k]? = ls[j0 + k]?) → vs.length = ds.length →
 (∀ (j : Nat) (d : D) (v : Value), ds[j]? = some d → vs[j]? = some v → zhm c X (ms.getD j 0) (n + j) d v) →
 ds'.length = vs.length ∧ ∀ (j : Nat) (d' : D) (v : Value), ds'[j]? = some d' → vs[j]? = some v → VR cc (.slot (n + j) []) d' v
 | [], ms, j0, n, vs, ds', fl, ls', h, hb, hl, hls, hlen, hv => by
   have h : some (([] : List D), false) = some (ds', fl) := by cases ms <;> exact h
   cases h
   exact ⟨by simpa using hlen.symm, fun j d v hd => by simp at hd⟩
 | d :: ds, ms, j0, n, [], ds', fl, ls', h, hb, hl, hls, hlen, hv => by cases hlen
 | d :: ds, ms, j0, n, v :: vs, ds', fl, ls', h, hb, hl, hls, hlen, hv => by
   have e0 : ms.headD 0 = ms.getD 0 0 := by cases ms <;> simp
   have hv0 := hv 0 d v rfl rfl
   rw [Nat.add_zero, ← e0] at hv0
   have hvt : ∀ (j : Nat) (d : D) (u : Value), ds[j]? = some d → vs[j]? = some u → zhm c X (ms.tail.getD j 0) (n + 1 + j) d u := fun j d u hd hu => by
    have := hv (j + 1) d u (by simpa using hd) (by simpa using hu)
    have e1 : ms.tail.getD j 0 = ms.getD (j + 1) 0 := by cases ms <;> simp
    rw [e1, show n + 1 + j = n + (j + 1) by omega]
    exact this
   have fin : ∀ (d1 : D) (ds2 : List D), VR cc (.slot n []) d1 v → (ds2.length = vs.length ∧ ∀ (j : Nat) (d' : D) (u : Value), ds2[j]? = some d' → vs[j]? = some u → VR cc (.slot (n + 1 + j) []) d' u) →
    (d1 :: ds2).length = (v :: vs).length ∧ ∀ (j : Nat) (d' : D) (u : Value), (d1 :: ds2)[j]? = some d' → (v :: vs)[j]? = some u → VR cc (.slot (n + j) []) d' u := by
    intro d1 ds2 h1 h2
    refine ⟨by simp [h2.1], fun j d' u hd hu => ?_⟩
    cases j with
    | zero =>
      simp at hd hu
      subst hd hu
      exact h1
    | succ j =>
      have := h2.2 j d' u (by simpa using hd) (by simpa using hu)
      rwa [show n + 1 + j = n + (j + 1) by omega] at this
   have hl' := hl
   rw [zdc] at hl'
   have h' := h
   rw [zgp] at h'
   clear h hl
   have hrest : Nat.beq (ms.headD 0) 1 = false → Nat.beq (ms.headD 0) 4 = false → zaB c.s.get ms.tail ds = some ls' := fun e e4 => by rw [e, e4] at hl'; exact hl'
   split at h'
   · rename_i hm
     rw [hm] at hl' hv0
     simp only [Option.map_eq_some_iff] at h'
     obtain ⟨⟨ds2, f2⟩, h1, h2⟩ := h'
     cases h2
     have hb1 : Nat.beq 1 1 = true := rfl
     rw [hb1] at hl'
     simp only at hl'
     split at hl'
     · rename_i p
       simp only [Option.bind_eq_some_iff, Option.map_eq_some_iff] at hl'
       obtain ⟨r, h3, ls2, h4, rfl⟩ := hl'
       have hls0 : ls[j0]? = some (p, r) := by have := hls 0; simpa using this.symm
       obtain ⟨h5, h6⟩ := hp.lent j0 p r hls0
       refine fin _ ds2 ?_ (zbn hs hp ds ms.tail (j0 + 1) (n + 1) vs ds2 _ ls2 h1 hb h4 (fun k => by have := hls (k + 1); rw [show j0 + 1 + k = j0 + (k + 1) by omega]; simpa using this) (by simpa using hlen) hvt)
       have hvw : VR c (.lent 0) (.bor p none) v := by
        rcases hv0 with ⟨h, _⟩ | ⟨_, h⟩
        · cases h
        · rcases h with h | ⟨⟨e, h, _⟩, _⟩
          · exact h r h3
          · cases h
       obtain ⟨e, es, A, k, h7, h8, h9⟩ := hvw
       rw [h3] at h7
       cases h7
       exact ⟨e, es, A, k, h5, by rw [h6]; exact h8, h9⟩
     · cases hl'
   · rename_i hm
     rw [hm] at hv0 hrest
     simp only [Option.map_eq_some_iff] at h'
     obtain ⟨⟨ds2, f2⟩, h1, h2⟩ := h'
     cases h2
     refine fin d ds2 ?_ (zbn hs hp ds ms.tail j0 (n + 1) vs ds2 _ ls' h1 hb (hrest rfl rfl) hls (by simpa using hlen) hvt)
     rcases hv0 with ⟨_, ⟨e, es, rfl⟩, h3⟩ | ⟨h, _⟩
     · obtain ⟨h4, h5⟩ := hp.own n
       have hrow := h3.2.at_
       refine ⟨by rw [h4]; exact h3.1, RowAt.ok ?_⟩
       rw [h4]
       refine hrow.re hp.ty (fun b' g hr hg => ⟨hp.seen.rd b' g hr, by rw [hp.W]⟩) fun g hg => ⟨h5 g hg (hrow.choose_spec.choose_spec.2.2.2 g hg), by rw [hp.W]⟩
     · exact absurd rfl h
   · rename_i hm
     rw [hm] at hl' hv0
     split at h'
     · rename_i es
       simp only [Option.map_eq_some_iff] at h'
       obtain ⟨⟨ds2, f2⟩, h1, h2⟩ := h'
       cases h2
       have hl2 : ((zbV c.s.get es).bind fun a => (zaB c.s.get ms.tail ds).map (a ++ ·)) = some ls' := hl'
       simp only [Option.bind_eq_some_iff, Option.map_eq_some_iff] at hl2
       obtain ⟨la, h3, ls2, h4, rfl⟩ := hl2
       obtain ⟨h5, h6⟩ := zfi h3
       refine fin _ ds2 ?_ (zbn hs hp ds ms.tail (j0 + borN es) (n + 1) vs ds2 _ ls2 h1 hb h4 (fun k => by
        have := hls (la.length + k)
        rw [List.getElem?_append_right (by omega), show la.length + k - la.length = k by omega, h5] at this
        rw [show j0 + borN es + k = j0 + (borN es + k) by omega]; exact this) (by simpa using hlen) hvt)
       rcases hv0 with ⟨h, _⟩ | ⟨_, h | ⟨⟨e, h, _⟩, _⟩⟩
       · cases h
       · obtain ⟨us, h7, h8, h9⟩ := h
         exact ⟨us, h7, h8, zja hs hp _ es us 0 j0 la h3 (fun k p r hk => by rw [← hls k, List.getElem?_append_left (List.getElem?_eq_some_iff.1 hk).1]; exact hk) h9⟩
       · cases h
     · cases h'
   · rename_i hm1 hm2 hm4
     have hbeq4 : Nat.beq (ms.headD 0) 4 = false := beq_ne.2 (fun e => hm4 e)
     have hbeq : Nat.beq (ms.headD 0) 1 = false := beq_ne.2 (fun e => hm1 e)
     have hav : ArgV c d v := by
      rcases hv0 with ⟨h, _⟩ | ⟨_, h⟩
      · exact absurd h hm2
      · exact h
     split at h'
     · rename_i hn
       simp only [Option.bind_eq_some_iff, Option.map_eq_some_iff] at h'
       obtain ⟨d1, hd1, ⟨ds2, f2⟩, h1, h2⟩ := h'
       cases h2
       refine fin d1 ds2 ?_ (zbn hs hp ds ms.tail j0 (n + 1) vs ds2 _ ls' h1 hb (hrest hbeq hbeq4) hls (by simpa using hlen) hvt)
       rcases hav with h | ⟨⟨e, h, _⟩, _⟩
       · exact (zgs hp.ref hn hd1 (znh hn h)).1
       · rw [h] at hn; cases hn
     · rename_i hn
       simp only [Option.bind_eq_some_iff, Option.map_eq_some_iff] at h'
       obtain ⟨⟨dt, f1⟩, hd1, ⟨ds2, f2⟩, h1, h2⟩ := h'
       cases h2
       refine fin _ ds2 ?_ (zbn hs hp ds ms.tail j0 (n + 1) vs ds2 f2 ls' h1 (fun e => hb (by simp [e])) (hrest hbeq hbeq4) hls (by simpa using hlen) hvt)
       obtain ⟨cv, h3, h4⟩ := zc7 hs hp.seen hd1 (fun e => hb (by simp [e])) (hav.imp id fun ⟨⟨e, h, _⟩, h2⟩ => ⟨⟨e, h⟩, h2⟩)
       exact ⟨cv, by rw [hp.W]; exact h3, h4⟩
end Go.Den
namespace Go.Den
open Go Go.RowKit
set_option linter.unusedVariables false
theorem memN_iff {x : Nat} : ∀ {l : List Nat}, memN x l = true ↔ x ∈ l
 | [] => by simp [memN]
 | a :: l => by
   unfold memN
   split
   · rename_i h
     simp [beq_eq.1 h]
   · rename_i h
     rw [memN_iff]
     have := beq_ne.1 h
     simp [this]
theorem zjl {x : Nat} : ∀ {l : List Nat}, memN x l = true → idx x l < l.length ∧ l[idx x l]? = some x
 | [], h => by cases h
 | a :: l, h => by
   unfold memN at h
   unfold idx
   split at h
   · rename_i hb
     have hb' : Nat.beq a x = true := by rw [beq_eq] at hb ⊢; exact hb.symm
     rw [hb']
     simp [beq_eq.1 hb']
   · rename_i hb
     have hb' : Nat.beq a x = false := by rw [beq_ne] at hb ⊢; exact fun e => hb e.symm
     rw [hb']
     obtain ⟨h1, h2⟩ := zjl h
     simp only [List.length_cons, List.getElem?_cons_succ]
     exact ⟨by omega, h2⟩
theorem zhv : ∀ {l : List Nat} {i k : Nat}, l.Nodup → l[i]? = some k → idx k l = i
 | [], i, k, hn, h => by simp at h
 | a :: l, 0, k, hn, h => by
   simp at h
   subst h
   unfold idx
   have : Nat.beq a a = true := beq_eq.2 rfl
   rw [this]
 | a :: l, i + 1, k, hn, h => by
   have h' : l[i]? = some k := by simpa using h
   have hne : a ≠ k := by
    intro e
    subst e
    exact (List.nodup_cons.1 hn).1 (List.mem_of_getElem? h')
   unfold idx
   rw [beq_ne.2 hne]
   rw [zhv (List.nodup_cons.1 hn).2 h']
theorem zie {s : St} : ∀ {n k : Nat}, k ∈ s.keys n → k < n
 | 0, k, h => by simp [St.keys] at h
 | n + 1, k, h => by
   unfold St.keys at h
   split at h
   · rcases List.mem_cons.1 h with rfl | h
     · omega
     · have := zie h; omega
   · have := zie h; omega
theorem zdJ {s : St} : ∀ n : Nat, (s.keys n).Nodup
 | 0 => by simp [St.keys]
 | n + 1 => by
   unfold St.keys
   split
   · exact List.nodup_cons.2 ⟨fun h => Nat.lt_irrefl _ (zie h), zdJ n⟩
   · exact zdJ n
theorem zaD {m : Nat} {keys : List Nat} {r r' : Ref} (h : zad m keys r = some r') : zag m keys r' = r ∧ ∃ i, r' = .up i ∧ i < m + keys.length := by
 cases r with
 | loc n =>
   simp only [zad] at h
   split at h
   · rename_i hm
     cases h
     obtain ⟨h1, h2⟩ := zjl hm
     refine ⟨?_, m + idx n keys, rfl, by omega⟩
     have hb : Nat.blt (m + idx n keys) m = false := by
      cases hh : Nat.blt (m + idx n keys) m with
      | false => rfl
      | true =>
        have : m + idx n keys + 1 ≤ m := by simpa [Nat.blt] using hh
        omega
     simp only [zag, hb]
     rw [Nat.add_sub_cancel_left, h2]
   · cases h
 | up n =>
   simp only [zad] at h
   split at h
   · rename_i hb
     cases h
     refine ⟨by simp only [zag, hb], n, rfl, ?_⟩
     have : n + 1 ≤ m := by simpa [Nat.blt] using hb
     omega
   · cases h
theorem zfc {m : Nat} {keys : List Nat} (hk : keys.Nodup) {i : Nat} (hi : i < m + keys.length) : zad m keys (zag m keys (.up i)) = some (.up i) := by
 cases hb : Nat.blt i m with
 | true => simp only [zag, zad, hb]
 | false =>
   have hge : m ≤ i := by
    rcases Nat.lt_or_ge i m with h | h
    · have : Nat.blt i m = true := by simp [Nat.blt]; omega
      rw [this] at hb; cases hb
    · exact h
   have hlt : i - m < keys.length := by omega
   have hget := List.getElem?_eq_getElem hlt
   have hm : memN keys[i - m] keys = true := memN_iff.2 (List.getElem_mem _)
   simp only [zag, hb, hget, zad, hm]
   rw [zhv hk hget]
   congr 2
   omega
theorem zbw (r : Ref) : zad 0 [] r = none := by
 cases r with
 | loc n => rfl
 | up n => rfl
def zc6 : Role → Bool
 | .set => true
 | .out => true
 | .oth => true
 | _ => false
theorem stableB_iff {r : Role} : zc6 r = true ↔ stable r := by cases r <;> simp [zc6, stable]
def zbJ (X : Nat) (b : Bool) (ls : List (Pl × Row)) (m : Nat) (keys : List Nat) (p : Pl) : Role :=
 match zcl p ls with
 | some k => .row (.lent k)
 | none => match p with
   | .slot y l => match Nat.beq y X with
     | true => match l with | [j] => .row (.slot j []) | _ => .oth
     | false => match b with | true => .out | false => .oth
   | .cell r o => match zad m keys r with
     | some r' => .row (.cell r' o)
     | none => match b with | true => .out | false => .oth
   | .lent _ => match b with | true => .out | false => .oth
def calleeR (c : Cx) (X : Nat) (b : Bool) (ls : List (Pl × Row)) (m : Nat) (keys : List Nat) : Nat → Role := fun g =>
 match c.ρ g with
 | .set => .set
 | .out => .out
 | .oth => .oth
 | .row p => match decide ((c.H p).ownBlock = some g) with
   | false => .oth
   | true => zbJ X b ls m keys p
 | .box r => match zad m keys r with | some r' => .box r' | none => .oth
def Cx.callee (c : Cx) (X : Nat) (b : Bool) (ls : List (Pl × Row)) (m : Nat) (keys : List Nat) (s : St) : Cx where
 ty := c.ty
 ρ := calleeR c X b ls m keys
 β := fun r => match r with | .up n => c.β (zag m keys (.up n)) | .loc _ => 0
 H := fun q => match q with
  | .lent k => match ls[k]? with | some p => c.H p.1 | none => undef
  | .slot j l => c.H (.slot X (j :: l))
  | .cell r o => c.H (.cell (zag m keys r) o)
 W := c.W
 s := s
section
variable {c : Cx} {X : Nat} {b : Bool} {ls : List (Pl × Row)} {m : Nat} {keys : List Nat}
theorem zaS {g : Nat} {r : Role} (h : c.ρ g = r) (hr : r = .set ∨ r = .out ∨ r = .oth) : calleeR c X b ls m keys g = r := by
 unfold calleeR
 rcases hr with rfl | rfl | rfl <;> rw [h]
theorem zbP {g : Nat} {p : Pl} (h : c.ρ g = .row p) (ho : (c.H p).ownBlock = some g) : calleeR c X b ls m keys g = zbJ X b ls m keys p := by
 unfold calleeR
 have : decide ((c.H p).ownBlock = some g) = true := decide_eq_true ho
 rw [h]
 simp only [this]
theorem ownRole_ne {p : Pl} : zbJ X b ls m keys p ≠ .set ∧ (b = false → zbJ X b ls m keys p ≠ .out) := by
 refine ⟨fun h => ?_, fun hb h => ?_⟩
 · unfold zbJ at h
   split at h
   · cases h
   · split at h
     · split at h
       · split at h <;> cases h
       · split at h <;> cases h
     · split at h
       · cases h
       · split at h <;> cases h
     · split at h <;> cases h
 · subst hb
   unfold zbJ at h
   split at h
   · cases h
   · split at h
     · split at h
       · split at h <;> cases h
       · cases h
     · split at h <;> cases h
     · cases h
theorem zhU {g : Nat} {p : Pl} (h : c.ρ g = .row p) (ho : (c.H p).ownBlock ≠ some g) : calleeR c X b ls m keys g = .oth := by
 unfold calleeR
 have : decide ((c.H p).ownBlock = some g) = false := decide_eq_false ho
 rw [h]
 simp only [this]
theorem zfl {g : Nat} {r : Ref} (h : c.ρ g = .box r) : calleeR c X b ls m keys g = match zad m keys r with | some r' => .box r' | none => .oth := by
 unfold calleeR
 rw [h]
theorem zeF {g : Nat} (h : calleeR c X b ls m keys g = .set) : c.ρ g = .set := by
 unfold calleeR at h
 split at h
 · assumption
 · cases h
 · cases h
 · split at h
   · cases h
   · exact (ownRole_ne.1 h).elim
 · split at h <;> cases h
theorem zhE {g : Nat} (hb : b = false) (h : calleeR c X b ls m keys g = .out) : c.ρ g = .out := by
 unfold calleeR at h
 split at h
 · cases h
 · assumption
 · cases h
 · split at h
   · cases h
   · exact (ownRole_ne.2 hb h).elim
 · split at h <;> cases h
theorem zdD {tm : Array Value} {gp : Pl → Option Row} {op : Bool} {s' : St} (hs : Sim c tm) (hX : Ghost c tm X) (hgp : gp = hide ls op c.s.get) (hls : ∀ (k : Nat) (p : Pl) (r : Row), ls[k]? = some (p, r) → c.s.get p = some r)
 (hl : ∀ (k : Nat) (p : Pl) (r : Row), ls[k]? = some (p, r) → s'.get (.lent k) = some r) (hop : op = false → ∀ r, zad m keys r = none) (hbox : ∀ r r', (c.s.box r).isSome = true → zad m keys r = some r' → (s'.box r').isSome = true) :
 Passes c (c.callee X b ls m keys s') X ls m keys b gp := by
 have hnone : ∀ l, zcl (.slot X l) ls = none := fun l => by
  cases h : zcl (.slot X l) ls with
  | none => rfl
  | some k =>
    obtain ⟨r, h1⟩ := zcQ h
    exact (hX.get (hls k _ r h1) ⟨l, rfl⟩).elim
 refine ⟨⟨fun b' g hr => ?_, fun q r h => ?_, fun hb q r g hq ho hρ => ?_⟩, rfl, rfl, fun k p r hk => ⟨hl k p r hk, ?_⟩, fun j => ⟨rfl, fun g ho hρ => ?_⟩, fun r r' hr hr' => ⟨hbox r r' hr hr', ?_⟩⟩
 · rcases hr with h | ⟨h1, h⟩
   · exact .inl (zaS h (.inl rfl))
   · exact .inr ⟨h1, zaS h (.inr (.inl rfl))⟩
 · subst hgp
   unfold hide at h
   split at h
   · cases h
   · exact h
 · subst hgp hb
   unfold hide at hq
   split at hq
   · cases hq
   · rename_i hh
     simp only [Bool.or_eq_false_iff, Option.isSome_eq_false_iff, Option.isNone_iff_eq_none, Bool.and_eq_false_iff] at hh
     refine .inr ⟨rfl, ?_⟩
     show calleeR c X true ls m keys g = .out
     rw [zbP hρ ho]
     unfold zbJ
     rw [hh.1]
     cases q with
     | slot y l =>
       have hb : Nat.beq y X = false := beq_ne.2 (fun e => hX.get hq ⟨l, by rw [e]⟩)
       simp only [hb]
     | cell r0 o =>
       have : op = false := by
        rcases hh.2 with h | h
        · exact h
        · cases h
       simp only [hop this r0]
     | lent j => rfl
 · show (match ls[k]? with | some p => c.H p.1 | none => undef) = c.H p
   rw [hk]
 · show calleeR c X b ls m keys g = _
   rw [zbP hρ ho]
   unfold zbJ
   rw [hnone]
   have hb : Nat.beq X X = true := beq_eq.2 rfl
   simp only [hb]
 · obtain ⟨h1, i, rfl, _⟩ := zaD hr'
   show c.β (zag m keys (.up i)) = c.β r
   rw [h1]
theorem zgB {m : Nat} {keys : List Nat} : ∀ {cs cs' : List D}, zfr m keys cs = some cs' → cs'.length = cs.length ∧ ∀ (i : Nat) (d d' : D), cs[i]? = some d → cs'[i]? = some d' → (d = .junk ∧ d' = .junk) ∨ d.lift m keys = some d'
 | [], cs', h => by cases h; exact ⟨rfl, fun i d d' h => by simp at h⟩
 | d0 :: cs, cs', h => by
   have key : ∀ (x : D) (y : List D), zfr m keys cs = some y → ((d0 = .junk ∧ x = .junk) ∨ d0.lift m keys = some x) → cs' = x :: y → cs'.length = (d0 :: cs).length ∧ ∀ (i : Nat) (d d' : D), (d0 :: cs)[i]? = some d → cs'[i]? = some d' → (d = .junk ∧ d' = .junk) ∨ d.lift m keys = some d' := by
    intro x y hy hx he
    subst he
    obtain ⟨h1, h2⟩ := zgB hy
    refine ⟨by simp [h1], fun i d d' hd hd' => ?_⟩
    cases i with
    | zero =>
      simp at hd hd'
      subst hd hd'
      exact hx
    | succ i => exact h2 i d d' (by simpa using hd) (by simpa using hd')
   unfold zfr at h
   split at h
   · rename_i e; cases e
   · rename_i ds e
     injection e with e1 e2
     subst e2
     simp only [Option.map_eq_some_iff] at h
     obtain ⟨y, hy, h⟩ := h
     exact key .junk y hy (.inl ⟨e1, rfl⟩) h.symm
   · rename_i d ds _ e
     injection e with e1 e2
     subst e1 e2
     simp only [Option.bind_eq_some_iff, Option.map_eq_some_iff] at h
     obtain ⟨x, hx, y, hy, h⟩ := h
     exact key x y hy (.inr hx) h.symm
theorem zkj {m : Nat} {keys : List Nat} {cs cs' : List D} (h : zfr m keys cs = some cs') : isM cs' = isM cs := by
 obtain ⟨hl, h1⟩ := zgB h
 refine ziP hl fun d d' hd hd' => ?_
 rcases h1 0 d' d hd' hd with ⟨rfl, rfl⟩ | h2
 · rfl
 · cases d' with
   | etc e => cases e with
     | map r =>
       simp only [D.lift, Option.map_eq_some_iff] at h2
       obtain ⟨_, _, rfl⟩ := h2
       rfl
     | mark => cases h2; rfl
     | err => cases h2; rfl
     | vp _ _ => cases h2
   | dat _ => cases h2; rfl
   | own _ _ => cases h2; rfl
   | ptr r o =>
     simp only [D.lift, Option.map_eq_some_iff] at h2
     obtain ⟨_, _, rfl⟩ := h2
     rfl
   | fn f cap =>
     simp only [D.lift, Option.map_eq_some_iff] at h2
     obtain ⟨_, _, rfl⟩ := h2
     rfl
   | _ => cases h2
theorem zfH {tm vals : Array Value} {args : List D} {us : List (List D)} (hs : Sim c tm) (hX : Ghost c tm X) (hls : ∀ (k : Nat) (p : Pl) (r : Row), ls[k]? = some (p, r) → c.s.get p = some r) (hd : zaM ls = true)
 (hcell : ∀ (k : Nat) (p : Pl) (r : Row), ls[k]? = some (p, r) → ∀ r0 o, p = .cell r0 o → zad m keys r0 = none)
 (hus : ∀ (i : Nat) (cs' : List D), us[i]? = some cs' → ∃ r cs, zad m keys r = some (.up i) ∧ c.s.box r = some cs ∧ zfr m keys cs = some cs')
 (hbox : ∀ r r', (c.s.box r).isSome = true → zad m keys r = some r' → ((start args us (ls.map fun p => some p.2)).box r').isSome = true)
 (hargs : args.length = vals.size) (hv : ∀ (j : Nat) (d : D) (v : Value), args[j]? = some d → vals[j]? = some v → VR (c.callee X b ls m keys (start args us (ls.map fun p => some p.2))) (.slot j []) d v) :
 Sim (c.callee X b ls m keys (start args us (ls.map fun p => some p.2))) vals := by
 generalize hcc : c.callee X b ls m keys (start args us (ls.map fun p => some p.2)) = cc at hv
 have hrd : ∀ b' g, Rd c.ρ b' g → Rd cc.ρ b' g := fun b' g hr => by
  subst hcc
  rcases hr with h | ⟨h1, h⟩
  · exact .inl (zaS h (.inl rfl))
  · exact .inr ⟨h1, zaS h (.inr (.inl rfl))⟩
 refine ⟨fun y => ?_, fun r cs hb => ?_, fun k r hg => ?_⟩
 · have ht : cc.s.t y = args.getD y .undef := by subst hcc; rfl
   rw [ht]
   by_cases hy : y < args.length
   · have h1 := List.getElem?_eq_getElem hy
     have h2 : vals[y]? = some (vals[y]'(by omega)) := Array.getElem?_eq_getElem (by omega)
     have e1 : args.getD y .undef = args[y] := by simp [List.getD_eq_getElem?_getD, hy]
     have e2 : vals.getD y undef = vals[y]'(by omega) := by simp [Array.getD, show y < vals.size by omega]
     rw [e1, e2]
     exact hv y _ _ h1 h2
   · have e1 : args.getD y .undef = .undef := by simp [List.getD_eq_getElem?_getD, hy]
     have e2 : vals.getD y undef = undef := by simp [Array.getD, show ¬ y < vals.size by omega]
     rw [e1, e2]
     rfl
 · cases r with
   | loc n => subst hcc; cases hb
   | up i =>
     have hb' : us[i]? = some cs := by subst hcc; exact hb
     obtain ⟨r, cs0, h1, h2, h3⟩ := hus i cs hb'
     obtain ⟨h4, _⟩ := zaD h1
     obtain ⟨vs, T, h5, h6, h7, h8⟩ := (hs.boxes r cs0 h2).out
     obtain ⟨h9, h10⟩ := zgB h3
     have hβ : cc.β (.up i) = c.β r := by subst hcc; show c.β (zag m keys (.up i)) = _; rw [h4]
     refine ⟨vs, T, by rw [hβ, zkj h3]; subst hcc; exact h5, ?_, by omega, fun o d' v hd' hv' => ?_⟩
     · rw [hβ]
       subst hcc
       show calleeR c X b ls m keys _ = _
       rw [zfl h6, h1]
     · have hlt : o < cs0.length := by rw [← h9]; exact (List.getElem?_eq_some_iff.1 hd').1
       have hd := List.getElem?_eq_getElem hlt
       obtain ⟨h11, h12, h13⟩ := h8 o _ v hd hv'
       rcases h10 o _ d' hd hd' with ⟨_, rfl⟩ | hl
       · exact ⟨trivial, h12, rfl⟩
       · generalize cs0[o] = d at *
         cases d with
         | dat dd =>
           cases hl
           obtain ⟨cv, h14, h15⟩ := h11
           exact ⟨⟨cv, by subst hcc; exact h14.mono fun b' g hr _ => ⟨hrd b' g hr, rfl⟩, h15⟩, h12, rfl⟩
         | own e es =>
           cases hl
           have hH : cc.H (.cell (.up i) o) = c.H (.cell r o) := by subst hcc; show c.H (.cell (zag m keys (.up i)) o) = _; rw [h4]
           refine ⟨⟨by rw [hH]; exact h11.1, RowAt.ok ?_⟩, h12, rfl⟩
           rw [hH]
           have hrow := h11.2.at_
           refine hrow.re (by subst hcc; rfl) (fun b' g hr _ => ⟨hrd b' g hr, by subst hcc; rfl⟩) fun g hg => ⟨?_, by subst hcc; rfl⟩
           subst hcc
           show calleeR c X b ls m keys g = _
           rw [zbP (hrow.choose_spec.choose_spec.2.2.2 g hg) hg]
           have hpos : zcl (.cell r o) ls = none := by
            cases hp : zcl (.cell r o) ls with
            | none => rfl
            | some k =>
              obtain ⟨r0, h16⟩ := zcQ hp
              have := hcell k _ r0 h16 r o rfl
              rw [h1] at this
              cases this
           unfold zbJ
           rw [hpos]
           simp only [h1]
         | ptr r1 o1 =>
           have href : ∀ r r', (c.s.box r).isSome = true → zad m keys r = some r' → (cc.s.box r').isSome = true ∧ cc.β r' = c.β r := fun r r' hr hr' => by
            obtain ⟨h16, j, rfl, _⟩ := zaD hr'
            subst hcc
            exact ⟨hbox r _ hr hr', by show c.β (zag m keys (.up j)) = _; rw [h16]⟩
           obtain ⟨h16, h17⟩ := zgs (q := .cell (.up i) o) href rfl hl h11
           refine ⟨h16, h12, ?_⟩
           simp only [D.lift, Option.map_eq_some_iff] at hl
           obtain ⟨_, _, rfl⟩ := hl
           rfl
         | fn f cap =>
           have href : ∀ r r', (c.s.box r).isSome = true → zad m keys r = some r' → (cc.s.box r').isSome = true ∧ cc.β r' = c.β r := fun r r' hr hr' => by
            obtain ⟨h16, j, rfl, _⟩ := zaD hr'
            subst hcc
            exact ⟨hbox r _ hr hr', by show c.β (zag m keys (.up j)) = _; rw [h16]⟩
           obtain ⟨h16, h17⟩ := zgs (q := .cell (.up i) o) href rfl hl h11
           refine ⟨h16, h12, ?_⟩
           simp only [D.lift, Option.map_eq_some_iff] at hl
           obtain ⟨_, _, rfl⟩ := hl
           rfl
         | etc e =>
           have href : ∀ r r', (c.s.box r).isSome = true → zad m keys r = some r' → (cc.s.box r').isSome = true ∧ cc.β r' = c.β r := fun r r' hr hr' => by
            obtain ⟨h16, j, rfl, _⟩ := zaD hr'
            subst hcc
            exact ⟨hbox r _ hr hr', by show c.β (zag m keys (.up j)) = _; rw [h16]⟩
           have hnr : zgo (.etc e) = false := by cases e <;> first | rfl | cases hl
           obtain ⟨h16, h17⟩ := zgs (q := .cell (.up i) o) href hnr hl h11
           refine ⟨h16, h12, ?_⟩
           cases e with
           | map r =>
             simp only [D.lift, Option.map_eq_some_iff] at hl
             obtain ⟨_, _, rfl⟩ := hl
             rfl
           | mark => cases hl; rfl
           | err => cases hl; rfl
           | vp _ _ => cases hl
         | _ => cases hl
 · have hg' : (ls.map fun p => some p.2)[k]?.bind id = some r := by subst hcc; exact hg
   have hk : ∃ p, ls[k]? = some (p, r) := by
    rw [List.getElem?_map] at hg'
    cases hlk : ls[k]? with
    | none => rw [hlk] at hg'; cases hg'
    | some q =>
      rw [hlk] at hg'
      simp at hg'
      exact ⟨q.1, by rw [← hg']⟩
   obtain ⟨p, hk⟩ := hk
   have hrow := (hs.row (hls k p r hk)).at_
   have hH : cc.H (.lent k) = c.H p := by subst hcc; show (match ls[k]? with | some p => c.H p.1 | none => undef) = _; rw [hk]
   refine RowAt.ok ?_
   rw [hH]
   refine hrow.re (by subst hcc; rfl) (fun b' g hr _ => ⟨hrd b' g hr, by subst hcc; rfl⟩) fun g hgo => ⟨?_, by subst hcc; rfl⟩
   subst hcc
   show calleeR c X b ls m keys g = _
   rw [zbP (hrow.choose_spec.choose_spec.2.2.2 g hgo) hgo]
   unfold zbJ
   rw [zeo hd k p r hk]
end
end Go.Den
namespace Go.Den
open Go Go.RowKit
set_option linter.unusedVariables false
theorem zbH : ∀ d : D, d.plain = true → d.tight false = true := by
 have key : ∀ n : Nat, ∀ d : D, SizeOf.sizeOf d ≤ n → d.plain = true → d.tight false = true := by
  intro n
  induction n with
  | zero => intro d hd; cases d <;> simp at hd
  | succ n ih =>
    intro d hd hp
    cases d with
    | dat d => rfl
    | own e es => rfl
    | etc e => cases e <;> first | rfl | cases hp
    | undef => rfl
    | seq t ds =>
      have hp' : D.plains ds = true := hp
      show D.tights false ds = true
      have hs : ∀ d ∈ ds, SizeOf.sizeOf d ≤ n := by
       intro d hd'
       have := List.sizeOf_lt_of_mem hd'
       simp at hd
       omega
      clear hd hp
      induction ds with
      | nil => rfl
      | cons e ds ih2 =>
        have hp2 : (e.plain && D.plains ds) = true := hp'
        simp only [Bool.and_eq_true] at hp2
        show (e.tight false && D.tights false ds) = true
        rw [ih e (hs e (by simp)) hp2.1, ih2 hp2.2 (fun d hd => hs d (List.mem_cons_of_mem _ hd))]
        rfl
    | _ => cases hp
 exact fun d => key _ d (Nat.le_refl _)
mutual
theorem zdt {c : Cx} (s : St) : ∀ (p : Pl) (d : D) (v : Value), d.plain = true → VR c p d v → VR { c with s := s } p d v
 | p, .dat d, v, hp, h => h
 | p, .own e es, v, hp, h => ⟨h.1, ⟨h.2.out⟩⟩
 | p, .undef, v, hp, h => h
 | p, .etc .err, v, hp, h => h
 | p, .etc (.map _), v, hp, h => by cases hp
 | p, .etc .mark, v, hp, h => by cases hp
 | p, .etc (.vp _ _), v, hp, h => by cases hp
 | p, .seq t ds, v, hp, ⟨vs, h1, h2, h3⟩ => ⟨vs, h1, h2, zhA s p 0 ds vs hp h3⟩
 | p, .bor _ _, v, hp, h => by cases hp
 | p, .bp _ _ _, v, hp, h => by cases hp
 | p, .sb _ _ _, v, hp, h => by cases hp
 | p, .ep _ _, v, hp, h => by cases hp
 | p, .ptr _ _, v, hp, h => by cases hp
 | p, .fn _ _, v, hp, h => by cases hp
 | p, .junk, v, hp, h => by cases hp
theorem zhA {c : Cx} (s : St) : ∀ (p : Pl) (i : Nat) (ds : List D) (vs : List Value), D.plains ds = true → VRs c p i ds vs → VRs { c with s := s } p i ds vs
 | p, i, [], vs, hp, h => h
 | p, i, d :: ds, vs, hp, ⟨v, vs', h1, h2, h3⟩ => by
   have hp' : (d.plain && D.plains ds) = true := hp
   simp only [Bool.and_eq_true] at hp'
   exact ⟨v, vs', h1, zdt s (p.sub i) d v hp'.1 h2, zhA s p (i + 1) ds vs' hp'.2 h3⟩
end
theorem zdP {rs : List D} (h : D.plains rs = true) : (retD rs).plain = true := by
 cases rs with
 | nil => rfl
 | cons r rs =>
   cases rs with
   | nil =>
     have h' : (r.plain && D.plains []) = true := h
     simp only [Bool.and_eq_true] at h'
     exact h'.1
   | cons r2 rs => exact h
theorem zjc {rs : List D} (h : D.cleans rs = true) : (retD rs).clean = true := by
 cases rs with
 | nil => rfl
 | cons r rs =>
   cases rs with
   | nil =>
     have h' : (r.clean && D.cleans []) = true := h
     simp only [Bool.and_eq_true] at h'
     exact h'.1
   | cons r2 rs => exact h
def tr (x : Nat) (ls : List (Pl × Row)) (m : Nat) (keys : List Nat) : Role → Role
 | .set => .set
 | .out => .out
 | .oth => .oth
 | .row (.lent k) => match ls[k]? with | some p => .row p.1 | none => .oth
 | .row (.slot y l) => match Nat.beq y 0 with | true => .row (.slot x l) | false => .oth
 | .row (.cell r o) => .row (.cell (zag m keys r) o)
 | .box r => .box (zag m keys r)
def zbg (c : Cx) : List (Pl × Row) → Nat → Bool
 | [], _ => false
 | (p, _) :: S, g => decide ((c.H p).ownBlock = some g) || zbg c S g
def zbY (c c' : Cx) (S : List (Pl × Row)) : World := { c'.W with heap := c'.W.heap.mapIdx fun g o => match zbg c S g with | true => (c.W.heap[g]?).getD o | false => o }
def Cx.ret (c c' : Cx) (X x : Nat) (b : Bool) (ls : List (Pl × Row)) (m : Nat) (keys : List Nat) (S : List (Pl × Row)) (s : St) : Cx where
 ty := c.ty
 ρ := fun g => match decide (g < c.W.heap.size) && zc6 (calleeR c X b ls m keys g) with | true => c.ρ g | false => tr x ls m keys (c'.ρ g)
 β := c.β
 H := fun q => match q with
  | .cell r o => match zad m keys r with | some r' => c'.H (.cell r' o) | none => c.H (.cell r o)
  | q => c.H q
 W := zbY c c' S
 s := s
theorem heldBy_iff {c : Cx} : ∀ {S : List (Pl × Row)} {g : Nat}, zbg c S g = true ↔ ∃ (k : Nat) (p : Pl) (r : Row), S[k]? = some (p, r) ∧ (c.H p).ownBlock = some g
 | [], g => by simp [zbg]
 | (p, r) :: S, g => by
   simp only [zbg, Bool.or_eq_true, decide_eq_true_eq]
   rw [heldBy_iff (S := S)]
   constructor
   · rintro (h | ⟨k, q, r', h1, h2⟩)
     · exact ⟨0, p, r, rfl, h⟩
     · exact ⟨k + 1, q, r', by simpa using h1, h2⟩
   · rintro ⟨k, q, r', h1, h2⟩
     cases k with
     | zero =>
       simp at h1
       rw [← h1.1] at h2
       exact .inl h2
     | succ k => exact .inr ⟨k, q, r', by simpa using h1, h2⟩
theorem zbu {c c' : Cx} {S : List (Pl × Row)} {g : Nat} : (zbY c c' S).heap[g]? = match zbg c S g with | true => (c'.W.heap[g]?).map fun o => (c.W.heap[g]?).getD o | false => c'.W.heap[g]? := by
 simp only [zbY, Array.getElem?_mapIdx]
 cases h : zbg c S g with
 | true => rfl
 | false => simp
theorem zbv {c c' : Cx} : zbY c c' [] = c'.W := by
 unfold zbY
 have : c'.W.heap.mapIdx (fun g o => match zbg c [] g with | true => (c.W.heap[g]?).getD o | false => o) = c'.W.heap := by
  apply Array.ext (by simp)
  intro i h1 h2
  simp [zbg]
 rw [this]
structure Came (c cc c' : Cx) (tm : Array Value) (X x : Nat) (b : Bool) (ls : List (Pl × Row)) (m : Nat) (keys : List Nat) (args : List D) (us : List (List D)) (rs : List D) (u' : List (List D)) (l' : List (Option Row)) (v : Value) (cR : Cx) : Prop where
 sim : Sim c tm
 ghost : Ghost c tm X
 ceq : cc = c.callee X b ls m keys (start args us (ls.map fun p => some p.2))
 ans : Answer cc rs u' l' v c'
 dis : zaM ls = true
 get : ∀ (k : Nat) (p : Pl) (r : Row), ls[k]? = some (p, r) → c.s.get p = some r
 cell : ∀ (k : Nat) (p : Pl) (r : Row), ls[k]? = some (p, r) → ∀ r0 o, p = .cell r0 o → zad m keys r0 = none
 ulen : us.length = m + keys.length
 nodup : keys.Nodup
 back : ∀ (k : Nat) (p : Pl) (r : Row), ls[k]? = some (p, r) → ∃ q, l'[k]? = some (some (r.1, q))
 zlM : ∀ r i, zad m keys r = some (.up i) → (c.s.box r).isSome = true
 -- what the callee leaves, of what may be read zeh it
 cRρ : ∀ b' g, Rd cR.ρ b' g → Rd c'.ρ b' g ∧ (g < c.W.heap.size → stable (calleeR c X b ls m keys g) → Rd c.ρ b' g)
 cRrow : ∀ g p, cR.ρ g = .row p → c'.ρ g = .row p
 cRW : cR.W = c'.W
 cRty : cR.ty = c'.ty
 cRH : cR.H = c'.H
 cRβ : cR.β = c'.β
 cRs : cR.s = c'.s
 rbox : ∀ r cs, c'.s.box r = some cs → ∃ (vs : List Value) (T : BT), c'.W.heap[c'.β r]? = some (zgb (isM cs) T vs) ∧ c'.ρ (c'.β r) = .box r ∧ vs.length = cs.length ∧ ∀ (i : Nat) (d : D) (v : Value), cs[i]? = some d → vs[i]? = some v → VR cR (.cell r i) d v ∧ v.oneCell' = true ∧ zap d = true
 rlent : ∀ k r, c'.s.get (.lent k) = some r → RowOK cR (.lent k) r.1 r.2
 rval : VR cR (.slot 0 []) (retD rs) v
 plain : (retD rs).plain = true
section
variable {c cc c' cR : Cx} {tm : Array Value} {X x m : Nat} {b : Bool} {ls : List (Pl × Row)} {keys : List Nat} {args rs : List D} {us u' : List (List D)} {l' : List (Option Row)} {v : Value}
theorem Came.kept (h : Came c cc c' tm X x b ls m keys args us rs u' l' v cR) {g : Nat} (hg : g < c.W.heap.size) (hst : stable (calleeR c X b ls m keys g)) : c'.ρ g = calleeR c X b ls m keys g ∧ c'.W.heap[g]? = c.W.heap[g]? := by
 have := h.ans.ext.keep g (by rw [h.ceq]; exact hg) (by rw [h.ceq]; exact hst)
 rw [h.ceq] at this
 exact this
theorem Came.lentGet (h : Came c cc c' tm X x b ls m keys args us rs u' l' v cR) {k : Nat} {p : Pl} {r : Row} (hk : ls[k]? = some (p, r)) : ∃ q, c'.s.get (.lent k) = some (r.1, q) ∧ l'[k]? = some (some (r.1, q)) := by
 obtain ⟨q, hq⟩ := h.back k p r hk
 refine ⟨q, ?_, hq⟩
 rw [h.ans.s]
 simp [St.get, hq]
theorem Came.lentH (h : Came c cc c' tm X x b ls m keys args us rs u' l' v cR) {k : Nat} {p : Pl} {r : Row} (hk : ls[k]? = some (p, r)) : c'.H (.lent k) = c.H p := by
 rw [h.ans.ext.lentH k, h.ceq]
 show (match ls[k]? with | some p => c.H p.1 | none => undef) = c.H p
 rw [hk]
theorem Came.lentRow (h : Came c cc c' tm X x b ls m keys args us rs u' l' v cR) {k : Nat} {p : Pl} {r : Row} {g : Nat} (hk : ls[k]? = some (p, r)) (hg : (c.H p).ownBlock = some g) : c'.ρ g = .row (.lent k) := by
 obtain ⟨q, h1, _⟩ := h.lentGet hk
 have hrow := h.rlent k _ h1
 refine h.cRrow g _ (hrow.at_.choose_spec.choose_spec.2.2.2 g ?_)
 rw [h.cRH, h.lentH hk]
 exact hg
theorem Came.ρ_old (h : Came c cc c' tm X x b ls m keys args us rs u' l' v cR) {S : List (Pl × Row)} {s : St} {g : Nat} (hg : g < c.W.heap.size) (hst : stable (calleeR c X b ls m keys g)) : (c.ret c' X x b ls m keys S s).ρ g = c.ρ g := by
 have h1 : decide (g < c.W.heap.size) = true := decide_eq_true hg
 have h2 : zc6 (calleeR c X b ls m keys g) = true := stableB_iff.2 hst
 simp only [Cx.ret, h1, h2, Bool.and_self]
theorem Came.ρ_tr (h : Came c cc c' tm X x b ls m keys args us rs u' l' v cR) {S : List (Pl × Row)} {s : St} {g : Nat} (hn : ¬ stable (c'.ρ g)) : (c.ret c' X x b ls m keys S s).ρ g = tr x ls m keys (c'.ρ g) := by
 cases h1 : decide (g < c.W.heap.size) && zc6 (calleeR c X b ls m keys g) with
 | false => simp only [Cx.ret, h1]
 | true =>
   exfalso
   simp only [Bool.and_eq_true, decide_eq_true_eq] at h1
   have h2 := stableB_iff.1 h1.2
   have h3 := (h.kept h1.1 h2).1
   rw [h3] at hn
   exact hn h2
theorem Came.ρ_row (h : Came c cc c' tm X x b ls m keys args us rs u' l' v cR) {S : List (Pl × Row)} {s : St} {g : Nat} {p : Pl} (hr : cR.ρ g = .row p) : (c.ret c' X x b ls m keys S s).ρ g = tr x ls m keys (.row p) := by
 have h1 := h.cRrow g p hr
 rw [h.ρ_tr (by rw [h1]; exact fun e => e), h1]
theorem Came.heap (h : Came c cc c' tm X x b ls m keys args us rs u' l' v cR) {S : List (Pl × Row)} {g : Nat} (hS : ∀ (k : Nat) (p : Pl) (r : Row), S[k]? = some (p, r) → ∃ k' : Nat, ls[k']? = some (p, r)) (hne : ∀ (k : Nat) (p : Pl) (r : Row), ls[k]? = some (p, r) → (c.H p).ownBlock = some g → c'.ρ g ≠ .row (.lent k)) : (zbY c c' S).heap[g]? = c'.W.heap[g]? := by
 rw [zbu]
 cases hh : zbg c S g with
 | false => rfl
 | true =>
   exfalso
   obtain ⟨k, p, r, h1, h2⟩ := heldBy_iff.1 hh
   obtain ⟨k', h3⟩ := hS k p r h1
   exact hne k' p r h3 h2 (h.lentRow h3 h2)
theorem Came.rd (h : Came c cc c' tm X x b ls m keys args us rs u' l' v cR) {S : List (Pl × Row)} {s : St} (hS : ∀ (k : Nat) (p : Pl) (r : Row), S[k]? = some (p, r) → ∃ k' : Nat, ls[k']? = some (p, r)) : ∀ b' g, Rd cR.ρ b' g → g < cR.W.heap.size → Rd (c.ret c' X x b ls m keys S s).ρ b' g ∧ (c.ret c' X x b ls m keys S s).W.heap[g]? = cR.W.heap[g]? := by
 intro b' g hr hg
 obtain ⟨h1, h2⟩ := h.cRρ b' g hr
 refine ⟨?_, ?_⟩
 · by_cases hold : g < c.W.heap.size ∧ stable (calleeR c X b ls m keys g)
   · have := h2 hold.1 hold.2
     unfold Rd at this ⊢
     rw [h.ρ_old hold.1 hold.2]
     exact this
   · have h3 : (decide (g < c.W.heap.size) && zc6 (calleeR c X b ls m keys g)) = false := by
      cases hh : decide (g < c.W.heap.size) && zc6 (calleeR c X b ls m keys g) with
      | false => rfl
      | true =>
        simp only [Bool.and_eq_true, decide_eq_true_eq] at hh
        exact absurd ⟨hh.1, stableB_iff.1 hh.2⟩ hold
     have h4 : (c.ret c' X x b ls m keys S s).ρ g = tr x ls m keys (c'.ρ g) := by simp only [Cx.ret, h3]
     unfold Rd
     rw [h4]
     rcases h1 with e | ⟨e1, e⟩ <;> rw [e]
     · exact .inl rfl
     · exact .inr ⟨e1, rfl⟩
 · rw [h.cRW]
   refine h.heap hS fun k p r _ _ e => ?_
   rcases h1 with e1 | ⟨_, e1⟩ <;> rw [e1] at e <;> cases e
theorem Came.cellBack (h : Came c cc c' tm X x b ls m keys args us rs u' l' v cR) {S : List (Pl × Row)} {s : St} (hS : ∀ (k : Nat) (p : Pl) (r : Row), S[k]? = some (p, r) → ∃ k' : Nat, ls[k']? = some (p, r)) (hs : ∀ i, i < m + keys.length → (s.box (zag m keys (.up i))).isSome = true) {r : Ref} {i o : Nat} {d : D} {u : Value} (hr : zad m keys r = some (.up i)) (hv : VR cR (.cell (.up i) o) d u) (hd : zap d = true) :
 VR (c.ret c' X x b ls m keys S s) (.cell r o) (d.unlift m keys) u ∧ zap (d.unlift m keys) = true := by
 have href : ∀ r1, (cR.s.box r1).isSome = true → (s.box (zag m keys r1)).isSome = true ∧ c.β (zag m keys r1) = cR.β r1 := by
  intro r1 h1
  rw [h.cRs, h.ans.s] at h1
  cases r1 with
  | loc n => simp [St.box] at h1
  | up j =>
    have hlt : j < m + keys.length := by
     have h2 : j < u'.length := by
      cases hj : u'[j]? with
      | none => simp [St.box, hj] at h1
      | some cs => exact (List.getElem?_eq_some_iff.1 hj).1
     have h3 := h.ans.len
     rw [h.ceq] at h3
     have h4 : u'.length = us.length := h3
     rw [h4, h.ulen] at h2
     exact h2
    refine ⟨hs j hlt, ?_⟩
    rw [h.cRβ, h.ans.ext.up j, h.ceq]
    rfl
 cases d with
 | dat dd =>
   obtain ⟨cv, h1, h2⟩ := hv
   exact ⟨⟨cv, h1.mono (h.rd hS), h2⟩, rfl⟩
 | own e es =>
   have hrow := hv.2.at_
   have hH : (c.ret c' X x b ls m keys S s).H (.cell r o) = cR.H (.cell (.up i) o) := by
    rw [h.cRH]
    simp only [Cx.ret, hr]
   refine ⟨⟨by rw [hH]; exact hv.1, RowAt.ok ?_⟩, rfl⟩
   rw [hH]
   refine hrow.re (by rw [h.cRty, h.ans.ext.ty, h.ceq]; rfl) (h.rd hS) fun g hg => ?_
   have hrole := hrow.choose_spec.choose_spec.2.2.2 g hg
   refine ⟨?_, ?_⟩
   · rw [h.ρ_row hrole]
     show Role.row (.cell (zag m keys (.up i)) o) = _
     rw [(zaD hr).1]
   · rw [h.cRW]
     refine h.heap hS fun k p r0 _ _ e => ?_
     rw [h.cRrow g _ hrole] at e
     cases e
 | ptr r1 o1 =>
   obtain ⟨h1, h2⟩ := href r1 hv.1
   exact ⟨⟨h1, by show u = .pointer (some ⟨c.β (zag m keys r1), o1, none⟩); rw [h2]; exact hv.2⟩, rfl⟩
 | fn f cap =>
   refine ⟨⟨fun r1 hr1 => ?_, ?_⟩, rfl⟩
   · obtain ⟨r2, h3, rfl⟩ := List.mem_map.1 hr1
     exact (href r2 (hv.1 r2 h3)).1
   · rw [hv.2]
     congr 2
     rw [List.map_map]
     refine List.map_congr_left fun r1 hr1 => ?_
     show _ = Value.pointer (some ⟨c.β (zag m keys r1), 0, none⟩)
     rw [(href r1 (hv.1 r1 hr1)).2]
 | junk => exact ⟨trivial, rfl⟩
 | etc e =>
   cases e with
   | map r1 =>
     obtain ⟨h1, h2⟩ := href r1 hv.1
     exact ⟨⟨h1, by show u = .map (some (c.β (zag m keys r1))); rw [h2]; exact hv.2⟩, rfl⟩
   | mark => exact ⟨hv, rfl⟩
   | err => exact ⟨hv, rfl⟩
   | vp _ _ => exact ⟨trivial, rfl⟩
 | _ => cases hd
theorem zje (cs : List D) : isM (cs.map (D.unlift m keys)) = isM cs := by
 cases cs with
 | nil => rfl
 | cons d l =>
   rw [List.map_cons, zbi, zbi d]
   cases d with
   | etc e => cases e <;> rfl
   | _ => rfl
theorem Came.base (h : Came c cc c' tm X x b ls m keys args us rs u' l' v cR) {K : Kill} {s : St} (hKr : ∀ r, K.ref r = false) (ht : ∀ y, s.t y = (c.s.t y).kill K) (hsl : s.l = c.s.l) (hK : ∀ q, K.pl q = false → ∀ r o, q = .cell r o → zad m keys r = none)
 (hb1 : ∀ r i, zad m keys r = some (.up i) → s.box r = (u'[i]?).map fun cs => cs.map (D.unlift m keys)) (hb2 : ∀ r, zad m keys r = none → s.box r = c.s.box r) : Sim (c.ret c' X x b ls m keys ls s) tm := by
 have hS : ∀ (k : Nat) (p : Pl) (r : Row), ls[k]? = some (p, r) → ∃ k' : Nat, ls[k']? = some (p, r) := fun k p r h => ⟨k, h⟩
 have hul : u'.length = m + keys.length := by
  have h3 := h.ans.len
  rw [h.ceq] at h3
  have h4 : u'.length = us.length := h3
  rw [h4, h.ulen]
 have hbs : ∀ r i, zad m keys r = some (.up i) → (s.box r).isSome = true := fun r i hr => by
  rw [hb1 r i hr]
  obtain ⟨_, j, h1, h2⟩ := zaD hr
  cases h1
  rw [List.getElem?_eq_getElem (by omega)]
  rfl
 have hsb : ∀ i, i < m + keys.length → (s.box (zag m keys (.up i))).isSome = true := fun i hi => hbs _ i (zfc h.nodup hi)
 have hH : ∀ q, (∀ r o, q = .cell r o → zad m keys r = none) → (c.ret c' X x b ls m keys ls s).H q = c.H q := fun q hq => by
  cases q with
  | cell r o => simp only [Cx.ret, hq r o rfl]
  | _ => rfl
 have hget : ∀ q r, c.s.get q = some r → K.pl q = false → s.get q = some r := fun q r hq hk => by
  cases q with
  | slot y l =>
    show (D.at_ l (s.t y)).row? = _
    rw [ht, zaZ]
    exact hq
  | cell r0 o =>
    have := hK _ hk r0 o rfl
    simp only [St.get] at hq ⊢
    rw [hb2 r0 this]
    exact hq
  | lent j =>
    simp only [St.get] at hq ⊢
    rw [hsl]
    exact hq
 have mm : Mono c (c.ret c' X x b ls m keys ls s) K (fun q => (∃ r o, q = .cell r o ∧ zad m keys r ≠ none) ∨ zaI X q) := by
  refine ⟨rfl, fun b' g hr hg => ?_, fun q r hq hk => ⟨hget q r hq hk, hH q (hK q hk)⟩, fun r hr _ => ⟨?_, rfl⟩, fun q hq => ⟨hH q fun r o e => ?_, fun g hρ hg => ?_⟩⟩
  · have hst : stable (calleeR c X b ls m keys g) := by
     rcases hr with e | ⟨_, e⟩
     · rw [zaS e (.inl rfl)]; trivial
     · rw [zaS e (.inr (.inl rfl))]; trivial
    refine ⟨by unfold Rd; rw [h.ρ_old hg hst]; exact hr, ?_⟩
    show (zbY c c' ls).heap[g]? = _
    rw [zbu, (h.kept hg hst).2]
    cases zbg c ls g with
    | false => rfl
    | true =>
      simp only
      rw [Array.getElem?_eq_getElem hg]
      rfl
  · show (s.box r).isSome = true
    cases hl : zad m keys r with
    | none => rw [hb2 r hl]; exact hr
    | some r' =>
      obtain ⟨_, i, rfl, _⟩ := zaD hl
      exact hbs r i hl
  · cases hl : zad m keys r with
    | none => rfl
    | some r' => exact absurd (.inl ⟨r, o, e, by rw [hl]; exact fun e => by cases e⟩) hq
  · by_cases ho : (c.H q).ownBlock = some g
    · cases hpos : zcl q ls with
      | some k =>
        obtain ⟨r, hk⟩ := zcQ hpos
        have h1 := h.lentRow hk ho
        refine ⟨?_, ?_⟩
        · rw [h.ρ_tr (by rw [h1]; exact fun e => e), h1]
          show (match ls[k]? with | some p => Role.row p.1 | none => .oth) = _
          rw [hk]
        · show (zbY c c' ls).heap[g]? = _
          rw [zbu]
          have hh : zbg c ls g = true := heldBy_iff.2 ⟨k, q, r, hk, ho⟩
          rw [hh]
          simp only
          have hsz : g < c'.W.heap.size := Nat.lt_of_lt_of_le hg (by have := h.ans.ext.size; rw [h.ceq] at this; exact this)
          rw [Array.getElem?_eq_getElem hsz, Array.getElem?_eq_getElem hg]
          rfl
      | none =>
        have hst : stable (calleeR c X b ls m keys g) := by
         rw [zbP hρ ho]
         unfold zbJ
         rw [hpos]
         cases q with
         | slot y l =>
           have hb : Nat.beq y X = false := beq_ne.2 (fun e => hq (.inr ⟨l, by rw [e]⟩))
           simp only [hb]
           cases b <;> trivial
         | cell r o =>
           have hl : zad m keys r = none := by
            cases hl : zad m keys r with
            | none => rfl
            | some r' => exact absurd (.inl ⟨r, o, rfl, by rw [hl]; exact fun e => by cases e⟩) hq
           simp only [hl]
           cases b <;> trivial
         | lent j => cases b <;> trivial
        refine ⟨by rw [h.ρ_old hg hst]; exact hρ, ?_⟩
        show (zbY c c' ls).heap[g]? = _
        rw [zbu, (h.kept hg hst).2]
        cases zbg c ls g with
        | false => rfl
        | true =>
          simp only
          rw [Array.getElem?_eq_getElem hg]
          rfl
    · have hst : stable (calleeR c X b ls m keys g) := by rw [zhU hρ ho]; trivial
      refine ⟨by rw [h.ρ_old hg hst]; exact hρ, ?_⟩
      show (zbY c c' ls).heap[g]? = _
      rw [zbu, (h.kept hg hst).2]
      cases zbg c ls g with
      | false => rfl
      | true =>
        simp only
        rw [Array.getElem?_eq_getElem hg]
        rfl
 refine ⟨fun y => ?_, fun r cs hb => ?_, fun j r hg => ?_⟩
 · show VR _ _ (s.t y) _
   rw [ht]
   refine VR.mono mm _ _ _ (fun l r hr e => ?_) (h.sim.slots y)
   rw [zaj] at e
   rcases e with ⟨r0, o, e, _⟩ | e
   · cases e
   · exact h.ghost.get (q := .slot y l) hr e
 · cases hl : zad m keys r with
   | some r' =>
     obtain ⟨hun, i, rfl, hi⟩ := zaD hl
     have hb' : s.box r = some cs := hb
     rw [hb1 r i hl] at hb'
     simp only [Option.map_eq_some_iff] at hb'
     obtain ⟨cs0, hu, rfl⟩ := hb'
     have hbx : c'.s.box (.up i) = some cs0 := by rw [h.ans.s]; exact hu
     obtain ⟨vs, T, h1, h2, h3, h4⟩ := h.rbox (.up i) cs0 hbx
     have hβ : c'.β (.up i) = c.β r := by
      rw [h.ans.ext.up i, h.ceq]
      show c.β (zag m keys (.up i)) = _
      rw [hun]
     rw [hβ] at h1 h2
     refine ⟨vs, T, ?_, ?_, by simp [h3], fun o d u hd hu' => ?_⟩
     · rw [zje]
       show (zbY c c' ls).heap[c.β r]? = _
       rw [h.heap hS fun k p r0 _ _ e => ?_]
       · exact h1
       · rw [h2] at e
         cases e
     · show (c.ret c' X x b ls m keys ls s).ρ (c.β r) = _
       rw [h.ρ_tr (by rw [h2]; exact fun e => e), h2]
       show Role.box (zag m keys (.up i)) = _
       rw [hun]
     · rw [List.getElem?_map] at hd
       simp only [Option.map_eq_some_iff] at hd
       obtain ⟨d0, hd0, rfl⟩ := hd
       obtain ⟨h5, h6, h7⟩ := h4 o d0 u hd0 hu'
       obtain ⟨h8, h9⟩ := h.cellBack hS hsb hl h5 h7
       exact ⟨h8, h6, h9⟩
   | none =>
     have hb' : c.s.box r = some cs := by rw [← hb2 r hl]; exact hb
     obtain ⟨vs, T, h1, h2, h3, h4⟩ := (h.sim.boxes r cs hb').out
     have hlt : c.β r < c.W.heap.size := (Array.getElem?_eq_some_iff.1 h1).1
     have hst : stable (calleeR c X b ls m keys (c.β r)) := by rw [zfl h2, hl]; trivial
     refine ⟨vs, T, ?_, by show (c.ret c' X x b ls m keys ls s).ρ (c.β r) = _; rw [h.ρ_old hlt hst]; exact h2, h3, fun o d u hd hu => ?_⟩
     · show (zbY c c' ls).heap[c.β r]? = _
       rw [h.heap hS fun k p r0 hk ho e => ?_]
       · rw [(h.kept hlt hst).2]; exact h1
       · have h5 := (h.kept hlt hst).1
         rw [e] at h5
         rw [← h5] at hst
         exact hst
     · obtain ⟨h5, h6, h7⟩ := h4 o d u hd hu
       refine ⟨?_, h6, h7⟩
       have := VR.mono mm (.cell r o) d u (fun l r' hr e => by
        cases l with
        | cons j l => cases d <;> simp [D.at_, D.row?, zap] at hr h7
        | nil =>
          rw [Pl.subs_nil] at e
          rcases e with ⟨r0, o', e, e2⟩ | ⟨l, e⟩
          · cases e
            exact e2 hl
          · cases e) h5
       rwa [zcy hKr h7] at this
 · have hg' : c.s.get (.lent j) = some r := by
    have : s.get (.lent j) = some r := hg
    simp only [St.get, hsl] at this
    exact this
   exact (h.sim.lent j r hg').mono mm (fun e => by
    rcases e with ⟨r0, o, e, _⟩ | ⟨l, e⟩ <;> cases e)
end
end Go.Den
namespace Go.Den
open Go Go.RowKit
set_option linter.unusedVariables false
section
variable {c cc c' cR : Cx} {tm : Array Value} {X x m : Nat} {b : Bool} {ls : List (Pl × Row)} {keys : List Nat} {args rs : List D} {us u' : List (List D)} {l' : List (Option Row)} {v : Value}
theorem Came.one (h : Came c cc c' tm X x b ls m keys args us rs u' l' v cR) {S : List (Pl × Row)} {s : St} {p : Pl} {r : Row} {q : List Dat} {k : Nat} (hk : ls[k]? = some (p, r)) (hq : c'.s.get (.lent k) = some (r.1, q)) (hp : ∀ (j : Nat) (q : Pl) (r' : Row), S[j]? = some (q, r') → q ≠ p)
 (hS : ∀ (k : Nat) (p0 : Pl) (r0 : Row), ((p, r) :: S)[k]? = some (p0, r0) → ∃ k' : Nat, ls[k']? = some (p0, r0)) (hs : Sim (c.ret c' X x b ls m keys ((p, r) :: S) s) tm) (hg : s.get p = some r) : Sim (c.ret c' X x b ls m keys S (s.setPl p (.own r.1 q))) tm := by
 have hS' : ∀ (k : Nat) (p0 : Pl) (r0 : Row), S[k]? = some (p0, r0) → ∃ k' : Nat, ls[k']? = some (p0, r0) := fun k p0 r0 h => hS (k + 1) p0 r0 (by simpa using h)
 have hpc : ∀ r0 o, p = .cell r0 o → zad m keys r0 = none := h.cell k p r hk
 have hHp : ∀ (S : List (Pl × Row)) (s : St), (c.ret c' X x b ls m keys S s).H p = c.H p := fun S s => by
  cases p with
  | cell r0 o => simp only [Cx.ret, hpc r0 o rfl]
  | _ => rfl
 have hrow0 := (h.sim.row (h.get k p r hk)).at_
 -- the row's block
 have hblk : ∀ g, (c.H p).ownBlock = some g → (c.ret c' X x b ls m keys S s).ρ g = .row p := fun g hgo => by
  have h1 := h.lentRow hk hgo
  rw [h.ρ_tr (by rw [h1]; exact fun e => e), h1]
  show (match ls[k]? with | some p => Role.row p.1 | none => .oth) = _
  rw [hk]
 have hheap : ∀ g, (c.H p).ownBlock ≠ some g → (zbY c c' S).heap[g]? = (zbY c c' ((p, r) :: S)).heap[g]? := fun g hgo => by
  rw [zbu, zbu]
  have : zbg c ((p, r) :: S) g = zbg c S g := by
   simp only [zbg]
   rw [decide_eq_false hgo, Bool.false_or]
  rw [this]
 have hheap2 : ∀ g, (c.H p).ownBlock = some g → (zbY c c' S).heap[g]? = c'.W.heap[g]? := fun g hgo => by
  rw [zbu]
  have : zbg c S g = false := by
   cases hh : zbg c S g with
   | false => rfl
   | true =>
     exfalso
     obtain ⟨j, p2, r2, h1, h2⟩ := heldBy_iff.1 hh
     obtain ⟨k2, h3⟩ := hS' j p2 r2 h1
     have h4 := h.lentRow h3 h2
     rw [h.lentRow hk hgo] at h4
     injection h4 with h4
     injection h4 with h4
     subst h4
     rw [hk] at h3
     injection h3 with h3
     injection h3 with h3
     exact hp j p2 r2 h1 h3.symm
  rw [this]
 refine Sim.write (c := c.ret c' X x b ls m keys ((p, r) :: S) s) (r := r) hs hg ⟨rfl, fun b' g hr hlt => ⟨hr, hheap g fun e => ?_⟩, fun q0 e0 es0 hq0 _ => ⟨?_, rfl⟩, fun r0 hr0 _ => ⟨za8 r0 hr0, rfl⟩, fun q0 hq0 => ⟨rfl, fun g hρ hlt => ⟨hρ, hheap g fun e => ?_⟩⟩⟩ rfl ?_ rfl fun r0 hr0 => ?_
 · have h1 := hblk g e
   have h2 : Rd (c.ret c' X x b ls m keys S s).ρ b' g := hr
   unfold Rd at h2
   rw [h1] at h2
   rcases h2 with h2 | ⟨_, h2⟩ <;> cases h2
 · by_cases hqp : q0 = p
   · subst hqp
     have hq0' : s.get q0 = some (e0, es0) := hq0
     rw [hg] at hq0'
     cases hq0'
     refine ⟨q, zbZ hg, ?_⟩
     have hr1 := h.rlent k _ hq
     have hr2 := hr1.at_
     rw [h.cRH, h.lentH hk] at hr2
     obtain ⟨A, kk, h1, _⟩ := hr2.head
     obtain ⟨A2, kk2, h2, _⟩ := hrow0.head
     rw [h2] at h1
     injection h1 with _ h1
     exact h1.symm
   · exact ⟨es0, zbT hg hq0 hqp, rfl⟩
 · have h1 : (c.ret c' X x b ls m keys S s).ρ g = .row q0 := hρ
   rw [hblk g e] at h1
   injection h1 with h1
   exact hq0 h1.symm
 · have hr1 := (h.rlent k _ hq).at_
   rw [h.cRH, h.lentH hk] at hr1
   refine RowAt.ok ?_
   rw [hHp]
   refine hr1.re (by rw [h.cRty, h.ans.ext.ty, h.ceq]; rfl) (h.rd hS') fun g hgo => ⟨hblk g hgo, ?_⟩
   rw [h.cRW]
   exact hheap2 g hgo
 · obtain ⟨cs, hb⟩ := Option.isSome_iff_exists.1 hr0
   obtain ⟨vs, T, h1, h2, _⟩ := (hs.boxes r0 cs hb).out
   refine ⟨rfl, h2, hheap _ fun e => ?_⟩
   have h3 : (c.ret c' X x b ls m keys S s).ρ (c.β r0) = .box r0 := h2
   have h4 := hblk (c.β r0) e
   rw [h4] at h3
   cases h3
theorem Came.give (h : Came c cc c' tm X x b ls m keys args us rs u' l' v cR) : ∀ (S S0 : List (Pl × Row)) (rows : List (Option Row)) (s s3 : St), ls = S0 ++ S → rows = l'.drop S0.length → Sim (c.ret c' X x b ls m keys S s) tm → (∀ (k : Nat) (p : Pl) (r : Row), S[k]? = some (p, r) → s.get p = some r) → (s.t X).hasOwn = false → zbq s S rows = some s3 → Sim (c.ret c' X x b ls m keys [] s3) tm ∧ (s3.t X).hasOwn = false
 | [], S0, rows, s, s3, hl, hr, hs, hg, hX, h3 => by
   have h3 : some s = some s3 := by cases rows <;> exact h3
   cases h3
   exact ⟨hs, hX⟩
 | (p, r) :: S, S0, rows, s, s3, hl, hr, hs, hg, hX, h3 => by
   have hk : ls[S0.length]? = some (p, r) := by rw [hl]; simp
   obtain ⟨q, h1, h2⟩ := h.lentGet hk
   have hrows : rows = some (r.1, q) :: l'.drop (S0.length + 1) := by
    rw [hr]
    have hlt := (List.getElem?_eq_some_iff.1 h2).1
    rw [List.drop_eq_getElem_cons hlt]
    congr 1
    rw [List.getElem?_eq_getElem hlt] at h2
    exact Option.some.inj h2
   rw [hrows] at h3
   have hb : Nat.beq r.1 r.1 = true := beq_eq.2 rfl
   simp only [zbq, hb] at h3
   have hne : ∀ (j : Nat) (q : Pl) (r' : Row), S[j]? = some (q, r') → q ≠ p := by
    intro j q0 r' hj e
    subst e
    have hj' : ls[S0.length + 1 + j]? = some (q0, r') := by
     rw [hl, List.getElem?_append_right (by omega)]
     rw [show S0.length + 1 + j - S0.length = j + 1 by omega]
     simpa using hj
    have h4 := zeo h.dis _ _ _ hk
    have h5 := zeo h.dis _ _ _ hj'
    rw [h4] at h5
    injection h5 with h5
    omega
   have hS : ∀ (k : Nat) (p0 : Pl) (r0 : Row), ((p, r) :: S)[k]? = some (p0, r0) → ∃ k' : Nat, ls[k']? = some (p0, r0) := fun k p0 r0 hk0 => ⟨S0.length + k, by rw [hl, List.getElem?_append_right (by omega)]; simpa using hk0⟩
   have hg0 := hg 0 p r rfl
   have h6 := h.one hk h1 hne hS hs hg0
   have hXp : ¬ zaI X p := h.ghost.get (h.get _ _ _ hk)
   refine Came.give h S (S0 ++ [(p, r)]) (l'.drop (S0.length + 1)) _ s3 (by rw [hl]; simp) (by simp) h6 (fun j p0 r0 hj => ?_) ?_ h3
   · exact zbT hg0 (hg (j + 1) p0 r0 (by simpa using hj)) (hne j p0 r0 hj)
   · cases p with
     | slot y l =>
       have hb : Nat.beq X y = false := beq_ne.2 (fun e => hXp ⟨l, by rw [e]⟩)
       simp only [St.setPl, hb]
       exact hX
     | cell r0 o' =>
       simp only [St.setPl]
       cases hb : s.box r0 with
       | none => exact hX
       | some cs => simp only [setBox_tl.1]; exact hX
     | lent j' => exact hX
theorem Came.finish (h : Came c cc c' tm X x b ls m keys args us rs u' l' v cR) {s3 : St} (hs : Sim (c.ret c' X x b ls m keys [] s3) tm) (hx : x < tm.size) :
 ∃ c1, c1.W = c'.W ∧ c1.s = s3.put x (retD rs) ∧ Sim c1 (tm.setIfInBounds x v) ∧ Ext (c.ret c' X x b ls m keys [] s3) c1 := by
 let c0 := c.ret c' X x b ls m keys [] s3
 let c1 : Cx := { c0 with H := fun q => match ofSlot x q with | some l => c'.H (.slot 0 l) | none => c0.H q }
 have hS : ∀ (k : Nat) (p0 : Pl) (r0 : Row), ([] : List (Pl × Row))[k]? = some (p0, r0) → ∃ k' : Nat, ls[k']? = some (p0, r0) := fun k p0 r0 h => by simp at h
 have hHne : ∀ q, ¬ zaI x q → c1.H q = c0.H q := fun q hq => by simp only [c1]; rw [zcc hq]
 have hgr : Grown c0 c1 x := ⟨rfl, rfl, rfl, Below.refl _ _, fun _ _ => rfl, hHne⟩
 have hv : VR c1 (.slot x []) (retD rs) v := by
  refine zbO (c := { cR with s := ⟨fun _ => .undef, fun _ => none, [], []⟩ }) (c1 := c1) (sl := false) (X := 0) (fwd := zbB x) ⟨by show c.ty = cR.ty; rw [h.cRty, h.ans.ext.ty, h.ceq]; rfl, h.rd (s := s3) hS, fun l q hl => ?_, fun r hr => ?_, fun q r hf => by cases hf⟩ (retD rs) [] (.slot x []) v (zbH _ h.plain) (zdt _ _ _ _ h.plain h.rval) (fun l r hr => by rw [zaj]; rfl)
  · cases hl
    refine ⟨?_, fun g hg hlt => ⟨?_, ?_⟩⟩
    · show (match ofSlot x (.slot x l) with | some l => c'.H (.slot 0 l) | none => _) = cR.H (.slot 0 l)
      rw [zbk, h.cRH]
    · show c0.ρ g = _
      rw [h.ρ_row hg]
      have hb : Nat.beq 0 0 = true := rfl
      simp only [tr, hb]
    · show (zbY c c' []).heap[g]? = cR.W.heap[g]?
      rw [zbv, h.cRW]
  · cases r <;> simp [St.box] at hr
 exact ⟨{ c1 with s := s3.put x (retD rs) }, zbv (c := c), rfl, hgr.put hs hx hv, hgr.ext.setS _⟩
theorem Came.ext (h : Came c cc c' tm X x b ls m keys args us rs u' l' v cR) {s3 : St} : Ext c (c.ret c' X x b ls m keys [] s3) := by
 have he := h.ans.ext
 rw [h.ceq] at he
 refine ⟨?_, ?_, ?_, ?_, fun g hg hst => ?_, rfl, fun _ => rfl, fun _ => rfl⟩
 · show (zbY c c' []).os = _; rw [zbv]; exact he.os
 · show (zbY c c' []).tape = _; rw [zbv]; exact he.tape
 · show (zbY c c' []).output = _; rw [zbv]; exact he.output
 · show _ ≤ (zbY c c' []).heap.size; rw [zbv]; exact he.size
 · have hst' : stable (calleeR c X b ls m keys g) := by
    cases hρ : c.ρ g with
    | set => rw [zaS hρ (.inl rfl)]; trivial
    | out => rw [zaS hρ (.inr (.inl rfl))]; trivial
    | oth => rw [zaS hρ (.inr (.inr rfl))]; trivial
    | box r => rw [hρ] at hst; exact hst.elim
    | row p => rw [hρ] at hst; exact hst.elim
   refine ⟨h.ρ_old hg hst', ?_⟩
   show (zbY c c' []).heap[g]? = _
   rw [zbv]
   exact (h.kept hg hst').2
end
theorem zf9 {cs : List D} (h : zaO cs = true) : ∀ (i : Nat) (d : D), cs[i]? = some d → (∀ dd, d = .dat dd → dd.clean = true) ∧ (∀ e es, d = .own e es → Dat.cleans es = true) := by
 induction cs with
 | nil => intro i d h; simp at h
 | cons e cs ih =>
   intro i d hd
   have h2 : zaO cs = true ∧ (∀ dd, e = .dat dd → dd.clean = true) ∧ (∀ t es, e = .own t es → Dat.cleans es = true) := by
    cases e with
    | dat dd =>
      have h' : (dd.clean && zaO cs) = true := h
      simp only [Bool.and_eq_true] at h'
      exact ⟨h'.2, (fun _ e => by cases e; exact h'.1), (fun _ _ e => by cases e)⟩
    | own t es =>
      have h' : (Dat.cleans es && zaO cs) = true := h
      simp only [Bool.and_eq_true] at h'
      exact ⟨h'.2, (fun _ e => by cases e), (fun _ _ e => by cases e; exact h'.1)⟩
    | _ => exact ⟨h, (fun _ e => by cases e), (fun _ _ e => by cases e)⟩
   cases i with
   | zero => simp at hd; subst hd; exact h2.2
   | succ i => exact ih h2.1 i d (by simpa using hd)
theorem zgl {u : List (List D)} (h : zbd u = true) : ∀ (i : Nat) (cs : List D), u[i]? = some cs → zaO cs = true := by
 induction u with
 | nil => intro i d h; simp at h
 | cons e u ih =>
   have h' : (zaO e && zbd u) = true := h
   simp only [Bool.and_eq_true] at h'
   intro i cs hc
   cases i with
   | zero => simp at hc; subst hc; exact h'.1
   | succ i => exact ih h'.2 i cs (by simpa using hc)
theorem zcA : ∀ {l : List (Option Row)}, za1 l = true → ∀ (i : Nat) (r : Row), l[i]? = some (some r) → Dat.cleans r.2 = true
 | [], h, i, r, hr => by simp at hr
 | some q :: l, h, i, r, hr => by
   have h' : (Dat.cleans q.2 && za1 l) = true := h
   simp only [Bool.and_eq_true] at h'
   cases i with
   | zero => simp at hr; subst hr; exact h'.1
   | succ i => exact zcA h'.2 i r (by simpa using hr)
 | none :: l, h, i, r, hr => by
   cases i with
   | zero => simp at hr
   | succ i => exact zcA (l := l) h i r (by simpa using hr)
theorem zke {c : Cx} {p : Pl} {e : Nat} {es : List Dat} (h : RowOK c p e es) (hc : Dat.cleans es = true) : RowOK c.noOut p e es := by
 obtain ⟨i, xs, h3, h4, h5, h6⟩ := h.out
 refine ⟨i, xs, h3, h4, ⟨h5.len, fun j d hj => (h5.rep j d hj).noOut (zdd hc j d hj), h5.wid⟩, fun g hg => ?_⟩
 show Den.noOut c.ρ g = _
 rw [zgc (by rw [h6 g hg]; intro e; cases e)]
 exact h6 g hg
theorem zmv {c c' : Cx} {tm : Array Value} {X x m : Nat} {b : Bool} {ls : List (Pl × Row)} {keys : List Nat} {args rs : List D} {us u' : List (List D)} {l' : List (Option Row)} {v : Value} (hs : Sim c tm) (hX : Ghost c tm X)
 (ha : Answer (c.callee X b ls m keys (start args us (ls.map fun p => some p.2))) rs u' l' v c') (hd : zaM ls = true) (hget : ∀ (k : Nat) (p : Pl) (r : Row), ls[k]? = some (p, r) → c.s.get p = some r)
 (hcell : ∀ (k : Nat) (p : Pl) (r : Row), ls[k]? = some (p, r) → ∀ r0 o, p = .cell r0 o → zad m keys r0 = none) (hul : us.length = m + keys.length) (hn : keys.Nodup) (hback : ∀ (k : Nat) (p : Pl) (r : Row), ls[k]? = some (p, r) → ∃ q, l'[k]? = some (some (r.1, q)))
 (hlift : ∀ r i, zad m keys r = some (.up i) → (c.s.box r).isSome = true) (hp : D.plains rs = true) (hcl : b = true → D.cleans rs = true ∧ za1 l' = true ∧ zbd u' = true) :
 ∃ cR, Came c (c.callee X b ls m keys (start args us (ls.map fun p => some p.2))) c' tm X x b ls m keys args us rs u' l' v cR := by
 have hkept : ∀ g, g < c.W.heap.size → stable (calleeR c X b ls m keys g) → c'.ρ g = calleeR c X b ls m keys g := fun g hg hst => (ha.ext.keep g hg hst).1
 have hslot : VR c' (.slot 0 []) (retD rs) v := by
  have := ha.sim.slots 0
  rw [ha.s] at this
  simpa using this
 cases hb : b with
 | false =>
   subst hb
   refine ⟨c', hs, hX, rfl, ha, hd, hget, hcell, hul, hn, hback, hlift, fun b' g hr => ⟨hr, fun hg hst => ?_⟩, fun g p h => h, rfl, rfl, rfl, rfl, rfl, fun r cs hb => (ha.sim.boxes r cs hb).out, fun k r hk => ha.sim.lent k r hk, hslot, zdP hp⟩
   have h1 := hkept g hg hst
   unfold Rd at hr ⊢
   rw [h1] at hr
   rcases hr with h | ⟨h2, h⟩
   · exact .inl (zeF h)
   · exact .inr ⟨h2, zhE rfl h⟩
 | true =>
   subst hb
   obtain ⟨hc1, hc2, hc3⟩ := hcl rfl
   refine ⟨c'.noOut, hs, hX, rfl, ha, hd, hget, hcell, hul, hn, hback, hlift, fun b' g hr => ?_, fun g p h => zgV h, rfl, rfl, rfl, rfl, rfl, fun r cs hb => ?_, fun k r hk => ?_, VR.noOut _ _ _ (zjc hc1) hslot, zdP hp⟩
   · have hset : c'.ρ g = .set := by
      rcases hr with h | ⟨_, h⟩
      · exact zg7 h
      · exfalso
        have h : Den.noOut c'.ρ g = .out := h
        unfold Den.noOut at h
        split at h
        · cases h
        · rename_i hne
          exact hne h
     refine ⟨.inl hset, fun hg hst => ?_⟩
     have h1 := hkept g hg hst
     rw [hset] at h1
     exact .inl (zeF h1.symm)
   · obtain ⟨vs, T, h1, h2, h3, h4⟩ := (ha.sim.boxes r cs hb).out
     refine ⟨vs, T, h1, h2, h3, fun i d u hd hu => ?_⟩
     obtain ⟨h5, h6, h7⟩ := h4 i d u hd hu
     refine ⟨?_, h6, h7⟩
     have hcc : zaO cs = true := by
      rw [ha.s] at hb
      cases r with
      | loc n => cases hb
      | up j => exact zgl hc3 j cs hb
     obtain ⟨h8, h9⟩ := zf9 hcc i d hd
     cases d with
     | dat dd => exact VR.noOut _ _ _ (h8 dd rfl) h5
     | own e es => exact VR.noOut _ _ _ (h9 e es rfl) h5
     | ptr r o => exact h5
     | fn f cap => exact h5
     | etc e => cases e <;> first | exact h5 | cases h7
     | junk => trivial
     | _ => cases h7
   · refine zke (ha.sim.lent k r hk) ?_
     rw [ha.s] at hk
     have hk' : (l'[k]?).bind id = some r := hk
     cases hl : l'[k]? with
     | none => rw [hl] at hk'; cases hk'
     | some o =>
       rw [hl] at hk'
       have hk' : o = some r := hk'
       rw [hk'] at hl
       exact zcA hc2 k r hl
end Go.Den
namespace Go.Den
open Go Go.RowKit
set_option linter.unusedVariables false
variable {B : Nat → Option Obj}
theorem zdg : ∀ {ls : List (Pl × Row)} {l' : List (Option Row)} {s s3 : St}, zbq s ls l' = some s3 → ∀ (k : Nat) (p : Pl) (r : Row), ls[k]? = some (p, r) → ∃ q, l'[k]? = some (some (r.1, q))
 | [], l', s, s3, h, k, p, r, hk => by simp at hk
 | (p0, r0) :: ls, l', s, s3, h, k, p, r, hk => by
   cases l' with
   | nil => cases h
   | cons o l' =>
     cases o with
     | none => cases h
     | some q =>
       simp only [zbq] at h
       split at h
       · rename_i hb
         cases k with
         | zero =>
           simp at hk
           refine ⟨q.2, ?_⟩
           rw [← hk.2, ← beq_eq.1 hb]
           rfl
         | succ k => exact zdg h k p r (by simpa using hk)
       · cases h
section
variable {P : Program} {c : Cx} {a : Act} {o : Oper} {X : Nat}
theorem zfy {E : Env} (hE : E.ty = c.ty) (hty : TyOk P c.ty) (hs : Sim c a.tmps) : ∀ (zs : List Operand) (ts : List Nat), (zay E c.s.look zs ts).length = zs.length ∧ ∀ (j : Nat) (d : D) (v : Value), (zay E c.s.look zs ts)[j]? = some d → (zs.map a.eval)[j]? = some v → ArgV c d v
 | [], ts => ⟨rfl, fun j d v h => by simp [zay] at h⟩
 | z :: zs, ts => by
   obtain ⟨h1, h2⟩ := zfy hE hty hs zs ts.tail
   refine ⟨by simp [zay, h1], fun j d v hd hv => ?_⟩
   cases j with
   | succ j => exact h2 j d v (by simpa [zay] using hd) (by simpa using hv)
   | zero =>
     simp at hv
     subst hv
     have hl := zbW hs z
     simp only [zay, List.getElem?_cons_zero, Option.some.injEq] at hd
     split at hd
     · rename_i hz
       split at hd
       · rename_i e _ _ _ _ ht
         subst hd
         rw [zca hz]
         rw [hE] at ht
         obtain ⟨_, _, _, hf⟩ := hty.facts ht
         exact .inr ⟨⟨_, rfl, (hf.slice rfl).2⟩, rfl⟩
       · subst hd
         exact .inl hl
     · subst hd
       exact .inl hl
theorem zhh {ca : Call} {z : Operand} {f : Nat} {vals capv : List Value} {c1 : Cx} {b : Bool} {ls : List (Pl × Row)} {m : Nat} {keys : List Nat} {args rs : List D} {us u' : List (List D)} {l' : List (Option Row)} {K : Kill} {s0 s3 : St}
 (hf : Fr X c a) (hd : ∀ n : Nat, o.dst = some n → n < a.tmps.size) (ho : o.op = .call ca) (hc : ca.callee = .value z) (hz : a.eval z = .func (.func f) #[] capv.toArray) (hvals : vals = ca.args.toList.map a.eval ++ capv)
 (hs1 : Sim c1 a.tmps) (hX1 : Ghost c1 a.tmps X) (hext : Ext c c1) (hW : c1.W = c.W)
 (hr : Reaches P f vals.toArray c1.W fun v W' => ∃ c', c'.W = W' ∧ Answer (c1.callee X b ls m keys (start args us (ls.map fun p => some p.2))) rs u' l' v c')
 (hdis : zaM ls = true) (hget : ∀ (k : Nat) (p : Pl) (r : Row), ls[k]? = some (p, r) → c1.s.get p = some r) (hcell : ∀ (k : Nat) (p : Pl) (r : Row), ls[k]? = some (p, r) → ∀ r0 o, p = .cell r0 o → zad m keys r0 = none)
 (hul : us.length = m + keys.length) (hn : keys.Nodup) (hlift : ∀ r i, zad m keys r = some (.up i) → (c1.s.box r).isSome = true) (hp : D.plains rs = true) (hcl : u'.length = us.length → b = true → D.cleans rs = true ∧ za1 l' = true ∧ zbd u' = true)
 (hKr : ∀ r, K.ref r = false) (ht : ∀ y, s0.t y = (c1.s.t y).kill K) (hsl : s0.l = c1.s.l) (hK : ∀ q, K.pl q = false → ∀ r o, q = .cell r o → zad m keys r = none) (hKl : ∀ (k : Nat) (p : Pl) (r : Row), ls[k]? = some (p, r) → K.pl p = false)
 (hb1 : u'.length = us.length → ∀ r i, zad m keys r = some (.up i) → s0.box r = (u'[i]?).map fun cs => cs.map (D.unlift m keys)) (hb2 : u'.length = us.length → ∀ r, zad m keys r = none → s0.box r = c1.s.box r) (hgb : zbq s0 ls l' = some s3) :
 OpOK P X c a o (s3.putO o.dst (retD rs)) := by
 intro K0 Q hK0
 refine zgm (f := f) (cap := capv) ho hc hz c.W ?_
 rw [← hvals, ← hW]
 refine hr.mono fun v W' ⟨c', hW', ha⟩ => ?_
 obtain ⟨cR, hcame⟩ := zmv (x := o.dst.getD 0) hs1 hX1 ha hdis hget hcell hul hn (zdg hgb) hlift hp (hcl ha.len)
 have hb1 := hb1 ha.len
 have hb2 := hb2 ha.len
 have hbase := hcame.base hKr ht hsl hK hb1 hb2
 have hg0 : ∀ (k : Nat) (p : Pl) (r : Row), ls[k]? = some (p, r) → s0.get p = some r := by
  intro k p r hk
  have h1 := hget k p r hk
  have h2 := hKl k p r hk
  cases p with
  | slot y l =>
    show (D.at_ l (s0.t y)).row? = _
    rw [ht, zaZ]
    exact h1
  | cell r0 o' =>
    have := hcell k _ r hk r0 o' rfl
    simp only [St.get] at h1 ⊢
    rw [hb2 r0 this]
    exact h1
  | lent j =>
    simp only [St.get] at h1 ⊢
    rw [hsl]
    exact h1
 have hX0 : (s0.t X).hasOwn = false := by rw [ht, zaw]; exact hX1.own
 obtain ⟨h3, h4⟩ := hcame.give ls [] l' s0 s3 rfl rfl hbase hg0 hX0 hgb
 have hex := hext.trans (hcame.ext (s3 := s3))
 cases hdst : o.dst with
 | none =>
   have hWn : (c1.ret c' X (o.dst.getD 0) b ls m keys [] s3).W = W' := by rw [← hW']; exact zbv (c := c1)
   show K0 (a.put none v) W'
   rw [← hWn]
   exact hK0 a _ (by rw [hdst]; rfl) ⟨h3, hX1.out, h4⟩ hex rfl rfl
 | some n =>
   have hlt := hd n hdst
   have hx : o.dst.getD 0 = n := by rw [hdst]; rfl
   rw [hx] at hcame h3 hex
   obtain ⟨c2, h5, h6, h7, h8⟩ := hcame.finish h3 hlt
   have hne : X ≠ n := Nat.ne_of_gt (Nat.lt_of_lt_of_le hlt hX1.out)
   show K0 (a.put (some n) v) W'
   rw [← hW', ← h5]
   refine hK0 (a.put (some n) v) c2 (by rw [h6, hdst]; rfl) ⟨h7, by simpa [Act.put] using hX1.out, ?_⟩ (hex.trans h8) (by simp [Act.put]) rfl
   rw [h6]
   exact zaY hne h4
theorem zf3 {s : St} : ∀ {ks : List Nat} {bs : List (List D)}, zdQ s ks = some bs → bs.length = ks.length ∧ ∀ (i : Nat) (k : Nat) (cs : List D), ks[i]? = some k → bs[i]? = some cs → s.b k = some cs
 | [], bs, h => by cases h; exact ⟨rfl, fun i k cs h => by simp at h⟩
 | k0 :: ks, bs, h => by
   simp only [zdQ, Option.bind_eq_some_iff, Option.map_eq_some_iff] at h
   obtain ⟨x, hx, y, hy, rfl⟩ := h
   obtain ⟨h1, h2⟩ := zf3 hy
   refine ⟨by simp [h1], fun i k cs hk hc => ?_⟩
   cases i with
   | zero =>
     simp at hk hc
     subst hk hc
     exact hx
   | succ i => exact h2 i k cs (by simpa using hk) (by simpa using hc)
theorem zej {m : Nat} {keys : List Nat} : ∀ {l l2 : List (List D)}, zb7 m keys l = some l2 → l2.length = l.length ∧ ∀ (i : Nat) (cs cs' : List D), l[i]? = some cs → l2[i]? = some cs' → zfr m keys cs = some cs'
 | [], l2, h => by cases h; exact ⟨rfl, fun i k cs h => by simp at h⟩
 | c0 :: l, l2, h => by
   simp only [zb7, Option.bind_eq_some_iff, Option.map_eq_some_iff] at h
   obtain ⟨x, hx, y, hy, rfl⟩ := h
   obtain ⟨h1, h2⟩ := zej hy
   refine ⟨by simp [h1], fun i k cs hk hc => ?_⟩
   cases i with
   | zero =>
     simp at hk hc
     subst hk hc
     exact hx
   | succ i => exact h2 i k cs (by simpa using hk) (by simpa using hc)
theorem zka {b x y : Bool} (h : ((b && !x) || !y) = false) : y = true ∧ (b = true → x = true) := by
 cases b <;> cases x <;> cases y <;> simp_all
theorem Firm.calleeR {c : Cx} (h : Firm B c) (X : Nat) (b : Bool) (ls : List (Pl × Row)) (m : Nat) (keys : List Nat) (s : St) : Firm B (c.callee X b ls m keys s) := fun g o hg => by
 obtain ⟨h1, h2⟩ := h g o hg
 refine ⟨?_, h2⟩
 have e : (c.callee X b ls m keys s).ρ g = c.ρ g := by
  refine zaS rfl ?_
  cases hr : c.ρ g <;> rw [hr] at h1 <;> first | exact .inl rfl | exact .inr (.inl rfl) | exact .inr (.inr rfl) | exact h1.elim
 rw [e]
 exact h1
theorem znr {E : Env} {ca : Call} {z : Operand} {f : Nat} {cap : List Ref} {s' : St} (hE : E.ty = c.ty) (hty : TyOk P c.ty) (hI : Firm B c) (hcall : zck P c.ty B E.call) (hf : Fr X c a) (hd : ∀ n : Nat, o.dst = some n → n < a.tmps.size) (ho : o.op = .call ca) (hc : ca.callee = .value z) (hz : c.s.look z = .fn f cap)
 (h : zfC E c.s o.dst f cap (zay E c.s.look ca.args.toList ca.argTypes.toList) = some s') : OpOK P X c a o s' := by
 have hs := hf.sim
 simp only [zfC, Option.bind_eq_some_iff] at h
 obtain ⟨⟨ds1, s1⟩, hra, ls, hls, h⟩ := h
 simp only at hls h
 split at h
 · cases h
 rename_i hdis
 obtain ⟨hal, hav⟩ := zfy (E := E) hE hty hs ca.args.toList ca.argTypes.toList
 obtain ⟨c1, h1, h2, h3, h4, h5, h6⟩ := zfh (X := X) (tm := a.tmps) _ (E.mode f) 0 c (ca.args.toList.map a.eval) ds1 s1 hs hf.ghost hra (by simp [hal]) hav
 have hfz := (zaf hs z (.lent 0)).1
 rw [hz] at hfz
 have hget : ∀ (k : Nat) (p : Pl) (r : Row), ls[k]? = some (p, r) → c1.s.get p = some r := fun k p r hk => by rw [h1]; exact zey hls k p r hk
 have hlen : (ca.args.toList.map a.eval).length = ds1.length := by rw [h5]; simp [hal]
 have hty1 : c1.ty = c.ty := h4.ext.ty
 split at h
 · -- data alone
   rename_i hcl
   simp only [Bool.and_eq_true, List.isEmpty_iff] at hcl
   obtain ⟨hcap, _⟩ := hcl
   subst hcap
   simp only [Option.bind_eq_some_iff] at h
   obtain ⟨⟨dv, fl⟩, hpa, ⟨rs, u', l'⟩, hq, h⟩ := h
   simp only at hq h
   split at h
   · cases h
   · rename_i hflag
     obtain ⟨hp, hclean⟩ := zka hflag
     simp only [Option.map_eq_some_iff] at h
     obtain ⟨s3, hgb, rfl⟩ := h
     have hpass : Passes c1 (c1.callee X fl ls 0 [] (start dv [] (ls.map fun p => some p.2))) X ls 0 [] fl (hide ls false c1.s.get) :=
      zdD (op := false) h2 h3 rfl hget (fun k p r hk => by simp [start, St.get, hk]) (fun _ r => zbw r) (fun r r' _ h => by rw [zbw] at h; cases h)
     have hargs := zbn h2 hpass ds1 (E.mode f) 0 0 (ca.args.toList.map a.eval) dv fl ls (by rw [h1]; exact hpa) (fun e => e) (by rw [h1]; exact hls) (fun k => by rw [Nat.zero_add]) hlen h6
     have hsim := zfH (c := c1) (X := X) (b := fl) (ls := ls) (m := 0) (keys := []) (args := dv) (us := []) (vals := (ca.args.toList.map a.eval).toArray) h2 h3 hget hdis (fun _ _ _ _ r0 _ _ => zbw r0) (fun i cs' h => by simp at h) (fun r r' _ h => by rw [zbw] at h; cases h) (by simpa using hargs.1) (fun j d v hd hv => by
      have := hargs.2 j d v hd (by simpa using hv)
      rwa [Nat.zero_add] at this)
     have hr := hcall f dv [] _ rs u' l' hq (c1.callee X fl ls 0 [] (start dv [] (ls.map fun p => some p.2))) (ca.args.toList.map a.eval).toArray hty1 ((hI.ext h4.ext).calleeR X fl ls 0 [] _) rfl (by simpa using hargs.1.symm) hsim
     have hr := Reaches.mono (R' := fun v W' => ∃ c'', c''.W = W' ∧ Answer _ rs u' l' v c'') hr fun v W' ⟨c', h1, h2⟩ => ⟨c', h1, h2.plain hp⟩
     refine zhh (K := Kill.none) (s0 := c1.s) (capv := []) (vals := ca.args.toList.map a.eval) hf hd ho hc (by rw [hfz.2]; rfl) (by simp) h2 h3 h4.ext h4.W hr hdis hget (fun _ _ _ _ r0 _ _ => zbw r0) rfl List.nodup_nil (fun r i h => by rw [zbw] at h; cases h) hp (fun hlu e => ?_) (fun _ => rfl) (fun y => (zbb _).symm) rfl (fun _ _ r _ _ => zbw r) (fun _ _ _ _ => rfl) (fun _ r i h => by rw [zbw] at h; cases h) (fun _ r _ => rfl) (by rw [h1]; exact hgb)
     have hh := hclean e
     simp only [Bool.and_eq_true] at hh
     refine ⟨hh.1, hh.2, ?_⟩
     have hl0 : u' = [] := List.eq_nil_of_length_eq_zero hlu
     rw [hl0]; rfl
 · split at h
   · cases h
   rename_i hnc
   simp only [Option.bind_eq_some_iff] at h
   obtain ⟨⟨dv, fl⟩, hpa, caps, hcaps, bs, hbs, us, hus, ⟨rs, u', l'⟩, hq, h⟩ := h
   simp only at hq h
   split at h
   · cases h
   · rename_i hflag
     obtain ⟨hp, hclean⟩ := zka hflag
     simp only [Option.map_eq_some_iff] at h
     obtain ⟨s3, hgb, rfl⟩ := h
     rw [← h1] at hpa hcaps hbs hus hgb
     generalize hkeys : c1.s.sent E.nt cap ds1 = keys at *
     generalize hmm : c1.s.upsSent keys cap ds1 = m at *
     have hmu : m ≤ c1.s.u.length := by
      rw [← hmm]
      unfold St.upsSent
      split
      · exact Nat.le_refl _
      · exact Nat.zero_le _
     have htl : (c1.s.u.take m).length = m := by rw [List.length_take]; omega
     have hnd : keys.Nodup := by rw [← hkeys]; exact (zdJ _).filter _
     obtain ⟨hb1, hb2⟩ := zf3 hbs
     obtain ⟨hu1, hu2⟩ := zej hus
     have hul : us.length = m + keys.length := by rw [hu1, List.length_append, htl, hb1]
     have hkb : ∀ i, i < m + keys.length → ∃ cs cs', c1.s.box (zag m keys (.up i)) = some cs ∧ us[i]? = some cs' ∧ zfr m keys cs = some cs' := by
      intro i hi
      have hlt : i < us.length := by omega
      have hl2 : i < (c1.s.u.take m ++ bs).length := by rw [List.length_append, htl, hb1]; omega
      refine ⟨(c1.s.u.take m ++ bs)[i], us[i], ?_, List.getElem?_eq_getElem hlt, hu2 i _ _ (List.getElem?_eq_getElem hl2) (List.getElem?_eq_getElem hlt)⟩
      cases hb : Nat.blt i m with
      | true =>
        have h7 : i + 1 ≤ m := by simpa [Nat.blt] using hb
        simp only [zag, hb, St.box]
        rw [List.getElem_append_left (by omega), List.getElem_take]
        exact List.getElem?_eq_getElem (by omega)
      | false =>
        have hge : m ≤ i := by
         rcases Nat.lt_or_ge i m with h | h
         · have : Nat.blt i m = true := by simp [Nat.blt]; omega
           rw [this] at hb; cases hb
         · exact h
        have hlk : i - m < keys.length := by omega
        have hgk := List.getElem?_eq_getElem hlk
        simp only [zag, hb, hgk, St.box]
        rw [List.getElem_append_right (by omega)]
        simp only [htl]
        exact hb2 _ _ _ hgk (List.getElem?_eq_getElem (by omega))
     have hlift : ∀ r i, zad m keys r = some (.up i) → (c1.s.box r).isSome = true := fun r i hr => by
      obtain ⟨h7, j, h8, h9⟩ := zaD hr
      cases h8
      obtain ⟨cs, _, h10, _⟩ := hkb i h9
      rw [h7] at h10
      rw [h10]; rfl
     have hall : dv ++ caps.map (fun r => D.ptr r 0) = dv ++ caps.map (fun r => D.ptr r 0) := rfl
     have hsbox : ∀ r r', (c1.s.box r).isSome = true → zad m keys r = some r' → ((start (dv ++ caps.map fun r => D.ptr r 0) us (ls.map fun p => some p.2)).box r').isSome = true := fun r r' _ hr => by
      obtain ⟨_, i, rfl, hi⟩ := zaD hr
      show (us[i]?).isSome = true
      rw [List.getElem?_eq_getElem (by omega)]; rfl
     have hncell : ∀ (k : Nat) (p : Pl) (r : Row), ls[k]? = some (p, r) → p.ofCell = false := fun k p r hk => by
      have := (List.all_eq_true.1 hnc) _ (List.mem_of_getElem? hk)
      simpa using this
     have hcell : ∀ (k : Nat) (p : Pl) (r : Row), ls[k]? = some (p, r) → ∀ r0 o, p = .cell r0 o → zad m keys r0 = none := fun k p r hk r0 o e => by
      have := hncell k p r hk
      rw [e] at this
      cases this
     have hpass : Passes c1 (c1.callee X fl ls m keys (start (dv ++ caps.map fun r => D.ptr r 0) us (ls.map fun p => some p.2))) X ls m keys fl (hide ls true c1.s.get) :=
      zdD (op := true) h2 h3 rfl hget (fun k p r hk => by simp [start, St.get, hk]) (fun e => by cases e) hsbox
     have hargs := zbn h2 hpass ds1 (E.mode f) 0 0 (ca.args.toList.map a.eval) dv fl ls hpa (fun e => e) (by rw [h1]; exact hls) (fun k => by rw [Nat.zero_add]) hlen h6
     have hcapk : ∀ r ∈ cap, (c1.s.box r).isSome = true := fun r hr => h4.box r (hfz.1 r hr)
     obtain ⟨hc1, hc2⟩ := zcX hpass.ref hcaps hcapk
     have hβ : (cap.map fun r => Value.pointer (some ⟨c1.β r, 0, none⟩)) = cap.map fun r => Value.pointer (some ⟨c.β r, 0, none⟩) := by rw [h4.β]
     have hcl := (zce hcaps).1
     have hsim := zfH (c := c1) (X := X) (b := fl) (ls := ls) (m := m) (keys := keys) (args := dv ++ caps.map fun r => D.ptr r 0) (us := us) (vals := (ca.args.toList.map a.eval ++ cap.map fun r => Value.pointer (some ⟨c.β r, 0, none⟩)).toArray) h2 h3 hget hdis hcell (fun i cs' hi => by
      have hlt := (List.getElem?_eq_some_iff.1 hi).1
      obtain ⟨cs, cs2, h7, h8, h9⟩ := hkb i (by omega)
      rw [hi] at h8
      cases h8
      exact ⟨_, cs, zfc hnd (by omega), h7, h9⟩) hsbox (by have := hargs.1; simp at this ⊢; omega) (fun j d v hd hv => by
      by_cases hj : j < dv.length
      · rw [List.getElem?_append_left hj] at hd
        have hv' : (ca.args.toList.map a.eval)[j]? = some v := by
         have : (ca.args.toList.map a.eval ++ cap.map fun r => Value.pointer (some ⟨c.β r, 0, none⟩))[j]? = some v := by simpa using hv
         rwa [List.getElem?_append_left (by rw [← hargs.1]; exact hj)] at this
        have := hargs.2 j d v hd hv'
        rwa [Nat.zero_add] at this
      · rw [List.getElem?_append_right (by omega)] at hd
        have hv' : (cap.map fun r => Value.pointer (some ⟨c.β r, 0, none⟩))[j - dv.length]? = some v := by
         have : (ca.args.toList.map a.eval ++ cap.map fun r => Value.pointer (some ⟨c.β r, 0, none⟩))[j]? = some v := by simpa using hv
         rw [List.getElem?_append_right (by rw [← hargs.1]; omega)] at this
         rwa [← hargs.1] at this
        rw [List.getElem?_map] at hd
        simp only [Option.map_eq_some_iff] at hd
        obtain ⟨r', hr', rfl⟩ := hd
        refine ⟨hc1 r' (List.mem_of_getElem? hr'), ?_⟩
        rw [← hβ, ← hc2, List.getElem?_map, hr'] at hv'
        simpa using hv'.symm)
     have hr := hcall f _ us _ rs u' l' hq (c1.callee X fl ls m keys (start (dv ++ caps.map fun r => D.ptr r 0) us (ls.map fun p => some p.2))) (ca.args.toList.map a.eval ++ cap.map fun r => Value.pointer (some ⟨c.β r, 0, none⟩)).toArray hty1 ((hI.ext h4.ext).calleeR X fl ls _ keys _) rfl (by have := hargs.1; simp at this ⊢; omega) hsim
     have hr := Reaches.mono (R' := fun v W' => ∃ c'', c''.W = W' ∧ Answer _ rs u' l' v c'') hr fun v W' ⟨c', h1, h2⟩ => ⟨c', h1, h2.plain hp⟩
     refine zhh (K := Kill.sent m keys) (s0 := c1.s.regain m keys u') (capv := cap.map fun r => Value.pointer (some ⟨c.β r, 0, none⟩)) hf hd ho hc hfz.2 rfl h2 h3 h4.ext h4.W hr hdis hget hcell hul hnd hlift hp (fun _ e => ?_) (fun _ => rfl) (fun y => rfl) rfl (fun q hq r o e => ?_) (fun k p r hk => (by have := hncell k p r hk; cases p <;> first | rfl | cases this)) (fun hlu r i hr => ?_) (fun hlu r hr => ?_) hgb
     · have hh := hclean e
       simp only [Bool.and_eq_true] at hh
       exact ⟨hh.1, hh.2.1, hh.2.2⟩
     · rw [e] at hq
       have hq : (zad m keys r).isSome = false := hq
       simpa using hq
     · cases r with
       | loc n =>
         simp only [zad] at hr
         split at hr
         · rename_i hm
           cases hr
           simp only [St.regain, St.box, hm]
         · cases hr
       | up n =>
         simp only [zad] at hr
         split at hr
         · rename_i hb
           have h7 : n + 1 ≤ m := by simpa [Nat.blt] using hb
           have hl : n < u'.length := by omega
           injection hr with hr
           injection hr with hr
           subst hr
           simp only [St.regain, St.box]
           rw [List.getElem?_append_left (by simp; omega), List.getElem?_map, List.getElem?_take_of_lt (by omega)]
         · cases hr
     · cases r with
       | loc n =>
         simp only [zad] at hr
         split at hr
         · cases hr
         · rename_i hm
           simp only [St.regain, St.box, hm]
       | up n =>
         simp only [zad] at hr
         split at hr
         · cases hr
         · rename_i hb
           have hge : m ≤ n := by
            rcases Nat.lt_or_ge n m with h | h
            · have : Nat.blt n m = true := by simp [Nat.blt]; omega
              rw [this] at hb; cases hb
            · exact h
           simp only [St.regain, St.box]
           have hl2 : (u'.take m).length = m := by rw [List.length_take]; omega
           rw [List.getElem?_append_right (by rw [List.length_map, hl2]; exact hge), List.length_map, hl2, List.getElem?_drop]
           congr 1
           omega
end
end Go.Den
namespace Go.Den
open Go Go.RowKit
set_option linter.unusedVariables false
theorem zfA {P : Program} {W : World} {r : Nat} {es : Array MapEntry} {clock : Nat} (o : Obj) (h : W.heap[r]? = some (.map es clock)) : (setObj r o).run P W = .ok () { W with heap := W.heap.setIfInBounds r o } := by simp [setObj, Sem.run, h]
theorem ze2 {t : TK} {d : TypeDesc} {k v : Value} (hs : ∀ a b q, zdT t a b = some q → Instr.sameNow d a b = some q) : ∀ (m : Nat) (ps ps' : List D) (vs : List Value) (b : Nat → Nat) (j n : Nat) (Q : Nat → D → Value → Prop), ps.length ≤ m → zgW t k v ps = some ps' → vs.length = ps.length →
 (∀ (i : Nat) (x : D) (u : Value), ps[i]? = some x → vs[i]? = some u → Q i x u) → (∀ (i : Nat) (w u : Value), Q i (.dat (.val w)) u → u = w) → (∀ i, Q i (.dat (.val k)) k) → (∀ i, Q i (.dat (.val v)) v) →
 ∃ vs' : List Value, vs'.length = ps'.length ∧ (∀ (i : Nat) (x : D) (u : Value), ps'[i]? = some x → vs'[i]? = some u → Q i x u) ∧
  ((∃ i q e, Instr.findNow d k (zae b j vs) n = some (some (n + i, q)) ∧ zdT t k k = some true ∧ (zae b j vs)[i]? = some e ∧ e.key = k ∧ zae b j vs' = (zae b j vs).modify i (fun e => { e with key := k, val := v })) ∨
   (Instr.findNow d k (zae b j vs) n = some none ∧ ∀ b' : Nat → Nat, (∀ i, i < (zae b j vs).length → b' (j + i) = b (j + i)) → zae b' j vs' = zae b j vs ++ [⟨k, v, b' (j + (zae b j vs).length)⟩]))
 | m, [], ps', vs, b, j, n, Q, hm, h, hl, hQ, hw, hk, hv => by
   cases h
   have : vs = [] := List.eq_nil_of_length_eq_zero hl
   subst this
   refine ⟨[k, v], rfl, fun i x u hx hu => ?_, .inr ⟨rfl, fun b' _ => rfl⟩⟩
   match i, hx, hu with
   | 0, hx, hu => cases hx; cases hu; exact hk 0
   | 1, hx, hu => cases hx; cases hu; exact hv 1
   | i + 2, hx, hu => simp at hx
 | m, [x], ps', vs, b, j, n, Q, hm, h, hl, hQ, hw, hk, hv => by
   unfold zgW at h
   split at h <;> rename_i e <;> first | (cases e; done) | (cases h; done)
 | 0, x :: y :: l, ps', vs, b, j, n, Q, hm, h, hl, hQ, hw, hk, hv => by simp at hm
 | m + 1, x :: y :: l, ps', vs, b, j, n, Q, hm, h, hl, hQ, hw, hk, hv => by
   match vs, hl, hQ with
   | u1 :: u2 :: us, hl, hQ =>
     unfold zgW at h
     split at h
     · rename_i e; cases e
     · rename_i a bb l0 e
       injection e with e1 e2
       injection e2 with e2 e3
       subst e1 e2 e3
       have h1 := hw 0 a u1 (hQ 0 _ _ rfl rfl)
       have h2 := hw 1 bb u2 (hQ 1 _ _ rfl rfl)
       subst h1 h2
       have hlt : us.length = l.length := by simpa using hl
       cases hq : zdT t k u1 with
       | none => rw [hq] at h; cases h
       | some q =>
         rw [hq] at h
         cases q with
         | true =>
           simp only at h
           cases h
           have hke := zni hq
           subst hke
           refine ⟨k :: v :: us, by simp [hlt], fun i x u hx hu => ?_, .inl ⟨0, u2, ⟨k, u2, b j⟩, ?_, hq, by simp [zae], rfl, by simp [zae]⟩⟩
           · match i, hx, hu with
             | 0, hx, hu => cases hx; cases hu; exact hk 0
             | 1, hx, hu => cases hx; cases hu; exact hv 1
             | i + 2, hx, hu => exact hQ (i + 2) x u (by simpa using hx) (by simpa using hu)
           · simp only [zae, Instr.findNow, hs _ _ _ hq]
             rfl
         | false =>
           simp only [Option.map_eq_some_iff] at h
           obtain ⟨l', hl', rfl⟩ := h
           obtain ⟨vs', h3, h4, h5⟩ := ze2 hs m l l' us b (j + 1) (n + 1) (fun i => Q (i + 2)) (by simp at hm; omega) hl' hlt (fun i x u hx hu => hQ (i + 2) x u (by simpa using hx) (by simpa using hu)) (fun i => hw (i + 2)) (fun i => hk (i + 2)) (fun i => hv (i + 2))
           have hf : Instr.findNow d k (zae b j (u1 :: u2 :: us)) n = Instr.findNow d k (zae b (j + 1) us) (n + 1) := by
            simp only [zae, Instr.findNow, hs _ _ _ hq]
           refine ⟨u1 :: u2 :: vs', by simp [h3], fun i x u hx hu => ?_, ?_⟩
           · match i, hx, hu with
             | 0, hx, hu => cases hx; cases hu; exact hQ 0 _ _ rfl rfl
             | 1, hx, hu => cases hx; cases hu; exact hQ 1 _ _ rfl rfl
             | i + 2, hx, hu => exact h4 i x u (by simpa using hx) (by simpa using hu)
           · rw [hf]
             rcases h5 with ⟨i, q, e, h6, h7, h8, h9, h10⟩ | ⟨h6, h7⟩
             · refine .inl ⟨i + 1, q, e, by rw [h6]; congr 3; omega, h7, by simpa [zae] using h8, h9, ?_⟩
               simp only [zae, h10, List.modify_succ_cons]
             · refine .inr ⟨h6, fun b' hb => ?_⟩
               have h8 := h7 b' (fun i hi => by
                have := hb (i + 1) (by simpa [zae] using hi)
                rw [show j + 1 + i = j + (i + 1) by omega]
                exact this)
               have h0 := hb 0 (by simp [zae])
               simp only [Nat.add_zero] at h0
               simp only [zae, h8, List.cons_append, List.length_cons, h0]
               rw [show j + 1 + (zae b (j + 1) us).length = j + ((zae b (j + 1) us).length + 1) by omega]
     · cases h
section
variable {P : Program} {c : Cx} {a : Act} {o : Oper} {X : Nat}
theorem zjO {t : TypeId} {n : Nat} (hf : Fr X c a) (hd : ∀ n : Nat, o.dst = some n → n < a.tmps.size) (hn : o.dst = some n) (ho : o.op = .makeMap t none) (hb : c.s.b n = none) : OpOK P X c a o ((c.s.setBox (.loc n) [.etc .mark]).put n (.etc (.map (.loc n)))) := by
 intro K Q hK
 have hlt := hd n hn
 obtain ⟨c1, h1, h2, h3, h4⟩ := zdC (cs := [.etc .mark]) (vs := [.bool true]) (T := ⟨0, fun _ => 0⟩) hf.sim hf.ghost hlt hb rfl (fun i d v hd hv => by
  cases i with
  | zero => cases hd; cases hv; exact ⟨rfl, rfl, rfl⟩
  | succ i => simp at hd) (.etc (.map (.loc n))) _ (.inr ⟨rfl, rfl⟩)
 have hr : (execOp a.eval o).run P c.W = .ok (.value (.map (some c.W.heap.size))) (c.W.alloc (.map #[] 0)) := by simp [execOp, ho, Instr.makeMap]
 unfold Oper.wp
 rw [hr]
 show K (a.put o.dst _) _
 have h1 : c1.W = c.W.alloc (.map #[] 0) := h1
 rw [← h1, hn]
 have hne : X ≠ n := Nat.ne_of_gt (Nat.lt_of_lt_of_le hlt hf.ghost.out)
 refine hK (a.put (some n) _) c1 h2 ⟨h3, by simpa [Act.put] using hf.ghost.out, ?_⟩ h4 (by simp [Act.put]) rfl
 rw [h2]
 refine zaY hne ?_
 rw [setBox_tl.1]
 exact hf.ghost.own
theorem zip {E : Env} {t : TypeId} {zm zk zv : Operand} {s' : St} (hE : E.ty = c.ty) (hty : TyOk P c.ty) (hf : Fr X c a) (ho : o.op = .mapUpdate t zm zk zv ∨ o.op = .insert t zm zk zv) (hdst : o.dst = none) (h : zlk E c.s t zm zk zv = some s') : OpOK P X c a o s' := by
 have hs := hf.sim
 unfold zlk at h
 simp only [Option.bind_eq_some_iff] at h
 obtain ⟨i, hi, h⟩ := h
 rw [hE] at hi
 obtain ⟨_, _, _, hft⟩ := hty.facts hi
 split at h
 · rename_i kt et hk
   simp only [Option.bind_eq_some_iff] at h
   obtain ⟨kj, hkj, h⟩ := h
   rw [hE] at hkj
   split at h
   · rename_i r kv vv hkt hm hkv hvv
     simp only [Option.bind_eq_some_iff] at h
     obtain ⟨cs, hb, h⟩ := h
     split at h
     · rename_i hM
       simp only [Option.map_eq_some_iff] at h
       obtain ⟨ps, hps, rfl⟩ := h
       obtain ⟨dk, hud, hdk, hsame⟩ := zhb hty hkj hkt
       obtain ⟨vs, T, h1, h2, h3, h4, h5, h6⟩ := zjU hs hb hM
       have hv1 := (zaf hs zm (.lent 0)).1
       have hv2 := (zaf hs zk (.lent 0)).1
       have hv3 := (zaf hs zv (.lent 0)).1
       rw [hm] at hv1
       rw [hkv] at hv2
       rw [hvv] at hv3
       have hmv : a.eval zm = .map (some (c.β r)) := hv1.2
       obtain ⟨hkv', hks⟩ := zaq hv2
       obtain ⟨hvv', hvs⟩ := zaq hv3
       obtain ⟨v0, hv0⟩ : ∃ v0, vs = v0 :: vs.tail := by
        cases hvs0 : vs with
        | nil =>
          rw [hvs0] at h4
          have : cs = [] := List.eq_nil_of_length_eq_zero h4.symm
          rw [this] at hM
          cases hM
        | cons v0 l => exact ⟨v0, rfl⟩
       have hc0 : cs = .etc .mark :: cs.tail := by
        cases cs with
        | nil => cases hM
        | cons d l =>
          cases d with
          | etc e => cases e with
            | mark => rfl
            | _ => cases hM
          | _ => cases hM
       let K : Kill := Kill.cells r 0 cs.length
       have hglt : c.β r < c.W.heap.size := (Array.getElem?_eq_some_iff.1 h1).1
       -- whatever the new object is
       have core : ∀ (T' : BT) (vs' : List Value), vs'.length = ps.length → (∀ (c1 : Cx), Mono c c1 K (fun _ => False) → ∀ (i : Nat) (d : D) (u : Value), ps[i]? = some d → vs'[i]? = some u → VR c1 (.cell r (i + 1)) d u ∧ u.oneCell' = true ∧ zap d = true) →
        (Instr.mapUpdate t (.map (some (c.β r))) kv vv).run P c.W = .ok () { c.W with heap := c.W.heap.setIfInBounds (c.β r) (zgb true T' (v0 :: vs')) } → OpOK P X c a o ((c.s.killed K).setBox r (.etc .mark :: ps)) := by
        intro T' vs' hl' hc' hrun
        intro K0 Q hK0
        let W' : World := { c.W with heap := c.W.heap.setIfInBounds (c.β r) (zgb true T' (v0 :: vs')) }
        let c1 : Cx := { c with W := W', s := (c.s.killed K).setBox r (.etc .mark :: ps) }
        have hblk : ∀ g, g ≠ c.β r → W'.heap[g]? = c.W.heap[g]? := fun g hg => Array.getElem?_setIfInBounds_ne (fun e => hg e.symm)
        have hbs : ∀ r', r' ≠ r → c1.s.box r' = c.s.box r' := fun r' hr => (za3 hr).trans (zak r')
        have hbr : c1.s.box r = some (.etc .mark :: ps) := zal (by rw [zak]; exact hb)
        have m : Mono c c1 K (fun _ => False) := by
         refine ⟨rfl, fun b g hr hg => ⟨hr, hblk g fun e => ?_⟩, fun q r' hq hkq => ⟨?_, rfl⟩, fun r' hr' _ => ⟨?_, rfl⟩, fun q _ => ⟨rfl, fun g hg hlt => ⟨hg, hblk g fun e => ?_⟩⟩⟩
         · rw [e] at hr
           rcases hr with hr | ⟨_, hr⟩ <;> rw [h5] at hr <;> cases hr
         · cases q with
           | slot y l =>
             show (D.at_ l (c1.s.t y)).row? = _
             have : c1.s.t y = (c.s.t y).kill K := by
              show ((c.s.killed _).setBox r _).t y = _
              rw [setBox_tl.1]
              rfl
             rw [this, zaZ]
             exact hq
           | cell r2 m =>
             by_cases he : r2 = r
             · subst he
               exfalso
               simp only [St.get, hb, Option.bind_some] at hq
               have hlt : m < cs.length := by
                cases hcm : cs[m]? with
                | none => rw [hcm] at hq; cases hq
                | some d => exact (List.getElem?_eq_some_iff.1 hcm).1
               have : K.pl (.cell r2 m) = true := by
                show (r2.is r2 && (Nat.ble 0 m && Nat.blt m (0 + cs.length))) = true
                simp only [Bool.and_eq_true, Ref.is_eq, true_and]
                exact ⟨by simp, by simp [Nat.blt]; omega⟩
               rw [this] at hkq
               cases hkq
             · simp only [St.get] at hq ⊢
               rw [hbs r2 he]
               exact hq
           | lent j =>
             simp only [St.get] at hq ⊢
             rw [show c1.s.l = c.s.l from setBox_tl.2]
             exact hq
         · by_cases he : r' = r
           · rw [he, hbr]; rfl
           · rw [hbs r' he]; exact hr'
         · rw [e, h5] at hg
           cases hg
        have hnew : BoxOK c1 r (.etc .mark :: ps) := by
         refine ⟨v0 :: vs', T', ?_, h5, by simp [hl'], fun i d v hd hv => ?_⟩
         · show (c.W.heap.setIfInBounds (c.β r) _)[c.β r]? = _
           simp [hglt]
           rfl
         · cases i with
           | zero =>
             cases hd
             cases hv
             have h7 := h6 0 (.etc .mark) v0 (by rw [hc0]; rfl) (by rw [hv0]; rfl)
             exact ⟨h7.1, h7.2.1, rfl⟩
           | succ i => exact hc' c1 m i d v (by simpa using hd) (by simpa using hv)
        have hsim : Sim c1 a.tmps := Sim.setBox (r := r) hs m (fun _ => rfl) rfl (fun q r' _ e => e.elim) (fun r' hne hr' => by
         obtain ⟨cs', hb'⟩ := Option.isSome_iff_exists.1 hr'
         obtain ⟨vs', T', h7, h8, _⟩ := (hs.boxes r' cs' hb').out
         refine ⟨h8, hblk _ fun e => ?_⟩
         rw [e, h5] at h8
         injection h8 with h8
         exact hne h8.symm) hnew
        have hr2 : (execOp a.eval o).run P c.W = .ok .skip W' := by
         rcases ho with ho | ho <;> simp only [execOp, ho, hmv, hkv', hvv', Sem.run_bind, hrun, Result.andThen_ok, Sem.run_pure] <;> rfl
        unfold Oper.wp
        rw [hr2]
        show K0 (a.put o.dst undef) W'
        rw [hdst]
        refine hK0 a c1 rfl ⟨hsim, hf.ghost.out, ?_⟩ ⟨rfl, rfl, rfl, ?_, fun g hg hst => ⟨rfl, hblk g fun e => ?_⟩, rfl, fun _ => rfl, fun _ => rfl⟩ rfl rfl
        · show (((c.s.killed _).setBox r _).t X).hasOwn = false
          rw [setBox_tl.1]
          show ((c.s.t X).kill _).hasOwn = false
          rw [zaw]
          exact hf.ghost.own
        · show c.W.heap.size ≤ (c.W.heap.setIfInBounds _ _).size
          simp
        · rw [e, h5] at hst
          exact hst.elim
       have hold : ∀ (c1 : Cx), Mono c c1 K (fun _ => False) → ∀ (i : Nat) (d : D) (u : Value), cs.tail[i]? = some d → vs.tail[i]? = some u → VR c1 (.cell r (i + 1)) d u ∧ u.oneCell' = true ∧ zap d = true := by
        intro c1 m i d u hd hu
        rw [← List.drop_one, List.getElem?_drop, Nat.add_comm] at hd hu
        obtain ⟨h7, h8, h9⟩ := h6 _ d u hd hu
        refine ⟨?_, h8, h9⟩
        have := VR.mono m (.cell r (i + 1)) d u (fun _ _ _ e => e) h7
        rwa [zcy (fun _ => rfl) h9] at this
       obtain ⟨vs', h7, h8, h9⟩ := ze2 hsame _ cs.tail ps vs.tail T.b 0 0 (fun i d u => (∀ w, d = .dat (.val w) → u = w) ∧ ∀ c1 : Cx, Mono c c1 K (fun _ => False) → VR c1 (.cell r (i + 1)) d u ∧ u.oneCell' = true ∧ zap d = true) (Nat.le_refl _) hps h2
        (fun i d u hd hu => ⟨fun w e => h3 i w u (by rw [hd, e]) hu, fun c1 m => hold c1 m i d u hd hu⟩) (fun i w u h => h.1 w rfl) (fun i => ⟨fun w e => by injection e with e; injection e, fun c1 _ => ⟨zaE hks, zde hks, rfl⟩⟩) (fun i => ⟨fun w e => by injection e with e; injection e, fun c1 _ => ⟨zaE hvs, zde hvs, rfl⟩⟩)
       have hsz : (zae T.b 0 vs.tail).toArray.size = (zae T.b 0 vs.tail).length := by simp
       rcases h9 with ⟨i, q, e, h10, h11, h12, h13, h14⟩ | ⟨h10, h11⟩
       · refine core T vs' h7 (fun c1 m i d u hd hu => (h8 i d u hd hu).2 c1 m) ?_
         have hkey : (Instr.keyThatStays kv kv).run P c.W = .ok kv c.W := by simp [Instr.keyThatStays, zlo h11]
         rw [Nat.zero_add] at h10
         have hobj : zgb true T (v0 :: vs') = .map ((zae T.b 0 vs.tail).toArray.modify i fun e => { e with key := kv, val := vv }) T.t := by
          show Obj.map (zae T.b 0 vs').toArray T.t = _
          rw [h14]
          simp
         have hgk : (((zae T.b 0 vs.tail).toArray[i]?).map (·.key)).getD kv = kv := by
          rw [List.getElem?_toArray, h12]
          exact h13
         rw [hobj]
         simp only [Instr.mapUpdate, Sem.run_bind, run_underlying (hft.map hk), Result.andThen_ok, zcM h1, zbU hud hdk, Instr.findKey, run_underlying hud, h10, Sem.run_pure, hgk, hkey, zfA _ h1]
       · refine core ⟨T.t + 1, fun i => if i = (zae T.b 0 vs.tail).length then T.t else T.b i⟩ vs' h7 (fun c1 m i d u hd hu => (h8 i d u hd hu).2 c1 m) ?_
         have h12 := h11 (fun i => if i = (zae T.b 0 vs.tail).length then T.t else T.b i) (fun i hi => by
          simp only [Nat.zero_add]
          rw [if_neg (by omega)])
         simp only [Nat.zero_add, if_true] at h12
         have hobj : zgb true ⟨T.t + 1, fun i => if i = (zae T.b 0 vs.tail).length then T.t else T.b i⟩ (v0 :: vs') = .map ((zae T.b 0 vs.tail).toArray.push ⟨kv, vv, T.t⟩) (T.t + 1) := by
          show Obj.map (zae _ 0 vs').toArray (T.t + 1) = _
          rw [h12]
          simp
         rw [hobj]
         simp [Instr.mapUpdate, run_underlying (hft.map hk), zcM h1, zbU hud hdk, Instr.findKey, run_underlying hud, h10, zfA _ h1]
     · cases h
   · cases h
 · cases h
end
end Go.Den
