/- Merged out of: E2 E3 E4 E5 YFnExactShowDeep LFnExactShowDeep LFnExactShowDeepCard (prune.py, a program of this work's). -/
import Derived.Test.YtcmcfebihbmmeaaDoorZa6
import Derived.Test.YtcmcfebihbmmeaaDoorZa5
import Derived.Test.YtcmcfebihbmmeaaDoorZa4
import Derived.KernelRfl
import Derived.LaidHandle
import Derived.Handed
import Derived.Stop.LaidErr
import Derived.Lib.LaidTab
import Derived.Test.YtcmcfebihbmmeaaDoorRows
import Derived.WalkKit
import Derived.ProofKit
import Derived.OpenShut
import Derived.ShutString
import Derived.ChangeOld
import Derived.Below
import Derived.Test.YtcmcfebihbmmeaaDoorCards
import Derived.Test.YtcmcfebihbmmeaaDoorTie
import Derived.SevenTiedAt
set_option linter.unusedVariables false
set_option linter.unusedSimpArgs false
set_option linter.unnecessarySimpa false
namespace Go.Den
open Go
set_option linter.unusedVariables false
set_option maxRecDepth 100000
theorem ih {α : Type} {es : List α} {i : Nat} {d : α} (h : es[i]? = some d) : (0 ≤ (i : Int) ∧ (i : Int) < (es.length : Int)) ∧ es[((i : Int)).toNat]? = some d := by
  have hlt := (List.getElem?_eq_some_iff.1 h).1
  refine ⟨⟨by omega, by omega⟩, ?_⟩
  rw [Int.toNat_natCast]
  exact h
theorem gm {α : Type} {L : List α} {f : α → Dat} {i : Nat} {x : α} (h : L[i]? = some x) : (L.map f)[i]? = some (f x) := by rw [List.getElem?_map, h]; rfl
theorem wi (i : Nat) (h : i ≤ 1048576) : w64 ((i : Int) + 1) = ((i + 1 : Nat) : Int) := by rw [w64_eq (by omega)]; rfl
theorem get_lt {α : Type} {L : List α} {i : Nat} (h : i < L.length) : ∃ x, L[i]? = some x := ⟨_, List.getElem?_eq_getElem h⟩
/-- What is left behind so many. -/
def leftOf (l : Int) (n : Nat) : Int := if l - n < 0 then -1 else l - n
theorem left_lt {l : Int} {n : Nat} (h : l - n < 0) : leftOf l n = -1 := if_pos h
theorem left_ge {l : Int} {n : Nat} (h : ¬ l - n < 0) : leftOf l n = l - n := if_neg h
theorem left_cases (l : Int) (n : Nat) : (leftOf l n = -1 ∧ l - n < 0) ∨ (leftOf l n = l - n ∧ 0 ≤ l - n) := by
  unfold leftOf
  split
  · exact .inl ⟨rfl, by assumption⟩
  · exact .inr ⟨rfl, by omega⟩
theorem ev_szC (left : Int) (b : Bool) (es : List Dat) (h0 : 0 ≤ left) (h1 : left ≤ 1048576) (h2 : es.length ≤ 9223372036854775807) : EvN 1 36 [.dat (.lst b es), .dat (I left)] [] [] ([.dat (I (leftOf left es.length))], [], []) := by
  refine ev_fn Go.Proofs.Tryd.f36 0 (by kernel_rfl) (by kernel_rfl) fun kk _ => ?_
  have hw : w64 (left - es.length) = left - es.length := w64_eq (by omega)
  refine szC kk left b es (fun d => ?_) (fun d => ?_)
  · rw [hw] at d
    rw [left_lt (of_decide_eq_true d)]
  · rw [hw] at d ⊢
    rw [left_ge (of_decide_eq_false d)]
theorem ev_szI (left : Int) (b : Bool) (es : List Dat) (h0 : 0 ≤ left) (h1 : left ≤ 1048576) (h2 : es.length ≤ 9223372036854775807) : EvN 1 37 [.dat (.lst b es), .dat (I left)] [] [] ([.dat (I (leftOf left es.length))], [], []) := by
  refine ev_fn Go.Proofs.Tryd.f37 0 (by kernel_rfl) (by kernel_rfl) fun kk _ => ?_
  have hw : w64 (left - es.length) = left - es.length := w64_eq (by omega)
  refine szI kk left b es (fun d => ?_) (fun d => ?_)
  · rw [hw] at d
    rw [left_lt (of_decide_eq_true d)]
  · rw [hw] at d ⊢
    rw [left_ge (of_decide_eq_false d)]
theorem ev_szY (b : Bool) (o : Int) (cs rs ns : List Dat) (h1 : cs.length ≤ 9223372036854775807) (h2 : rs.length ≤ 9223372036854775807) (h3 : ns.length ≤ 9223372036854775807) :
    ∃ z : Int, EvN 2 11 [.dat (Yd b o cs rs ns), .dat (I 1048576)] [] [] ([.dat (I z)], [], []) ∧ (0 ≤ z → cs.length + rs.length + ns.length ≤ 1048576) := by
  have l1 := left_cases 1048576 cs.length
  generalize hz1 : leftOf 1048576 cs.length = z1 at *
  have l2 := left_cases z1 rs.length
  generalize hz2 : leftOf z1 rs.length = z2 at *
  have l3 := left_cases z2 ns.length
  generalize hz3 : leftOf z2 ns.length = z3 at *
  refine ⟨if z1 < 0 then -1 else if z2 < 0 then -1 else z3, ev_fn Go.Proofs.Tryd.f11 1 (by kernel_rfl) (by kernel_rfl) fun kk hkk => ?_, fun hz => ?_⟩
  · have c1 := ev_szC 1048576 b cs (by omega) (by omega) h1 kk (by omega)
    rw [hz1] at c1
    have c2 := fun h => ev_szI z1 b rs h (by omega) h2 kk (by omega)
    rw [hz2] at c2
    have c3 := fun h => ev_szI z2 b ns h (by omega) h3 kk (by omega)
    rw [hz3] at c3
    refine szY kk 1048576 b o cs rs ns z1 z2 z3 (fun d1 => ⟨c1, ?_⟩) (fun d1 d2 => ⟨c1, c2 ?_, ?_⟩) (fun d1 d2 d3 => ⟨c1, c2 ?_, c3 ?_, ?_⟩) (fun d1 d2 d3 => ⟨c1, c2 ?_, c3 ?_, ?_⟩) <;> simp only [decide_eq_true_eq, decide_eq_false_iff_not] at * <;> first | omega | skip
    · rw [if_pos d1]
    · rw [if_neg d1, if_pos d2]
    · rw [if_neg d1, if_neg d2]
      have : z3 = -1 := by omega
      rw [this]
    · rw [if_neg d1, if_neg d2]
  · split at hz
    · omega
    · split at hz
      · omega
      · omega
theorem ev_toCell (c : Cl) : EvN 1 73 [.dat c.d] [] [] ([.dat c.d], [], []) :=
  ev_fn Go.Proofs.Tryd.f73 0 (by kernel_rfl) (by kernel_rfl) fun kk _ => toCell kk c rfl
theorem ev_toCellS (b : Bool) (L : List Cl) (h : L.length ≤ 1048576) : EvN 1048580 41 [.dat (.lst b (L.map Cl.d))] [] [] ([.own 97 (L.map Cl.d)], [], []) := by
  refine ev_fn Go.Proofs.Tryd.f41 1048579 (by kernel_rfl) (by kernel_rfl) fun kk hkk => ?_
  have hlen : (L.map Cl.d).length = L.length := by simp
  generalize hes : L.map Cl.d = es at *
  refine toCellS kk b es es ⟨⟨by omega, by omega, by omega⟩, ?_, rfl⟩
  refine loopAt_range (fun i => hd41 b es (es.take i ++ List.replicate (es.length - i) (Cl.d ⟨false, 0, 0, 0⟩)) i) es.length (by omega) (fun i hi m s K hs hn => ?_) (fun m s K hs hK => ?_) (by simp)
  · obtain ⟨x, hx⟩ := get_lt (L := L) (i := i) (by omega)
    have hxd : es[i]? = some x.d := by rw [← hes]; exact gm hx
    refine toCellS_r kk m b es _ i x x ⟨false, 0, 0, 0⟩ hs (fun _ => ⟨ih hxd, ev_toCell x kk (by omega), ⟨by omega, by simp; omega⟩, by rw [Int.toNat_natCast]; exact get_mid es _ i hi, fun s' hs' => hn s' ?_⟩) (fun d => absurd (of_decide_eq_false d) (by omega))
    rw [hs', Int.toNat_natCast, wi i (by omega), show Dat.agg [B x.l, I x.n, I x.a, I x.b] = x.d from rfl, set_mid es _ _ i hi hxd]
    rfl
  · refine toCellS_r kk m b es _ _ ⟨false, 0, 0, 0⟩ ⟨false, 0, 0, 0⟩ ⟨false, 0, 0, 0⟩ hs (fun d => absurd (of_decide_eq_true d) (by omega)) (fun _ => ?_)
    simpa using hK
theorem ev_toIntS (b : Bool) (L : List Int) (h : L.length ≤ 1048576) : EvN 1048580 42 [.dat (.lst b (L.map (I ·)))] [] [] ([.own 3 (L.map (I ·))], [], []) := by
  refine ev_fn Go.Proofs.Tryd.f42 1048579 (by kernel_rfl) (by kernel_rfl) fun kk hkk => ?_
  have hlen : (L.map (I ·)).length = L.length := by simp
  generalize hes : L.map (I ·) = es at *
  refine toIntS kk b es es ⟨⟨by omega, by omega, by omega⟩, ?_, rfl⟩
  refine loopAt_range (fun i => hd42 b es (es.take i ++ List.replicate (es.length - i) (I 0)) i) es.length (by omega) (fun i hi m s K hs hn => ?_) (fun m s K hs hK => ?_) (by simp)
  · obtain ⟨x, hx⟩ := get_lt (L := L) (i := i) (by omega)
    have hxd : es[i]? = some (I x) := by rw [← hes]; exact gm (f := (I ·)) hx
    refine toIntS_r kk m b es _ i x 0 hs (fun _ => ⟨ih hxd, ⟨by omega, by simp; omega⟩, by rw [Int.toNat_natCast]; exact get_mid es _ i hi, fun s' hs' => hn s' ?_⟩) (fun d => absurd (of_decide_eq_false d) (by omega))
    rw [hs', Int.toNat_natCast, wi i (by omega), set_mid es _ _ i hi hxd]
    rfl
  · refine toIntS_r kk m b es _ _ 0 0 hs (fun d => absurd (of_decide_eq_true d) (by omega)) (fun _ => ?_)
    simpa using hK
/-- A heap, as data. -/
abbrev YD (b : Bool) (o : Int) (cs : List Cl) (rs ns : List Int) : Dat := Yd b o (cs.map Cl.d) (rs.map (I ·)) (ns.map (I ·))
theorem ev_toYoung (b : Bool) (o : Int) (cs : List Cl) (rs ns : List Int) (h : cs.length + rs.length + ns.length ≤ 1048576) : EvN 1048581 13 [.dat (YD b o cs rs ns)] [] [] ([.dat (YD false o cs rs ns)], [], []) :=
  ev_fn Go.Proofs.Tryd.f13 1048580 (by kernel_rfl) (by kernel_rfl) fun kk hkk => toYoung kk b o _ _ _ _ _ _ ⟨ev_toCellS b cs (by omega) kk (by omega), ev_toIntS b rs (by omega) kk (by omega), ev_toIntS b ns (by omega) kk (by omega), rfl⟩
theorem ev_eqCell (c : Cl) : EvN 1 75 [.dat c.d, .dat c.d] [] [] ([.dat (B true)], [], []) :=
  ev_fn Go.Proofs.Tryd.f75 0 (by kernel_rfl) (by kernel_rfl) fun kk _ => eqCell kk c c (fun d => by simp at d) (fun _ d => by simp at d) (fun _ _ d => by simp at d) (fun _ _ _ d => by simp at d) (fun _ _ _ _ => rfl)
theorem ev_eqCellS (L : List Cl) (b1 b2 : Bool) (h : L.length ≤ 1048576) : EvN 1048580 45 [.dat (.lst b1 (L.map Cl.d)), .dat (.lst b2 (L.map Cl.d))] [] [] ([.dat (B true)], [], []) := by
  refine ev_fn Go.Proofs.Tryd.f45 1048579 (by kernel_rfl) (by kernel_rfl) fun kk hkk => ?_
  have hlen : (L.map Cl.d).length = L.length := by simp
  generalize hes : L.map Cl.d = es at *
  refine eqCellS_y kk b1 b2 es es (fun d => by simp at d) (fun _ => ⟨?_, rfl⟩)
  refine loopAt_range (fun i => hd45 b1 b2 es es i) es.length (by omega) (fun i hi m s K hs hn => ?_) (fun m s K hs hK => ?_) rfl
  · obtain ⟨x, hx⟩ := get_lt (L := L) (i := i) (by omega)
    have hxd : es[i]? = some x.d := by rw [← hes]; exact gm hx
    refine eqCellS_r kk m b1 b2 es es i x x true hs (fun _ d => by cases d) (fun _ _ => ⟨ih hxd, ih hxd, ev_eqCell x kk (by omega), fun s' hs' => hn s' ?_⟩) (fun d => absurd (of_decide_eq_false d) (by omega))
    rw [hs', wi i (by omega)]
    rfl
  · exact eqCellS_r kk m b1 b2 es es _ ⟨false, 0, 0, 0⟩ ⟨false, 0, 0, 0⟩ true hs (fun d => absurd (of_decide_eq_true d) (by omega)) (fun d => absurd (of_decide_eq_true d) (by omega)) (fun _ => hK)
theorem ev_eqIntS (L : List Int) (b1 b2 : Bool) (h : L.length ≤ 1048576) : EvN 1048580 46 [.dat (.lst b1 (L.map (I ·))), .dat (.lst b2 (L.map (I ·)))] [] [] ([.dat (B true)], [], []) := by
  refine ev_fn Go.Proofs.Tryd.f46 1048579 (by kernel_rfl) (by kernel_rfl) fun kk hkk => ?_
  have hlen : (L.map (I ·)).length = L.length := by simp
  generalize hes : L.map (I ·) = es at *
  refine eqIntS_y kk b1 b2 es es (fun d => by simp at d) (fun _ => ⟨?_, rfl⟩)
  refine loopAt_range (fun i => hd45 b1 b2 es es i) es.length (by omega) (fun i hi m s K hs hn => ?_) (fun m s K hs hK => ?_) rfl
  · obtain ⟨x, hx⟩ := get_lt (L := L) (i := i) (by omega)
    have hxd : es[i]? = some (I x) := by rw [← hes]; exact gm (f := (I ·)) hx
    refine eqIntS_r kk m b1 b2 es es i x x hs (fun _ d => by simp at d) (fun _ _ => ⟨ih hxd, ih hxd, fun s' hs' => hn s' ?_⟩) (fun d => absurd (of_decide_eq_false d) (by omega))
    rw [hs', wi i (by omega)]
    rfl
  · exact eqIntS_r kk m b1 b2 es es _ 0 0 hs (fun d => absurd (of_decide_eq_true d) (by omega)) (fun d => absurd (of_decide_eq_true d) (by omega)) (fun _ => hK)
theorem ev_eqYoung (b1 b2 : Bool) (o : Int) (cs : List Cl) (rs ns : List Int) (h : cs.length + rs.length + ns.length ≤ 1048576) : EvN 1048581 15 [.dat (YD b1 o cs rs ns), .dat (YD b2 o cs rs ns)] [] [] ([.dat (B true)], [], []) := by
  refine ev_fn Go.Proofs.Tryd.f15 1048580 (by kernel_rfl) (by kernel_rfl) fun kk hkk => ?_
  have h1 := ev_eqCellS cs b1 b2 (by omega) kk (by omega)
  have h2 := ev_eqIntS rs b1 b2 (by omega) kk (by omega)
  have h3 := ev_eqIntS ns b1 b2 (by omega) kk (by omega)
  exact eqYoung kk b1 b2 o o _ _ _ _ _ _ true true true (fun d => by simp at d) (fun _ d => by cases d) (fun _ _ d => by cases d) (fun _ _ _ d => by cases d) (fun _ _ _ _ => ⟨h1, h2, h3, rfl⟩)
end Go.Den
namespace Go.Den
open Go
set_option linter.unusedVariables false
set_option maxRecDepth 100000
def inB (x lo hi : Int) : Bool := decide (lo ≤ x) && decide (x ≤ hi)
def belowB (x hi : Int) : Bool := decide (0 ≤ x) && decide (x < hi)
theorem below_in (x hi : Int) : inB x 0 (hi - 1) = belowB x hi := by unfold inB belowB; congr 1; rw [decide_eq_decide]; omega
def cellOK (n : Int) (c : Cl) : Bool := match c.l with
  | true => decide (c.a = 0) && decide (c.b = 0)
  | false => decide (c.n = 0) && (belowB c.a n && belowB c.b n)
def namesB (o : Int) (c : Cl) : Bool := !c.l && (decide (o ≤ c.a) || decide (o ≤ c.b))
def hasB (zs : List Int) (x : Int) : Bool := zs.any fun z => decide (z = x)
def chkN (o : Int) (ns : List Int) (i : Nat) : Bool := belowB (ns.getD i 0) o && !(decide (0 < i) && decide (ns.getD i 0 ≤ ns.getD (i - 1) 0))
def chkC (cs : List Cl) (o : Int) (ns : List Int) (i : Nat) : Bool := cellOK cs.length (cs.getD i ⟨false, 0, 0, 0⟩) && !(decide ((i : Int) < o) && namesB o (cs.getD i ⟨false, 0, 0, 0⟩) && !hasB ns i)
def chkR (n : Int) (rs : List Int) (i : Nat) : Bool := belowB (rs.getD i 0) n
def goodY (o : Int) (cs : List Cl) (rs ns : List Int) : Bool :=
  decide (cs.length ≤ 200) && decide (rs.length ≤ 60) && inB o 0 cs.length && (List.range ns.length).all (chkN o ns) && (List.range cs.length).all (chkC cs o ns) && (List.range rs.length).all (chkR cs.length rs)
theorem gd {α : Type} {L : List α} {i : Nat} {x z : α} (h : L[i]? = some x) : L.getD i z = x := by rw [List.getD_eq_getElem?_getD, h]; rfl
theorem ev_l1In (x lo hi : Int) : EvN 1 39 [.dat (I x), .dat (I lo), .dat (I hi)] [] [] ([.dat (B (inB x lo hi))], [], []) :=
  ev_fn Go.Proofs.Tryd.f39 0 (by kernel_rfl) (by kernel_rfl) fun kk _ => l1In kk x lo hi (fun d => by simp only [decide_eq_true_eq] at d; simp [inB, d]) (fun d => by simp only [decide_eq_false_iff_not] at d; simp [inB, d])
theorem ev_isBelow (x hi : Int) : EvN 1 43 [.dat (I x), .dat (I hi)] [] [] ([.dat (B (belowB x hi))], [], []) :=
  ev_fn Go.Proofs.Tryd.f43 0 (by kernel_rfl) (by kernel_rfl) fun kk _ => isBelow kk x hi (fun d => by simp only [decide_eq_true_eq] at d; simp [belowB, d]) (fun d => by simp only [decide_eq_false_iff_not] at d; simp [belowB, d])
theorem any_range {zs : List Int} {x : Int} (p : Int → Bool) : zs.any p = !(List.range zs.length).all fun i => !p (zs.getD i 0) := by
  rw [← List.not_any_eq_all_not]
  simp only [Bool.not_not, List.any_eq, List.mem_range]
  rw [decide_eq_decide]
  constructor
  · rintro ⟨z, hz, hp⟩
    obtain ⟨i, hi, rfl⟩ := List.mem_iff_getElem.1 hz
    exact ⟨i, hi, by simpa [List.getD_eq_getElem?_getD, hi] using hp⟩
  · rintro ⟨i, hi, hp⟩
    exact ⟨zs[i], List.getElem_mem hi, by simpa [List.getD_eq_getElem?_getD, hi] using hp⟩
theorem ev_lcHas (b : Bool) (zs : List Int) (x : Int) (h : zs.length ≤ 1048576) : EvN 1048580 71 [.dat (.lst b (zs.map (I ·))), .dat (I x)] [] [] ([.dat (B (hasB zs x))], [], []) := by
  refine ev_fn Go.Proofs.Tryd.f71 1048579 (by kernel_rfl) (by kernel_rfl) fun kk hkk => ?_
  have hlen : (zs.map (I ·)).length = zs.length := by simp
  obtain ⟨h1, h2⟩ := loopAt_all (kk := kk) (f := 71) (fn := Go.Proofs.Tryd.f71) (r := 2) (x1 := .exit 0) (x2 := .ret) (s1 := Nm [4] [.junk] [none] [] []) (s2 := Nm [4] [.dat (B true)] [none] [] []) (s0 := hd71 b (zs.map (I ·)) x 0) (fun i => hd71 b (zs.map (I ·)) x i) (fun i => !decide (zs.getD i 0 = x)) zs.length (by omega) (fun i hi _ m s K hs hgo hbad => by
    obtain ⟨z, hz⟩ := get_lt hi
    have hzd := ih (gm (f := (I ·)) hz)
    refine lcHas_r kk m b _ x i z hs (fun _ d => ⟨hzd, hbad ?_⟩) (fun _ d => ⟨hzd, fun s' hs' => hgo ?_ s' ?_⟩) (fun d => absurd (of_decide_eq_false d) (by omega))
    · rw [gd hz, d]; rfl
    · rw [gd hz, d]; rfl
    · rw [hs', wi i (by omega)]; rfl) (fun _ m s K hs hK => lcHas_r kk m b _ x _ 0 hs (fun d => absurd (of_decide_eq_true d) (by omega)) (fun d => absurd (of_decide_eq_true d) (by omega)) (fun _ => hK)) rfl
  have ha : hasB zs x = _ := any_range (x := x) fun z => decide (z = x)
  rw [ha]
  cases hall : (List.range zs.length).all fun i => !decide (zs.getD i 0 = x) with
  | true => exact lcHas_n kk b _ x ⟨h1 hall, rfl⟩
  | false => exact lcHas_y kk b _ x ⟨h2 hall, rfl⟩
theorem ev_contains (b : Bool) (zs : List Int) (x : Int) (h : zs.length ≤ 1048576) : EvN 1048581 67 [.dat (.lst b (zs.map (I ·))), .dat (I x)] [] [] ([.dat (B (hasB zs x))], [], []) := by
  have hlen : (zs.map (I ·)).length = zs.length := by simp
  have key : ∃ j : Int, EvN 1048580 89 [.dat (.lst b (zs.map (I ·))), .dat (I x)] [] [] ([.dat (I j)], [], []) ∧ decide (0 ≤ j) = hasB zs x := by
    have lp := fun kk (hkk : 1048579 ≤ kk) => loopAt_first (kk := kk) (f := 89) (fn := Go.Proofs.Tryd.f89) (r := 2) (x1 := .exit 0) (x2 := .ret) (s1 := Nm [4] [.junk] [none] [] []) (s2 := fun i => Nm [4] [.dat (I i)] [none] [] []) (s0 := hd89 b (zs.map (I ·)) x 0) (fun i => hd89 b (zs.map (I ·)) x i) (fun i => !decide (zs.getD i 0 = x)) zs.length (by omega) (fun i hi _ m s K hs hgo hbad => by
      obtain ⟨z, hz⟩ := get_lt hi
      have hzd := ih (gm (f := (I ·)) hz)
      refine index_r kk m b _ x i z hs (fun _ d => ⟨hzd, hbad ?_⟩) (fun _ d => ⟨hzd, fun s' hs' => hgo ?_ s' ?_⟩) (fun d => absurd (of_decide_eq_false d) (by omega))
      · rw [gd hz]; simp only [decide_eq_true_eq] at d; simp [d]
      · rw [gd hz]; simp only [decide_eq_false_iff_not] at d; simp [Ne.symm d]
      · rw [hs', wi i (by omega)]; rfl) (fun _ m s K hs hK => index_r kk m b _ x _ 0 hs (fun d => absurd (of_decide_eq_true d) (by omega)) (fun d => absurd (of_decide_eq_true d) (by omega)) (fun _ => hK)) rfl
    have ha : hasB zs x = _ := any_range (x := x) fun z => decide (z = x)
    rw [ha]
    cases hall : (List.range zs.length).all fun i => !decide (zs.getD i 0 = x) with
    | true => exact ⟨-1, ev_fn Go.Proofs.Tryd.f89 1048579 (by kernel_rfl) (by kernel_rfl) fun kk hkk => index_n kk b _ x ⟨(lp kk hkk).1 hall, rfl⟩, rfl⟩
    | false =>
      obtain ⟨j, q, h3, h4, h5⟩ := first_bad _ hall
      have hj : j < zs.length := by
        have := (List.getElem?_eq_some_iff.1 h3).1
        simpa using this
      rw [List.getElem?_range hj] at h3
      cases h3
      exact ⟨j, ev_fn Go.Proofs.Tryd.f89 1048579 (by kernel_rfl) (by kernel_rfl) fun kk hkk => index_y kk b _ x j ⟨(lp kk hkk).2 j hj (fun i hi => h5 i i hi (List.getElem?_range (by omega))) h4, rfl⟩, by simp⟩
  obtain ⟨j, h1, h2⟩ := key
  exact ev_fn Go.Proofs.Tryd.f67 1048580 (by kernel_rfl) (by kernel_rfl) fun kk hkk => contains kk b _ x j ⟨h1 kk (by omega), by rw [← h2]⟩
/-- 'ContainsFunc' of roots that are no cells. -/
theorem ev_outOf (b : Bool) (zs : List Int) (hi : Int) (h : zs.length ≤ 1048576) : EvN 1048590 87 [.dat (.lst b (zs.map (I ·))), .fn 88 [.up 0]] [[.dat (I hi)]] [] ([.dat (B (!(List.range zs.length).all (chkR hi zs)))], [[.dat (I hi)]], []) := by
  have hlen : (zs.map (I ·)).length = zs.length := by simp
  have hr : ∀ x : Int, EvN 3 88 [.dat (I x), .ptr (.up 0) 0] [[.dat (I hi)]] [] ([.dat (B (!belowB x hi))], [[.dat (I hi)]], []) := fun x =>
    ev_fn Go.Proofs.Tryd.f88 2 (by kernel_rfl) (by kernel_rfl) fun kk hkk => root1 kk x hi _ ⟨ev_isBelow x hi kk (by omega), rfl⟩
  have key : ∃ j : Int, EvN 1048585 119 [.dat (.lst b (zs.map (I ·))), .fn 88 [.up 0]] [[.dat (I hi)]] [] ([.dat (I j)], [[.dat (I hi)]], []) ∧ decide (0 ≤ j) = !(List.range zs.length).all (chkR hi zs) := by
    have lp := fun kk (hkk : 1048579 ≤ kk) => loopAt_first (kk := kk) (f := 119) (fn := Go.Proofs.Tryd.f119) (r := 2) (x1 := .exit 0) (x2 := .ret) (s1 := Nm [4] [.junk] [none] [[.dat (I hi)]] []) (s2 := fun i => Nm [4] [.dat (I i)] [none] [[.dat (I hi)]] []) (s0 := hd119 b (zs.map (I ·)) hi 0) (fun i => hd119 b (zs.map (I ·)) hi i) (chkR hi zs) zs.length (by omega) (fun i hlt _ m s K hs hgo hbad => by
      obtain ⟨z, hz⟩ := get_lt hlt
      have hzd := ih (gm (f := (I ·)) hz)
      have hc : chkR hi zs i = belowB z hi := by unfold chkR; rw [gd hz]
      refine indexF_r kk m b _ hi i (!belowB z hi) z hs (fun _ d => ⟨hzd, hr z kk (by omega), hbad ?_⟩) (fun _ d => ⟨hzd, hr z kk (by omega), fun s' hs' => hgo ?_ s' ?_⟩) (fun d => absurd (of_decide_eq_false d) (by omega))
      · rw [hc]; simpa using d
      · rw [hc]; simpa using d
      · rw [hs', wi i (by omega)]; rfl) (fun _ m s K hs hK => indexF_r kk m b _ hi _ true 0 hs (fun d => absurd (of_decide_eq_true d) (by omega)) (fun d => absurd (of_decide_eq_true d) (by omega)) (fun _ => hK)) rfl
    cases hall : (List.range zs.length).all (chkR hi zs) with
    | true => exact ⟨-1, ev_fn Go.Proofs.Tryd.f119 1048584 (by kernel_rfl) (by kernel_rfl) fun kk hkk => indexF_n kk b _ hi ⟨(lp kk (by omega)).1 hall, rfl⟩, rfl⟩
    | false =>
      obtain ⟨j, q, h3, h4, h5⟩ := first_bad _ hall
      have hj : j < zs.length := by
        have := (List.getElem?_eq_some_iff.1 h3).1
        simpa using this
      rw [List.getElem?_range hj] at h3
      cases h3
      exact ⟨j, ev_fn Go.Proofs.Tryd.f119 1048584 (by kernel_rfl) (by kernel_rfl) fun kk hkk => indexF_y kk b _ hi j ⟨(lp kk (by omega)).2 j hj (fun i hi => h5 i i hi (List.getElem?_range (by omega))) h4, rfl⟩, by simp⟩
  obtain ⟨j, h1, h2⟩ := key
  exact ev_fn Go.Proofs.Tryd.f87 1048589 (by kernel_rfl) (by kernel_rfl) fun kk hkk => containsF kk b _ hi j ⟨h1 kk (by omega), by rw [← h2]⟩
theorem ev_areRoots (b : Bool) (zs : List Int) (hi : Int) (h : zs.length ≤ 1048576) : EvN 1048600 64 [.dat (.lst b (zs.map (I ·))), .dat (I hi)] [] [] ([.dat (B (decide (zs.length ≤ 60) && (List.range zs.length).all (chkR hi zs)))], [], []) := by
  have hlen : (zs.map (I ·)).length = zs.length := by simp
  refine ev_fn Go.Proofs.Tryd.f64 1048599 (by kernel_rfl) (by kernel_rfl) fun kk hkk => areRoots kk b _ hi _ (fun d => ⟨ev_outOf b zs hi h kk (by omega), ?_⟩) (fun d => ?_)
  · rw [hlen] at d
    have : zs.length ≤ 60 := by have := of_decide_eq_true d; omega
    simp [this]
  · rw [hlen] at d
    have : ¬ zs.length ≤ 60 := by have := of_decide_eq_false d; omega
    simp [this]
theorem ev_isCell (c : Cl) (hi : Int) : EvN 2 65 [.dat c.d, .dat (I hi)] [] [] ([.dat (B (cellOK hi c))], [], []) := by
  refine ev_fn Go.Proofs.Tryd.f65 1 (by kernel_rfl) (by kernel_rfl) fun kk hkk => ?_
  have h1 := ev_isBelow c.a hi kk (by omega)
  have h2 := ev_isBelow c.b hi kk (by omega)
  refine isCellR kk c hi (belowB c.a hi) (belowB c.b hi) (fun d1 d2 => ?_) (fun d1 d2 => ?_) (fun d1 d2 d3 => ⟨h1, h2, ?_⟩) (fun d1 d2 d3 => ⟨h1, ?_⟩) (fun d1 d2 => ?_) <;> (clear h1 h2; unfold cellOK; rw [d1]; simp_all)
theorem ev_names (b : Bool) (o : Int) (cs rs ns : List Dat) (c : Cl) : EvN 1 66 [.dat (Yd b o cs rs ns), .dat c.d] [] [] ([.dat (B (namesB o c))], [], []) := by
  refine ev_fn Go.Proofs.Tryd.f66 0 (by kernel_rfl) (by kernel_rfl) fun kk hkk => names kk b o cs rs ns c (fun d1 d2 => ?_) (fun d1 d2 => ?_) (fun d1 => ?_) <;> simp_all [namesB] <;> omega
/-- The numbers of a heap that both sides look at are small. -/
theorem ev_iGood (b : Bool) (o : Int) (cs : List Cl) (rs ns : List Int) (h : cs.length + rs.length + ns.length ≤ 1048576) : EvN 1048610 33 [.dat (YD b o cs rs ns)] [] [] ([.dat (B (goodY o cs rs ns))], [], []) := by
  refine ev_fn Go.Proofs.Tryd.f33 1048609 (by kernel_rfl) (by kernel_rfl) fun kk hkk => ?_
  have hlc : (cs.map Cl.d).length = cs.length := by simp
  have hln : (ns.map (I ·)).length = ns.length := by simp
  have hlr : (rs.map (I ·)).length = rs.length := by simp
  have hroots := ev_areRoots b rs cs.length (by omega) kk (by omega)
  rw [← hlc] at hroots
  have la := loopAt_all (kk := kk) (f := 33) (fn := Go.Proofs.Tryd.f33) (r := 5) (x1 := .exit 0) (x2 := .ret) (s1 := Nm [1, 2, 3] [.ptr (.loc 1) 0, .junk, .dat (I (cs.map Cl.d).length)] [Yb b o (cs.map Cl.d) (rs.map (I ·)) (ns.map (I ·)), none, none] [] []) (s2 := Nm [1, 2, 3] [.ptr (.loc 1) 0, .dat (B false), .dat (I (cs.map Cl.d).length)] [Yb b o (cs.map Cl.d) (rs.map (I ·)) (ns.map (I ·)), none, none] [] []) (s0 := hd33a b o (cs.map Cl.d) (rs.map (I ·)) (ns.map (I ·)) 0) (fun i => hd33a b o (cs.map Cl.d) (rs.map (I ·)) (ns.map (I ·)) i) (chkN o ns) ns.length (by omega) (fun i hi _ m s K hs hgo hbad => by
    obtain ⟨z, hz⟩ := get_lt hi
    have hzd := ih (gm (f := (I ·)) hz)
    have hb := ev_isBelow z o kk (by omega)
    have hc : chkN o ns i = (belowB z o && !(decide (0 < i) && decide (z ≤ ns.getD (i - 1) 0))) := by unfold chkN; rw [gd hz]
    have hp : 0 < i → (0 ≤ w64 ((i : Int) - 1) ∧ w64 ((i : Int) - 1) < ((ns.map (I ·)).length : Int)) ∧ (ns.map (I ·))[(w64 ((i : Int) - 1)).toNat]? = some (I (ns.getD (i - 1) 0)) := fun h0 => by
      have e : w64 ((i : Int) - 1) = ((i - 1 : Nat) : Int) := by rw [w64_eq (by omega)]; omega
      rw [e]
      obtain ⟨y, hy⟩ := get_lt (L := ns) (i := i - 1) (by omega)
      rw [gd hy]
      exact ih (gm (f := (I ·)) hy)
    refine iGood_a kk m b o _ _ _ i z (belowB z o) (ns.getD (i - 1) 0) hs (fun _ d => ⟨hzd, hb, hbad ?_⟩) (fun _ d d2 d3 => ⟨hzd, hb, hp ?_, hbad ?_⟩) (fun _ d d2 d3 => ⟨hzd, hb, hp ?_, fun s' hs' => hgo ?_ s' ?_⟩) (fun _ d d2 => ⟨hzd, hb, fun s' hs' => hgo ?_ s' ?_⟩) (fun d => absurd (of_decide_eq_false d) (by omega)) <;> first | (rw [hs', wi i (by omega)]; rfl) | (have := of_decide_eq_true d2; omega) | skip
    · rw [hc]; simp only [Bool.not_eq_true'] at d; rw [d]; rfl
    · have : 0 < i := by have := of_decide_eq_true d2; omega
      rw [hc, d3]; simp [this]
    · simp only [Bool.not_eq_false'] at d
      rw [hc, d, d3]; simp
    · have : ¬ 0 < i := by have := of_decide_eq_false d2; omega
      simp only [Bool.not_eq_false'] at d
      rw [hc, d]; simp [this]) (fun _ m s K hs hK => iGood_a kk m b o _ _ _ _ 0 true 0 hs (fun d => absurd (of_decide_eq_true d) (by omega)) (fun d => absurd (of_decide_eq_true d) (by omega)) (fun d => absurd (of_decide_eq_true d) (by omega)) (fun d => absurd (of_decide_eq_true d) (by omega)) (fun _ => hK)) rfl
  have lb := loopAt_all (kk := kk) (f := 33) (fn := Go.Proofs.Tryd.f33) (r := 11) (x1 := .exit 2) (x2 := .ret) (s1 := Nm [2] [.junk] [none] [] []) (s2 := Nm [2] [.dat (B false)] [none] [] []) (s0 := hd33b b o (cs.map Cl.d) (rs.map (I ·)) (ns.map (I ·)) 0) (fun i => hd33b b o (cs.map Cl.d) (rs.map (I ·)) (ns.map (I ·)) i) (chkC cs o ns) cs.length (by omega) (fun i hi _ m s K hs hgo hbad => by
    obtain ⟨c, hz⟩ := get_lt hi
    have hzd := ih (gm (f := Cl.d) hz)
    have h1 := ev_isCell c ((cs.map Cl.d).length : Int) kk (by omega)
    have h2 := ev_names b o (cs.map Cl.d) (rs.map (I ·)) (ns.map (I ·)) c kk (by omega)
    have h3 := ev_contains b ns i (by omega) kk (by omega)
    have hc : chkC cs o ns i = (cellOK (cs.map Cl.d).length c && !(decide ((i : Int) < o) && namesB o c && !hasB ns i)) := by unfold chkC; rw [gd hz, hlc]
    refine iGood_b kk m b o _ _ _ i c (cellOK (cs.map Cl.d).length c) (namesB o c) (hasB ns i) hs (fun _ d => ⟨hzd, h1, hbad ?_⟩) (fun _ d d2 d3 d4 => ⟨hzd, h1, h2, h3, hbad ?_⟩) (fun _ d d2 d3 d4 => ⟨hzd, h1, h2, h3, fun s' hs' => hgo ?_ s' ?_⟩) (fun _ d d2 d3 => ⟨hzd, h1, h2, fun s' hs' => hgo ?_ s' ?_⟩) (fun _ d d2 => ⟨hzd, h1, fun s' hs' => hgo ?_ s' ?_⟩) (fun d => absurd (of_decide_eq_false d) (by omega)) <;> first | (rw [hs', wi i (by omega)]; rfl) | skip
    · rw [hc]; clear h1 h2 h3 hs hgo hbad; simp_all
    · rw [hc]; clear h1 h2 h3 hs hgo hbad; simp_all
    · rw [hc]; clear h1 h2 h3 hs hgo hbad hs'; simp_all
    · rw [hc]; clear h1 h2 h3 hs hgo hbad hs'; simp_all
    · rw [hc]; clear h1 h2 h3 hs hgo hbad hs'; simp_all) (fun _ m s K hs hK => iGood_b kk m b o _ _ _ _ ⟨false, 0, 0, 0⟩ true true true hs (fun d => absurd (of_decide_eq_true d) (by omega)) (fun d => absurd (of_decide_eq_true d) (by omega)) (fun d => absurd (of_decide_eq_true d) (by omega)) (fun d => absurd (of_decide_eq_true d) (by omega)) (fun d => absurd (of_decide_eq_true d) (by omega)) (fun _ => hK)) rfl
  have hres : goodY o cs rs ns = (!decide (200 < ((cs.map Cl.d).length : Int)) && !decide (o < 0) && !decide (((cs.map Cl.d).length : Int) < o) && (decide (rs.length ≤ 60) && (List.range rs.length).all (chkR ((cs.map Cl.d).length : Int) rs)) && (List.range ns.length).all (chkN o ns) && (List.range cs.length).all (chkC cs o ns)) := by
    unfold goodY inB
    rw [hlc]
    have e1 : (!decide (200 < (cs.length : Int))) = decide (cs.length ≤ 200) := by rw [← decide_not, decide_eq_decide]; omega
    have e2 : (!decide (o < 0)) = decide (0 ≤ o) := by rw [← decide_not, decide_eq_decide]; omega
    have e3 : (!decide ((cs.length : Int) < o)) = decide (o ≤ (cs.length : Int)) := by rw [← decide_not, decide_eq_decide]; omega
    rw [e1, e2, e3]
    generalize (List.range ns.length).all (chkN o ns) = x1
    generalize (List.range cs.length).all (chkC cs o ns) = x2
    generalize (List.range rs.length).all (chkR (cs.length : Int) rs) = x3
    generalize decide (cs.length ≤ 200) = x4
    generalize decide (rs.length ≤ 60) = x5
    generalize decide (0 ≤ o) = x6
    generalize decide (o ≤ (cs.length : Int)) = x7
    revert x1 x2 x3 x4 x5 x6 x7
    decide
  rw [hres]
  clear hres
  generalize (decide (rs.length ≤ 60) && (List.range rs.length).all (chkR ((cs.map Cl.d).length : Int) rs)) = gr at *
  cases ha : (List.range ns.length).all (chkN o ns) with
  | false => exact iGood_1 kk b o _ _ _ gr (fun d => by rw [d]; rfl) (fun d1 d2 => by rw [d1, d2]; rfl) (fun d1 d2 d3 => by rw [d1, d2, d3]; rfl) (fun d1 d2 d3 d4 => ⟨hroots, by rw [d1, d2, d3]; cases gr <;> first | rfl | cases d4⟩) (fun d1 d2 d3 d4 => ⟨hroots, la.2 ha, by rw [Bool.and_false]; rfl⟩)
  | true =>
    cases hb : (List.range cs.length).all (chkC cs o ns) with
    | false => exact iGood_2 kk b o _ _ _ gr (fun d => by rw [d]; rfl) (fun d1 d2 => by rw [d1, d2]; rfl) (fun d1 d2 d3 => by rw [d1, d2, d3]; rfl) (fun d1 d2 d3 d4 => ⟨hroots, by rw [d1, d2, d3]; cases gr <;> first | rfl | cases d4⟩) (fun d1 d2 d3 d4 => ⟨hroots, la.1 ha, lb.2 hb, by rw [Bool.and_false]⟩)
    | true => exact iGood_3 kk b o _ _ _ gr (fun d => by rw [d]; rfl) (fun d1 d2 => by rw [d1, d2]; rfl) (fun d1 d2 d3 => by rw [d1, d2, d3]; rfl) (fun d1 d2 d3 d4 => ⟨hroots, by rw [d1, d2, d3]; cases gr <;> first | rfl | cases d4⟩) (fun d1 d2 d3 d4 => ⟨hroots, la.1 ha, lb.1 hb, by rw [d1, d2, d3]; cases gr <;> first | rfl | cases d4⟩)
theorem ev_sGood (b : Bool) (o : Int) (cs : List Cl) (rs ns : List Int) (h : cs.length + rs.length + ns.length ≤ 1048576) (ho : -9223372036854775808 ≤ o ∧ o ≤ 9223372036854775807) : EvN 1048610 38 [.dat (YD b o cs rs ns)] [] [] ([.dat (B (goodY o cs rs ns))], [], []) := by
  refine ev_fn Go.Proofs.Tryd.f38 1048609 (by kernel_rfl) (by kernel_rfl) fun kk hkk => ?_
  have hlc : (cs.map Cl.d).length = cs.length := by simp
  have hln : (ns.map (I ·)).length = ns.length := by simp
  have hlr : (rs.map (I ·)).length = rs.length := by simp
  have h25 := ev_l1In o 0 ((cs.map Cl.d).length : Int) kk (by omega)
  have hin : ∀ (x n : Int), -9223372036854775808 < n → n ≤ 9223372036854775807 → den cfg kk 39 [.dat (I x), .dat (I 0), .dat (I (w64 (n - 1)))] [] [] = some ([.dat (B (belowB x n))], [], []) := fun x n h1 h2 => by
    rw [w64_eq (by omega), ← below_in]
    exact ev_l1In x 0 (n - 1) kk (by omega)
  have la := fun (ho0 : 0 ≤ o) => loopAt_all (kk := kk) (f := 38) (fn := Go.Proofs.Tryd.f38) (r := 4) (x1 := .exit 0) (x2 := .ret) (s1 := Nm [1, 2] [.ptr (.loc 1) 0, .junk] [Yb b o (cs.map Cl.d) (rs.map (I ·)) (ns.map (I ·)), none] [] []) (s2 := Nm [1, 2] [.ptr (.loc 1) 0, .dat (B false)] [Yb b o (cs.map Cl.d) (rs.map (I ·)) (ns.map (I ·)), none] [] []) (s0 := hd38a b o (cs.map Cl.d) (rs.map (I ·)) (ns.map (I ·)) 0) (fun i => hd38a b o (cs.map Cl.d) (rs.map (I ·)) (ns.map (I ·)) i) (chkN o ns) ns.length (by omega) (fun i hi _ m s K hs hgo hbad => by
    obtain ⟨z, hz⟩ := get_lt hi
    have hzd := ih (gm (f := (I ·)) hz)
    have hb := hin z o (by omega) (by omega)
    have hc : chkN o ns i = (belowB z o && !(decide (0 < i) && decide (z ≤ ns.getD (i - 1) 0))) := by unfold chkN; rw [gd hz]
    have hp : 0 < i → (0 ≤ w64 ((i : Int) - 1) ∧ w64 ((i : Int) - 1) < ((ns.map (I ·)).length : Int)) ∧ (ns.map (I ·))[(w64 ((i : Int) - 1)).toNat]? = some (I (ns.getD (i - 1) 0)) := fun h0 => by
      have e : w64 ((i : Int) - 1) = ((i - 1 : Nat) : Int) := by rw [w64_eq (by omega)]; omega
      rw [e]
      obtain ⟨y, hy⟩ := get_lt (L := ns) (i := i - 1) (by omega)
      rw [gd hy]
      exact ih (gm (f := (I ·)) hy)
    refine sGood_a kk m b o _ _ _ i z (belowB z o) (ns.getD (i - 1) 0) hs (fun _ d => ⟨hzd, hb, hbad ?_⟩) (fun _ d d2 d3 => ⟨hzd, hb, hp ?_, hbad ?_⟩) (fun _ d d2 d3 => ⟨hzd, hb, hp ?_, fun s' hs' => hgo ?_ s' ?_⟩) (fun _ d d2 => ⟨hzd, hb, fun s' hs' => hgo ?_ s' ?_⟩) (fun d => absurd (of_decide_eq_false d) (by omega)) <;> first | (rw [hs', wi i (by omega)]; rfl) | (have := of_decide_eq_true d2; omega) | skip
    · rw [hc]; simp only [Bool.not_eq_true'] at d; rw [d]; rfl
    · have : 0 < i := by have := of_decide_eq_true d2; omega
      rw [hc, d3]; simp [this]
    · simp only [Bool.not_eq_false'] at d
      rw [hc, d, d3]; simp
    · have : ¬ 0 < i := by have := of_decide_eq_false d2; omega
      simp only [Bool.not_eq_false'] at d
      rw [hc, d]; simp [this]) (fun _ m s K hs hK => sGood_a kk m b o _ _ _ _ 0 true 0 hs (fun d => absurd (of_decide_eq_true d) (by omega)) (fun d => absurd (of_decide_eq_true d) (by omega)) (fun d => absurd (of_decide_eq_true d) (by omega)) (fun d => absurd (of_decide_eq_true d) (by omega)) (fun _ => hK)) rfl
  have lb := loopAt_all (kk := kk) (f := 38) (fn := Go.Proofs.Tryd.f38) (r := 10) (x1 := .exit 2) (x2 := .ret) (s1 := Nm [1, 2] [.ptr (.loc 1) 0, .junk] [Yb b o (cs.map Cl.d) (rs.map (I ·)) (ns.map (I ·)), none] [] []) (s2 := Nm [1, 2] [.ptr (.loc 1) 0, .dat (B false)] [Yb b o (cs.map Cl.d) (rs.map (I ·)) (ns.map (I ·)), none] [] []) (s0 := hd38b b o (cs.map Cl.d) (rs.map (I ·)) (ns.map (I ·)) 0) (fun i => hd38b b o (cs.map Cl.d) (rs.map (I ·)) (ns.map (I ·)) i) (chkC cs o ns) cs.length (by omega) (fun i hi _ m s K hs hgo hbad => by
    obtain ⟨c, hz⟩ := get_lt hi
    have hzd := ih (gm (f := Cl.d) hz)
    have h1 := hin c.a ((cs.map Cl.d).length : Int) (by omega) (by omega)
    have h2 := hin c.b ((cs.map Cl.d).length : Int) (by omega) (by omega)
    have h3 := ev_lcHas b ns i (by omega) kk (by omega)
    have hc : chkC cs o ns i = (cellOK (cs.map Cl.d).length c && !(decide ((i : Int) < o) && namesB o c && !hasB ns i)) := by unfold chkC; rw [gd hz, hlc]
    have hg : ∀ s' : St, s'.norm ((envOf cfg kk 38 Go.Proofs.Tryd.f38).live (firstRegion (lp Go.Proofs.Tryd.f38 10))) = hd38b b o (cs.map Cl.d) (rs.map (I ·)) (ns.map (I ·)) (w64 ((i : Int) + 1)) → chkC cs o ns i = true → Rounds (envOf cfg kk 38 Go.Proofs.Tryd.f38) kk (lp Go.Proofs.Tryd.f38 10) m s' K := fun s' hs' hcc => hgo hcc s' (by rw [hs', wi i (by omega)])
    rw [hc] at hg hbad
    clear hgo hc
    refine sGood_b kk m b o _ _ _ i c (belowB c.a (cs.map Cl.d).length) (belowB c.b (cs.map Cl.d).length) (hasB ns i) hs (fun _ d d2 => ⟨hzd, hbad ?_⟩) (fun _ d d2 d3 => ⟨hzd, hbad ?_⟩) (fun _ d d2 d3 => ⟨hzd, fun s' hs' => hg s' hs' ?_⟩) (fun _ d d2 => ⟨hzd, hbad ?_⟩) (fun _ d d2 d3 => ⟨hzd, h1, hbad ?_⟩) (fun _ d d2 d3 d4 => ⟨hzd, h1, h2, hbad ?_⟩)
      (fun _ d d2 d3 d4 d5 d6 d7 => ⟨hzd, h1, h2, h3, hbad ?_⟩) (fun _ d d2 d3 d4 d5 d6 d7 => ⟨hzd, h1, h2, h3, fun s' hs' => hg s' hs' ?_⟩) (fun _ d d2 d3 d4 d5 d6 d7 d8 => ⟨hzd, h1, h2, h3, hbad ?_⟩) (fun _ d d2 d3 d4 d5 d6 d7 d8 => ⟨hzd, h1, h2, h3, fun s' hs' => hg s' hs' ?_⟩) (fun _ d d2 d3 d4 d5 d6 d7 => ⟨hzd, h1, h2, fun s' hs' => hg s' hs' ?_⟩) (fun _ d d2 d3 d4 d5 => ⟨hzd, h1, h2, fun s' hs' => hg s' hs' ?_⟩) (fun d => absurd (of_decide_eq_false d) (by omega)) <;>
    (clear hs h1 h2 h3 hg hbad hzd hz; unfold cellOK namesB; rw [d]; simp_all) <;> omega) (fun _ m s K hs hK => sGood_b kk m b o _ _ _ _ ⟨false, 0, 0, 0⟩ true true true hs (fun d => absurd (of_decide_eq_true d) (by omega)) (fun d => absurd (of_decide_eq_true d) (by omega)) (fun d => absurd (of_decide_eq_true d) (by omega)) (fun d => absurd (of_decide_eq_true d) (by omega)) (fun d => absurd (of_decide_eq_true d) (by omega)) (fun d => absurd (of_decide_eq_true d) (by omega)) (fun d => absurd (of_decide_eq_true d) (by omega)) (fun d => absurd (of_decide_eq_true d) (by omega)) (fun d => absurd (of_decide_eq_true d) (by omega)) (fun d => absurd (of_decide_eq_true d) (by omega)) (fun d => absurd (of_decide_eq_true d) (by omega)) (fun d => absurd (of_decide_eq_true d) (by omega)) (fun _ => hK)) rfl
  have lc := loopAt_all (kk := kk) (f := 38) (fn := Go.Proofs.Tryd.f38) (r := 18) (x1 := .exit 4) (x2 := .ret) (s1 := Nm [2] [.junk] [none] [] []) (s2 := Nm [2] [.dat (B false)] [none] [] []) (s0 := hd38c b o (cs.map Cl.d) (rs.map (I ·)) (ns.map (I ·)) 0) (fun i => hd38c b o (cs.map Cl.d) (rs.map (I ·)) (ns.map (I ·)) i) (chkR cs.length rs) rs.length (by omega) (fun i hi _ m s K hs hgo hbad => by
    obtain ⟨z, hz⟩ := get_lt hi
    have hzd := ih (gm (f := (I ·)) hz)
    have hb := hin z ((cs.map Cl.d).length : Int) (by omega) (by omega)
    have hc : chkR cs.length rs i = belowB z (cs.map Cl.d).length := by unfold chkR; rw [gd hz, hlc]
    refine sGood_c kk m b o _ _ _ i z (belowB z (cs.map Cl.d).length) hs (fun _ d => ⟨hzd, hb, hbad ?_⟩) (fun _ d => ⟨hzd, hb, fun s' hs' => hgo ?_ s' ?_⟩) (fun d => absurd (of_decide_eq_false d) (by omega))
    · rw [hc]; simpa using d
    · rw [hc]; simpa using d
    · rw [hs', wi i (by omega)]; rfl) (fun _ m s K hs hK => sGood_c kk m b o _ _ _ _ 0 true hs (fun d => absurd (of_decide_eq_true d) (by omega)) (fun d => absurd (of_decide_eq_true d) (by omega)) (fun _ => hK)) rfl
  have hres : goodY o cs rs ns = (!decide (200 < ((cs.map Cl.d).length : Int)) && !decide (60 < ((rs.map (I ·)).length : Int)) && inB o 0 ((cs.map Cl.d).length : Int) && (List.range ns.length).all (chkN o ns) && (List.range cs.length).all (chkC cs o ns) && (List.range rs.length).all (chkR cs.length rs)) := by
    unfold goodY
    rw [hlc, hlr]
    have e1 : (!decide (200 < (cs.length : Int))) = decide (cs.length ≤ 200) := by rw [← decide_not, decide_eq_decide]; omega
    have e2 : (!decide (60 < (rs.length : Int))) = decide (rs.length ≤ 60) := by rw [← decide_not, decide_eq_decide]; omega
    rw [e1, e2]
  have ho0 : (!inB o 0 ((cs.map Cl.d).length : Int)) = false → 0 ≤ o := fun h => by
    simp [inB] at h
    omega
  rw [hres]
  clear hres
  generalize inB o 0 ((cs.map Cl.d).length : Int) = g at *
  cases ha : (List.range ns.length).all (chkN o ns) with
  | false => exact sGood_1 kk b o _ _ _ g (fun d => by rw [d]; rfl) (fun d1 d2 => by rw [d1, d2]; rfl) (fun d1 d2 d3 => ⟨h25, by rw [d1, d2]; cases g <;> first | rfl | cases d3⟩) (fun d1 d2 d3 => ⟨h25, (la (ho0 d3)).2 ha, by rw [Bool.and_false]; rfl⟩)
  | true =>
    cases hb : (List.range cs.length).all (chkC cs o ns) with
    | false => exact sGood_2 kk b o _ _ _ g (fun d => by rw [d]; rfl) (fun d1 d2 => by rw [d1, d2]; rfl) (fun d1 d2 d3 => ⟨h25, by rw [d1, d2]; cases g <;> first | rfl | cases d3⟩) (fun d1 d2 d3 => ⟨h25, (la (ho0 d3)).1 ha, lb.2 hb, by rw [Bool.and_false]; rfl⟩)
    | true =>
      cases hc : (List.range rs.length).all (chkR cs.length rs) with
      | false => exact sGood_3 kk b o _ _ _ g (fun d => by rw [d]; rfl) (fun d1 d2 => by rw [d1, d2]; rfl) (fun d1 d2 d3 => ⟨h25, by rw [d1, d2]; cases g <;> first | rfl | cases d3⟩) (fun d1 d2 d3 => ⟨h25, (la (ho0 d3)).1 ha, lb.1 hb, lc.2 hc, by rw [Bool.and_false]⟩)
      | true => exact sGood_4 kk b o _ _ _ g (fun d => by rw [d]; rfl) (fun d1 d2 => by rw [d1, d2]; rfl) (fun d1 d2 d3 => ⟨h25, by rw [d1, d2]; cases g <;> first | rfl | cases d3⟩) (fun d1 d2 d3 => ⟨h25, (la (ho0 d3)).1 ha, lb.1 hb, lc.1 hc, by rw [d1, d2]; cases g <;> first | rfl | cases d3⟩)
end Go.Den
namespace Go.Den
open Go
set_option linter.unusedVariables false
set_option maxRecDepth 100000
open Go.Proofs.YtcmcfebihbmmeaaDoor (num numV)
theorem ev_ext {f : Nat} {g : List D → List (List D) → List (Option Row) → Option Res} {args : List D} {u : List (List D)} {l : List (Option Row)} {r : Res} (hx : cfg.ext f = some g) (h : g args u l = some r) : EvN 1 f args u l r := fun k hk => by
  obtain ⟨m, rfl⟩ : ∃ m, k = m + 1 := ⟨k - 1, by omega⟩
  simp only [den, hx]
  exact h
/-- A number of 64 bits. -/
def In64 (n : Int) : Prop := -9223372036854775808 ≤ n ∧ n ≤ 9223372036854775807
theorem numV_of {n : Int} (h : In64 n) : extVal numV [.dat (I n)] [] [] = some ([.dat (S (num n))], [], []) := by
  have : numV [.int .i64 n] = some [.string (num n)] := by show (if -9223372036854775808 ≤ n ∧ n ≤ 9223372036854775807 then some [Value.string (num n)] else none) = _; exact if_pos h
  show (valsOf [.dat (I n)]).bind (fun vs => (numV vs).map fun rs => (rs.map DV, [], [])) = _
  show (numV [.int .i64 n]).map (fun rs => (rs.map DV, ([] : List (List D)), ([] : List (Option Row)))) = _
  rw [this]
  rfl
theorem ev_l1Num {n : Int} (h : In64 n) : EvN 1 72 [.dat (I n)] [] [] ([.dat (S (num n))], [], []) := ev_ext (by kernel_rfl) (numV_of h)
theorem ev_Itoa {n : Int} (h : In64 n) : EvN 1 74 [.dat (I n)] [] [] ([.dat (S (num n))], [], []) := ev_ext (by kernel_rfl) (numV_of h)
theorem num_size {n : Int} (h : In64 n) : (num n).size ≤ 40 := by
  have h0 := h.1
  have h2 := h.2
  have h30 : (10 : Nat) ^ (29 + 1) = 1000000000000000000000000000000 := by decide
  have h1 := Go.Proofs.YtcmcfebihbmmeaaDoor.dec_len 29 n.natAbs (by rw [h30]; omega)
  show (Lib.itoa n).toArray.size ≤ 40
  unfold Lib.itoa
  split
  · simp; omega
  · have : n.toNat = n.natAbs := by omega
    simp
    rw [this]
    omega
def Cl.fine (c : Cl) : Prop := In64 c.n ∧ In64 c.a ∧ In64 c.b
abbrev c0 : Cl := ⟨false, 0, 0, 0⟩
def star : ByteArray := ByteArray.mk #[42]
def pairB (x y : ByteArray) : ByteArray := ByteArray.mk #[40] ++ x ++ ByteArray.mk #[32] ++ y ++ ByteArray.mk #[41]
/-- A cell's text, so deep. -/
def showB (cs : List Cl) : Nat → Int → ByteArray
  | d, at_ => match (cs.getD at_.toNat c0).l with
    | true => num (cs.getD at_.toNat c0).n
    | false => match d with
      | 0 => star
      | d + 1 => pairB (showB cs d (cs.getD at_.toNat c0).a) (showB cs d (cs.getD at_.toNat c0).b)
def CellsOK (cs : List Cl) : Prop := ∀ (i : Nat) (c : Cl), cs[i]? = some c → c.fine ∧ cellOK cs.length c = true
theorem pair_size (x y : ByteArray) : (pairB x y).size = x.size + y.size + 3 := by
  unfold pairB
  simp only [ByteArray.size_append]
  show 1 + x.size + 1 + y.size + 1 = _
  omega
theorem show_size (cs : List Cl) (hc : CellsOK cs) : ∀ (d : Nat) (at_ : Int), (showB cs d at_).size + 3 ≤ 43 * 2 ^ d := fun d => by
  induction d with
  | zero =>
    intro at_
    unfold showB
    split
    · have : (num (cs.getD at_.toNat c0).n).size ≤ 40 := num_size (by
        by_cases h : at_.toNat < cs.length
        · obtain ⟨c, hc'⟩ := get_lt h
          rw [gd hc']
          exact (hc _ c hc').1.1
        · rw [List.getD_eq_getElem?_getD, List.getElem?_eq_none (by omega)]
          exact ⟨by decide, by decide⟩)
      omega
    · show 1 + 3 ≤ _
      decide
  | succ d ihd =>
    intro at_
    unfold showB
    split
    · have h1 : (num (cs.getD at_.toNat c0).n).size ≤ 40 := num_size (by
        by_cases h : at_.toNat < cs.length
        · obtain ⟨c, hc'⟩ := get_lt h
          rw [gd hc']
          exact (hc _ c hc').1.1
        · rw [List.getD_eq_getElem?_getD, List.getElem?_eq_none (by omega)]
          exact ⟨by decide, by decide⟩)
      have h2 : 0 < 2 ^ (d + 1) := Nat.pow_pos (by decide)
      omega
    · rw [pair_size]
      have h1 := ihd (cs.getD at_.toNat c0).a
      have h2 := ihd (cs.getD at_.toNat c0).b
      rw [Nat.pow_succ]
      omega
theorem in_of {x n : Int} (h : belowB x n = true) : 0 ≤ x ∧ x < n := by simpa [belowB] using h
theorem kids_in {cs : List Cl} (hc : CellsOK cs) {i : Nat} {c : Cl} (h : cs[i]? = some c) (hl : c.l = false) : (0 ≤ c.a ∧ c.a < cs.length) ∧ (0 ≤ c.b ∧ c.b < cs.length) := by
  have := (hc i c h).2
  unfold cellOK at this
  rw [hl] at this
  simp only [Bool.and_eq_true] at this
  exact ⟨in_of this.2.1, in_of this.2.2⟩
theorem show_eq {cs : List Cl} {d : Nat} {at_ : Int} {c : Cl} (h : cs[at_.toNat]? = some c) : showB cs d at_ = match c.l with
    | true => num c.n
    | false => match d with
      | 0 => star
      | d + 1 => pairB (showB cs d c.a) (showB cs d c.b) := by
  cases d with
  | zero =>
    have e : showB cs 0 at_ = match (cs.getD at_.toNat c0).l with | true => num (cs.getD at_.toNat c0).n | false => star := showB.eq_def cs 0 at_
    rw [gd h] at e
    exact e
  | succ d =>
    have e : showB cs (d + 1) at_ = match (cs.getD at_.toNat c0).l with | true => num (cs.getD at_.toNat c0).n | false => pairB (showB cs d (cs.getD at_.toNat c0).a) (showB cs d (cs.getD at_.toNat c0).b) := showB.eq_def cs (d + 1) at_
    rw [gd h] at e
    exact e
theorem ih2 {cs : List Cl} {at_ : Int} {c : Cl} (h0 : 0 ≤ at_) (h : cs[at_.toNat]? = some c) : (0 ≤ at_ ∧ at_ < ((cs.map Cl.d).length : Int)) ∧ (cs.map Cl.d)[at_.toNat]? = some c.d := by
  have hlt := (List.getElem?_eq_some_iff.1 h).1
  exact ⟨⟨h0, by simp; omega⟩, gm h⟩
theorem ev_sShow (b : Bool) (cs : List Cl) (hc : CellsOK cs) : ∀ (d : Nat) (at_ : Int), d ≤ 10 → 0 ≤ at_ → at_ < cs.length → EvN (d + 2) 40 [.dat (.lst b (cs.map Cl.d)), .dat (I at_), .dat (I d)] [] [] ([.dat (S (showB cs d at_))], [], []) := fun d => by
  induction d with
  | zero =>
    intro at_ hd h0 h1
    obtain ⟨c, hz⟩ := get_lt (L := cs) (i := at_.toNat) (by omega)
    rw [show_eq hz]
    refine ev_fn Go.Proofs.Tryd.f40 1 (by kernel_rfl) (by kernel_rfl) fun kk hkk => ?_
    have hzd := ih2 h0 hz
    refine sShow kk b _ at_ _ c (num c.n) star star (fun d1 => ⟨hzd, ev_l1Num (hc _ c hz).1.1 kk (by omega), by rw [d1]⟩) (fun d1 d2 => ⟨hzd, by rw [d1]; rfl⟩) (fun d1 d2 => absurd (of_decide_eq_false d2) (by simp))
  | succ d ihd =>
    intro at_ hd h0 h1
    obtain ⟨c, hz⟩ := get_lt (L := cs) (i := at_.toNat) (by omega)
    rw [show_eq hz]
    refine ev_fn Go.Proofs.Tryd.f40 (d + 2) (by kernel_rfl) (by kernel_rfl) fun kk hkk => ?_
    have hzd := ih2 h0 hz
    have hw : w64 (((d + 1 : Nat) : Int) - 1) = (d : Int) := by rw [w64_eq (by omega)]; omega
    refine sShow kk b _ at_ _ c (num c.n) (showB cs d c.a) (showB cs d c.b) (fun d1 => ⟨hzd, ev_l1Num (hc _ c hz).1.1 kk (by omega), by rw [d1]⟩) (fun d1 d2 => absurd (of_decide_eq_true d2) (by omega)) (fun d1 d2 => ?_)
    obtain ⟨k1, k2⟩ := kids_in hc hz d1
    have s1 := show_size cs hc d c.a
    have s2 := show_size cs hc d c.b
    have hp : 43 * 2 ^ d ≤ 43 * 2 ^ 10 := Nat.mul_le_mul_left _ (Nat.pow_le_pow_right (by decide) (by omega))
    have hp2 : 43 * 2 ^ 10 = 44032 := by decide
    rw [hw]
    refine ⟨hzd, ihd c.a (by omega) k1.1 k1.2 kk (by omega), by omega, ?_, ihd c.b (by omega) k2.1 k2.2 kk (by omega), ?_, ?_, by rw [d1]; rfl⟩
    · simp only [ByteArray.size_append]; show 1 + _ + 1 ≤ _; omega
    · simp only [ByteArray.size_append]; show 1 + _ + 1 + _ ≤ _; omega
    · simp only [ByteArray.size_append]; show 1 + _ + 1 + _ + 1 ≤ _; omega
theorem ev_iShow (b : Bool) (o : Int) (cs : List Cl) (rs ns : List Dat) (hc : CellsOK cs) : ∀ (d : Nat) (at_ : Int), d ≤ 10 → 0 ≤ at_ → at_ < cs.length → EvN (d + 2) 44 [.dat (Yd b o (cs.map Cl.d) rs ns), .dat (I at_), .dat (I d)] [] [] ([.dat (S (showB cs d at_))], [], []) := fun d => by
  induction d with
  | zero =>
    intro at_ hd h0 h1
    obtain ⟨c, hz⟩ := get_lt (L := cs) (i := at_.toNat) (by omega)
    rw [show_eq hz]
    refine ev_fn Go.Proofs.Tryd.f44 1 (by kernel_rfl) (by kernel_rfl) fun kk hkk => ?_
    have hzd := ih2 h0 hz
    refine iShow kk b o _ rs ns at_ _ c (num c.n) star star (fun d1 => ⟨hzd, ev_Itoa (hc _ c hz).1.1 kk (by omega), by rw [d1]⟩) (fun d1 d2 => ⟨hzd, by rw [d1]; rfl⟩) (fun d1 d2 => absurd (of_decide_eq_false d2) (by simp))
  | succ d ihd =>
    intro at_ hd h0 h1
    obtain ⟨c, hz⟩ := get_lt (L := cs) (i := at_.toNat) (by omega)
    rw [show_eq hz]
    refine ev_fn Go.Proofs.Tryd.f44 (d + 2) (by kernel_rfl) (by kernel_rfl) fun kk hkk => ?_
    have hzd := ih2 h0 hz
    have hw : w64 (((d + 1 : Nat) : Int) - 1) = (d : Int) := by rw [w64_eq (by omega)]; omega
    refine iShow kk b o _ rs ns at_ _ c (num c.n) (showB cs d c.a) (showB cs d c.b) (fun d1 => ⟨hzd, ev_Itoa (hc _ c hz).1.1 kk (by omega), by rw [d1]⟩) (fun d1 d2 => absurd (of_decide_eq_true d2) (by omega)) (fun d1 d2 => ?_)
    obtain ⟨k1, k2⟩ := kids_in hc hz d1
    have s1 := show_size cs hc d c.a
    have s2 := show_size cs hc d c.b
    have hp : 43 * 2 ^ d ≤ 43 * 2 ^ 10 := Nat.mul_le_mul_left _ (Nat.pow_le_pow_right (by decide) (by omega))
    have hp2 : 43 * 2 ^ 10 = 44032 := by decide
    rw [hw]
    refine ⟨hzd, ihd c.a (by omega) k1.1 k1.2 kk (by omega), by omega, ?_, ihd c.b (by omega) k2.1 k2.2 kk (by omega), ?_, ?_, by rw [d1]; rfl⟩
    · simp only [ByteArray.size_append]; show 1 + _ + 1 ≤ _; omega
    · simp only [ByteArray.size_append]; show 1 + _ + 1 + _ ≤ _; omega
    · simp only [ByteArray.size_append]; show 1 + _ + 1 + _ + 1 ≤ _; omega
theorem int_in {d : Dat} (h : WT cfg.ty 3 d) : ∃ n : Int, d = I n ∧ In64 n := by
  obtain ⟨n, h1, h2⟩ := wt_int h (i := ⟨.int .i64, 1, 8, [], [.dat (.val (.int .i64 0))]⟩) (by kernel_rfl) rfl
  have h3 : (decide (IntKind.i64.min ≤ n) && decide (n ≤ IntKind.i64.max)) = true := h2
  simp only [Bool.and_eq_true, decide_eq_true_eq] at h3
  exact ⟨n, h1, h3⟩
theorem ints_in {d : Dat} (h : WT cfg.ty 23 d) : ∃ zs : List Int, d = .lst false (zs.map (I ·)) ∧ zs.length ≤ 9223372036854775807 ∧ ∀ z ∈ zs, In64 z := by
  obtain ⟨es, rfl, hl, hx⟩ := wt_lst h (i := ⟨.slice 3, 1, 24, [], [.own 3 []]⟩) (by kernel_rfl) rfl
  have : ∀ es : List Dat, (∀ x ∈ es, WT cfg.ty 3 x) → ∃ zs : List Int, es = zs.map (I ·) ∧ ∀ z ∈ zs, In64 z := by
    intro es
    induction es with
    | nil => intro _; exact ⟨[], rfl, fun z hz => by cases hz⟩
    | cons d es ih =>
      intro h
      obtain ⟨n, rfl, hn⟩ := int_in (h d (by simp))
      obtain ⟨zs, rfl, hzs⟩ := ih fun y hy => h y (List.mem_cons_of_mem _ hy)
      exact ⟨n :: zs, rfl, fun z hz => by exact (List.mem_cons.1 hz).elim (fun e => e ▸ hn) (hzs z)⟩
  obtain ⟨zs, rfl, hzs⟩ := this es hx
  rw [List.length_map] at hl
  exact ⟨zs, rfl, hl, hzs⟩
theorem cell_in {d : Dat} (h : WT cfg.ty 111 d) : ∃ c : Cl, d = c.d ∧ c.fine := by
  obtain ⟨cs, rfl, hl, hx⟩ := wt_agg h (i := ⟨.struct, 4, 32, [(0, 4), (1, 3), (2, 3), (3, 3)], [.dat (.val (.bool false)), .dat (.val (.int .i64 0)), .dat (.val (.int .i64 0)), .dat (.val (.int .i64 0))]⟩) (by kernel_rfl) rfl
  match cs, hl, hx with
  | [l, n, a, b], _, hx =>
    obtain ⟨l, rfl⟩ := bool_of (hx 0 (0, 4) l rfl rfl)
    obtain ⟨n, rfl, hn⟩ := int_in (hx 1 (1, 3) n rfl rfl)
    obtain ⟨a, rfl, ha⟩ := int_in (hx 2 (2, 3) a rfl rfl)
    obtain ⟨b, rfl, hb⟩ := int_in (hx 3 (3, 3) b rfl rfl)
    exact ⟨⟨l, n, a, b⟩, rfl, hn, ha, hb⟩
theorem cells_in {d : Dat} (h : WT cfg.ty 22 d) : ∃ cs : List Cl, d = .lst false (cs.map Cl.d) ∧ cs.length ≤ 9223372036854775807 ∧ ∀ c ∈ cs, c.fine := by
  obtain ⟨es, rfl, hl, hx⟩ := wt_lst h (i := ⟨.slice 111, 1, 24, [], [.own 111 []]⟩) (by kernel_rfl) rfl
  have : ∀ es : List Dat, (∀ x ∈ es, WT cfg.ty 111 x) → ∃ zs : List Cl, es = zs.map Cl.d ∧ ∀ z ∈ zs, z.fine := by
    intro es
    induction es with
    | nil => intro _; exact ⟨[], rfl, fun z hz => by cases hz⟩
    | cons d es ih =>
      intro h
      obtain ⟨n, rfl, hn⟩ := cell_in (h d (by simp))
      obtain ⟨zs, rfl, hzs⟩ := ih fun y hy => h y (List.mem_cons_of_mem _ hy)
      exact ⟨n :: zs, rfl, fun z hz => by exact (List.mem_cons.1 hz).elim (fun e => e ▸ hn) (hzs z)⟩
  obtain ⟨zs, rfl, hzs⟩ := this es hx
  rw [List.length_map] at hl
  exact ⟨zs, rfl, hl, hzs⟩
theorem young_in {d : Dat} (h : WT cfg.ty 25 d) : ∃ (o : Int) (cs : List Cl) (rs ns : List Int), d = YD false o cs rs ns ∧ In64 o ∧ cs.length ≤ 9223372036854775807 ∧ rs.length ≤ 9223372036854775807 ∧ ns.length ≤ 9223372036854775807 ∧ ∀ c ∈ cs, c.fine := by
  obtain ⟨l, rfl, hl, hx⟩ := wt_agg h (i := ⟨.struct, 4, 80, [(0, 3), (1, 22), (2, 23), (3, 23)], [.dat (.val (.int .i64 0)), .own 111 [], .own 3 [], .own 3 []]⟩) (by kernel_rfl) rfl
  match l, hl, hx with
  | [o, c, r, n], _, hx =>
    obtain ⟨o, rfl, ho⟩ := int_in (hx 0 (0, 3) o rfl rfl)
    obtain ⟨c, rfl, hc, hcf⟩ := cells_in (hx 1 (1, 22) c rfl rfl)
    obtain ⟨r, rfl, hr, _⟩ := ints_in (hx 2 (2, 23) r rfl rfl)
    obtain ⟨n, rfl, hn, _⟩ := ints_in (hx 3 (3, 23) n rfl rfl)
    exact ⟨o, c, r, n, rfl, ho, hc, hr, hn, hcf⟩
theorem good_cells {o : Int} {cs : List Cl} {rs ns : List Int} (hf : ∀ c ∈ cs, c.fine) (h : goodY o cs rs ns = true) : CellsOK cs := fun i c hc => by
  refine ⟨hf c (List.mem_of_getElem? hc), ?_⟩
  unfold goodY at h
  simp only [Bool.and_eq_true] at h
  have h1 := (List.all_eq_true.1 h.1.2) i (List.mem_range.2 (List.getElem?_eq_some_iff.1 hc).1)
  unfold chkC at h1
  rw [gd hc] at h1
  simp only [Bool.and_eq_true] at h1
  exact h1.1
end Go.Den
namespace Go.Den
open Go
set_option linter.unusedVariables false
set_option maxRecDepth 100000
theorem lawShowDeep_w1 (kk : Nat) (o : Int) (cs rs ns : List Dat) (at_ deep : Int) (x15 : Int) (s23_0 : ByteArray) (g23_1 : Bool) (s32_0 : ByteArray) (g32_1 : Bool) (g46 : Bool) (h1 : den cfg kk 11 [D.dat (Dat.agg [I o, Dat.lst false cs, Dat.lst false rs, Dat.lst false ns]), D.dat (I 1048576)] [] [] = some ([D.dat (I x15)], [], [])) (h2 : decide (x15 < 0) = true) : runFn cfg kk (den cfg kk) 3 Go.Proofs.Tryd.f3 [.dat (Yd false o cs rs ns), .dat (I at_), .dat (I deep)] [] [] = some ([D.dat (B true)], [], []) :=
  hrun_ok [(20, .ret [.dat (Yd false o cs rs ns)]), (27, .ret [.dat (Yd false o cs rs ns)]), (45, .ret [.dat (Yd false o cs rs ns)]), (15, .ret [.dat (I x15)]), (23, .ret [.dat (S s23_0), .dat (B g23_1)]), (32, .ret [.dat (S s32_0), .dat (B g32_1)]), (46, .ret [.dat (B g46)]), (200017, .yes)] (ob h1 (ob h2 ob0)) (by kernel_rfl)
theorem lawShowDeep_w2 (kk : Nat) (o : Int) (cs rs ns : List Dat) (at_ deep : Int) (x15 : Int) (s23_0 : ByteArray) (g23_1 : Bool) (s32_0 : ByteArray) (g32_1 : Bool) (g46 : Bool) (h1 : den cfg kk 11 [D.dat (Dat.agg [I o, Dat.lst false cs, Dat.lst false rs, Dat.lst false ns]), D.dat (I 1048576)] [] [] = some ([D.dat (I x15)], [], [])) (h2 : decide (x15 < 0) = false) (h3 : den cfg kk 13 [D.dat (Dat.agg [I o, Dat.lst false cs, Dat.lst false rs, Dat.lst false ns])] [] [] = some ([D.dat (Dat.agg [I o, Dat.lst false cs, Dat.lst false rs, Dat.lst false ns])], [], [])) (h4 : den cfg kk 12 [D.dat (Dat.agg [I o, Dat.lst false cs, Dat.lst false rs, Dat.lst false ns]), D.dat (I at_), D.dat (I deep)] [] [] = some ([D.dat (Dat.val (Value.string s23_0)), D.dat (B g23_1)], [], [])) (h5 : den cfg kk 13 [D.dat (Dat.agg [I o, Dat.lst false cs, Dat.lst false rs, Dat.lst false ns])] [] [] = some ([D.dat (Dat.agg [I o, Dat.lst false cs, Dat.lst false rs, Dat.lst false ns])], [], [])) (h6 : den cfg kk 14 [D.dat (Dat.agg [I o, Dat.lst false cs, Dat.lst false rs, Dat.lst false ns]), D.dat (I at_), D.dat (I deep)] [] [] = some ([D.dat (Dat.val (Value.string s32_0)), D.dat (B g32_1)], [], [])) (h7 : (!decide (s32_0 = s23_0)) = true) : runFn cfg kk (den cfg kk) 3 Go.Proofs.Tryd.f3 [.dat (Yd false o cs rs ns), .dat (I at_), .dat (I deep)] [] [] = some ([D.dat (B false)], [], []) :=
  hrun_ok [(20, .ret [.dat (Yd false o cs rs ns)]), (27, .ret [.dat (Yd false o cs rs ns)]), (45, .ret [.dat (Yd false o cs rs ns)]), (15, .ret [.dat (I x15)]), (23, .ret [.dat (S s23_0), .dat (B g23_1)]), (32, .ret [.dat (S s32_0), .dat (B g32_1)]), (46, .ret [.dat (B g46)]), (200017, .no), (200038, .yes)] (ob h1 (ob h2 (ob h3 (ob h4 (ob h5 (ob h6 (ob h7 (ob (rfl : true = true) (ob (rfl : true = true) ob0))))))))) (by kernel_rfl)
theorem lawShowDeep_w3 (kk : Nat) (o : Int) (cs rs ns : List Dat) (at_ deep : Int) (x15 : Int) (s23_0 : ByteArray) (g23_1 : Bool) (s32_0 : ByteArray) (g32_1 : Bool) (g46 : Bool) (h1 : den cfg kk 11 [D.dat (Dat.agg [I o, Dat.lst false cs, Dat.lst false rs, Dat.lst false ns]), D.dat (I 1048576)] [] [] = some ([D.dat (I x15)], [], [])) (h2 : decide (x15 < 0) = false) (h3 : den cfg kk 13 [D.dat (Dat.agg [I o, Dat.lst false cs, Dat.lst false rs, Dat.lst false ns])] [] [] = some ([D.dat (Dat.agg [I o, Dat.lst false cs, Dat.lst false rs, Dat.lst false ns])], [], [])) (h4 : den cfg kk 12 [D.dat (Dat.agg [I o, Dat.lst false cs, Dat.lst false rs, Dat.lst false ns]), D.dat (I at_), D.dat (I deep)] [] [] = some ([D.dat (Dat.val (Value.string s23_0)), D.dat (B g23_1)], [], [])) (h5 : den cfg kk 13 [D.dat (Dat.agg [I o, Dat.lst false cs, Dat.lst false rs, Dat.lst false ns])] [] [] = some ([D.dat (Dat.agg [I o, Dat.lst false cs, Dat.lst false rs, Dat.lst false ns])], [], [])) (h6 : den cfg kk 14 [D.dat (Dat.agg [I o, Dat.lst false cs, Dat.lst false rs, Dat.lst false ns]), D.dat (I at_), D.dat (I deep)] [] [] = some ([D.dat (Dat.val (Value.string s32_0)), D.dat (B g32_1)], [], [])) (h7 : (!decide (s32_0 = s23_0)) = false) (h10 : (!g32_1 == g23_1) = true) : runFn cfg kk (den cfg kk) 3 Go.Proofs.Tryd.f3 [.dat (Yd false o cs rs ns), .dat (I at_), .dat (I deep)] [] [] = some ([D.dat (B false)], [], []) :=
  hrun_ok [(20, .ret [.dat (Yd false o cs rs ns)]), (27, .ret [.dat (Yd false o cs rs ns)]), (45, .ret [.dat (Yd false o cs rs ns)]), (15, .ret [.dat (I x15)]), (23, .ret [.dat (S s23_0), .dat (B g23_1)]), (32, .ret [.dat (S s32_0), .dat (B g32_1)]), (46, .ret [.dat (B g46)]), (200017, .no), (200038, .no), (200042, .yes)] (ob h1 (ob h2 (ob h3 (ob h4 (ob h5 (ob h6 (ob h7 (ob (rfl : false = false) (ob (rfl : false = false) (ob h10 ob0)))))))))) (by kernel_rfl)
theorem lawShowDeep_w4 (kk : Nat) (o : Int) (cs rs ns : List Dat) (at_ deep : Int) (x15 : Int) (s23_0 : ByteArray) (g23_1 : Bool) (s32_0 : ByteArray) (g32_1 : Bool) (g46 : Bool) (h1 : den cfg kk 11 [D.dat (Dat.agg [I o, Dat.lst false cs, Dat.lst false rs, Dat.lst false ns]), D.dat (I 1048576)] [] [] = some ([D.dat (I x15)], [], [])) (h2 : decide (x15 < 0) = false) (h3 : den cfg kk 13 [D.dat (Dat.agg [I o, Dat.lst false cs, Dat.lst false rs, Dat.lst false ns])] [] [] = some ([D.dat (Dat.agg [I o, Dat.lst false cs, Dat.lst false rs, Dat.lst false ns])], [], [])) (h4 : den cfg kk 12 [D.dat (Dat.agg [I o, Dat.lst false cs, Dat.lst false rs, Dat.lst false ns]), D.dat (I at_), D.dat (I deep)] [] [] = some ([D.dat (Dat.val (Value.string s23_0)), D.dat (B g23_1)], [], [])) (h5 : den cfg kk 13 [D.dat (Dat.agg [I o, Dat.lst false cs, Dat.lst false rs, Dat.lst false ns])] [] [] = some ([D.dat (Dat.agg [I o, Dat.lst false cs, Dat.lst false rs, Dat.lst false ns])], [], [])) (h6 : den cfg kk 14 [D.dat (Dat.agg [I o, Dat.lst false cs, Dat.lst false rs, Dat.lst false ns]), D.dat (I at_), D.dat (I deep)] [] [] = some ([D.dat (Dat.val (Value.string s32_0)), D.dat (B g32_1)], [], [])) (h7 : (!decide (s32_0 = s23_0)) = false) (h10 : (!g32_1 == g23_1) = false) (h11 : den cfg kk 13 [D.dat (Dat.agg [I o, Dat.lst false cs, Dat.lst false rs, Dat.lst false ns])] [] [] = some ([D.dat (Dat.agg [I o, Dat.lst false cs, Dat.lst false rs, Dat.lst false ns])], [], [])) (h12 : den cfg kk 15 [D.dat (Dat.agg [I o, Dat.lst false cs, Dat.lst false rs, Dat.lst false ns]), D.dat (Dat.agg [I o, Dat.lst false cs, Dat.lst false rs, Dat.lst false ns])] [] [] = some ([D.dat (B g46)], [], [])) (h13 : (!g46) = true) : runFn cfg kk (den cfg kk) 3 Go.Proofs.Tryd.f3 [.dat (Yd false o cs rs ns), .dat (I at_), .dat (I deep)] [] [] = some ([D.dat (B false)], [], []) :=
  hrun_ok [(20, .ret [.dat (Yd false o cs rs ns)]), (27, .ret [.dat (Yd false o cs rs ns)]), (45, .ret [.dat (Yd false o cs rs ns)]), (15, .ret [.dat (I x15)]), (23, .ret [.dat (S s23_0), .dat (B g23_1)]), (32, .ret [.dat (S s32_0), .dat (B g32_1)]), (46, .ret [.dat (B g46)]), (200017, .no), (200038, .no), (200042, .no), (200047, .yes)] (ob h1 (ob h2 (ob h3 (ob h4 (ob h5 (ob h6 (ob h7 (ob (rfl : false = false) (ob (rfl : false = false) (ob h10 (ob h11 (ob h12 (ob h13 ob0))))))))))))) (by kernel_rfl)
theorem lawShowDeep_w5 (kk : Nat) (o : Int) (cs rs ns : List Dat) (at_ deep : Int) (x15 : Int) (s23_0 : ByteArray) (g23_1 : Bool) (s32_0 : ByteArray) (g32_1 : Bool) (g46 : Bool) (h1 : den cfg kk 11 [D.dat (Dat.agg [I o, Dat.lst false cs, Dat.lst false rs, Dat.lst false ns]), D.dat (I 1048576)] [] [] = some ([D.dat (I x15)], [], [])) (h2 : decide (x15 < 0) = false) (h3 : den cfg kk 13 [D.dat (Dat.agg [I o, Dat.lst false cs, Dat.lst false rs, Dat.lst false ns])] [] [] = some ([D.dat (Dat.agg [I o, Dat.lst false cs, Dat.lst false rs, Dat.lst false ns])], [], [])) (h4 : den cfg kk 12 [D.dat (Dat.agg [I o, Dat.lst false cs, Dat.lst false rs, Dat.lst false ns]), D.dat (I at_), D.dat (I deep)] [] [] = some ([D.dat (Dat.val (Value.string s23_0)), D.dat (B g23_1)], [], [])) (h5 : den cfg kk 13 [D.dat (Dat.agg [I o, Dat.lst false cs, Dat.lst false rs, Dat.lst false ns])] [] [] = some ([D.dat (Dat.agg [I o, Dat.lst false cs, Dat.lst false rs, Dat.lst false ns])], [], [])) (h6 : den cfg kk 14 [D.dat (Dat.agg [I o, Dat.lst false cs, Dat.lst false rs, Dat.lst false ns]), D.dat (I at_), D.dat (I deep)] [] [] = some ([D.dat (Dat.val (Value.string s32_0)), D.dat (B g32_1)], [], [])) (h7 : (!decide (s32_0 = s23_0)) = false) (h10 : (!g32_1 == g23_1) = false) (h11 : den cfg kk 13 [D.dat (Dat.agg [I o, Dat.lst false cs, Dat.lst false rs, Dat.lst false ns])] [] [] = some ([D.dat (Dat.agg [I o, Dat.lst false cs, Dat.lst false rs, Dat.lst false ns])], [], [])) (h12 : den cfg kk 15 [D.dat (Dat.agg [I o, Dat.lst false cs, Dat.lst false rs, Dat.lst false ns]), D.dat (Dat.agg [I o, Dat.lst false cs, Dat.lst false rs, Dat.lst false ns])] [] [] = some ([D.dat (B g46)], [], [])) (h13 : (!g46) = false) : runFn cfg kk (den cfg kk) 3 Go.Proofs.Tryd.f3 [.dat (Yd false o cs rs ns), .dat (I at_), .dat (I deep)] [] [] = some ([D.dat (B true)], [], []) :=
  hrun_ok [(20, .ret [.dat (Yd false o cs rs ns)]), (27, .ret [.dat (Yd false o cs rs ns)]), (45, .ret [.dat (Yd false o cs rs ns)]), (15, .ret [.dat (I x15)]), (23, .ret [.dat (S s23_0), .dat (B g23_1)]), (32, .ret [.dat (S s32_0), .dat (B g32_1)]), (46, .ret [.dat (B g46)]), (200017, .no), (200038, .no), (200042, .no), (200047, .no)] (ob h1 (ob h2 (ob h3 (ob h4 (ob h5 (ob h6 (ob h7 (ob (rfl : false = false) (ob (rfl : false = false) (ob h10 (ob h11 (ob h12 (ob h13 ob0))))))))))))) (by kernel_rfl)
theorem lawShowDeep (kk : Nat) (o : Int) (cs rs ns : List Dat) (at_ deep : Int) (x15 : Int) (s23_0 : ByteArray) (g23_1 : Bool) (s32_0 : ByteArray) (g32_1 : Bool) (g46 : Bool) {r : Res} (q1 : (decide (x15 < 0) = true) → (den cfg kk 11 [D.dat (Dat.agg [I o, Dat.lst false cs, Dat.lst false rs, Dat.lst false ns]), D.dat (I 1048576)] [] [] = some ([D.dat (I x15)], [], [])) ∧ r = ([D.dat (B true)], [], [])) (q2 : (decide (x15 < 0) = false) → ((!decide (s32_0 = s23_0)) = true) → (den cfg kk 11 [D.dat (Dat.agg [I o, Dat.lst false cs, Dat.lst false rs, Dat.lst false ns]), D.dat (I 1048576)] [] [] = some ([D.dat (I x15)], [], [])) ∧ (den cfg kk 13 [D.dat (Dat.agg [I o, Dat.lst false cs, Dat.lst false rs, Dat.lst false ns])] [] [] = some ([D.dat (Dat.agg [I o, Dat.lst false cs, Dat.lst false rs, Dat.lst false ns])], [], [])) ∧ (den cfg kk 12 [D.dat (Dat.agg [I o, Dat.lst false cs, Dat.lst false rs, Dat.lst false ns]), D.dat (I at_), D.dat (I deep)] [] [] = some ([D.dat (Dat.val (Value.string s23_0)), D.dat (B g23_1)], [], [])) ∧ (den cfg kk 13 [D.dat (Dat.agg [I o, Dat.lst false cs, Dat.lst false rs, Dat.lst false ns])] [] [] = some ([D.dat (Dat.agg [I o, Dat.lst false cs, Dat.lst false rs, Dat.lst false ns])], [], [])) ∧ (den cfg kk 14 [D.dat (Dat.agg [I o, Dat.lst false cs, Dat.lst false rs, Dat.lst false ns]), D.dat (I at_), D.dat (I deep)] [] [] = some ([D.dat (Dat.val (Value.string s32_0)), D.dat (B g32_1)], [], [])) ∧ r = ([D.dat (B false)], [], [])) (q3 : (decide (x15 < 0) = false) → ((!decide (s32_0 = s23_0)) = false) → ((!g32_1 == g23_1) = true) → (den cfg kk 11 [D.dat (Dat.agg [I o, Dat.lst false cs, Dat.lst false rs, Dat.lst false ns]), D.dat (I 1048576)] [] [] = some ([D.dat (I x15)], [], [])) ∧ (den cfg kk 13 [D.dat (Dat.agg [I o, Dat.lst false cs, Dat.lst false rs, Dat.lst false ns])] [] [] = some ([D.dat (Dat.agg [I o, Dat.lst false cs, Dat.lst false rs, Dat.lst false ns])], [], [])) ∧ (den cfg kk 12 [D.dat (Dat.agg [I o, Dat.lst false cs, Dat.lst false rs, Dat.lst false ns]), D.dat (I at_), D.dat (I deep)] [] [] = some ([D.dat (Dat.val (Value.string s23_0)), D.dat (B g23_1)], [], [])) ∧ (den cfg kk 13 [D.dat (Dat.agg [I o, Dat.lst false cs, Dat.lst false rs, Dat.lst false ns])] [] [] = some ([D.dat (Dat.agg [I o, Dat.lst false cs, Dat.lst false rs, Dat.lst false ns])], [], [])) ∧ (den cfg kk 14 [D.dat (Dat.agg [I o, Dat.lst false cs, Dat.lst false rs, Dat.lst false ns]), D.dat (I at_), D.dat (I deep)] [] [] = some ([D.dat (Dat.val (Value.string s32_0)), D.dat (B g32_1)], [], [])) ∧ r = ([D.dat (B false)], [], [])) (q4 : (decide (x15 < 0) = false) → ((!decide (s32_0 = s23_0)) = false) → ((!g32_1 == g23_1) = false) → ((!g46) = true) → (den cfg kk 11 [D.dat (Dat.agg [I o, Dat.lst false cs, Dat.lst false rs, Dat.lst false ns]), D.dat (I 1048576)] [] [] = some ([D.dat (I x15)], [], [])) ∧ (den cfg kk 13 [D.dat (Dat.agg [I o, Dat.lst false cs, Dat.lst false rs, Dat.lst false ns])] [] [] = some ([D.dat (Dat.agg [I o, Dat.lst false cs, Dat.lst false rs, Dat.lst false ns])], [], [])) ∧ (den cfg kk 12 [D.dat (Dat.agg [I o, Dat.lst false cs, Dat.lst false rs, Dat.lst false ns]), D.dat (I at_), D.dat (I deep)] [] [] = some ([D.dat (Dat.val (Value.string s23_0)), D.dat (B g23_1)], [], [])) ∧ (den cfg kk 13 [D.dat (Dat.agg [I o, Dat.lst false cs, Dat.lst false rs, Dat.lst false ns])] [] [] = some ([D.dat (Dat.agg [I o, Dat.lst false cs, Dat.lst false rs, Dat.lst false ns])], [], [])) ∧ (den cfg kk 14 [D.dat (Dat.agg [I o, Dat.lst false cs, Dat.lst false rs, Dat.lst false ns]), D.dat (I at_), D.dat (I deep)] [] [] = some ([D.dat (Dat.val (Value.string s32_0)), D.dat (B g32_1)], [], [])) ∧ (den cfg kk 13 [D.dat (Dat.agg [I o, Dat.lst false cs, Dat.lst false rs, Dat.lst false ns])] [] [] = some ([D.dat (Dat.agg [I o, Dat.lst false cs, Dat.lst false rs, Dat.lst false ns])], [], [])) ∧ (den cfg kk 15 [D.dat (Dat.agg [I o, Dat.lst false cs, Dat.lst false rs, Dat.lst false ns]), D.dat (Dat.agg [I o, Dat.lst false cs, Dat.lst false rs, Dat.lst false ns])] [] [] = some ([D.dat (B g46)], [], [])) ∧ r = ([D.dat (B false)], [], [])) (q5 : (decide (x15 < 0) = false) → ((!decide (s32_0 = s23_0)) = false) → ((!g32_1 == g23_1) = false) → ((!g46) = false) → (den cfg kk 11 [D.dat (Dat.agg [I o, Dat.lst false cs, Dat.lst false rs, Dat.lst false ns]), D.dat (I 1048576)] [] [] = some ([D.dat (I x15)], [], [])) ∧ (den cfg kk 13 [D.dat (Dat.agg [I o, Dat.lst false cs, Dat.lst false rs, Dat.lst false ns])] [] [] = some ([D.dat (Dat.agg [I o, Dat.lst false cs, Dat.lst false rs, Dat.lst false ns])], [], [])) ∧ (den cfg kk 12 [D.dat (Dat.agg [I o, Dat.lst false cs, Dat.lst false rs, Dat.lst false ns]), D.dat (I at_), D.dat (I deep)] [] [] = some ([D.dat (Dat.val (Value.string s23_0)), D.dat (B g23_1)], [], [])) ∧ (den cfg kk 13 [D.dat (Dat.agg [I o, Dat.lst false cs, Dat.lst false rs, Dat.lst false ns])] [] [] = some ([D.dat (Dat.agg [I o, Dat.lst false cs, Dat.lst false rs, Dat.lst false ns])], [], [])) ∧ (den cfg kk 14 [D.dat (Dat.agg [I o, Dat.lst false cs, Dat.lst false rs, Dat.lst false ns]), D.dat (I at_), D.dat (I deep)] [] [] = some ([D.dat (Dat.val (Value.string s32_0)), D.dat (B g32_1)], [], [])) ∧ (den cfg kk 13 [D.dat (Dat.agg [I o, Dat.lst false cs, Dat.lst false rs, Dat.lst false ns])] [] [] = some ([D.dat (Dat.agg [I o, Dat.lst false cs, Dat.lst false rs, Dat.lst false ns])], [], [])) ∧ (den cfg kk 15 [D.dat (Dat.agg [I o, Dat.lst false cs, Dat.lst false rs, Dat.lst false ns]), D.dat (Dat.agg [I o, Dat.lst false cs, Dat.lst false rs, Dat.lst false ns])] [] [] = some ([D.dat (B g46)], [], [])) ∧ r = ([D.dat (B true)], [], [])) : runFn cfg kk (den cfg kk) 3 Go.Proofs.Tryd.f3 [.dat (Yd false o cs rs ns), .dat (I at_), .dat (I deep)] [] [] = some r := by
  rcases Bool.eq_false_or_eq_true (decide (x15 < 0)) with d2 | d2
  · obtain ⟨o1, oz⟩ := q1 d2
    subst oz; exact lawShowDeep_w1 kk o cs rs ns at_ deep x15 s23_0 g23_1 s32_0 g32_1 g46 o1 d2
  · rcases Bool.eq_false_or_eq_true ((!decide (s32_0 = s23_0))) with d7 | d7
    · obtain ⟨o1, o2, o3, o4, o5, oz⟩ := q2 d2 d7
      subst oz; exact lawShowDeep_w2 kk o cs rs ns at_ deep x15 s23_0 g23_1 s32_0 g32_1 g46 o1 d2 o2 o3 o4 o5 d7
    · rcases Bool.eq_false_or_eq_true ((!g32_1 == g23_1)) with d10 | d10
      · obtain ⟨o1, o2, o3, o4, o5, oz⟩ := q3 d2 d7 d10
        subst oz; exact lawShowDeep_w3 kk o cs rs ns at_ deep x15 s23_0 g23_1 s32_0 g32_1 g46 o1 d2 o2 o3 o4 o5 d7 d10
      · rcases Bool.eq_false_or_eq_true ((!g46)) with d13 | d13
        · obtain ⟨o1, o2, o3, o4, o5, o6, o7, oz⟩ := q4 d2 d7 d10 d13
          subst oz; exact lawShowDeep_w4 kk o cs rs ns at_ deep x15 s23_0 g23_1 s32_0 g32_1 g46 o1 d2 o2 o3 o4 o5 d7 d10 o6 o7 d13
        · obtain ⟨o1, o2, o3, o4, o5, o6, o7, oz⟩ := q5 d2 d7 d10 d13
          subst oz; exact lawShowDeep_w5 kk o cs rs ns at_ deep x15 s23_0 g23_1 s32_0 g32_1 g46 o1 d2 o2 o3 o4 o5 d7 d10 o6 o7 d13
end Go.Den
namespace Go.Den
open Go
set_option linter.unusedVariables false
set_option maxRecDepth 100000
/-- What both sides tell. -/
def showDeep (o : Int) (cs : List Cl) (rs ns : List Int) (at_ deep : Int) : ByteArray × Bool :=
  match goodY o cs rs ns && belowB at_ cs.length && inB deep 0 10 with
  | true => (showB cs deep.toNat at_, true)
  | false => (ByteArray.mk #[], false)
theorem ev_sShowDeep (o : Int) (cs : List Cl) (rs ns : List Int) (at_ deep : Int) (hf : ∀ c ∈ cs, c.fine) (ho : In64 o) (h : cs.length + rs.length + ns.length ≤ 1048576) : EvN 1048620 12 [.dat (YD false o cs rs ns), .dat (I at_), .dat (I deep)] [] [] ([.dat (S (showDeep o cs rs ns at_ deep).1), .dat (B (showDeep o cs rs ns at_ deep).2)], [], []) := by
  refine ev_fn Go.Proofs.Tryd.f12 1048619 (by kernel_rfl) (by kernel_rfl) fun kk hkk => ?_
  have hlc : (cs.map Cl.d).length = cs.length := by simp
  have h1 := ev_sGood false o cs rs ns h ho kk (by omega)
  have h2 := ev_l1In at_ 0 (w64 (((cs.map Cl.d).length : Int) - 1)) kk (by omega)
  have e2 : inB at_ 0 (w64 (((cs.map Cl.d).length : Int) - 1)) = belowB at_ cs.length := by rw [w64_eq (by omega), below_in, hlc]
  rw [e2] at h2
  have h3 := ev_l1In deep 0 10 kk (by omega)
  unfold showDeep
  refine sShowDeep kk false o _ _ _ at_ deep (goodY o cs rs ns) (belowB at_ cs.length) (inB deep 0 10) (showB cs deep.toNat at_) (fun d => ⟨h1, ?_⟩) (fun d d2 => ⟨h1, h2, ?_⟩) (fun d d2 d3 => ⟨h1, h2, h3, ?_⟩) (fun d d2 d3 => ⟨h1, h2, h3, ?_, ?_⟩)
  · simp only [Bool.not_eq_true'] at d; rw [d]; rfl
  · simp only [Bool.not_eq_true', Bool.not_eq_false'] at d d2; rw [d, d2]; rfl
  · simp only [Bool.not_eq_true', Bool.not_eq_false'] at d d2 d3; rw [d, d2, d3]; rfl
  · simp only [Bool.not_eq_true', Bool.not_eq_false'] at d d2 d3
    have h4 : 0 ≤ deep ∧ deep ≤ 10 := by simpa [inB] using d3
    have := ev_sShow false cs (good_cells hf d) deep.toNat at_ (by omega) (in_of d2).1 (in_of d2).2 kk (by omega)
    rwa [show ((deep.toNat : Nat) : Int) = deep by omega] at this
  · simp only [Bool.not_eq_true', Bool.not_eq_false'] at d d2 d3; rw [d, d2, d3]; rfl
theorem ev_iShowDeep (o : Int) (cs : List Cl) (rs ns : List Int) (at_ deep : Int) (hf : ∀ c ∈ cs, c.fine) (h : cs.length + rs.length + ns.length ≤ 1048576) : EvN 1048620 14 [.dat (YD false o cs rs ns), .dat (I at_), .dat (I deep)] [] [] ([.dat (S (showDeep o cs rs ns at_ deep).1), .dat (B (showDeep o cs rs ns at_ deep).2)], [], []) := by
  refine ev_fn Go.Proofs.Tryd.f14 1048619 (by kernel_rfl) (by kernel_rfl) fun kk hkk => ?_
  have hlc : (cs.map Cl.d).length = cs.length := by simp
  have h1 := ev_iGood false o cs rs ns h kk (by omega)
  have h2 := ev_isBelow at_ ((cs.map Cl.d).length : Int) kk (by omega)
  rw [hlc] at h2
  unfold showDeep
  refine iShowDeep kk false o _ _ _ at_ deep (goodY o cs rs ns) (belowB at_ cs.length) (showB cs deep.toNat at_) (fun d => ⟨h1, ?_⟩) (fun d d2 => ⟨h1, by rw [hlc]; exact h2, ?_⟩) (fun d d2 d3 => ⟨h1, by rw [hlc]; exact h2, ?_⟩) (fun d d2 d3 d4 => ⟨h1, by rw [hlc]; exact h2, ?_⟩) (fun d d2 d3 d4 => ⟨h1, by rw [hlc]; exact h2, ?_, ?_⟩)
  · simp only [Bool.not_eq_true'] at d; rw [d]; rfl
  · simp only [Bool.not_eq_true', Bool.not_eq_false'] at d d2; rw [d, d2]; rfl
  · have e : inB deep 0 10 = false := by simp [inB] at d3 ⊢; omega
    simp only [Bool.not_eq_true', Bool.not_eq_false'] at d d2; rw [d, d2, e]; rfl
  · have e : inB deep 0 10 = false := by simp [inB] at d3 d4 ⊢; omega
    simp only [Bool.not_eq_true', Bool.not_eq_false'] at d d2; rw [d, d2, e]; rfl
  · simp only [Bool.not_eq_true', Bool.not_eq_false'] at d d2
    simp only [decide_eq_false_iff_not] at d3 d4
    have := ev_iShow false o cs (rs.map (I ·)) (ns.map (I ·)) (good_cells hf d) deep.toNat at_ (by omega) (in_of d2).1 (in_of d2).2 kk (by omega)
    rwa [show ((deep.toNat : Nat) : Int) = deep by omega] at this
  · have e : inB deep 0 10 = true := by simp [inB] at d3 d4 ⊢; omega
    simp only [Bool.not_eq_true', Bool.not_eq_false'] at d d2; rw [d, d2, e]; rfl
theorem fnExactShowDeep_den : ∀ (d0 d1 d2 : Dat), WT cfg.ty 25 d0 → WT cfg.ty 3 d1 → WT cfg.ty 3 d2 → ∃ k, den cfg k 3 [.dat d0, .dat d1, .dat d2] [] [] = some ([.dat (.val (.bool true))], [], []) := by
  intro d0 d1 d2 w0 w1 w2
  obtain ⟨o, cs, rs, ns, rfl, ho, hc, hr, hn, hf⟩ := young_in w0
  obtain ⟨at_, rfl, _⟩ := int_in w1
  obtain ⟨deep, rfl, _⟩ := int_in w2
  obtain ⟨z, hz, hz0⟩ := ev_szY false o (cs.map Cl.d) (rs.map (I ·)) (ns.map (I ·)) (by simpa using hc) (by simpa using hr) (by simpa using hn)
  simp only [List.length_map] at hz0
  refine ⟨1100001, ev_fn Go.Proofs.Tryd.f3 1100000 (by kernel_rfl) (by kernel_rfl) (fun kk hkk => ?_) 1100001 (Nat.le_refl _)⟩
  have h11 := hz kk (by omega)
  have h13 := fun h => ev_toYoung false o cs rs ns h kk (by omega)
  have h12 := fun h => ev_sShowDeep o cs rs ns at_ deep hf ho h kk (by omega)
  have h14 := fun h => ev_iShowDeep o cs rs ns at_ deep hf h kk (by omega)
  have h15 := fun h => ev_eqYoung false false o cs rs ns h kk (by omega)
  generalize (showDeep o cs rs ns at_ deep).1 = s at *
  generalize (showDeep o cs rs ns at_ deep).2 = g at *
  have hle : decide (z < 0) = false → cs.length + rs.length + ns.length ≤ 1048576 := fun d => hz0 (by have := of_decide_eq_false d; omega)
  exact lawShowDeep kk o _ _ _ at_ deep z s g s g true (fun d => ⟨h11, rfl⟩) (fun d d2 => by simp at d2) (fun d d2 d3 => by simp at d3) (fun d d2 d3 d4 => by cases d4) (fun d d2 d3 d4 => ⟨h11, h13 (hle d), h12 (hle d), h13 (hle d), h14 (hle d), h13 (hle d), h15 (hle d), rfl⟩)
end Go.Den
namespace Go.Proofs.YtcmcfebihbmmeaaDoor.fnExactShowDeep
open Go.ChangeShapes Go.WideShapes Go.ChangeAt Go.RowKit Go.Den
set_option linter.unusedVariables false
theorem own : ownKnob Tryd.prog.godebug = none := by kernel_rfl
theorem laidOut : laidOutB Tryd.prog = true := by kernel_rfl
theorem body : (Tryd.f3.body).isSome = true := by kernel_rfl
theorem fnThere : cfg.fn 3 = some Tryd.f3 := by kernel_rfl
theorem plain3 : plainTy cfg.ty 8 3 = true := by kernel_rfl
theorem plain25 : plainTy cfg.ty 8 25 = true := by kernel_rfl
def setG (h : Array Obj) (g : Nat) (c : Array Value) : Array Obj := h.modify g fun
  | .cells _ t frozen => .cells c t frozen
  | o => o
def vals (d : DataW Unit) : Array Value := match d with
  | .agg l => (l.map fun | .lit (.int k n) => Value.int k n | _ => .nilIface).toArray
  | _ => #[]
noncomputable def laidWorld (os : Os) : World :=
  let w0 := World.holding Tryd.prog os ⟨#[], #[], []⟩
  { w0 with heap := setG (setG (setG (w0.heap) 3 (vals Rows.laid_math_bits_deBruijn32tab)) 4 (vals Rows.laid_math_bits_deBruijn64tab)) 0 (vals Rows.laid_internal_strconv_uint64pow10) }
theorem laid_met (os : Os) (args : Array Value) : laidMetH Tryd.prog Rows.fnExactShowDeepRow.laid ((laidWorld os).forCall (fun _ _ => 0) ⟨#[], args, []⟩).memory :=
  laidMetH_of_parts (laidMet_of_run (ps := (List.range 32).map (MemPlace.cell 3 ·) ++ (List.range 64).map (MemPlace.cell 4 ·) ++ (List.range 20).map (MemPlace.cell 0 ·)) 8 (by kernel_rfl) (by kernel_rfl) (by kernel_rfl)) (by kernel_rfl)
set_option maxRecDepth 100000 in
theorem lifted (os : Os) (started : os.Started) (H : Type) (enc : TypeId × Value → H) :
    ReturnsInHanded {} Tryd.checked os 3 .any (fun w args => (Rows.fnExactShowDeepSpec.pre enc Tryd.prog Tryd.f3 Rows.fnExactShowDeepRow.domain false w args ∧ laidMetH Tryd.prog Rows.fnExactShowDeepRow.laid w) ∧ sizedMet enc Tryd.prog Tryd.f3 (OpenSpec.ofChange Rows.fnExactShowDeepSpec) false w args) (Rows.fnExactShowDeepSpec.post enc Tryd.prog Tryd.f3 false true false false) := by
  refine returnsInHanded_of_change_and (C := Tryd.checked) (X := fun w _ => laidMetH Tryd.prog Rows.fnExactShowDeepRow.laid w) (fun _ _ _ hh h => h.of_heap hh) own started (by kernel_rfl) Tryd.func3
    (ChangeSpec.witness_at (enc := enc) (C := Tryd.checked) (os := os) (X := fun w _ => laidMetH Tryd.prog Rows.fnExactShowDeepRow.laid w) false (laidWorld os) #[.agg #[.int .i64 0, .slice none 0 0, .slice none 0 0, .slice none 0 0], .int .i64 0, .int .i64 0] 8 rfl (by kernel_rfl) (by kernel_rfl) (by kernel_rfl) (by kernel_rfl) (by kernel_rfl) (laid_met os _)) ?_
  intro W base args ds gs before hval0 hW hcnd _ hL _
  have hTab : Lib.TabIs Tryd.prog W "internal/strconv.uint64pow10" .u64 Lib.pow10Tab := Lib.tabIs_of_head (g := 0) (by kernel_rfl) (t := 162) (by kernel_rfl) (e := 90) (n := 20) (by kernel_rfl) (by kernel_rfl) (by kernel_rfl) (by kernel_rfl) (laidMet.tail (laidMet.tail (show laidMet Tryd.prog Rows.fnExactShowDeepRow.laid W from hL)))
  have hval : ∀ (j : Nat) t v, Tryd.f3.params[j]? = some t → args[j]? = some v → Value.okWide Tryd.prog W .any base t v := hval0
  have hW' := hW
  obtain ⟨p, q, hA0, hV, rfl, hfz, hnd⟩ := hW
  have hA : DataW.TrodAll enc Tryd.prog W 0 (fun _ => true) true Tryd.f3.params.toList args.toList ds p := hA0
  rw [Tryd.params3] at hA hval
  obtain ⟨v0, vs0, d0, ds0, p0, q0, hargs, rfl, rfl, h0, r0⟩ := trodAll_cons hA
  obtain ⟨v1, vs1, d1, ds1, p1, q1, rfl, rfl, rfl, h1, r1⟩ := trodAll_cons r0
  obtain ⟨v2, vs2, d2, ds2, p2, q2, rfl, rfl, rfl, h2, r2⟩ := trodAll_cons r1
  obtain ⟨rfl, rfl, rfl⟩ := trodAll_nil r2
  obtain rfl : args = #[v0, v1, v2] := by cases args; simp_all
  obtain ⟨rfl, rfl⟩ := trodVars_none hV
  have k0 := h0
  have lt0 : ∀ x ∈ p0, x.block < W.heap.size := by obtain ⟨m, hm⟩ := k0; exact DataW.trod_lt m _ _ _ hm
  obtain ⟨e0, cv0, R0, V0, T0⟩ := arg_dat cfg_ty plain25 (hval 0 25 v0 rfl rfl) h0
  have k1 := h1
  have lt1 : ∀ x ∈ p1, x.block < W.heap.size := by obtain ⟨m, hm⟩ := k1; exact DataW.trod_lt m _ _ _ hm
  obtain ⟨e1, cv1, R1, V1, T1⟩ := arg_dat cfg_ty plain3 (hval 1 3 v1 rfl rfl) h1
  have k2 := h2
  have lt2 : ∀ x ∈ p2, x.block < W.heap.size := by obtain ⟨m, hm⟩ := k2; exact DataW.trod_lt m _ _ _ hm
  obtain ⟨e2, cv2, R2, V2, T2⟩ := arg_dat cfg_ty plain3 (hval 2 3 v2 rfl rfl) h2
  clear hA0 hval0
  have hden := fnExactShowDeep_den e0 e1 e2 T0 T1 T2
  refine (law_calls (P := Tryd.prog) (C := cfg) (f := 3) (fn := Tryd.f3) (vals := #[v0, v1, v2]) (ds := [e0, e1, e2]) (W := W) (b := true) (B := blockOf Tryd.prog W "internal/strconv.uint64pow10") (den_true (tabAt_of hTab)).out (cfg_fn fnThere) body rfl (fun j d v hj hv => ?_) (fun g o h => block_of h) hden).mono fun e W' hh => ?_
  · match j, hj, hv with
    | 0, hj, hv => cases hj; cases hv; exact ⟨cv0, R0, V0⟩
    | 1, hj, hv => cases hj; cases hv; exact ⟨cv1, R1, V1⟩
    | 2, hj, hv => cases hj; cases hv; exact ⟨cv2, R2, V2⟩
    | j + 3, hj, hv => simp at hj
  · obtain ⟨he, bel⟩ := hh
    subst he
    exact ⟨_, rfl, _, _, _, [], _, [], hW', trodAll_mk1 (shut_bool Tryd.underlying4 _), (trodAll_cons_mk (Below.trod laidOut (by kernel_rfl) (of_decide_eq_true (by kernel_rfl)) k0 bel lt0) (trodAll_cons_mk (Below.trod laidOut (by kernel_rfl) (of_decide_eq_true (by kernel_rfl)) k1 bel lt1) (trodAll_cons_mk (Below.trod laidOut (by kernel_rfl) (of_decide_eq_true (by kernel_rfl)) k2 bel lt2) trodAll_mk0))), rfl, bel.frame _, fun h => by cases h⟩
theorem over : Rows.fnExactShowDeepRow.holds Tryd.pinned (OpenSpec.ofChange Rows.fnExactShowDeepSpec) :=
  OpenClaim.holds_of_wide 3 Tryd.f3 rfl rfl rfl rfl rfl rfl rfl ⟨rfl, rfl, rfl, rfl, rfl⟩ rfl rfl rfl rfl rfl (by kernel_rfl) Tryd.func3 (by kernel_rfl)
    (of_decide_eq_true (by kernel_rfl)) (by unfold Func.isWrapper; first | (rw [if_pos (by decide +kernel)]; kernel_rfl) | (rw [if_neg (by decide +kernel)]; exact ⟨rfl, rfl⟩))
    (fun os started H enc _ => lifted os started H enc)
theorem proved : Rows.FnExactShowDeepSaid := over
end Go.Proofs.YtcmcfebihbmmeaaDoor.fnExactShowDeep
namespace Go.Proofs.YtcmcfebihbmmeaaDoor
/-- The row, under a short name, for the claim. -/
theorem fnExactShowDeep_holds : Rows.FnExactShowDeepSaid := fnExactShowDeep.proved
end Go.Proofs.YtcmcfebihbmmeaaDoor
namespace Go.Proofs.YtcmcfebihbmmeaaDoor
open Go
theorem fnExactShowDeepCard_holds : Rows.FnExactShowDeepCardSaid :=
  Claim7.holds_tied_plain_at .later [] [.data, .data, .data] true (true, "6ff86e34f5ef3fa93c68ab0da54ea809c76b7496032f1ace8724b71ef3b8924e") true
    fnExactShowDeep_holds (fun _ h => by cases h) (by kernel_rfl) (fun _ h => by cases h) fnExactShowDeep_row_tie rfl ⟨rfl, rfl⟩ (by kernel_rfl) rfl
    (fun f fn hf hfn => by
      obtain rfl : f = 3 := Option.some.inj ((show Tryd.prog.funcNamed Rows.fnExactShowDeepRow.func = some 3 by kernel_rfl).symm.trans hf) |>.symm
      obtain rfl : fn = Tryd.f3 := (Option.some.inj (Tryd.func3.symm.trans hfn)).symm
      exact ⟨by kernel_rfl, fun j t ht => by
        rw [Tryd.params3] at ht
        match j, ht with
        | 0, ht => cases ht; exact (show Tryd.prog.wantsStandIn 25 = false by kernel_rfl)
        | 1, ht => cases ht; exact (show Tryd.prog.wantsStandIn 3 = false by kernel_rfl)
        | 2, ht => cases ht; exact (show Tryd.prog.wantsStandIn 3 = false by kernel_rfl)
        | j + 3, ht => simp at ht⟩)
    (by kernel_rfl)
end Go.Proofs.YtcmcfebihbmmeaaDoor
