/- Merged out of: G4 G2 G3 G5 G6 G7 YFnExactDepthsOf LFnExactDepthsOf LFnExactDepthsOfCard (prune.py, a program of this work's). -/
import Derived.Test.YtmoocdlfclhgcaaDoorZc6
import Derived.Test.YtmoocdlfclhgcaaDoorZc5
import Derived.KernelRfl
import Derived.LaidHandle
import Derived.Handed
import Derived.Stop.LaidErr
import Derived.Lib.LaidTab
import Derived.Test.YtmoocdlfclhgcaaDoorRows
import Derived.WalkKit
import Derived.ProofKit
import Derived.OpenShut
import Derived.ShutString
import Derived.ChangeOld
import Derived.Below
import Derived.Test.YtmoocdlfclhgcaaDoorCards
import Derived.Test.YtmoocdlfclhgcaaDoorTie
import Derived.SevenTiedAt
set_option linter.unusedVariables false
set_option linter.unusedSimpArgs false
set_option linter.unnecessarySimpa false
namespace Go.Den
open Go.Proofs
open Go
set_option linter.unusedVariables false
set_option maxRecDepth 100000
abbrev Lg (b : Bool) (es out : List Dat) (g : Bool) : Option (List D) := some [.dat (.lst b es), .own 3 out, .dat (B g)]
abbrev Lc (b : Bool) (es out : List Dat) (g : Bool) : List D := [.dat (.lst b es), .own 3 out, .dat (B g)]
def hdm (b : Bool) (es : List Dat) (out : List Dat) (g : Bool) (at_ n : Int) : St := Nm [0, 1, 2] [.ptr (.up 0) 0, .dat (I at_), .dat (I n)] [none, none, none] [Lc b es out g] []
theorem zlw (kk m : Nat) {s : St} {K : X → St → Prop} (b : Bool) (es : List Dat) (out : List Dat) (at_ n : Int) (hs : s.norm (fN kk 21 Tryd.f21 0) = hdm b es out true at_ n)  (hK : K (X.exit 0) (Nm [] [] [] [[D.dat (Dat.lst b es), D.own 3 out, D.dat (B true)]] [])) : fR kk 21 Tryd.f21 0 (m + 1) s K :=
 zac [] hs (by kernel_rfl) rfl ob0 (by kernel_rfl) hK
theorem zlL (kk m : Nat) {s : St} {K : X → St → Prop} (b : Bool) (es : List Dat) (out : List Dat) (at_ n x : Int) (hs : s.norm (fN kk 21 Tryd.f21 0) = hdm b es out false at_ n) (h1 : decide ((es.length : Int) ≤ at_) = true) (hK : K (X.ret) (Nm [] [] [] [[D.dat (Dat.lst b es), D.own 3 out, D.dat (B true)]] [])) : fR kk 21 Tryd.f21 0 (m + 1) s K :=
 zac [(200019, .yes)] hs (by kernel_rfl) rfl (ob h1 (ob rT ob0)) (by kernel_rfl) hK
theorem zlF (kk m : Nat) {s : St} {K : X → St → Prop} (b : Bool) (es : List Dat) (out : List Dat) (at_ n x : Int) (hs : s.norm (fN kk 21 Tryd.f21 0) = hdm b es out false at_ n) (h1 : decide ((es.length : Int) ≤ at_) = false) (h3 : decide (n < 0) = false) (h9 : 0 ≤ at_ ∧ at_ < (out.length : Int)) (h11 : out[at_.toNat]? = some (I x)) (h14 : decide (0 ≤ x) = true) (h20 : 0 ≤ at_ ∧ at_ < (out.length : Int)) (h22 : out[at_.toNat]? = some (I x)) (h26 : (!decide (x = n)) = true) (hK : K (X.ret) (Nm [] [] [] [[D.dat (Dat.lst b es), D.own 3 out, D.dat (B true)]] [])) : fR kk 21 Tryd.f21 0 (m + 1) s K :=
 zac [(200019, .no), (200023, .no), (29, .ok), (30, .at (I x)), (200032, .yes), (38, .ok), (39, .at (I x)), (200043, .yes)] hs (by kernel_rfl) rfl (ob h1 (ob rF (ob h3 (ob rF (ob rF (ob rF (ob rF (ob rF (ob h9 (ob rF (ob h11 (ob rF (ob rF (ob h14 (ob rT (ob rT (ob rT (ob rT (ob rT (ob h20 (ob rT (ob h22 (ob rT (ob rT (ob rF (ob h26 ob0)))))))))))))))))))))))))) (by kernel_rfl) hK
theorem zlH (kk m : Nat) {s : St} {K : X → St → Prop} (b : Bool) (es : List Dat) (out : List Dat) (at_ n x : Int) (hs : s.norm (fN kk 21 Tryd.f21 0) = hdm b es out false at_ n) (h1 : decide ((es.length : Int) ≤ at_) = false) (h3 : decide (n < 0) = false) (h9 : 0 ≤ at_ ∧ at_ < (out.length : Int)) (h11 : out[at_.toNat]? = some (I x)) (h14 : decide (0 ≤ x) = true) (h20 : 0 ≤ at_ ∧ at_ < (out.length : Int)) (h22 : out[at_.toNat]? = some (I x)) (h26 : (!decide (x = n)) = false) (h27 : 0 ≤ at_ ∧ at_ < (out.length : Int)) (h28 : out[at_.toNat]? = some (I x)) (h29 : decide (0 ≤ x) = true) (hK : K (X.ret) (Nm [] [] [] [[D.dat (Dat.lst b es), D.own 3 out, D.dat (B false)]] [])) : fR kk 21 Tryd.f21 0 (m + 1) s K :=
 zac [(200019, .no), (200023, .no), (29, .ok), (30, .at (I x)), (200032, .yes), (38, .ok), (39, .at (I x)), (200043, .no), (52, .ok), (53, .at (I x)), (200054, .yes)] hs (by kernel_rfl) rfl (ob h1 (ob rF (ob h3 (ob rF (ob rF (ob rF (ob rF (ob rF (ob h9 (ob rF (ob h11 (ob rF (ob rF (ob h14 (ob rT (ob rT (ob rT (ob rT (ob rT (ob h20 (ob rT (ob h22 (ob rT (ob rT (ob rF (ob h26 (ob h27 (ob h28 (ob h29 ob0))))))))))))))))))))))))))))) (by kernel_rfl) hK
theorem znf (kk m : Nat) {s : St} {K : X → St → Prop} (b : Bool) (es : List Dat) (out out1 : List Dat) (g1 : Bool) (at_ n a x : Int) (t : ByteArray) (hs : s.norm (fN kk 21 Tryd.f21 0) = hdm b es out false at_ n) (h1 : decide ((es.length : Int) ≤ at_) = false) (h3 : decide (n < 0) = false) (h9 : 0 ≤ at_ ∧ at_ < (out.length : Int)) (h11 : out[at_.toNat]? = some (I x)) (h14 : decide (0 ≤ x) = false) (h24 : 0 ≤ at_ ∧ at_ < (out.length : Int)) (h25 : out[at_.toNat]? = some (I x)) (h26 : decide (0 ≤ x) = false) (h27 : 0 ≤ at_ ∧ at_ < (out.length : Int)) (h28 : out[at_.toNat]? = some (I x)) (h29 : (0 ≤ at_ ∧ at_ < (es.length : Int)) ∧ es[at_.toNat]? = some (Dat.agg [I 1, I a, Dat.val (Value.string t)])) (hn : ∀ s : St, s.norm (fN kk 21 Tryd.f21 0) = Nm [0, 1, 2] [D.ptr (Ref.up 0) 0, D.dat (I (w64 (at_ + 1))), D.dat (I (w64 (n + 1)))] [none, none, none] [[D.dat (Dat.lst b es), D.own 3 (out.set at_.toNat (I n)), D.dat (B false)]] [] → fR kk 21 Tryd.f21 0 m s K) : fR kk 21 Tryd.f21 0 (m + 1) s K :=
 zah [(200019, .no), (200023, .no), (29, .ok), (30, .at (I x)), (200032, .no), (52, .ok), (53, .at (I x)), (200054, .no), (61, .ok), (100061, .at (I x)), (67, .at (Dat.agg [I 1, I a, .val (.string t)]))] hs (by kernel_rfl) (ob h1 (ob rF (ob h3 (ob rF (ob rF (ob rF (ob rF (ob rF (ob h9 (ob rF (ob h11 (ob rF (ob rF (ob h14 (ob rF (ob rF (ob rF (ob rF (ob rF (ob rF (ob rF (ob rF (ob rF (ob h24 (ob h25 (ob h26 (ob h27 (ob h28 (ob h29 ob0))))))))))))))))))))))))))))) (by kernel_rfl) hn
theorem zno (kk m : Nat) {s : St} {K : X → St → Prop} (b : Bool) (es : List Dat) (out out1 : List Dat) (g1 : Bool) (at_ n a x : Int) (t : ByteArray) (hs : s.norm (fN kk 21 Tryd.f21 0) = hdm b es out false at_ n) (h1 : decide ((es.length : Int) ≤ at_) = false) (h3 : decide (n < 0) = false) (h9 : 0 ≤ at_ ∧ at_ < (out.length : Int)) (h11 : out[at_.toNat]? = some (I x)) (h14 : decide (0 ≤ x) = false) (h24 : 0 ≤ at_ ∧ at_ < (out.length : Int)) (h25 : out[at_.toNat]? = some (I x)) (h26 : decide (0 ≤ x) = false) (h27 : 0 ≤ at_ ∧ at_ < (out.length : Int)) (h28 : out[at_.toNat]? = some (I x)) (h29 : (0 ≤ at_ ∧ at_ < (es.length : Int)) ∧ es[at_.toNat]? = some (Dat.agg [I 2, I a, Dat.val (Value.string t)])) (hn : ∀ s : St, s.norm (fN kk 21 Tryd.f21 0) = Nm [0, 1, 2] [D.ptr (Ref.up 0) 0, D.dat (I (w64 (at_ + 1))), D.dat (I (w64 (n + 1)))] [none, none, none] [[D.dat (Dat.lst b es), D.own 3 (out.set at_.toNat (I n)), D.dat (B false)]] [] → fR kk 21 Tryd.f21 0 m s K) : fR kk 21 Tryd.f21 0 (m + 1) s K :=
 zah [(200019, .no), (200023, .no), (29, .ok), (30, .at (I x)), (200032, .no), (52, .ok), (53, .at (I x)), (200054, .no), (61, .ok), (100061, .at (I x)), (67, .at (Dat.agg [I 2, I a, .val (.string t)]))] hs (by kernel_rfl) (ob h1 (ob rF (ob h3 (ob rF (ob rF (ob rF (ob rF (ob rF (ob h9 (ob rF (ob h11 (ob rF (ob rF (ob h14 (ob rF (ob rF (ob rF (ob rF (ob rF (ob rF (ob rF (ob rF (ob rF (ob h24 (ob h25 (ob h26 (ob h27 (ob h28 (ob h29 ob0))))))))))))))))))))))))))))) (by kernel_rfl) hn
theorem zmO (kk m : Nat) {s : St} {K : X → St → Prop} (b : Bool) (es : List Dat) (out out1 : List Dat) (g1 : Bool) (at_ n a x : Int) (t : ByteArray) (hs : s.norm (fN kk 21 Tryd.f21 0) = hdm b es out false at_ n) (h1 : decide ((es.length : Int) ≤ at_) = false) (h3 : decide (n < 0) = false) (h9 : 0 ≤ at_ ∧ at_ < (out.length : Int)) (h11 : out[at_.toNat]? = some (I x)) (h14 : decide (0 ≤ x) = false) (h24 : 0 ≤ at_ ∧ at_ < (out.length : Int)) (h25 : out[at_.toNat]? = some (I x)) (h26 : decide (0 ≤ x) = false) (h27 : 0 ≤ at_ ∧ at_ < (out.length : Int)) (h28 : out[at_.toNat]? = some (I x)) (h29 : (0 ≤ at_ ∧ at_ < (es.length : Int)) ∧ es[at_.toNat]? = some (Dat.agg [I 3, I a, Dat.val (Value.string t)])) (hn : ∀ s : St, s.norm (fN kk 21 Tryd.f21 0) = Nm [0, 1, 2] [D.ptr (Ref.up 0) 0, D.dat (I (w64 (at_ + 1))), D.dat (I n)] [none, none, none] [[D.dat (Dat.lst b es), D.own 3 (out.set at_.toNat (I n)), D.dat (B (decide (n < 1)))]] [] → fR kk 21 Tryd.f21 0 m s K) : fR kk 21 Tryd.f21 0 (m + 1) s K :=
 zah [(200019, .no), (200023, .no), (29, .ok), (30, .at (I x)), (200032, .no), (52, .ok), (53, .at (I x)), (200054, .no), (61, .ok), (100061, .at (I x)), (67, .at (Dat.agg [I 3, I a, .val (.string t)]))] hs (by kernel_rfl) (ob h1 (ob rF (ob h3 (ob rF (ob rF (ob rF (ob rF (ob rF (ob h9 (ob rF (ob h11 (ob rF (ob rF (ob h14 (ob rF (ob rF (ob rF (ob rF (ob rF (ob rF (ob rF (ob rF (ob rF (ob h24 (ob h25 (ob h26 (ob h27 (ob h28 (ob h29 ob0))))))))))))))))))))))))))))) (by kernel_rfl) hn
theorem zmT (kk m : Nat) {s : St} {K : X → St → Prop} (b : Bool) (es : List Dat) (out out1 : List Dat) (g1 : Bool) (at_ n a x : Int) (t : ByteArray) (hs : s.norm (fN kk 21 Tryd.f21 0) = hdm b es out false at_ n) (h1 : decide ((es.length : Int) ≤ at_) = false) (h3 : decide (n < 0) = false) (h9 : 0 ≤ at_ ∧ at_ < (out.length : Int)) (h11 : out[at_.toNat]? = some (I x)) (h14 : decide (0 ≤ x) = false) (h24 : 0 ≤ at_ ∧ at_ < (out.length : Int)) (h25 : out[at_.toNat]? = some (I x)) (h26 : decide (0 ≤ x) = false) (h27 : 0 ≤ at_ ∧ at_ < (out.length : Int)) (h28 : out[at_.toNat]? = some (I x)) (h29 : (0 ≤ at_ ∧ at_ < (es.length : Int)) ∧ es[at_.toNat]? = some (Dat.agg [I 4, I a, Dat.val (Value.string t)])) (hn : ∀ s : St, s.norm (fN kk 21 Tryd.f21 0) = Nm [0, 1, 2] [D.ptr (Ref.up 0) 0, D.dat (I (w64 (at_ + 1))), D.dat (I n)] [none, none, none] [[D.dat (Dat.lst b es), D.own 3 (out.set at_.toNat (I n)), D.dat (B (decide (n < 1)))]] [] → fR kk 21 Tryd.f21 0 m s K) : fR kk 21 Tryd.f21 0 (m + 1) s K :=
 zah [(200019, .no), (200023, .no), (29, .ok), (30, .at (I x)), (200032, .no), (52, .ok), (53, .at (I x)), (200054, .no), (61, .ok), (100061, .at (I x)), (67, .at (Dat.agg [I 4, I a, .val (.string t)]))] hs (by kernel_rfl) (ob h1 (ob rF (ob h3 (ob rF (ob rF (ob rF (ob rF (ob rF (ob h9 (ob rF (ob h11 (ob rF (ob rF (ob h14 (ob rF (ob rF (ob rF (ob rF (ob rF (ob rF (ob rF (ob rF (ob rF (ob h24 (ob h25 (ob h26 (ob h27 (ob h28 (ob h29 ob0))))))))))))))))))))))))))))) (by kernel_rfl) hn
theorem zmQ (kk m : Nat) {s : St} {K : X → St → Prop} (b : Bool) (es : List Dat) (out out1 : List Dat) (g1 : Bool) (at_ n a x : Int) (t : ByteArray) (hs : s.norm (fN kk 21 Tryd.f21 0) = hdm b es out false at_ n) (h1 : decide ((es.length : Int) ≤ at_) = false) (h3 : decide (n < 0) = false) (h9 : 0 ≤ at_ ∧ at_ < (out.length : Int)) (h11 : out[at_.toNat]? = some (I x)) (h14 : decide (0 ≤ x) = false) (h24 : 0 ≤ at_ ∧ at_ < (out.length : Int)) (h25 : out[at_.toNat]? = some (I x)) (h26 : decide (0 ≤ x) = false) (h27 : 0 ≤ at_ ∧ at_ < (out.length : Int)) (h28 : out[at_.toNat]? = some (I x)) (h29 : (0 ≤ at_ ∧ at_ < (es.length : Int)) ∧ es[at_.toNat]? = some (Dat.agg [I 5, I a, Dat.val (Value.string t)])) (hn : ∀ s : St, s.norm (fN kk 21 Tryd.f21 0) = Nm [0, 1, 2] [D.ptr (Ref.up 0) 0, D.dat (I (w64 (at_ + 1))), D.dat (I (w64 (n - 1)))] [none, none, none] [[D.dat (Dat.lst b es), D.own 3 (out.set at_.toNat (I n)), D.dat (B (decide (n < 1)))]] [] → fR kk 21 Tryd.f21 0 m s K) : fR kk 21 Tryd.f21 0 (m + 1) s K :=
 zah [(200019, .no), (200023, .no), (29, .ok), (30, .at (I x)), (200032, .no), (52, .ok), (53, .at (I x)), (200054, .no), (61, .ok), (100061, .at (I x)), (67, .at (Dat.agg [I 5, I a, .val (.string t)]))] hs (by kernel_rfl) (ob h1 (ob rF (ob h3 (ob rF (ob rF (ob rF (ob rF (ob rF (ob h9 (ob rF (ob h11 (ob rF (ob rF (ob h14 (ob rF (ob rF (ob rF (ob rF (ob rF (ob rF (ob rF (ob rF (ob rF (ob h24 (ob h25 (ob h26 (ob h27 (ob h28 (ob h29 ob0))))))))))))))))))))))))))))) (by kernel_rfl) hn
theorem znv (kk m : Nat) {s : St} {K : X → St → Prop} (b : Bool) (es : List Dat) (out out1 : List Dat) (g1 : Bool) (at_ n a x : Int) (t : ByteArray) (hs : s.norm (fN kk 21 Tryd.f21 0) = hdm b es out false at_ n) (h1 : decide ((es.length : Int) ≤ at_) = false) (h3 : decide (n < 0) = false) (h9 : 0 ≤ at_ ∧ at_ < (out.length : Int)) (h11 : out[at_.toNat]? = some (I x)) (h14 : decide (0 ≤ x) = false) (h24 : 0 ≤ at_ ∧ at_ < (out.length : Int)) (h25 : out[at_.toNat]? = some (I x)) (h26 : decide (0 ≤ x) = false) (h27 : 0 ≤ at_ ∧ at_ < (out.length : Int)) (h28 : out[at_.toNat]? = some (I x)) (h29 : (0 ≤ at_ ∧ at_ < (es.length : Int)) ∧ es[at_.toNat]? = some (Dat.agg [I 6, I a, Dat.val (Value.string t)])) (hn : ∀ s : St, s.norm (fN kk 21 Tryd.f21 0) = Nm [0, 1, 2] [D.ptr (Ref.up 0) 0, D.dat (I (w64 (w64 (a - 1) + 1))), D.dat (I n)] [none, none, none] [[D.dat (Dat.lst b es), D.own 3 (out.set at_.toNat (I n)), D.dat (B false)]] [] → fR kk 21 Tryd.f21 0 m s K) : fR kk 21 Tryd.f21 0 (m + 1) s K :=
 zah [(200019, .no), (200023, .no), (29, .ok), (30, .at (I x)), (200032, .no), (52, .ok), (53, .at (I x)), (200054, .no), (61, .ok), (100061, .at (I x)), (67, .at (Dat.agg [I 6, I a, .val (.string t)]))] hs (by kernel_rfl) (ob h1 (ob rF (ob h3 (ob rF (ob rF (ob rF (ob rF (ob rF (ob h9 (ob rF (ob h11 (ob rF (ob rF (ob h14 (ob rF (ob rF (ob rF (ob rF (ob rF (ob rF (ob rF (ob rF (ob rF (ob h24 (ob h25 (ob h26 (ob h27 (ob h28 (ob h29 ob0))))))))))))))))))))))))))))) (by kernel_rfl) hn
theorem zmG (kk m : Nat) {s : St} {K : X → St → Prop} (b : Bool) (es : List Dat) (out out1 : List Dat) (g1 : Bool) (at_ n a x : Int) (t : ByteArray) (hs : s.norm (fN kk 21 Tryd.f21 0) = hdm b es out false at_ n) (h1 : decide ((es.length : Int) ≤ at_) = false) (h3 : decide (n < 0) = false) (h9 : 0 ≤ at_ ∧ at_ < (out.length : Int)) (h11 : out[at_.toNat]? = some (I x)) (h14 : decide (0 ≤ x) = false) (h24 : 0 ≤ at_ ∧ at_ < (out.length : Int)) (h25 : out[at_.toNat]? = some (I x)) (h26 : decide (0 ≤ x) = false) (h27 : 0 ≤ at_ ∧ at_ < (out.length : Int)) (h28 : out[at_.toNat]? = some (I x)) (h29 : (0 ≤ at_ ∧ at_ < (es.length : Int)) ∧ es[at_.toNat]? = some (Dat.agg [I 7, I a, Dat.val (Value.string t)])) (h30 : fU kk 21 [D.ptr (Ref.up 0) 0, D.dat (I a), D.dat (I (w64 (n - 1)))] [[D.dat (Dat.lst b es), D.own 3 (out.set at_.toNat (I n)), D.dat (B (decide (n < 1)))]] [] [[D.dat (Dat.lst b es), D.own 3 out1, D.dat (B g1)]]) (hn : ∀ s : St, s.norm (fN kk 21 Tryd.f21 0) = Nm [0, 1, 2] [D.ptr (Ref.up 0) 0, D.dat (I (w64 (at_ + 1))), D.dat (I (w64 (n - 1)))] [none, none, none] [[D.dat (Dat.lst b es), D.own 3 out1, D.dat (B g1)]] [] → fR kk 21 Tryd.f21 0 m s K) : fR kk 21 Tryd.f21 0 (m + 1) s K :=
 zah [(200019, .no), (200023, .no), (29, .ok), (30, .at (I x)), (200032, .no), (52, .ok), (53, .at (I x)), (200054, .no), (61, .ok), (100061, .at (I x)), (67, .at (Dat.agg [I 7, I a, .val (.string t)])), (128, .back [] [Lc b es out1 g1] [])] hs (by kernel_rfl) (ob h1 (ob rF (ob h3 (ob rF (ob rF (ob rF (ob rF (ob rF (ob h9 (ob rF (ob h11 (ob rF (ob rF (ob h14 (ob rF (ob rF (ob rF (ob rF (ob rF (ob rF (ob rF (ob rF (ob rF (ob h24 (ob h25 (ob h26 (ob h27 (ob h28 (ob h29 (ob h30 (ob rF ob0))))))))))))))))))))))))))))))) (by kernel_rfl) hn
theorem zmL (kk m : Nat) {s : St} {K : X → St → Prop} (b : Bool) (es : List Dat) (out out1 : List Dat) (g1 : Bool) (at_ n a x : Int) (t : ByteArray) (hs : s.norm (fN kk 21 Tryd.f21 0) = hdm b es out false at_ n) (h1 : decide ((es.length : Int) ≤ at_) = false) (h3 : decide (n < 0) = false) (h9 : 0 ≤ at_ ∧ at_ < (out.length : Int)) (h11 : out[at_.toNat]? = some (I x)) (h14 : decide (0 ≤ x) = false) (h24 : 0 ≤ at_ ∧ at_ < (out.length : Int)) (h25 : out[at_.toNat]? = some (I x)) (h26 : decide (0 ≤ x) = false) (h27 : 0 ≤ at_ ∧ at_ < (out.length : Int)) (h28 : out[at_.toNat]? = some (I x)) (h29 : (0 ≤ at_ ∧ at_ < (es.length : Int)) ∧ es[at_.toNat]? = some (Dat.agg [I 8, I a, Dat.val (Value.string t)])) (h30 : fU kk 21 [D.ptr (Ref.up 0) 0, D.dat (I a), D.dat (I 0)] [[D.dat (Dat.lst b es), D.own 3 (out.set at_.toNat (I n)), D.dat (B false)]] [] [[D.dat (Dat.lst b es), D.own 3 out1, D.dat (B g1)]]) (hn : ∀ s : St, s.norm (fN kk 21 Tryd.f21 0) = Nm [0, 1, 2] [D.ptr (Ref.up 0) 0, D.dat (I (w64 (at_ + 1))), D.dat (I (w64 (n + 1)))] [none, none, none] [[D.dat (Dat.lst b es), D.own 3 out1, D.dat (B g1)]] [] → fR kk 21 Tryd.f21 0 m s K) : fR kk 21 Tryd.f21 0 (m + 1) s K :=
 zah [(200019, .no), (200023, .no), (29, .ok), (30, .at (I x)), (200032, .no), (52, .ok), (53, .at (I x)), (200054, .no), (61, .ok), (100061, .at (I x)), (67, .at (Dat.agg [I 8, I a, .val (.string t)])), (92, .back [] [Lc b es out1 g1] [])] hs (by kernel_rfl) (ob h1 (ob rF (ob h3 (ob rF (ob rF (ob rF (ob rF (ob rF (ob h9 (ob rF (ob h11 (ob rF (ob rF (ob h14 (ob rF (ob rF (ob rF (ob rF (ob rF (ob rF (ob rF (ob rF (ob rF (ob h24 (ob h25 (ob h26 (ob h27 (ob h28 (ob h29 (ob h30 (ob rF ob0))))))))))))))))))))))))))))))) (by kernel_rfl) hn
theorem zm5 (kk m : Nat) {s : St} {K : X → St → Prop} (b : Bool) (es : List Dat) (out out1 : List Dat) (g1 : Bool) (at_ n a x : Int) (t : ByteArray) (hs : s.norm (fN kk 21 Tryd.f21 0) = hdm b es out false at_ n) (h1 : decide ((es.length : Int) ≤ at_) = false) (h3 : decide (n < 0) = false) (h9 : 0 ≤ at_ ∧ at_ < (out.length : Int)) (h11 : out[at_.toNat]? = some (I x)) (h14 : decide (0 ≤ x) = false) (h24 : 0 ≤ at_ ∧ at_ < (out.length : Int)) (h25 : out[at_.toNat]? = some (I x)) (h26 : decide (0 ≤ x) = false) (h27 : 0 ≤ at_ ∧ at_ < (out.length : Int)) (h28 : out[at_.toNat]? = some (I x)) (h29 : (0 ≤ at_ ∧ at_ < (es.length : Int)) ∧ es[at_.toNat]? = some (Dat.agg [I 9, I a, Dat.val (Value.string t)])) (hn : ∀ s : St, s.norm (fN kk 21 Tryd.f21 0) = Nm [0, 1, 2] [D.ptr (Ref.up 0) 0, D.dat (I (w64 (at_ + 1))), D.dat (I (w64 (n - a)))] [none, none, none] [[D.dat (Dat.lst b es), D.own 3 (out.set at_.toNat (I n)), D.dat (B (decide (n < w64 (a + 1))))]] [] → fR kk 21 Tryd.f21 0 m s K) : fR kk 21 Tryd.f21 0 (m + 1) s K :=
 zah [(200019, .no), (200023, .no), (29, .ok), (30, .at (I x)), (200032, .no), (52, .ok), (53, .at (I x)), (200054, .no), (61, .ok), (100061, .at (I x)), (67, .at (Dat.agg [I 9, I a, .val (.string t)]))] hs (by kernel_rfl) (ob h1 (ob rF (ob h3 (ob rF (ob rF (ob rF (ob rF (ob rF (ob h9 (ob rF (ob h11 (ob rF (ob rF (ob h14 (ob rF (ob rF (ob rF (ob rF (ob rF (ob rF (ob rF (ob rF (ob rF (ob h24 (ob h25 (ob h26 (ob h27 (ob h28 (ob h29 ob0))))))))))))))))))))))))))))) (by kernel_rfl) hn
theorem zmj (kk m : Nat) {s : St} {K : X → St → Prop} (b : Bool) (es : List Dat) (out out1 : List Dat) (g1 : Bool) (at_ n a x : Int) (t : ByteArray) (hs : s.norm (fN kk 21 Tryd.f21 0) = hdm b es out false at_ n) (h1 : decide ((es.length : Int) ≤ at_) = false) (h3 : decide (n < 0) = false) (h9 : 0 ≤ at_ ∧ at_ < (out.length : Int)) (h11 : out[at_.toNat]? = some (I x)) (h14 : decide (0 ≤ x) = false) (h24 : 0 ≤ at_ ∧ at_ < (out.length : Int)) (h25 : out[at_.toNat]? = some (I x)) (h26 : decide (0 ≤ x) = false) (h27 : 0 ≤ at_ ∧ at_ < (out.length : Int)) (h28 : out[at_.toNat]? = some (I x)) (h29 : (0 ≤ at_ ∧ at_ < (es.length : Int)) ∧ es[at_.toNat]? = some (Dat.agg [I 10, I a, Dat.val (Value.string t)])) (hK : K (X.ret) (Nm [] [] [] [[D.dat (Dat.lst b es), D.own 3 (out.set at_.toNat (I n)), D.dat (B !decide (n = w64 (a + 1)))]] [])) : fR kk 21 Tryd.f21 0 (m + 1) s K :=
 zac [(200019, .no), (200023, .no), (29, .ok), (30, .at (I x)), (200032, .no), (52, .ok), (53, .at (I x)), (200054, .no), (61, .ok), (100061, .at (I x)), (67, .at (Dat.agg [I 10, I a, .val (.string t)]))] hs (by kernel_rfl) rfl (ob h1 (ob rF (ob h3 (ob rF (ob rF (ob rF (ob rF (ob rF (ob h9 (ob rF (ob h11 (ob rF (ob rF (ob h14 (ob rF (ob rF (ob rF (ob rF (ob rF (ob rF (ob rF (ob rF (ob rF (ob h24 (ob h25 (ob h26 (ob h27 (ob h28 (ob h29 ob0))))))))))))))))))))))))))))) (by kernel_rfl) hK
theorem zmu (kk m : Nat) {s : St} {K : X → St → Prop} (b : Bool) (es : List Dat) (out out1 : List Dat) (g1 : Bool) (at_ n a x : Int) (t : ByteArray) (hs : s.norm (fN kk 21 Tryd.f21 0) = hdm b es out false at_ n) (h1 : decide ((es.length : Int) ≤ at_) = false) (h3 : decide (n < 0) = false) (h9 : 0 ≤ at_ ∧ at_ < (out.length : Int)) (h11 : out[at_.toNat]? = some (I x)) (h14 : decide (0 ≤ x) = false) (h24 : 0 ≤ at_ ∧ at_ < (out.length : Int)) (h25 : out[at_.toNat]? = some (I x)) (h26 : decide (0 ≤ x) = false) (h27 : 0 ≤ at_ ∧ at_ < (out.length : Int)) (h28 : out[at_.toNat]? = some (I x)) (h29 : (0 ≤ at_ ∧ at_ < (es.length : Int)) ∧ es[at_.toNat]? = some (Dat.agg [I 11, I a, Dat.val (Value.string t)])) (hK : K (X.ret) (Nm [] [] [] [[D.dat (Dat.lst b es), D.own 3 (out.set at_.toNat (I n)), D.dat (B !decide (n = 1))]] [])) : fR kk 21 Tryd.f21 0 (m + 1) s K :=
 zac [(200019, .no), (200023, .no), (29, .ok), (30, .at (I x)), (200032, .no), (52, .ok), (53, .at (I x)), (200054, .no), (61, .ok), (100061, .at (I x)), (67, .at (Dat.agg [I 11, I a, .val (.string t)]))] hs (by kernel_rfl) rfl (ob h1 (ob rF (ob h3 (ob rF (ob rF (ob rF (ob rF (ob rF (ob h9 (ob rF (ob h11 (ob rF (ob rF (ob h14 (ob rF (ob rF (ob rF (ob rF (ob rF (ob rF (ob rF (ob rF (ob rF (ob h24 (ob h25 (ob h26 (ob h27 (ob h28 (ob h29 ob0))))))))))))))))))))))))))))) (by kernel_rfl) hK
theorem zl3 (kk m : Nat) {s : St} {K : X → St → Prop} (b : Bool) (es : List Dat) (out out1 : List Dat) (g1 : Bool) (at_ n a x : Int) (t : ByteArray) (hs : s.norm (fN kk 21 Tryd.f21 0) = hdm b es out false at_ n) (h1 : decide ((es.length : Int) ≤ at_) = false) (h3 : decide (n < 0) = false) (h9 : 0 ≤ at_ ∧ at_ < (out.length : Int)) (h11 : out[at_.toNat]? = some (I x)) (h14 : decide (0 ≤ x) = false) (h24 : 0 ≤ at_ ∧ at_ < (out.length : Int)) (h25 : out[at_.toNat]? = some (I x)) (h26 : decide (0 ≤ x) = false) (h27 : 0 ≤ at_ ∧ at_ < (out.length : Int)) (h28 : out[at_.toNat]? = some (I x)) (h29 : (0 ≤ at_ ∧ at_ < (es.length : Int)) ∧ es[at_.toNat]? = some (Dat.agg [I 12, I a, Dat.val (Value.string t)])) (hn : ∀ s : St, s.norm (fN kk 21 Tryd.f21 0) = Nm [0, 1, 2] [D.ptr (Ref.up 0) 0, D.dat (I (w64 (at_ + 1))), D.dat (I 0)] [none, none, none] [[D.dat (Dat.lst b es), D.own 3 (out.set at_.toNat (I n)), D.dat (B !decide (n = 1))]] [] → fR kk 21 Tryd.f21 0 m s K) : fR kk 21 Tryd.f21 0 (m + 1) s K :=
 zah [(200019, .no), (200023, .no), (29, .ok), (30, .at (I x)), (200032, .no), (52, .ok), (53, .at (I x)), (200054, .no), (61, .ok), (100061, .at (I x)), (67, .at (Dat.agg [I 12, I a, .val (.string t)]))] hs (by kernel_rfl) (ob h1 (ob rF (ob h3 (ob rF (ob rF (ob rF (ob rF (ob rF (ob h9 (ob rF (ob h11 (ob rF (ob rF (ob h14 (ob rF (ob rF (ob rF (ob rF (ob rF (ob rF (ob rF (ob rF (ob rF (ob h24 (ob h25 (ob h26 (ob h27 (ob h28 (ob h29 ob0))))))))))))))))))))))))))))) (by kernel_rfl) hn
theorem zmm (kk m : Nat) {s : St} {K : X → St → Prop} (b : Bool) (es : List Dat) (out out1 : List Dat) (g1 : Bool) (at_ n a x : Int) (t : ByteArray) (hs : s.norm (fN kk 21 Tryd.f21 0) = hdm b es out false at_ n) (h1 : decide ((es.length : Int) ≤ at_) = false) (h3 : decide (n < 0) = false) (h9 : 0 ≤ at_ ∧ at_ < (out.length : Int)) (h11 : out[at_.toNat]? = some (I x)) (h14 : decide (0 ≤ x) = false) (h24 : 0 ≤ at_ ∧ at_ < (out.length : Int)) (h25 : out[at_.toNat]? = some (I x)) (h26 : decide (0 ≤ x) = false) (h27 : 0 ≤ at_ ∧ at_ < (out.length : Int)) (h28 : out[at_.toNat]? = some (I x)) (h29 : (0 ≤ at_ ∧ at_ < (es.length : Int)) ∧ es[at_.toNat]? = some (Dat.agg [I 13, I a, Dat.val (Value.string t)])) (hK : K (X.ret) (Nm [] [] [] [[D.dat (Dat.lst b es), D.own 3 (out.set at_.toNat (I n)), D.dat (B !decide (n = 0))]] [])) : fR kk 21 Tryd.f21 0 (m + 1) s K :=
 zac [(200019, .no), (200023, .no), (29, .ok), (30, .at (I x)), (200032, .no), (52, .ok), (53, .at (I x)), (200054, .no), (61, .ok), (100061, .at (I x)), (67, .at (Dat.agg [I 13, I a, .val (.string t)]))] hs (by kernel_rfl) rfl (ob h1 (ob rF (ob h3 (ob rF (ob rF (ob rF (ob rF (ob rF (ob h9 (ob rF (ob h11 (ob rF (ob rF (ob h14 (ob rF (ob rF (ob rF (ob rF (ob rF (ob rF (ob rF (ob rF (ob rF (ob h24 (ob h25 (ob h26 (ob h27 (ob h28 (ob h29 ob0))))))))))))))))))))))))))))) (by kernel_rfl) hK
theorem zlT (kk : Nat) (b : Bool) (es : List Dat) (out out1 : List Dat) (g g1 : Bool) (at_ n : Int) {r : Res} (q1 : (zav cfg kk 21 Tryd.f21 0 (hdm b es out g at_ n) (X.exit 0) (Nm [] [] [] [[D.dat (Dat.lst b es), D.own 3 out1, D.dat (B g1)]] [])) ∧ r = ([], [[D.dat (Dat.lst b es), D.own 3 out1, D.dat (B g1)]], [])) : zaF cfg kk (den cfg kk) 21 Tryd.f21 [.ptr (.up 0) 0, .dat (I at_), .dat (I n)] [Lc b es out g] [] = some r := by
 obtain ⟨hz1, oz⟩ := q1
 subst oz; exact zab [(300000, .loop (hdm b es out g at_ n) (.exit 0) (Nm [] [] [] [Lc b es out1 g1] []))] (ob (rfl : _ = hdm b es out g at_ n) (ob hz1 ob0)) (by kernel_rfl)
theorem zmH (kk : Nat) (b : Bool) (es : List Dat) (out out1 : List Dat) (g g1 : Bool) (at_ n : Int) {r : Res} (q1 : (zav cfg kk 21 Tryd.f21 0 (hdm b es out g at_ n) X.ret (Nm [] [] [] [[D.dat (Dat.lst b es), D.own 3 out1, D.dat (B g1)]] [])) ∧ r = ([], [[D.dat (Dat.lst b es), D.own 3 out1, D.dat (B g1)]], [])) : zaF cfg kk (den cfg kk) 21 Tryd.f21 [.ptr (.up 0) 0, .dat (I at_), .dat (I n)] [Lc b es out g] [] = some r := by
 obtain ⟨hz1, oz⟩ := q1
 subst oz; exact zab [(300000, .loop (hdm b es out g at_ n) .ret (Nm [] [] [] [Lc b es out1 g1] []))] (ob (rfl : _ = hdm b es out g at_ n) (ob hz1 ob0)) (by kernel_rfl)
def hd10 (b : Bool) (es : List Dat) (out : List Dat) (i : Int) : St := Nm [6, 20, 25, 26] [.ptr (.loc 20) 0, .ptr (.loc 20) 0, .dat (I out.length), .dat (I i)] [none, Lg b es out false, none, none] [] []
theorem zlG (kk m : Nat) {s : St} {K : X → St → Prop} (b : Bool) (es : List Dat) (out : List Dat) (i : Int) (x100034 : Int) (hs : s.norm (fN kk 10 Tryd.f10 6) = hd10 b es out i) (q1 : (tT (i < (out.length : Int))) → (0 ≤ i ∧ i < (out.length : Int)) ∧ (out[i.toNat]? = some (I x100034)) ∧ (∀ s : St, s.norm (fN kk 10 Tryd.f10 6) = Nm [6, 20, 25, 26] [D.ptr (Ref.loc 20) 0, D.ptr (Ref.loc 20) 0, D.dat (I (out.length : Int)), D.dat (I (w64 (i + 1)))] [none, some [D.dat (Dat.lst b es), D.own 3 (out.set i.toNat (I (-1))), D.dat (B false)], none, none] [] [] → fR kk 10 Tryd.f10 6 m s K)) (q2 : (tF (i < (out.length : Int))) → K (X.exit 0) (Nm [6, 20] [D.ptr (Ref.loc 20) 0, D.ptr (Ref.loc 20) 0] [none, some [D.dat (Dat.lst b es), D.own 3 out, D.dat (B false)]] [] [])) : fR kk 10 Tryd.f10 6 (m + 1) s K := by
 rcases Bool.eq_false_or_eq_true (decide (i < (out.length : Int))) with d1 | d1
 · obtain ⟨hz1, hz2, oz⟩ := q1 d1
   exact zah [(34, .ok), (100034, .at (I x100034)), (200027, .yes)] hs (by kernel_rfl) (ob d1 (ob hz1 (ob hz2 ob0))) (by kernel_rfl) oz
 · have oz := q2 d1
   exact zac [(34, .ok), (100034, .at (I x100034)), (200027, .no)] hs (by kernel_rfl) rfl (ob d1 ob0) (by kernel_rfl) oz
theorem sDep (kk : Nat) (b : Bool) (es : List Dat) (out1 : List Dat) (g1 : Bool) (s10_0 : ByteArray) (g10_1 : Bool) {r : Res} (q1 : ((!g10_1) = true) → (fD kk 17 [D.dat (Dat.lst b es)] [D.dat (Dat.val (Value.string s10_0)), D.dat (B g10_1)]) ∧ r = ([D.own 3 [], D.dat (B false)], [], [])) (q2 : ((!g10_1) = false) → (g1 = true) → (fD kk 17 [D.dat (Dat.lst b es)] [D.dat (Dat.val (Value.string s10_0)), D.dat (B g10_1)]) ∧ (0 ≤ (es.length : Int) ∧ (es.length : Int) ≤ (es.length : Int) ∧ (es.length : Int) ≤ 2147483648) ∧ (zav cfg kk 10 Tryd.f10 6 (hd10 b es (List.replicate es.length (I 0)) 0) (X.exit 0) (Nm [6, 20] [D.ptr (Ref.loc 20) 0, D.ptr (Ref.loc 20) 0] [none, some [D.dat (Dat.lst b es), D.own 3 (List.replicate es.length (I (-1))), D.dat (B false)]] [] [])) ∧ (fU kk 21 [D.ptr (Ref.up 0) 0, D.dat (I 0), D.dat (I 0)] [[D.dat (Dat.lst b es), D.own 3 (List.replicate es.length (I (-1))), D.dat (B false)]] [] [[D.dat (Dat.lst b es), D.own 3 out1, D.dat (B g1)]]) ∧ r = ([D.own 3 [], D.dat (B false)], [], [])) (q3 : ((!g10_1) = false) → (g1 = false) → (fD kk 17 [D.dat (Dat.lst b es)] [D.dat (Dat.val (Value.string s10_0)), D.dat (B g10_1)]) ∧ (0 ≤ (es.length : Int) ∧ (es.length : Int) ≤ (es.length : Int) ∧ (es.length : Int) ≤ 2147483648) ∧ (zav cfg kk 10 Tryd.f10 6 (hd10 b es (List.replicate es.length (I 0)) 0) (X.exit 0) (Nm [6, 20] [D.ptr (Ref.loc 20) 0, D.ptr (Ref.loc 20) 0] [none, some [D.dat (Dat.lst b es), D.own 3 (List.replicate es.length (I (-1))), D.dat (B false)]] [] [])) ∧ (fU kk 21 [D.ptr (Ref.up 0) 0, D.dat (I 0), D.dat (I 0)] [[D.dat (Dat.lst b es), D.own 3 (List.replicate es.length (I (-1))), D.dat (B false)]] [] [[D.dat (Dat.lst b es), D.own 3 out1, D.dat (B g1)]]) ∧ r = ([D.own 3 out1, D.dat (B true)], [], [])) : zaF cfg kk (den cfg kk) 10 Tryd.f10 [.dat (Dat.lst b es)] [] [] = some r := by
 rcases Bool.eq_false_or_eq_true ((!g10_1)) with d2 | d2
 · obtain ⟨hz1, oz⟩ := q1 d2
   subst oz; exact zab [(300006, .loop (hd10 b es (List.replicate es.length (I 0)) 0) (.exit 0) (Nm [6, 20] [.ptr (.loc 20) 0, .ptr (.loc 20) 0] [none, Lg b es (List.replicate es.length (I (-1))) false] [] [])), (37, .back [] [Lc b es out1 g1] []), (10, .ret [.dat (S s10_0), .dat (B g10_1)]), (18, .ok), (200014, .yes)] (ob hz1 (ob d2 ob0)) (by kernel_rfl)
 · rcases Bool.eq_false_or_eq_true (g1) with d8 | d8
   · obtain ⟨hz1, hz2, hz3, hz4, oz⟩ := q2 d2 d8
     subst oz; exact zab [(300006, .loop (hd10 b es (List.replicate es.length (I 0)) 0) (.exit 0) (Nm [6, 20] [.ptr (.loc 20) 0, .ptr (.loc 20) 0] [none, Lg b es (List.replicate es.length (I (-1))) false] [] [])), (37, .back [] [Lc b es out1 g1] []), (10, .ret [.dat (S s10_0), .dat (B g10_1)]), (18, .ok), (200014, .no), (200041, .yes)] (ob hz1 (ob d2 (ob hz2 (ob (rfl : _ = hd10 b es (List.replicate es.length (I 0)) 0) (ob hz3 (ob hz4 (ob rF (ob d8 ob0)))))))) (by kernel_rfl)
   · obtain ⟨hz1, hz2, hz3, hz4, oz⟩ := q3 d2 d8
     subst oz; exact zab [(300006, .loop (hd10 b es (List.replicate es.length (I 0)) 0) (.exit 0) (Nm [6, 20] [.ptr (.loc 20) 0, .ptr (.loc 20) 0] [none, Lg b es (List.replicate es.length (I (-1))) false] [] [])), (37, .back [] [Lc b es out1 g1] []), (10, .ret [.dat (S s10_0), .dat (B g10_1)]), (18, .ok), (200014, .no), (200041, .no)] (ob hz1 (ob d2 (ob hz2 (ob (rfl : _ = hd10 b es (List.replicate es.length (I 0)) 0) (ob hz3 (ob hz4 (ob rF (ob d8 ob0)))))))) (by kernel_rfl)
theorem go_1 (kk : Nat) (a at_ n : Int) (t : ByteArray) {r : Res} (q1 : r = ([D.own 50 [Dat.agg [I (w64 (at_ + 1)), I (w64 (n + 1))]], D.dat (B true)], [], [])) : zaF cfg kk (den cfg kk) 23 Tryd.f23 [.dat (Dat.agg [I 1, I a, .val (.string t)]), .dat (I at_), .dat (I n)] [] [] = some r := by
 have oz := q1
 subst oz; exact zab [] ob0 (by kernel_rfl)
theorem go_2 (kk : Nat) (a at_ n : Int) (t : ByteArray) {r : Res} (q1 : r = ([D.own 50 [Dat.agg [I (w64 (at_ + 1)), I (w64 (n + 1))]], D.dat (B true)], [], [])) : zaF cfg kk (den cfg kk) 23 Tryd.f23 [.dat (Dat.agg [I 2, I a, .val (.string t)]), .dat (I at_), .dat (I n)] [] [] = some r := by
 have oz := q1
 subst oz; exact zab [] ob0 (by kernel_rfl)
theorem go_3 (kk : Nat) (a at_ n : Int) (t : ByteArray) {r : Res} (q1 : r = ([D.own 50 [Dat.agg [I (w64 (at_ + 1)), I n]], D.dat (B (decide (1 ≤ n)))], [], [])) : zaF cfg kk (den cfg kk) 23 Tryd.f23 [.dat (Dat.agg [I 3, I a, .val (.string t)]), .dat (I at_), .dat (I n)] [] [] = some r := by
 have oz := q1
 subst oz; exact zab [] ob0 (by kernel_rfl)
theorem go_4 (kk : Nat) (a at_ n : Int) (t : ByteArray) {r : Res} (q1 : r = ([D.own 50 [Dat.agg [I (w64 (at_ + 1)), I n]], D.dat (B (decide (1 ≤ n)))], [], [])) : zaF cfg kk (den cfg kk) 23 Tryd.f23 [.dat (Dat.agg [I 4, I a, .val (.string t)]), .dat (I at_), .dat (I n)] [] [] = some r := by
 have oz := q1
 subst oz; exact zab [] ob0 (by kernel_rfl)
theorem go_5 (kk : Nat) (a at_ n : Int) (t : ByteArray) {r : Res} (q1 : r = ([D.own 50 [Dat.agg [I (w64 (at_ + 1)), I (w64 (n - 1))]], D.dat (B (decide (1 ≤ n)))], [], [])) : zaF cfg kk (den cfg kk) 23 Tryd.f23 [.dat (Dat.agg [I 5, I a, .val (.string t)]), .dat (I at_), .dat (I n)] [] [] = some r := by
 have oz := q1
 subst oz; exact zab [] ob0 (by kernel_rfl)
theorem go_6 (kk : Nat) (a at_ n : Int) (t : ByteArray) {r : Res} (q1 : r = ([D.own 50 [Dat.agg [I a, I n]], D.dat (B true)], [], [])) : zaF cfg kk (den cfg kk) 23 Tryd.f23 [.dat (Dat.agg [I 6, I a, .val (.string t)]), .dat (I at_), .dat (I n)] [] [] = some r := by
 have oz := q1
 subst oz; exact zab [] ob0 (by kernel_rfl)
theorem go_7 (kk : Nat) (a at_ n : Int) (t : ByteArray) {r : Res} (q1 : r = ([D.own 50 [Dat.agg [I (w64 (at_ + 1)), I (w64 (n - 1))], Dat.agg [I a, I (w64 (n - 1))]], D.dat (B (decide (1 ≤ n)))], [], [])) : zaF cfg kk (den cfg kk) 23 Tryd.f23 [.dat (Dat.agg [I 7, I a, .val (.string t)]), .dat (I at_), .dat (I n)] [] [] = some r := by
 have oz := q1
 subst oz; exact zab [] ob0 (by kernel_rfl)
theorem go_8 (kk : Nat) (a at_ n : Int) (t : ByteArray) {r : Res} (q1 : r = ([D.own 50 [Dat.agg [I (w64 (at_ + 1)), I (w64 (n + 1))], Dat.agg [I a, I 0]], D.dat (B true)], [], [])) : zaF cfg kk (den cfg kk) 23 Tryd.f23 [.dat (Dat.agg [I 8, I a, .val (.string t)]), .dat (I at_), .dat (I n)] [] [] = some r := by
 have oz := q1
 subst oz; exact zab [] ob0 (by kernel_rfl)
theorem go_9 (kk : Nat) (a at_ n : Int) (t : ByteArray) {r : Res} (q1 : r = ([D.own 50 [Dat.agg [I (w64 (at_ + 1)), I (w64 (n - a))]], D.dat (B (decide (w64 (a + 1) ≤ n)))], [], [])) : zaF cfg kk (den cfg kk) 23 Tryd.f23 [.dat (Dat.agg [I 9, I a, .val (.string t)]), .dat (I at_), .dat (I n)] [] [] = some r := by
 have oz := q1
 subst oz; exact zab [] ob0 (by kernel_rfl)
theorem go_10 (kk : Nat) (a at_ n : Int) (t : ByteArray) {r : Res} (q1 : r = ([D.own 50 [], D.dat (B (decide (n = w64 (a + 1))))], [], [])) : zaF cfg kk (den cfg kk) 23 Tryd.f23 [.dat (Dat.agg [I 10, I a, .val (.string t)]), .dat (I at_), .dat (I n)] [] [] = some r := by
 have oz := q1
 subst oz; exact zab [] ob0 (by kernel_rfl)
theorem go_11 (kk : Nat) (a at_ n : Int) (t : ByteArray) {r : Res} (q1 : r = ([D.own 50 [], D.dat (B (decide (n = 1)))], [], [])) : zaF cfg kk (den cfg kk) 23 Tryd.f23 [.dat (Dat.agg [I 11, I a, .val (.string t)]), .dat (I at_), .dat (I n)] [] [] = some r := by
 have oz := q1
 subst oz; exact zab [] ob0 (by kernel_rfl)
theorem go_12 (kk : Nat) (a at_ n : Int) (t : ByteArray) {r : Res} (q1 : r = ([D.own 50 [Dat.agg [I (w64 (at_ + 1)), I 0]], D.dat (B (decide (n = 1)))], [], [])) : zaF cfg kk (den cfg kk) 23 Tryd.f23 [.dat (Dat.agg [I 12, I a, .val (.string t)]), .dat (I at_), .dat (I n)] [] [] = some r := by
 have oz := q1
 subst oz; exact zab [] ob0 (by kernel_rfl)
theorem go_13 (kk : Nat) (a at_ n : Int) (t : ByteArray) {r : Res} (q1 : r = ([D.own 50 [], D.dat (B (decide (n = 0)))], [], [])) : zaF cfg kk (den cfg kk) 23 Tryd.f23 [.dat (Dat.agg [I 13, I a, .val (.string t)]), .dat (I at_), .dat (I n)] [] [] = some r := by
 have oz := q1
 subst oz; exact zab [] ob0 (by kernel_rfl)
def hd11 (b : Bool) (es : List Dat) (ds op : List Dat) : St := Nm [0, 6, 7] [.dat (.lst b es), .own 3 ds, .own 50 op] [none, none, none] [] []
theorem zfO (kk m : Nat) {s : St} {K : X → St → Prop} (b : Bool) (es : List Dat) (ds op : List Dat) (p32 : Int) (v32 : Int) (x49 : Int) (x56 : Int) (x67 : Int) (x100074 : Int) (c79 : In) (e85_0 : List Dat) (g85_1 : Bool) (hs : s.norm (fN kk 11 Tryd.f11 6) = hd11 b es ds op) (q1 : (tT (0 < (op.length : Int))) → (tT ((es.length : Int) ≤ p32)) → (0 ≤ w64 ((op.length : Int) - 1) ∧ w64 ((op.length : Int) - 1) < (op.length : Int)) ∧ (op[(w64 ((op.length : Int) - 1)).toNat]? = some (Dat.agg [I p32, I v32])) ∧ (0 ≤ w64 ((op.length : Int) - 1) ∧ w64 ((op.length : Int) - 1) ≤ (op.length : Int)) ∧ K (X.ret) (Nm [2, 3, 6] [D.own 3 [], D.dat (B false), D.own 3 ds] [none, none, none] [] [])) (q2 : (tT (0 < (op.length : Int))) → (tF ((es.length : Int) ≤ p32)) → (tT (0 ≤ x49)) → ((!decide (x56 = v32)) = true) → (0 ≤ w64 ((op.length : Int) - 1) ∧ w64 ((op.length : Int) - 1) < (op.length : Int)) ∧ (op[(w64 ((op.length : Int) - 1)).toNat]? = some (Dat.agg [I p32, I v32])) ∧ (0 ≤ w64 ((op.length : Int) - 1) ∧ w64 ((op.length : Int) - 1) ≤ (op.length : Int)) ∧ (0 ≤ p32 ∧ p32 < (ds.length : Int)) ∧ (ds[p32.toNat]? = some (I x49)) ∧ (0 ≤ p32 ∧ p32 < (ds.length : Int)) ∧ (ds[p32.toNat]? = some (I x56)) ∧ K (X.ret) (Nm [2, 3, 6] [D.own 3 [], D.dat (B false), D.own 3 ds] [none, none, none] [] [])) (q3 : (tT (0 < (op.length : Int))) → (tF ((es.length : Int) ≤ p32)) → (tT (0 ≤ x49)) → ((!decide (x56 = v32)) = false) → (tT (0 ≤ x67)) → (0 ≤ w64 ((op.length : Int) - 1) ∧ w64 ((op.length : Int) - 1) < (op.length : Int)) ∧ (op[(w64 ((op.length : Int) - 1)).toNat]? = some (Dat.agg [I p32, I v32])) ∧ (0 ≤ w64 ((op.length : Int) - 1) ∧ w64 ((op.length : Int) - 1) ≤ (op.length : Int)) ∧ (0 ≤ p32 ∧ p32 < (ds.length : Int)) ∧ (ds[p32.toNat]? = some (I x49)) ∧ (0 ≤ p32 ∧ p32 < (ds.length : Int)) ∧ (ds[p32.toNat]? = some (I x56)) ∧ (0 ≤ p32 ∧ p32 < (ds.length : Int)) ∧ (ds[p32.toNat]? = some (I x67)) ∧ (∀ s : St, s.norm (fN kk 11 Tryd.f11 6) = Nm [0, 6, 7] [D.dat (Dat.lst b es), D.own 3 ds, D.own 50 (List.take (w64 ((op.length : Int) - 1)).toNat op)] [none, none, none] [] [] → fR kk 11 Tryd.f11 6 m s K)) (q4 : (tT (0 < (op.length : Int))) → (tF ((es.length : Int) ≤ p32)) → (tT (0 ≤ x49)) → ((!decide (x56 = v32)) = false) → (tF (0 ≤ x67)) → ((!g85_1) = true) → (0 ≤ w64 ((op.length : Int) - 1) ∧ w64 ((op.length : Int) - 1) < (op.length : Int)) ∧ (op[(w64 ((op.length : Int) - 1)).toNat]? = some (Dat.agg [I p32, I v32])) ∧ (0 ≤ w64 ((op.length : Int) - 1) ∧ w64 ((op.length : Int) - 1) ≤ (op.length : Int)) ∧ (0 ≤ p32 ∧ p32 < (ds.length : Int)) ∧ (ds[p32.toNat]? = some (I x49)) ∧ (0 ≤ p32 ∧ p32 < (ds.length : Int)) ∧ (ds[p32.toNat]? = some (I x56)) ∧ (0 ≤ p32 ∧ p32 < (ds.length : Int)) ∧ (ds[p32.toNat]? = some (I x67)) ∧ (0 ≤ p32 ∧ p32 < (ds.length : Int)) ∧ (ds[p32.toNat]? = some (I x100074)) ∧ ((0 ≤ p32 ∧ p32 < (es.length : Int)) ∧ es[p32.toNat]? = some (Dat.agg [I c79.op, I c79.a, Dat.val (Value.string c79.t)])) ∧ (fD kk 23 [D.dat (Dat.agg [I c79.op, I c79.a, Dat.val (Value.string c79.t)]), D.dat (I p32), D.dat (I v32)] [D.own 50 e85_0, D.dat (B g85_1)]) ∧ K (X.ret) (Nm [2, 3, 6] [D.own 3 [], D.dat (B false), D.own 3 (ds.set p32.toNat (I v32))] [none, none, none] [] [])) (q5 : (tT (0 < (op.length : Int))) → (tF ((es.length : Int) ≤ p32)) → (tT (0 ≤ x49)) → ((!decide (x56 = v32)) = false) → (tF (0 ≤ x67)) → ((!g85_1) = false) → (0 ≤ w64 ((op.length : Int) - 1) ∧ w64 ((op.length : Int) - 1) < (op.length : Int)) ∧ (op[(w64 ((op.length : Int) - 1)).toNat]? = some (Dat.agg [I p32, I v32])) ∧ (0 ≤ w64 ((op.length : Int) - 1) ∧ w64 ((op.length : Int) - 1) ≤ (op.length : Int)) ∧ (0 ≤ p32 ∧ p32 < (ds.length : Int)) ∧ (ds[p32.toNat]? = some (I x49)) ∧ (0 ≤ p32 ∧ p32 < (ds.length : Int)) ∧ (ds[p32.toNat]? = some (I x56)) ∧ (0 ≤ p32 ∧ p32 < (ds.length : Int)) ∧ (ds[p32.toNat]? = some (I x67)) ∧ (0 ≤ p32 ∧ p32 < (ds.length : Int)) ∧ (ds[p32.toNat]? = some (I x100074)) ∧ ((0 ≤ p32 ∧ p32 < (es.length : Int)) ∧ es[p32.toNat]? = some (Dat.agg [I c79.op, I c79.a, Dat.val (Value.string c79.t)])) ∧ (fD kk 23 [D.dat (Dat.agg [I c79.op, I c79.a, Dat.val (Value.string c79.t)]), D.dat (I p32), D.dat (I v32)] [D.own 50 e85_0, D.dat (B g85_1)]) ∧ ((e85_0.all fun d => d.cells.length.beq (TI.mk TK.struct 2 16 [(0, 3), (1, 3)] [D.dat (I 0), D.dat (I 0)]).sz) = true ∧ (List.take (w64 ((op.length : Int) - 1)).toNat op).length + e85_0.length ≤ 2147483648) ∧ (∀ s : St, s.norm (fN kk 11 Tryd.f11 6) = Nm [0, 6, 7] [D.dat (Dat.lst b es), D.own 3 (ds.set p32.toNat (I v32)), D.own 50 (List.take (w64 ((op.length : Int) - 1)).toNat op ++ e85_0)] [none, none, none] [] [] → fR kk 11 Tryd.f11 6 m s K)) (q6 : (tT (0 < (op.length : Int))) → (tF ((es.length : Int) ≤ p32)) → (tF (0 ≤ x49)) → (tT (0 ≤ x67)) → (0 ≤ w64 ((op.length : Int) - 1) ∧ w64 ((op.length : Int) - 1) < (op.length : Int)) ∧ (op[(w64 ((op.length : Int) - 1)).toNat]? = some (Dat.agg [I p32, I v32])) ∧ (0 ≤ w64 ((op.length : Int) - 1) ∧ w64 ((op.length : Int) - 1) ≤ (op.length : Int)) ∧ (0 ≤ p32 ∧ p32 < (ds.length : Int)) ∧ (ds[p32.toNat]? = some (I x49)) ∧ (0 ≤ p32 ∧ p32 < (ds.length : Int)) ∧ (ds[p32.toNat]? = some (I x67)) ∧ (∀ s : St, s.norm (fN kk 11 Tryd.f11 6) = Nm [0, 6, 7] [D.dat (Dat.lst b es), D.own 3 ds, D.own 50 (List.take (w64 ((op.length : Int) - 1)).toNat op)] [none, none, none] [] [] → fR kk 11 Tryd.f11 6 m s K)) (q7 : (tT (0 < (op.length : Int))) → (tF ((es.length : Int) ≤ p32)) → (tF (0 ≤ x49)) → (tF (0 ≤ x67)) → ((!g85_1) = true) → (0 ≤ w64 ((op.length : Int) - 1) ∧ w64 ((op.length : Int) - 1) < (op.length : Int)) ∧ (op[(w64 ((op.length : Int) - 1)).toNat]? = some (Dat.agg [I p32, I v32])) ∧ (0 ≤ w64 ((op.length : Int) - 1) ∧ w64 ((op.length : Int) - 1) ≤ (op.length : Int)) ∧ (0 ≤ p32 ∧ p32 < (ds.length : Int)) ∧ (ds[p32.toNat]? = some (I x49)) ∧ (0 ≤ p32 ∧ p32 < (ds.length : Int)) ∧ (ds[p32.toNat]? = some (I x67)) ∧ (0 ≤ p32 ∧ p32 < (ds.length : Int)) ∧ (ds[p32.toNat]? = some (I x100074)) ∧ ((0 ≤ p32 ∧ p32 < (es.length : Int)) ∧ es[p32.toNat]? = some (Dat.agg [I c79.op, I c79.a, Dat.val (Value.string c79.t)])) ∧ (fD kk 23 [D.dat (Dat.agg [I c79.op, I c79.a, Dat.val (Value.string c79.t)]), D.dat (I p32), D.dat (I v32)] [D.own 50 e85_0, D.dat (B g85_1)]) ∧ K (X.ret) (Nm [2, 3, 6] [D.own 3 [], D.dat (B false), D.own 3 (ds.set p32.toNat (I v32))] [none, none, none] [] [])) (q8 : (tT (0 < (op.length : Int))) → (tF ((es.length : Int) ≤ p32)) → (tF (0 ≤ x49)) → (tF (0 ≤ x67)) → ((!g85_1) = false) → (0 ≤ w64 ((op.length : Int) - 1) ∧ w64 ((op.length : Int) - 1) < (op.length : Int)) ∧ (op[(w64 ((op.length : Int) - 1)).toNat]? = some (Dat.agg [I p32, I v32])) ∧ (0 ≤ w64 ((op.length : Int) - 1) ∧ w64 ((op.length : Int) - 1) ≤ (op.length : Int)) ∧ (0 ≤ p32 ∧ p32 < (ds.length : Int)) ∧ (ds[p32.toNat]? = some (I x49)) ∧ (0 ≤ p32 ∧ p32 < (ds.length : Int)) ∧ (ds[p32.toNat]? = some (I x67)) ∧ (0 ≤ p32 ∧ p32 < (ds.length : Int)) ∧ (ds[p32.toNat]? = some (I x100074)) ∧ ((0 ≤ p32 ∧ p32 < (es.length : Int)) ∧ es[p32.toNat]? = some (Dat.agg [I c79.op, I c79.a, Dat.val (Value.string c79.t)])) ∧ (fD kk 23 [D.dat (Dat.agg [I c79.op, I c79.a, Dat.val (Value.string c79.t)]), D.dat (I p32), D.dat (I v32)] [D.own 50 e85_0, D.dat (B g85_1)]) ∧ ((e85_0.all fun d => d.cells.length.beq (TI.mk TK.struct 2 16 [(0, 3), (1, 3)] [D.dat (I 0), D.dat (I 0)]).sz) = true ∧ (List.take (w64 ((op.length : Int) - 1)).toNat op).length + e85_0.length ≤ 2147483648) ∧ (∀ s : St, s.norm (fN kk 11 Tryd.f11 6) = Nm [0, 6, 7] [D.dat (Dat.lst b es), D.own 3 (ds.set p32.toNat (I v32)), D.own 50 (List.take (w64 ((op.length : Int) - 1)).toNat op ++ e85_0)] [none, none, none] [] [] → fR kk 11 Tryd.f11 6 m s K)) (q9 : (tF (0 < (op.length : Int))) → K (X.exit 0) (Nm [2, 3, 6] [D.junk, D.junk, D.own 3 ds] [none, none, none] [] [])) : fR kk 11 Tryd.f11 6 (m + 1) s K := by
 rcases Bool.eq_false_or_eq_true (decide (0 < (op.length : Int))) with d1 | d1
 · rcases Bool.eq_false_or_eq_true (decide ((es.length : Int) ≤ p32)) with d5 | d5
   · obtain ⟨hz1, hz2, hz3, oz⟩ := q1 d1 d5
     exact zac [(31, .ok), (32, .at (Dat.agg [I p32, I v32])), (37, .ok), (48, .ok), (49, .at (I x49)), (55, .ok), (66, .ok), (56, .at (I x56)), (67, .at (I x67)), (74, .ok), (100074, .at (I x100074)), (79, .at (DIns c79)), (85, .ret [.own 50 e85_0, .dat (B g85_1)]), (92, .ok), (200026, .yes), (200044, .yes)] hs (by kernel_rfl) rfl (ob d1 (ob hz1 (ob hz2 (ob hz3 (ob d5 (ob rT (ob rT (ob rT (ob rT (ob rT (ob rT (ob rT ob0)))))))))))) (by kernel_rfl) oz
   · rcases Bool.eq_false_or_eq_true (decide (0 ≤ x49)) with d14 | d14
     · rcases Bool.eq_false_or_eq_true ((!decide (x56 = v32))) with d25 | d25
       · obtain ⟨hz1, hz2, hz3, hz4, hz5, hz6, hz7, oz⟩ := q2 d1 d5 d14 d25
         exact zac [(31, .ok), (32, .at (Dat.agg [I p32, I v32])), (37, .ok), (48, .ok), (49, .at (I x49)), (55, .ok), (66, .ok), (56, .at (I x56)), (67, .at (I x67)), (74, .ok), (100074, .at (I x100074)), (79, .at (DIns c79)), (85, .ret [.own 50 e85_0, .dat (B g85_1)]), (92, .ok), (200026, .yes), (200044, .no), (200051, .yes), (200038, .yes)] hs (by kernel_rfl) rfl (ob d1 (ob hz1 (ob hz2 (ob hz3 (ob d5 (ob rF (ob rF (ob rF (ob hz4 (ob rF (ob hz5 (ob rF (ob rF (ob d14 (ob rT (ob rT (ob rT (ob hz6 (ob rT (ob hz7 (ob rT (ob rT (ob rT (ob rF (ob d25 ob0))))))))))))))))))))))))) (by kernel_rfl) oz
       · rcases Bool.eq_false_or_eq_true (decide (0 ≤ x67)) with d28 | d28
         · obtain ⟨hz1, hz2, hz3, hz4, hz5, hz6, hz7, hz8, hz9, oz⟩ := q3 d1 d5 d14 d25 d28
           exact zah [(31, .ok), (32, .at (Dat.agg [I p32, I v32])), (37, .ok), (48, .ok), (49, .at (I x49)), (55, .ok), (66, .ok), (56, .at (I x56)), (67, .at (I x67)), (74, .ok), (100074, .at (I x100074)), (79, .at (DIns c79)), (85, .ret [.own 50 e85_0, .dat (B g85_1)]), (92, .ok), (200026, .yes), (200044, .no), (200051, .yes), (200038, .no), (200062, .yes)] hs (by kernel_rfl) (ob d1 (ob hz1 (ob hz2 (ob hz3 (ob d5 (ob rF (ob rF (ob rF (ob hz4 (ob rF (ob hz5 (ob rF (ob rF (ob d14 (ob rT (ob rT (ob rT (ob hz6 (ob rT (ob hz7 (ob rT (ob rT (ob rT (ob rF (ob d25 (ob hz8 (ob hz9 (ob d28 ob0)))))))))))))))))))))))))))) (by kernel_rfl) oz
         · rcases Bool.eq_false_or_eq_true ((!g85_1)) with d33 | d33
           · obtain ⟨hz1, hz2, hz3, hz4, hz5, hz6, hz7, hz8, hz9, hz10, hz11, hz12, hz13, oz⟩ := q4 d1 d5 d14 d25 d28 d33
             exact zac [(31, .ok), (32, .at (Dat.agg [I p32, I v32])), (37, .ok), (48, .ok), (49, .at (I x49)), (55, .ok), (66, .ok), (56, .at (I x56)), (67, .at (I x67)), (74, .ok), (100074, .at (I x100074)), (79, .at (DIns c79)), (85, .ret [.own 50 e85_0, .dat (B g85_1)]), (92, .ok), (200026, .yes), (200044, .no), (200051, .yes), (200038, .no), (200062, .no), (200089, .yes)] hs (by kernel_rfl) rfl (ob d1 (ob hz1 (ob hz2 (ob hz3 (ob d5 (ob rF (ob rF (ob rF (ob hz4 (ob rF (ob hz5 (ob rF (ob rF (ob d14 (ob rT (ob rT (ob rT (ob hz6 (ob rT (ob hz7 (ob rT (ob rT (ob rT (ob rF (ob d25 (ob hz8 (ob hz9 (ob d28 (ob hz10 (ob hz11 (ob hz12 (ob hz13 (ob d33 ob0))))))))))))))))))))))))))))))))) (by kernel_rfl) oz
           · obtain ⟨hz1, hz2, hz3, hz4, hz5, hz6, hz7, hz8, hz9, hz10, hz11, hz12, hz13, hz14, oz⟩ := q5 d1 d5 d14 d25 d28 d33
             exact zah [(31, .ok), (32, .at (Dat.agg [I p32, I v32])), (37, .ok), (48, .ok), (49, .at (I x49)), (55, .ok), (66, .ok), (56, .at (I x56)), (67, .at (I x67)), (74, .ok), (100074, .at (I x100074)), (79, .at (DIns c79)), (85, .ret [.own 50 e85_0, .dat (B g85_1)]), (92, .ok), (200026, .yes), (200044, .no), (200051, .yes), (200038, .no), (200062, .no), (200089, .no)] hs (by kernel_rfl) (ob d1 (ob hz1 (ob hz2 (ob hz3 (ob d5 (ob rF (ob rF (ob rF (ob hz4 (ob rF (ob hz5 (ob rF (ob rF (ob d14 (ob rT (ob rT (ob rT (ob hz6 (ob rT (ob hz7 (ob rT (ob rT (ob rT (ob rF (ob d25 (ob hz8 (ob hz9 (ob d28 (ob hz10 (ob hz11 (ob hz12 (ob hz13 (ob d33 (ob hz14 ob0)))))))))))))))))))))))))))))))))) (by kernel_rfl) oz
     · rcases Bool.eq_false_or_eq_true (decide (0 ≤ x67)) with d25 | d25
       · obtain ⟨hz1, hz2, hz3, hz4, hz5, hz6, hz7, oz⟩ := q6 d1 d5 d14 d25
         exact zah [(31, .ok), (32, .at (Dat.agg [I p32, I v32])), (37, .ok), (48, .ok), (49, .at (I x49)), (55, .ok), (66, .ok), (56, .at (I x56)), (67, .at (I x67)), (74, .ok), (100074, .at (I x100074)), (79, .at (DIns c79)), (85, .ret [.own 50 e85_0, .dat (B g85_1)]), (92, .ok), (200026, .yes), (200044, .no), (200051, .no), (200062, .yes)] hs (by kernel_rfl) (ob d1 (ob hz1 (ob hz2 (ob hz3 (ob d5 (ob rF (ob rF (ob rF (ob hz4 (ob rF (ob hz5 (ob rF (ob rF (ob d14 (ob rF (ob rF (ob rF (ob rF (ob rF (ob rF (ob rF (ob rF (ob hz6 (ob hz7 (ob d25 ob0))))))))))))))))))))))))) (by kernel_rfl) oz
       · rcases Bool.eq_false_or_eq_true ((!g85_1)) with d30 | d30
         · obtain ⟨hz1, hz2, hz3, hz4, hz5, hz6, hz7, hz8, hz9, hz10, hz11, oz⟩ := q7 d1 d5 d14 d25 d30
           exact zac [(31, .ok), (32, .at (Dat.agg [I p32, I v32])), (37, .ok), (48, .ok), (49, .at (I x49)), (55, .ok), (66, .ok), (56, .at (I x56)), (67, .at (I x67)), (74, .ok), (100074, .at (I x100074)), (79, .at (DIns c79)), (85, .ret [.own 50 e85_0, .dat (B g85_1)]), (92, .ok), (200026, .yes), (200044, .no), (200051, .no), (200062, .no), (200089, .yes)] hs (by kernel_rfl) rfl (ob d1 (ob hz1 (ob hz2 (ob hz3 (ob d5 (ob rF (ob rF (ob rF (ob hz4 (ob rF (ob hz5 (ob rF (ob rF (ob d14 (ob rF (ob rF (ob rF (ob rF (ob rF (ob rF (ob rF (ob rF (ob hz6 (ob hz7 (ob d25 (ob hz8 (ob hz9 (ob hz10 (ob hz11 (ob d30 ob0)))))))))))))))))))))))))))))) (by kernel_rfl) oz
         · obtain ⟨hz1, hz2, hz3, hz4, hz5, hz6, hz7, hz8, hz9, hz10, hz11, hz12, oz⟩ := q8 d1 d5 d14 d25 d30
           exact zah [(31, .ok), (32, .at (Dat.agg [I p32, I v32])), (37, .ok), (48, .ok), (49, .at (I x49)), (55, .ok), (66, .ok), (56, .at (I x56)), (67, .at (I x67)), (74, .ok), (100074, .at (I x100074)), (79, .at (DIns c79)), (85, .ret [.own 50 e85_0, .dat (B g85_1)]), (92, .ok), (200026, .yes), (200044, .no), (200051, .no), (200062, .no), (200089, .no)] hs (by kernel_rfl) (ob d1 (ob hz1 (ob hz2 (ob hz3 (ob d5 (ob rF (ob rF (ob rF (ob hz4 (ob rF (ob hz5 (ob rF (ob rF (ob d14 (ob rF (ob rF (ob rF (ob rF (ob rF (ob rF (ob rF (ob rF (ob hz6 (ob hz7 (ob d25 (ob hz8 (ob hz9 (ob hz10 (ob hz11 (ob d30 (ob hz12 ob0))))))))))))))))))))))))))))))) (by kernel_rfl) oz
 · have oz := q9 d1
   exact zac [(31, .ok), (32, .at (Dat.agg [I p32, I v32])), (37, .ok), (48, .ok), (49, .at (I x49)), (55, .ok), (66, .ok), (56, .at (I x56)), (67, .at (I x67)), (74, .ok), (100074, .at (I x100074)), (79, .at (DIns c79)), (85, .ret [.own 50 e85_0, .dat (B g85_1)]), (92, .ok), (200026, .no)] hs (by kernel_rfl) rfl (ob d1 ob0) (by kernel_rfl) oz
theorem zlP (kk : Nat) (b : Bool) (es : List Dat) (ds ds1 : List Dat) (s13_0 : ByteArray) (g13_1 : Bool) {r : Res} (q1 : ((!g13_1) = true) → (fD kk 19 [D.dat (Dat.lst b es)] [D.dat (Dat.val (Value.string s13_0)), D.dat (B g13_1)]) ∧ r = ([D.own 3 [], D.dat (B false)], [], [])) (q2 : ((!g13_1) = false) → (fD kk 19 [D.dat (Dat.lst b es)] [D.dat (Dat.val (Value.string s13_0)), D.dat (B g13_1)]) ∧ (D.cleans [D.own 3 ds] = true) ∧ (fD kk 22 [D.dat (Dat.lst true [I (-1)]), D.dat (I (es.length : Int))] [D.own 3 ds]) ∧ (zav cfg kk 11 Tryd.f11 6 (hd11 b es ds [Dat.agg [I 0, I 0]]) (X.exit 0) (Nm [2, 3, 6] [D.junk, D.junk, D.own 3 ds1] [none, none, none] [] [])) ∧ r = ([D.own 3 ds1, D.dat (B true)], [], [])) : zaF cfg kk (den cfg kk) 11 Tryd.f11 [.dat (Dat.lst b es)] [] [] = some r := by
 rcases Bool.eq_false_or_eq_true ((!g13_1)) with d2 | d2
 · obtain ⟨hz1, oz⟩ := q1 d2
   subst oz; exact zab [(21, .ret [.own 3 ds]), (300006, .loop (hd11 b es ds [Dat.agg [I 0, I 0]]) (.exit 0) (Nm [2, 3, 6] [.junk, .junk, .own 3 ds1] [none, none, none] [] [])), (13, .ret [.dat (S s13_0), .dat (B g13_1)]), (200017, .yes)] (ob hz1 (ob d2 ob0)) (by kernel_rfl)
 · obtain ⟨hz1, hz2, hz3, hz4, oz⟩ := q2 d2
   subst oz; exact zab [(21, .ret [.own 3 ds]), (300006, .loop (hd11 b es ds [Dat.agg [I 0, I 0]]) (.exit 0) (Nm [2, 3, 6] [.junk, .junk, .own 3 ds1] [none, none, none] [] [])), (13, .ret [.dat (S s13_0), .dat (B g13_1)]), (200017, .no)] (ob hz1 (ob d2 (ob hz2 (ob hz3 (ob (rfl : _ = hd11 b es ds [Dat.agg [I 0, I 0]]) (ob hz4 ob0)))))) (by kernel_rfl)
theorem znc (kk : Nat) (b : Bool) (es : List Dat) (ds ds1 : List Dat) (s13_0 : ByteArray) (g13_1 : Bool) {r : Res} (q1 : ((!g13_1) = true) → (fD kk 19 [D.dat (Dat.lst b es)] [D.dat (Dat.val (Value.string s13_0)), D.dat (B g13_1)]) ∧ r = ([D.own 3 [], D.dat (B false)], [], [])) (q2 : ((!g13_1) = false) → (fD kk 19 [D.dat (Dat.lst b es)] [D.dat (Dat.val (Value.string s13_0)), D.dat (B g13_1)]) ∧ (D.cleans [D.own 3 ds] = true) ∧ (fD kk 22 [D.dat (Dat.lst true [I (-1)]), D.dat (I (es.length : Int))] [D.own 3 ds]) ∧ (zav cfg kk 11 Tryd.f11 6 (hd11 b es ds [Dat.agg [I 0, I 0]]) X.ret (Nm [2, 3, 6] [D.own 3 [], D.dat (B false), D.own 3 ds1] [none, none, none] [] [])) ∧ r = ([D.own 3 [], D.dat (B false)], [], [])) : zaF cfg kk (den cfg kk) 11 Tryd.f11 [.dat (Dat.lst b es)] [] [] = some r := by
 rcases Bool.eq_false_or_eq_true ((!g13_1)) with d2 | d2
 · obtain ⟨hz1, oz⟩ := q1 d2
   subst oz; exact zab [(21, .ret [.own 3 ds]), (300006, .loop (hd11 b es ds [Dat.agg [I 0, I 0]]) .ret (Nm [2, 3, 6] [.own 3 [], .dat (B false), .own 3 ds1] [none, none, none] [] [])), (13, .ret [.dat (S s13_0), .dat (B g13_1)]), (200017, .yes)] (ob hz1 (ob d2 ob0)) (by kernel_rfl)
 · obtain ⟨hz1, hz2, hz3, hz4, oz⟩ := q2 d2
   subst oz; exact zab [(21, .ret [.own 3 ds]), (300006, .loop (hd11 b es ds [Dat.agg [I 0, I 0]]) .ret (Nm [2, 3, 6] [.own 3 [], .dat (B false), .own 3 ds1] [none, none, none] [] [])), (13, .ret [.dat (S s13_0), .dat (B g13_1)]), (200017, .no)] (ob hz1 (ob d2 (ob hz2 (ob hz3 (ob (rfl : _ = hd11 b es ds [Dat.agg [I 0, I 0]]) (ob hz4 ob0)))))) (by kernel_rfl)
def hd13 (es : List Dat) (k i : Int) : St := Nm [0, 1, 5] [.bor (.lent 0) none, .dat (I k), .dat (I i)] [none, none, none] [] [some (41, es)]
theorem zkv (kk m : Nat) {s : St} {K : X → St → Prop} (es : List Dat) (k i : Int) (c100016 : In) (c100023 : In) (s29 : ByteArray) (c100031 : In) (hs : s.norm (fN kk 13 Tryd.f13 2) = hd13 es k i) (q1 : (tT (i < (es.length : Int))) → (0 ≤ i ∧ i < (es.length : Int)) ∧ (es[i.toNat]? = some (Dat.agg [I c100016.op, I c100016.a, Dat.val (Value.string c100016.t)])) ∧ (0 ≤ i ∧ i < ((es.set i.toNat (Dat.agg [I k, I c100016.a, Dat.val (Value.string c100016.t)])).length : Int)) ∧ ((es.set i.toNat (Dat.agg [I k, I c100016.a, Dat.val (Value.string c100016.t)]))[i.toNat]? = some (Dat.agg [I c100023.op, I c100023.a, Dat.val (Value.string c100023.t)])) ∧ (fD kk 24 [D.dat (I (w64 (w64 (k + 1) + 1)))] [D.dat (Dat.val (Value.string s29))]) ∧ (0 ≤ i ∧ i < (((es.set i.toNat (Dat.agg [I k, I c100016.a, Dat.val (Value.string c100016.t)])).set i.toNat (Dat.agg [I c100023.op, I (w64 (k + 1)), Dat.val (Value.string c100023.t)])).length : Int)) ∧ (((es.set i.toNat (Dat.agg [I k, I c100016.a, Dat.val (Value.string c100016.t)])).set i.toNat (Dat.agg [I c100023.op, I (w64 (k + 1)), Dat.val (Value.string c100023.t)]))[i.toNat]? = some (Dat.agg [I c100031.op, I c100031.a, Dat.val (Value.string c100031.t)])) ∧ (∀ s : St, s.norm (fN kk 13 Tryd.f13 2) = Nm [0, 1, 5] [D.bor (Pl.lent 0) none, D.dat (Dat.val (Value.int IntKind.i64 (w64 (w64 (w64 (k + 1) + 1) + 1)))), D.dat (I (w64 (i + 1)))] [none, none, none] [] [some (41, ((es.set i.toNat (Dat.agg [I k, I c100016.a, Dat.val (Value.string c100016.t)])).set i.toNat (Dat.agg [I c100023.op, I (w64 (k + 1)), Dat.val (Value.string c100023.t)])).set i.toNat (Dat.agg [I c100031.op, I c100031.a, Dat.val (Value.string s29)]))] → fR kk 13 Tryd.f13 2 m s K)) (q2 : (tF (i < (es.length : Int))) → K (X.exit 0) (Nm [1] [D.dat (I k)] [none] [] [some (41, es)])) : fR kk 13 Tryd.f13 2 (m + 1) s K := by
 rcases Bool.eq_false_or_eq_true (decide (i < (es.length : Int))) with d1 | d1
 · obtain ⟨hz1, hz2, hz3, hz4, hz5, hz6, hz7, oz⟩ := q1 d1
   exact zah [(15, .ok), (100016, .at (DIns c100016)), (22, .ok), (100023, .at (DIns c100023)), (29, .ret [.dat (S s29)]), (30, .ok), (100031, .at (DIns c100031)), (200009, .yes)] hs (by kernel_rfl) (ob d1 (ob hz1 (ob hz2 (ob hz3 (ob hz4 (ob hz5 (ob hz6 (ob hz7 ob0)))))))) (by kernel_rfl) oz
 · have oz := q2 d1
   exact zac [(15, .ok), (100016, .at (DIns c100016)), (22, .ok), (100023, .at (DIns c100023)), (29, .ret [.dat (S s29)]), (30, .ok), (100031, .at (DIns c100031)), (200009, .no)] hs (by kernel_rfl) rfl (ob d1 ob0) (by kernel_rfl) oz
theorem markI (kk : Nat) (es es' : List Dat) (k k' : Int) {r : Res} (q1 : (zav cfg kk 13 Tryd.f13 2 (hd13 es k 0) (X.exit 0) (Nm [1] [D.dat (I k')] [none] [] [some (41, es')])) ∧ r = ([D.dat (I k')], [], [some (41, es')])) : zaF cfg kk (den cfg kk) 13 Tryd.f13 [.bor (.lent 0) none, .dat (I k)] [] [some (41, es)] = some r := by
 obtain ⟨hz1, oz⟩ := q1
 subst oz; exact zab [(300002, .loop (hd13 es k 0) (.exit 0) (Nm [1] [.dat (I k')] [none] [] [some (41, es')]))] (ob (rfl : _ = hd13 es k 0) (ob hz1 ob0)) (by kernel_rfl)
def hd14 (es : List Dat) (k i : Int) : St := Nm [0, 1, 5] [.bor (.lent 0) none, .dat (I k), .dat (I i)] [none, none, none] [] [some (3, es)]
theorem zkm (kk m : Nat) {s : St} {K : X → St → Prop} (es : List Dat) (k i : Int) (x100015 : Int) (hs : s.norm (fN kk 14 Tryd.f14 2) = hd14 es k i) (q1 : (tT (i < (es.length : Int))) → (0 ≤ i ∧ i < (es.length : Int)) ∧ (es[i.toNat]? = some (I x100015)) ∧ (∀ s : St, s.norm (fN kk 14 Tryd.f14 2) = Nm [0, 1, 5] [D.bor (Pl.lent 0) none, D.dat (I (w64 (k + 1))), D.dat (I (w64 (i + 1)))] [none, none, none] [] [some (3, es.set i.toNat (I k))] → fR kk 14 Tryd.f14 2 m s K)) (q2 : (tF (i < (es.length : Int))) → K (X.exit 0) (Nm [1] [D.dat (I k)] [none] [] [some (3, es)])) : fR kk 14 Tryd.f14 2 (m + 1) s K := by
 rcases Bool.eq_false_or_eq_true (decide (i < (es.length : Int))) with d1 | d1
 · obtain ⟨hz1, hz2, oz⟩ := q1 d1
   exact zah [(15, .ok), (100015, .at (I x100015)), (200009, .yes)] hs (by kernel_rfl) (ob d1 (ob hz1 (ob hz2 ob0))) (by kernel_rfl) oz
 · have oz := q2 d1
   exact zac [(15, .ok), (100015, .at (I x100015)), (200009, .no)] hs (by kernel_rfl) rfl (ob d1 ob0) (by kernel_rfl) oz
theorem markZ (kk : Nat) (es es' : List Dat) (k k' : Int) {r : Res} (q1 : (zav cfg kk 14 Tryd.f14 2 (hd14 es k 0) (X.exit 0) (Nm [1] [D.dat (I k')] [none] [] [some (3, es')])) ∧ r = ([D.dat (I k')], [], [some (3, es')])) : zaF cfg kk (den cfg kk) 14 Tryd.f14 [.bor (.lent 0) none, .dat (I k)] [] [some (3, es)] = some r := by
 obtain ⟨hz1, oz⟩ := q1
 subst oz; exact zab [(300002, .loop (hd14 es k 0) (.exit 0) (Nm [1] [.dat (I k')] [none] [] [some (3, es')]))] (ob (rfl : _ = hd14 es k 0) (ob hz1 ob0)) (by kernel_rfl)
def hd15 (b : Bool) (es : List Dat) (k i : Int) : St := Nm [0, 1, 5] [.dat (.lst b es), .dat (I k), .dat (I i)] [none, none, none] [] []
theorem zj6 (kk m : Nat) {s : St} {K : X → St → Prop} (b : Bool) (es : List Dat) (k i : Int) (x14 : Int) (hs : s.norm (fN kk 15 Tryd.f15 2) = hd15 b es k i) (q1 : (tT (i < (es.length : Int))) → ((!decide (x14 = k)) = true) → ((0 ≤ i ∧ i < (es.length : Int)) ∧ es[i.toNat]? = some (I x14)) ∧ K (X.ret) (Nm [1, 4] [D.dat (I k), D.dat (I (-1))] [none, none] [] [])) (q2 : (tT (i < (es.length : Int))) → ((!decide (x14 = k)) = false) → ((0 ≤ i ∧ i < (es.length : Int)) ∧ es[i.toNat]? = some (I x14)) ∧ (∀ s : St, s.norm (fN kk 15 Tryd.f15 2) = Nm [0, 1, 5] [D.dat (Dat.lst b es), D.dat (I (w64 (k + 1))), D.dat (I (w64 (i + 1)))] [none, none, none] [] [] → fR kk 15 Tryd.f15 2 m s K)) (q3 : (tF (i < (es.length : Int))) → K (X.exit 0) (Nm [1, 4] [D.dat (I k), D.junk] [none, none] [] [])) : fR kk 15 Tryd.f15 2 (m + 1) s K := by
 rcases Bool.eq_false_or_eq_true (decide (i < (es.length : Int))) with d1 | d1
 · rcases Bool.eq_false_or_eq_true ((!decide (x14 = k))) with d3 | d3
   · obtain ⟨hz1, oz⟩ := q1 d1 d3
     exact zac [(14, .at (I x14)), (200009, .yes), (200017, .yes)] hs (by kernel_rfl) rfl (ob d1 (ob hz1 (ob d3 ob0))) (by kernel_rfl) oz
   · obtain ⟨hz1, oz⟩ := q2 d1 d3
     exact zah [(14, .at (I x14)), (200009, .yes), (200017, .no)] hs (by kernel_rfl) (ob d1 (ob hz1 (ob d3 ob0))) (by kernel_rfl) oz
 · have oz := q3 d1
   exact zac [(14, .at (I x14)), (200009, .no)] hs (by kernel_rfl) rfl (ob d1 ob0) (by kernel_rfl) oz
theorem heldZ (kk : Nat) (b : Bool) (es : List Dat) (k k' : Int) {r : Res} (q1 : (zav cfg kk 15 Tryd.f15 2 (hd15 b es k 0) (X.exit 0) (Nm [1, 4] [D.dat (I k'), D.junk] [none, none] [] [])) ∧ r = ([D.dat (I k')], [], [])) : zaF cfg kk (den cfg kk) 15 Tryd.f15 [.dat (Dat.lst b es), .dat (I k)] [] [] = some r := by
 obtain ⟨hz1, oz⟩ := q1
 subst oz; exact zab [(300002, .loop (hd15 b es k 0) (.exit 0) (Nm [1, 4] [.dat (I k'), .junk] [none, none] [] []))] (ob (rfl : _ = hd15 b es k 0) (ob hz1 ob0)) (by kernel_rfl)
def hdq (b1 b2 : Bool) (xs ys : List Dat) (i : Int) : St := Nm [0, 1, 5] [.dat (.lst b1 xs), .dat (.lst b2 ys), .dat (I i)] [none, none, none] [] []
theorem zm3 (kk m : Nat) {s : St} {K : X → St → Prop} (b1 b2 : Bool) (xs ys : List Dat) (i : Int) (x19 : Int) (x23 : Int) (hs : s.norm (fN kk 12 Tryd.f12 4) = hdq b1 b2 xs ys i) (q1 : (tT (i < (xs.length : Int))) → ((!decide (x19 = x23)) = true) → ((0 ≤ i ∧ i < (xs.length : Int)) ∧ xs[i.toNat]? = some (I x19)) ∧ ((0 ≤ i ∧ i < (ys.length : Int)) ∧ ys[i.toNat]? = some (I x23)) ∧ K (X.ret) (Nm [4] [D.dat (B false)] [none] [] [])) (q2 : (tT (i < (xs.length : Int))) → ((!decide (x19 = x23)) = false) → ((0 ≤ i ∧ i < (xs.length : Int)) ∧ xs[i.toNat]? = some (I x19)) ∧ ((0 ≤ i ∧ i < (ys.length : Int)) ∧ ys[i.toNat]? = some (I x23)) ∧ (∀ s : St, s.norm (fN kk 12 Tryd.f12 4) = Nm [0, 1, 5] [D.dat (Dat.lst b1 xs), D.dat (Dat.lst b2 ys), D.dat (I (w64 (i + 1)))] [none, none, none] [] [] → fR kk 12 Tryd.f12 4 m s K)) (q3 : (tF (i < (xs.length : Int))) → K (X.exit 0) (Nm [4] [D.junk] [none] [] [])) : fR kk 12 Tryd.f12 4 (m + 1) s K := by
 rcases Bool.eq_false_or_eq_true (decide (i < (xs.length : Int))) with d1 | d1
 · rcases Bool.eq_false_or_eq_true ((!decide (x19 = x23))) with d4 | d4
   · obtain ⟨hz1, hz2, oz⟩ := q1 d1 d4
     exact zac [(19, .at (I x19)), (23, .at (I x23)), (200014, .yes), (200025, .yes)] hs (by kernel_rfl) rfl (ob d1 (ob hz1 (ob hz2 (ob d4 ob0)))) (by kernel_rfl) oz
   · obtain ⟨hz1, hz2, oz⟩ := q2 d1 d4
     exact zah [(19, .at (I x19)), (23, .at (I x23)), (200014, .yes), (200025, .no)] hs (by kernel_rfl) (ob d1 (ob hz1 (ob hz2 (ob d4 ob0)))) (by kernel_rfl) oz
 · have oz := q3 d1
   exact zac [(19, .at (I x19)), (23, .at (I x23)), (200014, .no)] hs (by kernel_rfl) rfl (ob d1 ob0) (by kernel_rfl) oz
theorem eqZ_y (kk : Nat) (b1 b2 : Bool) (xs ys : List Dat) {r : Res} (q1 : ((!decide ((xs.length : Int) = (ys.length : Int))) = true) → r = ([D.dat (B false)], [], [])) (q2 : ((!decide ((xs.length : Int) = (ys.length : Int))) = false) → (zav cfg kk 12 Tryd.f12 4 (hdq b1 b2 xs ys 0) (X.exit 0) (Nm [4] [D.junk] [none] [] [])) ∧ r = ([D.dat (B true)], [], [])) : zaF cfg kk (den cfg kk) 12 Tryd.f12 [.dat (Dat.lst b1 xs), .dat (Dat.lst b2 ys)] [] [] = some r := by
 rcases Bool.eq_false_or_eq_true ((!decide ((xs.length : Int) = (ys.length : Int)))) with d1 | d1
 · have oz := q1 d1
   subst oz; exact zab [(300004, .loop (hdq b1 b2 xs ys 0) (.exit 0) (Nm [4] [.junk] [none] [] [])), (200010, .yes)] (ob d1 ob0) (by kernel_rfl)
 · obtain ⟨hz1, oz⟩ := q2 d1
   subst oz; exact zab [(300004, .loop (hdq b1 b2 xs ys 0) (.exit 0) (Nm [4] [.junk] [none] [] [])), (200010, .no)] (ob d1 (ob (rfl : _ = hdq b1 b2 xs ys 0) (ob hz1 ob0))) (by kernel_rfl)
def hd24 (k : Int) (tx : ByteArray) : St := Nm [0, 3] [.dat (I k), .dat (S tx)] [none, none] [] []
theorem znl (kk m : Nat) {s : St} {K : X → St → Prop} (k : Int) (tx : ByteArray) (hs : s.norm (fN kk 24 Tryd.f24 4) = hd24 k tx) (q1 : (tT (0 < k)) → (1 + tx.size ≤ 9223372036854775807) ∧ (∀ s : St, s.norm (fN kk 24 Tryd.f24 4) = Nm [0, 3] [D.dat (I (w64 (k.tdiv 10))), D.dat (Dat.val (Value.string (ByteArray.mk ((fun x => UInt8.ofNat (IntKind.u8.wrap (w64 (48 + k.tmod 10))).toNat :: x) []).toArray ++ tx)))] [none, none] [] [] → fR kk 24 Tryd.f24 4 m s K)) (q2 : (tF (0 < k)) → K (X.exit 0) (Nm [3] [D.dat (Dat.val (Value.string tx))] [none] [] [])) : fR kk 24 Tryd.f24 4 (m + 1) s K := by
 rcases Bool.eq_false_or_eq_true (decide (0 < k)) with d1 | d1
 · obtain ⟨hz1, oz⟩ := q1 d1
   exact zah [(15, .ok), (200007, .yes)] hs (by kernel_rfl) (ob d1 (ob hz1 ob0)) (by kernel_rfl) oz
 · have oz := q2 d1
   exact zac [(15, .ok), (200007, .no)] hs (by kernel_rfl) rfl (ob d1 ob0) (by kernel_rfl) oz
theorem mkT (kk : Nat) (k : Int) (tx : ByteArray) {r : Res} (q1 : (tT (k ≤ 0)) → r = ([D.dat (Dat.val (Value.string (ByteArray.mk #[109, 48])))], [], [])) (q2 : (tF (k ≤ 0)) → (zav cfg kk 24 Tryd.f24 4 (hd24 k ByteArray.empty) (X.exit 0) (Nm [3] [D.dat (Dat.val (Value.string tx))] [none] [] [])) ∧ (1 + tx.size ≤ 9223372036854775807) ∧ r = ([D.dat (Dat.val (Value.string (ByteArray.mk #[109] ++ tx)))], [], [])) : zaF cfg kk (den cfg kk) 24 Tryd.f24 [.dat (I k)] [] [] = some r := by
 rcases Bool.eq_false_or_eq_true (decide (k ≤ 0)) with d1 | d1
 · have oz := q1 d1
   subst oz; exact zab [(300004, .loop (hd24 k ByteArray.empty) (.exit 0) (Nm [3] [.dat (S tx)] [none] [] [])), (19, .ok), (200005, .yes)] (ob d1 ob0) (by kernel_rfl)
 · obtain ⟨hz1, hz2, oz⟩ := q2 d1
   subst oz; exact zab [(300004, .loop (hd24 k ByteArray.empty) (.exit 0) (Nm [3] [.dat (S tx)] [none] [] [])), (19, .ok), (200005, .no)] (ob d1 (ob (rfl : _ = hd24 k ByteArray.empty) (ob hz1 (ob hz2 ob0)))) (by kernel_rfl)
theorem zlZ (kk : Nat) (b : Bool) (es : List Dat) (z : Int) (h1 : fD kk 5 [D.dat (Dat.lst b es), D.dat (I 1048576)] [D.dat (I z)]) (h2 : decide (z < 0) = true) : zaF cfg kk (den cfg kk) 4 Tryd.f4 [.dat (Dat.lst b es)] [] [] = some ([D.dat (B true)], [], []) :=
 zab [(16, .ret [.dat (I z)]), (200018, .yes)] (ob h1 (ob h2 ob0)) (by kernel_rfl)
theorem law4 (kk : Nat) (b : Bool) (es e1 e2 e3 e4 e5 w0 g0 h0 g1 : List Dat) (z k1 k2 : Int) (g : Bool) (h1 : fD kk 5 [D.dat (Dat.lst b es), D.dat (I 1048576)] [D.dat (I z)]) (h2 : decide (z < 0) = false) (h3 : fD kk 7 [D.dat (Dat.lst b es)] [D.own 41 e1]) (h4 : D.cleans [D.own 3 w0, D.dat (B g)] = true) (h5 : fD kk 10 [D.dat (Dat.lst true e1)] [D.own 3 w0, D.dat (B g)]) (h6 : fD kk 7 [D.dat (Dat.lst b es)] [D.own 41 e2]) (h7 : D.cleans [D.own 3 g0, D.dat (B g)] = true) (h8 : fD kk 11 [D.dat (Dat.lst true e2)] [D.own 3 g0, D.dat (B g)]) (h10 : fD kk 12 [D.dat (Dat.lst true g0), D.dat (Dat.lst true w0)] [D.dat (B true)]) (h11 : (!g == g) = false) (h12 : fD kk 7 [D.dat (Dat.lst b es)] [D.own 41 e3]) (h14 : fD kk 9 [D.dat (Dat.lst true e2), D.dat (Dat.lst true e3)] [D.dat (B true)]) (h16 : den cfg kk 13 [D.bor (Pl.lent 0) none, D.dat (I 1)] [] [some (41, e2)] = some ([D.dat (I k1)], [], [some (41, e4)])) (h18 : decide (k1 < 0) = false) (h22 : fD kk 12 [D.dat (Dat.lst true g0), D.dat (Dat.lst true w0)] [D.dat (B true)]) (h24 : (!g == g) = false) (h25 : den cfg kk 14 [D.bor (Pl.lent 0) none, D.dat (I 1)] [] [some (3, g0)] = some ([D.dat (I k2)], [], [some (3, g1)])) (h28 : fD kk 15 [D.dat (Dat.lst true g1), D.dat (I 1)] [D.dat (I k2)]) (h29 : decide (k2 < 0) = false) (h30 : (!decide (k2 = k2)) = false) (h31 : fD kk 7 [D.dat (Dat.lst b es)] [D.own 41 e5]) (h32 : D.cleans [D.own 3 h0, D.dat (B g)] = true) (h33 : fD kk 11 [D.dat (Dat.lst true e5)] [D.own 3 h0, D.dat (B g)]) (h35 : fD kk 12 [D.dat (Dat.lst true h0), D.dat (Dat.lst true w0)] [D.dat (B true)]) (h36 : (!g == g) = false) (h38 : fD kk 15 [D.dat (Dat.lst true g1), D.dat (I 1)] [D.dat (I k2)]) (h39 : decide (k2 < 0) = false) (h40 : (!decide (k2 = k2)) = false) : zaF cfg kk (den cfg kk) 4 Tryd.f4 [.dat (Dat.lst b es)] [] [] = some ([D.dat (B true)], [], []) :=
 zab [(16, .ret [.dat (I z)]), (200018, .no), (21, .ret [.own 41 e1]), (22, .ret [.own 3 w0, .dat (B g)]), (26, .ret [.own 41 e2]), (29, .ret [.own 3 g0, .dat (B g)]), (34, .ret [.dat (B true)]), (200040, .no), (43, .ret [.own 41 e3]), (44, .ret [.dat (B true)]), (200045, .no), (48, .back [.dat (I k1)] [] [some (41, e4)]), (200051, .no), (54, .ret [.dat (B true)]), (200061, .no), (64, .back [.dat (I k2)] [] [some (3, g1)]), (67, .ret [.dat (I k2)]), (200069, .no), (200072, .no), (75, .ret [.own 41 e5]), (76, .ret [.own 3 h0, .dat (B g)]), (81, .ret [.dat (B true)]), (200087, .no), (90, .ret [.dat (I k2)]), (200092, .no), (200095, .no)] (ob h1 (ob h2 (ob h3 (ob h4 (ob h5 (ob h6 (ob h7 (ob h8 (ob rT (ob h10 (ob h11 (ob h12 (ob rT (ob h14 (ob rF (ob h16 (ob rF (ob h18 (ob rF (ob rF (ob rT (ob h22 (ob rF (ob h24 (ob h25 (ob rF (ob rT (ob h28 (ob h29 (ob h30 (ob h31 (ob h32 (ob h33 (ob rT (ob h35 (ob h36 (ob rT (ob h38 (ob h39 (ob h40 ob0)))))))))))))))))))))))))))))))))))))))) (by kernel_rfl)
end Go.Den
namespace Go.Den
open Go.Proofs
open Go
set_option linter.unusedVariables false
set_option maxRecDepth 100000
open Go.Proofs.YtmoocdlfclhgcaaDoor (num numV okI okT zdN zeS zc0 zdz)
theorem ih {α : Type} {es : List α} {i : Nat} {d : α} (h : es[i]? = some d) : (0 ≤ (i : Int) ∧ (i : Int) < (es.length : Int)) ∧ es[((i : Int)).toNat]? = some d := by
 have hlt := (List.getElem?_eq_some_iff.1 h).1
 refine ⟨⟨by omega, by omega⟩, ?_⟩
 rw [Int.toNat_natCast]
 exact h
theorem gm {α : Type} {L : List α} {f : α → Dat} {i : Nat} {x : α} (h : L[i]? = some x) : (L.map f)[i]? = some (f x) := by rw [List.getElem?_map, h]; rfl
theorem wi (i : Nat) (h : i ≤ 1048576) : w64 ((i : Int) + 1) = ((i + 1 : Nat) : Int) := by rw [za5 (by omega)]; rfl
theorem zeb {α : Type} {L : List α} {i : Nat} (h : i < L.length) : ∃ x, L[i]? = some x := ⟨_, List.getElem?_eq_getElem h⟩
theorem zkk {f : Nat} {g : List D → List (List D) → List (Option Row) → Option Res} {args : List D} {u : List (List D)} {l : List (Option Row)} {r : Res} (hx : cfg.ext f = some g) (h : g args u l = some r) : EvN 1 f args u l r := fun k hk => by
 obtain ⟨m, rfl⟩ : ∃ m, k = m + 1 := ⟨k - 1, by omega⟩
 simp only [den, hx, Option.bind_some, h]
def In64 (n : Int) : Prop := -9223372036854775808 ≤ n ∧ n ≤ 9223372036854775807
theorem zmq {n : Int} (h : In64 n) : zfS numV [.dat (I n)] [] [] = some ([.dat (S (num n))], [], []) := by
 have : numV [.int .i64 n] = some [.string (num n)] := by show (if -9223372036854775808 ≤ n ∧ n ≤ 9223372036854775807 then some [Value.string (num n)] else none) = _; exact if_pos h
 show (zhy [.dat (I n)]).bind (fun vs => (numV vs).map fun rs => (rs.map DV, [], [])) = _
 show (numV [.int .i64 n]).map (fun rs => (rs.map DV, ([] : List (List D)), ([] : List (Option Row)))) = _
 rw [this]
 rfl
theorem zlQ {n : Int} (h : In64 n) : EvN 1 35 [.dat (I n)] [] [] ([.dat (S (num n))], [], []) := zkk (by kernel_rfl) (zmq h)
theorem zgr (b : Bool) (L : List In) : EvN 1 19 [.dat (.lst b (L.map DIns))] [] [] ([.dat (S (zdN L)), .dat (B (okT L))], [], []) :=
 zkk (g := zk1) (by kernel_rfl) (by
  show ((zeH (L.map DIns)).bind fun l => some ([.string (zdN l), .bool (okT l)].map DV, [], [])) = _
  rw [zf7]
  rfl)
theorem zmg (c : In) (left : Int) (h0 : 0 ≤ left) (h1 : left ≤ 1048576) (h2 : c.t.size ≤ 9223372036854775807) : EvN 1 16 [.dat (DIns c), .dat (I left)] [] [] ([.dat (I (if left - c.t.size < 0 then -1 else left - c.t.size))], [], []) := by
 refine zba Tryd.f16 0 (by kernel_rfl) (by kernel_rfl) fun kk _ => ?_
 have hw : w64 (left - c.t.size) = left - c.t.size := za5 (by omega)
 refine szIn kk c left (fun d => ?_) (fun d => ?_)
 · rw [hw] at d
   rw [if_pos (of_decide_eq_true d)]
 · rw [hw] at d ⊢
   rw [if_neg (of_decide_eq_false d)]
def la (L : List In) (left : Int) : Nat → Int
 | 0 => left
 | i + 1 => la L left i - ((L.getD i ⟨0, 0, ByteArray.empty⟩).t.size : Int)
theorem zm2 (L : List In) (left : Int) : ∀ i, la L left i ≤ left
 | 0 => Int.le_refl _
 | i + 1 => by have := zm2 L left i; show la L left i - _ ≤ _; omega
theorem zc5 {α : Type} {L : List α} {i : Nat} {x z : α} (h : L[i]? = some x) : L.getD i z = x := by rw [List.getD_eq_getElem?_getD, h]; rfl
theorem znp (b : Bool) (L : List In) (left : Int) (h1 : 0 ≤ left) (h3 : left ≤ 1048576) (hl : L.length ≤ 9223372036854775807) (h2 : ∀ x ∈ L, x.t.size ≤ 9223372036854775807) :
 ∃ z : Int, EvN 1048580 5 [.dat (.lst b (L.map DIns)), .dat (I left)] [] [] ([.dat (I z)], [], []) ∧ (0 ≤ z → L.length ≤ 1048576 ∧ ∀ x ∈ L, x.t.size ≤ 1048576) := by
 have hlen : (L.map DIns).length = L.length := by simp
 have hw : w64 (left - ((L.map DIns).length : Int)) = left - L.length := by rw [hlen]; exact za5 (by omega)
 by_cases hneg : left - L.length < 0
 · refine ⟨-1, zba Tryd.f5 1048579 (by kernel_rfl) (by kernel_rfl) fun kk hkk => ?_, fun h => by omega⟩
   refine znn kk b _ left left (fun d => rfl) (fun d => ?_)
   rw [hw] at d
   exact absurd hneg (of_decide_eq_false d)
 · have hleft : ∀ i, la L (left - L.length) i ≤ 1048576 := fun i => by have := zm2 L (left - L.length) i; omega
   have key : ∀ kk, 1048579 ≤ kk → ((List.range L.length).all (fun i => decide (0 ≤ la L (left - L.length) (i + 1))) = true → zav cfg kk 5 Tryd.f5 5 (hdz b (L.map DIns) (left - L.length) 0) (.exit 0) (Nm [1, 4] [.dat (I (la L (left - L.length) L.length)), .junk] [none, none] [] [])) ∧
    ((List.range L.length).all (fun i => decide (0 ≤ la L (left - L.length) (i + 1))) = false → zav cfg kk 5 Tryd.f5 5 (hdz b (L.map DIns) (left - L.length) 0) .ret (Nm [1, 4] [.dat (I (-1)), .dat (I (-1))] [none, none] [] [])) := fun kk hkk => by
    refine zfM (fun i => hdz b (L.map DIns) (la L (left - L.length) i) i) (fun i => decide (0 ≤ la L (left - L.length) (i + 1))) L.length (by omega) (fun i hi hp m s K hs hn hK => ?_) (fun hp m s K hs hK => ?_) rfl
    · obtain ⟨x, hx⟩ := zeb hi
      have hxs := h2 x (List.mem_of_getElem? hx)
      have hla : 0 ≤ la L (left - L.length) i := by
       cases i with
       | zero => show (0 : Int) ≤ left - L.length; omega
       | succ i => exact of_decide_eq_true (hp i (by omega))
      have hnx : la L (left - L.length) (i + 1) = la L (left - L.length) i - x.t.size := by show la L _ i - _ = _; rw [zc5 hx]
      have hc := zmg x (la L (left - L.length) i) hla (hleft i) hxs kk (by omega)
      rw [← hnx] at hc
      refine zm1 kk m b _ _ i x _ hs (fun _ d => ⟨ih (gm hx), hc, ?_⟩) (fun _ d => ⟨ih (gm hx), hc, fun s' hs' => ?_⟩) (fun d => absurd (of_decide_eq_false d) (by omega))
      · split
        · exact hK (decide_eq_false (by omega))
        · rename_i hq; rw [if_neg hq] at d; exact absurd (of_decide_eq_true d) (by omega)
      · by_cases hq : la L (left - L.length) (i + 1) < 0
        · rw [if_pos hq] at d; exact absurd (of_decide_eq_false d) (by omega)
        · rw [if_neg hq] at hs'
          refine hn (decide_eq_true (by omega)) s' ?_
          rw [hs', wi i (by omega)]
          rfl
    · exact zm1 kk m b _ _ _ ⟨0, 0, ByteArray.empty⟩ 0 hs (fun d => absurd (of_decide_eq_true d) (by omega)) (fun d => absurd (of_decide_eq_true d) (by omega)) (fun _ => hK)
   cases hall : (List.range L.length).all (fun i => decide (0 ≤ la L (left - L.length) (i + 1))) with
   | true =>
     refine ⟨la L (left - L.length) L.length, zba Tryd.f5 1048579 (by kernel_rfl) (by kernel_rfl) fun kk hkk => ?_, fun h => ⟨by omega, fun x hx => ?_⟩⟩
     · refine szS_y kk b _ left _ (fun d => ?_) (fun d => ⟨?_, rfl⟩)
       · rw [hw] at d; exact absurd (of_decide_eq_true d) hneg
       · rw [hw]; exact (key kk hkk).1 hall
     · obtain ⟨i, hi, rfl⟩ := List.mem_iff_getElem.1 hx
       have h4 : 0 ≤ la L (left - L.length) (i + 1) := of_decide_eq_true ((List.all_eq_true.1 hall) i (List.mem_range.2 hi))
       have h5 : la L (left - L.length) (i + 1) = la L (left - L.length) i - (L[i]).t.size := by show la L _ i - _ = _; rw [zc5 (List.getElem?_eq_getElem hi)]
       have := hleft i
       omega
   | false =>
     refine ⟨-1, zba Tryd.f5 1048579 (by kernel_rfl) (by kernel_rfl) fun kk hkk => ?_, fun h => by omega⟩
     refine znn kk b _ left (-1) (fun d => rfl) (fun d => ⟨?_, rfl⟩)
     rw [hw]; exact (key kk hkk).2 hall
theorem zmx (c : In) : EvN 1 18 [.dat (DIns c)] [] [] ([.dat (DIns c)], [], []) :=
 zba Tryd.f18 0 (by kernel_rfl) (by kernel_rfl) fun kk _ => toIn kk c rfl
theorem znd (b : Bool) (L : List In) (h : L.length ≤ 1048576) : EvN 1048580 7 [.dat (.lst b (L.map DIns))] [] [] ([.own 41 (L.map DIns)], [], []) := by
 refine zba Tryd.f7 1048579 (by kernel_rfl) (by kernel_rfl) fun kk hkk => ?_
 have hlen : (L.map DIns).length = L.length := by simp
 generalize hes : L.map DIns = es at *
 refine toS kk b es ⟨⟨by omega, by omega, by omega⟩, ?_, rfl⟩
 refine zaP (fun i => hdt b es (es.take i ++ List.replicate (es.length - i) (DIns ⟨0, 0, ByteArray.empty⟩)) i) es.length (by omega) (fun i hi m s K hs hn => ?_) (fun m s K hs hK => ?_) (by simp)
 · obtain ⟨x, hx⟩ := zeb (L := L) (i := i) (by omega)
   have hxd : es[i]? = some (DIns x) := by rw [← hes]; exact gm hx
   refine znu kk m b es _ i x x ⟨0, 0, ByteArray.empty⟩ hs (fun _ => ⟨ih hxd, zmx x kk (by omega), ⟨by omega, by simp; omega⟩, by rw [Int.toNat_natCast]; exact zlU es _ i hi, fun s' hs' => hn s' ?_⟩) (fun d => absurd (of_decide_eq_false d) (by omega))
   rw [hs', Int.toNat_natCast, wi i (by omega), show Dat.agg [I x.op, I x.a, Dat.val (Value.string x.t)] = DIns x from rfl, zmz es _ _ i hi hxd]
   rfl
 · refine znu kk m b es _ _ ⟨0, 0, ByteArray.empty⟩ ⟨0, 0, ByteArray.empty⟩ ⟨0, 0, ByteArray.empty⟩ hs (fun d => absurd (of_decide_eq_true d) (by omega)) (fun _ => ?_)
   simpa using hK
theorem zmB (c : In) : EvN 1 20 [.dat (DIns c), .dat (DIns c)] [] [] ([.dat (B true)], [], []) :=
 zba Tryd.f20 0 (by kernel_rfl) (by kernel_rfl) fun kk _ => eqIn kk c c (fun d => by simp at d) (fun _ d => by simp at d) (fun _ _ d => by simp at d) (fun _ _ _ => rfl)
theorem zm9 (L : List In) (b1 b2 : Bool) (h : L.length ≤ 1048576) : EvN 1048580 9 [.dat (.lst b1 (L.map DIns)), .dat (.lst b2 (L.map DIns))] [] [] ([.dat (B true)], [], []) := by
 refine zba Tryd.f9 1048579 (by kernel_rfl) (by kernel_rfl) fun kk hkk => ?_
 have hlen : (L.map DIns).length = L.length := by simp
 generalize hes : L.map DIns = es at *
 refine eqS_y kk b1 b2 es es (fun d => by simp at d) (fun _ => ⟨?_, rfl⟩)
 refine zaP (fun i => hde b1 b2 es es i) es.length (by omega) (fun i hi m s K hs hn => ?_) (fun m s K hs hK => ?_) rfl
 · obtain ⟨x, hx⟩ := zeb (L := L) (i := i) (by omega)
   have hxd : es[i]? = some (DIns x) := by rw [← hes]; exact gm hx
   refine zmN kk m b1 b2 es es i x x true hs (fun _ d => by cases d) (fun _ _ => ⟨ih hxd, ih hxd, zmB x kk (by omega), fun s' hs' => hn s' ?_⟩) (fun d => absurd (of_decide_eq_false d) (by omega))
   rw [hs', wi i (by omega)]
   rfl
 · exact zmN kk m b1 b2 es es _ ⟨0, 0, ByteArray.empty⟩ ⟨0, 0, ByteArray.empty⟩ true hs (fun d => absurd (of_decide_eq_true d) (by omega)) (fun d => absurd (of_decide_eq_true d) (by omega)) (fun _ => hK)
def inB (x lo hi : Int) : Bool := decide (lo ≤ x) && decide (x ≤ hi)
theorem zjr (x lo hi : Int) : EvN 1 26 [.dat (I x), .dat (I lo), .dat (I hi)] [] [] ([.dat (B (inB x lo hi))], [], []) :=
 zba Tryd.f26 0 (by kernel_rfl) (by kernel_rfl) fun kk _ => l1In kk x lo hi (fun d => by simp only [decide_eq_true_eq] at d; simp [inB, d]) (fun d => by simp only [decide_eq_false_iff_not] at d; simp [inB, d])
def lf (t : ByteArray) : Bool := decide (0 ≤ Lib.indexByte t.data.toList 10)
def noLf (t : ByteArray) (i : Nat) : Bool := !decide (((t[i]?.getD 0).toNat : Int) = 10)
theorem zjL (c : UInt8) : ∀ l : List UInt8, 0 ≤ Lib.indexByte l c ↔ c ∈ l
 | [] => by simp [Lib.indexByte]
 | b :: l => by
   have h0 := zjL c l
   have h1 := Lib.indexByte_ge l c
   unfold Lib.indexByte
   by_cases hb : b = c
   · subst hb; simp
   · have hb' : (b == c) = false := by simpa using hb
     rw [hb', if_neg (by simp)]
     by_cases hm : Lib.indexByte l c = -1
     · rw [hm] at h0 ⊢
       simp only [beq_self_eq_true, if_true]
       constructor
       · intro h; omega
       · intro h
         rcases List.mem_cons.1 h with rfl | h
         · exact absurd rfl hb
         · exact absurd (h0.2 h) (by omega)
     · have hm' : (Lib.indexByte l c == -1) = false := by simpa using hm
       rw [hm', if_neg (by simp)]
       constructor
       · intro _
         exact List.mem_cons_of_mem _ (h0.1 (by omega))
       · intro _
         omega
theorem ziF (t : ByteArray) (i : Nat) (h : i < t.size) : t[i]?.getD 0 = t.data.toList[i]'(by simpa using h) := by
 rw [getElem?_pos t i h]
 rfl
theorem ziM (t : ByteArray) : (List.range t.size).all (noLf t) = !lf t := by
 have key : lf t = true ↔ ∃ i, i < t.size ∧ noLf t i = false := by
  unfold lf
  rw [decide_eq_true_eq, zjL]
  constructor
  · intro h
    obtain ⟨i, hi, hx⟩ := List.mem_iff_getElem.1 h
    have hi' : i < t.size := by simpa using hi
    refine ⟨i, hi', ?_⟩
    unfold noLf
    rw [ziF t i hi', hx]
    rfl
  · rintro ⟨i, hi, hx⟩
    unfold noLf at hx
    rw [ziF t i hi] at hx
    simp only [Bool.not_eq_false', decide_eq_true_eq] at hx
    have : t.data.toList[i]'(by simpa using hi) = 10 := UInt8.toNat_inj.1 (by have e : (10 : UInt8).toNat = 10 := rfl; rw [e]; omega)
    rw [← this]
    exact List.getElem_mem _
 cases hl : lf t with
 | true =>
   obtain ⟨i, hi, hx⟩ := key.1 hl
   rw [Bool.not_true, ← Bool.not_eq_true, List.all_eq_true]
   intro h
   have := h i (List.mem_range.2 hi)
   rw [hx] at this
   cases this
 | false =>
   rw [Bool.not_false, List.all_eq_true]
   intro i hi
   cases hn : noLf t i with
   | true => rfl
   | false => rw [key.2 ⟨i, List.mem_range.1 hi, hn⟩] at hl; cases hl
theorem zm8 (t : ByteArray) (h : t.size ≤ 1048576) : ∃ s1 s2, EvN 1048580 25 [.dat (S t), .dat (.val (.int .u8 10))] [] [] ([.dat (S s1), .dat (S s2), .dat (B (lf t))], [], []) := by
 have key : ∀ kk, 1048579 ≤ kk → ((List.range t.size).all (noLf t) = true → zav cfg kk 25 Tryd.f25 2 (hdc t 10 0) (.exit 0) (Nm [0, 4, 5, 6] [.dat (S t), .junk, .junk, .junk] [none, none, none, none] [] [])) ∧
  (∀ i, i < t.size → (∀ j, j < i → noLf t j = true) → noLf t i = false → zav cfg kk 25 Tryd.f25 2 (hdc t 10 0) .ret (Nm [0, 4, 5, 6] [.dat (S t), .dat (S (t.extract 0 i)), .dat (S (t.extract (i + 1) t.size)), .dat (B true)] [none, none, none, none] [] [])) := fun kk hkk => by
  refine zd5 (fun i => hdc t 10 i) (noLf t) t.size (by omega) (s2 := fun i => Nm [0, 4, 5, 6] [.dat (S t), .dat (S (t.extract 0 i)), .dat (S (t.extract (i + 1) t.size)), .dat (B true)] [none, none, none, none] [] []) (fun i hi hp m s K hs hn hK => ?_) (fun hp m s K hs hK => ?_) rfl
  · have e1 : w64 ((i : Int) + 1) = ((i + 1 : Nat) : Int) := wi i (by omega)
    refine zmE kk m t 10 i hs (fun _ d => ⟨⟨by omega, by omega⟩, ⟨by simp, by simp, by simp; omega⟩, ?_, ?_⟩) (fun _ d => ⟨⟨by omega, by omega⟩, fun s' hs' => hn ?_ s' ?_⟩) (fun d => absurd (of_decide_eq_false d) (by omega))
    · rw [e1]; simp; omega
    · rw [e1]
      simp only [Option.getD_some, Option.getD_none, Int.toNat_natCast]
      refine hK ?_
      unfold noLf
      rw [Int.toNat_natCast] at d
      rw [d]
      rfl
    · unfold noLf
      rw [Int.toNat_natCast] at d
      rw [d]
      rfl
    · rw [hs', e1]
      rfl
  · exact zmE kk m t 10 _ hs (fun d => absurd (of_decide_eq_true d) (by omega)) (fun d => absurd (of_decide_eq_true d) (by omega)) (fun _ => hK)
 cases hl : lf t with
 | false =>
   refine ⟨t, ByteArray.mk #[], zba Tryd.f25 1048579 (by kernel_rfl) (by kernel_rfl) fun kk hkk => ?_⟩
   exact cut_n kk t 10 ⟨(key kk hkk).1 (by rw [ziM, hl]; rfl), rfl⟩
 | true =>
   have h0 := ziM t
   rw [hl] at h0
   obtain ⟨j, q, h3, h4, h5⟩ := zfg (noLf t) h0
   have hj : j < t.size := by
    have := (List.getElem?_eq_some_iff.1 h3).1
    simpa using this
   have hqj : q = j := by
    rw [List.getElem?_range hj] at h3
    exact (Option.some.inj h3).symm
   subst hqj
   refine ⟨t.extract 0 q, t.extract (q + 1) t.size, zba Tryd.f25 1048579 (by kernel_rfl) (by kernel_rfl) fun kk hkk => ?_⟩
   exact cut_y kk t _ _ 10 ⟨(key kk hkk).2 q hj (fun i hi => h5 i i hi (List.getElem?_range (by omega))) h4, rfl⟩
theorem zng {x : In} (h : x.ok = true) : 1 ≤ x.op ∧ x.op ≤ 13 ∧ 0 ≤ x.a ∧ x.a ≤ 100000 ∧ (x.t.size : Int) ≤ 1500 := by
 unfold Go.Proofs.YtmoocdlfclhgcaaDoor.Ins.ok okI at h
 simp only [Bool.and_eq_true, decide_eq_true_eq] at h
 omega
def tx (L : List In) : Nat → ByteArray
 | 0 => ByteArray.empty
 | i + 1 => tx L i ++ zeS (L.getD i ⟨0, 0, ByteArray.empty⟩)
theorem zj0 {L : List In} (hok : ∀ x ∈ L, x.ok = true) : ∀ i, i ≤ L.length → (tx L i).size ≤ 1600 * i
 | 0, _ => Nat.le_refl _
 | i + 1, h => by
   have h1 := zj0 hok i (by omega)
   have h2 := zdz (hok _ (List.getElem_mem (show i < L.length by omega)))
   show (tx L i ++ _).size ≤ _
   rw [ByteArray.size_append, zc5 (List.getElem?_eq_getElem (show i < L.length by omega))]
   omega
theorem zmC (b : Bool) (L : List In) (h : L.length ≤ 3000) (hok : ∀ x ∈ L, x.ok = true) : EvN 1048580 27 [.dat (.lst b (L.map DIns))] [] [] ([.dat (S (tx L L.length))], [], []) := by
 refine zba Tryd.f27 1048579 (by kernel_rfl) (by kernel_rfl) fun kk hkk => text kk b _ _ ⟨?_, rfl⟩
 have hlen : (L.map DIns).length = L.length := by simp
 refine zaP (fun i => hdx b (L.map DIns) (tx L i) i) L.length (by omega) (fun i hi m s K hs hn => ?_) (fun m s K hs hK => ?_) rfl
 · obtain ⟨x, hx⟩ := zeb hi
   have hxo := hok x (List.mem_of_getElem? hx)
   have hin := zng hxo
   have hl := zdz hxo
   have ht := zj0 hok i (by omega)
   have e1 := zlQ (n := x.op) ⟨by omega, by omega⟩ kk (by omega)
   have e2 := zlQ (n := x.a) ⟨by omega, by omega⟩ kk (by omega)
   have s1 := zc0 (n := x.op) (by omega) (by omega)
   have s2 := zc0 (n := x.a) (by omega) (by omega)
   have z1 : (ByteArray.mk #[32]).size = 1 := rfl
   have z2 : (ByteArray.mk #[10]).size = 1 := rfl
   have hd : zeS x = ((((num x.op ++ ⟨#[32]⟩) ++ num x.a) ++ ⟨#[32]⟩) ++ x.t) ++ ⟨#[10]⟩ := rfl
   refine zly kk m b _ (tx L i) i x (num x.op) (num x.a) hs (fun _ => ⟨ih (gm hx), e1, by omega, e2, ?_, ?_, ?_, ?_, ?_, fun s' hs' => hn s' ?_⟩) (fun d => absurd (of_decide_eq_false d) (by omega))
   · rw [ByteArray.size_append, z1]; omega
   · rw [ByteArray.size_append, ByteArray.size_append, z1]; omega
   · rw [ByteArray.size_append, ByteArray.size_append, ByteArray.size_append, z1]; omega
   · rw [ByteArray.size_append, ByteArray.size_append, ByteArray.size_append, ByteArray.size_append, z1]; omega
   · rw [hd] at hl; omega
   · have e : tx L (i + 1) = tx L i ++ zeS x := by show tx L i ++ _ = _; rw [zc5 hx]
     rw [hs', wi i (by omega), ← hd, ← e]
     rfl
 · exact zly kk m b _ _ _ ⟨0, 0, ByteArray.empty⟩ ByteArray.empty ByteArray.empty hs (fun d => absurd (of_decide_eq_true d) (by omega)) (fun _ => hK)
theorem ok_eq (x : In) : x.ok = (inB x.op 1 13 && (inB x.a 0 100000 && (decide ((x.t.size : Int) ≤ 1500) && !lf x.t))) := by
 unfold Go.Proofs.YtmoocdlfclhgcaaDoor.Ins.ok okI inB lf
 simp only [Bool.and_assoc]
theorem zlf (b : Bool) (L : List In) (h : L.length ≤ 1048576) (hs : ∀ x ∈ L, x.t.size ≤ 1048576) : ∃ s, EvN 1048590 17 [.dat (.lst b (L.map DIns))] [] [] ([.dat (S s), .dat (B (okT L))], [], []) := by
 have hlen : (L.map DIns).length = L.length := by simp
 by_cases h3 : 3000 < L.length
 · refine ⟨ByteArray.mk #[], zba Tryd.f17 1048589 (by kernel_rfl) (by kernel_rfl) fun kk hkk => ?_⟩
   have e : okT L = false := by unfold okT; rw [decide_eq_false (by omega)]; rfl
   rw [e]
   exact zlE kk b _ (fun d => rfl) (fun d => absurd (of_decide_eq_false d) (by omega))
 · have key : ∀ kk, 1048589 ≤ kk → ((List.range L.length).all (fun i => (L.getD i ⟨0, 0, ByteArray.empty⟩).ok) = true → zav cfg kk 17 Tryd.f17 4 (hdk b (L.map DIns) 0) (.exit 0) (Nm [0, 2, 3] [.dat (.lst b (L.map DIns)), .junk, .junk] [none, none, none] [] [])) ∧
    ((List.range L.length).all (fun i => (L.getD i ⟨0, 0, ByteArray.empty⟩).ok) = false → zav cfg kk 17 Tryd.f17 4 (hdk b (L.map DIns) 0) .ret (Nm [0, 2, 3] [.dat (.lst b (L.map DIns)), .dat (S ByteArray.empty), .dat (B false)] [none, none, none] [] [])) := fun kk hkk => by
    refine zfM (fun i => hdk b (L.map DIns) i) (fun i => (L.getD i ⟨0, 0, ByteArray.empty⟩).ok) L.length (by omega) (fun i hi hp m s K hs' hn hK => ?_) (fun hp m s K hs' hK => ?_) rfl
    · obtain ⟨x, hx⟩ := zeb hi
      obtain ⟨s1, s2, hc⟩ := zm8 x.t (hs x (List.mem_of_getElem? hx))
      have hc := hc kk (by omega)
      have h1 := zjr x.op 1 13 kk (by omega)
      have h2 := zjr x.a 0 100000 kk (by omega)
      have ho : (L.getD i ⟨0, 0, ByteArray.empty⟩).ok = (inB x.op 1 13 && (inB x.a 0 100000 && (decide ((x.t.size : Int) ≤ 1500) && !lf x.t))) := by rw [zc5 hx, ok_eq]
      rw [ho] at hn hK
      refine zlC kk m b _ i x s1 s2 (lf x.t) (inB x.op 1 13) (inB x.a 0 100000) hs' (fun _ d => ⟨ih (gm hx), hc, hK ?_⟩) (fun _ d d2 => ⟨ih (gm hx), hc, h1, hK ?_⟩) (fun _ d d2 d3 => ⟨ih (gm hx), hc, h1, h2, hK ?_⟩) (fun _ d d2 d3 d4 => ⟨ih (gm hx), hc, h1, h2, hK ?_⟩) (fun _ d d2 d3 d4 => ⟨ih (gm hx), hc, h1, h2, fun s' hs2 => hn ?_ s' ?_⟩) (fun d => absurd (of_decide_eq_false d) (by omega))
      · rw [d]; simp
      · rw [Bool.not_eq_true'] at d2; rw [d2]; rfl
      · rw [Bool.not_eq_true'] at d3; rw [d3]; simp
      · have : decide ((x.t.size : Int) ≤ 1500) = false := decide_eq_false (by have := of_decide_eq_true d4; omega)
        rw [this]; simp
      · have : decide ((x.t.size : Int) ≤ 1500) = true := decide_eq_true (by have := of_decide_eq_false d4; omega)
        rw [Bool.not_eq_false'] at d2 d3
        rw [this, d, d2, d3]; rfl
      · rw [hs2, wi i (by omega)]
        rfl
    · exact zlC kk m b _ _ ⟨0, 0, ByteArray.empty⟩ ByteArray.empty ByteArray.empty false false false hs' (fun d => absurd (of_decide_eq_true d) (by omega)) (fun d => absurd (of_decide_eq_true d) (by omega)) (fun d => absurd (of_decide_eq_true d) (by omega)) (fun d => absurd (of_decide_eq_true d) (by omega)) (fun d => absurd (of_decide_eq_true d) (by omega)) (fun _ => hK)
   have hall : (List.range L.length).all (fun i => (L.getD i ⟨0, 0, ByteArray.empty⟩).ok) = okT L := by
    unfold okT
    rw [decide_eq_true (show L.length ≤ 3000 by omega), Bool.true_and, Bool.eq_iff_iff, List.all_eq_true, List.all_eq_true]
    constructor
    · intro hq x hx
      obtain ⟨i, hi, rfl⟩ := List.mem_iff_getElem.1 hx
      have := hq i (List.mem_range.2 hi)
      rwa [zc5 (List.getElem?_eq_getElem hi)] at this
    · intro hq i hi
      rw [zc5 (List.getElem?_eq_getElem (List.mem_range.1 hi))]
      exact hq _ (List.getElem_mem _)
   rw [hall] at key
   cases hok : okT L with
   | true =>
     rw [hok] at key
     have hxo : ∀ x ∈ L, x.ok = true := by
      unfold okT at hok
      simp only [Bool.and_eq_true, List.all_eq_true] at hok
      exact hok.2
     refine ⟨tx L L.length, zba Tryd.f17 1048589 (by kernel_rfl) (by kernel_rfl) fun kk hkk => ?_⟩
     exact znk kk b _ (tx L L.length) (fun d => absurd (of_decide_eq_true d) (by omega)) (fun d => ⟨(key kk hkk).1 rfl, zmC b L (by omega) hxo kk (by omega), rfl⟩)
   | false =>
     rw [hok] at key
     refine ⟨ByteArray.empty, zba Tryd.f17 1048589 (by kernel_rfl) (by kernel_rfl) fun kk hkk => ?_⟩
     exact zlE kk b _ (fun d => absurd (of_decide_eq_true d) (by omega)) (fun d => ⟨(key kk hkk).2 rfl, rfl⟩)
end Go.Den
namespace Go.Den
open Go
set_option linter.unusedVariables false
set_option maxRecDepth 100000
theorem zmJ {n : Nat} {d : Dat} {i : TI} (h : WT cfg.ty n d) (ht : cfg.ty n = some i) (hk : i.kind = .str) : ∃ s : ByteArray, d = S s ∧ s.size ≤ maxLen := by
 cases h with
 | int ht' hk' => rw [ht] at ht'; cases ht'; rw [hk] at hk'; cases hk'
 | bool ht' hk' => rw [ht] at ht'; cases ht'; rw [hk] at hk'; cases hk'
 | str ht' hk' hs => exact ⟨_, rfl, hs⟩
 | lst ht' hk' => rw [ht] at ht'; cases ht'; rw [hk] at hk'; cases hk'
 | agg ht' hk' => rw [ht] at ht'; cases ht'; rw [hk] at hk'; cases hk'
theorem in_of {d : Dat} (h : WT cfg.ty 38 d) : ∃ x : In, d = DIns x ∧ x.t.size ≤ 9223372036854775807 := by
 obtain ⟨l, rfl, hl, hx⟩ := zmM h (i := ⟨.struct, 3, 32, [(0, 3), (1, 3), (2, 9)], [.dat (.val (.int .i64 0)), .dat (.val (.int .i64 0)), .dat (.val (.string ByteArray.empty))]⟩) (by kernel_rfl) rfl
 match l, hl, hx with
 | [o, a, t], _, hx =>
   obtain ⟨o, rfl⟩ := zlr (hx 0 (0, 3) o rfl rfl)
   obtain ⟨a, rfl⟩ := zlr (hx 1 (1, 3) a rfl rfl)
   obtain ⟨t, rfl, ht⟩ := zmJ (hx 2 (2, 9) t rfl rfl) (i := ⟨.str, 1, 16, [], [.dat (.val (.string ByteArray.empty))]⟩) (by kernel_rfl) rfl
   exact ⟨⟨o, a, t⟩, rfl, ht⟩
theorem zne {d : Dat} (h : WT cfg.ty 22 d) : ∃ L : List In, d = .lst false (L.map DIns) ∧ L.length ≤ 9223372036854775807 ∧ ∀ x ∈ L, x.t.size ≤ 9223372036854775807 := by
 obtain ⟨es, rfl, hl, hx⟩ := znq h (i := ⟨.slice 38, 1, 24, [], [.own 38 []]⟩) (by kernel_rfl) rfl
 have : ∀ es : List Dat, (∀ x ∈ es, WT cfg.ty 38 x) → ∃ L : List In, es = L.map DIns ∧ ∀ x ∈ L, x.t.size ≤ 9223372036854775807 := by
  intro es
  induction es with
  | nil => intro _; exact ⟨[], rfl, fun x hx => by cases hx⟩
  | cons d es ihs =>
    intro h
    obtain ⟨x, rfl, hx⟩ := in_of (h d (by simp))
    obtain ⟨L, rfl, hL⟩ := ihs fun y hy => h y (List.mem_cons_of_mem _ hy)
    refine ⟨x :: L, rfl, fun y hy => ?_⟩
    rcases List.mem_cons.1 hy with rfl | hy
    · exact hx
    · exact hL y hy
 obtain ⟨L, rfl, hL⟩ := this es hx
 rw [List.length_map] at hl
 exact ⟨L, rfl, hl, hL⟩
end Go.Den
namespace Go.Den
open Go
set_option linter.unusedVariables false
set_option maxRecDepth 100000
open Go.Proofs.YtmoocdlfclhgcaaDoor (okT okI)
def sd (x : In) (p v : Int) : List (Int × Int) × Bool :=
 if x.op = 1 ∨ x.op = 2 then ([(p + 1, v + 1)], true) else
 if x.op = 8 then ([(p + 1, v + 1), (x.a, 0)], true) else
 if x.op = 3 ∨ x.op = 4 then ([(p + 1, v)], decide (1 ≤ v)) else
 if x.op = 5 then ([(p + 1, v - 1)], decide (1 ≤ v)) else
 if x.op = 6 then ([(x.a, v)], true) else
 if x.op = 7 then ([(p + 1, v - 1), (x.a, v - 1)], decide (1 ≤ v)) else
 if x.op = 9 then ([(p + 1, v - x.a)], decide (x.a + 1 ≤ v)) else
 if x.op = 10 then ([], decide (v = x.a + 1)) else
 if x.op = 11 then ([], decide (v = 1)) else
 if x.op = 12 then ([(p + 1, 0)], decide (v = 1)) else ([], decide (v = 0))
theorem zea {x : In} {p v : Int} (hp : 0 ≤ p) (hv : 0 ≤ v) (ha : 0 ≤ x.a) : (sd x p v).2 = true → ∀ q ∈ (sd x p v).1, 0 ≤ q.1 ∧ 0 ≤ q.2 ∧ q.2 ≤ v + 1 := by
 have key : ∀ z, sd x p v = z → z.2 = true → ∀ q ∈ z.1, 0 ≤ q.1 ∧ 0 ≤ q.2 ∧ q.2 ≤ v + 1 := by
  intro z hz
  unfold sd at hz
  repeat' split at hz
  all_goals
   subst hz
   intro h q hq
   first
   | exact absurd hq List.not_mem_nil
   | (rw [List.mem_singleton] at hq; subst hq; have h := of_decide_eq_true h; simp only; omega)
   | (rw [List.mem_singleton] at hq; subst hq; simp only; omega)
   | (have h := of_decide_eq_true h; rcases List.mem_cons.1 hq with hq | hq
      · subst hq; simp only; omega
      · rw [List.mem_singleton] at hq; subst hq; simp only; omega)
   | (rcases List.mem_cons.1 hq with hq | hq
      · subst hq; simp only; omega
      · rw [List.mem_singleton] at hq; subst hq; simp only; omega)
 exact key _ rfl
theorem zlS (x : In) (p v : Int) : (sd x p v).1.length ≤ 2 := by
 unfold sd
 repeat' split
 all_goals simp
inductive Rc (L : List In) : Int → Int → Prop
 | start : Rc L 0 0
 | step {p v : Int} {x : In} {q : Int × Int} (h : Rc L p v) (hx : L[p.toNat]? = some x) (hok : (sd x p v).2 = true) (hq : q ∈ (sd x p v).1) : Rc L q.1 q.2
def Ops (L : List In) : Prop := L.length ≤ 3000 ∧ ∀ x ∈ L, (1 ≤ x.op ∧ x.op ≤ 13) ∧ 0 ≤ x.a ∧ x.a ≤ 100000
theorem zg9 {L : List In} (h : okT L = true) : Ops L := by
 unfold okT at h
 simp only [Bool.and_eq_true, decide_eq_true_eq, List.all_eq_true] at h
 refine ⟨h.1, fun x hx => ?_⟩
 have := zng (h.2 x hx)
 omega
theorem Rc.pos {L : List In} (hL : Ops L) {p v : Int} (h : Rc L p v) : 0 ≤ p ∧ 0 ≤ v := by
 induction h with
 | start => omega
 | step h hx hok hq ih =>
   have := zea ih.1 ih.2 (hL.2 _ (List.mem_of_getElem? hx)).2.1 hok _ hq
   omega
def BadS (L : List In) : Prop := ∃ p v, Rc L p v ∧ ((L.length : Int) ≤ p ∨ (∃ x, L[p.toNat]? = some x ∧ (sd x p v).2 = false) ∨ ∃ v', Rc L p v' ∧ v' ≠ v)
structure Mk (L : List In) (D : List Int) : Prop where
 len : D.length = L.length
 ok : ∀ (i : Nat) (v : Int), D[i]? = some v → v = -1 ∨ (0 ≤ v ∧ Rc L i v ∧ ∃ x, L[i]? = some x ∧ (sd x i v).2 = true)
structure Cld (L : List In) (D : List Int) : Prop where
 mrk : Mk L D
 zero : D[0]? = some 0
 cl : ∀ (i : Nat) (v : Int) (x : In), D[i]? = some v → v ≠ -1 → L[i]? = some x → ∀ q ∈ (sd x i v).1, D[q.1.toNat]? = some q.2
theorem Cld.reach {L : List In} {D : List Int} (hL : Ops L) (h : Cld L D) {p v : Int} (hr : Rc L p v) : D[p.toNat]? = some v := by
 induction hr with
 | start => exact h.zero
 | @step p v x q hr hx hok hq ih =>
   have hp := hr.pos hL
   obtain ⟨n, rfl⟩ : ∃ n : Nat, p = n := ⟨p.toNat, by omega⟩
   exact h.cl n v x ih (by omega) hx q hq
theorem Cld.notBad {L : List In} {D : List Int} (hL : Ops L) (h : Cld L D) : ¬ BadS L := by
 rintro ⟨p, v, hr, hb⟩
 have hp := hr.pos hL
 have hd := h.reach hL hr
 have hlt := (List.getElem?_eq_some_iff.1 hd).1
 have hlen := h.mrk.len
 rcases hb with hb | ⟨x, hx, hb⟩ | ⟨v', hr', hne⟩
 · omega
 · obtain ⟨n, rfl⟩ : ∃ n : Nat, p = n := ⟨p.toNat, by omega⟩
   rcases h.mrk.ok n v hd with h1 | ⟨_, _, y, hy, h2⟩
   · omega
   · rw [Int.toNat_natCast] at hx
     rw [hx] at hy
     cases hy
     rw [hb] at h2
     cases h2
 · have := h.reach hL hr'
   rw [hd] at this
   exact hne (Option.some.inj this).symm
theorem Cld.one {L : List In} {D D' : List Int} (hL : Ops L) (h : Cld L D) (h' : Cld L D') : D = D' := by
 apply List.ext_getElem?
 intro i
 cases hd : D[i]? with
 | none =>
   have : D'.length ≤ i := by have := List.getElem?_eq_none_iff.1 hd; rw [h'.mrk.len, ← h.mrk.len]; exact this
   rw [List.getElem?_eq_none this]
 | some v =>
   have hi : i < D'.length := by have := (List.getElem?_eq_some_iff.1 hd).1; rw [h'.mrk.len, ← h.mrk.len]; exact this
   obtain ⟨v', hv'⟩ : ∃ v', D'[i]? = some v' := ⟨_, List.getElem?_eq_getElem hi⟩
   rcases h.mrk.ok i v hd with h1 | ⟨_, hr, _⟩
   · rcases h'.mrk.ok i v' hv' with h2 | ⟨_, hr', _⟩
     · rw [hv', h1, h2]
     · have := h.reach hL hr'
       rw [Int.toNat_natCast, hd] at this
       rw [hv', this]
   · have := h'.reach hL hr
     rw [Int.toNat_natCast] at this
     rw [this]
def lack (D : List Int) : Nat := D.countP (· == -1)
theorem zdf {D : List Int} {i : Nat} {v : Int} (h : D[i]? = some (-1)) (hv : v ≠ -1) : lack (D.set i v) + 1 = lack D := by
 induction D generalizing i with
 | nil => simp at h
 | cons d D ih =>
   cases i with
   | zero =>
     have : d = -1 := by simpa using h
     subst this
     unfold lack
     rw [List.set_cons_zero, List.countP_cons_of_neg (by simpa using hv), List.countP_cons_of_pos (by rfl)]
   | succ i =>
     have := ih (i := i) (by simpa using h)
     unfold lack at *
     rw [List.set_cons_succ]
     by_cases hd : d = -1
     · rw [List.countP_cons_of_pos (by simpa using hd), List.countP_cons_of_pos (by simpa using hd)]
       omega
     · rw [List.countP_cons_of_neg (by simpa using hd), List.countP_cons_of_neg (by simpa using hd)]
       omega
theorem ziH : ∀ {D D' : List Int}, D'.length = D.length → (∀ (i : Nat) (v : Int), D[i]? = some v → v ≠ -1 → D'[i]? = some v) → lack D' ≤ lack D
 | [], [], _, _ => Nat.le_refl _
 | d :: D, d' :: D', hl, h => by
   have ih := ziH (D := D) (D' := D') (by simpa using hl) (fun i v hi hv => by simpa using h (i + 1) v (by simpa using hi) hv)
   unfold lack at *
   by_cases hd : d = -1
   · rw [List.countP_cons_of_pos (l := D) (by simpa using hd)]
     by_cases hd' : d' = -1
     · rw [List.countP_cons_of_pos (by simpa using hd')]; omega
     · rw [List.countP_cons_of_neg (by simpa using hd')]; omega
   · have := h 0 d rfl hd
     have hd' : d' = d := by simpa using this
     rw [hd', List.countP_cons_of_neg (by simpa using hd), List.countP_cons_of_neg (by simpa using hd)]
     exact ih
theorem Mk.set {L : List In} {D : List Int} (h : Mk L D) {i : Nat} {v : Int} {x : In} (hr : Rc L i v) (hv : 0 ≤ v) (hx : L[i]? = some x) (hok : (sd x i v).2 = true) : Mk L (D.set i v) := by
 refine ⟨by rw [List.length_set, h.len], fun j w hj => ?_⟩
 rw [List.getElem?_set] at hj
 split at hj
 · rename_i e
   subst e
   split at hj
   · cases hj
     exact .inr ⟨hv, hr, x, hx, hok⟩
   · cases hj
 · exact h.ok j w hj
end Go.Den
namespace Go.Den
open Go.Proofs
open Go
set_option linter.unusedVariables false
set_option maxRecDepth 100000
open Go.Proofs.YtmoocdlfclhgcaaDoor (okT zdN)
theorem ziR {α : Type} {f : Nat} {fn : Func} {r : Nat} (N : Nat) (st : α → St) (P : α → Prop) (μ : α → Nat) (R : X → St → Prop)
 (hgo : ∀ a, P a → (∃ a', P a' ∧ μ a' < μ a ∧ ∀ kk, N ≤ kk → ∀ (m : Nat) (s : St) (K : X → St → Prop), s.norm ((zaG cfg kk f fn).live (zaa (lp fn r))) = st a → (∀ s : St, s.norm ((zaG cfg kk f fn).live (zaa (lp fn r))) = st a' → zao (zaG cfg kk f fn) kk (lp fn r) m s K) → zao (zaG cfg kk f fn) kk (lp fn r) (m + 1) s K) ∨
  (∃ x s', R x s' ∧ ∀ kk, N ≤ kk → ∀ (m : Nat) (s : St) (K : X → St → Prop), s.norm ((zaG cfg kk f fn).live (zaa (lp fn r))) = st a → K x s' → zao (zaG cfg kk f fn) kk (lp fn r) (m + 1) s K))
 {a0 : α} (h0 : P a0) : ∃ x s', R x s' ∧ ∀ kk, N ≤ kk → μ a0 < kk → zav cfg kk f fn r (st a0) x s' := by
 have key : ∀ (d : Nat) (a : α), μ a ≤ d → P a → ∃ x s', R x s' ∧ ∀ kk, N ≤ kk → ∀ K : X → St → Prop, K x s' → ∀ m, d < m → ∀ s : St, s.norm ((zaG cfg kk f fn).live (zaa (lp fn r))) = st a → zao (zaG cfg kk f fn) kk (lp fn r) m s K := by
  intro d
  induction d with
  | zero =>
    intro a hd hP
    rcases hgo a hP with ⟨a', _, h, _⟩ | ⟨x, s', hR, h⟩
    · omega
    · refine ⟨x, s', hR, fun kk hk K hK m hm s hs => ?_⟩
      obtain ⟨m, rfl⟩ : ∃ k, m = k + 1 := ⟨m - 1, by omega⟩
      exact h kk hk m s K hs hK
  | succ d ih =>
    intro a hd hP
    rcases hgo a hP with ⟨a', hP', hlt, h⟩ | ⟨x, s', hR, h⟩
    · obtain ⟨x, s', hR, h'⟩ := ih a' (by omega) hP'
      refine ⟨x, s', hR, fun kk hk K hK m hm s hs => ?_⟩
      obtain ⟨m, rfl⟩ : ∃ k, m = k + 1 := ⟨m - 1, by omega⟩
      exact h kk hk m s K hs fun s hs => h' kk hk K hK m (by omega) s hs
    · refine ⟨x, s', hR, fun kk hk K hK m hm s hs => ?_⟩
      obtain ⟨m, rfl⟩ : ∃ k, m = k + 1 := ⟨m - 1, by omega⟩
      exact h kk hk m s K hs hK
 obtain ⟨x, s', hR, h⟩ := key (μ a0) a0 (Nat.le_refl _) h0
 exact ⟨x, s', hR, fun kk hk hm => zb5 fun s hs => h kk hk _ ⟨rfl, rfl⟩ kk hm s hs⟩
def pd (q : Int × Int) : Dat := .agg [I q.1, I q.2]
theorem ev_go (x : In) (p v : Int) (h : 1 ≤ x.op ∧ x.op ≤ 13) (ha : 0 ≤ x.a ∧ x.a ≤ 100000) (hp : 0 ≤ p ∧ p ≤ 1000000) (hv : 0 ≤ v ∧ v ≤ 1000000) : EvN 1 23 [.dat (DIns x), .dat (I p), .dat (I v)] [] [] ([.own 50 ((sd x p v).1.map pd), .dat (B (sd x p v).2)], [], []) := by
 obtain ⟨op, a, t⟩ := x
 simp only at h ha
 refine zba Tryd.f23 0 (by kernel_rfl) (by kernel_rfl) fun kk _ => ?_
 have e1 : w64 (p + 1) = p + 1 := za5 (by omega)
 have e2 : w64 (v + 1) = v + 1 := za5 (by omega)
 have e3 : w64 (v - 1) = v - 1 := za5 (by omega)
 have e4 : w64 (v - a) = v - a := za5 (by omega)
 have e5 : w64 (a + 1) = a + 1 := za5 (by omega)
 have hk : op = 1 ∨ op = 2 ∨ op = 3 ∨ op = 4 ∨ op = 5 ∨ op = 6 ∨ op = 7 ∨ op = 8 ∨ op = 9 ∨ op = 10 ∨ op = 11 ∨ op = 12 ∨ op = 13 := by omega
 rcases hk with rfl | rfl | rfl | rfl | rfl | rfl | rfl | rfl | rfl | rfl | rfl | rfl | rfl
 · exact go_1 kk a p v t (by simp [sd, pd, e1, e2, e3, e4, e5])
 · exact go_2 kk a p v t (by simp [sd, pd, e1, e2, e3, e4, e5])
 · exact go_3 kk a p v t (by simp [sd, pd, e1, e2, e3, e4, e5])
 · exact go_4 kk a p v t (by simp [sd, pd, e1, e2, e3, e4, e5])
 · exact go_5 kk a p v t (by simp [sd, pd, e1, e2, e3, e4, e5])
 · exact go_6 kk a p v t (by simp [sd, pd, e1, e2, e3, e4, e5])
 · exact go_7 kk a p v t (by simp [sd, pd, e1, e2, e3, e4, e5])
 · exact go_8 kk a p v t (by simp [sd, pd, e1, e2, e3, e4, e5])
 · exact go_9 kk a p v t (by simp [sd, pd, e1, e2, e3, e4, e5])
 · exact go_10 kk a p v t (by simp [sd, pd, e1, e2, e3, e4, e5])
 · exact go_11 kk a p v t (by simp [sd, pd, e1, e2, e3, e4, e5])
 · exact go_12 kk a p v t (by simp [sd, pd, e1, e2, e3, e4, e5])
 · exact go_13 kk a p v t (by simp [sd, pd, e1, e2, e3, e4, e5])
structure PI (L : List In) (D : List Int) (op : List (Int × Int)) : Prop where
 mrk : Mk L D
 rc : ∀ q ∈ op, Rc L q.1 q.2 ∧ q.2 + lack D ≤ L.length
 cl : ∀ (i : Nat) (v : Int) (x : In), D[i]? = some v → v ≠ -1 → L[i]? = some x → ∀ q ∈ (sd x i v).1, q ∈ op ∨ D[q.1.toNat]? = some q.2
 zero : (0, 0) ∈ op ∨ D[0]? = some 0
 len : op.length + 3 * lack D ≤ 3 * L.length + 1
def RI (L : List In) (x : X) (s : St) : Prop := (x = .exit 0 ∧ ∃ D, Cld L D ∧ s = Nm [2, 3, 6] [.junk, .junk, .own 3 (D.map (I ·))] [none, none, none] [] []) ∨ (x = .ret ∧ BadS L ∧ ∃ D, s = Nm [2, 3, 6] [.own 3 [], .dat (B false), .own 3 D] [none, none, none] [] [])
theorem PI.skip {L : List In} {D : List Int} {l : List (Int × Int)} {p v : Int} (hL : Ops L) (h : PI L D (l ++ [(p, v)])) (hd : D[p.toNat]? = some v) : PI L D l := by
 have hin : ∀ q, q ∈ l ++ [(p, v)] → q ∈ l ∨ D[q.1.toNat]? = some q.2 := fun q hq => by
  rcases List.mem_append.1 hq with hq | hq
  · exact .inl hq
  · rw [List.mem_singleton] at hq; subst hq; exact .inr hd
 refine ⟨h.mrk, fun q hq => h.rc q (List.mem_append_left _ hq), fun i w x hi hw hx q hq => ?_, ?_, by have := h.len; simp at this; omega⟩
 · rcases h.cl i w x hi hw hx q hq with hq | hq
   · exact hin q hq
   · exact .inr hq
 · rcases h.zero with hz | hz
   · exact hin (0, 0) hz
   · exact .inr hz
theorem PI.mark {L : List In} {D : List Int} {l : List (Int × Int)} {p : Nat} {v : Int} {x : In} (hL : Ops L) (h : PI L D (l ++ [((p : Int), v)])) (hd : D[p]? = some (-1)) (hx : L[p]? = some x) (hok : (sd x p v).2 = true) : PI L (D.set p v) (l ++ (sd x p v).1) := by
 obtain ⟨hr, hb⟩ := h.rc ((p : Int), v) (by simp)
 simp only at hr hb
 have hpos := hr.pos hL
 have hxa := (hL.2 x (List.mem_of_getElem? hx)).2
 have hs := zea hpos.1 hpos.2 hxa.1 hok
 have hl := zdf (v := v) hd (by omega)
 have hpl : p < D.length := (List.getElem?_eq_some_iff.1 hd).1
 have hget : ∀ q : Int × Int, 0 ≤ q.2 → D[q.1.toNat]? = some q.2 → (D.set p v)[q.1.toNat]? = some q.2 := fun q h0 hq => by
  rw [List.getElem?_set_ne (fun e => ?_)]
  · exact hq
  · rw [← e, hd] at hq
    have := Option.some.inj hq
    omega
 refine ⟨h.mrk.set hr hpos.2 hx hok, fun q hq => ?_, fun i w y hi hw hy q hq => ?_, ?_, ?_⟩
 · rcases List.mem_append.1 hq with hq | hq
   · have := h.rc q (List.mem_append_left _ hq)
     exact ⟨this.1, by omega⟩
   · have h3 := hs q hq
     refine ⟨Rc.step (p := p) (v := v) hr (by rw [Int.toNat_natCast]; exact hx) hok hq, by omega⟩
 · rw [List.getElem?_set] at hi
   split at hi
   · rename_i e
     subst e
     try rw [if_pos hpl] at hi
     cases hi
     rw [hx] at hy
     cases hy
     exact .inl (List.mem_append_right _ hq)
   · rcases h.mrk.ok i w hi with h1 | ⟨h0, hri, z, hz, hzk⟩
     · exact absurd h1 hw
     · rw [hy] at hz
       cases hz
       have hq0 := (zea (by omega) h0 (hL.2 y (List.mem_of_getElem? hy)).2.1 hzk q hq).2.1
       rcases h.cl i w y hi hw hy q hq with hq | hq
       · rcases List.mem_append.1 hq with hq | hq
         · exact .inl (List.mem_append_left _ hq)
         · rw [List.mem_singleton] at hq
           subst hq
           right
           simp only [Int.toNat_natCast]
           rw [List.getElem?_set_self hpl]
       · exact .inr (hget q hq0 hq)
 · rcases h.zero with hz | hz
   · rcases List.mem_append.1 hz with hq | hq
     · exact .inl (List.mem_append_left _ hq)
     · rw [List.mem_singleton] at hq
       have h1 : (p : Int) = 0 := (congrArg Prod.fst hq).symm
       have h2 : v = 0 := (congrArg Prod.snd hq).symm
       have h3 : p = 0 := by omega
       subst h3 h2
       exact .inr (by rw [List.getElem?_set_self hpl])
   · exact .inr (hget (0, 0) (Int.le_refl _) hz)
 · have := h.len
   have h2 := zlS x p v
   simp only [List.length_append, List.length_singleton] at this ⊢
   omega
theorem zjm (b : Bool) (L : List In) (hL : Ops L) (D : List Int) (op : List (Int × Int)) (h : PI L D op) :
 (∃ a' : List Int × List (Int × Int), PI L a'.1 a'.2 ∧ 3 * lack a'.1 + a'.2.length < 3 * lack D + op.length ∧ ∀ kk, 2 ≤ kk → ∀ (m : Nat) (s : St) (K : X → St → Prop), s.norm ((zaG cfg kk 11 Tryd.f11).live (zaa (lp Tryd.f11 6))) = hd11 b (L.map DIns) (D.map (I ·)) (op.map pd) → (∀ s : St, s.norm ((zaG cfg kk 11 Tryd.f11).live (zaa (lp Tryd.f11 6))) = hd11 b (L.map DIns) (a'.1.map (I ·)) (a'.2.map pd) → zao (zaG cfg kk 11 Tryd.f11) kk (lp Tryd.f11 6) m s K) → zao (zaG cfg kk 11 Tryd.f11) kk (lp Tryd.f11 6) (m + 1) s K) ∨
 (∃ x s', RI L x s' ∧ ∀ kk, 2 ≤ kk → ∀ (m : Nat) (s : St) (K : X → St → Prop), s.norm ((zaG cfg kk 11 Tryd.f11).live (zaa (lp Tryd.f11 6))) = hd11 b (L.map DIns) (D.map (I ·)) (op.map pd) → K x s' → zao (zaG cfg kk 11 Tryd.f11) kk (lp Tryd.f11 6) (m + 1) s K) := by
 have hlen : (L.map DIns).length = L.length := by simp
 have hN := hL.1
 rcases List.eq_nil_or_concat op with rfl | ⟨l, ⟨p, v⟩, rfl⟩
 · right
   refine ⟨_, _, .inl ⟨rfl, D, ⟨h.mrk, ?_, fun i w x hi hw hx q hq => ?_⟩, rfl⟩, fun kk hk m s K hs hK => ?_⟩
   · rcases h.zero with hz | hz
     · cases hz
     · exact hz
   · rcases h.cl i w x hi hw hx q hq with hq | hq
     · cases hq
     · exact hq
   · exact zfO kk m b _ _ _ 0 0 0 0 0 0 ⟨0, 0, ByteArray.empty⟩ [] true hs (fun d => absurd (of_decide_eq_true d) (by simp)) (fun d => absurd (of_decide_eq_true d) (by simp)) (fun d => absurd (of_decide_eq_true d) (by simp)) (fun d => absurd (of_decide_eq_true d) (by simp)) (fun d => absurd (of_decide_eq_true d) (by simp)) (fun d => absurd (of_decide_eq_true d) (by simp)) (fun d => absurd (of_decide_eq_true d) (by simp)) (fun d => absurd (of_decide_eq_true d) (by simp)) (fun _ => hK)
 rw [List.concat_eq_append] at h ⊢
 obtain ⟨hr, hb⟩ := h.rc (p, v) (by simp)
 simp only at hr hb
 have hpos := hr.pos hL
 have hol := h.len
 simp only [List.length_append, List.length_singleton] at hol
 have hml : ((l ++ [(p, v)]).map pd).length = l.length + 1 := by simp
 have e1 : w64 ((((l ++ [(p, v)]).map pd).length : Int) - 1) = l.length := by rw [hml, za5 (by omega)]; omega
 have o1 : 0 ≤ w64 ((((l ++ [(p, v)]).map pd).length : Int) - 1) ∧ w64 ((((l ++ [(p, v)]).map pd).length : Int) - 1) < (((l ++ [(p, v)]).map pd).length : Int) := by rw [e1, hml]; omega
 have o2 : ((l ++ [(p, v)]).map pd)[(w64 ((((l ++ [(p, v)]).map pd).length : Int) - 1)).toNat]? = some (Dat.agg [I p, I v]) := by
  rw [e1, Int.toNat_natCast, List.map_append, List.getElem?_append_right (by simp)]
  simp [pd]
 have o3 : 0 ≤ w64 ((((l ++ [(p, v)]).map pd).length : Int) - 1) ∧ w64 ((((l ++ [(p, v)]).map pd).length : Int) - 1) ≤ (((l ++ [(p, v)]).map pd).length : Int) := by rw [e1, hml]; omega
 have htk : List.take (w64 ((((l ++ [(p, v)]).map pd).length : Int) - 1)).toNat ((l ++ [(p, v)]).map pd) = l.map pd := by
  rw [e1, Int.toNat_natCast, List.map_append, List.take_left' (by simp)]
 have hno : ¬ (decide (0 < (((l ++ [(p, v)]).map pd).length : Int)) = false) := fun d => absurd (of_decide_eq_false d) (by omega)
 by_cases hpn : (L.length : Int) ≤ p
 · right
   refine ⟨_, _, .inr ⟨rfl, ⟨p, v, hr, .inl hpn⟩, D.map (I ·), rfl⟩, fun kk hk m s K hs hK => ?_⟩
   have no : ¬ (decide (((L.map DIns).length : Int) ≤ p) = false) := fun d => absurd (of_decide_eq_false d) (by omega)
   exact zfO kk m b _ _ _ p v 0 0 0 0 ⟨0, 0, ByteArray.empty⟩ [] true hs (fun _ _ => ⟨o1, o2, o3, hK⟩) (fun _ d => absurd d no) (fun _ d => absurd d no) (fun _ d => absurd d no) (fun _ d => absurd d no) (fun _ d => absurd d no) (fun _ d => absurd d no) (fun _ d => absurd d no) (fun d => absurd d hno)
 obtain ⟨n, rfl⟩ : ∃ n : Nat, p = n := ⟨p.toNat, by omega⟩
 have hnl : n < L.length := by omega
 have hdl : n < D.length := by rw [h.mrk.len]; exact hnl
 have no : ¬ (decide (((L.map DIns).length : Int) ≤ (n : Int)) = true) := fun d => absurd (of_decide_eq_true d) (by omega)
 obtain ⟨z, hz⟩ : ∃ z, D[n]? = some z := ⟨_, List.getElem?_eq_getElem hdl⟩
 obtain ⟨x, hx⟩ : ∃ x, L[n]? = some x := ⟨_, List.getElem?_eq_getElem hnl⟩
 have b1 : 0 ≤ (n : Int) ∧ (n : Int) < ((D.map (I ·)).length : Int) := by simp; omega
 have b2 : (D.map (I ·))[((n : Nat) : Int).toNat]? = some (I z) := by rw [Int.toNat_natCast, List.getElem?_map, hz]; rfl
 by_cases hz0 : 0 ≤ z
 · have nz : ¬ (decide (0 ≤ z) = false) := fun d => absurd (of_decide_eq_false d) (by omega)
   by_cases hzv : z = v
   · subst hzv
     left
     refine ⟨(D, l), h.skip hL (by rw [Int.toNat_natCast]; exact hz), by simp, fun kk hk m s K hs hn => ?_⟩
     exact zfO kk m b _ _ _ n z z z z z x [] true hs (fun _ d => absurd d no) (fun _ _ _ d => absurd d (by simp)) (fun _ _ _ _ _ => ⟨o1, o2, o3, b1, b2, b1, b2, b1, b2, fun s' hs' => hn s' (by rw [hs', htk]; rfl)⟩) (fun _ _ _ _ d => absurd d nz) (fun _ _ _ _ d => absurd d nz) (fun _ _ d => absurd d nz) (fun _ _ d => absurd d nz) (fun _ _ d => absurd d nz) (fun d => absurd d hno)
   · right
     have hrz : Rc L n z := by
      rcases h.mrk.ok n z hz with h1 | ⟨_, h1, _⟩
      · omega
      · exact h1
     refine ⟨_, _, .inr ⟨rfl, ⟨n, v, hr, .inr (.inr ⟨z, hrz, hzv⟩)⟩, D.map (I ·), rfl⟩, fun kk hk m s K hs hK => ?_⟩
     have nv : ¬ ((!decide (z = v)) = false) := by simp [hzv]
     exact zfO kk m b _ _ _ n v z z z z x [] true hs (fun _ d => absurd d no) (fun _ _ _ _ => ⟨o1, o2, o3, b1, b2, b1, b2, hK⟩) (fun _ _ _ d => absurd d nv) (fun _ _ _ d => absurd d nv) (fun _ _ _ d => absurd d nv) (fun _ _ d => absurd d nz) (fun _ _ d => absurd d nz) (fun _ _ d => absurd d nz) (fun d => absurd d hno)
 · have hz1 : z = -1 := by
    rcases h.mrk.ok n z hz with h1 | ⟨h1, _⟩
    · exact h1
    · omega
   subst hz1
   have nz : ¬ (decide (0 ≤ (-1 : Int)) = true) := by simp
   have hxo := hL.2 x (List.mem_of_getElem? hx)
   have hg := ev_go x n v hxo.1 hxo.2 ⟨by omega, by omega⟩ ⟨hpos.2, by omega⟩
   have b3 := ih (gm (f := DIns) hx)
   have hset : (D.map (I ·)).set ((n : Nat) : Int).toNat (I v) = (D.set n v).map (I ·) := by rw [Int.toNat_natCast, List.map_set]
   cases hok : (sd x n v).2 with
   | false =>
     right
     refine ⟨_, _, .inr ⟨rfl, ⟨n, v, hr, .inr (.inl ⟨x, by rw [Int.toNat_natCast]; exact hx, hok⟩)⟩, (D.map (I ·)).set ((n : Nat) : Int).toNat (I v), rfl⟩, fun kk hk m s K hs hK => ?_⟩
     have hg := hg kk (by omega)
     rw [hok] at hg
     exact zfO kk m b _ _ _ n v (-1) (-1) (-1) (-1) x _ false hs (fun _ d => absurd d no) (fun _ _ d => absurd d nz) (fun _ _ d => absurd d nz) (fun _ _ d => absurd d nz) (fun _ _ d => absurd d nz) (fun _ _ _ d => absurd d nz) (fun _ _ _ _ _ => ⟨o1, o2, o3, b1, b2, b1, b2, b1, b2, b3, hg, hK⟩) (fun _ _ _ _ d => by cases d) (fun d => absurd d hno)
   | true =>
     left
     have hl := zdf (v := v) hz (by omega)
     have h2 := zlS x n v
     have hm := h.mark hL hz hx hok
     refine ⟨(D.set n v, l ++ (sd x n v).1), hm, by simp only [List.length_append, List.length_singleton]; omega, fun kk hk m s K hs hn => ?_⟩
     have hg := hg kk (by omega)
     rw [hok] at hg
     have hal : ∀ q : List (Int × Int), ((q.map pd).all fun d => d.cells.length.beq (TI.mk TK.struct 2 16 [(0, 3), (1, 3)] [.dat (I 0), .dat (I 0)]).sz) = true := fun q => by
      rw [List.all_eq_true]
      intro d hd
      obtain ⟨y, _, rfl⟩ := List.mem_map.1 hd
      rfl
     refine zfO kk m b _ _ _ n v (-1) (-1) (-1) (-1) x _ true hs (fun _ d => absurd d no) (fun _ _ d => absurd d nz) (fun _ _ d => absurd d nz) (fun _ _ d => absurd d nz) (fun _ _ d => absurd d nz) (fun _ _ _ d => absurd d nz) (fun _ _ _ _ d => by cases d) (fun _ _ _ _ _ => ⟨o1, o2, o3, b1, b2, b1, b2, b1, b2, b3, hg, ⟨hal _, ?_⟩, fun s' hs' => hn s' ?_⟩) (fun d => absurd d hno)
     · rw [htk]
       simp only [List.length_map]
       omega
     · rw [hs', htk, hset, ← List.map_append]
       rfl
theorem zgk : ∀ zs : List Int, Dat.cleans (zs.map (I ·)) = true
 | [] => rfl
 | z :: zs => by
   show (true && Dat.cleans (zs.map (I ·))) = true
   rw [zgk zs]
   rfl
theorem zg5 (n : Nat) : D.cleans [.own 3 (List.replicate n (I (-1)))] = true := by
 have := zgk (List.replicate n (-1))
 rw [List.map_replicate] at this
 show (Dat.cleans (List.replicate n (I (-1))) && true) = true
 rw [this]
 rfl
theorem zdp (n : Nat) : lack (List.replicate n (-1)) = n := by
 unfold lack
 rw [List.countP_replicate, if_pos (by rfl)]
theorem zkt (L : List In) : Mk L (List.replicate L.length (-1)) := ⟨by simp, fun i v hi => by
 rw [List.getElem?_replicate] at hi
 split at hi
 · cases hi; exact .inl rfl
 · cases hi⟩
theorem znm (x : Int) (n : Nat) (h : n ≤ 1000000) : EvN 1 22 [.dat (.lst true [I x]), .dat (I n)] [] [] ([.own 3 (List.replicate n (I x))], [], []) :=
 zkk (g := ziS 3) (by kernel_rfl) (by
  have h1 : (decide (0 ≤ (n : Int)) && decide ((n : Int) ≤ 1000000)) = true := by simp; omega
  show (match decide (0 ≤ (n : Int)) && decide ((n : Int) ≤ 1000000) with | true => some ([D.own 3 (List.replicate ((n : Nat) : Int).toNat (DI x))], [], []) | false => none) = _
  rw [h1, Int.toNat_natCast]
  rfl)
def Tells (L : List In) (D : List Int) (g : Bool) : Prop := (g = true ∧ okT L = true ∧ Cld L D) ∨ (g = false ∧ D = [] ∧ (okT L = true → BadS L))
theorem Tells.one {L : List In} {D D' : List Int} {g g' : Bool} (h : Tells L D g) (h' : Tells L D' g') : D = D' ∧ g = g' := by
 rcases h with ⟨rfl, ho, hc⟩ | ⟨rfl, rfl, hb⟩
 · rcases h' with ⟨rfl, _, hc'⟩ | ⟨rfl, rfl, hb⟩
   · exact ⟨hc.one (zg9 ho) hc', rfl⟩
   · exact absurd (hb ho) (hc.notBad (zg9 ho))
 · rcases h' with ⟨rfl, ho, hc'⟩ | ⟨rfl, rfl, _⟩
   · exact absurd (hb ho) (hc'.notBad (zg9 ho))
   · exact ⟨rfl, rfl⟩
theorem zml (b : Bool) (L : List In) : ∃ D g, Tells L D g ∧ D.length ≤ L.length ∧ EvN 1048600 11 [.dat (.lst b (L.map DIns))] [] [] ([.own 3 (D.map (I ·)), .dat (B g)], [], []) := by
 cases hok : okT L with
 | false =>
   refine ⟨[], false, .inr ⟨rfl, rfl, fun h => by rw [hok] at h; cases h⟩, Nat.zero_le _, zba Tryd.f11 1048599 (by kernel_rfl) (by kernel_rfl) fun kk hkk => ?_⟩
   have ht := zgr b L kk (by omega)
   rw [hok] at ht
   exact zlP kk b _ [] [] _ false (fun _ => ⟨ht, rfl⟩) (fun d => by cases d)
 | true =>
   have hL := zg9 hok
   have hlen : (L.map DIns).length = L.length := by simp
   have h0 : PI L (List.replicate L.length (-1)) [(0, 0)] := by
    refine ⟨zkt L, fun q hq => ?_, fun i v x hi hv => ?_, .inl (by simp), by rw [zdp]; simp; omega⟩
    · rw [List.mem_singleton] at hq
      subst hq
      exact ⟨.start, by rw [zdp]; simp⟩
    · rw [List.getElem?_replicate] at hi
      split at hi
      · cases hi; exact absurd rfl hv
      · cases hi
   obtain ⟨x, s', hR, hloop⟩ := ziR (f := 11) (fn := Tryd.f11) (r := 6) 2 (fun a : List Int × List (Int × Int) => hd11 b (L.map DIns) (a.1.map (I ·)) (a.2.map pd)) (fun a => PI L a.1 a.2) (fun a => 3 * lack a.1 + a.2.length) (RI L) (fun a ha => zjm b L hL a.1 a.2 ha) (a0 := (List.replicate L.length (-1), [(0, 0)])) h0
   have hmu : 3 * lack (List.replicate L.length (-1)) + [((0 : Int), (0 : Int))].length ≤ 9001 := by rw [zdp]; have := hL.1; simp; omega
   have hrep := znm (-1) L.length (by have := hL.1; omega)
   have hmr : (List.replicate L.length (-1 : Int)).map (I ·) = List.replicate L.length (I (-1)) := by rw [List.map_replicate]
   rcases hR with ⟨rfl, D, hc, rfl⟩ | ⟨rfl, hb, D, rfl⟩
   · refine ⟨D, true, .inl ⟨rfl, hok, hc⟩, by rw [hc.mrk.len]; exact Nat.le_refl _, zba Tryd.f11 1048599 (by kernel_rfl) (by kernel_rfl) fun kk hkk => ?_⟩
     have ht := zgr b L kk (by omega)
     rw [hok] at ht
     have hlp := hloop kk (by omega) (by simp only at *; omega)
     simp only [hmr] at hlp
     refine zlP kk b _ _ _ _ true (fun d => by cases d) (fun _ => ⟨ht, zg5 _, by rw [hlen]; exact hrep kk (by omega), hlp, rfl⟩)
   · refine ⟨[], false, .inr ⟨rfl, rfl, fun _ => hb⟩, Nat.zero_le _, zba Tryd.f11 1048599 (by kernel_rfl) (by kernel_rfl) fun kk hkk => ?_⟩
     have ht := zgr b L kk (by omega)
     rw [hok] at ht
     have hlp := hloop kk (by omega) (by simp only at *; omega)
     simp only [hmr] at hlp
     refine znc kk b _ _ _ _ true (fun d => by cases d) (fun _ => ⟨ht, zg5 _, by rw [hlen]; exact hrep kk (by omega), hlp, rfl⟩)
end Go.Den
namespace Go.Den
open Go.Proofs
open Go
set_option linter.unusedVariables false
set_option maxRecDepth 100000
open Go.Proofs.YtmoocdlfclhgcaaDoor (okT zdN)
def ExD (D D' : List Int) : Prop := ∀ (i : Nat) (v : Int), D[i]? = some v → v ≠ -1 → D'[i]? = some v
def ClX (L : List In) (D D' : List Int) : Prop := ∀ (i : Nat) (v : Int) (x : In), D'[i]? = some v → v ≠ -1 → D[i]? = some (-1) → L[i]? = some x → ∀ q ∈ (sd x i v).1, D'[q.1.toNat]? = some q.2
theorem ExD.refl (D : List Int) : ExD D D := fun _ _ h _ => h
theorem ExD.trans {A B C : List Int} (h : ExD A B) (h' : ExD B C) : ExD A C := fun i v hi hv => h' i v (h i v hi hv) hv
theorem ClX.refl (L : List In) (D : List Int) : ClX L D D := fun i v x h hv h' => by rw [h] at h'; exact absurd (Option.some.inj h') hv
def Post (L : List In) (D : List Int) (p n : Int) (D' : List Int) (g : Bool) : Prop := (g = true ∧ BadS L) ∨ (g = false ∧ Mk L D' ∧ ExD D D' ∧ ClX L D D' ∧ D'[p.toNat]? = some n)
theorem zfd {L : List In} {D D2 D' : List Int} {p : Nat} {n : Int} {x : In} (hL : Ops L) (hM : Mk L D) (hd : D[p]? = some (-1)) (hx : L[p]? = some x) (hn : 0 ≤ n) (hM2 : Mk L D2) (h1 : ExD (D.set p n) D2) (c1 : ClX L (D.set p n) D2) (hM' : Mk L D') (h2 : ExD D2 D') (c2 : ClX L D2 D')
 (hs : ∀ q ∈ (sd x p n).1, D'[q.1.toNat]? = some q.2) : Post L D p n D' false := by
 have hpl : p < D.length := (List.getElem?_eq_some_iff.1 hd).1
 have e1 : ExD D (D.set p n) := fun i v hi hv => by
  rw [List.getElem?_set_ne (fun e => ?_)]
  · exact hi
  · subst e; rw [hd] at hi; exact hv (Option.some.inj hi).symm
 have hp' : D'[p]? = some n := h2 p n (h1 p n (by rw [List.getElem?_set_self hpl]) (by omega)) (by omega)
 refine .inr ⟨rfl, hM', (e1.trans h1).trans h2, fun i v y hi hv hdi hy q hq => ?_, by rw [Int.toNat_natCast]; exact hp'⟩
 by_cases e : p = i
 · subst e
   rw [hp'] at hi
   cases hi
   rw [hx] at hy
   cases hy
   exact hs q hq
 · have hd1 : (D.set p n)[i]? = some (-1) := by rw [List.getElem?_set_ne e]; exact hdi
   obtain ⟨w, hw⟩ : ∃ w, D2[i]? = some w := by
    have hl : i < D2.length := by
     have := (List.getElem?_eq_some_iff.1 hdi).1
     rw [hM2.len, ← hM.len]; exact this
    exact ⟨_, List.getElem?_eq_getElem hl⟩
   by_cases hw1 : w = -1
   · subst hw1
     exact c2 i v y hi hv hw hy q hq
   · have := h2 i w hw hw1
     rw [hi] at this
     cases this
     rcases hM2.ok i v hw with h0 | ⟨h0, hr, z, hz, hzk⟩
     · exact absurd h0 hv
     · rw [hy] at hz
       cases hz
       have hq0 := (zea (by omega) h0 (hL.2 y (List.mem_of_getElem? hy)).2.1 hzk q hq).2.1
       exact h2 _ _ (c1 i v y hw hv hd1 hy q hq) (by omega)
noncomputable abbrev E21 (kk : Nat) : Env := zaG cfg kk 21 Tryd.f21
noncomputable abbrev c21 : Code := lp Tryd.f21 0
abbrev hdN (b : Bool) (L : List In) (D : List Int) (g : Bool) (p n : Int) : St := hdm b (L.map DIns) (D.map (I ·)) g p n
abbrev endN (b : Bool) (L : List In) (D : List Int) (g : Bool) : St := Nm [] [] [] [Lc b (L.map DIns) (D.map (I ·)) g] []
def RS (b : Bool) (L : List In) (k : Nat) : Prop := ∀ (D : List Int) (p n : Int), Mk L D → lack D ≤ k → Rc L p n → n + lack D ≤ L.length →
 ∃ x D' g', (x = .exit 0 ∨ x = .ret) ∧ Post L D p n D' g' ∧ D'.length = L.length ∧ ∀ kk, k + 2 ≤ kk → ∀ K : X → St → Prop, K x (endN b L D' g') → ∀ m, k < m → ∀ s : St, s.norm ((E21 kk).live (zaa c21)) = hdN b L D false p n → zao (E21 kk) kk c21 m s K
theorem RS.ev {b : Bool} {L : List In} {k : Nat} (h : RS b L k) {D : List Int} {p n : Int} (hM : Mk L D) (hl : lack D ≤ k) (hr : Rc L p n) (hn : n + lack D ≤ L.length) :
 ∃ D' g', Post L D p n D' g' ∧ D'.length = L.length ∧ EvN (k + 3) 21 [.ptr (.up 0) 0, .dat (I p), .dat (I n)] [Lc b (L.map DIns) (D.map (I ·)) false] [] ([], [Lc b (L.map DIns) (D'.map (I ·)) g'], []) := by
 obtain ⟨x, D', g', hx, hP, hlen, hro⟩ := h D p n hM hl hr hn
 refine ⟨D', g', hP, hlen, zba Tryd.f21 (k + 2) (by kernel_rfl) (by kernel_rfl) fun kk hkk => ?_⟩
 have hlp : zav cfg kk 21 Tryd.f21 0 (hdN b L D false p n) x (endN b L D' g') := zb5 fun s hs => hro kk hkk _ ⟨rfl, rfl⟩ kk (by omega) s hs
 rcases hx with rfl | rfl
 · exact zlT kk b _ _ _ false g' p n ⟨hlp, rfl⟩
 · exact zmH kk b _ _ _ false g' p n ⟨hlp, rfl⟩
theorem zhN (b : Bool) (L : List In) (D : List Int) (p n : Int) : EvN 2 21 [.ptr (.up 0) 0, .dat (I p), .dat (I n)] [Lc b (L.map DIns) (D.map (I ·)) true] [] ([], [Lc b (L.map DIns) (D.map (I ·)) true], []) := by
 refine zba Tryd.f21 1 (by kernel_rfl) (by kernel_rfl) fun kk hkk => ?_
 refine zlT kk b _ _ _ true true p n ⟨zb5 fun s hs => ?_, rfl⟩
 obtain ⟨m, rfl⟩ : ∃ m, kk = m + 1 := ⟨kk - 1, by omega⟩
 exact zlw (m + 1) m b _ _ p n hs ⟨rfl, rfl⟩
theorem tail {b : Bool} {L : List In} {k : Nat} (h : RS b L k) {D2 : List Int} {g2 : Bool} {q w : Int} (hlen : D2.length = L.length) (h2 : (g2 = true ∧ BadS L) ∨ (g2 = false ∧ Mk L D2 ∧ lack D2 ≤ k ∧ Rc L q w ∧ w + lack D2 ≤ L.length)) :
 ∃ x D' g', (x = .exit 0 ∨ x = .ret) ∧ ((g' = true ∧ BadS L) ∨ (g' = false ∧ g2 = false ∧ Mk L D' ∧ ExD D2 D' ∧ ClX L D2 D' ∧ D'[q.toNat]? = some w)) ∧ D'.length = L.length ∧ ∀ kk, k + 2 ≤ kk → ∀ K : X → St → Prop, K x (endN b L D' g') → ∀ m, k < m → ∀ s : St, s.norm ((E21 kk).live (zaa c21)) = hdN b L D2 g2 q w → zao (E21 kk) kk c21 m s K := by
 rcases h2 with ⟨rfl, hb⟩ | ⟨rfl, hM, hl, hr, hn⟩
 · refine ⟨.exit 0, D2, true, .inl rfl, .inl ⟨rfl, hb⟩, hlen, fun kk hkk K hK m hm s hs => ?_⟩
   obtain ⟨m, rfl⟩ : ∃ k, m = k + 1 := ⟨m - 1, by omega⟩
   exact zlw kk m b _ _ q w hs hK
 · obtain ⟨x, D', g', hx, hP, hlen', hro⟩ := h D2 q w hM hl hr hn
   refine ⟨x, D', g', hx, ?_, hlen', hro⟩
   rcases hP with h | ⟨h1, h2, h3, h4, h5⟩
   · exact .inl h
   · exact .inr ⟨h1, rfl, h2, h3, h4, h5⟩
def Goal (b : Bool) (L : List In) (k : Nat) (D : List Int) (p n : Int) : Prop := ∃ x D' g', (x = .exit 0 ∨ x = .ret) ∧ Post L D p n D' g' ∧ D'.length = L.length ∧ ∀ kk, k + 2 ≤ kk → ∀ K : X → St → Prop, K x (endN b L D' g') → ∀ m, k < m → ∀ s : St, s.norm ((E21 kk).live (zaa c21)) = hdN b L D false p n → zao (E21 kk) kk c21 m s K
theorem zg4 {b : Bool} {L : List In} {k : Nat} (hL : Ops L) (h : RS b L k) {D : List Int} {p : Nat} {n : Int} {x : In} (hM : Mk L D) (hl : lack D ≤ k + 1) (hr : Rc L p n) (hn : n + lack D ≤ L.length) (hd : D[p]? = some (-1)) (hx : L[p]? = some x) {q w : Int} {ok : Bool} (hsd : sd x p n = ([(q, w)], ok))
 (hst : ∀ (kk m : Nat) (s : St) (K : X → St → Prop), s.norm ((E21 kk).live (zaa c21)) = hdN b L D false p n → (∀ s : St, s.norm ((E21 kk).live (zaa c21)) = hdN b L (D.set p n) (!ok) q w → zao (E21 kk) kk c21 m s K) → zao (E21 kk) kk c21 (m + 1) s K) : Goal b L (k + 1) D p n := by
 have hpos := hr.pos hL
 have hls := zdf (v := n) hd (by omega)
 have h2 : ((!ok) = true ∧ BadS L) ∨ ((!ok) = false ∧ Mk L (D.set p n) ∧ lack (D.set p n) ≤ k ∧ Rc L q w ∧ w + lack (D.set p n) ≤ L.length) := by
  cases hok : ok with
  | false => exact .inl ⟨rfl, p, n, hr, .inr (.inl ⟨x, by rw [Int.toNat_natCast]; exact hx, by rw [hsd, hok]⟩)⟩
  | true =>
    have hk : (sd x p n).2 = true := by rw [hsd, hok]
    have hq : (q, w) ∈ (sd x p n).1 := by rw [hsd]; simp
    have := zea hpos.1 hpos.2 (hL.2 x (List.mem_of_getElem? hx)).2.1 hk _ hq
    exact .inr ⟨rfl, hM.set hr hpos.2 hx hk, by omega, Rc.step hr (by rw [Int.toNat_natCast]; exact hx) hk hq, by simp only at this; omega⟩
 obtain ⟨y, D', g', hy, hP, hlen, hro⟩ := tail h (by rw [List.length_set, hM.len]) h2
 refine ⟨y, D', g', hy, ?_, hlen, fun kk hkk K hK m hm s hs => ?_⟩
 · rcases hP with h | ⟨rfl, hok, h3, h4, h5, h6⟩
   · exact .inl h
   · rcases h2 with ⟨e, _⟩ | ⟨_, h7, _⟩
     · rw [hok] at e; cases e
     · exact zfd hL hM hd hx hpos.2 h7 (ExD.refl _) (ClX.refl _ _) h3 h4 h5 fun z hz => by
        rw [hsd, List.mem_singleton] at hz
        subst hz
        exact h6
 · obtain ⟨m, rfl⟩ : ∃ k, m = k + 1 := ⟨m - 1, by omega⟩
   exact hst kk m s K hs fun s hs => hro kk (by omega) K hK m (by omega) s hs
theorem zmX {b : Bool} {L : List In} {k : Nat} (hL : Ops L) (h : RS b L k) {D : List Int} {p : Nat} {n : Int} {x : In} (hM : Mk L D) (hl : lack D ≤ k + 1) (hr : Rc L p n) (hn : n + lack D ≤ L.length) (hd : D[p]? = some (-1)) (hx : L[p]? = some x) {q w a v : Int} {ok : Bool} (hsd : sd x p n = ([(q, w), (a, v)], ok))
 (hst : ∀ (kk m : Nat) (s : St) (K : X → St → Prop) (D2 : List Int) (g2 : Bool), s.norm ((E21 kk).live (zaa c21)) = hdN b L D false p n → den cfg kk 21 [.ptr (.up 0) 0, .dat (I a), .dat (I v)] [Lc b (L.map DIns) ((D.set p n).map (I ·)) (!ok)] [] = some ([], [Lc b (L.map DIns) (D2.map (I ·)) g2], []) → (∀ s : St, s.norm ((E21 kk).live (zaa c21)) = hdN b L D2 g2 q w → zao (E21 kk) kk c21 m s K) → zao (E21 kk) kk c21 (m + 1) s K) : Goal b L (k + 1) D p n := by
 have hpos := hr.pos hL
 have hls := zdf (v := n) hd (by omega)
 have hsl : (D.set p n).length = L.length := by rw [List.length_set, hM.len]
 have hrec : ∃ D2 g2, D2.length = L.length ∧ ((g2 = true ∧ BadS L) ∨ (g2 = false ∧ ok = true ∧ Mk L (D.set p n) ∧ Mk L D2 ∧ ExD (D.set p n) D2 ∧ ClX L (D.set p n) D2 ∧ D2[a.toNat]? = some v)) ∧ EvN (k + 3) 21 [.ptr (.up 0) 0, .dat (I a), .dat (I v)] [Lc b (L.map DIns) ((D.set p n).map (I ·)) (!ok)] [] ([], [Lc b (L.map DIns) (D2.map (I ·)) g2], []) := by
  cases hok : ok with
  | false => exact ⟨D.set p n, true, hsl, .inl ⟨rfl, p, n, hr, .inr (.inl ⟨x, by rw [Int.toNat_natCast]; exact hx, by rw [hsd, hok]⟩)⟩, (zhN b L _ a v).mono (by omega)⟩
  | true =>
    have hk : (sd x p n).2 = true := by rw [hsd, hok]
    have hq : (a, v) ∈ (sd x p n).1 := by rw [hsd]; simp
    have hps := zea hpos.1 hpos.2 (hL.2 x (List.mem_of_getElem? hx)).2.1 hk _ hq
    have hM1 := hM.set hr hpos.2 hx hk
    obtain ⟨D2, g2, hP, hlen, hev⟩ := h.ev (D := D.set p n) (p := a) (n := v) hM1 (by omega) (Rc.step hr (by rw [Int.toNat_natCast]; exact hx) hk hq) (by simp only at hps; omega)
    refine ⟨D2, g2, hlen, ?_, hev⟩
    rcases hP with h | ⟨h1, h2, h3, h4, h5⟩
    · exact .inl h
    · exact .inr ⟨h1, rfl, hM1, h2, h3, h4, h5⟩
 obtain ⟨D2, g2, hlen2, hP2, hev⟩ := hrec
 have h2 : (g2 = true ∧ BadS L) ∨ (g2 = false ∧ Mk L D2 ∧ lack D2 ≤ k ∧ Rc L q w ∧ w + lack D2 ≤ L.length) := by
  rcases hP2 with h | ⟨h1, hok, hM1, h2, h3, h4, h5⟩
  · exact .inl h
  · have hk : (sd x p n).2 = true := by rw [hsd, hok]
    have hq : (q, w) ∈ (sd x p n).1 := by rw [hsd]; simp
    have hps := zea hpos.1 hpos.2 (hL.2 x (List.mem_of_getElem? hx)).2.1 hk _ hq
    have hle : lack D2 ≤ lack (D.set p n) := ziH (by rw [h2.len, hsl]) h3
    exact .inr ⟨h1, h2, by omega, Rc.step hr (by rw [Int.toNat_natCast]; exact hx) hk hq, by simp only at hps; omega⟩
 obtain ⟨y, D', g', hy, hP, hlen, hro⟩ := tail h hlen2 h2
 refine ⟨y, D', g', hy, ?_, hlen, fun kk hkk K hK m hm s hs => ?_⟩
 · rcases hP with h | ⟨rfl, hg2, h3, h4, h5, h6⟩
   · exact .inl h
   · rcases hP2 with ⟨e, _⟩ | ⟨_, hok, hM1, i2, i3, i4, i5⟩
     · rw [hg2] at e; cases e
     · have hk : (sd x p n).2 = true := by rw [hsd, hok]
       have hq : (a, v) ∈ (sd x p n).1 := by rw [hsd]; simp
       have hps := zea hpos.1 hpos.2 (hL.2 x (List.mem_of_getElem? hx)).2.1 hk _ hq
       exact zfd hL hM hd hx hpos.2 i2 i3 i4 h3 h4 h5 fun z hz => by
        rw [hsd] at hz
        rcases List.mem_cons.1 hz with rfl | hz
        · exact h6
        · rw [List.mem_singleton] at hz
          subst hz
          exact h4 _ _ i5 (by simp only at hps; omega)
 · obtain ⟨m, rfl⟩ : ∃ k, m = k + 1 := ⟨m - 1, by omega⟩
   exact hst kk m s K D2 g2 hs (hev kk (by omega)) fun s hs => hro kk (by omega) K hK m (by omega) s hs
theorem zl0 {b : Bool} {L : List In} {k : Nat} (hL : Ops L) {D : List Int} {p : Nat} {n : Int} {x : In} (hM : Mk L D) (hr : Rc L p n) (hd : D[p]? = some (-1)) (hx : L[p]? = some x) {ok : Bool} (hsd : sd x p n = ([], ok))
 (hst : ∀ (kk m : Nat) (s : St) (K : X → St → Prop), s.norm ((E21 kk).live (zaa c21)) = hdN b L D false p n → K .ret (endN b L (D.set p n) (!ok)) → zao (E21 kk) kk c21 (m + 1) s K) : Goal b L k D p n := by
 have hpos := hr.pos hL
 refine ⟨.ret, D.set p n, !ok, .inr rfl, ?_, by rw [List.length_set, hM.len], fun kk hkk K hK m hm s hs => ?_⟩
 · cases hok : ok with
   | false => exact .inl ⟨rfl, p, n, hr, .inr (.inl ⟨x, by rw [Int.toNat_natCast]; exact hx, by rw [hsd, hok]⟩)⟩
   | true =>
     have hM1 := hM.set hr hpos.2 hx (show (sd x p n).2 = true by rw [hsd, hok])
     exact zfd hL hM hd hx hpos.2 hM1 (ExD.refl _) (ClX.refl _ _) hM1 (ExD.refl _) (ClX.refl _ _) fun z hz => by rw [hsd] at hz; cases hz
 · obtain ⟨m, rfl⟩ : ∃ k, m = k + 1 := ⟨m - 1, by omega⟩
   exact hst kk m s K hs hK
theorem zfv {n m : Int} : decide (n < m) = !decide (m ≤ n) := by rw [← decide_not, decide_eq_decide]; omega
theorem zkW (b : Bool) (L : List In) (hL : Ops L) : ∀ k, RS b L k := by
 have hN := hL.1
 have hlen : (L.map DIns).length = L.length := by simp
 intro k
 induction k with
 | zero =>
   intro D p n hM hl hr hn
   exact (by
   have hpos := hr.pos hL
   by_cases hpn : (L.length : Int) ≤ p
   · refine ⟨.ret, D, true, .inr rfl, .inl ⟨rfl, p, n, hr, .inl hpn⟩, hM.len, fun kk hkk K hK m hm s hs => ?_⟩
     obtain ⟨m, rfl⟩ : ∃ k, m = k + 1 := ⟨m - 1, by omega⟩
     exact zlL kk m b _ _ p n 0 hs (decide_eq_true (by rw [hlen]; exact hpn)) hK
   obtain ⟨p, rfl⟩ : ∃ i : Nat, p = i := ⟨p.toNat, by omega⟩
   have hpl : p < L.length := by omega
   have hdl : p < D.length := by rw [hM.len]; exact hpl
   obtain ⟨z, hz⟩ : ∃ z, D[p]? = some z := ⟨_, List.getElem?_eq_getElem hdl⟩
   have h1 : decide (((L.map DIns).length : Int) ≤ (p : Int)) = false := decide_eq_false (by omega)
   have h3 : decide (n < 0) = false := decide_eq_false (by omega)
   have b1 : 0 ≤ (p : Int) ∧ (p : Int) < ((D.map (I ·)).length : Int) := by simp; omega
   have b2 : (D.map (I ·))[((p : Nat) : Int).toNat]? = some (I z) := by rw [Int.toNat_natCast, List.getElem?_map, hz]; rfl
   by_cases hz0 : 0 ≤ z
   · have hzt : decide (0 ≤ z) = true := decide_eq_true hz0
     by_cases hzv : z = n
     · subst hzv
       refine ⟨.ret, D, false, .inr rfl, .inr ⟨rfl, hM, ExD.refl _, ClX.refl _ _, by rw [Int.toNat_natCast]; exact hz⟩, hM.len, fun kk hkk K hK m hm s hs => ?_⟩
       obtain ⟨m, rfl⟩ : ∃ k, m = k + 1 := ⟨m - 1, by omega⟩
       exact zlH kk m b _ _ p z z hs h1 h3 b1 b2 hzt b1 b2 (by simp) b1 b2 hzt hK
     · have hrz : Rc L p z := by
        rcases hM.ok p z hz with h1 | ⟨_, h1, _⟩
        · omega
        · exact h1
       refine ⟨.ret, D, true, .inr rfl, .inl ⟨rfl, p, n, hr, .inr (.inr ⟨z, hrz, hzv⟩)⟩, hM.len, fun kk hkk K hK m hm s hs => ?_⟩
       obtain ⟨m, rfl⟩ : ∃ k, m = k + 1 := ⟨m - 1, by omega⟩
       exact zlF kk m b _ _ p n z hs h1 h3 b1 b2 hzt b1 b2 (by simp [hzv]) hK
   · have hz1 : z = -1 := by
      rcases hM.ok p z hz with h1 | ⟨h1, _⟩
      · exact h1
      · omega
     subst hz1
     have := zdf (v := 0) hz (by omega)
     omega)
 | succ k ihk =>
   intro D p n hM hl hr hn
   exact (by
   have hpos := hr.pos hL
   by_cases hpn : (L.length : Int) ≤ p
   · refine ⟨.ret, D, true, .inr rfl, .inl ⟨rfl, p, n, hr, .inl hpn⟩, hM.len, fun kk hkk K hK m hm s hs => ?_⟩
     obtain ⟨m, rfl⟩ : ∃ k, m = k + 1 := ⟨m - 1, by omega⟩
     exact zlL kk m b _ _ p n 0 hs (decide_eq_true (by rw [hlen]; exact hpn)) hK
   obtain ⟨p, rfl⟩ : ∃ i : Nat, p = i := ⟨p.toNat, by omega⟩
   have hpl : p < L.length := by omega
   have hdl : p < D.length := by rw [hM.len]; exact hpl
   obtain ⟨z, hz⟩ : ∃ z, D[p]? = some z := ⟨_, List.getElem?_eq_getElem hdl⟩
   have h1 : decide (((L.map DIns).length : Int) ≤ (p : Int)) = false := decide_eq_false (by omega)
   have h3 : decide (n < 0) = false := decide_eq_false (by omega)
   have b1 : 0 ≤ (p : Int) ∧ (p : Int) < ((D.map (I ·)).length : Int) := by simp; omega
   have b2 : (D.map (I ·))[((p : Nat) : Int).toNat]? = some (I z) := by rw [Int.toNat_natCast, List.getElem?_map, hz]; rfl
   by_cases hz0 : 0 ≤ z
   · have hzt : decide (0 ≤ z) = true := decide_eq_true hz0
     by_cases hzv : z = n
     · subst hzv
       refine ⟨.ret, D, false, .inr rfl, .inr ⟨rfl, hM, ExD.refl _, ClX.refl _ _, by rw [Int.toNat_natCast]; exact hz⟩, hM.len, fun kk hkk K hK m hm s hs => ?_⟩
       obtain ⟨m, rfl⟩ : ∃ k, m = k + 1 := ⟨m - 1, by omega⟩
       exact zlH kk m b _ _ p z z hs h1 h3 b1 b2 hzt b1 b2 (by simp) b1 b2 hzt hK
     · have hrz : Rc L p z := by
        rcases hM.ok p z hz with h1 | ⟨_, h1, _⟩
        · omega
        · exact h1
       refine ⟨.ret, D, true, .inr rfl, .inl ⟨rfl, p, n, hr, .inr (.inr ⟨z, hrz, hzv⟩)⟩, hM.len, fun kk hkk K hK m hm s hs => ?_⟩
       obtain ⟨m, rfl⟩ : ∃ k, m = k + 1 := ⟨m - 1, by omega⟩
       exact zlF kk m b _ _ p n z hs h1 h3 b1 b2 hzt b1 b2 (by simp [hzv]) hK
   · have hz1 : z = -1 := by
      rcases hM.ok p z hz with h1 | ⟨h1, _⟩
      · exact h1
      · omega
     subst hz1
     obtain ⟨x, hx⟩ : ∃ x, L[p]? = some x := ⟨_, List.getElem?_eq_getElem hpl⟩
     have hxo := hL.2 x (List.mem_of_getElem? hx)
     obtain ⟨op, a, t⟩ := x
     simp only at hxo
     have h14 : decide (0 ≤ (-1 : Int)) = false := rfl
     have b3 := ih (gm (f := DIns) hx)
     have hset : (D.map (I ·)).set ((p : Nat) : Int).toNat (I n) = (D.set p n).map (I ·) := by rw [Int.toNat_natCast, List.map_set]
     have e1 : w64 ((p : Int) + 1) = p + 1 := za5 (by omega)
     have e2 : w64 (n + 1) = n + 1 := za5 (by omega)
     have e3 : w64 (n - 1) = n - 1 := za5 (by omega)
     have e4 : w64 (n - a) = n - a := za5 (by omega)
     have e5 : w64 (a + 1) = a + 1 := za5 (by omega)
     have e6 : w64 (w64 (a - 1) + 1) = a := by rw [za5 (n := a - 1) (by omega), za5 (by omega)]; omega
     have hk : op = 1 ∨ op = 2 ∨ op = 3 ∨ op = 4 ∨ op = 5 ∨ op = 6 ∨ op = 7 ∨ op = 8 ∨ op = 9 ∨ op = 10 ∨ op = 11 ∨ op = 12 ∨ op = 13 := by omega
     rcases hk with rfl | rfl | rfl | rfl | rfl | rfl | rfl | rfl | rfl | rfl | rfl | rfl | rfl
     · refine zg4 hL ihk hM hl hr hn hz hx (q := (p : Int) + 1) (w := n + 1) (ok := true) (by simp [sd]) fun kk m s K hs hn' => znf kk m b _ _ [] false p n a (-1) t hs h1 h3 b1 b2 h14 b1 b2 h14 b1 b2 b3 fun s' hs' => hn' s' ?_
       rw [hs']
       simp only [hset, e1, e2, e3, e4, e5, e6, zfv, Bool.not_true]
       try rfl
     · refine zg4 hL ihk hM hl hr hn hz hx (q := (p : Int) + 1) (w := n + 1) (ok := true) (by simp [sd]) fun kk m s K hs hn' => zno kk m b _ _ [] false p n a (-1) t hs h1 h3 b1 b2 h14 b1 b2 h14 b1 b2 b3 fun s' hs' => hn' s' ?_
       rw [hs']
       simp only [hset, e1, e2, e3, e4, e5, e6, zfv, Bool.not_true]
       try rfl
     · refine zg4 hL ihk hM hl hr hn hz hx (q := (p : Int) + 1) (w := n) (ok := decide (1 ≤ n)) (by simp [sd]) fun kk m s K hs hn' => zmO kk m b _ _ [] false p n a (-1) t hs h1 h3 b1 b2 h14 b1 b2 h14 b1 b2 b3 fun s' hs' => hn' s' ?_
       rw [hs']
       simp only [hset, e1, e2, e3, e4, e5, e6, zfv, Bool.not_true]
       try rfl
     · refine zg4 hL ihk hM hl hr hn hz hx (q := (p : Int) + 1) (w := n) (ok := decide (1 ≤ n)) (by simp [sd]) fun kk m s K hs hn' => zmT kk m b _ _ [] false p n a (-1) t hs h1 h3 b1 b2 h14 b1 b2 h14 b1 b2 b3 fun s' hs' => hn' s' ?_
       rw [hs']
       simp only [hset, e1, e2, e3, e4, e5, e6, zfv, Bool.not_true]
       try rfl
     · refine zg4 hL ihk hM hl hr hn hz hx (q := (p : Int) + 1) (w := n - 1) (ok := decide (1 ≤ n)) (by simp [sd]) fun kk m s K hs hn' => zmQ kk m b _ _ [] false p n a (-1) t hs h1 h3 b1 b2 h14 b1 b2 h14 b1 b2 b3 fun s' hs' => hn' s' ?_
       rw [hs']
       simp only [hset, e1, e2, e3, e4, e5, e6, zfv, Bool.not_true]
       try rfl
     · refine zg4 hL ihk hM hl hr hn hz hx (q := a) (w := n) (ok := true) (by simp [sd]) fun kk m s K hs hn' => znv kk m b _ _ [] false p n a (-1) t hs h1 h3 b1 b2 h14 b1 b2 h14 b1 b2 b3 fun s' hs' => hn' s' ?_
       rw [hs']
       simp only [hset, e1, e2, e3, e4, e5, e6, zfv, Bool.not_true]
       try rfl
     · refine zmX hL ihk hM hl hr hn hz hx (q := (p : Int) + 1) (w := n - 1) (a := a) (v := n - 1) (ok := decide (1 ≤ n)) (by simp [sd]) fun kk m s K D2 g2 hs hd2 hn' => zmG kk m b _ _ (D2.map (I ·)) g2 p n a (-1) t hs h1 h3 b1 b2 h14 b1 b2 h14 b1 b2 b3 ?_ fun s' hs' => hn' s' ?_
       · simp only [hset, e1, e2, e3, e4, e5, e6, zfv, Bool.not_true] at hd2 ⊢
         exact hd2
       · rw [hs']
         simp only [e1, e2, e3]
         try rfl
     · refine zmX hL ihk hM hl hr hn hz hx (q := (p : Int) + 1) (w := n + 1) (a := a) (v := 0) (ok := true) (by simp [sd]) fun kk m s K D2 g2 hs hd2 hn' => zmL kk m b _ _ (D2.map (I ·)) g2 p n a (-1) t hs h1 h3 b1 b2 h14 b1 b2 h14 b1 b2 b3 ?_ fun s' hs' => hn' s' ?_
       · simp only [hset, e1, e2, e3, e4, e5, e6, zfv, Bool.not_true] at hd2 ⊢
         exact hd2
       · rw [hs']
         simp only [e1, e2, e3]
         try rfl
     · refine zg4 hL ihk hM hl hr hn hz hx (q := (p : Int) + 1) (w := n - a) (ok := decide (a + 1 ≤ n)) (by simp [sd]) fun kk m s K hs hn' => zm5 kk m b _ _ [] false p n a (-1) t hs h1 h3 b1 b2 h14 b1 b2 h14 b1 b2 b3 fun s' hs' => hn' s' ?_
       rw [hs']
       simp only [hset, e1, e2, e3, e4, e5, e6, zfv, Bool.not_true]
       try rfl
     · refine zl0 hL hM hr hz hx (ok := decide (n = a + 1)) (by simp [sd]) fun kk m s K hs hK => zmj kk m b _ _ [] false p n a (-1) t hs h1 h3 b1 b2 h14 b1 b2 h14 b1 b2 b3 ?_
       simp only [hset, e5]
       exact hK
     · refine zl0 hL hM hr hz hx (ok := decide (n = 1)) (by simp [sd]) fun kk m s K hs hK => zmu kk m b _ _ [] false p n a (-1) t hs h1 h3 b1 b2 h14 b1 b2 h14 b1 b2 b3 ?_
       simp only [hset, e5]
       exact hK
     · refine zg4 hL ihk hM hl hr hn hz hx (q := (p : Int) + 1) (w := 0) (ok := decide (n = 1)) (by simp [sd]) fun kk m s K hs hn' => zl3 kk m b _ _ [] false p n a (-1) t hs h1 h3 b1 b2 h14 b1 b2 h14 b1 b2 b3 fun s' hs' => hn' s' ?_
       rw [hs']
       simp only [hset, e1, e2, e3, e4, e5, e6, zfv, Bool.not_true]
       try rfl
     · refine zl0 hL hM hr hz hx (ok := decide (n = 0)) (by simp [sd]) fun kk m s K hs hK => zmm kk m b _ _ [] false p n a (-1) t hs h1 h3 b1 b2 h14 b1 b2 h14 b1 b2 b3 ?_
       simp only [hset, e5]
       exact hK)
theorem zmt (b : Bool) (L : List In) (h : L.length ≤ 1048576) (hs : ∀ x ∈ L, x.t.size ≤ 1048576) : ∃ D g, Tells L D g ∧ EvN 1048600 10 [.dat (.lst b (L.map DIns))] [] [] ([.own 3 (D.map (I ·)), .dat (B g)], [], []) := by
 obtain ⟨tx, ht⟩ := zlf b L h hs
 have hlen : (L.map DIns).length = L.length := by simp
 cases hok : okT L with
 | false =>
   rw [hok] at ht
   refine ⟨[], false, .inr ⟨rfl, rfl, fun h => by rw [hok] at h; cases h⟩, zba Tryd.f10 1048599 (by kernel_rfl) (by kernel_rfl) fun kk hkk => ?_⟩
   exact sDep kk b _ [] false tx false (fun _ => ⟨ht kk (by omega), rfl⟩) (fun d => by cases d) (fun d => by cases d)
 | true =>
   rw [hok] at ht
   have hL := zg9 hok
   have hN := hL.1
   obtain ⟨D, g, hP, hDl, hev⟩ := (zkW b L hL L.length).ev (D := List.replicate L.length (-1)) (p := 0) (n := 0) (zkt L) (by rw [zdp]; exact Nat.le_refl _) .start (by rw [zdp]; simp)
   have hmr : (List.replicate L.length (-1 : Int)).map (I ·) = List.replicate L.length (I (-1)) := by rw [List.map_replicate]
   rw [hmr] at hev
   have hloop : ∀ kk, 1048599 ≤ kk → zav cfg kk 10 Tryd.f10 6 (hd10 b (L.map DIns) (List.replicate (L.map DIns).length (I 0)) 0) (.exit 0) (Nm [6, 20] [.ptr (.loc 20) 0, .ptr (.loc 20) 0] [none, Lg b (L.map DIns) (List.replicate (L.map DIns).length (I (-1))) false] [] []) := fun kk hkk => by
    rw [hlen]
    refine zaP (fun i => hd10 b (L.map DIns) (List.replicate i (I (-1)) ++ List.replicate (L.length - i) (I 0)) i) L.length (by omega) (fun i hi m s K hs' hn => ?_) (fun m s K hs' hK => ?_) (by simp)
    · have hl : (List.replicate i (I (-1)) ++ List.replicate (L.length - i) (I 0)).length = L.length := by simp; omega
      have hg : (List.replicate i (I (-1)) ++ List.replicate (L.length - i) (I 0))[((i : Nat) : Int).toNat]? = some (I 0) := by
       rw [Int.toNat_natCast, List.getElem?_append_right (by simp), List.length_replicate, Nat.sub_self, List.getElem?_replicate, if_pos (by omega)]
      refine zlG kk m b _ _ i 0 hs' (fun _ => ⟨by rw [hl]; omega, hg, fun s' hs2 => hn s' ?_⟩) (fun d => absurd (of_decide_eq_false d) (by rw [hl]; omega))
      have e : (List.replicate i (I (-1)) ++ List.replicate (L.length - i) (I 0)).set ((i : Nat) : Int).toNat (I (-1)) = List.replicate (i + 1) (I (-1)) ++ List.replicate (L.length - (i + 1)) (I 0) := by
       obtain ⟨m, hm⟩ : ∃ m, L.length - i = m + 1 := ⟨L.length - i - 1, by omega⟩
       rw [Int.toNat_natCast, hm, show L.length - (i + 1) = m by omega, List.replicate_succ (n := m), List.set_append_right _ _ (by simp), List.length_replicate, Nat.sub_self, List.set_cons_zero, List.replicate_succ' (n := i), List.append_assoc]
       rfl
      rw [hs2, e, wi i (by omega)]
      have hl2 : (List.replicate (i + 1) (I (-1)) ++ List.replicate (L.length - (i + 1)) (I 0)).length = L.length := by simp; omega
      unfold hd10
      rw [hl, hl2]
    · refine zlG kk m b _ _ _ 0 hs' (fun d => absurd (of_decide_eq_true d) (by simp)) (fun _ => ?_)
      simpa using hK
   have hrl : ∀ z : Dat, List.replicate (L.map DIns).length z = List.replicate L.length z := fun z => by rw [hlen]
   rcases hP with ⟨rfl, hb⟩ | ⟨rfl, hM, _, hcl, h0⟩
   · refine ⟨[], false, .inr ⟨rfl, rfl, fun _ => hb⟩, zba Tryd.f10 1048599 (by kernel_rfl) (by kernel_rfl) fun kk hkk => ?_⟩
     refine sDep kk b _ _ true tx true (fun d => by cases d) (fun _ _ => ⟨ht kk (by omega), by rw [hlen]; omega, hloop kk hkk, by rw [hrl]; exact hev kk (by omega), rfl⟩) (fun _ d => by cases d)
   · refine ⟨D, true, .inl ⟨rfl, hok, hM, h0, fun i v x hi hv hx q hq => ?_⟩, zba Tryd.f10 1048599 (by kernel_rfl) (by kernel_rfl) fun kk hkk => ?_⟩
     · exact hcl i v x hi hv (by rw [List.getElem?_replicate, if_pos (List.getElem?_eq_some_iff.1 hx).1]) hx q hq
     · refine sDep kk b _ _ false tx true (fun d => by cases d) (fun _ d => by cases d) (fun _ _ => ⟨ht kk (by omega), by rw [hlen]; omega, hloop kk hkk, by rw [hrl]; exact hev kk (by omega), rfl⟩)
end Go.Den
namespace Go.Den
open Go.Proofs
open Go
set_option linter.unusedVariables false
set_option maxRecDepth 100000
theorem zmV (zs : List Int) (b1 b2 : Bool) (h : zs.length ≤ 1048576) : EvN 1048580 12 [.dat (.lst b1 (zs.map (I ·))), .dat (.lst b2 (zs.map (I ·)))] [] [] ([.dat (B true)], [], []) := by
 refine zba Tryd.f12 1048579 (by kernel_rfl) (by kernel_rfl) fun kk hkk => ?_
 have hlen : (zs.map (I ·)).length = zs.length := by simp
 generalize hes : zs.map (I ·) = es at *
 refine eqZ_y kk b1 b2 es es (fun d => by simp at d) (fun _ => ⟨?_, rfl⟩)
 refine zaP (fun i => hdq b1 b2 es es i) es.length (by omega) (fun i hi m s K hs hn => ?_) (fun m s K hs hK => ?_) rfl
 · obtain ⟨x, hx⟩ := zeb (L := zs) (i := i) (by omega)
   have hxd : es[i]? = some (I x) := by rw [← hes]; exact gm (f := (I ·)) hx
   refine zm3 kk m b1 b2 es es i x x hs (fun _ d => by simp at d) (fun _ _ => ⟨ih hxd, ih hxd, fun s' hs' => hn s' ?_⟩) (fun d => absurd (of_decide_eq_false d) (by omega))
   rw [hs', wi i (by omega)]
   rfl
 · exact zm3 kk m b1 b2 es es _ 0 0 hs (fun d => absurd (of_decide_eq_true d) (by omega)) (fun d => absurd (of_decide_eq_true d) (by omega)) (fun _ => hK)
theorem zns (k : Int) (h0 : 0 ≤ k) (h1 : k ≤ 4000000) : ∃ t : ByteArray, EvN 4000010 24 [.dat (I k)] [] [] ([.dat (S t)], [], []) := by
 by_cases hk : k ≤ 0
 · exact ⟨_, zba Tryd.f24 4000009 (by kernel_rfl) (by kernel_rfl) fun kk hkk => mkT kk k ByteArray.empty (fun _ => rfl) (fun d => absurd (of_decide_eq_false d) (by omega))⟩
 · obtain ⟨x, s', ⟨rfl, t, ht, rfl⟩, hloop⟩ := ziR (f := 24) (fn := Tryd.f24) (r := 4) 1 (fun a : Int × ByteArray => hd24 a.1 a.2) (fun a => 0 ≤ a.1 ∧ a.1 + a.2.size ≤ 4000000) (fun a => a.1.toNat) (fun x s' => x = .exit 0 ∧ ∃ t : ByteArray, t.size ≤ 4000000 ∧ s' = Nm [3] [.dat (S t)] [none] [] [])
    (fun ⟨a, t⟩ ⟨ha, hb⟩ => by
     simp only at ha hb ⊢
     by_cases h : 0 < a
     · left
       have hd : a.tdiv 10 = a / 10 := Int.tdiv_eq_ediv_of_nonneg (by omega)
       have hw : w64 (a.tdiv 10) = a / 10 := by rw [hd]; exact za5 (by omega)
       have hsz : (ByteArray.mk ((fun x => UInt8.ofNat (IntKind.u8.wrap (w64 (48 + a.tmod 10))).toNat :: x) []).toArray ++ t).size = 1 + t.size := by rw [ByteArray.size_append]; rfl
       refine ⟨(a / 10, ByteArray.mk ((fun x => UInt8.ofNat (IntKind.u8.wrap (w64 (48 + a.tmod 10))).toNat :: x) []).toArray ++ t), ⟨by simp only; omega, by simp only; rw [hsz]; omega⟩, by simp only; omega, fun kk hkk m s K hs hn => ?_⟩
       refine znl kk m a t hs (fun _ => ⟨by omega, fun s' hs' => hn s' ?_⟩) (fun d => absurd (of_decide_eq_false d) (by omega))
       rw [hs', hw]
       rfl
     · right
       exact ⟨_, _, ⟨rfl, t, by omega, rfl⟩, fun kk hkk m s K hs hK => znl kk m a t hs (fun d => absurd (of_decide_eq_true d) h) (fun _ => hK)⟩)
    (a0 := (k, ByteArray.empty)) ⟨h0, by show k + (0 : Nat) ≤ _; omega⟩
   refine ⟨_, zba Tryd.f24 4000009 (by kernel_rfl) (by kernel_rfl) fun kk hkk => mkT kk k t (fun d => absurd (of_decide_eq_true d) hk) (fun _ => ⟨hloop kk (by omega) (by simp only; omega), by omega, rfl⟩)⟩
theorem zjX (E : List In) (i : Nat) (o a : Int) (t : ByteArray) : (E.map DIns).set i (Dat.agg [I o, I a, .val (.string t)]) = (E.set i ⟨o, a, t⟩).map DIns := by
 rw [List.map_set]
 rfl
theorem zk7 (L : List In) (h : L.length ≤ 1048576) : ∃ L' : List In, EvN 4000020 13 [.bor (.lent 0) none, .dat (I 1)] [] [some (41, L.map DIns)] ([.dat (I ((1 + 3 * L.length : Nat) : Int))], [], [some (41, L'.map DIns)]) := by
 have key : ∀ i, i ≤ L.length → ∃ E : List In, E.length = L.length ∧ (∀ kk, 4000019 ≤ kk → ∀ K : X → St → Prop, ∀ m, (∀ s : St, s.norm ((zaG cfg kk 13 Tryd.f13).live (zaa (lp Tryd.f13 2))) = hd13 (E.map DIns) ((1 + 3 * i : Nat) : Int) i → zao (zaG cfg kk 13 Tryd.f13) kk (lp Tryd.f13 2) m s K) → ∀ s : St, s.norm ((zaG cfg kk 13 Tryd.f13).live (zaa (lp Tryd.f13 2))) = hd13 (L.map DIns) 1 0 → zao (zaG cfg kk 13 Tryd.f13) kk (lp Tryd.f13 2) (m + i) s K) := by
  intro i
  induction i with
  | zero => exact fun _ => ⟨L, rfl, fun kk hkk K m hn s hs => hn s hs⟩
  | succ i ihi =>
    intro hi
    obtain ⟨E, hE, hr⟩ := ihi (by omega)
    obtain ⟨x, hx⟩ := zeb (L := E) (i := i) (by omega)
    obtain ⟨t, ht⟩ := zns (((1 + 3 * i : Nat) : Int) + 1 + 1) (by omega) (by omega)
    refine ⟨E.set i ⟨((1 + 3 * i : Nat) : Int), ((1 + 3 * i : Nat) : Int) + 1, t⟩, by rw [List.length_set, hE], fun kk hkk K m hn => ?_⟩
    have e1 : w64 (((1 + 3 * i : Nat) : Int) + 1) = ((1 + 3 * i : Nat) : Int) + 1 := za5 (by omega)
    have e2 : w64 (((1 + 3 * i : Nat) : Int) + 1 + 1) = ((1 + 3 * i : Nat) : Int) + 1 + 1 := za5 (by omega)
    have e3 : w64 (((1 + 3 * i : Nat) : Int) + 1 + 1 + 1) = ((1 + 3 * (i + 1) : Nat) : Int) := by rw [za5 (by omega)]; omega
    have hl : ∀ E : List In, (E.map DIns).length = E.length := fun E => by simp
    have hil : i < E.length := by omega
    have := hr kk hkk K (m + 1) (fun s hs => by
     refine zkv kk m _ _ i x ⟨((1 + 3 * i : Nat) : Int), x.a, x.t⟩ t ⟨((1 + 3 * i : Nat) : Int), ((1 + 3 * i : Nat) : Int) + 1, x.t⟩ hs (fun _ => ?_) (fun d => absurd (of_decide_eq_false d) (by rw [hl]; omega))
     dsimp only
     rw [e1, e2, Int.toNat_natCast, zjX, zjX, zjX, List.set_set, List.set_set]
     refine ⟨by rw [hl]; omega, gm hx, by rw [hl, List.length_set]; omega, gm (f := DIns) (by rw [List.getElem?_set_self hil]), ht kk (by omega), by rw [hl, List.length_set]; omega, gm (f := DIns) (by rw [List.getElem?_set_self hil]), fun s' hs' => hn s' ?_⟩
     rw [hs', e3, wi i (by omega)]
     rfl)
    rw [show m + (i + 1) = m + 1 + i by omega]
    exact this
 obtain ⟨E, hE, hr⟩ := key L.length (Nat.le_refl _)
 refine ⟨E, zba Tryd.f13 4000019 (by kernel_rfl) (by kernel_rfl) fun kk hkk => markI kk _ (E.map DIns) 1 _ ⟨zb5 fun s hs => ?_, rfl⟩⟩
 have := hr kk hkk (fun x s' => x = .exit 0 ∧ s' = Nm [1] [.dat (I ((1 + 3 * L.length : Nat) : Int))] [none] [] [some (41, E.map DIns)]) (kk - L.length) (fun s hs => by
  obtain ⟨m, hm⟩ : ∃ m, kk - L.length = m + 1 := ⟨kk - L.length - 1, by omega⟩
  rw [hm]
  refine zkv kk m _ _ L.length ⟨0, 0, ByteArray.empty⟩ ⟨0, 0, ByteArray.empty⟩ ByteArray.empty ⟨0, 0, ByteArray.empty⟩ hs (fun d => absurd (of_decide_eq_true d) (by simp; omega)) (fun _ => ⟨rfl, rfl⟩)) s hs
 rwa [show kk - L.length + L.length = kk by omega] at this
def Mkd (zs : List Int) (n : Nat) : Prop := zs.length = n ∧ ∀ (j : Nat), j < n → zs[j]? = some ((1 + j : Nat) : Int)
theorem zkX (zs : List Int) (h : zs.length ≤ 1048576) : ∃ E : List Int, Mkd E zs.length ∧ EvN 1048590 14 [.bor (.lent 0) none, .dat (I 1)] [] [some (3, zs.map (I ·))] ([.dat (I ((1 + zs.length : Nat) : Int))], [], [some (3, E.map (I ·))]) := by
 have key : ∀ i, i ≤ zs.length → ∃ E : List Int, E.length = zs.length ∧ (∀ j, j < i → E[j]? = some ((1 + j : Nat) : Int)) ∧ (∀ kk, 1048589 ≤ kk → ∀ K : X → St → Prop, ∀ m, (∀ s : St, s.norm ((zaG cfg kk 14 Tryd.f14).live (zaa (lp Tryd.f14 2))) = hd14 (E.map (I ·)) ((1 + i : Nat) : Int) i → zao (zaG cfg kk 14 Tryd.f14) kk (lp Tryd.f14 2) m s K) → ∀ s : St, s.norm ((zaG cfg kk 14 Tryd.f14).live (zaa (lp Tryd.f14 2))) = hd14 (zs.map (I ·)) 1 0 → zao (zaG cfg kk 14 Tryd.f14) kk (lp Tryd.f14 2) (m + i) s K) := by
  intro i
  induction i with
  | zero => exact fun _ => ⟨zs, rfl, fun j hj => absurd hj (Nat.not_lt_zero _), fun kk hkk K m hn s hs => hn s hs⟩
  | succ i ihi =>
    intro hi
    obtain ⟨E, hE, hj, hr⟩ := ihi (by omega)
    obtain ⟨x, hx⟩ := zeb (L := E) (i := i) (by omega)
    have hl : ∀ E : List Int, (E.map (I ·)).length = E.length := fun E => by simp
    refine ⟨E.set i ((1 + i : Nat) : Int), by rw [List.length_set, hE], fun j hjj => ?_, fun kk hkk K m hn => ?_⟩
    · by_cases e : i = j
      · subst e
        rw [List.getElem?_set_self (by omega)]
      · rw [List.getElem?_set_ne e]
        exact hj j (by omega)
    · have := hr kk hkk K (m + 1) (fun s hs => by
       refine zkm kk m _ _ i x hs (fun _ => ⟨by rw [hl]; omega, by rw [Int.toNat_natCast]; exact gm (f := (I ·)) hx, fun s' hs' => hn s' ?_⟩) (fun d => absurd (of_decide_eq_false d) (by rw [hl]; omega))
       have e1 : w64 (((1 + i : Nat) : Int) + 1) = ((1 + (i + 1) : Nat) : Int) := by rw [za5 (by omega)]; omega
       have e2 : (E.map (I ·)).set i (I ((1 + i : Nat) : Int)) = (E.set i ((1 + i : Nat) : Int)).map (I ·) := by rw [List.map_set]
       rw [hs', e1, wi i (by omega), Int.toNat_natCast, e2]
       rfl)
      rw [show m + (i + 1) = m + 1 + i by omega]
      exact this
 obtain ⟨E, hE, hj, hr⟩ := key zs.length (Nat.le_refl _)
 refine ⟨E, ⟨hE, hj⟩, zba Tryd.f14 1048589 (by kernel_rfl) (by kernel_rfl) fun kk hkk => markZ kk _ (E.map (I ·)) 1 _ ⟨zb5 fun s hs => ?_, rfl⟩⟩
 have := hr kk hkk (fun x s' => x = .exit 0 ∧ s' = Nm [1] [.dat (I ((1 + zs.length : Nat) : Int))] [none] [] [some (3, E.map (I ·))]) (kk - zs.length) (fun s hs => by
  obtain ⟨m, hm⟩ : ∃ m, kk - zs.length = m + 1 := ⟨kk - zs.length - 1, by omega⟩
  rw [hm]
  refine zkm kk m _ _ zs.length 0 hs (fun d => absurd (of_decide_eq_true d) (by simp; omega)) (fun _ => ⟨rfl, rfl⟩)) s hs
 rwa [show kk - zs.length + zs.length = kk by omega] at this
theorem zlp (E : List Int) (n : Nat) (hE : Mkd E n) (h : n ≤ 1048576) (b : Bool) : EvN 1048590 15 [.dat (.lst b (E.map (I ·))), .dat (I 1)] [] [] ([.dat (I ((1 + n : Nat) : Int))], [], []) := by
 refine zba Tryd.f15 1048589 (by kernel_rfl) (by kernel_rfl) fun kk hkk => heldZ kk b _ 1 ((1 + n : Nat) : Int) ⟨?_, rfl⟩
 have hl : (E.map (I ·)).length = n := by simp [hE.1]
 refine zaP (fun i => hd15 b (E.map (I ·)) ((1 + i : Nat) : Int) i) n (by omega) (fun i hi m s K hs hn => ?_) (fun m s K hs hK => ?_) rfl
 · have hx := hE.2 i hi
   refine zj6 kk m b _ _ i ((1 + i : Nat) : Int) hs (fun _ d => by simp at d) (fun _ _ => ⟨ih (gm (f := (I ·)) hx), fun s' hs' => hn s' ?_⟩) (fun d => absurd (of_decide_eq_false d) (by rw [hl]; omega))
   have e1 : w64 (((1 + i : Nat) : Int) + 1) = ((1 + (i + 1) : Nat) : Int) := by rw [za5 (by omega)]; omega
   rw [hs', e1, wi i (by omega)]
   rfl
 · exact zj6 kk m b _ _ _ 0 hs (fun d => absurd (of_decide_eq_true d) (by rw [hl]; omega)) (fun d => absurd (of_decide_eq_true d) (by rw [hl]; omega)) (fun _ => hK)
theorem zeQ (zs : List Int) (g : Bool) : D.cleans [.own 3 (zs.map (I ·)), .dat (B g)] = true := by
 show (Dat.cleans (zs.map (I ·)) && (true && true)) = true
 rw [zgk]
 rfl
theorem fnExactDepthsOf_den : ∀ (d0 : Dat), WT cfg.ty 22 d0 → ∃ k, den cfg k 4 [.dat d0] [] [] = some ([.dat (.val (.bool true))], [], []) := by
 intro d0 w0
 obtain ⟨L, rfl, hl, hs⟩ := zne w0
 obtain ⟨z, hz, hz0⟩ := znp false L 1048576 (by omega) (by omega) hl hs
 by_cases hneg : z < 0
 · exact ⟨1100001, zba Tryd.f4 1100000 (by kernel_rfl) (by kernel_rfl) (fun kk hkk => zlZ kk false _ z (hz kk (by omega)) (decide_eq_true hneg)) (by kernel_rfl) 1100001 (Nat.le_refl _)⟩
 · obtain ⟨hle, hss⟩ := hz0 (by omega)
   obtain ⟨D, g, hT, hDl, hI⟩ := zml true L
   obtain ⟨D', g', hT', hS⟩ := zmt true L hle hss
   obtain ⟨rfl, rfl⟩ := hT'.one hT
   obtain ⟨L', hM⟩ := zk7 L hle
   obtain ⟨E, hE, hZ⟩ := zkX D' (by omega)
   refine ⟨5000001, zba Tryd.f4 5000000 (by kernel_rfl) (by kernel_rfl) (fun kk hkk => ?_) (by kernel_rfl) 5000001 (Nat.le_refl _)⟩
   have h7 := znd false L hle kk (by omega)
   have h12 := zmV D' true true (by omega) kk (by omega)
   have hH := zlp E D'.length hE (by omega) true kk (by omega)
   exact law4 kk false _ _ _ _ _ _ _ _ _ _ z _ _ g' (hz kk (by omega)) (decide_eq_false hneg) h7 (zeQ _ _) (hS kk (by omega)) h7 (zeQ _ _) (hI kk (by omega)) h12 (by simp) h7 (zm9 L true true hle kk (by omega)) (hM kk (by omega)) (decide_eq_false (by omega)) h12 (by simp) (hZ kk (by omega)) hH (decide_eq_false (by omega)) (by simp) h7 (zeQ _ _) (hI kk (by omega)) h12 (by simp) hH (decide_eq_false (by omega)) (by simp)
end Go.Den
namespace Go.Proofs.YtmoocdlfclhgcaaDoor.fnExactDepthsOf
open Go.ChangeShapes Go.WideShapes Go.ChangeAt Go.RowKit Go.Den
set_option linter.unusedVariables false
theorem own : ownKnob Tryd.prog.godebug = none := by kernel_rfl
theorem zmn : laidOutB Tryd.prog = true := by kernel_rfl
theorem body : (Tryd.f4.body).isSome = true := by kernel_rfl
theorem fnThere : cfg.fn 4 = some Tryd.f4 := by kernel_rfl
theorem zmk : zdb cfg.ty 8 22 = true := by kernel_rfl
def setG (h : Array Obj) (g : Nat) (c : Array Value) : Array Obj := h.modify g fun
 | .cells _ t frozen => .cells c t frozen
 | o => o
def vals (d : DataW Unit) : Array Value := match d with
 | .agg l => (l.map fun | .lit (.int k n) => Value.int k n | _ => .nilIface).toArray
 | _ => #[]
noncomputable def zgS (os : Os) : World :=
 let w0 := World.holding Tryd.prog os ⟨#[], #[], []⟩
 { w0 with heap := setG (setG (setG (w0.heap) 2 (vals Rows.laid_math_bits_deBruijn32tab)) 3 (vals Rows.laid_math_bits_deBruijn64tab)) 1 (vals Rows.laid_internal_strconv_uint64pow10) }
theorem zkV (os : Os) (args : Array Value) : laidMetH Tryd.prog Rows.fnExactDepthsOfRow.laid ((zgS os).forCall (fun _ _ => 0) ⟨#[], args, []⟩).memory :=
 laidMetH_of_parts (laidMet_of_run (ps := (List.range 32).map (MemPlace.cell 2 ·) ++ (List.range 64).map (MemPlace.cell 3 ·) ++ (List.range 20).map (MemPlace.cell 1 ·)) 8 (by kernel_rfl) (by kernel_rfl) (by kernel_rfl)) (by kernel_rfl)
set_option maxRecDepth 100000 in
theorem zlM (os : Os) (started : os.Started) (H : Type) (enc : TypeId × Value → H) :
 ReturnsInHanded {} Tryd.checked os 4 .any (fun w args => (Rows.fnExactDepthsOfSpec.pre enc Tryd.prog Tryd.f4 Rows.fnExactDepthsOfRow.domain false w args ∧ laidMetH Tryd.prog Rows.fnExactDepthsOfRow.laid w) ∧ sizedMet enc Tryd.prog Tryd.f4 (OpenSpec.ofChange Rows.fnExactDepthsOfSpec) false w args) (Rows.fnExactDepthsOfSpec.post enc Tryd.prog Tryd.f4 false true false false) := by
 refine returnsInHanded_of_change_and (C := Tryd.checked) (X := fun w _ => laidMetH Tryd.prog Rows.fnExactDepthsOfRow.laid w) (fun _ _ _ hh h => h.of_heap hh) own started (by kernel_rfl) Tryd.func4
  (ChangeSpec.witness_at (enc := enc) (C := Tryd.checked) (os := os) (X := fun w _ => laidMetH Tryd.prog Rows.fnExactDepthsOfRow.laid w) false (zgS os) #[.slice none 0 0] 8 rfl (by kernel_rfl) (by kernel_rfl) (by kernel_rfl) (by kernel_rfl) (by kernel_rfl) (zkV os _)) ?_
 intro W base args ds gs before hval0 hW hcnd _ hL _
 have hTab : Lib.TabIs Tryd.prog W "internal/strconv.uint64pow10" .u64 Lib.pow10Tab := Lib.tabIs_of_head (g := 1) (by kernel_rfl) (t := 94) (by kernel_rfl) (e := 79) (n := 20) (by kernel_rfl) (by kernel_rfl) (by kernel_rfl) (by kernel_rfl) (laidMet.tail (laidMet.tail (show laidMet Tryd.prog Rows.fnExactDepthsOfRow.laid W from hL)))
 have hval : ∀ (j : Nat) t v, Tryd.f4.params[j]? = some t → args[j]? = some v → Value.okWide Tryd.prog W .any base t v := hval0
 have hW' := hW
 obtain ⟨p, q, hA0, hV, rfl, hfz, hnd⟩ := hW
 have hA : DataW.TrodAll enc Tryd.prog W 0 (fun _ => true) true Tryd.f4.params.toList args.toList ds p := hA0
 rw [Tryd.params4] at hA hval
 obtain ⟨v0, vs0, d0, ds0, p0, q0, hargs, rfl, rfl, h0, r0⟩ := trodAll_cons hA
 obtain ⟨rfl, rfl, rfl⟩ := trodAll_nil r0
 obtain rfl : args = #[v0] := by cases args; simp_all
 obtain ⟨rfl, rfl⟩ := trodVars_none hV
 have k0 := h0
 have lt0 : ∀ x ∈ p0, x.block < W.heap.size := by obtain ⟨m, hm⟩ := k0; exact DataW.trod_lt m _ _ _ hm
 obtain ⟨e0, cv0, R0, V0, T0⟩ := zlV zlO zmk (hval 0 22 v0 rfl rfl) h0
 clear hA0 hval0
 have hden := fnExactDepthsOf_den e0 T0
 refine (zjJ (P := Tryd.prog) (C := cfg) (f := 4) (fn := Tryd.f4) (vals := #[v0]) (ds := [e0]) (W := W) (b := true) (B := ze7 Tryd.prog W "internal/strconv.uint64pow10") (zkI (zkE hTab)).out (zlR fnThere) body rfl (fun j d v hj hv => ?_) (fun g o h => zkT h) hden).mono fun e W' hh => ?_
 · match j, hj, hv with
   | 0, hj, hv => cases hj; cases hv; exact ⟨cv0, R0, V0⟩
   | j + 1, hj, hv => simp at hj
 · obtain ⟨he, bel⟩ := hh
   subst he
   exact ⟨_, rfl, _, _, _, [], _, [], hW', trodAll_mk1 (shut_bool Tryd.underlying4 _), (trodAll_cons_mk (Below.trod zmn (by kernel_rfl) (of_decide_eq_true (by kernel_rfl)) k0 bel lt0) trodAll_mk0), rfl, bel.frame _, fun h => by cases h⟩
theorem over : Rows.fnExactDepthsOfRow.holds Tryd.pinned (OpenSpec.ofChange Rows.fnExactDepthsOfSpec) :=
 OpenClaim.holds_of_wide 4 Tryd.f4 rfl rfl rfl rfl rfl rfl rfl ⟨rfl, rfl, rfl, rfl, rfl⟩ rfl rfl rfl rfl rfl (by kernel_rfl) Tryd.func4 (by kernel_rfl)
  (of_decide_eq_true (by kernel_rfl)) (by unfold Func.isWrapper; first | (rw [if_pos (by decide +kernel)]; kernel_rfl) | (rw [if_neg (by decide +kernel)]; exact ⟨rfl, rfl⟩))
  (fun os started H enc _ => zlM os started H enc)
theorem proved : Rows.FnExactDepthsOfSaid := over
end Go.Proofs.YtmoocdlfclhgcaaDoor.fnExactDepthsOf
namespace Go.Proofs.YtmoocdlfclhgcaaDoor
theorem fnExactDepthsOf_holds : Rows.FnExactDepthsOfSaid := fnExactDepthsOf.proved
end Go.Proofs.YtmoocdlfclhgcaaDoor
namespace Go.Proofs.YtmoocdlfclhgcaaDoor
open Go
theorem fnExactDepthsOfCard_holds : Rows.FnExactDepthsOfCardSaid :=
 Claim7.holds_tied_plain_at .later [] [.data, .data, .data] true (true, "329d426325702a782e31df2674cd905a4db5641f93a9b18856352dbe941b77e0") false
  fnExactDepthsOf_holds (fun _ h => by cases h) (by kernel_rfl) (fun _ h => by cases h) fnExactDepthsOf_row_tie rfl ⟨rfl, rfl⟩ (by kernel_rfl) rfl
  (fun f fn hf hfn => by
   obtain rfl : f = 4 := Option.some.inj ((show Tryd.prog.funcNamed Rows.fnExactDepthsOfRow.func = some 4 by kernel_rfl).symm.trans hf) |>.symm
   obtain rfl : fn = Tryd.f4 := (Option.some.inj (Tryd.func4.symm.trans hfn)).symm
   exact ⟨by kernel_rfl, fun j t ht => by
    rw [Tryd.params4] at ht
    match j, ht with
    | 0, ht => cases ht; exact (show Tryd.prog.wantsStandIn 22 = false by kernel_rfl)
    | j + 1, ht => simp at ht⟩)
  (by kernel_rfl)
end Go.Proofs.YtmoocdlfclhgcaaDoor
