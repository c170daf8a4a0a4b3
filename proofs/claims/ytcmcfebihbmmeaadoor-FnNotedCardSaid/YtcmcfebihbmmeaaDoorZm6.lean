/- Merged out of: Cf Fa D35 D36 D33 D34 Dt E0 UA (prune.py, a program of this work's). -/
import Derived.Test.YtcmcfebihbmmeaaDoorProg
import Derived.Test.YtcmcfebihbmmeaaDoorZm5
import Derived.KernelRfl
import Derived.Test.YtcmcfebihbmmeaaDoorZm2
import Derived.Deep.Slices
import Derived.Deep.Fields
import Derived.ChangeSame
import Derived.ProofKit
import Derived.Lib.SmallJoins
import Derived.Test.YtcmcfebihbmmeaaDoorZm4
import Derived.OpenShut
import Derived.ShutString
import Derived.ChangeOld
import Derived.Below
import Derived.Test.YtcmcfebihbmmeaaDoorZm1
import Derived.IntWalk
set_option linter.unusedVariables false
set_option linter.unusedSimpArgs false
set_option linter.unnecessarySimpa false
namespace Go.Den
open Go
def tys : List (Nat × TI) := [(2, ⟨.int .i64, 1, 8, [], [.dat (.val (.int .i64 0))]⟩), (3, ⟨.int .i64, 1, 8, [], [.dat (.val (.int .i64 0))]⟩), (4, ⟨.bool, 1, 1, [], [.dat (.val (.bool false))]⟩), (5, ⟨.int .u8, 1, 1, [], [.dat (.val (.int .u8 0))]⟩), (9, ⟨.str, 1, 16, [], [.dat (.val (.string ByteArray.empty))]⟩), (21, ⟨.int .i32, 1, 4, [], [.dat (.val (.int .i32 0))]⟩), (22, ⟨.slice 111, 1, 24, [], [.own 111 []]⟩), (23, ⟨.slice 3, 1, 24, [], [.own 3 []]⟩), (25, ⟨.struct, 4, 80, [(0, 3), (1, 22), (2, 23), (3, 23)], [.dat (.val (.int .i64 0)), .own 111 [], .own 3 [], .own 3 []]⟩), (29, ⟨.slice 97, 1, 24, [], [.own 97 []]⟩), (31, ⟨.struct, 4, 80, [(0, 3), (1, 29), (2, 23), (3, 23)], [.dat (.val (.int .i64 0)), .own 97 [], .own 3 [], .own 3 []]⟩), (35, ⟨.slice 74, 1, 24, [], [.own 74 []]⟩), (38, ⟨.slice 72, 1, 24, [], [.own 72 []]⟩), (45, ⟨.slice 5, 1, 24, [], [.own 5 []]⟩), (67, ⟨.other, 1, 8, [], [.dat (.val (.pointer none))]⟩), (69, ⟨.struct, 9, 120, [(0, 31), (4, 3), (5, 3), (6, 4), (7, 4), (8, 9)], [.dat (.val (.int .i64 0)), .own 97 [], .own 3 [], .own 3 [], .dat (.val (.int .i64 0)), .dat (.val (.int .i64 0)), .dat (.val (.bool false)), .dat (.val (.bool false)), .dat (.val (.string ByteArray.empty))]⟩), (72, ⟨.struct, 3, 24, [(0, 3), (1, 3), (2, 3)], [.dat (.val (.int .i64 0)), .dat (.val (.int .i64 0)), .dat (.val (.int .i64 0))]⟩), (74, ⟨.struct, 3, 24, [(0, 3), (1, 3), (2, 3)], [.dat (.val (.int .i64 0)), .dat (.val (.int .i64 0)), .dat (.val (.int .i64 0))]⟩), (76, ⟨.struct, 8, 128, [(0, 31), (4, 45), (5, 3), (6, 3), (7, 4)], [.dat (.val (.int .i64 0)), .own 97 [], .own 3 [], .own 3 [], .own 5 [], .dat (.val (.int .i64 0)), .dat (.val (.int .i64 0)), .dat (.val (.bool false))]⟩), (77, ⟨.other, 1, 8, [], [.dat (.val (.pointer none))]⟩), (80, ⟨.other, 1, 8, [], [.dat (.val (.pointer none))]⟩), (82, ⟨.struct, 3, 56, [(0, 3), (1, 29), (2, 23)], [.dat (.val (.int .i64 0)), .own 97 [], .own 3 []]⟩), (84, ⟨.struct, 8, 96, [(0, 82), (3, 3), (4, 3), (5, 4), (6, 4), (7, 9)], [.dat (.val (.int .i64 0)), .own 97 [], .own 3 [], .dat (.val (.int .i64 0)), .dat (.val (.int .i64 0)), .dat (.val (.bool false)), .dat (.val (.bool false)), .dat (.val (.string ByteArray.empty))]⟩), (86, ⟨.struct, 7, 104, [(0, 82), (3, 45), (4, 3), (5, 3), (6, 4)], [.dat (.val (.int .i64 0)), .own 97 [], .own 3 [], .own 5 [], .dat (.val (.int .i64 0)), .dat (.val (.int .i64 0)), .dat (.val (.bool false))]⟩), (87, ⟨.other, 1, 8, [], [.dat (.val (.pointer none))]⟩), (89, ⟨.other, 1, 8, [], [.dat (.val (.pointer none))]⟩), (90, ⟨.int .u64, 1, 8, [], [.dat (.val (.int .u64 0))]⟩), (92, ⟨.struct, 3, 40, [(0, 45), (1, 3), (2, 90)], [.own 5 [], .dat (.val (.int .i64 0)), .dat (.val (.int .u64 0))]⟩), (95, ⟨.other, 1, 8, [], [.dat (.val .nilFunc)]⟩), (97, ⟨.struct, 4, 32, [(0, 4), (1, 3), (2, 3), (3, 3)], [.dat (.val (.bool false)), .dat (.val (.int .i64 0)), .dat (.val (.int .i64 0)), .dat (.val (.int .i64 0))]⟩), (102, ⟨.slice 4, 1, 24, [], [.own 4 []]⟩), (111, ⟨.struct, 4, 32, [(0, 4), (1, 3), (2, 3), (3, 3)], [.dat (.val (.bool false)), .dat (.val (.int .i64 0)), .dat (.val (.int .i64 0)), .dat (.val (.int .i64 0))]⟩), (135, ⟨.map 4 9, 1, 8, [], [.dat (.val (.map none))]⟩), (137, ⟨.int .u64, 1, 8, [], [.dat (.val (.int .u64 0))]⟩), (148, ⟨.slice 9, 1, 24, [], [.own 9 []]⟩), (150, ⟨.other, 1, 16, [], [.dat (.val .nilIface)]⟩), (163, ⟨.int .u32, 1, 4, [], [.dat (.val (.int .u32 0))]⟩), (169, ⟨.other, 1, 8, [], [.dat (.val (.pointer none))]⟩), (184, ⟨.other, 1, 8, [], [.dat (.val (.pointer none))]⟩), (187, ⟨.struct, 1, 16, [(0, 9)], [.dat (.val (.string ByteArray.empty))]⟩)]
def zds {α : Type} : List (Nat × α) → Nat → Option α
 | [], _ => none
 | (a, x) :: l, n => match Nat.beq a n with | true => some x | false => zds l n
def zpC : List (Nat × List (Nat × List Nat)) := [(8, [(16, [7, 11, 13, 117, 118, 119])]), (33, [(5, [1, 3, 32, 33, 34]), (11, [1, 3, 60, 61, 62])]), (38, [(4, [1, 29, 30, 31]), (10, [1, 58, 59, 60]), (18, [1, 139, 140, 141])]), (47, [(1, [0, 6, 7, 8])]), (58, [(8, [1, 4, 8, 9, 10, 49, 50, 51])]), (59, [(3, [1, 2, 3, 13, 14, 15]), (11, [1, 2, 7, 41, 42])]), (61, [(3, [3, 7, 8, 9])]), (62, [(2, [0, 2, 7, 8])]), (68, [(6, [0, 3, 4, 5])]), (71, [(2, [1, 7, 8, 9])]), (83, [(3, [0, 1, 6, 7, 8])]), (89, [(2, [0, 1, 7, 8])]), (93, [(3, [1, 2, 3, 15, 16, 17]), (8, [1, 2, 3, 27, 28, 29]), (16, [1, 2, 3, 9])]), (118, [(4, [0, 1, 2, 8, 9, 10, 11, 23, 24, 25]), (11, [1, 2, 8, 9, 10, 38, 39, 40]), (19, [8, 9, 10, 70, 71, 72])]), (119, [(2, [0, 1, 7, 8])]), (122, [(4, [1, 2, 4, 5, 6, 18, 19, 20]), (12, [1, 2, 4, 5, 9, 36, 37, 38]), (21, [4, 5, 9, 71, 72, 73])]), (123, [(3, [1, 3, 11, 12, 13])]), (135, [(1, [0, 1, 4])]), (136, [(11, [0, 1, 3, 4, 10, 11, 12, 13, 14, 15, 16]), (18, [0, 1, 3, 4, 10, 11, 12, 13, 17])]), (140, [(1, [0, 2, 3])])]
def zqi : List (Nat × List (Nat × List Nat)) := [(8, [(16, [2])]), (33, [(5, [1, 2, 3]), (11, [2])]), (38, [(4, [1, 2]), (10, [1, 2]), (18, [2])]), (47, [(1, [])]), (58, [(8, [1, 4, 8, 9, 10])]), (59, [(3, [1, 2, 3]), (11, [1, 2, 7])]), (61, [(3, [3])]), (62, [(2, [7])]), (68, [(6, [0, 3])]), (71, [(2, [4])]), (83, [(3, [0, 1, 6, 7])]), (89, [(2, [4])]), (93, [(3, [1, 2, 3]), (8, [1, 2, 3]), (16, [1, 2, 3])]), (118, [(4, [0, 1, 2, 8, 9, 10]), (11, [1, 8, 9, 10]), (19, [9, 10])]), (119, [(2, [4])]), (122, [(4, [1, 2, 4, 5, 6]), (12, [2, 4, 5, 9]), (21, [4, 9])]), (123, [(3, [3])]), (135, [(1, [0, 1, 4])]), (136, [(11, [0, 1, 3, 4, 10, 11, 12, 13]), (18, [0, 1, 3, 4, 10, 11, 12, 13])]), (140, [(1, [])])]
def zo4 : List (Nat × List Nat) := [(62, [0, 3, 0]), (84, [2, 0, 2]), (109, [2, 0, 0]), (124, [0, 0, 1, 0]), (128, [0, 2]), (130, [2, 0, 0]), (139, [2, 0, 0]), (151, [2, 0, 0]), (1000031, [1]), (1000082, [1])]
def zpI : List (Nat × List (Nat × Plan)) := [(8, [(19, (none, [(0, 1, []), (1, 0, []), (2, 1, []), (3, 0, []), (4, 0, []), (5, 1, []), (6, 2, []), (7, 0, []), (8, 0, []), (9, 0, []), (10, 0, []), (11, 0, [])])), (20, (none, [(0, 1, []), (1, 0, []), (2, 1, []), (3, 0, []), (4, 0, []), (5, 1, []), (6, 2, []), (7, 0, []), (8, 0, []), (9, 0, []), (10, 0, []), (11, 0, [])]))]), (27, [(3, (some [7], [(0, 1, []), (1, 0, []), (2, 0, []), (3, 1, []), (4, 0, []), (5, 0, []), (8, 0, []), (10, 0, []), (11, 0, []), (12, 1, []), (13, 0, []), (14, 0, []), (6, 4, []), (7, 0, []), (9, 4, []), (15, 4, []), (16, 0, []), (17, 2, []), (18, 0, []), (19, 0, []), (20, 0, [])]))]), (40, [(6, (none, [(0, 0, []), (1, 0, []), (2, 1, []), (3, 0, []), (4, 0, []), (8, 0, []), (9, 0, []), (10, 1, []), (11, 0, []), (12, 0, []), (5, 4, []), (6, 0, []), (7, 0, []), (13, 2, []), (14, 0, []), (15, 0, []), (16, 0, [])]))]), (44, [(2, (none, [(0, 1, []), (1, 0, []), (2, 1, []), (3, 0, []), (4, 0, []), (8, 1, []), (9, 0, []), (10, 1, []), (11, 0, []), (12, 0, []), (5, 4, []), (6, 0, []), (7, 0, []), (13, 2, []), (14, 0, []), (15, 0, []), (16, 0, [])]))]), (53, [(10, (none, [(0, 0, [41, 43]), (2, 0, [41, 43]), (1, 12, [41, 43]), (3, 13, []), (4, 0, []), (5, 4, []), (6, 2, []), (7, 0, []), (8, 2, [])]))]), (56, [(1, (none, [(0, 0, []), (1, 1, []), (2, 0, []), (3, 1, []), (5, 0, []), (6, 1, []), (8, 0, []), (9, 1, []), (4, 4, []), (7, 4, []), (10, 4, []), (11, 2, []), (12, 2, [])]))]), (60, [(1, (some [1], [(0, 1, []), (1, 0, []), (2, 1, []), (3, 0, []), (4, 1, []), (5, 4, []), (6, 2, []), (7, 2, [])]))]), (62, [(1, (none, [(0, 0, [15, 13]), (1, 0, [15, 13]), (3, 0, [15, 13]), (4, 7, [15, 13]), (2, 8, []), (5, 2, []), (6, 2, [])]))]), (76, [(6, (none, [(0, 0, []), (1, 0, []), (2, 0, []), (3, 0, []), (4, 1, []), (5, 0, []), (6, 0, []), (7, 0, []), (8, 0, []), (9, 1, []), (10, 0, []), (11, 1, []), (12, 0, []), (13, 1, []), (14, 0, []), (15, 1, []), (16, 2, [])])), (16, (none, [(0, 0, []), (1, 0, []), (2, 0, []), (3, 0, []), (4, 0, []), (5, 1, []), (6, 0, []), (7, 1, []), (8, 4, []), (9, 2, []), (10, 0, []), (11, 0, []), (12, 0, []), (13, 2, [])])), (17, (none, [(0, 0, []), (1, 0, []), (2, 0, []), (3, 0, []), (4, 0, []), (5, 1, []), (6, 0, []), (7, 1, []), (8, 4, []), (9, 2, []), (10, 0, []), (11, 0, []), (12, 0, []), (13, 2, [])])), (20, (some [0, 3], [(0, 0, []), (2, 0, []), (3, 0, []), (4, 0, []), (5, 0, []), (6, 1, []), (7, 0, []), (8, 1, []), (9, 0, []), (11, 0, []), (12, 0, []), (13, 0, []), (14, 0, []), (15, 1, []), (16, 0, []), (17, 1, []), (18, 0, []), (19, 0, []), (1, 6, []), (10, 5, []), (20, 2, []), (21, 0, []), (22, 0, []), (23, 0, []), (24, 2, [])])), (23, (none, [(0, 0, []), (1, 0, []), (2, 0, []), (3, 1, []), (4, 0, []), (5, 0, []), (6, 0, []), (7, 0, []), (8, 1, []), (9, 0, []), (10, 0, []), (11, 0, []), (12, 0, []), (13, 1, []), (14, 0, []), (15, 1, []), (16, 0, []), (17, 1, []), (18, 4, []), (19, 0, []), (20, 0, []), (21, 0, []), (22, 0, []), (23, 2, [])])), (27, (none, [(0, 0, []), (1, 0, []), (2, 0, []), (3, 0, []), (4, 1, []), (5, 0, []), (6, 0, []), (7, 0, []), (8, 0, []), (9, 1, []), (10, 0, []), (11, 1, []), (12, 0, []), (13, 1, []), (14, 0, []), (15, 1, []), (16, 0, []), (17, 0, []), (18, 0, []), (19, 0, []), (20, 0, []), (21, 1, []), (22, 0, []), (23, 1, []), (24, 0, []), (25, 1, []), (26, 2, []), (27, 0, []), (28, 0, []), (29, 2, [])])), (29, (none, [(0, 0, []), (1, 0, []), (2, 0, []), (3, 0, []), (4, 0, []), (5, 0, []), (6, 0, []), (7, 0, []), (8, 0, []), (9, 1, []), (10, 0, []), (11, 1, []), (12, 0, []), (13, 1, []), (14, 0, []), (15, 0, []), (16, 0, []), (17, 0, []), (18, 1, []), (19, 0, []), (20, 1, []), (21, 0, []), (22, 1, []), (23, 0, []), (24, 0, [])]))]), (80, [(2, (none, [(0, 0, []), (1, 0, []), (2, 0, []), (3, 1, []), (4, 0, []), (5, 0, []), (6, 0, []), (7, 1, []), (8, 0, []), (9, 0, [])])), (3, (none, [(0, 0, []), (1, 0, []), (2, 0, []), (3, 1, []), (4, 0, []), (5, 0, []), (6, 0, []), (7, 1, []), (8, 0, []), (9, 1, []), (10, 0, []), (11, 0, [])])), (6, (none, [(0, 0, []), (1, 0, []), (2, 0, []), (3, 1, []), (4, 0, []), (5, 0, []), (6, 0, []), (7, 1, []), (8, 0, []), (9, 0, [])]))]), (84, [(11, (none, [(0, 0, []), (1, 0, []), (2, 0, []), (3, 0, []), (4, 0, []), (5, 0, []), (6, 0, []), (7, 0, []), (8, 2, [])])), (15, (none, [(0, 0, []), (1, 0, []), (2, 0, []), (3, 0, []), (4, 0, []), (5, 0, []), (6, 0, []), (7, 0, []), (8, 2, [])]))]), (91, [(5, (none, [(0, 0, []), (1, 0, []), (2, 0, []), (3, 0, []), (4, 1, []), (5, 0, []), (6, 1, []), (7, 0, []), (8, 1, []), (9, 0, []), (10, 0, []), (11, 0, []), (12, 0, []), (13, 1, []), (14, 0, []), (15, 1, []), (16, 0, []), (17, 1, []), (18, 0, []), (19, 2, [])])), (6, (none, [(0, 0, []), (1, 0, []), (2, 0, []), (3, 0, []), (4, 0, []), (5, 1, []), (6, 1, []), (7, 4, []), (8, 2, []), (9, 0, []), (10, 0, []), (11, 0, []), (12, 2, [])])), (7, (none, [(0, 0, []), (1, 0, []), (2, 0, []), (3, 0, []), (4, 0, []), (5, 1, []), (6, 0, []), (7, 0, []), (8, 0, []), (9, 0, []), (10, 1, []), (11, 0, []), (12, 0, []), (13, 4, []), (14, 2, []), (15, 0, []), (16, 0, []), (17, 0, []), (18, 2, [])]))]), (92, [(1, (none, [(0, 1, []), (1, 1, []), (2, 4, []), (3, 2, []), (4, 2, [])]))]), (118, [(15, (none, [(0, 0, [62]), (1, 0, [62]), (2, 1, [62]), (3, 0, [62]), (4, 1, [62]), (5, 0, [62]), (6, 0, [62]), (7, 1, [62]), (8, 0, [62]), (10, 0, [62]), (9, 10, [62]), (11, 11, []), (12, 0, []), (13, 2, [])]))]), (121, [(1, (none, [(0, 0, []), (1, 0, []), (2, 0, []), (3, 0, []), (4, 1, []), (5, 0, []), (6, 0, []), (7, 0, []), (8, 0, []), (9, 0, []), (10, 1, []), (11, 0, []), (12, 0, []), (13, 0, []), (14, 0, []), (15, 1, []), (16, 0, [])])), (3, (none, [(0, 0, []), (1, 0, []), (2, 0, []), (3, 0, []), (4, 1, []), (5, 0, []), (6, 0, []), (7, 0, []), (8, 0, []), (9, 1, []), (10, 0, [])])), (5, (none, [(0, 0, []), (1, 0, []), (2, 0, []), (3, 0, []), (4, 0, []), (5, 1, []), (6, 0, []), (7, 0, []), (8, 0, []), (9, 0, []), (10, 1, []), (11, 0, []), (12, 0, []), (13, 0, []), (14, 2, [])]))]), (122, [(23, (none, [(0, 0, []), (1, 1, []), (2, 0, []), (3, 0, []), (4, 0, []), (5, 1, []), (6, 4, []), (7, 2, []), (8, 0, []), (9, 2, [])]))]), (135, [(7, (none, [(0, 0, []), (1, 0, []), (2, 0, []), (3, 0, []), (4, 0, []), (5, 0, []), (6, 0, []), (7, 0, []), (8, 0, []), (9, 0, []), (10, 0, []), (11, 0, []), (12, 2, []), (13, 0, []), (14, 2, [])])), (8, (none, [(0, 0, []), (1, 0, []), (2, 0, []), (3, 0, []), (4, 0, []), (5, 0, []), (6, 0, []), (7, 0, []), (8, 0, []), (9, 0, []), (10, 0, []), (11, 0, []), (12, 2, []), (13, 0, []), (14, 2, [])])), (9, (none, [(0, 0, []), (1, 0, []), (2, 0, []), (3, 0, []), (4, 0, []), (5, 0, []), (6, 0, []), (7, 0, []), (8, 0, []), (9, 0, []), (10, 0, []), (11, 0, []), (12, 2, []), (13, 0, []), (14, 2, [])])), (10, (none, [(0, 0, []), (1, 0, []), (2, 0, []), (3, 0, []), (4, 0, []), (5, 0, []), (6, 0, []), (7, 0, []), (8, 0, []), (9, 0, []), (10, 0, []), (11, 0, []), (12, 2, []), (13, 0, []), (14, 2, [])])), (17, (none, [(0, 0, []), (1, 0, []), (2, 0, []), (3, 0, []), (4, 0, []), (5, 0, []), (6, 0, []), (7, 0, []), (8, 0, []), (9, 0, []), (10, 0, []), (11, 0, []), (12, 2, []), (13, 0, []), (14, 2, [])])), (18, (none, [(0, 0, []), (1, 0, []), (2, 0, []), (3, 0, []), (4, 0, []), (5, 0, []), (6, 0, []), (7, 0, []), (8, 0, []), (9, 0, []), (10, 0, []), (11, 0, []), (12, 2, []), (13, 0, []), (14, 2, [])])), (23, (none, [(0, 0, []), (1, 0, []), (2, 0, []), (3, 0, []), (4, 0, []), (5, 0, []), (6, 0, []), (7, 0, []), (8, 0, []), (9, 0, []), (10, 0, []), (11, 0, []), (12, 2, []), (13, 0, []), (14, 2, [])]))]), (140, [(3, (none, [(0, 0, []), (1, 0, []), (2, 0, []), (3, 0, []), (4, 0, []), (5, 0, []), (6, 0, []), (7, 1, []), (8, 0, []), (9, 0, []), (10, 0, []), (11, 1, []), (12, 0, []), (13, 2, []), (14, 0, []), (15, 2, [])]))])]
def cfgN : Nat := 188
def skips : List Nat := [0, 1, 2, 74, 81, 82, 84, 90, 109, 114, 115, 116, 117, 120, 129, 131, 132, 133, 134, 135, 136, 137, 138, 140, 141, 142, 143, 144, 145, 146, 147, 148, 149, 150, 151, 152, 153, 154, 155, 156, 157, 158, 159, 160, 161, 162, 163, 164, 165, 166, 167, 168, 169, 170, 171, 172, 173, 175, 176, 177, 178, 179, 180, 181, 182, 183, 184, 185, 186, 187]
def extsOf : List (Nat × (List D → List (List D) → List (Option Row) → Option (List D × List (List D) × List (Option Row)))) := [(72, zeR Go.Proofs.YtcmcfebihbmmeaaDoor.numV), (74, zeR Go.Proofs.YtcmcfebihbmmeaaDoor.numV), (81, zcb 97 4), (82, zcb 3 1), (83, zlD), (84, zie 3), (109, zmM 3)]
def zmB : List Nat := [72, 74, 81, 82, 83, 84, 109]
def zhu : List Nat := []
noncomputable def cfg : Cfg where
 ty := zds tys
 fn := fun f => match Nat.blt f cfgN && !memN f skips && (!memN f zmB || memN f zhu) with | true => Go.Proofs.Tryd.prog.funcs[f]? | false => none
 mode := fun f => (zds zo4 f).getD []
 live := fun f r => ((zds zpC f).bind fun l => zds l r).getD []
 out := fun f r => ((zds zqi f).bind fun l => zds l r).getD []
 plan := fun f r => (zds zpI f).bind fun l => zds l r
 liv := fun f => memN f [56, 58, 59, 60, 86, 92, 93, 101, 102, 112, 113, 122, 127]
 ext := zds extsOf
end Go.Den
namespace Go.Den
open Go.Proofs
open Go
set_option linter.unusedVariables false
theorem zfS {α : Type} {n : Nat} {x : α} : ∀ {l : List (Nat × α)}, zds l n = some x → (n, x) ∈ l
 | [], h => by cases h
 | (a, y) :: l, h => by
   unfold zds at h
   split at h
   · rename_i hb
     cases h
     rw [beq_eq.1 hb]
     exact List.mem_cons_self
   · exact List.mem_cons_of_mem _ (zfS h)
noncomputable def zo7 : Bool := tys.all fun p => tyIs Tryd.prog (zds tys) p.1 p.2
theorem znM : zo7 = true := by kernel_rfl
theorem zky : TyOk Tryd.prog cfg.ty := fun t i h => (List.all_eq_true.1 znM) (t, i) (zfS h)
def fnGood (C : Cfg) (f : Nat) : Bool :=
 match C.fn f with
 | some fn => !(fn.name == "runtime.NumGoroutine") && (match fn.body with | some c => zbt fn.ntmps c && zbN C.ty fn.ntmps (C.plan f) c | none => true)
 | none => true
noncomputable def fnsGood : Bool := (List.range cfgN).all (fnGood cfg)
theorem fns_good : fnsGood = true := by kernel_rfl
theorem zji : Tryd.prog.follows .mixedOrders = true := by kernel_rfl
theorem zoY {B : Nat → Option Obj} {f : Nat} {fn : Func} (h : cfg.fn f = some fn) : FnOK Tryd.prog B cfg f fn := by
 have hlt : f < cfgN ∧ Tryd.prog.funcs[f]? = some fn := by
  unfold cfg at h
  simp only at h
  split at h
  · rename_i hb
    simp only [Bool.and_eq_true] at hb
    have : f + 1 ≤ cfgN := by simpa [Nat.blt] using hb.1.1
    exact ⟨by omega, h⟩
  · cases h
 have hg := (List.all_eq_true.1 fns_good) f (List.mem_range.2 hlt.1)
 unfold fnGood at hg
 rw [h] at hg
 simp only [Bool.and_eq_true, Bool.not_eq_true'] at hg
 refine ⟨hlt.2, hg.1, fun c hc => ?_, fun c hc call _ => ?_⟩
 · have := hg.2
   rw [hc] at this
   simp only [Bool.and_eq_true] at this
   exact this.1
 · have := hg.2
   rw [hc] at this
   simp only [Bool.and_eq_true] at this
   exact zbm (E := ⟨cfg.ty, cfg.mode, fn.ntmps, cfg.live f, cfg.out f, cfg.plan f, call⟩) zji c this.1 this.2
theorem cfg_e {B : Nat → Option Obj} (hB : Go.Proofs.YtcmcfebihbmmeaaDoor.TabAt B) {f : Nat} {g : List D → List (List D) → List (Option Row) → Option (List D × List (List D) × List (Option Row))} (h : cfg.ext f = some g) : ExtOK Tryd.prog cfg.ty B f g := by
 have hm := zfS (show zds extsOf f = some g from h)
 simp only [extsOf, List.mem_cons, Prod.mk.injEq, List.not_mem_nil, or_false] at hm
 rcases hm with ⟨rfl, rfl⟩ | ⟨rfl, rfl⟩ | ⟨rfl, rfl⟩ | ⟨rfl, rfl⟩ | ⟨rfl, rfl⟩ | ⟨rfl, rfl⟩ | ⟨rfl, rfl⟩
 · exact zm0 (fn := Tryd.f72) (by kernel_rfl) (by kernel_rfl) (by kernel_rfl) Go.Proofs.YtcmcfebihbmmeaaDoor.l1_calls
 · exact zlv (fn := Tryd.f74) (by kernel_rfl) (by kernel_rfl) (by kernel_rfl) (Go.Proofs.YtcmcfebihbmmeaaDoor.itoa_calls hB)
 · exact zke (fn := Tryd.f81) (i := ⟨.struct, 4, 32, [(0, 4), (1, 3), (2, 3), (3, 3)], [.dat (.val (.bool false)), .dat (.val (.int .i64 0)), .dat (.val (.int .i64 0)), .dat (.val (.int .i64 0))]⟩) zky Tryd.laysSlE041_f81 (by kernel_rfl) (by decide) (by decide) (by kernel_rfl) (by kernel_rfl) (by kernel_rfl)
 · exact zke (fn := Tryd.f82) (i := ⟨.int .i64, 1, 8, [], [.dat (.val (.int .i64 0))]⟩) zky Tryd.laysSlE041_f82 (by kernel_rfl) (by decide) (by decide) (by kernel_rfl) (by kernel_rfl) (by kernel_rfl)
 · exact bs_ok (fn := Tryd.f83) (by kernel_rfl) (by kernel_rfl) (by kernel_rfl) (fun b off n c zs x w h1 h2 h3 h4 => Tryd.slices_BinarySearch_int b off n c zs x w h1 h2 h3 h4) (fun a c x w => Tryd.slices_BinarySearch_int_empty a c x w)
 · exact zpX (fn := Tryd.f84) Tryd.laysNm221 (by kernel_rfl) (by kernel_rfl) (by kernel_rfl) (by kernel_rfl)
 · exact zqe (fn := Tryd.f109) (by kernel_rfl) (by kernel_rfl) (by kernel_rfl) (by kernel_rfl) (fun blk off cap i j zs w h1 h2 h3 h4 h5 => Tryd.slices_Delete_int blk off cap i j zs w h1 h2 h3 h4 h5) (fun a c w => Tryd.slices_Delete_int_empty a c w)
theorem zql {B : Nat → Option Obj} (hB : Go.Proofs.YtcmcfebihbmmeaaDoor.TabAt B) : CfgOK Tryd.prog B cfg := znU zky (fun f fn h => zoY h) (fun f g h => cfg_e hB h)
structure Says (P : Program) (B : Nat → Option Obj) (C : Cfg) : Prop where mk ::
 out : ∀ k, zcP P C.ty B (den C k)
theorem zpR {P : Program} {B : Nat → Option Obj} {C : Cfg} (h : CfgOK P B C) : Says P B C := ⟨zdY h⟩
theorem znT {B : Nat → Option Obj} (hB : Go.Proofs.YtcmcfebihbmmeaaDoor.TabAt B) : Says Tryd.prog B cfg := zpR (zql hB)
end Go.Den
namespace Go.Den
open Go Go.RowKit Go.ChangeShapes Go.WideShapes Go.Deep
set_option linter.unusedVariables false
inductive WT (ty : Nat → Option TI) : Nat → Dat → Prop where
 | int {t : Nat} {i : TI} {k : IntKind} {n : Int} (ht : ty t = some i) (hk : i.kind = .int k) (h : (Lit.int k n).wf = true) : WT ty t (.val (.int k n))
 | bool {t : Nat} {i : TI} {b : Bool} (ht : ty t = some i) (hk : i.kind = .bool) : WT ty t (.val (.bool b))
 | str {t : Nat} {i : TI} {s : ByteArray} (ht : ty t = some i) (hk : i.kind = .str) (h : s.size ≤ maxLen) : WT ty t (.val (.string s))
 | lst {t : Nat} {i : TI} {e : Nat} {es : List Dat} (ht : ty t = some i) (hk : i.kind = .slice e) (hl : es.length ≤ maxLen) (h : ∀ d ∈ es, WT ty e d) : WT ty t (.lst false es)
 | agg {t : Nat} {i : TI} {cs : List Dat} (ht : ty t = some i) (hk : i.kind = .struct) (hl : cs.length = i.fs.length) (h : ∀ (j : Nat) (f : Nat × Nat) (d : Dat), i.fs[j]? = some f → cs[j]? = some d → WT ty f.2 d) : WT ty t (.agg cs)
def zdB (ty : Nat → Option TI) : Nat → Nat → Bool
 | 0, _ => false
 | n + 1, t => match ty t with
   | none => false
   | some i => match i.kind with
     | .int _ => true
     | .bool => true
     | .str => true
     | .slice e => zdB ty n e && (match ty e with | some j => Nat.blt 0 j.sz | none => false)
     | .struct => Nat.beq i.sz i.fs.length && (List.range i.fs.length).all fun j => match i.fs[j]? with
       | some f => Nat.beq f.1 j && (zdB ty n f.2 && (match ty f.2 with | some k => Nat.beq k.sz 1 && !k.agg | none => false))
       | none => false
     | .map _ _ => false
     | .other => false
theorem zey {P : Program} {ty : Nat → Option TI} {t : Nat} {i : TI} {inf : TypeInfo} {d : TypeDesc} {z : Value} (h : TyFacts P ty t i inf d z) : P.cellsOf t = i.sz := by
 unfold Program.cellsOf
 rw [h.info]
 simpa using h.size
theorem znq {w : World} {a : Addr} {v : Value} (h : w.cell? a = some v) : a.spot = none := by
 unfold World.cell? at h
 split at h
 · split at h
   · cases h
   · rename_i hs
     simpa using hs
 · cases h
theorem zoi {a : Addr} (h : a.spot = none) : a = ⟨a.block, a.off, none⟩ := by cases a; simp at h; subst h; rfl
theorem znd {P : Program} {ty : Nat → Option TI} (hty : TyOk P ty) : ∀ (n t : Nat), zdB ty n t = true → ∀ {H : Type} (enc : TypeId × Value → H) (w : World) (base : Nat) (spare : Nat → Bool) (held : Bool) (fuel : Nat) (cs : List Value) (x : DataW H × List MemPlace),
 DataW.trod enc P w base spare held fuel t cs = some x → ∃ d, Rep (fun _ => .set) w d cs ∧ WT ty t d
 | 0, t, hp => by cases hp
 | n + 1, t, hp => by
   intro enc w base spare held fuel cs x h
   unfold zdB at hp
   split at hp
   · cases hp
   · rename_i i hi
     obtain ⟨inf, de, z, hf⟩ := hty.facts hi
     have hkk := hf.kind
     split at hp
     · rename_i k hk
       have hu : P.underlying t = some (.int k) := by
        rw [hf.und]
        cases de <;> simp [zaM, hk] at hkk ⊢
        exact hkk
       obtain ⟨m, rfl, _, hw⟩ := DataW.trod_int hu h
       exact ⟨.val (.int k m), .val rfl, .int hi hk hw⟩
     · rename_i hk
       have hu : P.underlying t = some .bool := by
        rw [hf.und]
        cases de <;> simp [zaM, hk] at hkk ⊢
       obtain ⟨m, rfl, _⟩ := DataW.trod_bool hu h
       exact ⟨.val (.bool m), .val rfl, .bool hi hk⟩
     · rename_i hk
       have hu : P.underlying t = some .string := by
        rw [hf.und]
        cases de <;> simp [zaM, hk] at hkk ⊢
       obtain ⟨m, rfl, _, hs⟩ := DataW.trod_string hu h
       exact ⟨.val (.string m), .val rfl, .str hi hk hs⟩
     · rename_i e hk
       simp only [Bool.and_eq_true] at hp
       obtain ⟨hp1, hp2⟩ := hp
       have hu : P.underlying t = some (.slice e) := by
        rw [hf.und]
        cases de <;> simp [zaM, hk] at hkk ⊢
        exact hkk.1
       cases hj : ty e with
       | none => rw [hj] at hp2; cases hp2
       | some j =>
       rw [hj] at hp2
       have hsz : 0 < j.sz := by
        have : 0 + 1 ≤ j.sz := by simpa [Nat.blt] using hp2
        omega
       obtain ⟨_, _, _, hfe⟩ := hty.facts hj
       have hce := zey hfe
       rcases open_slice hu h with ⟨rfl, _⟩ | ⟨a, len, cap, m, n', D, Pl, rfl, _, hl, hm, hmm, _, hx⟩
       · exact ⟨.lst false [], .nil, .lst hi hk (Nat.zero_le _) (fun d hd => by cases hd)⟩
       · have hlm : len ≤ m := by rw [hmm]; split <;> omega
         have hex : ∀ k, k < len → ∃ p : Dat × List Value, Rep (fun _ => .set) w p.1 p.2 ∧ WT ty e p.1 ∧ p.2.length = j.sz ∧ ∀ i u, p.2[i]? = some u → w.cell? (a.add (k * j.sz + i)) = some u := by
          intro k hlt
          obtain ⟨cs', hc, ht'⟩ := hx k (by omega)
          obtain ⟨d, hr, hw⟩ := znd hty n e hp1 enc w base spare held n' cs' _ ht'
          obtain ⟨_, hcl, hat⟩ := World.cells?_some hc
          rw [hce] at hcl hat
          refine ⟨(d, cs'), hr, hw, hcl, fun i u hu => ?_⟩
          have hi2 : i < j.sz := by rw [← hcl]; exact (List.getElem?_eq_some_iff.1 hu).1
          have := hat i hi2
          rw [Go.Deep.add_add] at this
          rw [this, hu]
         cases len with
         | zero => exact ⟨.lst false [], .nil, .lst hi hk (Nat.zero_le _) (fun d hd => by cases hd)⟩
         | succ len =>
           obtain ⟨p0, q1, q2, q3, q4⟩ := hex 0 (by omega)
           haveI : Inhabited (Dat × List Value) := ⟨p0⟩
           obtain ⟨f, hfx⟩ := choose_lt hex
           have hpos : 0 < p0.2.length := by omega
           have h0 := q4 0 _ (List.getElem?_eq_getElem hpos)
           have hspot : a.spot = none := by
            have := znq h0
            simpa [Addr.add] using this
           have hal := zoi hspot
           have hlt := World.block_lt_of_cell? w _ h0
           have hblk : a.block < w.heap.size := by simpa [Addr.add] using hlt
           refine ⟨.lst false ((List.range (len + 1)).map fun k => (f k).1), ?_, .lst hi hk (by simp; omega) ?_⟩
           · have hlen : ((List.range (len + 1)).map fun k => (f k).1).length = len + 1 := by simp
             have hat : ∀ (k : Nat) (d : Dat), ((List.range (len + 1)).map fun k => (f k).1)[k]? = some d → k < len + 1 ∧ d = (f k).1 := fun k d hd => by
              have hk2 : k < len + 1 := by
               have := (List.getElem?_eq_some_iff.1 hd).1
               simpa using this
              rw [List.getElem?_map, List.getElem?_range hk2] at hd
              exact ⟨hk2, by simpa using hd.symm⟩
             have hres := Rep.lst (ρ := fun _ => Role.set) (W := w) (b := false) (es := (List.range (len + 1)).map fun k => (f k).1) (g := a.block) (o := a.off) (c := cap) (sz := j.sz) (fun k => (f k).2) (by rw [hlen]; exact hl) hm (.inl rfl) hblk
              (fun k d hd => (hfx k (hat k d hd).1).2.2.1) (fun k d hd i u hu => by
               have := (hfx k (hat k d hd).1).2.2.2 i u hu
               rw [hal, Addr.add_lit, ← Nat.add_assoc] at this
               exact this) (fun k d hd => by
               obtain ⟨h1, rfl⟩ := hat k d hd
               exact (hfx k h1).1)
             rw [hlen] at hres
             rw [hal]
             exact hres
           · intro d hd
             obtain ⟨k, hk1, rfl⟩ := List.mem_map.1 hd
             exact (hfx k (by simpa using hk1)).2.1
     · rename_i hk
       have ha : i.agg = true := by unfold TI.agg; rw [hk]
       simp only [Bool.and_eq_true] at hp
       obtain ⟨hsz, hall⟩ := hp
       have hsz := Nat.eq_of_beq_eq_true hsz
       obtain ⟨fs, h1, h2, h3⟩ := hf.struct ha
       obtain ⟨xs, n', _, _, hl, hlen, hg⟩ := DataW.trod_struct h1 h
       rw [zey hf, hsz] at hl
       have hone : ∀ (j : Nat) (f : Nat × Nat), i.fs[j]? = some f → f.1 = j ∧ zdB ty n f.2 = true ∧ ∃ k, ty f.2 = some k ∧ k.sz = 1 ∧ k.agg = false := fun j f hj => by
        have hjl := (List.getElem?_eq_some_iff.1 hj).1
        have := (List.all_eq_true.1 hall) j (List.mem_range.2 hjl)
        rw [hj] at this
        simp only [Bool.and_eq_true] at this
        obtain ⟨a1, a2, a3⟩ := this
        refine ⟨Nat.eq_of_beq_eq_true a1, a2, ?_⟩
        cases hk2 : ty f.2 with
        | none => rw [hk2] at a3; cases a3
        | some k =>
          rw [hk2] at a3
          simp only [Bool.and_eq_true, Bool.not_eq_true'] at a3
          exact ⟨k, rfl, Nat.eq_of_beq_eq_true a3.1, a3.2⟩
       have hex : ∀ k, k < cs.length → ∃ d : Dat, ∃ v f, cs[k]? = some v ∧ i.fs[k]? = some f ∧ d.cells = [d] ∧ Rep (fun _ => .set) w d [v] ∧ WT ty f.2 d := by
        intro k hkl
        obtain ⟨ff, hfk⟩ : ∃ ff, i.fs[k]? = some ff := ⟨_, List.getElem?_eq_getElem (show k < i.fs.length by omega)⟩
        have hck := List.getElem?_eq_getElem hkl
        obtain ⟨o1, o2, kk, o3, o4, o5⟩ := hone k _ hfk
        obtain ⟨_, _, _, hfk2⟩ := hty.facts o3
        have hfl : ∃ fl, fs[k]? = some fl ∧ fl.offset = k ∧ fl.type = ff.2 := by
         have h4 := hfk
         rw [← h2, List.getElem?_map] at h4
         simp only [mSo] at h4
         obtain ⟨fl, h5, h6⟩ := h4
         refine ⟨fl, by simpa using h5, ?_, ?_⟩
         · rw [← o1, ← h6]
         · rw [← h6]
        obtain ⟨fl, h5, h6, h7⟩ := hfl
        have h8 := hg k fl h5
        have hxk : ∃ y, xs[k]? = some y := ⟨_, List.getElem?_eq_getElem (by have := (Array.getElem?_eq_some_iff.1 h5).1; omega)⟩
        obtain ⟨y, hy⟩ := hxk
        rw [hy, h6, h7, zey hfk2, o4] at h8
        have h9 : (cs.drop k).take 1 = [cs[k]] := by
         rw [List.drop_eq_getElem_cons hkl]; rfl
        rw [h9] at h8
        obtain ⟨d, hr, hw⟩ := znd hty n _ o2 enc w base spare held n' _ _ h8
        refine ⟨d, cs[k], _, hck, hfk, ?_, hr, hw⟩
        cases hw with
        | agg ht' hk' _ _ =>
          rw [o3] at ht'
          cases ht'
          unfold TI.agg at o5
          rw [hk'] at o5
          cases o5
        | _ => rfl
       haveI : Inhabited Dat := ⟨.val (.bool false)⟩
       obtain ⟨f, hfx⟩ := choose_lt hex
       have hat : ∀ (k : Nat) (d : Dat), ((List.range cs.length).map f)[k]? = some d → k < cs.length ∧ d = f k := fun k d hd => by
        have hk2 : k < cs.length := by
         have := (List.getElem?_eq_some_iff.1 hd).1
         simpa using this
        rw [List.getElem?_map, List.getElem?_range hk2] at hd
        exact ⟨hk2, by simpa using hd.symm⟩
       refine ⟨.agg ((List.range cs.length).map f), .agg (by simp) (fun k d v hd hv => ?_) (fun k d v hd hv => ?_), .agg hi hk (by simp; omega) (fun k ff d hff hd => ?_)⟩
       · obtain ⟨h4, rfl⟩ := hat k d hd
         obtain ⟨v', f', e1, e2, e3, e4, e5⟩ := hfx k h4
         exact e3
       · obtain ⟨h4, rfl⟩ := hat k d hd
         obtain ⟨v', f', e1, e2, e3, e4, e5⟩ := hfx k h4
         rw [hv] at e1
         cases e1
         exact e4
       · obtain ⟨h4, rfl⟩ := hat k d hd
         obtain ⟨v', f', e1, e2, e3, e4, e5⟩ := hfx k h4
         rw [hff] at e2
         cases e2
         exact e5
     · cases hp
     · cases hp
end Go.Den
namespace Go.Den
open Go Go.RowKit Go.ChangeShapes Go.WideShapes
open Go.ChangeMaps (open_string shut_string)
set_option linter.unusedVariables false
variable {B : Nat → Option Obj}
theorem zps {P : Program} {ty : Nat → Option TI} (hty : TyOk P ty) {n t : Nat} (hp : zdB ty n t = true) {H : Type} {enc : TypeId × Value → H} {w : World} {base b0 : Nat} {spare : Nat → Bool} {held : Bool} {r : Reach} {v : Value} {y : DataW H} {p : List MemPlace}
 (hv : Value.okWide P w r b0 t v) (h : DataW.Trod enc P w base spare held t v y p) : ∃ d cv, Rep (fun _ => .set) w d cv ∧ IsV d cv v ∧ WT ty t d := by
 obtain ⟨fuel, hf⟩ := id h
 obtain ⟨d, hr, hw⟩ := znd hty n t hp enc w base spare held fuel _ _ hf
 refine ⟨d, v.cells.toList, hr, ?_, hw⟩
 cases hw with
 | int ht hk _ =>
   rename_i i k m _
   obtain ⟨_, de, _, hfa⟩ := hty.facts ht
   have hkk := hfa.kind
   have hu : P.underlying t = some (.int k) := by
    rw [hfa.und]
    cases de <;> simp [zaM, hk] at hkk ⊢
    exact hkk
   obtain ⟨a, rfl, _⟩ := open_int hu hv h
   rfl
 | bool ht hk =>
   obtain ⟨_, de, _, hfa⟩ := hty.facts ht
   have hkk := hfa.kind
   have hu : P.underlying t = some .bool := by
    rw [hfa.und]
    cases de <;> simp [zaM, hk] at hkk ⊢
   obtain ⟨a, rfl, _⟩ := open_bool hu hv h
   rfl
 | str ht hk _ =>
   obtain ⟨_, de, _, hfa⟩ := hty.facts ht
   have hkk := hfa.kind
   have hu : P.underlying t = some .string := by
    rw [hfa.und]
    cases de <;> simp [zaM, hk] at hkk ⊢
   obtain ⟨a, rfl, _⟩ := open_string hu hv h
   rfl
 | lst ht hk _ _ =>
   rename_i i e es _ _
   obtain ⟨_, de, _, hfa⟩ := hty.facts ht
   have hkk := hfa.kind
   have hu : P.underlying t = some (.slice e) := by
    rw [hfa.und]
    cases de <;> simp [zaM, hk] at hkk ⊢
    exact hkk.1
   obtain ⟨a, len, cap, rfl⟩ := okWide_slice hu hv
   rfl
 | agg ht hk _ _ =>
   rename_i i cs _ _
   obtain ⟨_, _, _, hfa⟩ := hty.facts ht
   have ha : i.agg = true := by unfold TI.agg; rw [hk]
   obtain ⟨fs, h1, _, _⟩ := hfa.struct ha
   obtain ⟨xs, rfl, _⟩ := okWide_struct h1 hv
   show Value.agg xs = .agg (Value.cells (.agg xs)).toList.toArray
   simp [Value.cells]
theorem zmT {P : Program} {C : Cfg} {f : Nat} {fn : Func} {vals : Array Value} {ds : List Dat} {W : World} {b : Bool} (hS : ∀ k, zcP P C.ty B (den C k)) (hF : FnOK P B C f fn) (hb : fn.body.isSome = true) (hl : vals.size = ds.length)
 (hd : ∀ (j : Nat) (d : Dat) (v : Value), ds[j]? = some d → vals[j]? = some v → ∃ cv, Rep (fun _ => .set) W d cv ∧ IsV d cv v) (hB : ∀ (g : Nat) (o : Obj), B g = some o → W.heap[g]? = some o) (h : ∃ k, den C k f (ds.map .dat) [] [] = some ([.dat (.val (.bool b))], [], [])) :
 Calls P f vals W fun e W' => e = .returned (.bool b) ∧ Below W.heap.size W W' := by
 obtain ⟨k, hk⟩ := h
 let c : Cx := { ty := C.ty, ρ := fun _ => .set, β := fun _ => 0, H := fun _ => undef, W := W, s := start (ds.map .dat) [] [] }
 have hsim : Sim c vals := by
  refine ⟨fun y => ?_, fun r cs hb => ?_, fun j r hg => ?_⟩
  · show VR c (.slot y []) ((ds.map .dat).getD y .undef) (vals.getD y undef)
    by_cases hy : y < ds.length
    · have h1 := List.getElem?_eq_getElem hy
      have h2 : vals[y]? = some (vals[y]'(by omega)) := Array.getElem?_eq_getElem (by omega)
      have e1 : (ds.map D.dat).getD y .undef = .dat ds[y] := by simp [List.getD_eq_getElem?_getD, hy]
      have e2 : vals.getD y undef = vals[y]'(by omega) := by simp [Array.getD, show y < vals.size by omega]
      rw [e1, e2]
      exact hd y _ _ h1 h2
    · have e1 : (ds.map D.dat).getD y .undef = .undef := by simp [List.getD_eq_getElem?_getD, hy]
      have e2 : vals.getD y undef = undef := by simp [Array.getD, show ¬ y < vals.size by omega]
      rw [e1, e2]
      rfl
  · cases r with
    | loc n => cases hb
    | up n =>
      have hb' : ([] : List (List D))[n]? = some cs := hb
      simp at hb'
  · have hg' : (([] : List (Option Row))[j]?).bind id = some r := hg
    simp at hg'
 have hr := hS k f _ _ _ _ _ _ hk c vals rfl (fun g o hg => ⟨trivial, hB g o hg⟩) rfl (by simpa using hl) hsim
 have hent : (callFunc f vals).run P W = .ok (.enter f vals) W := by
  have h1 : fn.name ≠ "runtime.NumGoroutine" := by simpa using hF.name
  obtain ⟨code, hbd⟩ := Option.isSome_iff_exists.1 hb
  simp [callFunc, hF.there, h1, hbd, mark]
 unfold Reaches at hr
 have hent' : (callFunc f vals).run P c.W = .ok (.enter f vals) W := hent
 rw [hent'] at hr
 refine Calls.mono hr fun e W' he => ?_
 cases e with
 | returned v =>
   obtain ⟨c', rfl, ha⟩ := he
   have ha := ha.plain rfl
   refine ⟨?_, ha.ext.os, ha.ext.tape, ha.ext.output, ha.ext.size, fun g hg => (ha.ext.keep g hg trivial).2⟩
   have hv := ha.sim.slots 0
   rw [ha.s] at hv
   have hv' : VR c' (.slot 0 []) (.dat (.val (.bool b))) v := hv
   rw [(zav hv').1]
 | _ => exact he.elim
end Go.Den
namespace Go.Den
open Go
set_option linter.unusedVariables false
inductive Hint where
 | yes
 | no
 | put (d : D)
 | to (f : St → St)
 | at (d : Dat)
 | ok
 | ret (rs : List D)
 | back (rs : List D) (u : List (List D)) (l : List (Option Row))
 | loop (s0 : St) (x : X) (s : St)
def Obs : List Prop → Prop
 | [] => True
 | p :: l => p ∧ Obs l
theorem zgG : ∀ {a b : List Prop}, Obs (a ++ b) → Obs a ∧ Obs b
 | [], b, h => ⟨trivial, h⟩
 | p :: a, b, h => by
   have h' : p ∧ Obs (a ++ b) := h
   obtain ⟨h1, h2⟩ := zgG h'.2
   exact ⟨⟨h'.1, h1⟩, h2⟩
abbrev zcR := List (Nat × Hint)
def zj4 : zcR → Nat → Option Hint
 | [], _ => none
 | (a, x) :: l, n => match Nat.beq a n with | true => some x | false => zj4 l n
def keyOf (o : Oper) : Option Nat :=
 match o.dst, o.op with
 | some n, _ => some n
 | none, .store _ (.tmp a) _ => some (100000 + a)
 | _, _ => none
def hadd {α : Type} (p : Prop) : Option (List Prop × α) → Option (List Prop × α)
 | some r => some (p :: r.1, r.2)
 | none => none
def zml {α : Type} (hs : zcR) (s : St) (x : Nat) (yes no : St → Option (List Prop × α)) (und : Option (List Prop × α)) : Option (List Prop × α) :=
 match s.t x with
 | .dat (.val (.bool b)) => match zj4 hs (200000 + x) with
   | some .yes => hadd (b = true) (yes (s.force x true))
   | some .no => hadd (b = false) (no (s.force x false))
   | _ => match b with | true => yes (s.force x true) | false => no (s.force x false)
 | .undef => und
 | _ => none
def hcond {α : Type} (hs : zcR) (s : St) (c : Operand) (yes no : St → Option (List Prop × α)) : Option (List Prop × α) :=
 match c with
 | .tmp x => zml hs s x yes no none
 | .const (.bool v) => match v with | true => yes s | false => no s
 | _ => none
def zkA {α : Type} (hs : zcR) (ops : Array Oper) (s : St) (g : Option (Nat × Bool)) (k z : St → Option (List Prop × α)) : Option (List Prop × α) :=
 match g with
 | none => k s
 | some (j, want) => match (ops[j]?).bind (·.dst) with
   | none => none
   | some x => match want with
     | true => zml hs s x k z (z s)
     | false => zml hs s x z k (z s)
def Env.with (E : Env) (q : List D × List (List D) × List (Option Row)) : Env := { E with call := fun _ _ _ _ => some q }
def zek (E : Env) (s : St) (o : Oper) : Option (Nat × List D × Bool) :=
 match o.op with
 | .call ca => match ca.callee with
   | .value z => match s.look z with
     | .fn f [] => match zbr (E.mode f) with
       | true => (match ze4 s.get (zaC E s.look ca.args.toList ca.argTypes.toList) with
         | some r => some (f, r.1.map .dat, r.2)
         | none => none)
       | false => none
     | _ => none
   | _ => none
 | _ => none
def zmJ (E : Env) (s : St) (f : Nat) (cap : List Ref) (args : List D) : Option (List D × List (List D) × List (Option Row)) :=
 (zax (E.mode f) args s).bind fun a =>
 (zaQ a.2.get (E.mode f) a.1).bind fun ls =>
 match zaV ls with
 | false => none
 | true => match cap.isEmpty && a.1.all ziD with
   | true => (zaG (hide ls false a.2.get) 0 [] (E.mode f) 0 a.1).map fun v => (v.1, [], ls.map fun p => some p.2)
   | false => match ls.all fun p => !p.1.ofCell with
     | false => none
     | true =>
       let keys := a.2.sent E.nt cap a.1; let m := a.2.upsSent keys cap a.1
       (zaG (hide ls true a.2.get) m keys (E.mode f) 0 a.1).bind fun v =>
       (zbS m keys cap).bind fun caps =>
       (zeC a.2 keys).bind fun bs => (zcu m keys (a.2.u.take m ++ bs)).map fun us => (v.1 ++ caps.map (fun r => D.ptr r 0), us, ls.map fun p => some p.2)
def zdv (E : Env) (s : St) (o : Oper) : Option (Nat × List D × List (List D) × List (Option Row)) :=
 match o.op with
 | .call ca => match ca.callee with
   | .value z => match s.look z with
     | .fn f cap => match cap.isEmpty && (zbr (E.mode f) && (ze4 s.get (zaC E s.look ca.args.toList ca.argTypes.toList)).isSome) with
       | true => none
       | false => (zmJ E s f cap (zaC E s.look ca.args.toList ca.argTypes.toList)).map fun r => (f, r)
     | _ => none
   | _ => none
 | _ => none
theorem zf7 {E : Env} {s : St} {o : Oper} {rs : List D} {f : Nat} {args : List D} {fl : Bool} (h : zek E s o = some (f, args, fl)) (hpl : D.plains rs = true) (hfl : fl = true → D.cleans rs = true) (hc : E.call f args [] [] = some (rs, [], [])) : evOp E s.look s.get s.box o.type o.op = some (.pure (retD rs)) ∧ evOp (E.with (rs, [], [])) s.look s.get s.box o.type o.op = some (.pure (retD rs)) := by
 unfold zek at h
 split at h
 · rename_i ca ho
   split at h
   · rename_i z hz
     split at h
     · rename_i f' hf
       split at h
       · rename_i hm
         split at h
         · rename_i r hr
           · cases h
             have hcl : (r.2 && !D.cleans rs) = false := by
              cases hr2 : r.2 with
              | false => rfl
              | true => rw [hfl hr2]; rfl
             rw [ho]
             refine ⟨?_, ?_⟩
             · simp only [evOp, hz, hf, zdu, hm, hr, Option.bind_some, hc, znw, hpl, hcl]
             · have hm' : zbr ((E.with (rs, [], [])).mode f) = true := hm
               have hr' : ze4 s.get (zaC (E.with (rs, [], [])) s.look ca.args.toList ca.argTypes.toList) = some r := by
                rw [← hr]
                congr 1
                generalize ca.args.toList = zs
                generalize ca.argTypes.toList = ts
                induction zs generalizing ts with
                | nil => rfl
                | cons z zs ih => simp only [zaC, ih]; rfl
               have hcc : (E.with (rs, [], [])).call f (r.1.map .dat) [] [] = some (rs, [], []) := rfl
               simp only [evOp, hz, hf, zdu, hm', hr', Option.bind_some, hcc, znw, hpl, hcl]
         · cases h
       · cases h
     · cases h
   · cases h
 · cases h
theorem znl {E : Env} {s : St} {o : Oper} {rs : List D} {f : Nat} {args : List D} {cs : List D} {l : List (Option Row)} (h : zek E s o = some (f, args, false)) (hpl : D.plains rs = false) (hc : E.call f args [] [] = some (rs, [cs], l)) : evOp E s.look s.get s.box o.type o.op = some (.made cs) := by
 unfold zek at h
 split at h
 · rename_i ca ho
   split at h
   · rename_i z hz
     split at h
     · rename_i f' hf
       split at h
       · rename_i hm
         split at h
         · rename_i r hr
           have h1 : r.2 = false := by injection h with h; injection h with _ h; injection h with _ h
           have h2 : f' = f ∧ r.1.map D.dat = args := by injection h with h; injection h with h3 h; injection h with h4 _; exact ⟨h3, h4⟩
           obtain ⟨rfl, rfl⟩ := h2
           rw [ho]
           simp only [evOp, hz, hf, zdu, hm, hr, Option.bind_some, hc, znw, hpl, h1]
         · cases h
       · cases h
     · cases h
   · cases h
 · cases h
theorem zdf {E : Env} {q : List D × List (List D) × List (Option Row)} {lk : Operand → D} : ∀ (zs : List Operand) (ts : List Nat), zaC (E.with q) lk zs ts = zaC E lk zs ts
 | [], ts => rfl
 | z :: zs, ts => by simp only [zaC, zdf zs]; rfl
theorem zfH {E : Env} {s : St} {o : Oper} {q : List D × List (List D) × List (Option Row)} {r : Nat × List D × List (List D) × List (Option Row)} (h : zdv E s o = some r) (hc : E.call r.1 r.2.1 r.2.2.1 r.2.2.2 = some q) : step E s o = step (E.with q) s o := by
 unfold zdv at h
 split at h
 · rename_i ca ho
   split at h
   · rename_i z hz
     split at h
     · rename_i f cap hf
       split at h
       · cases h
       · rename_i hdead
         simp only [mSo] at h
         obtain ⟨⟨a, u, l⟩, hdo, rfl⟩ := h
         simp only at hc
         have hev : ∀ E', E'.mode = E.mode → zaC E' s.look ca.args.toList ca.argTypes.toList = zaC E s.look ca.args.toList ca.argTypes.toList → evOp E' s.look s.get s.box o.type o.op = none := by
          intro E' hm ha
          rw [ho]
          simp only [evOp, hz, hf]
          cases cap with
          | cons r rs => rfl
          | nil =>
            simp only [List.isEmpty_nil, Bool.true_and] at hdead
            simp only [zdu, hm, ha]
            cases hz : zbr (E.mode f) with
            | false => rfl
            | true =>
              rw [hz, Bool.true_and] at hdead
              cases hv : ze4 s.get (zaC E s.look ca.args.toList ca.argTypes.toList) with
              | none => rfl
              | some r => rw [hv] at hdead; cases hdead
         unfold step
         rw [hev E rfl rfl, hev (E.with q) rfl (zdf _ _)]
         simp only [ho, doOp, hz, hf, zdf]
         unfold zmJ at hdo
         unfold zgz
         simp only [bSo] at hdo
         obtain ⟨a1, h1, ls, h2, hdo⟩ := hdo
         have h1' : zax ((E.with q).mode f) (zaC E s.look ca.args.toList ca.argTypes.toList) s = some a1 := h1
         have h2' : zaQ a1.2.get ((E.with q).mode f) a1.1 = some ls := h2
         simp only [h1, h1', h2, h2', Option.bind_some]
         split at hdo
         · cases hdo
         · rename_i hdis
           simp only [hdis]
           split at hdo
           · rename_i hcl
             simp only [hcl]
             simp only [mSo, Prod.mk.injEq] at hdo
             obtain ⟨v, hv, rfl, rfl, rfl⟩ := hdo
             have hv' : zaG (hide ls false a1.2.get) 0 [] ((E.with q).mode f) 0 a1.1 = some v := hv
             simp only [hv, hv', Option.bind_some, hc]
             rfl
           · rename_i hcl
             simp only [hcl]
             split at hdo
             · cases hdo
             · rename_i hnc
               simp only [hnc]
               simp only [bSo, mSo, Prod.mk.injEq] at hdo
               obtain ⟨v, hv, caps, hcaps, bs, hbs, us, hus, rfl, rfl, rfl⟩ := hdo
               have hv' : zaG (hide ls true a1.2.get) (a1.2.upsSent (a1.2.sent (E.with q).nt cap a1.1) cap a1.1) (a1.2.sent (E.with q).nt cap a1.1) ((E.with q).mode f) 0 a1.1 = some v := hv
               have e2 : (E.with q).nt = E.nt := rfl
               simp only [e2] at hv' ⊢
               simp only [hv, hv', Option.bind_some, hcaps, hbs, hus, hc]
               rfl
     · cases h
   · cases h
 · cases h
def zn5 (E : Env) (s : St) (hd : Option Dat) : Op → Option (Prop × D)
 | .indexAddr t x i => (E.ty t).bind fun k => match k.kind with
   | .slice e => (E.ty e).bind fun j => (intOf (s.look i)).bind fun n => match s.look x, hd with
     | .dat (.lst b es), some d => (match Nat.beq d.cells.length j.sz with | true => some ((0 ≤ n ∧ n < es.length) ∧ es[n.toNat]? = some d, .ep b d.cells) | false => none)
     | .bor p m, none => (s.get p).bind fun r => match Nat.beq r.1 e with | true => some (0 ≤ n ∧ n < (za3 m r.2).length, .bp p n.toNat 0) | false => none
     | _, _ => none
   | _ => none
 | .load t x => (E.ty t).bind fun i => match s.look x, hd with
   | .bp p j o, some d => (s.get p).bind fun r => (zcT i (d.cells.drop o)).map fun x => (r.2[j]? = some d, .dat x)
   | _, _ => none
 | .slice t x lo hi mx => match mx with
   | none => (zc6 E.ty t).bind fun st => (zcF s.look lo).bind fun l => (zcF s.look hi).bind fun h => match st, s.look x with
     | none, .dat (.val (.string b)) => some (0 ≤ l.getD 0 ∧ l.getD 0 ≤ h.getD b.size ∧ h.getD b.size ≤ b.size, .dat (.val (.string (b.extract (l.getD 0).toNat (h.getD b.size).toNat))))
     | some n, .dat (.lst b es) => some ((0 ≤ l.getD 0 ∧ l.getD 0 ≤ h.getD es.length ∧ h.getD es.length ≤ es.length) ∧ wid n es = true, .dat (.lst b ((es.take (h.getD es.length).toNat).drop (l.getD 0).toNat)))
     | some n, .bor p m => (match l, h with
       | none, some h => (s.get p).bind fun r => some (0 ≤ h ∧ h ≤ (za3 m r.2).length, .bor p (some h.toNat))
       | some l, none => (match m with | none => (s.get p).bind fun r => (E.ty r.1).bind fun i => (match Nat.beq i.sz n with | true => some (0 ≤ l ∧ l ≤ r.2.length, .sb p l.toNat n) | false => none) | some _ => none)
       | _, _ => none)
     | _, _ => none
   | some _ => none
 | .index t x i => (E.ty t).bind fun k => (intOf (s.look i)).bind fun n => match s.look x, k.kind with
   | .dat (.val (.string s)), .str => some (0 ≤ n ∧ n < s.size, .dat (.val (.int .u8 ((s[n.toNat]?).getD 0).toNat)))
   | _, _ => none
 | .binOp op t x y _ => match op, s.look x, s.look y, hd with
   | .rem, .dat (.val (.int k a)), .dat (.val (.int k' b)), none => match decide (k = k') with
     | true => some (b ≠ 0, .dat (.val (.int k (a.tmod b))))
     | false => none
   | .quo, .dat (.val (.int k a)), .dat (.val (.int k' b)), none => match decide (k = k') with
     | true => some (b ≠ 0, .dat (.val (.int k (k.wrap (a.tdiv b)))))
     | false => none
   | .add, .dat (.val (.string a)), .dat (.val (.string b)), none => some (a.size + b.size ≤ 9223372036854775807, .dat (.val (.string (a ++ b))))
   | _, _, _, _ => none
 | .makeSlice t l c => (E.ty t).bind fun i => match i.kind with
   | .slice e => (E.ty e).bind fun j => j.zeroD.bind fun z => (intOf (s.look l)).bind fun n => (intOf (s.look c)).bind fun m =>
     match Nat.ble j.bytes 65536 with
     | true => some (0 ≤ n ∧ n ≤ m ∧ m ≤ 2147483648, .own e (List.replicate n.toNat z))
     | false => none
   | _ => none
 | .lookup t m k ok => (E.ty t).bind fun i => match i.kind with
   | .map kt et => (E.ty kt).bind fun kj => (E.ty et).bind fun ej => match zld kj.kind, s.look m, s.look k, hd, ok with
     | true, .etc (.map r), .dat (.val kv), some (.val b), false => (s.box r).bind fun cs => match isM cs with
       | true => some (zdQ kj.kind kv cs.tail = some (some b), .dat (.val b))
       | false => none
     | _, _, _, _, _ => none
   | _ => none
 | _ => none
theorem zf0 {E : Env} {s : St} {hd : Option Dat} {op : Op} {ty : Nat} {p : Prop} {d : D} (h : zn5 E s hd op = some (p, d)) (hp : p) : evOp E s.look s.get s.box ty op = some (.pure d) := by
 unfold zn5 at h
 split at h
 · rename_i t x i
   simp only [bSo] at h
   obtain ⟨k, hk, h⟩ := h
   simp only [evOp, hk, Option.bind_some]
   split at h
   · rename_i e hke
     simp only [bSo] at h
     obtain ⟨j, hj, n, hn, h⟩ := h
     simp only [hke, hj, Option.bind_some, hn]
     split at h
     · rename_i b es dd hx
       split at h
       · rename_i hb
         cases h
         obtain ⟨h1, h2⟩ := hp
         simp only [hx, zb1, h1, h2, and_self, if_true, Option.bind_some, hb, Option.map_some]
       · cases h
     · rename_i pl m hx
       simp only [bSo] at h
       obtain ⟨r, hr, h⟩ := h
       split at h
       · rename_i hb
         cases h
         simp only [hx, zb1, hr, Option.bind_some, hb, hp, and_self, if_true, Option.map_some]
       · cases h
     · cases h
   · cases h
 · rename_i t x
   simp only [bSo] at h
   obtain ⟨i, hi, h⟩ := h
   simp only [evOp, hi, Option.bind_some]
   split at h
   · rename_i pl j o dd hx
     simp only [bSo, mSo, Prod.mk.injEq] at h
     obtain ⟨r, hr, y, hy, rfl, rfl⟩ := h
     simp only [hx, zc8, hr, Option.bind_some, hp, hy, Option.map_some]
   · cases h
 · rename_i t x lo hi mx
   split at h
   · simp only [bSo] at h
     obtain ⟨st, hst, l, hl, hh, hhi, h⟩ := h
     simp only [evOp, hst, hl, hhi, Option.bind_some]
     split at h
     · rename_i b hx
       cases h
       simp only [hx, ziS, zcg, hp, and_self, if_true, Option.map_some]
     · rename_i n b es hx
       cases h
       obtain ⟨h1, h2⟩ := hp
       simp only [hx, ziS, zcg, h1, h2, and_self, if_true, Option.map_some]
     · rename_i n pl m hx
       split at h
       · rename_i hhv
         simp only [bSo] at h
         obtain ⟨r, hr, h⟩ := h
         cases h
         simp only [hx, ziS, hr, Option.bind_some, hp, and_self, if_true, Option.map_some]
       · cases m with
         | none =>
           simp only [bSo] at h
           obtain ⟨r, hr, ii, hii, h⟩ := h
           split at h
           · rename_i hb
             cases h
             simp only [hx, ziS, hr, Option.bind_some, hii, hb, hp, and_self, if_true, Option.map_some]
           · cases h
         | some m => cases h
       · cases h
     · cases h
   · cases h
 · rename_i t x i
   simp only [bSo] at h
   obtain ⟨k, hk, n, hn, h⟩ := h
   simp only [evOp, hk, hn, Option.bind_some]
   split at h
   · rename_i b hx hkk
     cases h
     simp only [hx, hkk]
     rw [dif_pos hp]
     have : b[n.toNat]? = some (b[n.toNat]'(by omega)) := getElem?_pos b n.toNat (by omega)
     rw [this]
     rfl
   · cases h
 · rename_i op t x y ky
   split at h
   · rename_i k a k' b hx hy
     split at h
     · rename_i hk
       cases h
       simp [evOp, hx, hy, zgV, binD, binV, ziG, hk, hp]
     · cases h
   · rename_i k a k' b hx hy
     split at h
     · rename_i hk
       cases h
       simp [evOp, hx, hy, zgV, binD, binV, ziG, hk, hp]
     · cases h
   · rename_i a b hx hy
     cases h
     simp only [evOp, hx, hy, zgV, binD, binV, ziG]
     rw [if_pos hp]
     rfl
   · cases h
 · rename_i t l c
   simp only [bSo] at h
   obtain ⟨i, hi, h⟩ := h
   simp only [evOp, hi, Option.bind_some]
   split at h
   · rename_i e hk
     simp only [bSo] at h
     obtain ⟨j, hj, z, hz, n, hn, m, hm, h⟩ := h
     split at h
     · rename_i hb
       cases h
       simp only [hk, hj, hz, hn, hm, Option.bind_some, hp, and_self, if_true, hb]
     · cases h
   · cases h
 · rename_i t m k ok
   simp only [bSo] at h
   obtain ⟨i, hi, h⟩ := h
   split at h
   · rename_i kt et hk
     simp only [bSo] at h
     obtain ⟨kj, hkj, ej, hej, h⟩ := h
     split at h
     · rename_i r kv b hkt hm hkk
       simp only [bSo] at h
       obtain ⟨cs, hcs, h⟩ := h
       split at h
       · rename_i hM
         cases h
         simp only [evOp, hi, Option.bind_some, hk, hkj, hej, hkt, hm, hkk, hcs, hM, hp, zkX, Option.map_some]
       · cases h
     · cases h
   · cases h
 · cases h
def znA (E : Env) (s : St) (x : Option Nat) : Op → Option (Prop × St)
 | .call c => match c.callee with
   | .builtin .append => match c.args.toList, c.argTypes.toList with
     | [a, b], [t, u] => (E.ty t).bind fun i => match i.kind with
       | .slice e => match Nat.beq t u with
         | true => (zf9 s.get (s.look b)).bind fun es2 => (zbs s e a).bind fun r => (E.ty e).bind fun i =>
           match Nat.beq r.1.1 e && Nat.ble i.bytes 65536 && Nat.blt 0 i.sz with
           | true => some (es2.all (fun d => Nat.beq d.cells.length i.sz) = true ∧ r.1.2.length + es2.length ≤ 2147483648, r.2.putO x (.own e (r.1.2 ++ es2)))
           | false => none
         | false => (E.ty e).bind fun j => (E.ty u).bind fun k => match ziA j, k.kind, s.look b with
           | true, .str, .dat (.val (.string w)) => (zbs s e a).bind fun r => match Nat.beq r.1.1 e && Nat.ble j.bytes 65536 && Nat.blt 0 j.sz with
             | true => some ((za4 w).all (fun d => Nat.beq d.cells.length j.sz) = true ∧ r.1.2.length + (za4 w).length ≤ 2147483648, r.2.putO x (.own e (r.1.2 ++ za4 w)))
             | false => none
           | _, .int _, .dat (.val (.int .i64 n)) => (zbs s e a).bind fun r => j.zeroD.bind fun z => match Nat.beq r.1.1 e && Nat.ble j.bytes 65536 && Nat.blt 0 j.sz && decide (0 ≤ n) with
             | true => some (r.1.2.length + n.toNat ≤ 2147483648, r.2.putO x (.own e (r.1.2 ++ List.replicate n.toNat z)))
             | false => none
           | _, _, _ => none
       | _ => none
     | _, _ => none
   | _ => none
 | .convert t u y => (E.ty t).bind fun i => match i.kind with
   | .slice e => (E.ty e).bind fun j => (E.ty u).bind fun k => match j.kind, k.kind with
     | .int .u8, .str => (zf9 s.get (s.look y)).bind fun es => x.map fun n => (znP es ≠ none, s.put n (.dat (.val ((znP es).getD (.string ByteArray.empty)))))
     | _, _ => none
   | _ => none
 | _ => none
theorem ziM {E : Env} {s : St} {o : Oper} {p : Prop} {s' : St} (h : znA E s o.dst o.op = some (p, s')) (hp : p) : step E s o = some s' := by
 unfold znA at h
 split at h
 · rename_i c ho
   split at h
   · rename_i hc
     split at h
     · rename_i a b t u ha hat
       simp only [bSo] at h
       obtain ⟨i, hi, h⟩ := h
       split at h
       · rename_i e hk
         split at h
         · rename_i htu
           simp only [bSo] at h
           obtain ⟨es2, hes, r, hr, i2, hi2, h⟩ := h
           split at h
           · rename_i hcond
             cases h
             have hev : evOp E s.look s.get s.box o.type o.op = none := by rw [ho]; simp only [evOp, hc]
             unfold step
             rw [hev]
             have hes' : zhU s.get false (s.look b) = some es2 := by
              unfold zhU
              split
              · rename_i he
                rw [he] at hes
                cases hes
              · exact hes
             simp only [ho, doOp, hc, ha, hat, hi, Option.bind_some, hk, htu, zcB, hes', hr, hi2, hcond, hp.1, Bool.and_self, hp.2, if_true]
           · cases h
         · rename_i htu
           simp only [bSo] at h
           obtain ⟨j, hj, k, hkj, h⟩ := h
           split at h
           · rename_i w hib huk hw
             simp only [bSo] at h
             obtain ⟨r, hr, h⟩ := h
             split at h
             · rename_i hcond
               cases h
               have hev : evOp E s.look s.get s.box o.type o.op = none := by rw [ho]; simp only [evOp, hc]
               unfold step
               rw [hev]
               have hes' : zhU s.get true (s.look b) = some (za4 w) := by rw [hw]; rfl
               simp only [ho, doOp, hc, ha, hat, hi, Option.bind_some, hk, htu, hj, hkj, hib, huk, zcB, hes', hr, hcond, hp.1, Bool.and_self, hp.2, if_true]
             · cases h
           · rename_i nn huk hw
             simp only [bSo] at h
             obtain ⟨r, hr, z, hz, h⟩ := h
             split at h
             · rename_i hcond
               cases h
               have hev : evOp E s.look s.get s.box o.type o.op = none := by rw [ho]; simp only [evOp, hc]
               unfold step
               rw [hev]
               have hes' : intOf (s.look b) = some nn := by rw [hw]; exact rfl
               simp only [ho, doOp, hc, ha, hat, hi, Option.bind_some, hk, htu, hj, hkj, huk]
               simp only [zfu, hes', hr, hz, hj, Option.bind_some, hcond, hp, if_true]
             · cases h
           · cases h
       · cases h
     · cases h
   · cases h
 · rename_i t u y ho
   simp only [bSo] at h
   obtain ⟨i, hi, h⟩ := h
   split at h
   · rename_i e hk
     simp only [bSo] at h
     obtain ⟨j, hj, k, hkk, h⟩ := h
     split at h
     · rename_i hjk hku
       simp only [bSo, mSo, Prod.mk.injEq] at h
       obtain ⟨es, hes, n, hn, rfl, rfl⟩ := h
       obtain ⟨v, hv⟩ := Option.ne_none_iff_exists'.1 hp
       have hconv : znX (some i) (some k) (s.look y) = none := by
        cases hy : s.look y with
        | dat d => cases d with
          | val w => rw [hy] at hes; cases hes
          | agg cs => rfl
          | lst b l => rfl
        | _ => rfl
       have hev : evOp E s.look s.get s.box o.type o.op = none := by rw [ho]; simp only [evOp, hi, hkk, Option.bind_some, hconv, Option.map_none]
       unfold step
       rw [hev]
       simp only [ho, doOp, zcI, hi, hj, hkk, Option.bind_some, hk, hjk, hku, hes, hv, hn, Option.map_some, Option.getD_some]
     · cases h
   · cases h
 · cases h
def zpk (E : Env) (s : St) (hd : Dat) : Op → Option (Prop × St)
 | .store t a y => match zf2 y with
   | true => none
   | false => (E.ty t).bind fun i => match s.look a with
     | .bp p j o => (s.datD (s.look y)).bind fun q => match Nat.beq q.1.cells.length i.sz with
       | false => none
       | true => (q.2.get p).bind fun r => (zfJ hd o q.1.cells).map fun d' => (r.2[j]? = some hd, q.2.setPl p (.own r.1 (r.2.set j d')))
     | _ => none
 | _ => none
theorem zjJ {E : Env} {s : St} {hd : Dat} {o : Oper} {p : Prop} {s' : St} (h : zpk E s hd o.op = some (p, s')) (hp : p) : step E s o = some s' := by
 unfold zpk at h
 split at h
 · rename_i t a y ho
   split at h
   · cases h
   · rename_i hn
     simp only [bSo] at h
     obtain ⟨i, hi, h⟩ := h
     split at h
     · rename_i pl j off ha
       simp only [bSo] at h
       obtain ⟨q, hq, h⟩ := h
       split at h
       · cases h
       · rename_i hb
         simp only [bSo, mSo, Prod.mk.injEq] at h
         obtain ⟨r, hr, d', hd', rfl, rfl⟩ := h
         have hev : evOp E s.look s.get s.box o.type o.op = none := by rw [ho]; simp only [evOp]
         unfold step
         rw [hev]
         simp only [ho, doOp, hn, zcA, hi, Option.bind_some, ha, hq, hb, hr, hp, hd', Option.map_some]
     · cases h
 · cases h
def zqo {α : Type} (b : Bool) (p : Prop) (r : Option (List Prop × α)) : Option (List Prop × α) := match b with | true => hadd p r | false => r
def zmS (E : Env) (s : St) (x : Option Nat) (f : Nat) (cap : List Ref) (args : List D) (q : List D × List (List D) × List (Option Row)) : Option (Prop × St) :=
 (zax (E.mode f) args s).bind fun a =>
 (zaQ a.2.get (E.mode f) a.1).bind fun ls =>
 match zaV ls with
 | false => none
 | true => match cap.isEmpty && a.1.all ziD with
   | true => (zaG (hide ls false a.2.get) 0 [] (E.mode f) 0 a.1).bind fun v =>
     (zbF a.2 ls q.2.2).map fun s => (((v.2 && !(D.cleans q.1 && za7 q.2.2)) || !D.plains q.1) = false, s.putO x (retD q.1))
   | false => match ls.all fun p => !p.1.ofCell with
     | false => none
     | true =>
       let keys := a.2.sent E.nt cap a.1; let m := a.2.upsSent keys cap a.1
       (zaG (hide ls true a.2.get) m keys (E.mode f) 0 a.1).bind fun v =>
       (zbF (a.2.regain m keys q.2.1) ls q.2.2).map fun s => (((v.2 && !(D.cleans q.1 && (za7 q.2.2 && zam q.2.1))) || !D.plains q.1) = false, s.putO x (retD q.1))
def zpN (E : Env) (s : St) (o : Oper) (q : List D × List (List D) × List (Option Row)) : Option (Prop × St) :=
 match o.op with
 | .call ca => match ca.callee with
   | .value z => match s.look z with
     | .fn f cap => zmS E s o.dst f cap (zaC E s.look ca.args.toList ca.argTypes.toList) q
     | _ => none
   | _ => none
 | _ => none
theorem zjw {E : Env} {s : St} {o : Oper} {q : List D × List (List D) × List (Option Row)} {r : Nat × List D × List (List D) × List (Option Row)} {p : Prop} {s' : St} (h : zdv E s o = some r) (hc : E.call r.1 r.2.1 r.2.2.1 r.2.2.2 = some q) (hh : zpN E s o q = some (p, s')) (hp : p) : step E s o = some s' := by
 unfold zdv at h
 unfold zpN at hh
 split at h
 · rename_i ca ho
   simp only [ho] at hh
   split at h
   · rename_i z hz
     simp only [hz] at hh
     split at h
     · rename_i f cap hf
       simp only [hf] at hh
       split at h
       · cases h
       · rename_i hdead
         simp only [mSo] at h
         obtain ⟨⟨a, u, l⟩, hdo, rfl⟩ := h
         simp only at hc
         have hev : evOp E s.look s.get s.box o.type o.op = none := by
          rw [ho]
          simp only [evOp, hz, hf]
          cases cap with
          | cons r rs => rfl
          | nil =>
            simp only [List.isEmpty_nil, Bool.true_and] at hdead
            simp only [zdu]
            cases hz : zbr (E.mode f) with
            | false => rfl
            | true =>
              rw [hz, Bool.true_and] at hdead
              cases hv : ze4 s.get (zaC E s.look ca.args.toList ca.argTypes.toList) with
              | none => rfl
              | some r => rw [hv] at hdead; cases hdead
         unfold step
         rw [hev]
         simp only [ho, doOp, hz, hf]
         unfold zmJ at hdo
         unfold zgz
         unfold zmS at hh
         simp only [bSo] at hdo
         obtain ⟨a1, h1, ls, h2, hdo⟩ := hdo
         simp only [h1, h2, Option.bind_some] at hh ⊢
         split at hdo
         · cases hdo
         · rename_i hdis
           simp only [hdis] at hh ⊢
           split at hdo
           · rename_i hcl
             simp only [hcl] at hh ⊢
             simp only [mSo, Prod.mk.injEq] at hdo
             obtain ⟨v, hv, rfl, rfl, rfl⟩ := hdo
             simp only [hv, Option.bind_some, mSo, Prod.mk.injEq] at hh ⊢
             obtain ⟨s3, hg, rfl, rfl⟩ := hh
             simp only [hc, Option.bind_some, hp, hg, Option.map_some]
           · rename_i hcl
             simp only [hcl] at hh ⊢
             split at hdo
             · cases hdo
             · rename_i hnc
               simp only [hnc] at hh ⊢
               simp only [bSo, mSo, Prod.mk.injEq] at hdo
               obtain ⟨v, hv, caps, hcaps, bs, hbs, us, hus, rfl, rfl, rfl⟩ := hdo
               simp only [hv, Option.bind_some, mSo, Prod.mk.injEq] at hh ⊢
               obtain ⟨s3, hg, rfl, rfl⟩ := hh
               simp only [hcaps, hbs, hus, Option.bind_some, hc, hp, hg, Option.map_some]
     · cases h
   · cases h
 · cases h
def hop {α : Type} (E : Env) (hs : zcR) (run : Env → St → Oper → Option St) (view : St → St) (pu ap : Oper → Bool) (s : St) (o : Oper) (k : St → Option (List Prop × α)) : Option (List Prop × α) :=
 match (keyOf o).bind (zj4 hs) with
 | some (.put d) => hadd (run E s o = some (s.putO o.dst d)) (k (s.putO o.dst d))
 | some (.to f) => hadd (run E s o = some (f s)) (k (f s))
 | some (.at d) => match zn5 E s (some d) o.op with
   | some (p, d) => (match o.dst, pu o with | some n, true => hadd p (k (s.put n d)) | _, _ => none)
   | none => (match zpk E s d o.op, ap o with | some (p, s'), true => hadd p (k s') | _, _ => none)
 | some .ok => match zn5 E s none o.op with
   | some (p, d) => (match o.dst, pu o with | some n, true => hadd p (k (s.put n d)) | _, _ => none)
   | none => (match znA E s o.dst o.op, ap o with | some (p, s'), true => hadd p (k s') | _, _ => none)
 | some (.ret rs) => match D.plains rs, zek E (view s) o with
   | true, some (f, args, fl) => zqo fl (D.cleans rs = true) (hadd (E.call f args [] [] = some (rs, [], [])) (match pu o, o.dst with | true, some n => k (s.put n (retD rs)) | _, _ => (run (E.with (rs, [], [])) s o).bind k))
   | _, _ => none
 | some (.back rs u l) => match zdv E (view s) o with
   | some (f, args, us, ls) => hadd (E.call f args us ls = some (rs, u, l)) (match ap o with
     | true => (match zpN E s o (rs, u, l) with | some (p, s') => hadd p (k s') | none => none)
     | false => (run (E.with (rs, u, l)) s o).bind k)
   | none => match zek E (view s) o, D.plains rs, u, ap o with
     | some (f, args, false), false, [cs], true => hadd (E.call f args [] [] = some (rs, [cs], l)) ((s.apply o.dst (.made cs)).bind k)
     | _, _, _, _ => none
 | _ => (run E s o).bind k
def hops (E : Env) (hs : zcR) (ops : Array Oper) : List Oper → St → Option (List Prop × St)
 | [], s => some ([], s)
 | o :: l, s => zkA hs ops s o.guard (fun s => hop E hs step (fun s => s) (fun _ => true) (fun _ => true) s o (hops E hs ops l)) (fun s => hops E hs ops l (s.putO o.dst .undef))
def zez (M : Option (List Nat)) (k : Nat) (s : St) : St :=
 match k with
 | 0 => s
 | 1 => s
 | 2 => s
 | 3 => s
 | _ => match M with | none => s | some M => s.hid M
def zmA : Op → Bool
 | .load _ _ => true
 | _ => false
def zi4 (M : Option (List Nat)) (k : Nat) (o : Oper) : Bool :=
 match k with
 | 0 => zgD o.op
 | 1 => zmA o.op && M.isNone
 | 2 => true
 | 3 => false
 | _ => M.isNone
def zdX (E : Env) (hs : zcR) (ops : Array Oper) (M : Option (List Nat)) : Bool → List PRow → St → Option (List Prop × St)
 | _, [], s => some ([], s)
 | first, (i, k, ds) :: l, s => match zex s ds with
   | false => none
   | true => match ops[i]? with
     | none => none
     | some o => zkA hs ops s o.guard (fun s => match k with
       | 5 => (match zl0 M s o with | true => hop E hs step (fun s => s) (fun _ => true) (fun _ => true) s o (zdX E hs ops M (first && zbM k) l) | false => none)
       | 6 => hop E hs (fun E => zaW E none first 4) (zez none 4) (zi4 none 4) (fun _ => false) s o (zdX E hs ops M (first && zbM k) l)
       | 7 => hop E hs (fun E => zaW E none first 4) (zez none 4) (zi4 none 4) (fun _ => false) s o (zdX E hs ops M (first && zbM k) l)
       | 8 => hop E hs (fun E => zaW E none first 4) (zez none 4) (zi4 none 4) (fun _ => false) s o (zdX E hs ops M (first && zbM k) l)
       | 9 => (match zmU o.op with | true => hop E hs step (fun s => s) (fun _ => true) (fun _ => true) s o (zdX E hs ops M (first && zbM k) l) | false => none)
       | 10 => (match zbY s o with | true => hop E hs step (fun s => s) (fun _ => true) (fun _ => true) s o (zdX E hs ops M (first && zbM k) l) | false => none)
       | 11 => (match zbU s o with | true => hop E hs step (fun s => s) (fun _ => true) (fun _ => true) s o (zdX E hs ops M (first && zbM k) l) | false => none)
       | 12 => (match M with | none => (match ze6 E s o with | true => hop E hs step (fun s => s) (fun _ => true) (fun _ => true) s o (zdX E hs ops none (first && zbM k) l) | false => none) | some _ => none)
       | 13 => (match zdm E s o with | true => hop E hs step (fun s => s) (fun _ => true) (fun _ => true) s o (zdX E hs ops M (first && zbM k) l) | false => none)
       | k => hop E hs (fun E => zaW E M first k) (zez M k) (zi4 M k) (fun _ => Nat.beq k 2) s o (zdX E hs ops M (first && zbM k) l)) (fun s => zdX E hs ops M (first && zbM k) l (s.putO o.dst .undef))
def zqH (E : Env) (hs : zcR) (ops : Array Oper) (p : Plan) (s : St) : Option (List Prop × St) :=
 match p.2 with
 | [] => some ([], s)
 | (i, k, ds) :: l => match zgF s ds with
   | true => zdX E hs ops p.1 true ((i, k, ds) :: l) (s.junks ds)
   | false => none
def zjO (E : Env) (hs : zcR) (id : Nat) (ops : Array Oper) (draw : Bool) (s : St) : Option (List Prop × St) :=
 match draw with
 | false => hops E hs ops ops.toList s
 | true => match E.plan id with
   | some p => zqH E hs ops p s
   | none => none
def zn7 (r : Option (List Prop × X × St)) (k : X → St → Option (List Prop × X × St)) : Option (List Prop × X × St) :=
 match r with
 | some (ps, x, s) => match k x s with
   | some q => some (ps ++ q.1, q.2)
   | none => none
 | none => none
def zow : List Nat → List D → Nat → D
 | a :: L, d :: ds, x => match Nat.beq a x with | true => d | false => zow L ds x
 | _, _, _ => .junk
def zom : List Nat → List (Option (List D)) → Nat → Option (List D)
 | a :: L, d :: ds, x => match Nat.beq a x with | true => d | false => zom L ds x
 | _, _, _ => none
def Nm (L : List Nat) (ds : List D) (bs : List (Option (List D))) (u : List (List D)) (l : List (Option Row)) : St := ⟨zow L ds, zom L bs, u, l⟩
def nmOf (L : List Nat) (s : St) : St := Nm L (L.map fun x => (s.t x).kill (Kill.but L)) (L.map fun x => (s.b x).map (D.kills (Kill.but L))) (s.u.map (D.kills (Kill.but L))) s.l
def znm (E : Env) (n : Nat) (c : Code) (s0 : St) (x : X) (s' : St) : Prop := ∀ s : St, s.norm (E.live (zab c)) = s0 → exec E n (.loop c) s = some (x, s')
def zcH (E : Env) (n : Nat) (hs : zcR) : Code → St → Option (List Prop × X × St)
 | .skip, s => some ([], .normal, s)
 | .region id ops draw, s => match zjO E hs id ops draw s with | some r => some (r.1, .normal, r.2) | none => none
 | .seq a b, s => zn7 (zcH E n hs a s) fun x s' => match x with
   | .normal => zcH E n hs b s'
   | x => some ([], x, s')
 | .cond c a b, s => hcond hs s c (zcH E n hs a) (zcH E n hs b)
 | .block id c, s => zn7 (zcH E n hs c s) fun x s' => match x with
   | .exit i => (match Nat.beq i id with | true => some ([], .normal, s') | false => some ([], .exit i, s'))
   | x => some ([], x, s')
 | .loop c, s => match zj4 hs (300000 + zab c) with
   | some (.loop s0 x s') => some ([nmOf (E.live (zab c)) s = s0, znm E n c s0 x s'], x, s')
   | _ => none
 | .exit id, s => some ([], .exit id, s)
 | .ret, s => some ([], .ret, s)
 | _, _ => none
theorem nbeq_eq {a b : Nat} : Nat.beq a b = true ↔ a = b := ⟨Nat.eq_of_beq_eq_true, fun h => by rw [h]; exact Nat.beq_refl b⟩
theorem nbeq_ne {a b : Nat} : Nat.beq a b = false ↔ a ≠ b := ⟨Nat.ne_of_beq_eq_false, fun h => by
 cases hb : Nat.beq a b with
 | false => rfl
 | true => exact (h (Nat.eq_of_beq_eq_true hb)).elim⟩
theorem zdg {a x : Nat} {l : List Nat} : memN x (a :: l) = (Nat.beq x a || memN x l) := by
 show (match Nat.beq x a with | true => true | false => memN x l) = _
 cases Nat.beq x a <;> rfl
theorem zh7 {f : Nat → D} {x : Nat} : ∀ {L : List Nat}, zow L (L.map f) x = match memN x L with | true => f x | false => .junk
 | [] => rfl
 | a :: L => by
   simp only [List.map_cons, zow]
   cases h : Nat.beq a x with
   | true => rw [nbeq_eq.1 h, zdg]; simp
   | false =>
     have h2 : Nat.beq x a = false := nbeq_ne.2 (fun e => nbeq_ne.1 h e.symm)
     simp only [zh7 (L := L), zdg, h2, Bool.false_or]
theorem ziF {f : Nat → Option (List D)} {x : Nat} : ∀ {L : List Nat}, zom L (L.map f) x = match memN x L with | true => f x | false => none
 | [] => rfl
 | a :: L => by
   simp only [List.map_cons, zom]
   cases h : Nat.beq a x with
   | true => rw [nbeq_eq.1 h, zdg]; simp
   | false =>
     have h2 : Nat.beq x a = false := nbeq_ne.2 (fun e => nbeq_ne.1 h e.symm)
     simp only [ziF (L := L), zdg, h2, Bool.false_or]
theorem zjj (L : List Nat) (s : St) : s.norm L = nmOf L s := by
 simp only [St.norm, nmOf, Nm, St.mk.injEq, and_true]
 refine ⟨funext fun x => ?_, funext fun x => ?_⟩
 · rw [zh7]; cases memN x L <;> rfl
 · rw [ziF]; cases memN x L <;> rfl
theorem zaS {α : Type} {p : Prop} {r : Option (List Prop × α)} {q : List Prop × α} (h : hadd p r = some q) : ∃ ps, r = some (ps, q.2) ∧ q.1 = p :: ps := by
 unfold hadd at h
 split at h
 · rename_i r'
   cases h
   exact ⟨r'.1, rfl, rfl⟩
 · cases h
section
variable {E : Env} {hs : zcR} {ops : Array Oper}
theorem zdF {α β : Type} {s : St} {x : Nat} {yes no : St → Option (List Prop × α)} {und : Option (List Prop × α)} {q : List Prop × α} {yes' no' : St → Option β} {und' : Option β} {b : β}
 (h : zml hs s x yes no und = some q) (hq : Obs q.1) (hy : ∀ s ps, yes s = some (ps, q.2) → Obs ps → yes' s = some b) (hn : ∀ s ps, no s = some (ps, q.2) → Obs ps → no' s = some b) (hu : ∀ ps, und = some (ps, q.2) → Obs ps → und' = some b) :
 (match s.t x with
  | .dat (.val (.bool v)) => match v with | true => yes' (s.force x true) | false => no' (s.force x false)
  | .undef => und'
  | _ => none) = some b := by
 unfold zml at h
 cases hx : s.t x with
 | undef => rw [hx] at h; exact hu q.1 h hq
 | dat d =>
   rw [hx] at h
   cases d with
   | val v =>
     cases v with
     | bool v =>
       simp only at h ⊢
       split at h
       · obtain ⟨ps, h1, h2⟩ := zaS h
         rw [h2] at hq
         have hv : v = true := hq.1
         rw [hv]
         exact hy _ ps h1 hq.2
       · obtain ⟨ps, h1, h2⟩ := zaS h
         rw [h2] at hq
         have hv : v = false := hq.1
         rw [hv]
         exact hn _ ps h1 hq.2
       · cases v with
         | true => exact hy _ q.1 h hq
         | false => exact hn _ q.1 h hq
     | _ => cases h
   | _ => cases h
 | _ => rw [hx] at h; cases h
theorem zjP {α β : Type} {s : St} {c : Operand} {yes no : St → Option (List Prop × α)} {q : List Prop × α} {yes' no' : St → Option β} {b : β}
 (h : hcond hs s c yes no = some q) (hq : Obs q.1) (hy : ∀ s ps, yes s = some (ps, q.2) → Obs ps → yes' s = some b) (hn : ∀ s ps, no s = some (ps, q.2) → Obs ps → no' s = some b) : zoh s c yes' no' = some b := by
 unfold hcond at h
 unfold zoh
 split at h
 · rename_i x
   have := zdF (und' := (none : Option β)) h hq hy hn (fun ps h => by cases h)
   simp only
   revert this
   cases s.t x with
   | dat d =>
     cases d with
     | val v => cases v <;> exact id
     | _ => exact id
   | _ => intro h; first | exact h | cases h
 · rename_i v
   cases v with
   | true => exact hy _ q.1 h hq
   | false => exact hn _ q.1 h hq
 · cases h
theorem zeY {α β : Type} {s : St} {g : Option (Nat × Bool)} {k z : St → Option (List Prop × α)} {q : List Prop × α} {k' z' : St → Option β} {b : β}
 (h : zkA hs ops s g k z = some q) (hq : Obs q.1) (hk : ∀ s ps, k s = some (ps, q.2) → Obs ps → k' s = some b) (hz : ∀ s ps, z s = some (ps, q.2) → Obs ps → z' s = some b) : zbO ops s g k' z' = some b := by
 unfold zkA at h
 unfold zbO
 split at h
 · exact hk _ q.1 h hq
 · rename_i j want
   simp only
   split at h
   · cases h
   · rename_i x hx
     rw [hx]
     simp only
     split at h
     · have := zdF (und' := z' s) h hq hk hz (fun ps h h2 => hz _ ps h h2)
       revert this
       cases s.t x with
       | dat d =>
         cases d with
         | val v =>
           cases v with
           | bool v => cases v <;> exact id
           | _ => exact id
         | _ => exact id
       | _ => exact id
     · have := zdF (und' := z' s) h hq hz hk (fun ps h h2 => hz _ ps h h2)
       revert this
       cases s.t x with
       | dat d =>
         cases d with
         | val v =>
           cases v with
           | bool v => cases v <;> exact id
           | _ => exact id
         | _ => exact id
       | _ => exact id
structure RunOK (E : Env) (run : Env → St → Oper → Option St) (view : St → St) (pu ap : Oper → Bool) : Prop where
 pure : ∀ s o n d, evOp E s.look s.get s.box o.type o.op = some (.pure d) → o.dst = some n → pu o = true → run E s o = some (s.put n d)
 app : ∀ s o s', step E s o = some s' → ap o = true → run E s o = some s'
 vw : ∀ s o, pu o = true → view s = s
 vw2 : ∀ s o, ap o = true → view s = s
 ev : ∀ s o rs f args fl, zek E (view s) o = some (f, args, fl) → D.plains rs = true → (fl = true → D.cleans rs = true) → E.call f args [] [] = some (rs, [], []) → run E s o = run (E.with (rs, [], [])) s o
 go : ∀ s o r q, zdv E (view s) o = some r → E.call r.1 r.2.1 r.2.2.1 r.2.2.2 = some q → ∀ s', run (E.with q) s o = some s' → run E s o = some s'
theorem step_ok : RunOK E step (fun s => s) (fun _ => true) (fun _ => true) :=
 ⟨fun s o n d h hd _ => by
  unfold step
  rw [h, hd]
  rfl, fun s o s' h _ => h, fun _ _ _ => rfl, fun _ _ _ => rfl, fun s o rs f args fl h hpl hfl hc => by
  obtain ⟨h1, h2⟩ := zf7 h hpl hfl hc
  unfold step
  rw [h1, h2], fun s o r q h hc s' hr => by rw [zfH h hc]; exact hr⟩
theorem zdi {M : Option (List Nat)} {first : Bool} {k : Nat} : RunOK E (fun E => zaW E M first k) (zez M k) (zi4 M k) (fun _ => Nat.beq k 2) := by
 have hcall : ∀ (s : St) (o : Oper) r, zek E s o = some r → ∃ ca z, o.op = .call ca ∧ ca.callee = .value z := fun s o r h => by
  unfold zek at h
  split at h
  · rename_i ca ho
    split at h
    · rename_i z hz; exact ⟨ca, z, ho, hz⟩
    · cases h
  · cases h
 have hcall2 : ∀ (s : St) (o : Oper) r, zdv E s o = some r → ∃ ca z, o.op = .call ca ∧ ca.callee = .value z := fun s o r h => by
  unfold zdv at h
  split at h
  · rename_i ca ho
    split at h
    · rename_i z hz; exact ⟨ca, z, ho, hz⟩
    · cases h
  · cases h
 have hno : ∀ (s : St) (o : Oper) (q : List D × List (List D) × List (Option Row)), (∃ ca z, o.op = .call ca ∧ ca.callee = .value z) → (k = 0 ∨ k = 1 ∨ k = 3) → ∀ E, zaW E M first k s o = none := by
  rintro s o q ⟨ca, z, ho, hz⟩ hk E
  rcases hk with rfl | rfl | rfl
  · simp only [zaW, zfl, ho, zgD, hz]
  · simp only [zaW, zee, ho]
  · simp only [zaW, zf3, ho]
 have hev : ∀ (s : St) (o : Oper) (r : Nat × List D × List (List D) × List (Option Row)), zdv E s o = some r → ∀ E', E'.mode = E.mode → (∀ zs ts, zaC E' s.look zs ts = zaC E s.look zs ts) → evOp E' s.look s.get s.box o.type o.op = none := by
  intro s o r h E' hm ha
  unfold zdv at h
  split at h
  · rename_i ca ho
    split at h
    · rename_i z hz
      split at h
      · rename_i f cap hf
        split at h
        · cases h
        · rename_i hdead
          rw [ho]
          simp only [evOp, hz, hf]
          cases cap with
          | cons r rs => rfl
          | nil =>
            simp only [List.isEmpty_nil, Bool.true_and] at hdead
            simp only [zdu, hm, ha]
            cases hzz : zbr (E.mode f) with
            | false => rfl
            | true =>
              rw [hzz, Bool.true_and] at hdead
              cases hv : ze4 s.get (zaC E s.look ca.args.toList ca.argTypes.toList) with
              | none => rfl
              | some r => rw [hv] at hdead; cases hdead
      · cases h
    · cases h
  · cases h
 have hpure : ∀ s o n d, evOp E s.look s.get s.box o.type o.op = some (.pure d) → o.dst = some n → zi4 M k o = true → zaW E M first k s o = some (s.put n d) := by
  intro s o n d h hd hpu
  match k, hpu with
  | 0, hpu =>
    have hpu : zgD o.op = true := hpu
    simp only [zaW, zfl, hpu, hd, h]
  | 1, hpu =>
    have hpu : (zmA o.op && M.isNone) = true := hpu
    simp only [Bool.and_eq_true, Option.isNone_iff_eq_none] at hpu
    obtain ⟨h1, rfl⟩ := hpu
    unfold zmA at h1
    split at h1
    · rename_i t x ho
      rw [ho] at h
      simp only [evOp, bSo, mSo] at h
      obtain ⟨i, hi, y, hy, he⟩ := h
      cases he
      simp only [zaW, zee, ho, hd, hi, Option.bind_some, hy, Option.map_some]
    · cases h1
  | 2, hpu => exact step_ok.pure s o n d h hd rfl
  | m + 4, hpu =>
    have hpu : M.isNone = true := hpu
    simp only [Option.isNone_iff_eq_none] at hpu
    subst hpu
    simp only [zaW, zaH, h, hd, Option.bind_some, St.apply, Option.map_some]
 have hvw : ∀ (s : St) (o : Oper), zi4 M k o = true → zez M k s = s := by
  intro s o hpu
  match k, hpu with
  | 0, _ => rfl
  | 1, _ => rfl
  | 2, _ => rfl
  | m + 4, hpu =>
    have hpu : M.isNone = true := hpu
    simp only [Option.isNone_iff_eq_none] at hpu
    subst hpu
    rfl
 refine ⟨hpure, fun s o s' h hk => by rw [Nat.eq_of_beq_eq_true hk]; exact h, hvw, fun s o hk => by rw [Nat.eq_of_beq_eq_true hk]; rfl, fun s o rs f args fl h hpl hfl hc => ?_, fun s o r q h hc s' hr => ?_⟩
 · have hk5 : (k = 0 ∨ k = 1 ∨ k = 3) ∨ k = 2 ∨ ∃ m, k = m + 4 := by
    match k with
    | 0 => exact .inl (.inl rfl)
    | 1 => exact .inl (.inr (.inl rfl))
    | 2 => exact .inr (.inl rfl)
    | 3 => exact .inl (.inr (.inr rfl))
    | m + 4 => exact .inr (.inr ⟨m, rfl⟩)
   rcases hk5 with hk | rfl | ⟨m, rfl⟩
   · rw [hno s o (rs, [], []) (hcall _ _ _ h) hk, hno s o (rs, [], []) (hcall _ _ _ h) hk]
   · exact step_ok.ev s o rs f args fl h hpl hfl hc
   · show zaH E M s o = zaH (E.with (rs, [], [])) M s o
     unfold zaH
     cases M with
     | none =>
       obtain ⟨h1, h2⟩ := zf7 (s := s) h hpl hfl hc
       simp only [h1, h2]
     | some M =>
       have h' := step_ok.ev (s.hid M) o rs f args fl h hpl hfl hc
       simp only [h']
 · have hk5 : (k = 0 ∨ k = 1 ∨ k = 3) ∨ k = 2 ∨ ∃ m, k = m + 4 := by
    match k with
    | 0 => exact .inl (.inl rfl)
    | 1 => exact .inl (.inr (.inl rfl))
    | 2 => exact .inr (.inl rfl)
    | 3 => exact .inl (.inr (.inr rfl))
    | m + 4 => exact .inr (.inr ⟨m, rfl⟩)
   rcases hk5 with hk | rfl | ⟨m, rfl⟩
   · rw [hno s o q (hcall2 _ _ _ h) hk] at hr
     cases hr
   · exact step_ok.go s o r q h hc s' hr
   · have hr' : zaH (E.with q) M s o = some s' := hr
     show zaH E M s o = some s'
     unfold zaH at hr' ⊢
     cases M with
     | none =>
       simp only at hr'
       rw [hev s o r h (E.with q) rfl (fun zs ts => zdf zs ts)] at hr'
       cases hr'
     | some M =>
       have h' := zfH (s := s.hid M) h hc
       simp only [h']
       exact hr'
theorem zbc {α β : Type} {run : Env → St → Oper → Option St} {view : St → St} {pu ap : Oper → Bool} (hrun : RunOK E run view pu ap) {s : St} {o : Oper} {k : St → Option (List Prop × α)} {q : List Prop × α} {k' : St → Option β} {b : β}
 (h : hop E hs run view pu ap s o k = some q) (hq : Obs q.1) (hk : ∀ s ps, k s = some (ps, q.2) → Obs ps → k' s = some b) : (run E s o).bind k' = some b := by
 unfold hop at h
 split at h
 · obtain ⟨ps, h1, h2⟩ := zaS h
   rw [h2] at hq
   rw [hq.1]
   exact hk _ ps h1 hq.2
 · obtain ⟨ps, h1, h2⟩ := zaS h
   rw [h2] at hq
   rw [hq.1]
   exact hk _ ps h1 hq.2
 · split at h
   · rename_i p d hask
     split at h
     · rename_i n hdn hpu
       obtain ⟨ps, h1, h2⟩ := zaS h
       rw [h2] at hq
       rw [hrun.pure s o _ _ (zf0 hask hq.1) hdn hpu]
       exact hk _ ps h1 hq.2
     · cases h
   · split at h
     · rename_i p s' hask hap
       obtain ⟨ps, h1, h2⟩ := zaS h
       rw [h2] at hq
       rw [hrun.app s o _ (zjJ hask hq.1) hap]
       exact hk _ ps h1 hq.2
     · cases h
 · split at h
   · rename_i p d hask
     split at h
     · rename_i n hdn hpu
       obtain ⟨ps, h1, h2⟩ := zaS h
       rw [h2] at hq
       rw [hrun.pure s o _ _ (zf0 hask hq.1) hdn hpu]
       exact hk _ ps h1 hq.2
     · cases h
   · split at h
     · rename_i p s' hask hap
       obtain ⟨ps, h1, h2⟩ := zaS h
       rw [h2] at hq
       rw [hrun.app s o _ (ziM hask hq.1) hap]
       exact hk _ ps h1 hq.2
     · cases h
 · rename_i rs hhint
   split at h
   · rename_i f args fl hpl hcv
     have hkey : ∃ ps, hadd (E.call f args [] [] = some (rs, [], [])) (match pu o, o.dst with | true, some n => k (s.put n (retD rs)) | _, _ => (run (E.with (rs, [], [])) s o).bind k) = some (ps, q.2) ∧ Obs ps ∧ (fl = true → D.cleans rs = true) := by
      cases fl with
      | false => exact ⟨q.1, h, hq, fun e => by cases e⟩
      | true =>
        obtain ⟨ps, h1, h2⟩ := zaS h
        rw [h2] at hq
        exact ⟨ps, h1, hq.2, fun _ => hq.1⟩
     obtain ⟨ps0, h0, hq0, hfl⟩ := hkey
     obtain ⟨ps, h1, h2⟩ := zaS h0
     simp only at h2
     rw [h2] at hq0
     split at h1
     · rename_i n hpu hdn
       have hv := hrun.vw s o hpu
       rw [hv] at hcv
       rw [hrun.pure s o _ _ (zf7 hcv hpl hfl hq0.1).1 hdn hpu]
       exact hk _ ps h1 hq0.2
     · rw [hrun.ev s o _ _ _ _ hcv hpl hfl hq0.1]
       simp only [bSo] at h1
       obtain ⟨s', hr, h1⟩ := h1
       rw [hr]
       exact hk s' ps h1 hq0.2
   · cases h
 · split at h
   · rename_i f args us ls hcv
     obtain ⟨ps, h1, h2⟩ := zaS h
     rw [h2] at hq
     split at h1
     · rename_i hap
       split at h1
       · rename_i p s' hch
         obtain ⟨ps2, h3, h4⟩ := zaS h1
         simp only at h4
         rw [h4] at hq
         have hv : view s = s := hrun.vw2 s o hap
         rw [hv] at hcv
         rw [hrun.app s o _ (zjw hcv hq.1 hch hq.2.1) hap]
         exact hk s' ps2 h3 hq.2.2
       · cases h1
     · simp only [bSo] at h1
       obtain ⟨s', hr, h1⟩ := h1
       rw [hrun.go s o _ _ hcv hq.1 s' hr]
       exact hk s' ps h1 hq.2
   · split at h
     · rename_i f args cs hcv hpl hap hkey
       obtain ⟨ps, h1, h2⟩ := zaS h
       rw [h2] at hq
       have hv : view s = s := hrun.vw2 s o hap
       rw [hv] at hcv
       simp only [bSo] at h1
       obtain ⟨s', hs', h1⟩ := h1
       have hst : step E s o = some s' := by
        unfold step
        rw [znl hcv hpl hq.1]
        exact hs'
       rw [hrun.app s o s' hst hap]
       exact hk s' ps h1 hq.2
     · cases h
 · cases hr : run E s o with
   | none => rw [hr] at h; cases h
   | some s' => rw [hr] at h; exact hk s' q.1 h hq
theorem zen : ∀ (l : List Oper) (s : St) (q : List Prop × St), hops E hs ops l s = some q → Obs q.1 → zeh E ops l s = some q.2
 | [], s, q, h, hq => by cases h; rfl
 | o :: l, s, q, h, hq => by
   unfold hops at h
   unfold zeh
   exact zeY h hq (fun s ps h1 h2 => zbc step_ok h1 h2 fun s ps h3 h4 => zen l s (ps, q.2) h3 h4) (fun s ps h1 h2 => zen l _ (ps, q.2) h1 h2)
theorem zaD {M : Option (List Nat)} : ∀ (l : List PRow) (first : Bool) (s : St) (q : List Prop × St), zdX E hs ops M first l s = some q → Obs q.1 → zaE E ops M first l s = some q.2
 | [], first, s, q, h, hq => by cases h; rfl
 | (i, k, ds) :: l, first, s, q, h, hq => by
   unfold zdX at h
   unfold zaE
   split at h
   · cases h
   · rename_i hj
     simp only [hj]
     split at h
     · cases h
     · rename_i o ho
       simp only [ho]
       refine zeY h hq (fun s ps h1 h2 => ?_) (fun s ps h1 h2 => zaD l _ _ (ps, q.2) h1 h2)
       split at h1
       · split at h1
         · rename_i hgr
           have := zbc (hs := hs) step_ok h1 h2 fun s ps h3 h4 => zaD l _ s (ps, q.2) h3 h4
           simp only [zaz, hgr]
           exact this
         · cases h1
       · exact zbc (hs := hs) (zdi (M := none) (first := first) (k := 4)) h1 h2 fun s ps h3 h4 => zaD l _ s (ps, q.2) h3 h4
       · exact zbc (hs := hs) (zdi (M := none) (first := first) (k := 4)) h1 h2 fun s ps h3 h4 => zaD l _ s (ps, q.2) h3 h4
       · exact zbc (hs := hs) (zdi (M := none) (first := first) (k := 4)) h1 h2 fun s ps h3 h4 => zaD l _ s (ps, q.2) h3 h4
       · split at h1
         · rename_i hcv
           have := zbc (hs := hs) step_ok h1 h2 fun s ps h3 h4 => zaD l _ s (ps, q.2) h3 h4
           simp only [zaz, hcv]
           exact this
         · cases h1
       · split at h1
         · rename_i hcv
           have := zbc (hs := hs) step_ok h1 h2 fun s ps h3 h4 => zaD l _ s (ps, q.2) h3 h4
           simp only [zaz, hcv]
           exact this
         · cases h1
       · split at h1
         · rename_i hcv
           have := zbc (hs := hs) step_ok h1 h2 fun s ps h3 h4 => zaD l _ s (ps, q.2) h3 h4
           simp only [zaz, hcv]
           exact this
         · cases h1
       · split at h1
         · split at h1
           · rename_i hcv
             have := zbc (hs := hs) step_ok h1 h2 fun s ps h3 h4 => zaD l _ s (ps, q.2) h3 h4
             simp only [zaz, hcv]
             exact this
           · cases h1
         · cases h1
       · split at h1
         · rename_i hcv
           have := zbc (hs := hs) step_ok h1 h2 fun s ps h3 h4 => zaD l _ s (ps, q.2) h3 h4
           simp only [zaz, hcv]
           exact this
         · cases h1
       · rename_i n5 n6 n7 n8 n9 n10 n11 n12 n13
         have e : ∀ s, zaz E M first k s o = zaW E M first k s o := fun s => by
          unfold zaz
          split
          · exact absurd rfl n5
          · exact absurd rfl n6
          · exact absurd rfl n7
          · exact absurd rfl n8
          · exact absurd rfl n9
          · exact absurd rfl n10
          · exact absurd rfl n11
          · exact absurd rfl n12
          · exact absurd rfl n13
          · rfl
         rw [e]
         exact zbc zdi h1 h2 fun s ps h3 h4 => zaD l _ s (ps, q.2) h3 h4
theorem zhg {id : Nat} {draw : Bool} {s : St} {q : List Prop × St} (h : zjO E hs id ops draw s = some q) (hq : Obs q.1) : zcm E id ops draw s = some q.2 := by
 unfold zjO at h
 unfold zcm
 cases draw with
 | false => exact zen _ _ _ h hq
 | true =>
   simp only at h ⊢
   split at h
   · rename_i p hp
     simp only [hp]
     unfold zqH at h
     unfold zjx
     split at h
     · rename_i e
       simp only [e]
       cases h; rfl
     · rename_i i k ds l e
       simp only [e]
       split at h
       · rename_i hn
         simp only [hn]
         exact zaD _ _ _ _ h hq
       · cases h
   · cases h
theorem zgu {r : Option (List Prop × X × St)} {k : X → St → Option (List Prop × X × St)} {q : List Prop × X × St} (h : zn7 r k = some q) (hq : Obs q.1) : ∃ ps x s qs, r = some (ps, x, s) ∧ k x s = some (qs, q.2) ∧ Obs ps ∧ Obs qs := by
 unfold zn7 at h
 split at h
 · rename_i ps x s
   split at h
   · rename_i q' hk
     cases h
     obtain ⟨h1, h2⟩ := zgG hq
     exact ⟨ps, x, s, q'.1, rfl, hk, h1, h2⟩
   · cases h
 · cases h
theorem za9 {n : Nat} : ∀ (c : Code) (s : St) (q : List Prop × X × St), zcH E n hs c s = some q → Obs q.1 → exec E n c s = some q.2
 | .skip, s, q, h, hq => by cases h; rfl
 | .region id ops draw, s, q, h, hq => by
   simp only [zcH] at h
   split at h
   · rename_i r hr
     cases h
     simp only [exec]
     rw [zhg hr hq]
     rfl
   · cases h
 | .seq a b, s, q, h, hq => by
   obtain ⟨pq, r⟩ := q
   simp only [zcH] at h
   obtain ⟨ps, x, s1, qs, h1, h2, h3, h4⟩ := zgu h hq
   have := za9 a s _ h1 h3
   simp only [exec, this]
   cases x with
   | normal => exact za9 b s1 (qs, r) h2 h4
   | exit i => cases h2; rfl
   | ret => cases h2; rfl
 | .cond c a b, s, q, h, hq => by
   simp only [zcH] at h
   simp only [exec]
   exact zjP h hq (fun s ps h1 h2 => za9 a s (ps, q.2) h1 h2) (fun s ps h1 h2 => za9 b s (ps, q.2) h1 h2)
 | .block id c, s, q, h, hq => by
   obtain ⟨pq, r⟩ := q
   simp only [zcH] at h
   obtain ⟨ps, x, s1, qs, h1, h2, h3, h4⟩ := zgu h hq
   have := za9 c s _ h1 h3
   simp only [exec, this]
   cases x with
   | normal => cases h2; rfl
   | exit i =>
     simp only at h2 ⊢
     split at h2
     · rename_i hb; simp only [hb]; cases h2; rfl
     · rename_i hb; simp only [hb]; cases h2; rfl
   | ret => cases h2; rfl
 | .loop c, s, q, h, hq => by
   simp only [zcH] at h
   split at h
   · cases h; exact hq.2.1 s ((zjj _ s).trans hq.1)
   · cases h
 | .exit id, s, q, h, hq => by cases h; rfl
 | .ret, s, q, h, hq => by cases h; rfl
 | .label _, s, q, h, hq => by cases h
 | .goto _, s, q, h, hq => by cases h
 | .rangeFunc _ _ _ _, s, q, h, hq => by cases h
 | .scope _, s, q, h, hq => by cases h
 | .refuse _, s, q, h, hq => by cases h
end
end Go.Den
namespace Go.Den
open Go
set_option linter.unusedVariables false
abbrev Res := List D × List (List D) × List (Option Row)
def hrun (C : Cfg) (n : Nat) (call : Nat → List D → List (List D) → List (Option Row) → Option Res) (hs : zcR) (f : Nat) (fn : Func) (args : List D) (u : List (List D)) (l : List (Option Row)) : Option (List Prop × Res) :=
 match fn.body with
 | none => none
 | some c => match zcH ⟨C.ty, C.mode, fn.ntmps, C.live f, C.out f, C.plan f, call⟩ n hs c (start args u l) with
   | some (_, .exit _, _) => none
   | some (ps, _, s) => (zo9 C.ty (C.liv f) fn.results.toList u l s).map fun r => (ps, r)
   | none => none
theorem zlj {C : Cfg} {n : Nat} {call : Nat → List D → List (List D) → List (Option Row) → Option Res} (hs : zcR) {f : Nat} {fn : Func} {args : List D} {u : List (List D)} {l : List (Option Row)} {q : List Prop × Res} (h : hrun C n call hs f fn args u l = some q) (hq : Obs q.1) : zak C n call f fn args u l = some q.2 := by
 unfold hrun at h
 unfold zak
 split at h
 · cases h
 · rename_i c hc
   rw [hc]
   simp only
   split at h
   · cases h
   · rename_i ps x s hne he
     simp only [mSo] at h
     obtain ⟨r, hr, h⟩ := h
     cases h
     have := za9 _ _ _ he hq
     rw [this]
     cases x with
     | exit i => exact (hne _ rfl).elim
     | normal => simp only [hr]
     | ret => simp only [hr]
   · cases h
theorem zaa {C : Cfg} {n : Nat} {call : Nat → List D → List (List D) → List (Option Row) → Option Res} (hs : zcR) {f : Nat} {fn : Func} {args : List D} {u : List (List D)} {l : List (Option Row)} {ps : List Prop} {r : Res} (hq : Obs ps) (h : hrun C n call hs f fn args u l = some (ps, r)) : zak C n call f fn args u l = some r := zlj hs h hq
theorem ob0 : Obs [] := trivial
theorem ob {p : Prop} {l : List Prop} (h : p) (hl : Obs l) : Obs (p :: l) := ⟨h, hl⟩
theorem obT {p : Prop} (h : p) : true = true ∧ p := ⟨rfl, h⟩
def zfW (r : Nat) : Code → Option Code
 | .seq a b => match zfW r a with | some c => some c | none => zfW r b
 | .cond _ a b => match zfW r a with | some c => some c | none => zfW r b
 | .block _ a => zfW r a
 | .loop a => match Nat.beq (zab a) r with | true => some a | false => zfW r a
 | _ => none
def lp (fn : Func) (r : Nat) : Code := match fn.body with | some c => (zfW r c).getD .skip | none => .skip
def zaL (C : Cfg) (k f : Nat) (fn : Func) : Env := ⟨C.ty, C.mode, fn.ntmps, C.live f, C.out f, C.plan f, den C k⟩
def zai (C : Cfg) (k f : Nat) (fn : Func) (r : Nat) (s0 : St) (x : X) (s' : St) : Prop := znm (zaL C k f fn) k (lp fn r) s0 x s'
section
variable {E : Env} {n m : Nat} {c : Code} {L : List Nat} {s s0 s1 s2 : St} {ps : List Prop} {hs : zcR}
def stOf (r : Option (List Prop × X × St)) : St := match r with | some q => q.2.2 | none => start [] [] []
def zoa (r : Option (List Prop × X × St)) : Option (List Prop × X) := match r with | some q => some (q.1, q.2.1) | none => none
def zat (E : Env) (n : Nat) (c : Code) (m : Nat) (s : St) (K : X → St → Prop) : Prop := ∃ x s1, iter (exec E n c) (St.norm (E.live (zab c))) m s = some (x, s1) ∧ K x (s1.norm (E.out (zab c)))
theorem zgS {r : Option (List Prop × X × St)} {p : List Prop × X} (h : zoa r = some p) : r = some (p.1, p.2, stOf r) := by
 unfold zoa at h
 split at h
 · cases h; rfl
 · cases h
theorem zad {K : X → St → Prop} (hs : zcR) (hL : s.norm (E.live (zab c)) = s0) (h : zoa (zcH E n hs c s0) = some (ps, .normal)) (ho : Obs ps) (hst : nmOf (E.live (zab c)) (stOf (zcH E n hs c s0)) = s2) (hn : ∀ s, s.norm (E.live (zab c)) = s2 → zat E n c m s K) : zat E n c (m + 1) s K := by
 obtain ⟨x, s1, h1, h2⟩ := hn (stOf (zcH E n hs c s0)) ((zjj _ _).trans hst)
 have := za9 _ _ _ (zgS h) ho
 refine ⟨x, s1, ?_, h2⟩
 simp only [iter, hL, this]
 exact h1
theorem zae {K : X → St → Prop} {x : X} (hs : zcR) (hL : s.norm (E.live (zab c)) = s0) (h : zoa (zcH E n hs c s0) = some (ps, x)) (hx : (match x with | .normal => false | _ => true) = true) (ho : Obs ps) (hst : nmOf (E.out (zab c)) (stOf (zcH E n hs c s0)) = s2) (hK : K x s2) : zat E n c (m + 1) s K := by
 have := za9 _ _ _ (zgS h) ho
 refine ⟨x, stOf (zcH E n hs c s0), ?_, by rw [zjj, hst]; exact hK⟩
 simp only [iter, hL, this]
 cases x with
 | normal => cases hx
 | _ => rfl
theorem zjc {K : X → St → Prop} (h : zat E n c n s K) : ∃ x s', exec E n (.loop c) s = some (x, s') ∧ K x s' := by
 obtain ⟨x, s1, h1, h2⟩ := h
 exact ⟨x, _, by simp only [exec, h1, Option.map_some], h2⟩
theorem zcX {x : X} (h : ∀ s : St, s.norm (E.live (zab c)) = s0 → zat E n c n s (fun x' s' => x' = x ∧ s' = s1)) : znm E n c s0 x s1 := fun s hL => by
 obtain ⟨x', s', h1, rfl, rfl⟩ := zjc (h s hL)
 exact h1
end
end Go.Den
namespace Go.Den
open Go
abbrev I (n : Int) : Dat := .val (.int .i64 n)
abbrev B (b : Bool) : Dat := .val (.bool b)
abbrev S (s : ByteArray) : Dat := .val (.string s)
abbrev U64 (n : Int) : Dat := .val (.int .u64 n)
abbrev Y8 (n : Int) : Dat := .val (.int .u8 n)
abbrev w64 (n : Int) : Int := IntKind.i64.wrap n
abbrev T (k n : Int) (ds : List Dat) : Dat := .agg [I k, I n, .lst false ds]
abbrev N3 (a b c : Int) : Dat := .agg [I a, I b, I c]
end Go.Den
namespace Go.Den
open Go
set_option linter.unusedVariables false
set_option maxRecDepth 100000
theorem zks {α : Type} {f : Nat} : ∀ {l : List (Nat × α)}, memN f (l.map (·.1)) = false → zds l f = none
 | [], _ => rfl
 | (a, x) :: l, h => by
   simp only [List.map_cons, memN] at h
   unfold zds
   split at h
   · cases h
   · rename_i hb
     have hab : Nat.beq a f = false := by
      cases hc : Nat.beq a f with
      | false => rfl
      | true =>
        have := Nat.eq_of_beq_eq_true hc
        subst this
        have hr : Nat.beq a a = true := Nat.beq_refl a
        rw [hr] at hb
        cases hb
     rw [hab]
     exact zks h
theorem zn4 : extsOf.map (·.1) = zmB := by rfl
theorem noExt {f : Nat} {fn : Func} (h : cfg.fn f = some fn) (hb : memN f zhu = false) : cfg.ext f = none := by
 unfold cfg at h ⊢
 simp only at h ⊢
 split at h
 · rename_i hbb
   simp only [Bool.and_eq_true, Bool.or_eq_true, Bool.not_eq_true', hb, Bool.false_eq_true, or_false] at hbb
   exact zks (by rw [zn4]; exact hbb.2)
 · cases h
def EvN (N f : Nat) (args : List D) (u : List (List D)) (l : List (Option Row)) (r : Res) : Prop := ∀ k, N ≤ k → den cfg k f args u l = some r
theorem EvN.mono {N M f : Nat} {args : List D} {u : List (List D)} {l : List (Option Row)} {r : Res} (h : EvN N f args u l r) (hNM : N ≤ M) : EvN M f args u l r := fun k hk => h k (by omega)
theorem zaq {f : Nat} (fn : Func) {args : List D} {u : List (List D)} {l : List (Option Row)} {r : Res} (N : Nat) (hf : cfg.fn f = some fn) (hl : Nat.ble args.length fn.ntmps = true) (h : ∀ kk, N ≤ kk → zak cfg kk (den cfg kk) f fn args u l = some r) (hb : memN f zhu = false := by kernel_rfl) : EvN (N + 1) f args u l r := fun k hk => by
 obtain ⟨m, rfl⟩ : ∃ m, k = m + 1 := ⟨k - 1, by omega⟩
 simp only [den, noExt hf hb, Option.bind_none, hf, hl]
 exact h m (by omega)
theorem za6 {n : Int} (h : -9223372036854775808 ≤ n ∧ n ≤ 9223372036854775807) : w64 n = n := by show IntKind.i64.wrap n = n; rw [IntKind.wrap_i64]; omega
theorem ze0 {E : Env} {kk : Nat} {c : Code} {K : X → St → Prop} (st : Nat → St) (n : Nat)
 (hgo : ∀ i, i < n → ∀ (m : Nat) (s : St), s.norm (E.live (zab c)) = st i → (∀ s : St, s.norm (E.live (zab c)) = st (i + 1) → zat E kk c m s K) → zat E kk c (m + 1) s K)
 (hend : ∀ (m : Nat) (s : St), s.norm (E.live (zab c)) = st n → zat E kk c (m + 1) s K) : ∀ (d i m : Nat), i + d = n → d < m → ∀ s : St, s.norm (E.live (zab c)) = st i → zat E kk c m s K
 | 0, i, m, hi, hm, s, hs => by
   obtain ⟨m, rfl⟩ : ∃ k, m = k + 1 := ⟨m - 1, by omega⟩
   have : i = n := by omega
   subst this
   exact hend m s hs
 | d + 1, i, m, hi, hm, s, hs => by
   obtain ⟨m, rfl⟩ : ∃ k, m = k + 1 := ⟨m - 1, by omega⟩
   exact hgo i (by omega) m s hs fun s' hs' => ze0 st n hgo hend d (i + 1) m (by omega) (by omega) s' hs'
theorem zaN {kk f : Nat} {fn : Func} {r : Nat} {x : X} {s' : St} (st : Nat → St) (n : Nat) (hk : n < kk)
 (hgo : ∀ i, i < n → ∀ (m : Nat) (s : St) (K : X → St → Prop), s.norm ((zaL cfg kk f fn).live (zab (lp fn r))) = st i → (∀ s : St, s.norm ((zaL cfg kk f fn).live (zab (lp fn r))) = st (i + 1) → zat (zaL cfg kk f fn) kk (lp fn r) m s K) → zat (zaL cfg kk f fn) kk (lp fn r) (m + 1) s K)
 (hend : ∀ (m : Nat) (s : St) (K : X → St → Prop), s.norm ((zaL cfg kk f fn).live (zab (lp fn r))) = st n → K x s' → zat (zaL cfg kk f fn) kk (lp fn r) (m + 1) s K) {s0 : St} (h0 : s0 = st 0) : zai cfg kk f fn r s0 x s' :=
 zcX fun s hs => ze0 st n (fun i hi m s hs hn => hgo i hi m s _ hs hn) (fun m s hs => hend m s _ hs ⟨rfl, rfl⟩) n 0 kk (by omega) hk s (by rw [hs, h0])
theorem zd3 {α : Type} (p : α → Bool) : ∀ {ks : List α}, ks.all p = false → ∃ (j : Nat) (x : α), ks[j]? = some x ∧ p x = false ∧ ∀ i y, i < j → ks[i]? = some y → p y = true
 | [], h => by cases h
 | y :: ks, h => by
   cases hy : p y with
   | false => exact ⟨0, y, rfl, hy, fun i y hi => by omega⟩
   | true =>
     rw [List.all_cons, hy, Bool.true_and] at h
     obtain ⟨j, x, h1, h2, h3⟩ := zd3 p h
     refine ⟨j + 1, x, by simpa using h1, h2, fun i z hi hz => ?_⟩
     cases i with
     | zero => simp at hz; rw [← hz]; exact hy
     | succ i => exact h3 i z (by omega) (by simpa using hz)
theorem zcU {kk f : Nat} {fn : Func} {r : Nat} {x1 x2 : X} {s1 : St} {s2 : Nat → St} (st : Nat → St) (chk : Nat → Bool) (n : Nat) (hk : n < kk)
 (hr : ∀ i, i < n → (∀ j, j < i → chk j = true) → ∀ (m : Nat) (s : St) (K : X → St → Prop), s.norm ((zaL cfg kk f fn).live (zab (lp fn r))) = st i → (chk i = true → ∀ s : St, s.norm ((zaL cfg kk f fn).live (zab (lp fn r))) = st (i + 1) → zat (zaL cfg kk f fn) kk (lp fn r) m s K) → (chk i = false → K x2 (s2 i)) → zat (zaL cfg kk f fn) kk (lp fn r) (m + 1) s K)
 (hend : (∀ j, j < n → chk j = true) → ∀ (m : Nat) (s : St) (K : X → St → Prop), s.norm ((zaL cfg kk f fn).live (zab (lp fn r))) = st n → K x1 s1 → zat (zaL cfg kk f fn) kk (lp fn r) (m + 1) s K) {s0 : St} (h0 : s0 = st 0) :
 ((List.range n).all chk = true → zai cfg kk f fn r s0 x1 s1) ∧ (∀ i, i < n → (∀ j, j < i → chk j = true) → chk i = false → zai cfg kk f fn r s0 x2 (s2 i)) := by
 refine ⟨fun hall => ?_, fun i hi hch hc => ?_⟩
 · have hch : ∀ j, j < n → chk j = true := fun j hj => (List.all_eq_true.1 hall) j (List.mem_range.2 hj)
   exact zaN st n hk (fun i hi m s K hs hn => hr i hi (fun j hj => hch j (by omega)) m s K hs (fun _ => hn) (fun h => by rw [hch i hi] at h; cases h)) (fun m s K hs hK => hend hch m s K hs hK) h0
 · exact zaN st i (by omega) (fun j hj m s K hs hn => hr j (by omega) (fun q hq => hch q (by omega)) m s K hs (fun _ => hn) (fun h => by rw [hch j hj] at h; cases h)) (fun m s K hs hK => hr i hi hch m s K hs (fun h => by rw [hc] at h; cases h) (fun _ => hK)) h0
theorem zbV {kk f : Nat} {fn : Func} {r : Nat} {x1 x2 : X} {s1 s2 : St} (st : Nat → St) (chk : Nat → Bool) (n : Nat) (hk : n < kk)
 (hr : ∀ i, i < n → (∀ j, j < i → chk j = true) → ∀ (m : Nat) (s : St) (K : X → St → Prop), s.norm ((zaL cfg kk f fn).live (zab (lp fn r))) = st i → (chk i = true → ∀ s : St, s.norm ((zaL cfg kk f fn).live (zab (lp fn r))) = st (i + 1) → zat (zaL cfg kk f fn) kk (lp fn r) m s K) → (chk i = false → K x2 s2) → zat (zaL cfg kk f fn) kk (lp fn r) (m + 1) s K)
 (hend : (∀ j, j < n → chk j = true) → ∀ (m : Nat) (s : St) (K : X → St → Prop), s.norm ((zaL cfg kk f fn).live (zab (lp fn r))) = st n → K x1 s1 → zat (zaL cfg kk f fn) kk (lp fn r) (m + 1) s K) {s0 : St} (h0 : s0 = st 0) :
 ((List.range n).all chk = true → zai cfg kk f fn r s0 x1 s1) ∧ ((List.range n).all chk = false → zai cfg kk f fn r s0 x2 s2) := by
 obtain ⟨h1, h2⟩ := zcU (s2 := fun _ => s2) st chk n hk hr hend h0
 refine ⟨h1, fun hall => ?_⟩
 obtain ⟨j, q, h3, h4, h5⟩ := zd3 chk hall
 have hj : j < n := by
  have := (List.getElem?_eq_some_iff.1 h3).1
  simpa using this
 have hqj : q = j := by
  rw [List.getElem?_range hj] at h3
  exact (Option.some.inj h3).symm
 subst hqj
 exact h2 q hj (fun i hi => h5 i i hi (List.getElem?_range (by omega))) h4
theorem zp9 {n : Nat} {d : Dat} {i : TI} {k : IntKind} (h : WT cfg.ty n d) (ht : cfg.ty n = some i) (hk : i.kind = .int k) : ∃ x : Int, d = .val (.int k x) ∧ (Lit.int k x).wf = true := by
 cases h with
 | @int _ i' k' x ht' hk' hw => rw [ht] at ht'; cases ht'; rw [hk] at hk'; cases hk'; exact ⟨x, rfl, hw⟩
 | bool ht' hk' => rw [ht] at ht'; cases ht'; rw [hk] at hk'; cases hk'
 | str ht' hk' => rw [ht] at ht'; cases ht'; rw [hk] at hk'; cases hk'
 | lst ht' hk' => rw [ht] at ht'; cases ht'; rw [hk] at hk'; cases hk'
 | agg ht' hk' => rw [ht] at ht'; cases ht'; rw [hk] at hk'; cases hk'
theorem zqy {n e : Nat} {d : Dat} {i : TI} (h : WT cfg.ty n d) (ht : cfg.ty n = some i) (hk : i.kind = .slice e) : ∃ es : List Dat, d = .lst false es ∧ es.length ≤ maxLen ∧ ∀ x ∈ es, WT cfg.ty e x := by
 cases h with
 | int ht' hk' => rw [ht] at ht'; cases ht'; rw [hk] at hk'; cases hk'
 | bool ht' hk' => rw [ht] at ht'; cases ht'; rw [hk] at hk'; cases hk'
 | str ht' hk' => rw [ht] at ht'; cases ht'; rw [hk] at hk'; cases hk'
 | @lst _ i' e' es ht' hk' hl hx => rw [ht] at ht'; cases ht'; rw [hk] at hk'; cases hk'; exact ⟨es, rfl, hl, hx⟩
 | agg ht' hk' => rw [ht] at ht'; cases ht'; rw [hk] at hk'; cases hk'
end Go.Den
namespace Go.Den
open Go
abbrev fL (o : Int) (c : List Dat) (r : List Dat) (n : List Dat) (m : Int) (u : Int) (e : Bool) (f : Bool) (t : ByteArray) : List D := [D.dat (I o), D.own 97 c, D.own 3 r, D.own 3 n, D.dat (I m), D.dat (I u), D.dat (B e), D.dat (B f), D.dat (Dat.val (Value.string t))]
abbrev fY (o : Int) (c : List Dat) (r : List Dat) (n : List Dat) : List D := [D.dat (I o), D.own 97 c, D.own 3 r, D.own 3 n]
abbrev fB (b : Bool) (o : Int) (c : List Dat) (r : List Dat) (n : List Dat) : List D := [D.dat (I o), D.dat (Dat.lst b c), D.dat (Dat.lst b r), D.dat (Dat.lst b n)]
abbrev fA (b : Bool) (o : Int) (c : List Dat) (r : List Dat) (n : List Dat) : Dat := (Dat.agg [I o, Dat.lst b c, Dat.lst b r, Dat.lst b n])
abbrev fG (x : Int) (l : List Dat) : List D := [D.dat (I x), D.dat (I 0), D.dat (I (w64 ((l.length : Int) - 1)))]
abbrev fE (l : Bool) (n : Int) (a : Int) (b : Int) : Dat := (Dat.agg [B l, I n, I a, I b])
abbrev fC (c : List Dat) (p : Int) (u : Int) : List D := [D.dat (Dat.lst false c), D.dat (I p), D.dat (Dat.val (Value.int IntKind.u64 u))]
abbrev fD (k f : Nat) (a r : List D) : Prop := den cfg k f a [] [] = some (r, [], [])
abbrev fU (k f : Nat) (a : List D) (u : List (List D)) (r : List D) (v : List (List D)) : Prop := den cfg k f a u [] = some (r, v, [])
noncomputable abbrev fN (k f : Nat) (fn : Func) (r : Nat) : List Nat := (zaL cfg k f fn).live (zab (lp fn r))
abbrev fR (k f : Nat) (fn : Func) (r m : Nat) (s : St) (K : X → St → Prop) : Prop := zat (zaL cfg k f fn) k (lp fn r) m s K
theorem rF : false = false := rfl
theorem rT : true = true := rfl
abbrev tT (p : Prop) [Decidable p] : Prop := decide p = true
abbrev tF (p : Prop) [Decidable p] : Prop := decide p = false
open Go.Proofs
open Go
set_option linter.unusedVariables false
set_option maxRecDepth 100000
theorem zpM (kk : Nat) (cs : List Dat) (p u : Int) (x : Int) (h1 : decide (p < (cs.length : Int)) = true) (h2 : (0 ≤ p ∧ p < (cs.length : Int)) ∧ cs[p.toNat]? = some (Dat.val (Value.int IntKind.u8 x))) (h3 : decide (w64 (p + 1) ≤ (cs.length : Int)) = true) : zak cfg kk (den cfg kk) 80 Tryd.f80 [.ptr (.up 0) 0] [(fC cs p u)] [] = some ([D.dat (I (w64 x))], [(fC cs (w64 (p + 1)) (IntKind.u64.wrap (IntKind.u64.wrap (IntKind.u64.wrap (u * 6364136223846793005) + IntKind.u64.wrap (w64 x)) + 1442695040888963407)))], []) :=
 zaa [(200013, .yes), (22, .at (Y8 x)), (200053, .yes)] (ob h1 (ob h2 (ob h3 ob0))) (by kernel_rfl)
theorem zn1 (kk : Nat) (cs : List Dat) (p u : Int) (h1 : decide (p < (cs.length : Int)) = false) (h2 : decide (w64 (p + 1) ≤ (cs.length : Int)) = false) : zak cfg kk (den cfg kk) 80 Tryd.f80 [.ptr (.up 0) 0] [(fC cs p u)] [] = some ([D.dat (Dat.val (Value.int IntKind.i64 (w64 (IntKind.u64.wrap ((BitVec.ofInt IntKind.u64.bits ((IntKind.u64.wrap (IntKind.u64.wrap (IntKind.u64.wrap (u * 6364136223846793005) + IntKind.u64.wrap 0) + 1442695040888963407)).fdiv (2 ^ min (Int.toNat 40) IntKind.u64.bits)) &&& BitVec.ofInt IntKind.u64.bits 255).toNat : Int)))))], [(fC cs (w64 (p + 1)) (IntKind.u64.wrap (IntKind.u64.wrap (IntKind.u64.wrap (u * 6364136223846793005) + IntKind.u64.wrap 0) + 1442695040888963407)))], []) :=
 zaa [(200013, .no), (200053, .no)] (ob h1 (ob h2 ob0)) (by kernel_rfl)
theorem zqn (kk : Nat) (cs : List Dat) (p u : Int) (n : Int) (h1 : decide (n ≤ 1) = true) : zak cfg kk (den cfg kk) 54 Tryd.f54 [.ptr (.up 0) 0, .dat (I n)] [(fC cs p u)] [] = some ([D.dat (I 0)], [(fC cs p u)], []) :=
 zaa [(200007, .yes)] (ob h1 ob0) (by kernel_rfl)
theorem zp0 (kk : Nat) (cs : List Dat) (p u : Int) (p1 u1 : Int) (n z : Int) (h1 : decide (n ≤ 1) = false) (h2 : fU kk 80 [D.ptr (Ref.up 0) 0] [(fC cs p u)] [D.dat (I z)] [(fC cs p1 u1)]) (h4 : decide (200 < n) = false) (h5 : n ≠ 0) : zak cfg kk (den cfg kk) 54 Tryd.f54 [.ptr (.up 0) 0, .dat (I n)] [(fC cs p u)] [] = some ([D.dat (I (z.tmod n))], [(fC cs p1 u1)], []) :=
 zaa [(200007, .no), (9, .back [.dat (I z)] [(fC cs p1 u1)] []), (200011, .no), (19, .ok)] (ob h1 (ob h2 (ob rF (ob h4 (ob h5 ob0))))) (by kernel_rfl)
theorem zqr (kk : Nat) (cs : List Dat) (p u : Int) (p1 u1 : Int) (p2 u2 : Int) (n z w : Int) (h1 : decide (n ≤ 1) = false) (h2 : fU kk 80 [D.ptr (Ref.up 0) 0] [(fC cs p u)] [D.dat (I z)] [(fC cs p1 u1)]) (h4 : decide (200 < n) = true) (h5 : fU kk 80 [D.ptr (Ref.up 0) 0] [(fC cs p1 u1)] [D.dat (I w)] [(fC cs p2 u2)]) (h7 : n ≠ 0) : zak cfg kk (den cfg kk) 54 Tryd.f54 [.ptr (.up 0) 0, .dat (I n)] [(fC cs p u)] [] = some ([D.dat (Dat.val (Value.int IntKind.i64 ((w64 (w64 (z * 256) + w)).tmod n)))], [(fC cs p2 u2)], []) :=
 zaa [(200007, .no), (9, .back [.dat (I z)] [(fC cs p1 u1)] []), (200011, .yes), (15, .back [.dat (I w)] [(fC cs p2 u2)] []), (19, .ok)] (ob h1 (ob h2 (ob rF (ob h4 (ob h5 (ob rF (ob h7 ob0))))))) (by kernel_rfl)
theorem one_ (kk : Nat) (cs : List Dat) (p u : Int) (p1 u1 : Int) (n z : Int) (h1 : fU kk 54 [D.ptr (Ref.up 0) 0, D.dat (I n)] [(fC cs p u)] [D.dat (I z)] [(fC cs p1 u1)]) : zak cfg kk (den cfg kk) 55 Tryd.f55 [.ptr (.up 0) 0, .dat (I n)] [(fC cs p u)] [] = some ([D.dat (B (decide (z = 0)))], [(fC cs p1 u1)], []) :=
 zaa [(7, .back [.dat (I z)] [(fC cs p1 u1)] [])] (ob h1 (ob rF ob0)) (by kernel_rfl)
theorem among (kk : Nat) (cs : List Dat) (p u : Int) (p1 u1 : Int) (b : Bool) (es : List Dat) (z v : Int) (h1 : fU kk 54 [D.ptr (Ref.up 0) 0, D.dat (I (es.length : Int))] [(fC cs p u)] [D.dat (I z)] [(fC cs p1 u1)]) (h3 : (0 ≤ z ∧ z < (es.length : Int)) ∧ es[z.toNat]? = some (I v)) : zak cfg kk (den cfg kk) 69 Tryd.f69 [.ptr (.up 0) 0, .dat (Dat.lst b es)] [(fC cs p u)] [] = some ([D.dat (I v)], [(fC cs p1 u1)], []) :=
 zaa [(9, .back [.dat (I z)] [(fC cs p1 u1)] []), (10, .at (I v))] (ob h1 (ob rF (ob h3 ob0))) (by kernel_rfl)
def hd68 (cs : List Dat) (out : List Dat) (n p u i : Int) : St := Nm [0, 3, 4, 5] [.ptr (.up 0) 0, .own 72 out, .dat (I n), .dat (I i)] [none, none, none, none] [(fC cs p u)] []
theorem zhN (kk m : Nat) {s : St} {K : X → St → Prop} (cs : List Dat) (out : List Dat) (n i k a b k2 a2 b2 : Int) (g : Bool) (p u : Int) (p1 u1 : Int) (p2 u2 : Int) (p3 u3 : Int) (p4 u4 : Int) (p5 u5 : Int) (p6 u6 : Int) (p7 u7 : Int) (hs : s.norm (fN kk 68 Tryd.f68 6) = hd68 cs out n p u i) (q1 : (tT (i < n)) → (g = true) → (fU kk 69 [D.ptr (Ref.up 0) 0, D.dat (Dat.lst true [I 1, I 1, I 2, I 2, I 3, I 4, I 5, I 5, I 6, I 6, I 7, I 7, I 8, I 8, I 9, I 10, I 11])] [(fC cs p u)] [D.dat (I k)] [(fC cs p1 u1)]) ∧ ((true && !(true && (true && zam [(fC cs p1 u1)])) || false) = false) ∧ (fU kk 54 [D.ptr (Ref.up 0) 0, D.dat (I 6)] [(fC cs p1 u1)] [D.dat (I a)] [(fC cs p2 u2)]) ∧ (fU kk 54 [D.ptr (Ref.up 0) 0, D.dat (I 6)] [(fC cs p2 u2)] [D.dat (I b)] [(fC cs p3 u3)]) ∧ (fU kk 55 [D.ptr (Ref.up 0) 0, D.dat (I 40)] [(fC cs p3 u3)] [D.dat (B g)] [(fC cs p4 u4)]) ∧ (fU kk 54 [D.ptr (Ref.up 0) 0, D.dat (I 13)] [(fC cs p4 u4)] [D.dat (I k2)] [(fC cs p5 u5)]) ∧ (fU kk 69 [D.ptr (Ref.up 0) 0, D.dat (Dat.lst true [I (-1), I 60, I 5])] [(fC cs p5 u5)] [D.dat (I a2)] [(fC cs p6 u6)]) ∧ ((true && !(true && (true && zam [(fC cs p6 u6)])) || false) = false) ∧ (fU kk 54 [D.ptr (Ref.up 0) 0, D.dat (I 3)] [(fC cs p6 u6)] [D.dat (I b2)] [(fC cs p7 u7)]) ∧ (out.length + 1 ≤ 2147483648) ∧ (∀ s : St, s.norm (fN kk 68 Tryd.f68 6) = Nm [0, 3, 4, 5] [D.ptr (Ref.up 0) 0, D.own 72 (out ++ [N3 k2 a2 b2]), D.dat (I n), D.dat (I (w64 (i + 1)))] [none, none, none, none] [(fC cs p7 u7)] [] → fR kk 68 Tryd.f68 6 m s K)) (q2 : (tT (i < n)) → (g = false) → (fU kk 69 [D.ptr (Ref.up 0) 0, D.dat (Dat.lst true [I 1, I 1, I 2, I 2, I 3, I 4, I 5, I 5, I 6, I 6, I 7, I 7, I 8, I 8, I 9, I 10, I 11])] [(fC cs p u)] [D.dat (I k)] [(fC cs p1 u1)]) ∧ ((true && !(true && (true && zam [(fC cs p1 u1)])) || false) = false) ∧ (fU kk 54 [D.ptr (Ref.up 0) 0, D.dat (I 6)] [(fC cs p1 u1)] [D.dat (I a)] [(fC cs p2 u2)]) ∧ (fU kk 54 [D.ptr (Ref.up 0) 0, D.dat (I 6)] [(fC cs p2 u2)] [D.dat (I b)] [(fC cs p3 u3)]) ∧ (fU kk 55 [D.ptr (Ref.up 0) 0, D.dat (I 40)] [(fC cs p3 u3)] [D.dat (B g)] [(fC cs p4 u4)]) ∧ (out.length + 1 ≤ 2147483648) ∧ (∀ s : St, s.norm (fN kk 68 Tryd.f68 6) = Nm [0, 3, 4, 5] [D.ptr (Ref.up 0) 0, D.own 72 (out ++ [N3 k a b]), D.dat (I n), D.dat (I (w64 (i + 1)))] [none, none, none, none] [(fC cs p4 u4)] [] → fR kk 68 Tryd.f68 6 m s K)) (q3 : (tF (i < n)) → K (X.exit 0) (Nm [0, 3] [D.ptr (Ref.up 0) 0, D.own 72 out] [none, none] [(fC cs p u)] [])) : fR kk 68 Tryd.f68 6 (m + 1) s K := by
 rcases Bool.eq_false_or_eq_true (decide (i < n)) with d1 | d1
 · rcases Bool.eq_false_or_eq_true (g) with d10 | d10
   · obtain ⟨hz1, hz2, hz3, hz4, hz5, hz6, hz7, hz8, hz9, hz10, oz⟩ := q1 d1 d10
     exact zad [(21, .back [.dat (I k)] [(fC cs p1 u1)] []), (23, .back [.dat (I a)] [(fC cs p2 u2)] []), (25, .back [.dat (I b)] [(fC cs p3 u3)] []), (28, .back [.dat (B g)] [(fC cs p4 u4)] []), (30, .back [.dat (I k2)] [(fC cs p5 u5)] []), (33, .back [.dat (I a2)] [(fC cs p6 u6)] []), (35, .back [.dat (I b2)] [(fC cs p7 u7)] []), (40, .ok), (200016, .yes), (200028, .yes)] hs (by kernel_rfl) (ob d1 (ob hz1 (ob hz2 (ob hz3 (ob rF (ob hz4 (ob rF (ob hz5 (ob rF (ob d10 (ob hz6 (ob rF (ob hz7 (ob hz8 (ob hz9 (ob rF (ob (obT hz10) ob0))))))))))))))))) (by kernel_rfl) oz
   · obtain ⟨hz1, hz2, hz3, hz4, hz5, hz6, oz⟩ := q2 d1 d10
     exact zad [(21, .back [.dat (I k)] [(fC cs p1 u1)] []), (23, .back [.dat (I a)] [(fC cs p2 u2)] []), (25, .back [.dat (I b)] [(fC cs p3 u3)] []), (28, .back [.dat (B g)] [(fC cs p4 u4)] []), (30, .back [.dat (I k2)] [(fC cs p5 u5)] []), (33, .back [.dat (I a2)] [(fC cs p6 u6)] []), (35, .back [.dat (I b2)] [(fC cs p7 u7)] []), (40, .ok), (200016, .yes), (200028, .no)] hs (by kernel_rfl) (ob d1 (ob hz1 (ob hz2 (ob hz3 (ob rF (ob hz4 (ob rF (ob hz5 (ob rF (ob d10 (ob (obT hz6) ob0))))))))))) (by kernel_rfl) oz
 · have oz := q3 d1
   exact zae [(21, .back [.dat (I k)] [(fC cs p1 u1)] []), (23, .back [.dat (I a)] [(fC cs p2 u2)] []), (25, .back [.dat (I b)] [(fC cs p3 u3)] []), (28, .back [.dat (B g)] [(fC cs p4 u4)] []), (30, .back [.dat (I k2)] [(fC cs p5 u5)] []), (33, .back [.dat (I a2)] [(fC cs p6 u6)] []), (35, .back [.dat (I b2)] [(fC cs p7 u7)] []), (40, .ok), (200016, .no)] hs (by kernel_rfl) rfl (ob d1 ob0) (by kernel_rfl) oz
theorem zp8 (kk : Nat) (cs : List Dat) (out : List Dat) (z z12 n : Int) (g g42 : Bool) (p u : Int) (p1 u1 : Int) (p2 u2 : Int) (p3 u3 : Int) (p4 u4 : Int) (p5 u5 : Int) (p6 u6 : Int) {r : Res} (q1 : (g = true) → (g42 = true) → (fU kk 54 [D.ptr (Ref.up 0) 0, D.dat (I 40)] [(fC cs p u)] [D.dat (I z)] [(fC cs p1 u1)]) ∧ (fU kk 55 [D.ptr (Ref.up 0) 0, D.dat (I 8)] [(fC cs p1 u1)] [D.dat (B g)] [(fC cs p2 u2)]) ∧ (fU kk 54 [D.ptr (Ref.up 0) 0, D.dat (I 61)] [(fC cs p2 u2)] [D.dat (I z12)] [(fC cs p3 u3)]) ∧ (Nm [0, 3, 4, 5] [D.ptr (Ref.up 0) 0, D.own 72 [], D.dat (I (w64 (90 + z12))), D.dat (I 0)] [none, none, none, none] [(fC cs p3 u3)] [] = hd68 cs [] n p4 u4 0) ∧ (zai cfg kk 68 Tryd.f68 6 (hd68 cs [] n p4 u4 0) (X.exit 0) (Nm [0, 3] [D.ptr (Ref.up 0) 0, D.own 72 out] [none, none] [(fC cs p5 u5)] [])) ∧ (fU kk 55 [D.ptr (Ref.up 0) 0, D.dat (I 60)] [(fC cs p5 u5)] [D.dat (B g42)] [(fC cs p6 u6)]) ∧ (out.length + 150 ≤ 2147483648) ∧ r = ([D.own 72 (out ++ [N3 0 0 0, N3 0 0 0, N3 0 0 0, N3 0 0 0, N3 0 0 0, N3 0 0 0, N3 0 0 0, N3 0 0 0, N3 0 0 0, N3 0 0 0, N3 0 0 0, N3 0 0 0, N3 0 0 0, N3 0 0 0, N3 0 0 0, N3 0 0 0, N3 0 0 0, N3 0 0 0, N3 0 0 0, N3 0 0 0, N3 0 0 0, N3 0 0 0, N3 0 0 0, N3 0 0 0, N3 0 0 0, N3 0 0 0, N3 0 0 0, N3 0 0 0, N3 0 0 0, N3 0 0 0, N3 0 0 0, N3 0 0 0, N3 0 0 0, N3 0 0 0, N3 0 0 0, N3 0 0 0, N3 0 0 0, N3 0 0 0, N3 0 0 0, N3 0 0 0, N3 0 0 0, N3 0 0 0, N3 0 0 0, N3 0 0 0, N3 0 0 0, N3 0 0 0, N3 0 0 0, N3 0 0 0, N3 0 0 0, N3 0 0 0, N3 0 0 0, N3 0 0 0, N3 0 0 0, N3 0 0 0, N3 0 0 0, N3 0 0 0, N3 0 0 0, N3 0 0 0, N3 0 0 0, N3 0 0 0, N3 0 0 0, N3 0 0 0, N3 0 0 0, N3 0 0 0, N3 0 0 0, N3 0 0 0, N3 0 0 0, N3 0 0 0, N3 0 0 0, N3 0 0 0, N3 0 0 0, N3 0 0 0, N3 0 0 0, N3 0 0 0, N3 0 0 0, N3 0 0 0, N3 0 0 0, N3 0 0 0, N3 0 0 0, N3 0 0 0, N3 0 0 0, N3 0 0 0, N3 0 0 0, N3 0 0 0, N3 0 0 0, N3 0 0 0, N3 0 0 0, N3 0 0 0, N3 0 0 0, N3 0 0 0, N3 0 0 0, N3 0 0 0, N3 0 0 0, N3 0 0 0, N3 0 0 0, N3 0 0 0, N3 0 0 0, N3 0 0 0, N3 0 0 0, N3 0 0 0, N3 0 0 0, N3 0 0 0, N3 0 0 0, N3 0 0 0, N3 0 0 0, N3 0 0 0, N3 0 0 0, N3 0 0 0, N3 0 0 0, N3 0 0 0, N3 0 0 0, N3 0 0 0, N3 0 0 0, N3 0 0 0, N3 0 0 0, N3 0 0 0, N3 0 0 0, N3 0 0 0, N3 0 0 0, N3 0 0 0, N3 0 0 0, N3 0 0 0, N3 0 0 0, N3 0 0 0, N3 0 0 0, N3 0 0 0, N3 0 0 0, N3 0 0 0, N3 0 0 0, N3 0 0 0, N3 0 0 0, N3 0 0 0, N3 0 0 0, N3 0 0 0, N3 0 0 0, N3 0 0 0, N3 0 0 0, N3 0 0 0, N3 0 0 0, N3 0 0 0, N3 0 0 0, N3 0 0 0, N3 0 0 0, N3 0 0 0, N3 0 0 0, N3 0 0 0, N3 0 0 0, N3 0 0 0, N3 0 0 0, N3 0 0 0])], [(fC cs p6 u6)], [])) (q2 : (g = true) → (g42 = false) → (fU kk 54 [D.ptr (Ref.up 0) 0, D.dat (I 40)] [(fC cs p u)] [D.dat (I z)] [(fC cs p1 u1)]) ∧ (fU kk 55 [D.ptr (Ref.up 0) 0, D.dat (I 8)] [(fC cs p1 u1)] [D.dat (B g)] [(fC cs p2 u2)]) ∧ (fU kk 54 [D.ptr (Ref.up 0) 0, D.dat (I 61)] [(fC cs p2 u2)] [D.dat (I z12)] [(fC cs p3 u3)]) ∧ (Nm [0, 3, 4, 5] [D.ptr (Ref.up 0) 0, D.own 72 [], D.dat (I (w64 (90 + z12))), D.dat (I 0)] [none, none, none, none] [(fC cs p3 u3)] [] = hd68 cs [] n p4 u4 0) ∧ (zai cfg kk 68 Tryd.f68 6 (hd68 cs [] n p4 u4 0) (X.exit 0) (Nm [0, 3] [D.ptr (Ref.up 0) 0, D.own 72 out] [none, none] [(fC cs p5 u5)] [])) ∧ (fU kk 55 [D.ptr (Ref.up 0) 0, D.dat (I 60)] [(fC cs p5 u5)] [D.dat (B g42)] [(fC cs p6 u6)]) ∧ r = ([D.own 72 out], [(fC cs p6 u6)], [])) (q3 : (g = false) → (g42 = true) → (fU kk 54 [D.ptr (Ref.up 0) 0, D.dat (I 40)] [(fC cs p u)] [D.dat (I z)] [(fC cs p1 u1)]) ∧ (fU kk 55 [D.ptr (Ref.up 0) 0, D.dat (I 8)] [(fC cs p1 u1)] [D.dat (B g)] [(fC cs p2 u2)]) ∧ (Nm [0, 3, 4, 5] [D.ptr (Ref.up 0) 0, D.own 72 [], D.dat (I z), D.dat (I 0)] [none, none, none, none] [(fC cs p2 u2)] [] = hd68 cs [] n p4 u4 0) ∧ (zai cfg kk 68 Tryd.f68 6 (hd68 cs [] n p4 u4 0) (X.exit 0) (Nm [0, 3] [D.ptr (Ref.up 0) 0, D.own 72 out] [none, none] [(fC cs p5 u5)] [])) ∧ (fU kk 55 [D.ptr (Ref.up 0) 0, D.dat (I 60)] [(fC cs p5 u5)] [D.dat (B g42)] [(fC cs p6 u6)]) ∧ (out.length + 150 ≤ 2147483648) ∧ r = ([D.own 72 (out ++ [N3 0 0 0, N3 0 0 0, N3 0 0 0, N3 0 0 0, N3 0 0 0, N3 0 0 0, N3 0 0 0, N3 0 0 0, N3 0 0 0, N3 0 0 0, N3 0 0 0, N3 0 0 0, N3 0 0 0, N3 0 0 0, N3 0 0 0, N3 0 0 0, N3 0 0 0, N3 0 0 0, N3 0 0 0, N3 0 0 0, N3 0 0 0, N3 0 0 0, N3 0 0 0, N3 0 0 0, N3 0 0 0, N3 0 0 0, N3 0 0 0, N3 0 0 0, N3 0 0 0, N3 0 0 0, N3 0 0 0, N3 0 0 0, N3 0 0 0, N3 0 0 0, N3 0 0 0, N3 0 0 0, N3 0 0 0, N3 0 0 0, N3 0 0 0, N3 0 0 0, N3 0 0 0, N3 0 0 0, N3 0 0 0, N3 0 0 0, N3 0 0 0, N3 0 0 0, N3 0 0 0, N3 0 0 0, N3 0 0 0, N3 0 0 0, N3 0 0 0, N3 0 0 0, N3 0 0 0, N3 0 0 0, N3 0 0 0, N3 0 0 0, N3 0 0 0, N3 0 0 0, N3 0 0 0, N3 0 0 0, N3 0 0 0, N3 0 0 0, N3 0 0 0, N3 0 0 0, N3 0 0 0, N3 0 0 0, N3 0 0 0, N3 0 0 0, N3 0 0 0, N3 0 0 0, N3 0 0 0, N3 0 0 0, N3 0 0 0, N3 0 0 0, N3 0 0 0, N3 0 0 0, N3 0 0 0, N3 0 0 0, N3 0 0 0, N3 0 0 0, N3 0 0 0, N3 0 0 0, N3 0 0 0, N3 0 0 0, N3 0 0 0, N3 0 0 0, N3 0 0 0, N3 0 0 0, N3 0 0 0, N3 0 0 0, N3 0 0 0, N3 0 0 0, N3 0 0 0, N3 0 0 0, N3 0 0 0, N3 0 0 0, N3 0 0 0, N3 0 0 0, N3 0 0 0, N3 0 0 0, N3 0 0 0, N3 0 0 0, N3 0 0 0, N3 0 0 0, N3 0 0 0, N3 0 0 0, N3 0 0 0, N3 0 0 0, N3 0 0 0, N3 0 0 0, N3 0 0 0, N3 0 0 0, N3 0 0 0, N3 0 0 0, N3 0 0 0, N3 0 0 0, N3 0 0 0, N3 0 0 0, N3 0 0 0, N3 0 0 0, N3 0 0 0, N3 0 0 0, N3 0 0 0, N3 0 0 0, N3 0 0 0, N3 0 0 0, N3 0 0 0, N3 0 0 0, N3 0 0 0, N3 0 0 0, N3 0 0 0, N3 0 0 0, N3 0 0 0, N3 0 0 0, N3 0 0 0, N3 0 0 0, N3 0 0 0, N3 0 0 0, N3 0 0 0, N3 0 0 0, N3 0 0 0, N3 0 0 0, N3 0 0 0, N3 0 0 0, N3 0 0 0, N3 0 0 0, N3 0 0 0, N3 0 0 0, N3 0 0 0, N3 0 0 0])], [(fC cs p6 u6)], [])) (q4 : (g = false) → (g42 = false) → (fU kk 54 [D.ptr (Ref.up 0) 0, D.dat (I 40)] [(fC cs p u)] [D.dat (I z)] [(fC cs p1 u1)]) ∧ (fU kk 55 [D.ptr (Ref.up 0) 0, D.dat (I 8)] [(fC cs p1 u1)] [D.dat (B g)] [(fC cs p2 u2)]) ∧ (Nm [0, 3, 4, 5] [D.ptr (Ref.up 0) 0, D.own 72 [], D.dat (I z), D.dat (I 0)] [none, none, none, none] [(fC cs p2 u2)] [] = hd68 cs [] n p4 u4 0) ∧ (zai cfg kk 68 Tryd.f68 6 (hd68 cs [] n p4 u4 0) (X.exit 0) (Nm [0, 3] [D.ptr (Ref.up 0) 0, D.own 72 out] [none, none] [(fC cs p5 u5)] [])) ∧ (fU kk 55 [D.ptr (Ref.up 0) 0, D.dat (I 60)] [(fC cs p5 u5)] [D.dat (B g42)] [(fC cs p6 u6)]) ∧ r = ([D.own 72 out], [(fC cs p6 u6)], [])) : zak cfg kk (den cfg kk) 68 Tryd.f68 [.ptr (.up 0) 0] [(fC cs p u)] [] = some r := by
 rcases Bool.eq_false_or_eq_true (g) with d5 | d5
 · rcases Bool.eq_false_or_eq_true (g42) with d12 | d12
   · obtain ⟨hz1, hz2, hz3, hz4, hz5, hz6, hz7, oz⟩ := q1 d5 d12
     subst oz; exact zaa [(8, .back [.dat (I z)] [(fC cs p1 u1)] []), (10, .back [.dat (B g)] [(fC cs p2 u2)] []), (12, .back [.dat (I z12)] [(fC cs p3 u3)] []), (300006, .loop (hd68 cs [] n p4 u4 0) (.exit 0) (Nm [0, 3] [.ptr (.up 0) 0, .own 72 out] [none, none] [(fC cs p5 u5)] [])), (42, .back [.dat (B g42)] [(fC cs p6 u6)] []), (44, .ok), (200010, .yes), (200042, .yes)] (ob hz1 (ob rF (ob hz2 (ob rF (ob d5 (ob hz3 (ob rF (ob hz4 (ob hz5 (ob hz6 (ob rF (ob d12 (ob hz7 ob0))))))))))))) (by kernel_rfl)
   · obtain ⟨hz1, hz2, hz3, hz4, hz5, hz6, oz⟩ := q2 d5 d12
     subst oz; exact zaa [(8, .back [.dat (I z)] [(fC cs p1 u1)] []), (10, .back [.dat (B g)] [(fC cs p2 u2)] []), (12, .back [.dat (I z12)] [(fC cs p3 u3)] []), (300006, .loop (hd68 cs [] n p4 u4 0) (.exit 0) (Nm [0, 3] [.ptr (.up 0) 0, .own 72 out] [none, none] [(fC cs p5 u5)] [])), (42, .back [.dat (B g42)] [(fC cs p6 u6)] []), (44, .ok), (200010, .yes), (200042, .no)] (ob hz1 (ob rF (ob hz2 (ob rF (ob d5 (ob hz3 (ob rF (ob hz4 (ob hz5 (ob hz6 (ob rF (ob d12 ob0)))))))))))) (by kernel_rfl)
 · rcases Bool.eq_false_or_eq_true (g42) with d10 | d10
   · obtain ⟨hz1, hz2, hz3, hz4, hz5, hz6, oz⟩ := q3 d5 d10
     subst oz; exact zaa [(8, .back [.dat (I z)] [(fC cs p1 u1)] []), (10, .back [.dat (B g)] [(fC cs p2 u2)] []), (12, .back [.dat (I z12)] [(fC cs p3 u3)] []), (300006, .loop (hd68 cs [] n p4 u4 0) (.exit 0) (Nm [0, 3] [.ptr (.up 0) 0, .own 72 out] [none, none] [(fC cs p5 u5)] [])), (42, .back [.dat (B g42)] [(fC cs p6 u6)] []), (44, .ok), (200010, .no), (200042, .yes)] (ob hz1 (ob rF (ob hz2 (ob rF (ob d5 (ob hz3 (ob hz4 (ob hz5 (ob rF (ob d10 (ob hz6 ob0))))))))))) (by kernel_rfl)
   · obtain ⟨hz1, hz2, hz3, hz4, hz5, oz⟩ := q4 d5 d10
     subst oz; exact zaa [(8, .back [.dat (I z)] [(fC cs p1 u1)] []), (10, .back [.dat (B g)] [(fC cs p2 u2)] []), (12, .back [.dat (I z12)] [(fC cs p3 u3)] []), (300006, .loop (hd68 cs [] n p4 u4 0) (.exit 0) (Nm [0, 3] [.ptr (.up 0) 0, .own 72 out] [none, none] [(fC cs p5 u5)] [])), (42, .back [.dat (B g42)] [(fC cs p6 u6)] []), (44, .ok), (200010, .no), (200042, .no)] (ob hz1 (ob rF (ob hz2 (ob rF (ob d5 (ob hz3 (ob hz4 (ob hz5 (ob rF (ob d10 ob0)))))))))) (by kernel_rfl)
end Go.Den
