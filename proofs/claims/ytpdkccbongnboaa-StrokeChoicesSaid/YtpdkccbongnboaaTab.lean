/-
  A part of the walks of this seat: each theorem says what a function of the program gives. No condition beyond its own premises.
-/
import Derived.Test.YtpdkccbongnboaaPure23
import Derived.Test.YtpdkccbongnboaaChecked
import Derived.KernelRfl
namespace Go.Proofs.Ytpdkccbongnboaa
open Go Go.PS
set_option maxRecDepth 100000
def tab : List (Nat × TI) := [
  (1, ⟨1, 8, .func, .nilFunc, false⟩),
  (2, ⟨1, 8, .int .i64, .int .i64 0, false⟩),
  (3, ⟨1, 8, .int .i64, .int .i64 0, false⟩),
  (4, ⟨1, 1, .bool, .bool false, false⟩),
  (5, ⟨1, 1, .int .u8, .int .u8 0, false⟩),
  (9, ⟨1, 16, .str, .string ⟨#[]⟩, false⟩),
  (12, ⟨1, 8, .int .u64, .int .u64 0, false⟩),
  (20, ⟨1, 16, .iface, .nilIface, false⟩),
  (21, ⟨1, 4, .int .i32, .int .i32 0, false⟩),
  (22, ⟨1, 24, .slice 59, .slice none 0 0, false⟩),
  (23, ⟨1, 24, .slice 48, .slice none 0 0, false⟩),
  (24, ⟨2, 48, .array 2 23, .agg #[.slice none 0 0, .slice none 0 0], false⟩),
  (25, ⟨1, 8, .func, .nilFunc, false⟩),
  (26, ⟨1, 24, .slice 46, .slice none 0 0, false⟩),
  (27, ⟨1, 8, .func, .nilFunc, false⟩),
  (28, ⟨1, 24, .slice 131, .slice none 0 0, false⟩),
  (29, ⟨1, 24, .slice 61, .slice none 0 0, false⟩),
  (30, ⟨1, 24, .slice 133, .slice none 0 0, false⟩),
  (31, ⟨3, 72, .struct [(0, 28), (1, 29), (2, 30)], .agg #[.slice none 0 0, .slice none 0 0, .slice none 0 0], true⟩),
  (32, ⟨3, 72, .struct [(0, 28), (1, 29), (2, 30)], .agg #[.slice none 0 0, .slice none 0 0, .slice none 0 0], true⟩),
  (33, ⟨1, 8, .func, .nilFunc, false⟩),
  (34, ⟨1, 24, .slice 55, .slice none 0 0, false⟩),
  (35, ⟨1, 24, .slice 55, .slice none 0 0, false⟩),
  (36, ⟨1, 8, .int .i64, .int .i64 0, false⟩),
  (38, ⟨1, 8, .func, .nilFunc, false⟩),
  (39, ⟨1, 8, .func, .nilFunc, false⟩),
  (40, ⟨1, 8, .func, .nilFunc, false⟩),
  (41, ⟨1, 8, .func, .nilFunc, false⟩),
  (42, ⟨1, 8, .func, .nilFunc, false⟩),
  (43, ⟨1, 8, .func, .nilFunc, false⟩),
  (44, ⟨1, 8, .func, .nilFunc, false⟩),
  (45, ⟨2, 16, .struct [(0, 3), (1, 3)], .agg #[.int .i64 0, .int .i64 0], true⟩),
  (46, ⟨2, 16, .struct [(0, 3), (1, 3)], .agg #[.int .i64 0, .int .i64 0], true⟩),
  (47, ⟨1, 8, .func, .nilFunc, false⟩),
  (48, ⟨2, 2, .array 2 5, .agg #[.int .u8 0, .int .u8 0], false⟩),
  (49, ⟨2, 48, .array 2 26, .agg #[.slice none 0 0, .slice none 0 0], false⟩),
  (50, ⟨1, 8, .func, .nilFunc, false⟩),
  (51, ⟨1, 8, .func, .nilFunc, false⟩),
  (52, ⟨1, 24, .slice 5, .slice none 0 0, false⟩),
  (53, ⟨1, 8, .func, .nilFunc, false⟩),
  (54, ⟨2, 16, .struct [(0, 5), (1, 3)], .agg #[.int .u8 0, .int .i64 0], true⟩),
  (55, ⟨2, 16, .struct [(0, 5), (1, 3)], .agg #[.int .u8 0, .int .i64 0], true⟩),
  (56, ⟨1, 8, .func, .nilFunc, false⟩),
  (57, ⟨1, 8, .func, .nilFunc, false⟩),
  (58, ⟨2, 32, .struct [(0, 5), (1, 23)], .agg #[.int .u8 0, .slice none 0 0], true⟩),
  (59, ⟨2, 32, .struct [(0, 5), (1, 23)], .agg #[.int .u8 0, .slice none 0 0], true⟩),
  (60, ⟨2, 32, .struct [(0, 5), (1, 26)], .agg #[.int .u8 0, .slice none 0 0], true⟩),
  (61, ⟨2, 32, .struct [(0, 5), (1, 26)], .agg #[.int .u8 0, .slice none 0 0], true⟩),
  (62, ⟨1, 8, .func, .nilFunc, false⟩),
  (63, ⟨1, 8, .map 5 3, .map none, false⟩),
  (64, ⟨1, 8, .func, .nilFunc, false⟩),
  (66, ⟨1, 8, .func, .nilFunc, false⟩),
  (67, ⟨1, 8, .func, .nilFunc, false⟩),
  (68, ⟨1, 8, .func, .nilFunc, false⟩),
  (69, ⟨1, 8, .func, .nilFunc, false⟩),
  (70, ⟨1, 8, .func, .nilFunc, false⟩),
  (71, ⟨1, 8, .func, .nilFunc, false⟩),
  (72, ⟨1, 8, .func, .nilFunc, false⟩),
  (73, ⟨1, 8, .func, .nilFunc, false⟩),
  (74, ⟨1, 24, .slice 3, .slice none 0 0, false⟩),
  (75, ⟨1, 8, .func, .nilFunc, false⟩),
  (76, ⟨1, 24, .slice 74, .slice none 0 0, false⟩),
  (77, ⟨1, 8, .func, .nilFunc, false⟩),
  (78, ⟨1, 8, .func, .nilFunc, false⟩),
  (79, ⟨1, 8, .func, .nilFunc, false⟩),
  (80, ⟨1, 8, .func, .nilFunc, false⟩),
  (81, ⟨1, 8, .func, .nilFunc, false⟩),
  (82, ⟨1, 8, .func, .nilFunc, false⟩),
  (83, ⟨1, 8, .int .u64, .int .u64 0, false⟩),
  (84, ⟨1, 8, .func, .nilFunc, false⟩),
  (85, ⟨1, 8, .func, .nilFunc, false⟩),
  (86, ⟨1, 8, .func, .nilFunc, false⟩),
  (87, ⟨1, 8, .int .i64, .int .i64 0, false⟩),
  (89, ⟨1, 8, .func, .nilFunc, false⟩),
  (90, ⟨1, 8, .func, .nilFunc, false⟩),
  (91, ⟨1, 8, .func, .nilFunc, false⟩),
  (92, ⟨1, 8, .func, .nilFunc, false⟩),
  (93, ⟨1, 8, .func, .nilFunc, false⟩),
  (94, ⟨1, 4, .int .u32, .int .u32 0, false⟩),
  (95, ⟨1, 8, .func, .nilFunc, false⟩),
  (96, ⟨1, 8, .int .u64, .int .u64 0, false⟩),
  (97, ⟨1, 8, .func, .nilFunc, false⟩),
  (98, ⟨1, 8, .func, .nilFunc, false⟩),
  (99, ⟨1, 8, .func, .nilFunc, false⟩),
  (100, ⟨1, 8, .func, .nilFunc, false⟩),
  (101, ⟨1, 8, .func, .nilFunc, false⟩),
  (102, ⟨1, 8, .func, .nilFunc, false⟩),
  (103, ⟨1, 8, .int .u64, .int .u64 0, false⟩),
  (104, ⟨1, 8, .func, .nilFunc, false⟩),
  (105, ⟨1, 8, .func, .nilFunc, false⟩),
  (106, ⟨1, 8, .func, .nilFunc, false⟩),
  (107, ⟨1, 8, .ptr 3, .pointer none, false⟩),
  (108, ⟨1, 8, .func, .nilFunc, false⟩),
  (109, ⟨1, 8, .func, .nilFunc, false⟩),
  (110, ⟨1, 8, .func, .nilFunc, false⟩),
  (111, ⟨1, 8, .ptr 103, .pointer none, false⟩),
  (113, ⟨1, 8, .func, .nilFunc, false⟩),
  (114, ⟨1, 8, .func, .nilFunc, false⟩),
  (115, ⟨1, 8, .func, .nilFunc, false⟩),
  (121, ⟨1, 8, .func, .nilFunc, false⟩),
  (125, ⟨1, 8, .ptr 5, .pointer none, false⟩),
  (130, ⟨5, 40, .struct [(0, 5), (1, 3), (2, 3), (3, 3), (4, 3)], .agg #[.int .u8 0, .int .i64 0, .int .i64 0, .int .i64 0, .int .i64 0], true⟩),
  (131, ⟨5, 40, .struct [(0, 5), (1, 3), (2, 3), (3, 3), (4, 3)], .agg #[.int .u8 0, .int .i64 0, .int .i64 0, .int .i64 0, .int .i64 0], true⟩),
  (132, ⟨2, 24, .struct [(0, 9), (1, 5)], .agg #[.string ⟨#[]⟩, .int .u8 0], true⟩),
  (133, ⟨2, 24, .struct [(0, 9), (1, 5)], .agg #[.string ⟨#[]⟩, .int .u8 0], true⟩)]
def T (t : Nat) : Option TI := lk none (tab.map fun x => (x.1, some x.2)) t
theorem tab_eq : tab.map (fun x => tabOf Try.prog x.1) = tab.map (fun x => some x.2) := by kernel_rfl
@[go_sem] theorem T1 : T 1 = some ⟨1, 8, .func, .nilFunc, false⟩ := rfl
@[go_sem] theorem T2 : T 2 = some ⟨1, 8, .int .i64, .int .i64 0, false⟩ := rfl
@[go_sem] theorem T3 : T 3 = some ⟨1, 8, .int .i64, .int .i64 0, false⟩ := rfl
@[go_sem] theorem T4 : T 4 = some ⟨1, 1, .bool, .bool false, false⟩ := rfl
@[go_sem] theorem T5 : T 5 = some ⟨1, 1, .int .u8, .int .u8 0, false⟩ := rfl
@[go_sem] theorem T9 : T 9 = some ⟨1, 16, .str, .string ⟨#[]⟩, false⟩ := rfl
@[go_sem] theorem T12 : T 12 = some ⟨1, 8, .int .u64, .int .u64 0, false⟩ := rfl
@[go_sem] theorem T20 : T 20 = some ⟨1, 16, .iface, .nilIface, false⟩ := rfl
@[go_sem] theorem T21 : T 21 = some ⟨1, 4, .int .i32, .int .i32 0, false⟩ := rfl
@[go_sem] theorem T22 : T 22 = some ⟨1, 24, .slice 59, .slice none 0 0, false⟩ := rfl
@[go_sem] theorem T23 : T 23 = some ⟨1, 24, .slice 48, .slice none 0 0, false⟩ := rfl
@[go_sem] theorem T24 : T 24 = some ⟨2, 48, .array 2 23, .agg #[.slice none 0 0, .slice none 0 0], false⟩ := rfl
@[go_sem] theorem T25 : T 25 = some ⟨1, 8, .func, .nilFunc, false⟩ := rfl
@[go_sem] theorem T26 : T 26 = some ⟨1, 24, .slice 46, .slice none 0 0, false⟩ := rfl
@[go_sem] theorem T27 : T 27 = some ⟨1, 8, .func, .nilFunc, false⟩ := rfl
@[go_sem] theorem T28 : T 28 = some ⟨1, 24, .slice 131, .slice none 0 0, false⟩ := rfl
@[go_sem] theorem T29 : T 29 = some ⟨1, 24, .slice 61, .slice none 0 0, false⟩ := rfl
@[go_sem] theorem T30 : T 30 = some ⟨1, 24, .slice 133, .slice none 0 0, false⟩ := rfl
@[go_sem] theorem T31 : T 31 = some ⟨3, 72, .struct [(0, 28), (1, 29), (2, 30)], .agg #[.slice none 0 0, .slice none 0 0, .slice none 0 0], true⟩ := rfl
@[go_sem] theorem T32 : T 32 = some ⟨3, 72, .struct [(0, 28), (1, 29), (2, 30)], .agg #[.slice none 0 0, .slice none 0 0, .slice none 0 0], true⟩ := rfl
@[go_sem] theorem T33 : T 33 = some ⟨1, 8, .func, .nilFunc, false⟩ := rfl
@[go_sem] theorem T34 : T 34 = some ⟨1, 24, .slice 55, .slice none 0 0, false⟩ := rfl
@[go_sem] theorem T35 : T 35 = some ⟨1, 24, .slice 55, .slice none 0 0, false⟩ := rfl
@[go_sem] theorem T36 : T 36 = some ⟨1, 8, .int .i64, .int .i64 0, false⟩ := rfl
@[go_sem] theorem T38 : T 38 = some ⟨1, 8, .func, .nilFunc, false⟩ := rfl
@[go_sem] theorem T39 : T 39 = some ⟨1, 8, .func, .nilFunc, false⟩ := rfl
@[go_sem] theorem T40 : T 40 = some ⟨1, 8, .func, .nilFunc, false⟩ := rfl
@[go_sem] theorem T41 : T 41 = some ⟨1, 8, .func, .nilFunc, false⟩ := rfl
@[go_sem] theorem T42 : T 42 = some ⟨1, 8, .func, .nilFunc, false⟩ := rfl
@[go_sem] theorem T43 : T 43 = some ⟨1, 8, .func, .nilFunc, false⟩ := rfl
@[go_sem] theorem T44 : T 44 = some ⟨1, 8, .func, .nilFunc, false⟩ := rfl
@[go_sem] theorem T45 : T 45 = some ⟨2, 16, .struct [(0, 3), (1, 3)], .agg #[.int .i64 0, .int .i64 0], true⟩ := rfl
@[go_sem] theorem T46 : T 46 = some ⟨2, 16, .struct [(0, 3), (1, 3)], .agg #[.int .i64 0, .int .i64 0], true⟩ := rfl
@[go_sem] theorem T47 : T 47 = some ⟨1, 8, .func, .nilFunc, false⟩ := rfl
@[go_sem] theorem T48 : T 48 = some ⟨2, 2, .array 2 5, .agg #[.int .u8 0, .int .u8 0], false⟩ := rfl
@[go_sem] theorem T49 : T 49 = some ⟨2, 48, .array 2 26, .agg #[.slice none 0 0, .slice none 0 0], false⟩ := rfl
@[go_sem] theorem T50 : T 50 = some ⟨1, 8, .func, .nilFunc, false⟩ := rfl
@[go_sem] theorem T51 : T 51 = some ⟨1, 8, .func, .nilFunc, false⟩ := rfl
@[go_sem] theorem T52 : T 52 = some ⟨1, 24, .slice 5, .slice none 0 0, false⟩ := rfl
@[go_sem] theorem T53 : T 53 = some ⟨1, 8, .func, .nilFunc, false⟩ := rfl
@[go_sem] theorem T54 : T 54 = some ⟨2, 16, .struct [(0, 5), (1, 3)], .agg #[.int .u8 0, .int .i64 0], true⟩ := rfl
@[go_sem] theorem T55 : T 55 = some ⟨2, 16, .struct [(0, 5), (1, 3)], .agg #[.int .u8 0, .int .i64 0], true⟩ := rfl
@[go_sem] theorem T56 : T 56 = some ⟨1, 8, .func, .nilFunc, false⟩ := rfl
@[go_sem] theorem T57 : T 57 = some ⟨1, 8, .func, .nilFunc, false⟩ := rfl
@[go_sem] theorem T58 : T 58 = some ⟨2, 32, .struct [(0, 5), (1, 23)], .agg #[.int .u8 0, .slice none 0 0], true⟩ := rfl
@[go_sem] theorem T59 : T 59 = some ⟨2, 32, .struct [(0, 5), (1, 23)], .agg #[.int .u8 0, .slice none 0 0], true⟩ := rfl
@[go_sem] theorem T60 : T 60 = some ⟨2, 32, .struct [(0, 5), (1, 26)], .agg #[.int .u8 0, .slice none 0 0], true⟩ := rfl
@[go_sem] theorem T61 : T 61 = some ⟨2, 32, .struct [(0, 5), (1, 26)], .agg #[.int .u8 0, .slice none 0 0], true⟩ := rfl
@[go_sem] theorem T62 : T 62 = some ⟨1, 8, .func, .nilFunc, false⟩ := rfl
@[go_sem] theorem T63 : T 63 = some ⟨1, 8, .map 5 3, .map none, false⟩ := rfl
@[go_sem] theorem T64 : T 64 = some ⟨1, 8, .func, .nilFunc, false⟩ := rfl
@[go_sem] theorem T66 : T 66 = some ⟨1, 8, .func, .nilFunc, false⟩ := rfl
@[go_sem] theorem T67 : T 67 = some ⟨1, 8, .func, .nilFunc, false⟩ := rfl
@[go_sem] theorem T68 : T 68 = some ⟨1, 8, .func, .nilFunc, false⟩ := rfl
@[go_sem] theorem T69 : T 69 = some ⟨1, 8, .func, .nilFunc, false⟩ := rfl
@[go_sem] theorem T70 : T 70 = some ⟨1, 8, .func, .nilFunc, false⟩ := rfl
@[go_sem] theorem T71 : T 71 = some ⟨1, 8, .func, .nilFunc, false⟩ := rfl
@[go_sem] theorem T72 : T 72 = some ⟨1, 8, .func, .nilFunc, false⟩ := rfl
@[go_sem] theorem T73 : T 73 = some ⟨1, 8, .func, .nilFunc, false⟩ := rfl
@[go_sem] theorem T74 : T 74 = some ⟨1, 24, .slice 3, .slice none 0 0, false⟩ := rfl
@[go_sem] theorem T75 : T 75 = some ⟨1, 8, .func, .nilFunc, false⟩ := rfl
@[go_sem] theorem T76 : T 76 = some ⟨1, 24, .slice 74, .slice none 0 0, false⟩ := rfl
@[go_sem] theorem T77 : T 77 = some ⟨1, 8, .func, .nilFunc, false⟩ := rfl
@[go_sem] theorem T78 : T 78 = some ⟨1, 8, .func, .nilFunc, false⟩ := rfl
@[go_sem] theorem T79 : T 79 = some ⟨1, 8, .func, .nilFunc, false⟩ := rfl
@[go_sem] theorem T80 : T 80 = some ⟨1, 8, .func, .nilFunc, false⟩ := rfl
@[go_sem] theorem T81 : T 81 = some ⟨1, 8, .func, .nilFunc, false⟩ := rfl
@[go_sem] theorem T82 : T 82 = some ⟨1, 8, .func, .nilFunc, false⟩ := rfl
@[go_sem] theorem T83 : T 83 = some ⟨1, 8, .int .u64, .int .u64 0, false⟩ := rfl
@[go_sem] theorem T84 : T 84 = some ⟨1, 8, .func, .nilFunc, false⟩ := rfl
@[go_sem] theorem T85 : T 85 = some ⟨1, 8, .func, .nilFunc, false⟩ := rfl
@[go_sem] theorem T86 : T 86 = some ⟨1, 8, .func, .nilFunc, false⟩ := rfl
@[go_sem] theorem T87 : T 87 = some ⟨1, 8, .int .i64, .int .i64 0, false⟩ := rfl
@[go_sem] theorem T89 : T 89 = some ⟨1, 8, .func, .nilFunc, false⟩ := rfl
@[go_sem] theorem T90 : T 90 = some ⟨1, 8, .func, .nilFunc, false⟩ := rfl
@[go_sem] theorem T91 : T 91 = some ⟨1, 8, .func, .nilFunc, false⟩ := rfl
@[go_sem] theorem T92 : T 92 = some ⟨1, 8, .func, .nilFunc, false⟩ := rfl
@[go_sem] theorem T93 : T 93 = some ⟨1, 8, .func, .nilFunc, false⟩ := rfl
@[go_sem] theorem T94 : T 94 = some ⟨1, 4, .int .u32, .int .u32 0, false⟩ := rfl
@[go_sem] theorem T95 : T 95 = some ⟨1, 8, .func, .nilFunc, false⟩ := rfl
@[go_sem] theorem T96 : T 96 = some ⟨1, 8, .int .u64, .int .u64 0, false⟩ := rfl
@[go_sem] theorem T97 : T 97 = some ⟨1, 8, .func, .nilFunc, false⟩ := rfl
@[go_sem] theorem T98 : T 98 = some ⟨1, 8, .func, .nilFunc, false⟩ := rfl
@[go_sem] theorem T99 : T 99 = some ⟨1, 8, .func, .nilFunc, false⟩ := rfl
@[go_sem] theorem T100 : T 100 = some ⟨1, 8, .func, .nilFunc, false⟩ := rfl
@[go_sem] theorem T101 : T 101 = some ⟨1, 8, .func, .nilFunc, false⟩ := rfl
@[go_sem] theorem T102 : T 102 = some ⟨1, 8, .func, .nilFunc, false⟩ := rfl
@[go_sem] theorem T103 : T 103 = some ⟨1, 8, .int .u64, .int .u64 0, false⟩ := rfl
@[go_sem] theorem T104 : T 104 = some ⟨1, 8, .func, .nilFunc, false⟩ := rfl
@[go_sem] theorem T105 : T 105 = some ⟨1, 8, .func, .nilFunc, false⟩ := rfl
@[go_sem] theorem T106 : T 106 = some ⟨1, 8, .func, .nilFunc, false⟩ := rfl
@[go_sem] theorem T107 : T 107 = some ⟨1, 8, .ptr 3, .pointer none, false⟩ := rfl
@[go_sem] theorem T108 : T 108 = some ⟨1, 8, .func, .nilFunc, false⟩ := rfl
@[go_sem] theorem T109 : T 109 = some ⟨1, 8, .func, .nilFunc, false⟩ := rfl
@[go_sem] theorem T110 : T 110 = some ⟨1, 8, .func, .nilFunc, false⟩ := rfl
@[go_sem] theorem T111 : T 111 = some ⟨1, 8, .ptr 103, .pointer none, false⟩ := rfl
@[go_sem] theorem T113 : T 113 = some ⟨1, 8, .func, .nilFunc, false⟩ := rfl
@[go_sem] theorem T114 : T 114 = some ⟨1, 8, .func, .nilFunc, false⟩ := rfl
@[go_sem] theorem T115 : T 115 = some ⟨1, 8, .func, .nilFunc, false⟩ := rfl
@[go_sem] theorem T121 : T 121 = some ⟨1, 8, .func, .nilFunc, false⟩ := rfl
@[go_sem] theorem T125 : T 125 = some ⟨1, 8, .ptr 5, .pointer none, false⟩ := rfl
@[go_sem] theorem T130 : T 130 = some ⟨5, 40, .struct [(0, 5), (1, 3), (2, 3), (3, 3), (4, 3)], .agg #[.int .u8 0, .int .i64 0, .int .i64 0, .int .i64 0, .int .i64 0], true⟩ := rfl
@[go_sem] theorem T131 : T 131 = some ⟨5, 40, .struct [(0, 5), (1, 3), (2, 3), (3, 3), (4, 3)], .agg #[.int .u8 0, .int .i64 0, .int .i64 0, .int .i64 0, .int .i64 0], true⟩ := rfl
@[go_sem] theorem T132 : T 132 = some ⟨2, 24, .struct [(0, 9), (1, 5)], .agg #[.string ⟨#[]⟩, .int .u8 0], true⟩ := rfl
@[go_sem] theorem T133 : T 133 = some ⟨2, 24, .struct [(0, 9), (1, 5)], .agg #[.string ⟨#[]⟩, .int .u8 0], true⟩ := rfl
theorem tabOk : TabOk Try.prog T := by
  intro t ti hT
  have key : ∀ l : List (Nat × TI), lk none (l.map fun x => (x.1, some x.2)) t = some ti → (t, ti) ∈ l := by
    intro l
    induction l with
    | nil => intro h; cases h
    | cons x l ih =>
      intro h
      simp only [List.map_cons, lk] at h
      split at h
      · rename_i e; cases h; subst e; exact List.mem_cons_self
      · exact List.mem_cons_of_mem _ (ih h)
  exact List.map_inj_left.1 tab_eq _ (key tab hT)
end Go.Proofs.Ytpdkccbongnboaa
