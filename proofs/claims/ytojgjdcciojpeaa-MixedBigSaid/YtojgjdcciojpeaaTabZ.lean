/-
  A part of the walks of this seat: each theorem says what a function of the program gives. No condition beyond its own premises.
-/
import Derived.Test.YtojgjdcciojpeaaPure24
import Derived.Test.YtojgjdcciojpeaaChecked
import Derived.KernelRfl
namespace Go.Proofs.Ytojgjdcciojpeaa
open Go Go.PS
set_option maxRecDepth 100000
def tab : List (Nat × TI) := [
  (1, ⟨1, 8, .func, .nilFunc, false⟩),
  (2, ⟨1, 8, .int .i64, .int .i64 0, false⟩),
  (3, ⟨1, 8, .int .i64, .int .i64 0, false⟩),
  (4, ⟨1, 1, .bool, .bool false, false⟩),
  (5, ⟨1, 1, .int .u8, .int .u8 0, false⟩),
  (9, ⟨1, 16, .str, .string ⟨#[]⟩, false⟩),
  (12, ⟨1, 8, .int .u64, .int .u64 0, false⟩),
  (20, ⟨1, 16, .iface, .nilIface, false⟩),
  (21, ⟨1, 4, .int .i32, .int .i32 0, false⟩),
  (22, ⟨1, 24, .slice 5, .slice none 0 0, false⟩),
  (23, ⟨1, 24, .slice 53, .slice none 0 0, false⟩),
  (24, ⟨1, 8, .func, .nilFunc, false⟩),
  (25, ⟨1, 24, .slice 55, .slice none 0 0, false⟩),
  (26, ⟨1, 24, .slice 57, .slice none 0 0, false⟩),
  (27, ⟨1, 24, .slice 49, .slice none 0 0, false⟩),
  (28, ⟨3, 72, .struct [(0, 25), (1, 26), (2, 27)], .agg #[.slice none 0 0, .slice none 0 0, .slice none 0 0], true⟩),
  (29, ⟨3, 72, .struct [(0, 25), (1, 26), (2, 27)], .agg #[.slice none 0 0, .slice none 0 0, .slice none 0 0], true⟩),
  (30, ⟨1, 8, .func, .nilFunc, false⟩),
  (31, ⟨1, 8, .func, .nilFunc, false⟩),
  (32, ⟨1, 24, .slice 35, .slice none 0 0, false⟩),
  (33, ⟨1, 24, .slice 51, .slice none 0 0, false⟩),
  (34, ⟨6, 80, .struct [(0, 3), (1, 9), (2, 33), (3, 9), (4, 3), (5, 3)], .agg #[.int .i64 0, .string ⟨#[]⟩, .slice none 0 0, .string ⟨#[]⟩, .int .i64 0, .int .i64 0], true⟩),
  (35, ⟨6, 80, .struct [(0, 3), (1, 9), (2, 33), (3, 9), (4, 3), (5, 3)], .agg #[.int .i64 0, .string ⟨#[]⟩, .slice none 0 0, .string ⟨#[]⟩, .int .i64 0, .int .i64 0], true⟩),
  (36, ⟨1, 24, .slice 63, .slice none 0 0, false⟩),
  (37, ⟨1, 8, .int .i64, .int .i64 0, false⟩),
  (38, ⟨3, 40, .struct [(0, 36), (1, 3), (2, 37)], .agg #[.slice none 0 0, .int .i64 0, .int .i64 0], true⟩),
  (39, ⟨3, 40, .struct [(0, 36), (1, 3), (2, 37)], .agg #[.slice none 0 0, .int .i64 0, .int .i64 0], true⟩),
  (40, ⟨1, 8, .func, .nilFunc, false⟩),
  (41, ⟨1, 8, .func, .nilFunc, false⟩),
  (42, ⟨1, 8, .func, .nilFunc, false⟩),
  (44, ⟨1, 8, .func, .nilFunc, false⟩),
  (45, ⟨1, 8, .func, .nilFunc, false⟩),
  (46, ⟨1, 8, .func, .nilFunc, false⟩),
  (47, ⟨1, 8, .func, .nilFunc, false⟩),
  (48, ⟨2, 24, .struct [(0, 9), (1, 5)], .agg #[.string ⟨#[]⟩, .int .u8 0], true⟩),
  (49, ⟨2, 24, .struct [(0, 9), (1, 5)], .agg #[.string ⟨#[]⟩, .int .u8 0], true⟩),
  (50, ⟨2, 16, .struct [(0, 3), (1, 3)], .agg #[.int .i64 0, .int .i64 0], true⟩),
  (51, ⟨2, 16, .struct [(0, 3), (1, 3)], .agg #[.int .i64 0, .int .i64 0], true⟩),
  (52, ⟨1, 8, .func, .nilFunc, false⟩),
  (53, ⟨2, 2, .array 2 5, .agg #[.int .u8 0, .int .u8 0], false⟩),
  (54, ⟨5, 40, .struct [(0, 5), (1, 3), (2, 3), (3, 3), (4, 3)], .agg #[.int .u8 0, .int .i64 0, .int .i64 0, .int .i64 0, .int .i64 0], true⟩),
  (55, ⟨5, 40, .struct [(0, 5), (1, 3), (2, 3), (3, 3), (4, 3)], .agg #[.int .u8 0, .int .i64 0, .int .i64 0, .int .i64 0, .int .i64 0], true⟩),
  (56, ⟨2, 32, .struct [(0, 5), (1, 33)], .agg #[.int .u8 0, .slice none 0 0], true⟩),
  (57, ⟨2, 32, .struct [(0, 5), (1, 33)], .agg #[.int .u8 0, .slice none 0 0], true⟩),
  (58, ⟨1, 24, .slice 96, .slice none 0 0, false⟩),
  (60, ⟨1, 8, .func, .nilFunc, false⟩),
  (61, ⟨1, 8, .func, .nilFunc, false⟩),
  (62, ⟨1, 24, .slice 65, .slice none 0 0, false⟩),
  (63, ⟨1, 24, .slice 65, .slice none 0 0, false⟩),
  (64, ⟨2, 16, .struct [(0, 5), (1, 3)], .agg #[.int .u8 0, .int .i64 0], true⟩),
  (65, ⟨2, 16, .struct [(0, 5), (1, 3)], .agg #[.int .u8 0, .int .i64 0], true⟩),
  (66, ⟨1, 8, .func, .nilFunc, false⟩),
  (67, ⟨1, 8, .func, .nilFunc, false⟩),
  (68, ⟨13, 104, .array 13 67, .agg #[.nilFunc, .nilFunc, .nilFunc, .nilFunc, .nilFunc, .nilFunc, .nilFunc, .nilFunc, .nilFunc, .nilFunc, .nilFunc, .nilFunc, .nilFunc], false⟩),
  (69, ⟨1, 8, .func, .nilFunc, false⟩),
  (71, ⟨1, 8, .func, .nilFunc, false⟩),
  (72, ⟨1, 8, .func, .nilFunc, false⟩),
  (73, ⟨1, 8, .func, .nilFunc, false⟩),
  (74, ⟨1, 8, .func, .nilFunc, false⟩),
  (76, ⟨1, 8, .func, .nilFunc, false⟩),
  (77, ⟨1, 8, .func, .nilFunc, false⟩),
  (78, ⟨1, 8, .func, .nilFunc, false⟩),
  (79, ⟨1, 8, .func, .nilFunc, false⟩),
  (80, ⟨1, 8, .func, .nilFunc, false⟩),
  (81, ⟨1, 8, .func, .nilFunc, false⟩),
  (82, ⟨1, 8, .func, .nilFunc, false⟩),
  (83, ⟨1, 8, .func, .nilFunc, false⟩),
  (84, ⟨1, 8, .func, .nilFunc, false⟩),
  (85, ⟨1, 8, .map 5 3, .map none, false⟩),
  (86, ⟨1, 8, .func, .nilFunc, false⟩),
  (87, ⟨1, 8, .func, .nilFunc, false⟩),
  (88, ⟨1, 8, .func, .nilFunc, false⟩),
  (89, ⟨1, 8, .func, .nilFunc, false⟩),
  (90, ⟨1, 8, .func, .nilFunc, false⟩),
  (91, ⟨1, 8, .func, .nilFunc, false⟩),
  (92, ⟨1, 8, .func, .nilFunc, false⟩),
  (93, ⟨1, 24, .slice 3, .slice none 0 0, false⟩),
  (94, ⟨1, 8, .func, .nilFunc, false⟩),
  (95, ⟨4, 32, .struct [(0, 5), (1, 3), (2, 3), (3, 3)], .agg #[.int .u8 0, .int .i64 0, .int .i64 0, .int .i64 0], true⟩),
  (96, ⟨4, 32, .struct [(0, 5), (1, 3), (2, 3), (3, 3)], .agg #[.int .u8 0, .int .i64 0, .int .i64 0, .int .i64 0], true⟩),
  (97, ⟨1, 8, .func, .nilFunc, false⟩),
  (98, ⟨1, 8, .func, .nilFunc, false⟩),
  (99, ⟨1, 24, .slice 82, .slice none 0 0, false⟩),
  (100, ⟨1, 8, .func, .nilFunc, false⟩),
  (101, ⟨1, 8, .func, .nilFunc, false⟩),
  (102, ⟨1, 8, .func, .nilFunc, false⟩),
  (103, ⟨1, 8, .func, .nilFunc, false⟩),
  (104, ⟨1, 8, .func, .nilFunc, false⟩),
  (105, ⟨1, 8, .func, .nilFunc, false⟩),
  (106, ⟨1, 8, .int .u64, .int .u64 0, false⟩),
  (107, ⟨1, 8, .func, .nilFunc, false⟩),
  (108, ⟨1, 8, .func, .nilFunc, false⟩),
  (109, ⟨1, 8, .func, .nilFunc, false⟩),
  (110, ⟨1, 8, .int .i64, .int .i64 0, false⟩),
  (112, ⟨1, 8, .func, .nilFunc, false⟩),
  (113, ⟨1, 8, .func, .nilFunc, false⟩),
  (114, ⟨1, 8, .func, .nilFunc, false⟩),
  (115, ⟨1, 8, .func, .nilFunc, false⟩),
  (116, ⟨1, 8, .func, .nilFunc, false⟩),
  (117, ⟨1, 4, .int .u32, .int .u32 0, false⟩),
  (118, ⟨1, 8, .func, .nilFunc, false⟩),
  (119, ⟨1, 8, .int .u64, .int .u64 0, false⟩),
  (120, ⟨1, 8, .func, .nilFunc, false⟩),
  (121, ⟨1, 8, .func, .nilFunc, false⟩),
  (122, ⟨1, 8, .func, .nilFunc, false⟩),
  (123, ⟨1, 8, .func, .nilFunc, false⟩),
  (124, ⟨1, 8, .func, .nilFunc, false⟩),
  (125, ⟨1, 8, .func, .nilFunc, false⟩),
  (126, ⟨1, 8, .int .u64, .int .u64 0, false⟩),
  (127, ⟨1, 8, .func, .nilFunc, false⟩),
  (128, ⟨1, 8, .func, .nilFunc, false⟩),
  (129, ⟨1, 8, .func, .nilFunc, false⟩),
  (130, ⟨1, 8, .ptr 3, .pointer none, false⟩),
  (131, ⟨1, 8, .func, .nilFunc, false⟩),
  (132, ⟨1, 8, .func, .nilFunc, false⟩),
  (133, ⟨1, 8, .func, .nilFunc, false⟩),
  (134, ⟨1, 8, .ptr 126, .pointer none, false⟩),
  (136, ⟨1, 8, .func, .nilFunc, false⟩),
  (137, ⟨1, 8, .func, .nilFunc, false⟩),
  (138, ⟨1, 8, .func, .nilFunc, false⟩),
  (144, ⟨1, 8, .func, .nilFunc, false⟩),
  (148, ⟨1, 8, .ptr 5, .pointer none, false⟩)]
def T (t : Nat) : Option TI := lk none (tab.map fun x => (x.1, some x.2)) t
theorem tab_eq : tab.map (fun x => tabOf Try.prog x.1) = tab.map (fun x => some x.2) := by kernel_rfl
@[go_sem] theorem T1 : T 1 = some ⟨1, 8, .func, .nilFunc, false⟩ := rfl
@[go_sem] theorem T2 : T 2 = some ⟨1, 8, .int .i64, .int .i64 0, false⟩ := rfl
@[go_sem] theorem T3 : T 3 = some ⟨1, 8, .int .i64, .int .i64 0, false⟩ := rfl
@[go_sem] theorem T4 : T 4 = some ⟨1, 1, .bool, .bool false, false⟩ := rfl
@[go_sem] theorem T5 : T 5 = some ⟨1, 1, .int .u8, .int .u8 0, false⟩ := rfl
@[go_sem] theorem T9 : T 9 = some ⟨1, 16, .str, .string ⟨#[]⟩, false⟩ := rfl
@[go_sem] theorem T12 : T 12 = some ⟨1, 8, .int .u64, .int .u64 0, false⟩ := rfl
@[go_sem] theorem T20 : T 20 = some ⟨1, 16, .iface, .nilIface, false⟩ := rfl
@[go_sem] theorem T21 : T 21 = some ⟨1, 4, .int .i32, .int .i32 0, false⟩ := rfl
@[go_sem] theorem T22 : T 22 = some ⟨1, 24, .slice 5, .slice none 0 0, false⟩ := rfl
@[go_sem] theorem T23 : T 23 = some ⟨1, 24, .slice 53, .slice none 0 0, false⟩ := rfl
@[go_sem] theorem T24 : T 24 = some ⟨1, 8, .func, .nilFunc, false⟩ := rfl
@[go_sem] theorem T25 : T 25 = some ⟨1, 24, .slice 55, .slice none 0 0, false⟩ := rfl
@[go_sem] theorem T26 : T 26 = some ⟨1, 24, .slice 57, .slice none 0 0, false⟩ := rfl
@[go_sem] theorem T27 : T 27 = some ⟨1, 24, .slice 49, .slice none 0 0, false⟩ := rfl
@[go_sem] theorem T28 : T 28 = some ⟨3, 72, .struct [(0, 25), (1, 26), (2, 27)], .agg #[.slice none 0 0, .slice none 0 0, .slice none 0 0], true⟩ := rfl
@[go_sem] theorem T29 : T 29 = some ⟨3, 72, .struct [(0, 25), (1, 26), (2, 27)], .agg #[.slice none 0 0, .slice none 0 0, .slice none 0 0], true⟩ := rfl
@[go_sem] theorem T30 : T 30 = some ⟨1, 8, .func, .nilFunc, false⟩ := rfl
@[go_sem] theorem T31 : T 31 = some ⟨1, 8, .func, .nilFunc, false⟩ := rfl
@[go_sem] theorem T32 : T 32 = some ⟨1, 24, .slice 35, .slice none 0 0, false⟩ := rfl
@[go_sem] theorem T33 : T 33 = some ⟨1, 24, .slice 51, .slice none 0 0, false⟩ := rfl
@[go_sem] theorem T34 : T 34 = some ⟨6, 80, .struct [(0, 3), (1, 9), (2, 33), (3, 9), (4, 3), (5, 3)], .agg #[.int .i64 0, .string ⟨#[]⟩, .slice none 0 0, .string ⟨#[]⟩, .int .i64 0, .int .i64 0], true⟩ := rfl
@[go_sem] theorem T35 : T 35 = some ⟨6, 80, .struct [(0, 3), (1, 9), (2, 33), (3, 9), (4, 3), (5, 3)], .agg #[.int .i64 0, .string ⟨#[]⟩, .slice none 0 0, .string ⟨#[]⟩, .int .i64 0, .int .i64 0], true⟩ := rfl
@[go_sem] theorem T36 : T 36 = some ⟨1, 24, .slice 63, .slice none 0 0, false⟩ := rfl
@[go_sem] theorem T37 : T 37 = some ⟨1, 8, .int .i64, .int .i64 0, false⟩ := rfl
@[go_sem] theorem T38 : T 38 = some ⟨3, 40, .struct [(0, 36), (1, 3), (2, 37)], .agg #[.slice none 0 0, .int .i64 0, .int .i64 0], true⟩ := rfl
@[go_sem] theorem T39 : T 39 = some ⟨3, 40, .struct [(0, 36), (1, 3), (2, 37)], .agg #[.slice none 0 0, .int .i64 0, .int .i64 0], true⟩ := rfl
@[go_sem] theorem T40 : T 40 = some ⟨1, 8, .func, .nilFunc, false⟩ := rfl
@[go_sem] theorem T41 : T 41 = some ⟨1, 8, .func, .nilFunc, false⟩ := rfl
@[go_sem] theorem T42 : T 42 = some ⟨1, 8, .func, .nilFunc, false⟩ := rfl
@[go_sem] theorem T44 : T 44 = some ⟨1, 8, .func, .nilFunc, false⟩ := rfl
@[go_sem] theorem T45 : T 45 = some ⟨1, 8, .func, .nilFunc, false⟩ := rfl
@[go_sem] theorem T46 : T 46 = some ⟨1, 8, .func, .nilFunc, false⟩ := rfl
@[go_sem] theorem T47 : T 47 = some ⟨1, 8, .func, .nilFunc, false⟩ := rfl
@[go_sem] theorem T48 : T 48 = some ⟨2, 24, .struct [(0, 9), (1, 5)], .agg #[.string ⟨#[]⟩, .int .u8 0], true⟩ := rfl
@[go_sem] theorem T49 : T 49 = some ⟨2, 24, .struct [(0, 9), (1, 5)], .agg #[.string ⟨#[]⟩, .int .u8 0], true⟩ := rfl
@[go_sem] theorem T50 : T 50 = some ⟨2, 16, .struct [(0, 3), (1, 3)], .agg #[.int .i64 0, .int .i64 0], true⟩ := rfl
@[go_sem] theorem T51 : T 51 = some ⟨2, 16, .struct [(0, 3), (1, 3)], .agg #[.int .i64 0, .int .i64 0], true⟩ := rfl
@[go_sem] theorem T52 : T 52 = some ⟨1, 8, .func, .nilFunc, false⟩ := rfl
@[go_sem] theorem T53 : T 53 = some ⟨2, 2, .array 2 5, .agg #[.int .u8 0, .int .u8 0], false⟩ := rfl
@[go_sem] theorem T54 : T 54 = some ⟨5, 40, .struct [(0, 5), (1, 3), (2, 3), (3, 3), (4, 3)], .agg #[.int .u8 0, .int .i64 0, .int .i64 0, .int .i64 0, .int .i64 0], true⟩ := rfl
@[go_sem] theorem T55 : T 55 = some ⟨5, 40, .struct [(0, 5), (1, 3), (2, 3), (3, 3), (4, 3)], .agg #[.int .u8 0, .int .i64 0, .int .i64 0, .int .i64 0, .int .i64 0], true⟩ := rfl
@[go_sem] theorem T56 : T 56 = some ⟨2, 32, .struct [(0, 5), (1, 33)], .agg #[.int .u8 0, .slice none 0 0], true⟩ := rfl
@[go_sem] theorem T57 : T 57 = some ⟨2, 32, .struct [(0, 5), (1, 33)], .agg #[.int .u8 0, .slice none 0 0], true⟩ := rfl
@[go_sem] theorem T58 : T 58 = some ⟨1, 24, .slice 96, .slice none 0 0, false⟩ := rfl
@[go_sem] theorem T60 : T 60 = some ⟨1, 8, .func, .nilFunc, false⟩ := rfl
@[go_sem] theorem T61 : T 61 = some ⟨1, 8, .func, .nilFunc, false⟩ := rfl
@[go_sem] theorem T62 : T 62 = some ⟨1, 24, .slice 65, .slice none 0 0, false⟩ := rfl
@[go_sem] theorem T63 : T 63 = some ⟨1, 24, .slice 65, .slice none 0 0, false⟩ := rfl
@[go_sem] theorem T64 : T 64 = some ⟨2, 16, .struct [(0, 5), (1, 3)], .agg #[.int .u8 0, .int .i64 0], true⟩ := rfl
@[go_sem] theorem T65 : T 65 = some ⟨2, 16, .struct [(0, 5), (1, 3)], .agg #[.int .u8 0, .int .i64 0], true⟩ := rfl
@[go_sem] theorem T66 : T 66 = some ⟨1, 8, .func, .nilFunc, false⟩ := rfl
@[go_sem] theorem T67 : T 67 = some ⟨1, 8, .func, .nilFunc, false⟩ := rfl
@[go_sem] theorem T68 : T 68 = some ⟨13, 104, .array 13 67, .agg #[.nilFunc, .nilFunc, .nilFunc, .nilFunc, .nilFunc, .nilFunc, .nilFunc, .nilFunc, .nilFunc, .nilFunc, .nilFunc, .nilFunc, .nilFunc], false⟩ := rfl
@[go_sem] theorem T69 : T 69 = some ⟨1, 8, .func, .nilFunc, false⟩ := rfl
@[go_sem] theorem T71 : T 71 = some ⟨1, 8, .func, .nilFunc, false⟩ := rfl
@[go_sem] theorem T72 : T 72 = some ⟨1, 8, .func, .nilFunc, false⟩ := rfl
@[go_sem] theorem T73 : T 73 = some ⟨1, 8, .func, .nilFunc, false⟩ := rfl
@[go_sem] theorem T74 : T 74 = some ⟨1, 8, .func, .nilFunc, false⟩ := rfl
@[go_sem] theorem T76 : T 76 = some ⟨1, 8, .func, .nilFunc, false⟩ := rfl
@[go_sem] theorem T77 : T 77 = some ⟨1, 8, .func, .nilFunc, false⟩ := rfl
@[go_sem] theorem T78 : T 78 = some ⟨1, 8, .func, .nilFunc, false⟩ := rfl
@[go_sem] theorem T79 : T 79 = some ⟨1, 8, .func, .nilFunc, false⟩ := rfl
@[go_sem] theorem T80 : T 80 = some ⟨1, 8, .func, .nilFunc, false⟩ := rfl
@[go_sem] theorem T81 : T 81 = some ⟨1, 8, .func, .nilFunc, false⟩ := rfl
@[go_sem] theorem T82 : T 82 = some ⟨1, 8, .func, .nilFunc, false⟩ := rfl
@[go_sem] theorem T83 : T 83 = some ⟨1, 8, .func, .nilFunc, false⟩ := rfl
@[go_sem] theorem T84 : T 84 = some ⟨1, 8, .func, .nilFunc, false⟩ := rfl
@[go_sem] theorem T85 : T 85 = some ⟨1, 8, .map 5 3, .map none, false⟩ := rfl
@[go_sem] theorem T86 : T 86 = some ⟨1, 8, .func, .nilFunc, false⟩ := rfl
@[go_sem] theorem T87 : T 87 = some ⟨1, 8, .func, .nilFunc, false⟩ := rfl
@[go_sem] theorem T88 : T 88 = some ⟨1, 8, .func, .nilFunc, false⟩ := rfl
@[go_sem] theorem T89 : T 89 = some ⟨1, 8, .func, .nilFunc, false⟩ := rfl
@[go_sem] theorem T90 : T 90 = some ⟨1, 8, .func, .nilFunc, false⟩ := rfl
@[go_sem] theorem T91 : T 91 = some ⟨1, 8, .func, .nilFunc, false⟩ := rfl
@[go_sem] theorem T92 : T 92 = some ⟨1, 8, .func, .nilFunc, false⟩ := rfl
@[go_sem] theorem T93 : T 93 = some ⟨1, 24, .slice 3, .slice none 0 0, false⟩ := rfl
@[go_sem] theorem T94 : T 94 = some ⟨1, 8, .func, .nilFunc, false⟩ := rfl
@[go_sem] theorem T95 : T 95 = some ⟨4, 32, .struct [(0, 5), (1, 3), (2, 3), (3, 3)], .agg #[.int .u8 0, .int .i64 0, .int .i64 0, .int .i64 0], true⟩ := rfl
@[go_sem] theorem T96 : T 96 = some ⟨4, 32, .struct [(0, 5), (1, 3), (2, 3), (3, 3)], .agg #[.int .u8 0, .int .i64 0, .int .i64 0, .int .i64 0], true⟩ := rfl
@[go_sem] theorem T97 : T 97 = some ⟨1, 8, .func, .nilFunc, false⟩ := rfl
@[go_sem] theorem T98 : T 98 = some ⟨1, 8, .func, .nilFunc, false⟩ := rfl
@[go_sem] theorem T99 : T 99 = some ⟨1, 24, .slice 82, .slice none 0 0, false⟩ := rfl
@[go_sem] theorem T100 : T 100 = some ⟨1, 8, .func, .nilFunc, false⟩ := rfl
@[go_sem] theorem T101 : T 101 = some ⟨1, 8, .func, .nilFunc, false⟩ := rfl
@[go_sem] theorem T102 : T 102 = some ⟨1, 8, .func, .nilFunc, false⟩ := rfl
@[go_sem] theorem T103 : T 103 = some ⟨1, 8, .func, .nilFunc, false⟩ := rfl
@[go_sem] theorem T104 : T 104 = some ⟨1, 8, .func, .nilFunc, false⟩ := rfl
@[go_sem] theorem T105 : T 105 = some ⟨1, 8, .func, .nilFunc, false⟩ := rfl
@[go_sem] theorem T106 : T 106 = some ⟨1, 8, .int .u64, .int .u64 0, false⟩ := rfl
@[go_sem] theorem T107 : T 107 = some ⟨1, 8, .func, .nilFunc, false⟩ := rfl
@[go_sem] theorem T108 : T 108 = some ⟨1, 8, .func, .nilFunc, false⟩ := rfl
@[go_sem] theorem T109 : T 109 = some ⟨1, 8, .func, .nilFunc, false⟩ := rfl
@[go_sem] theorem T110 : T 110 = some ⟨1, 8, .int .i64, .int .i64 0, false⟩ := rfl
@[go_sem] theorem T112 : T 112 = some ⟨1, 8, .func, .nilFunc, false⟩ := rfl
@[go_sem] theorem T113 : T 113 = some ⟨1, 8, .func, .nilFunc, false⟩ := rfl
@[go_sem] theorem T114 : T 114 = some ⟨1, 8, .func, .nilFunc, false⟩ := rfl
@[go_sem] theorem T115 : T 115 = some ⟨1, 8, .func, .nilFunc, false⟩ := rfl
@[go_sem] theorem T116 : T 116 = some ⟨1, 8, .func, .nilFunc, false⟩ := rfl
@[go_sem] theorem T117 : T 117 = some ⟨1, 4, .int .u32, .int .u32 0, false⟩ := rfl
@[go_sem] theorem T118 : T 118 = some ⟨1, 8, .func, .nilFunc, false⟩ := rfl
@[go_sem] theorem T119 : T 119 = some ⟨1, 8, .int .u64, .int .u64 0, false⟩ := rfl
@[go_sem] theorem T120 : T 120 = some ⟨1, 8, .func, .nilFunc, false⟩ := rfl
@[go_sem] theorem T121 : T 121 = some ⟨1, 8, .func, .nilFunc, false⟩ := rfl
@[go_sem] theorem T122 : T 122 = some ⟨1, 8, .func, .nilFunc, false⟩ := rfl
@[go_sem] theorem T123 : T 123 = some ⟨1, 8, .func, .nilFunc, false⟩ := rfl
@[go_sem] theorem T124 : T 124 = some ⟨1, 8, .func, .nilFunc, false⟩ := rfl
@[go_sem] theorem T125 : T 125 = some ⟨1, 8, .func, .nilFunc, false⟩ := rfl
@[go_sem] theorem T126 : T 126 = some ⟨1, 8, .int .u64, .int .u64 0, false⟩ := rfl
@[go_sem] theorem T127 : T 127 = some ⟨1, 8, .func, .nilFunc, false⟩ := rfl
@[go_sem] theorem T128 : T 128 = some ⟨1, 8, .func, .nilFunc, false⟩ := rfl
@[go_sem] theorem T129 : T 129 = some ⟨1, 8, .func, .nilFunc, false⟩ := rfl
@[go_sem] theorem T130 : T 130 = some ⟨1, 8, .ptr 3, .pointer none, false⟩ := rfl
@[go_sem] theorem T131 : T 131 = some ⟨1, 8, .func, .nilFunc, false⟩ := rfl
@[go_sem] theorem T132 : T 132 = some ⟨1, 8, .func, .nilFunc, false⟩ := rfl
@[go_sem] theorem T133 : T 133 = some ⟨1, 8, .func, .nilFunc, false⟩ := rfl
@[go_sem] theorem T134 : T 134 = some ⟨1, 8, .ptr 126, .pointer none, false⟩ := rfl
@[go_sem] theorem T136 : T 136 = some ⟨1, 8, .func, .nilFunc, false⟩ := rfl
@[go_sem] theorem T137 : T 137 = some ⟨1, 8, .func, .nilFunc, false⟩ := rfl
@[go_sem] theorem T138 : T 138 = some ⟨1, 8, .func, .nilFunc, false⟩ := rfl
@[go_sem] theorem T144 : T 144 = some ⟨1, 8, .func, .nilFunc, false⟩ := rfl
@[go_sem] theorem T148 : T 148 = some ⟨1, 8, .ptr 5, .pointer none, false⟩ := rfl
theorem tabOk : TabOk Try.prog T := by
  intro t ti hT
  have key : ∀ l : List (Nat × TI), lk none (l.map fun x => (x.1, some x.2)) t = some ti → (t, ti) ∈ l := by
    intro l
    induction l with
    | nil => intro h; cases h
    | cons x l ih =>
      intro h
      simp only [List.map_cons, lk] at h
      split at h
      · rename_i e; cases h; subst e; exact List.mem_cons_self
      · exact List.mem_cons_of_mem _ (ih h)
  exact List.map_inj_left.1 tab_eq _ (key tab hT)
end Go.Proofs.Ytojgjdcciojpeaa
