/-
  A part of the walks of this seat: each theorem says what a function of the program gives. No condition beyond its own premises.
-/
import Derived.Test.YtojgjdcciojpeaaGreatChecked
import Derived.KernelRfl
import Derived.Test.YtojgjdcciojpeaaGreatB8
namespace Go.Proofs.YtojgjdcciojpeaaGreat
open Go Go.PS
set_option maxRecDepth 100000
def tab : List (Nat × TI) := [
  (1, ⟨1, 8, .func, .nilFunc, false⟩),
  (2, ⟨1, 8, .int .i64, .int .i64 0, false⟩),
  (3, ⟨1, 8, .int .i64, .int .i64 0, false⟩),
  (4, ⟨1, 1, .bool, .bool false, false⟩),
  (5, ⟨1, 1, .int .u8, .int .u8 0, false⟩),
  (9, ⟨1, 16, .str, .string ⟨#[]⟩, false⟩),
  (12, ⟨1, 8, .int .u64, .int .u64 0, false⟩),
  (20, ⟨1, 16, .iface, .nilIface, false⟩),
  (21, ⟨1, 4, .int .i32, .int .i32 0, false⟩),
  (22, ⟨1, 24, .slice 119, .slice none 0 0, false⟩),
  (23, ⟨1, 24, .slice 43, .slice none 0 0, false⟩),
  (24, ⟨1, 24, .slice 70, .slice none 0 0, false⟩),
  (25, ⟨6, 80, .struct [(0, 3), (1, 9), (2, 24), (3, 9), (4, 3), (5, 3)], .agg #[.int .i64 0, .string ⟨#[]⟩, .slice none 0 0, .string ⟨#[]⟩, .int .i64 0, .int .i64 0], true⟩),
  (26, ⟨6, 80, .struct [(0, 3), (1, 9), (2, 24), (3, 9), (4, 3), (5, 3)], .agg #[.int .i64 0, .string ⟨#[]⟩, .slice none 0 0, .string ⟨#[]⟩, .int .i64 0, .int .i64 0], true⟩),
  (27, ⟨1, 8, .func, .nilFunc, false⟩),
  (28, ⟨1, 24, .slice 121, .slice none 0 0, false⟩),
  (29, ⟨1, 24, .slice 123, .slice none 0 0, false⟩),
  (30, ⟨1, 24, .slice 116, .slice none 0 0, false⟩),
  (31, ⟨3, 72, .struct [(0, 28), (1, 29), (2, 30)], .agg #[.slice none 0 0, .slice none 0 0, .slice none 0 0], true⟩),
  (32, ⟨3, 72, .struct [(0, 28), (1, 29), (2, 30)], .agg #[.slice none 0 0, .slice none 0 0, .slice none 0 0], true⟩),
  (33, ⟨1, 8, .func, .nilFunc, false⟩),
  (34, ⟨1, 24, .slice 125, .slice none 0 0, false⟩),
  (35, ⟨1, 8, .func, .nilFunc, false⟩),
  (36, ⟨1, 1, .int .i8, .int .i8 0, false⟩),
  (37, ⟨3, 3, .array 3 36, .agg #[.int .i8 0, .int .i8 0, .int .i8 0], false⟩),
  (38, ⟨1, 24, .slice 37, .slice none 0 0, false⟩),
  (39, ⟨1, 24, .slice 26, .slice none 0 0, false⟩),
  (40, ⟨1, 8, .func, .nilFunc, false⟩),
  (41, ⟨1, 24, .slice 5, .slice none 0 0, false⟩),
  (42, ⟨5, 64, .struct [(0, 5), (1, 41), (2, 22), (3, 5), (4, 5)], .agg #[.int .u8 0, .slice none 0 0, .slice none 0 0, .int .u8 0, .int .u8 0], true⟩),
  (43, ⟨5, 64, .struct [(0, 5), (1, 41), (2, 22), (3, 5), (4, 5)], .agg #[.int .u8 0, .slice none 0 0, .slice none 0 0, .int .u8 0, .int .u8 0], true⟩),
  (44, ⟨1, 24, .slice 64, .slice none 0 0, false⟩),
  (45, ⟨1, 8, .int .i64, .int .i64 0, false⟩),
  (47, ⟨1, 8, .func, .nilFunc, false⟩),
  (48, ⟨1, 8, .func, .nilFunc, false⟩),
  (49, ⟨3, 40, .struct [(0, 44), (1, 3), (2, 45)], .agg #[.slice none 0 0, .int .i64 0, .int .i64 0], true⟩),
  (50, ⟨3, 40, .struct [(0, 44), (1, 3), (2, 45)], .agg #[.slice none 0 0, .int .i64 0, .int .i64 0], true⟩),
  (51, ⟨1, 8, .func, .nilFunc, false⟩),
  (53, ⟨1, 8, .func, .nilFunc, false⟩),
  (54, ⟨1, 8, .func, .nilFunc, false⟩),
  (55, ⟨1, 8, .func, .nilFunc, false⟩),
  (56, ⟨1, 8, .func, .nilFunc, false⟩),
  (57, ⟨1, 8, .func, .nilFunc, false⟩),
  (58, ⟨1, 8, .func, .nilFunc, false⟩),
  (59, ⟨1, 8, .func, .nilFunc, false⟩),
  (60, ⟨1, 8, .func, .nilFunc, false⟩),
  (61, ⟨2, 16, .struct [(0, 5), (1, 3)], .agg #[.int .u8 0, .int .i64 0], true⟩),
  (62, ⟨2, 16, .struct [(0, 5), (1, 3)], .agg #[.int .u8 0, .int .i64 0], true⟩),
  (63, ⟨1, 24, .slice 62, .slice none 0 0, false⟩),
  (64, ⟨1, 24, .slice 62, .slice none 0 0, false⟩),
  (65, ⟨1, 8, .func, .nilFunc, false⟩),
  (66, ⟨1, 8, .func, .nilFunc, false⟩),
  (68, ⟨1, 8, .func, .nilFunc, false⟩),
  (69, ⟨2, 16, .struct [(0, 3), (1, 3)], .agg #[.int .i64 0, .int .i64 0], true⟩),
  (70, ⟨2, 16, .struct [(0, 3), (1, 3)], .agg #[.int .i64 0, .int .i64 0], true⟩),
  (71, ⟨1, 8, .func, .nilFunc, false⟩),
  (72, ⟨1, 8, .func, .nilFunc, false⟩),
  (73, ⟨1, 8, .func, .nilFunc, false⟩),
  (74, ⟨1, 24, .slice 78, .slice none 0 0, false⟩),
  (75, ⟨3, 72, .struct [(0, 22), (1, 38), (2, 74)], .agg #[.slice none 0 0, .slice none 0 0, .slice none 0 0], true⟩),
  (76, ⟨3, 72, .struct [(0, 22), (1, 38), (2, 74)], .agg #[.slice none 0 0, .slice none 0 0, .slice none 0 0], true⟩),
  (77, ⟨4, 4, .struct [(0, 5), (1, 5), (2, 5), (3, 5)], .agg #[.int .u8 0, .int .u8 0, .int .u8 0, .int .u8 0], true⟩),
  (78, ⟨4, 4, .struct [(0, 5), (1, 5), (2, 5), (3, 5)], .agg #[.int .u8 0, .int .u8 0, .int .u8 0, .int .u8 0], true⟩),
  (79, ⟨1, 24, .slice 101, .slice none 0 0, false⟩),
  (80, ⟨5, 88, .struct [(0, 39), (1, 44), (2, 3), (3, 79), (4, 3)], .agg #[.slice none 0 0, .slice none 0 0, .int .i64 0, .slice none 0 0, .int .i64 0], true⟩),
  (81, ⟨5, 88, .struct [(0, 39), (1, 44), (2, 3), (3, 79), (4, 3)], .agg #[.slice none 0 0, .slice none 0 0, .int .i64 0, .slice none 0 0, .int .i64 0], true⟩),
  (82, ⟨1, 8, .func, .nilFunc, false⟩),
  (83, ⟨4, 96, .struct [(0, 32), (3, 34)], .agg #[.slice none 0 0, .slice none 0 0, .slice none 0 0, .slice none 0 0], true⟩),
  (84, ⟨4, 96, .struct [(0, 32), (3, 34)], .agg #[.slice none 0 0, .slice none 0 0, .slice none 0 0, .slice none 0 0], true⟩),
  (85, ⟨1, 8, .func, .nilFunc, false⟩),
  (86, ⟨1, 8, .func, .nilFunc, false⟩),
  (88, ⟨1, 8, .func, .nilFunc, false⟩),
  (89, ⟨1, 8, .func, .nilFunc, false⟩),
  (90, ⟨1, 8, .func, .nilFunc, false⟩),
  (92, ⟨1, 8, .func, .nilFunc, false⟩),
  (93, ⟨1, 8, .func, .nilFunc, false⟩),
  (94, ⟨1, 8, .func, .nilFunc, false⟩),
  (95, ⟨1, 8, .func, .nilFunc, false⟩),
  (96, ⟨1, 8, .func, .nilFunc, false⟩),
  (97, ⟨1, 8, .func, .nilFunc, false⟩),
  (98, ⟨1, 8, .func, .nilFunc, false⟩),
  (99, ⟨1, 8, .func, .nilFunc, false⟩),
  (100, ⟨3, 24, .struct [(0, 3), (1, 3), (2, 3)], .agg #[.int .i64 0, .int .i64 0, .int .i64 0], true⟩),
  (101, ⟨3, 24, .struct [(0, 3), (1, 3), (2, 3)], .agg #[.int .i64 0, .int .i64 0, .int .i64 0], true⟩),
  (102, ⟨1, 8, .func, .nilFunc, false⟩),
  (103, ⟨1, 8, .func, .nilFunc, false⟩),
  (104, ⟨1, 8, .func, .nilFunc, false⟩),
  (105, ⟨1, 8, .func, .nilFunc, false⟩),
  (106, ⟨1, 8, .func, .nilFunc, false⟩),
  (107, ⟨1, 8, .func, .nilFunc, false⟩),
  (108, ⟨1, 8, .func, .nilFunc, false⟩),
  (109, ⟨1, 8, .func, .nilFunc, false⟩),
  (110, ⟨1, 8, .func, .nilFunc, false⟩),
  (111, ⟨1, 8, .func, .nilFunc, false⟩),
  (112, ⟨1, 8, .func, .nilFunc, false⟩),
  (114, ⟨1, 8, .func, .nilFunc, false⟩),
  (115, ⟨2, 24, .struct [(0, 9), (1, 5)], .agg #[.string ⟨#[]⟩, .int .u8 0], true⟩),
  (116, ⟨2, 24, .struct [(0, 9), (1, 5)], .agg #[.string ⟨#[]⟩, .int .u8 0], true⟩),
  (117, ⟨1, 8, .func, .nilFunc, false⟩),
  (118, ⟨1, 8, .func, .nilFunc, false⟩),
  (119, ⟨2, 2, .array 2 5, .agg #[.int .u8 0, .int .u8 0], false⟩),
  (120, ⟨5, 40, .struct [(0, 5), (1, 3), (2, 3), (3, 3), (4, 3)], .agg #[.int .u8 0, .int .i64 0, .int .i64 0, .int .i64 0, .int .i64 0], true⟩),
  (121, ⟨5, 40, .struct [(0, 5), (1, 3), (2, 3), (3, 3), (4, 3)], .agg #[.int .u8 0, .int .i64 0, .int .i64 0, .int .i64 0, .int .i64 0], true⟩),
  (122, ⟨2, 32, .struct [(0, 5), (1, 24)], .agg #[.int .u8 0, .slice none 0 0], true⟩),
  (123, ⟨2, 32, .struct [(0, 5), (1, 24)], .agg #[.int .u8 0, .slice none 0 0], true⟩),
  (124, ⟨4, 32, .struct [(0, 5), (1, 3), (2, 3), (3, 3)], .agg #[.int .u8 0, .int .i64 0, .int .i64 0, .int .i64 0], true⟩),
  (125, ⟨4, 32, .struct [(0, 5), (1, 3), (2, 3), (3, 3)], .agg #[.int .u8 0, .int .i64 0, .int .i64 0, .int .i64 0], true⟩),
  (126, ⟨1, 8, .func, .nilFunc, false⟩),
  (127, ⟨1, 24, .slice 9, .slice none 0 0, false⟩),
  (128, ⟨1, 8, .func, .nilFunc, false⟩),
  (129, ⟨13, 104, .array 13 128, .agg #[.nilFunc, .nilFunc, .nilFunc, .nilFunc, .nilFunc, .nilFunc, .nilFunc, .nilFunc, .nilFunc, .nilFunc, .nilFunc, .nilFunc, .nilFunc], false⟩),
  (130, ⟨1, 8, .func, .nilFunc, false⟩),
  (131, ⟨1, 8, .func, .nilFunc, false⟩),
  (132, ⟨1, 8, .func, .nilFunc, false⟩),
  (133, ⟨1, 8, .func, .nilFunc, false⟩),
  (134, ⟨1, 8, .func, .nilFunc, false⟩),
  (135, ⟨1, 8, .func, .nilFunc, false⟩),
  (136, ⟨1, 24, .slice 3, .slice none 0 0, false⟩),
  (137, ⟨1, 8, .func, .nilFunc, false⟩),
  (138, ⟨1, 8, .func, .nilFunc, false⟩),
  (139, ⟨1, 8, .func, .nilFunc, false⟩),
  (140, ⟨1, 8, .func, .nilFunc, false⟩),
  (142, ⟨1, 8, .map 3 140, .map none, false⟩),
  (143, ⟨1, 8, .func, .nilFunc, false⟩),
  (144, ⟨15, 264, .struct [(0, 81), (5, 32), (8, 34), (9, 26)], .agg #[.slice none 0 0, .slice none 0 0, .int .i64 0, .slice none 0 0, .int .i64 0, .slice none 0 0, .slice none 0 0, .slice none 0 0, .slice none 0 0, .int .i64 0, .string ⟨#[]⟩, .slice none 0 0, .string ⟨#[]⟩, .int .i64 0, .int .i64 0], true⟩),
  (145, ⟨15, 264, .struct [(0, 81), (5, 32), (8, 34), (9, 26)], .agg #[.slice none 0 0, .slice none 0 0, .int .i64 0, .slice none 0 0, .int .i64 0, .slice none 0 0, .slice none 0 0, .slice none 0 0, .slice none 0 0, .int .i64 0, .string ⟨#[]⟩, .slice none 0 0, .string ⟨#[]⟩, .int .i64 0, .int .i64 0], true⟩),
  (146, ⟨1, 8, .func, .nilFunc, false⟩),
  (147, ⟨1, 8, .func, .nilFunc, false⟩),
  (148, ⟨1, 8, .func, .nilFunc, false⟩),
  (149, ⟨1, 8, .func, .nilFunc, false⟩),
  (150, ⟨1, 8, .func, .nilFunc, false⟩),
  (151, ⟨1, 8, .func, .nilFunc, false⟩),
  (152, ⟨1, 8, .func, .nilFunc, false⟩),
  (153, ⟨1, 8, .func, .nilFunc, false⟩),
  (154, ⟨1, 8, .func, .nilFunc, false⟩),
  (155, ⟨1, 8, .func, .nilFunc, false⟩),
  (156, ⟨1, 8, .func, .nilFunc, false⟩),
  (157, ⟨1, 8, .func, .nilFunc, false⟩),
  (158, ⟨1, 8, .func, .nilFunc, false⟩),
  (159, ⟨1, 8, .func, .nilFunc, false⟩),
  (161, ⟨1, 8, .func, .nilFunc, false⟩),
  (162, ⟨1, 8, .func, .nilFunc, false⟩),
  (163, ⟨1, 8, .func, .nilFunc, false⟩),
  (164, ⟨1, 24, .slice 136, .slice none 0 0, false⟩),
  (165, ⟨1, 8, .func, .nilFunc, false⟩),
  (166, ⟨1, 8, .func, .nilFunc, false⟩),
  (167, ⟨1, 8, .func, .nilFunc, false⟩),
  (168, ⟨1, 8, .func, .nilFunc, false⟩),
  (169, ⟨1, 8, .func, .nilFunc, false⟩),
  (170, ⟨1, 8, .func, .nilFunc, false⟩),
  (171, ⟨1, 8, .func, .nilFunc, false⟩),
  (172, ⟨1, 8, .func, .nilFunc, false⟩),
  (173, ⟨1, 8, .func, .nilFunc, false⟩),
  (174, ⟨1, 8, .func, .nilFunc, false⟩),
  (175, ⟨1, 8, .map 5 3, .map none, false⟩),
  (176, ⟨1, 8, .func, .nilFunc, false⟩),
  (177, ⟨1, 8, .func, .nilFunc, false⟩),
  (178, ⟨1, 8, .func, .nilFunc, false⟩),
  (179, ⟨1, 8, .func, .nilFunc, false⟩),
  (180, ⟨1, 8, .func, .nilFunc, false⟩),
  (181, ⟨1, 8, .func, .nilFunc, false⟩),
  (182, ⟨1, 8, .func, .nilFunc, false⟩),
  (183, ⟨1, 8, .func, .nilFunc, false⟩),
  (184, ⟨1, 8, .func, .nilFunc, false⟩),
  (185, ⟨1, 8, .func, .nilFunc, false⟩),
  (186, ⟨1, 8, .func, .nilFunc, false⟩),
  (187, ⟨1, 8, .func, .nilFunc, false⟩),
  (188, ⟨1, 24, .slice 172, .slice none 0 0, false⟩),
  (189, ⟨1, 8, .func, .nilFunc, false⟩),
  (190, ⟨1, 8, .func, .nilFunc, false⟩),
  (191, ⟨1, 8, .func, .nilFunc, false⟩),
  (192, ⟨1, 8, .func, .nilFunc, false⟩),
  (193, ⟨1, 8, .func, .nilFunc, false⟩),
  (194, ⟨1, 8, .int .u64, .int .u64 0, false⟩),
  (195, ⟨1, 24, .slice 185, .slice none 0 0, false⟩),
  (196, ⟨1, 8, .func, .nilFunc, false⟩),
  (197, ⟨1, 8, .func, .nilFunc, false⟩),
  (198, ⟨1, 8, .func, .nilFunc, false⟩),
  (199, ⟨1, 8, .func, .nilFunc, false⟩),
  (200, ⟨1, 8, .func, .nilFunc, false⟩),
  (201, ⟨1, 8, .int .i64, .int .i64 0, false⟩),
  (203, ⟨1, 8, .func, .nilFunc, false⟩),
  (204, ⟨1, 8, .func, .nilFunc, false⟩),
  (205, ⟨1, 8, .func, .nilFunc, false⟩),
  (206, ⟨1, 8, .func, .nilFunc, false⟩),
  (207, ⟨1, 8, .func, .nilFunc, false⟩),
  (208, ⟨1, 4, .int .u32, .int .u32 0, false⟩),
  (209, ⟨1, 8, .func, .nilFunc, false⟩),
  (210, ⟨1, 8, .int .u64, .int .u64 0, false⟩),
  (211, ⟨1, 8, .func, .nilFunc, false⟩),
  (212, ⟨1, 8, .func, .nilFunc, false⟩),
  (213, ⟨1, 8, .func, .nilFunc, false⟩),
  (214, ⟨1, 8, .func, .nilFunc, false⟩),
  (215, ⟨1, 8, .func, .nilFunc, false⟩),
  (216, ⟨1, 8, .func, .nilFunc, false⟩),
  (217, ⟨1, 8, .func, .nilFunc, false⟩),
  (218, ⟨1, 8, .int .u64, .int .u64 0, false⟩),
  (219, ⟨1, 8, .func, .nilFunc, false⟩),
  (220, ⟨1, 8, .func, .nilFunc, false⟩),
  (221, ⟨1, 8, .func, .nilFunc, false⟩),
  (222, ⟨1, 8, .ptr 3, .pointer none, false⟩),
  (223, ⟨1, 8, .func, .nilFunc, false⟩),
  (224, ⟨1, 8, .func, .nilFunc, false⟩),
  (225, ⟨1, 8, .func, .nilFunc, false⟩),
  (226, ⟨1, 8, .ptr 218, .pointer none, false⟩),
  (228, ⟨1, 8, .func, .nilFunc, false⟩),
  (229, ⟨1, 8, .func, .nilFunc, false⟩),
  (230, ⟨1, 8, .func, .nilFunc, false⟩),
  (236, ⟨1, 8, .func, .nilFunc, false⟩),
  (240, ⟨1, 8, .ptr 5, .pointer none, false⟩)]
def T (t : Nat) : Option TI := lk none (tab.map fun x => (x.1, some x.2)) t
theorem tab_eq : tab.map (fun x => tabOf Tryz.prog x.1) = tab.map (fun x => some x.2) := by kernel_rfl
@[go_sem] theorem T1 : T 1 = some ⟨1, 8, .func, .nilFunc, false⟩ := rfl
@[go_sem] theorem T2 : T 2 = some ⟨1, 8, .int .i64, .int .i64 0, false⟩ := rfl
@[go_sem] theorem T3 : T 3 = some ⟨1, 8, .int .i64, .int .i64 0, false⟩ := rfl
@[go_sem] theorem T4 : T 4 = some ⟨1, 1, .bool, .bool false, false⟩ := rfl
@[go_sem] theorem T5 : T 5 = some ⟨1, 1, .int .u8, .int .u8 0, false⟩ := rfl
@[go_sem] theorem T9 : T 9 = some ⟨1, 16, .str, .string ⟨#[]⟩, false⟩ := rfl
@[go_sem] theorem T12 : T 12 = some ⟨1, 8, .int .u64, .int .u64 0, false⟩ := rfl
@[go_sem] theorem T20 : T 20 = some ⟨1, 16, .iface, .nilIface, false⟩ := rfl
@[go_sem] theorem T21 : T 21 = some ⟨1, 4, .int .i32, .int .i32 0, false⟩ := rfl
@[go_sem] theorem T22 : T 22 = some ⟨1, 24, .slice 119, .slice none 0 0, false⟩ := rfl
@[go_sem] theorem T23 : T 23 = some ⟨1, 24, .slice 43, .slice none 0 0, false⟩ := rfl
@[go_sem] theorem T24 : T 24 = some ⟨1, 24, .slice 70, .slice none 0 0, false⟩ := rfl
@[go_sem] theorem T25 : T 25 = some ⟨6, 80, .struct [(0, 3), (1, 9), (2, 24), (3, 9), (4, 3), (5, 3)], .agg #[.int .i64 0, .string ⟨#[]⟩, .slice none 0 0, .string ⟨#[]⟩, .int .i64 0, .int .i64 0], true⟩ := rfl
@[go_sem] theorem T26 : T 26 = some ⟨6, 80, .struct [(0, 3), (1, 9), (2, 24), (3, 9), (4, 3), (5, 3)], .agg #[.int .i64 0, .string ⟨#[]⟩, .slice none 0 0, .string ⟨#[]⟩, .int .i64 0, .int .i64 0], true⟩ := rfl
@[go_sem] theorem T27 : T 27 = some ⟨1, 8, .func, .nilFunc, false⟩ := rfl
@[go_sem] theorem T28 : T 28 = some ⟨1, 24, .slice 121, .slice none 0 0, false⟩ := rfl
@[go_sem] theorem T29 : T 29 = some ⟨1, 24, .slice 123, .slice none 0 0, false⟩ := rfl
@[go_sem] theorem T30 : T 30 = some ⟨1, 24, .slice 116, .slice none 0 0, false⟩ := rfl
@[go_sem] theorem T31 : T 31 = some ⟨3, 72, .struct [(0, 28), (1, 29), (2, 30)], .agg #[.slice none 0 0, .slice none 0 0, .slice none 0 0], true⟩ := rfl
@[go_sem] theorem T32 : T 32 = some ⟨3, 72, .struct [(0, 28), (1, 29), (2, 30)], .agg #[.slice none 0 0, .slice none 0 0, .slice none 0 0], true⟩ := rfl
@[go_sem] theorem T33 : T 33 = some ⟨1, 8, .func, .nilFunc, false⟩ := rfl
@[go_sem] theorem T34 : T 34 = some ⟨1, 24, .slice 125, .slice none 0 0, false⟩ := rfl
@[go_sem] theorem T35 : T 35 = some ⟨1, 8, .func, .nilFunc, false⟩ := rfl
@[go_sem] theorem T36 : T 36 = some ⟨1, 1, .int .i8, .int .i8 0, false⟩ := rfl
@[go_sem] theorem T37 : T 37 = some ⟨3, 3, .array 3 36, .agg #[.int .i8 0, .int .i8 0, .int .i8 0], false⟩ := rfl
@[go_sem] theorem T38 : T 38 = some ⟨1, 24, .slice 37, .slice none 0 0, false⟩ := rfl
@[go_sem] theorem T39 : T 39 = some ⟨1, 24, .slice 26, .slice none 0 0, false⟩ := rfl
@[go_sem] theorem T40 : T 40 = some ⟨1, 8, .func, .nilFunc, false⟩ := rfl
@[go_sem] theorem T41 : T 41 = some ⟨1, 24, .slice 5, .slice none 0 0, false⟩ := rfl
@[go_sem] theorem T42 : T 42 = some ⟨5, 64, .struct [(0, 5), (1, 41), (2, 22), (3, 5), (4, 5)], .agg #[.int .u8 0, .slice none 0 0, .slice none 0 0, .int .u8 0, .int .u8 0], true⟩ := rfl
@[go_sem] theorem T43 : T 43 = some ⟨5, 64, .struct [(0, 5), (1, 41), (2, 22), (3, 5), (4, 5)], .agg #[.int .u8 0, .slice none 0 0, .slice none 0 0, .int .u8 0, .int .u8 0], true⟩ := rfl
@[go_sem] theorem T44 : T 44 = some ⟨1, 24, .slice 64, .slice none 0 0, false⟩ := rfl
@[go_sem] theorem T45 : T 45 = some ⟨1, 8, .int .i64, .int .i64 0, false⟩ := rfl
@[go_sem] theorem T47 : T 47 = some ⟨1, 8, .func, .nilFunc, false⟩ := rfl
@[go_sem] theorem T48 : T 48 = some ⟨1, 8, .func, .nilFunc, false⟩ := rfl
@[go_sem] theorem T49 : T 49 = some ⟨3, 40, .struct [(0, 44), (1, 3), (2, 45)], .agg #[.slice none 0 0, .int .i64 0, .int .i64 0], true⟩ := rfl
@[go_sem] theorem T50 : T 50 = some ⟨3, 40, .struct [(0, 44), (1, 3), (2, 45)], .agg #[.slice none 0 0, .int .i64 0, .int .i64 0], true⟩ := rfl
@[go_sem] theorem T51 : T 51 = some ⟨1, 8, .func, .nilFunc, false⟩ := rfl
@[go_sem] theorem T53 : T 53 = some ⟨1, 8, .func, .nilFunc, false⟩ := rfl
@[go_sem] theorem T54 : T 54 = some ⟨1, 8, .func, .nilFunc, false⟩ := rfl
@[go_sem] theorem T55 : T 55 = some ⟨1, 8, .func, .nilFunc, false⟩ := rfl
@[go_sem] theorem T56 : T 56 = some ⟨1, 8, .func, .nilFunc, false⟩ := rfl
@[go_sem] theorem T57 : T 57 = some ⟨1, 8, .func, .nilFunc, false⟩ := rfl
@[go_sem] theorem T58 : T 58 = some ⟨1, 8, .func, .nilFunc, false⟩ := rfl
@[go_sem] theorem T59 : T 59 = some ⟨1, 8, .func, .nilFunc, false⟩ := rfl
@[go_sem] theorem T60 : T 60 = some ⟨1, 8, .func, .nilFunc, false⟩ := rfl
@[go_sem] theorem T61 : T 61 = some ⟨2, 16, .struct [(0, 5), (1, 3)], .agg #[.int .u8 0, .int .i64 0], true⟩ := rfl
@[go_sem] theorem T62 : T 62 = some ⟨2, 16, .struct [(0, 5), (1, 3)], .agg #[.int .u8 0, .int .i64 0], true⟩ := rfl
@[go_sem] theorem T63 : T 63 = some ⟨1, 24, .slice 62, .slice none 0 0, false⟩ := rfl
@[go_sem] theorem T64 : T 64 = some ⟨1, 24, .slice 62, .slice none 0 0, false⟩ := rfl
@[go_sem] theorem T65 : T 65 = some ⟨1, 8, .func, .nilFunc, false⟩ := rfl
@[go_sem] theorem T66 : T 66 = some ⟨1, 8, .func, .nilFunc, false⟩ := rfl
@[go_sem] theorem T68 : T 68 = some ⟨1, 8, .func, .nilFunc, false⟩ := rfl
@[go_sem] theorem T69 : T 69 = some ⟨2, 16, .struct [(0, 3), (1, 3)], .agg #[.int .i64 0, .int .i64 0], true⟩ := rfl
@[go_sem] theorem T70 : T 70 = some ⟨2, 16, .struct [(0, 3), (1, 3)], .agg #[.int .i64 0, .int .i64 0], true⟩ := rfl
@[go_sem] theorem T71 : T 71 = some ⟨1, 8, .func, .nilFunc, false⟩ := rfl
@[go_sem] theorem T72 : T 72 = some ⟨1, 8, .func, .nilFunc, false⟩ := rfl
@[go_sem] theorem T73 : T 73 = some ⟨1, 8, .func, .nilFunc, false⟩ := rfl
@[go_sem] theorem T74 : T 74 = some ⟨1, 24, .slice 78, .slice none 0 0, false⟩ := rfl
@[go_sem] theorem T75 : T 75 = some ⟨3, 72, .struct [(0, 22), (1, 38), (2, 74)], .agg #[.slice none 0 0, .slice none 0 0, .slice none 0 0], true⟩ := rfl
@[go_sem] theorem T76 : T 76 = some ⟨3, 72, .struct [(0, 22), (1, 38), (2, 74)], .agg #[.slice none 0 0, .slice none 0 0, .slice none 0 0], true⟩ := rfl
@[go_sem] theorem T77 : T 77 = some ⟨4, 4, .struct [(0, 5), (1, 5), (2, 5), (3, 5)], .agg #[.int .u8 0, .int .u8 0, .int .u8 0, .int .u8 0], true⟩ := rfl
@[go_sem] theorem T78 : T 78 = some ⟨4, 4, .struct [(0, 5), (1, 5), (2, 5), (3, 5)], .agg #[.int .u8 0, .int .u8 0, .int .u8 0, .int .u8 0], true⟩ := rfl
@[go_sem] theorem T79 : T 79 = some ⟨1, 24, .slice 101, .slice none 0 0, false⟩ := rfl
@[go_sem] theorem T80 : T 80 = some ⟨5, 88, .struct [(0, 39), (1, 44), (2, 3), (3, 79), (4, 3)], .agg #[.slice none 0 0, .slice none 0 0, .int .i64 0, .slice none 0 0, .int .i64 0], true⟩ := rfl
@[go_sem] theorem T81 : T 81 = some ⟨5, 88, .struct [(0, 39), (1, 44), (2, 3), (3, 79), (4, 3)], .agg #[.slice none 0 0, .slice none 0 0, .int .i64 0, .slice none 0 0, .int .i64 0], true⟩ := rfl
@[go_sem] theorem T82 : T 82 = some ⟨1, 8, .func, .nilFunc, false⟩ := rfl
@[go_sem] theorem T83 : T 83 = some ⟨4, 96, .struct [(0, 32), (3, 34)], .agg #[.slice none 0 0, .slice none 0 0, .slice none 0 0, .slice none 0 0], true⟩ := rfl
@[go_sem] theorem T84 : T 84 = some ⟨4, 96, .struct [(0, 32), (3, 34)], .agg #[.slice none 0 0, .slice none 0 0, .slice none 0 0, .slice none 0 0], true⟩ := rfl
@[go_sem] theorem T85 : T 85 = some ⟨1, 8, .func, .nilFunc, false⟩ := rfl
@[go_sem] theorem T86 : T 86 = some ⟨1, 8, .func, .nilFunc, false⟩ := rfl
@[go_sem] theorem T88 : T 88 = some ⟨1, 8, .func, .nilFunc, false⟩ := rfl
@[go_sem] theorem T89 : T 89 = some ⟨1, 8, .func, .nilFunc, false⟩ := rfl
@[go_sem] theorem T90 : T 90 = some ⟨1, 8, .func, .nilFunc, false⟩ := rfl
@[go_sem] theorem T92 : T 92 = some ⟨1, 8, .func, .nilFunc, false⟩ := rfl
@[go_sem] theorem T93 : T 93 = some ⟨1, 8, .func, .nilFunc, false⟩ := rfl
@[go_sem] theorem T94 : T 94 = some ⟨1, 8, .func, .nilFunc, false⟩ := rfl
@[go_sem] theorem T95 : T 95 = some ⟨1, 8, .func, .nilFunc, false⟩ := rfl
@[go_sem] theorem T96 : T 96 = some ⟨1, 8, .func, .nilFunc, false⟩ := rfl
@[go_sem] theorem T97 : T 97 = some ⟨1, 8, .func, .nilFunc, false⟩ := rfl
@[go_sem] theorem T98 : T 98 = some ⟨1, 8, .func, .nilFunc, false⟩ := rfl
@[go_sem] theorem T99 : T 99 = some ⟨1, 8, .func, .nilFunc, false⟩ := rfl
@[go_sem] theorem T100 : T 100 = some ⟨3, 24, .struct [(0, 3), (1, 3), (2, 3)], .agg #[.int .i64 0, .int .i64 0, .int .i64 0], true⟩ := rfl
@[go_sem] theorem T101 : T 101 = some ⟨3, 24, .struct [(0, 3), (1, 3), (2, 3)], .agg #[.int .i64 0, .int .i64 0, .int .i64 0], true⟩ := rfl
@[go_sem] theorem T102 : T 102 = some ⟨1, 8, .func, .nilFunc, false⟩ := rfl
@[go_sem] theorem T103 : T 103 = some ⟨1, 8, .func, .nilFunc, false⟩ := rfl
@[go_sem] theorem T104 : T 104 = some ⟨1, 8, .func, .nilFunc, false⟩ := rfl
@[go_sem] theorem T105 : T 105 = some ⟨1, 8, .func, .nilFunc, false⟩ := rfl
@[go_sem] theorem T106 : T 106 = some ⟨1, 8, .func, .nilFunc, false⟩ := rfl
@[go_sem] theorem T107 : T 107 = some ⟨1, 8, .func, .nilFunc, false⟩ := rfl
@[go_sem] theorem T108 : T 108 = some ⟨1, 8, .func, .nilFunc, false⟩ := rfl
@[go_sem] theorem T109 : T 109 = some ⟨1, 8, .func, .nilFunc, false⟩ := rfl
@[go_sem] theorem T110 : T 110 = some ⟨1, 8, .func, .nilFunc, false⟩ := rfl
@[go_sem] theorem T111 : T 111 = some ⟨1, 8, .func, .nilFunc, false⟩ := rfl
@[go_sem] theorem T112 : T 112 = some ⟨1, 8, .func, .nilFunc, false⟩ := rfl
@[go_sem] theorem T114 : T 114 = some ⟨1, 8, .func, .nilFunc, false⟩ := rfl
@[go_sem] theorem T115 : T 115 = some ⟨2, 24, .struct [(0, 9), (1, 5)], .agg #[.string ⟨#[]⟩, .int .u8 0], true⟩ := rfl
@[go_sem] theorem T116 : T 116 = some ⟨2, 24, .struct [(0, 9), (1, 5)], .agg #[.string ⟨#[]⟩, .int .u8 0], true⟩ := rfl
@[go_sem] theorem T117 : T 117 = some ⟨1, 8, .func, .nilFunc, false⟩ := rfl
@[go_sem] theorem T118 : T 118 = some ⟨1, 8, .func, .nilFunc, false⟩ := rfl
@[go_sem] theorem T119 : T 119 = some ⟨2, 2, .array 2 5, .agg #[.int .u8 0, .int .u8 0], false⟩ := rfl
@[go_sem] theorem T120 : T 120 = some ⟨5, 40, .struct [(0, 5), (1, 3), (2, 3), (3, 3), (4, 3)], .agg #[.int .u8 0, .int .i64 0, .int .i64 0, .int .i64 0, .int .i64 0], true⟩ := rfl
@[go_sem] theorem T121 : T 121 = some ⟨5, 40, .struct [(0, 5), (1, 3), (2, 3), (3, 3), (4, 3)], .agg #[.int .u8 0, .int .i64 0, .int .i64 0, .int .i64 0, .int .i64 0], true⟩ := rfl
@[go_sem] theorem T122 : T 122 = some ⟨2, 32, .struct [(0, 5), (1, 24)], .agg #[.int .u8 0, .slice none 0 0], true⟩ := rfl
@[go_sem] theorem T123 : T 123 = some ⟨2, 32, .struct [(0, 5), (1, 24)], .agg #[.int .u8 0, .slice none 0 0], true⟩ := rfl
@[go_sem] theorem T124 : T 124 = some ⟨4, 32, .struct [(0, 5), (1, 3), (2, 3), (3, 3)], .agg #[.int .u8 0, .int .i64 0, .int .i64 0, .int .i64 0], true⟩ := rfl
@[go_sem] theorem T125 : T 125 = some ⟨4, 32, .struct [(0, 5), (1, 3), (2, 3), (3, 3)], .agg #[.int .u8 0, .int .i64 0, .int .i64 0, .int .i64 0], true⟩ := rfl
@[go_sem] theorem T126 : T 126 = some ⟨1, 8, .func, .nilFunc, false⟩ := rfl
@[go_sem] theorem T127 : T 127 = some ⟨1, 24, .slice 9, .slice none 0 0, false⟩ := rfl
@[go_sem] theorem T128 : T 128 = some ⟨1, 8, .func, .nilFunc, false⟩ := rfl
@[go_sem] theorem T129 : T 129 = some ⟨13, 104, .array 13 128, .agg #[.nilFunc, .nilFunc, .nilFunc, .nilFunc, .nilFunc, .nilFunc, .nilFunc, .nilFunc, .nilFunc, .nilFunc, .nilFunc, .nilFunc, .nilFunc], false⟩ := rfl
@[go_sem] theorem T130 : T 130 = some ⟨1, 8, .func, .nilFunc, false⟩ := rfl
@[go_sem] theorem T131 : T 131 = some ⟨1, 8, .func, .nilFunc, false⟩ := rfl
@[go_sem] theorem T132 : T 132 = some ⟨1, 8, .func, .nilFunc, false⟩ := rfl
@[go_sem] theorem T133 : T 133 = some ⟨1, 8, .func, .nilFunc, false⟩ := rfl
@[go_sem] theorem T134 : T 134 = some ⟨1, 8, .func, .nilFunc, false⟩ := rfl
@[go_sem] theorem T135 : T 135 = some ⟨1, 8, .func, .nilFunc, false⟩ := rfl
@[go_sem] theorem T136 : T 136 = some ⟨1, 24, .slice 3, .slice none 0 0, false⟩ := rfl
@[go_sem] theorem T137 : T 137 = some ⟨1, 8, .func, .nilFunc, false⟩ := rfl
@[go_sem] theorem T138 : T 138 = some ⟨1, 8, .func, .nilFunc, false⟩ := rfl
@[go_sem] theorem T139 : T 139 = some ⟨1, 8, .func, .nilFunc, false⟩ := rfl
@[go_sem] theorem T140 : T 140 = some ⟨1, 8, .func, .nilFunc, false⟩ := rfl
@[go_sem] theorem T142 : T 142 = some ⟨1, 8, .map 3 140, .map none, false⟩ := rfl
@[go_sem] theorem T143 : T 143 = some ⟨1, 8, .func, .nilFunc, false⟩ := rfl
@[go_sem] theorem T144 : T 144 = some ⟨15, 264, .struct [(0, 81), (5, 32), (8, 34), (9, 26)], .agg #[.slice none 0 0, .slice none 0 0, .int .i64 0, .slice none 0 0, .int .i64 0, .slice none 0 0, .slice none 0 0, .slice none 0 0, .slice none 0 0, .int .i64 0, .string ⟨#[]⟩, .slice none 0 0, .string ⟨#[]⟩, .int .i64 0, .int .i64 0], true⟩ := rfl
@[go_sem] theorem T145 : T 145 = some ⟨15, 264, .struct [(0, 81), (5, 32), (8, 34), (9, 26)], .agg #[.slice none 0 0, .slice none 0 0, .int .i64 0, .slice none 0 0, .int .i64 0, .slice none 0 0, .slice none 0 0, .slice none 0 0, .slice none 0 0, .int .i64 0, .string ⟨#[]⟩, .slice none 0 0, .string ⟨#[]⟩, .int .i64 0, .int .i64 0], true⟩ := rfl
@[go_sem] theorem T146 : T 146 = some ⟨1, 8, .func, .nilFunc, false⟩ := rfl
@[go_sem] theorem T147 : T 147 = some ⟨1, 8, .func, .nilFunc, false⟩ := rfl
@[go_sem] theorem T148 : T 148 = some ⟨1, 8, .func, .nilFunc, false⟩ := rfl
@[go_sem] theorem T149 : T 149 = some ⟨1, 8, .func, .nilFunc, false⟩ := rfl
@[go_sem] theorem T150 : T 150 = some ⟨1, 8, .func, .nilFunc, false⟩ := rfl
@[go_sem] theorem T151 : T 151 = some ⟨1, 8, .func, .nilFunc, false⟩ := rfl
@[go_sem] theorem T152 : T 152 = some ⟨1, 8, .func, .nilFunc, false⟩ := rfl
@[go_sem] theorem T153 : T 153 = some ⟨1, 8, .func, .nilFunc, false⟩ := rfl
@[go_sem] theorem T154 : T 154 = some ⟨1, 8, .func, .nilFunc, false⟩ := rfl
@[go_sem] theorem T155 : T 155 = some ⟨1, 8, .func, .nilFunc, false⟩ := rfl
@[go_sem] theorem T156 : T 156 = some ⟨1, 8, .func, .nilFunc, false⟩ := rfl
@[go_sem] theorem T157 : T 157 = some ⟨1, 8, .func, .nilFunc, false⟩ := rfl
@[go_sem] theorem T158 : T 158 = some ⟨1, 8, .func, .nilFunc, false⟩ := rfl
@[go_sem] theorem T159 : T 159 = some ⟨1, 8, .func, .nilFunc, false⟩ := rfl
@[go_sem] theorem T161 : T 161 = some ⟨1, 8, .func, .nilFunc, false⟩ := rfl
@[go_sem] theorem T162 : T 162 = some ⟨1, 8, .func, .nilFunc, false⟩ := rfl
@[go_sem] theorem T163 : T 163 = some ⟨1, 8, .func, .nilFunc, false⟩ := rfl
@[go_sem] theorem T164 : T 164 = some ⟨1, 24, .slice 136, .slice none 0 0, false⟩ := rfl
@[go_sem] theorem T165 : T 165 = some ⟨1, 8, .func, .nilFunc, false⟩ := rfl
@[go_sem] theorem T166 : T 166 = some ⟨1, 8, .func, .nilFunc, false⟩ := rfl
@[go_sem] theorem T167 : T 167 = some ⟨1, 8, .func, .nilFunc, false⟩ := rfl
@[go_sem] theorem T168 : T 168 = some ⟨1, 8, .func, .nilFunc, false⟩ := rfl
@[go_sem] theorem T169 : T 169 = some ⟨1, 8, .func, .nilFunc, false⟩ := rfl
@[go_sem] theorem T170 : T 170 = some ⟨1, 8, .func, .nilFunc, false⟩ := rfl
@[go_sem] theorem T171 : T 171 = some ⟨1, 8, .func, .nilFunc, false⟩ := rfl
@[go_sem] theorem T172 : T 172 = some ⟨1, 8, .func, .nilFunc, false⟩ := rfl
@[go_sem] theorem T173 : T 173 = some ⟨1, 8, .func, .nilFunc, false⟩ := rfl
@[go_sem] theorem T174 : T 174 = some ⟨1, 8, .func, .nilFunc, false⟩ := rfl
@[go_sem] theorem T175 : T 175 = some ⟨1, 8, .map 5 3, .map none, false⟩ := rfl
@[go_sem] theorem T176 : T 176 = some ⟨1, 8, .func, .nilFunc, false⟩ := rfl
@[go_sem] theorem T177 : T 177 = some ⟨1, 8, .func, .nilFunc, false⟩ := rfl
@[go_sem] theorem T178 : T 178 = some ⟨1, 8, .func, .nilFunc, false⟩ := rfl
@[go_sem] theorem T179 : T 179 = some ⟨1, 8, .func, .nilFunc, false⟩ := rfl
@[go_sem] theorem T180 : T 180 = some ⟨1, 8, .func, .nilFunc, false⟩ := rfl
@[go_sem] theorem T181 : T 181 = some ⟨1, 8, .func, .nilFunc, false⟩ := rfl
@[go_sem] theorem T182 : T 182 = some ⟨1, 8, .func, .nilFunc, false⟩ := rfl
@[go_sem] theorem T183 : T 183 = some ⟨1, 8, .func, .nilFunc, false⟩ := rfl
@[go_sem] theorem T184 : T 184 = some ⟨1, 8, .func, .nilFunc, false⟩ := rfl
@[go_sem] theorem T185 : T 185 = some ⟨1, 8, .func, .nilFunc, false⟩ := rfl
@[go_sem] theorem T186 : T 186 = some ⟨1, 8, .func, .nilFunc, false⟩ := rfl
@[go_sem] theorem T187 : T 187 = some ⟨1, 8, .func, .nilFunc, false⟩ := rfl
@[go_sem] theorem T188 : T 188 = some ⟨1, 24, .slice 172, .slice none 0 0, false⟩ := rfl
@[go_sem] theorem T189 : T 189 = some ⟨1, 8, .func, .nilFunc, false⟩ := rfl
@[go_sem] theorem T190 : T 190 = some ⟨1, 8, .func, .nilFunc, false⟩ := rfl
@[go_sem] theorem T191 : T 191 = some ⟨1, 8, .func, .nilFunc, false⟩ := rfl
@[go_sem] theorem T192 : T 192 = some ⟨1, 8, .func, .nilFunc, false⟩ := rfl
@[go_sem] theorem T193 : T 193 = some ⟨1, 8, .func, .nilFunc, false⟩ := rfl
@[go_sem] theorem T194 : T 194 = some ⟨1, 8, .int .u64, .int .u64 0, false⟩ := rfl
@[go_sem] theorem T195 : T 195 = some ⟨1, 24, .slice 185, .slice none 0 0, false⟩ := rfl
@[go_sem] theorem T196 : T 196 = some ⟨1, 8, .func, .nilFunc, false⟩ := rfl
@[go_sem] theorem T197 : T 197 = some ⟨1, 8, .func, .nilFunc, false⟩ := rfl
@[go_sem] theorem T198 : T 198 = some ⟨1, 8, .func, .nilFunc, false⟩ := rfl
@[go_sem] theorem T199 : T 199 = some ⟨1, 8, .func, .nilFunc, false⟩ := rfl
@[go_sem] theorem T200 : T 200 = some ⟨1, 8, .func, .nilFunc, false⟩ := rfl
@[go_sem] theorem T201 : T 201 = some ⟨1, 8, .int .i64, .int .i64 0, false⟩ := rfl
@[go_sem] theorem T203 : T 203 = some ⟨1, 8, .func, .nilFunc, false⟩ := rfl
@[go_sem] theorem T204 : T 204 = some ⟨1, 8, .func, .nilFunc, false⟩ := rfl
@[go_sem] theorem T205 : T 205 = some ⟨1, 8, .func, .nilFunc, false⟩ := rfl
@[go_sem] theorem T206 : T 206 = some ⟨1, 8, .func, .nilFunc, false⟩ := rfl
@[go_sem] theorem T207 : T 207 = some ⟨1, 8, .func, .nilFunc, false⟩ := rfl
@[go_sem] theorem T208 : T 208 = some ⟨1, 4, .int .u32, .int .u32 0, false⟩ := rfl
@[go_sem] theorem T209 : T 209 = some ⟨1, 8, .func, .nilFunc, false⟩ := rfl
@[go_sem] theorem T210 : T 210 = some ⟨1, 8, .int .u64, .int .u64 0, false⟩ := rfl
@[go_sem] theorem T211 : T 211 = some ⟨1, 8, .func, .nilFunc, false⟩ := rfl
@[go_sem] theorem T212 : T 212 = some ⟨1, 8, .func, .nilFunc, false⟩ := rfl
@[go_sem] theorem T213 : T 213 = some ⟨1, 8, .func, .nilFunc, false⟩ := rfl
@[go_sem] theorem T214 : T 214 = some ⟨1, 8, .func, .nilFunc, false⟩ := rfl
@[go_sem] theorem T215 : T 215 = some ⟨1, 8, .func, .nilFunc, false⟩ := rfl
@[go_sem] theorem T216 : T 216 = some ⟨1, 8, .func, .nilFunc, false⟩ := rfl
@[go_sem] theorem T217 : T 217 = some ⟨1, 8, .func, .nilFunc, false⟩ := rfl
@[go_sem] theorem T218 : T 218 = some ⟨1, 8, .int .u64, .int .u64 0, false⟩ := rfl
@[go_sem] theorem T219 : T 219 = some ⟨1, 8, .func, .nilFunc, false⟩ := rfl
@[go_sem] theorem T220 : T 220 = some ⟨1, 8, .func, .nilFunc, false⟩ := rfl
@[go_sem] theorem T221 : T 221 = some ⟨1, 8, .func, .nilFunc, false⟩ := rfl
@[go_sem] theorem T222 : T 222 = some ⟨1, 8, .ptr 3, .pointer none, false⟩ := rfl
@[go_sem] theorem T223 : T 223 = some ⟨1, 8, .func, .nilFunc, false⟩ := rfl
@[go_sem] theorem T224 : T 224 = some ⟨1, 8, .func, .nilFunc, false⟩ := rfl
@[go_sem] theorem T225 : T 225 = some ⟨1, 8, .func, .nilFunc, false⟩ := rfl
@[go_sem] theorem T226 : T 226 = some ⟨1, 8, .ptr 218, .pointer none, false⟩ := rfl
@[go_sem] theorem T228 : T 228 = some ⟨1, 8, .func, .nilFunc, false⟩ := rfl
@[go_sem] theorem T229 : T 229 = some ⟨1, 8, .func, .nilFunc, false⟩ := rfl
@[go_sem] theorem T230 : T 230 = some ⟨1, 8, .func, .nilFunc, false⟩ := rfl
@[go_sem] theorem T236 : T 236 = some ⟨1, 8, .func, .nilFunc, false⟩ := rfl
@[go_sem] theorem T240 : T 240 = some ⟨1, 8, .ptr 5, .pointer none, false⟩ := rfl
theorem tabOk : TabOk Tryz.prog T := by
  intro t ti hT
  have key : ∀ l : List (Nat × TI), lk none (l.map fun x => (x.1, some x.2)) t = some ti → (t, ti) ∈ l := by
    intro l
    induction l with
    | nil => intro h; cases h
    | cons x l ih =>
      intro h
      simp only [List.map_cons, lk] at h
      split at h
      · rename_i e; cases h; subst e; exact List.mem_cons_self
      · exact List.mem_cons_of_mem _ (ih h)
  exact List.map_inj_left.1 tab_eq _ (key tab hT)
end Go.Proofs.YtojgjdcciojpeaaGreat
set_option linter.unusedSimpArgs false
set_option linter.unusedVariables false
namespace Go.Proofs.YtojgjdcciojpeaaGreat
open Go Go.PS
set_option maxRecDepth 100000
set_option maxHeartbeats 4000000
/-! Texts: letters. -/
def letB (c : UInt8) : Bool := decide (97 ≤ c.toNat) && decide (c.toNat ≤ 122)
def lets (l : List UInt8) : Bool := l.all letB
/-- Where a walk over a text stands. -/
def itO (l : List UInt8) (i : Nat) : OB := ⟨4000000001, 2, [.agg [.d (.str l), .d (.int .i64 i)]]⟩
theorem get_arr (l : List UInt8) (i : Nat) (h : i < (⟨l.toArray⟩ : ByteArray).size) : (⟨l.toArray⟩ : ByteArray)[i] = l[i]'(by simpa [ByteArray.size] using h) := by
  show l.toArray[i] = _
  simp
theorem runeAt_low {l : List UInt8} {i : Nat} (h : i < l.length) (ha : (l.getD i 0).toNat < 128) : runeAt l i = ((l.getD i 0).toNat, 1) := by
  have hs : i < (⟨l.toArray⟩ : ByteArray).size := by simpa [ByteArray.size] using h
  have e : l.getD i 0 = l[i] := by simp [h]
  unfold runeAt
  rw [decode_ascii _ _ hs (by rw [get_arr]; rw [e] at ha; exact ha), get_arr, e]
theorem runeAt_high {l : List UInt8} {i : Nat} (h : i < l.length) (ha : ¬ (l.getD i 0).toNat < 128) : 128 ≤ (runeAt l i).1 := by
  have hs : i < (⟨l.toArray⟩ : ByteArray).size := by simpa [ByteArray.size] using h
  have e : l.getD i 0 = l[i] := by simp [h]
  exact (decode_high _ _ hs (by rw [get_arr]; rw [e] at ha; omega)).1
theorem lets_step {l : List UInt8} {i : Nat} (h : i < l.length) : lets (l.take (i + 1)) = (lets (l.take i) && letB (l.getD i 0)) := by
  have e : l.getD i 0 = l[i] := by simp [h]
  rw [List.take_succ_eq_append_getElem h, lets, List.all_append, e]
  simp [lets]
theorem lets_false {l : List UInt8} {i : Nat} (h : i < l.length) (hb : letB (l.getD i 0) = false) : lets l = false := by
  have e : l.getD i 0 = l[i] := by simp [h]
  rw [Bool.eq_false_iff]
  intro ht
  have := List.all_eq_true.1 ht l[i] (List.getElem_mem h)
  rw [e] at hb; rw [hb] at this; cases this
theorem letB_iff {c : UInt8} : letB c = true ↔ 97 ≤ c.toNat ∧ c.toNat ≤ 122 := by simp [letB]
theorem letters83 (l : List UInt8) : PCall Tryz.prog 83 [.str l] (.bool (lets l)) := by
  refine enterP tabOk Tryz.func83 16 [0, 2, 4, 6, 7, 8, 15] [.tmp 2] rfl (r := [_]) rfl (h := ?_); intro E hK; simp only [go_sem]
  refine wgo ?_
  refine wlpF (Run.loopC (ι := { i : Nat // i ≤ l.length ∧ lets (l.take i) = true }) (U := fun i => []) (O := fun i => [(6, some (itO l i.1))]) (K := fun _ => []) (μ := fun i => l.length - i.1) (i0 := ⟨0, by omega, rfl⟩)) (@itO.eq_1) ?_
  rintro ⟨i, hi, hp⟩ ih
  by_cases hlt : i < l.length
  · have h1 : (i : Int) < l.length := by omega
    have hst := lets_step hlt
    by_cases ha : (l.getD i 0).toNat < 128
    · have hr := runeAt_low hlt ha
      cases hb : letB (l.getD i 0) with
      | true =>
        obtain ⟨b1, b2⟩ := letB_iff.1 hb
        have c1 : ¬ ((l.getD i 0).toNat : Int) < 97 := by omega
        have c2 : ¬ 122 < ((l.getD i 0).toNat : Int) := by omega
        simp only [go_sem, itO]
        refine wgoF (And.intro (@h1) (And.intro (@hr) (And.intro (@c1) (@c2)))) ?_
        exact wnxtF (ih ⟨i + 1, by omega, by rw [hst, hp, hb]; rfl⟩) (@itO.eq_1)
      | false =>
        have hf := lets_false hlt hb
        have c1 : (decide (((l.getD i 0).toNat : Int) < 97) || decide (122 < ((l.getD i 0).toNat : Int))) = true := by
          have : ¬ (97 ≤ (l.getD i 0).toNat ∧ (l.getD i 0).toNat ≤ 122) := fun h => by rw [letB_iff.2 h] at hb; cases hb
          simp only [Bool.or_eq_true, decide_eq_true_eq]; omega
        simp only [go_sem, itO]
        refine wgoF (And.intro (@h1) (And.intro (@hr) (@c1))) ?_
        exact wretF (@hf)
    · have hr := runeAt_high hlt ha
      have hb : letB (l.getD i 0) = false := by
        rw [Bool.eq_false_iff]; intro h; have := letB_iff.1 h; omega
      have hf := lets_false hlt hb
      have c1 : (decide (((runeAt l i).1 : Int) < 97) || decide (122 < ((runeAt l i).1 : Int))) = true := by
        simp only [Bool.or_eq_true, decide_eq_true_eq]; omega
      simp only [go_sem, itO]
      refine wgoF (And.intro (@h1) (@c1)) ?_
      exact wretF (@hf)
  · have h1 : ¬ (i : Int) < l.length := by omega
    have e : l.take i = l := List.take_of_length_le (by omega)
    rw [e] at hp
    simp only [go_sem, itO]
    refine wgoF (@h1) ?_
    exact wretF (@hp)
end Go.Proofs.YtojgjdcciojpeaaGreat
set_option linter.unusedSimpArgs false
set_option linter.unusedVariables false
namespace Go.Proofs.YtojgjdcciojpeaaGreat
open Go Go.PS
set_option maxRecDepth 100000
set_option maxHeartbeats 4000000
/-- A point. -/
structure Pt where
  x : Int
  y : Int
  deriving DecidableEq, Inhabited
def Pt.d (p : Pt) : D := .agg [.int .i64 p.x, .int .i64 p.y]
theorem pt_get {l : List Pt} {i : Nat} (h : i < l.length) : (List.map Pt.d l).getD i .nilp = .agg [.int .i64 (l.getD i default).x, .int .i64 (l.getD i default).y] := by simp [h, Pt.d]

def Pt.inB (p : Pt) : Bool := decide (0 ≤ p.x) && decide (p.x ≤ 1000) && decide (0 ≤ p.y) && decide (p.y ≤ 1000)
theorem inB_out {p : Pt} (h : p.x < 0 ∨ 1000 < p.x ∨ p.y < 0 ∨ 1000 < p.y) : p.inB = false := by
  rcases h with h | h | h | h <;> simp [Pt.inB] <;> omega
theorem inB_in {p : Pt} (h1 : ¬ p.x < 0) (h2 : ¬ 1000 < p.x) (h3 : ¬ p.y < 0) (h4 : ¬ 1000 < p.y) : p.inB = true := by
  simp [Pt.inB]; omega
theorem all_out {l : List Pt} {k : Nat} (hk : k < l.length) (h : (l.getD k default).inB = false) : l.all Pt.inB = false := by
  have e : l.getD k default = l[k] := by simp [hk]
  rw [e] at h
  rw [List.all_eq_false]
  exact ⟨l[k], List.getElem_mem hk, by simp [h]⟩
theorem all_take {l : List Pt} {k : Nat} (hk : k < l.length) (h0 : (l.take k).all Pt.inB = true) (h : (l.getD k default).inB = true) : (l.take (k + 1)).all Pt.inB = true := by
  have e : l.getD k default = l[k] := by simp [hk]
  rw [e] at h
  rw [List.take_succ_eq_append_getElem hk, List.all_append, h0]
  simp [h]
end Go.Proofs.YtojgjdcciojpeaaGreat
set_option linter.unusedSimpArgs false
set_option linter.unusedVariables false
namespace Go.Proofs.YtojgjdcciojpeaaGreat
open Go Go.PS
set_option maxRecDepth 100000
set_option maxHeartbeats 4000000
/-- The reference's look at letters. -/
theorem letters91 (l : List UInt8) (hl : l.length ≤ 9223372036854775807) : PCall Tryz.prog 91 [.str l] (.bool (lets l)) := by
  refine enterP tabOk Tryz.func91 20 [0, 2, 3, 7, 19] [.tmp 2] rfl (r := [_]) rfl (h := ?_); intro E hK; simp only [go_sem]
  refine wgo ?_
  refine wlp (Run.loopC (ι := { i : Nat // i ≤ l.length ∧ lets (l.take i) = true }) (U := fun i => [(3, .d (.int .i64 i.1))]) (O := fun i => []) (K := fun _ => []) (μ := fun i => l.length - i.1) (i0 := ⟨0, by omega, rfl⟩)) ?_
  rintro ⟨i, hi, hp⟩ ih
  by_cases hlt : i < l.length
  · have h1 : (i : Int) < l.length := by omega
    have hst := lets_step hlt
    cases hb : letB (l.getD i 0) with
    | true =>
      obtain ⟨b1, b2⟩ := letB_iff.1 hb
      have c1 : ¬ ((l.getD i 0).toNat : Int) < 97 := by omega
      have c2 : ¬ 122 < ((l.getD i 0).toNat : Int) := by omega
      simp only [go_sem]
      refine wgoF (And.intro (@h1) (And.intro (@c1) (@c2))) ?_
      exact wnxt (ih ⟨i + 1, by omega, by rw [hst, hp, hb]; rfl⟩)
    | false =>
      have hf := lets_false hlt hb
      have c1 : (decide (((l.getD i 0).toNat : Int) < 97) || decide (122 < ((l.getD i 0).toNat : Int))) = true := by
        have : ¬ (97 ≤ (l.getD i 0).toNat ∧ (l.getD i 0).toNat ≤ 122) := fun h => by rw [letB_iff.2 h] at hb; cases hb
        simp only [Bool.or_eq_true, decide_eq_true_eq]; omega
      simp only [go_sem]
      refine wgoF (And.intro (@h1) (@c1)) ?_
      exact wretF (@hf)
  · have h1 : ¬ (i : Int) < l.length := by omega
    have e : l.take i = l := List.take_of_length_le (by omega)
    rw [e] at hp
    simp only [go_sem]
    refine wgoF (@h1) ?_
    exact wretF (@hp)
def risTo (l : List UInt8) (k : Nat) : Bool := (List.range k).all fun j => decide ((l.getD j 0).toNat < (l.getD (j + 1) 0).toNat)
def ris (l : List UInt8) : Bool := risTo l (l.length - 1)
theorem ris_step (l : List UInt8) (k : Nat) : risTo l (k + 1) = (risTo l k && decide ((l.getD k 0).toNat < (l.getD (k + 1) 0).toNat)) := by
  simp [risTo, List.range_succ, List.all_append]
theorem ris_false {l : List UInt8} {k : Nat} (hk : k + 1 < l.length) (h : ¬ (l.getD k 0).toNat < (l.getD (k + 1) 0).toNat) : ris l = false := by
  rw [Bool.eq_false_iff]; intro ht
  have := List.all_eq_true.1 ht k (by simp; omega)
  exact h (of_decide_eq_true this)
theorem incr84 (l : List UInt8) (hl : l.length ≤ 9223372036854775807) : PCall Tryz.prog 84 [.str l] (.bool (ris l)) := by
  refine enterP tabOk Tryz.func84 18 [0, 2, 3, 7, 17] [.tmp 2] rfl (r := [_]) rfl (h := ?_); intro E hK; simp only [go_sem]
  refine wgo ?_
  refine wlp (Run.loopC (ι := { i : Nat // (i + 1 ≤ l.length ∨ i = 0) ∧ risTo l i = true }) (U := fun i => [(3, .d (.int .i64 ((i.1 : Int) + 1)))]) (O := fun i => []) (K := fun _ => []) (μ := fun i => l.length - i.1) (i0 := ⟨0, by omega, rfl⟩)) ?_
  rintro ⟨i, hi, hp⟩ ih
  by_cases hlt : i + 1 < l.length
  · have h1 : (i : Int) + 1 < l.length := by omega
    have e1 : ((i : Int) + 1).toNat = i + 1 := by omega
    have e2 : ((i : Int) + 1 - 1).toNat = i := by omega
    by_cases c : (l.getD i 0).toNat < (l.getD (i + 1) 0).toNat
    · have c1 : ¬ ((l.getD (i + 1) 0).toNat : Int) ≤ ((l.getD i 0).toNat : Int) := by omega
      simp only [go_sem]
      refine wgoF (And.intro (@h1) (And.intro (@e1) (And.intro (@e2) (@c1)))) ?_
      exact wnxt (ih ⟨i + 1, by omega, by rw [ris_step, hp, decide_eq_true c]; rfl⟩)
    · have c1 : ((l.getD (i + 1) 0).toNat : Int) ≤ ((l.getD i 0).toNat : Int) := by omega
      have hf := ris_false hlt c
      simp only [go_sem]
      refine wgoF (And.intro (@h1) (And.intro (@e1) (And.intro (@e2) (@c1)))) ?_
      exact wretF (@hf)
  · have h1 : ¬ (i : Int) + 1 < l.length := by omega
    have hr : ris l = true := by
      rw [ris, ← hp]; congr 1; omega
    simp only [go_sem]
    refine wgoF (@h1) ?_
    exact wretF (@hr)
theorem ris93 (l : List UInt8) (hl : l.length ≤ 9223372036854775807) : PCall Tryz.prog 93 [.str l] (.bool (ris l)) := by
  refine enterP tabOk Tryz.func93 18 [0, 2, 3, 7, 17] [.tmp 2] rfl (r := [_]) rfl (h := ?_); intro E hK; simp only [go_sem]
  refine wgo ?_
  refine wlp (Run.loopC (ι := { i : Nat // (i + 1 ≤ l.length ∨ i = 0) ∧ risTo l i = true }) (U := fun i => [(3, .d (.int .i64 ((i.1 : Int) + 1)))]) (O := fun i => []) (K := fun _ => []) (μ := fun i => l.length - i.1) (i0 := ⟨0, by omega, rfl⟩)) ?_
  rintro ⟨i, hi, hp⟩ ih
  by_cases hlt : i + 1 < l.length
  · have h1 : (i : Int) + 1 < l.length := by omega
    have e1 : ((i : Int) + 1).toNat = i + 1 := by omega
    have e2 : ((i : Int) + 1 - 1).toNat = i := by omega
    by_cases c : (l.getD i 0).toNat < (l.getD (i + 1) 0).toNat
    · have c1 : ¬ ((l.getD (i + 1) 0).toNat : Int) ≤ ((l.getD i 0).toNat : Int) := by omega
      simp only [go_sem]
      refine wgoF (And.intro (@h1) (And.intro (@e1) (And.intro (@e2) (@c1)))) ?_
      exact wnxt (ih ⟨i + 1, by omega, by rw [ris_step, hp, decide_eq_true c]; rfl⟩)
    · have c1 : ((l.getD (i + 1) 0).toNat : Int) ≤ ((l.getD i 0).toNat : Int) := by omega
      have hf := ris_false hlt c
      simp only [go_sem]
      refine wgoF (And.intro (@h1) (And.intro (@e1) (And.intro (@e2) (@c1)))) ?_
      exact wretF (@hf)
  · have h1 : ¬ (i : Int) + 1 < l.length := by omega
    have hr : ris l = true := by
      rw [ris, ← hp]; congr 1; omega
    simp only [go_sem]
    refine wgoF (@h1) ?_
    exact wretF (@hr)
def inI (n a b : Int) : Bool := decide (a ≤ n) && decide (n ≤ b)
theorem in92 (n a b : Int) : PCall Tryz.prog 92 [.int .i64 n, .int .i64 a, .int .i64 b] (.bool (inI n a b)) := by
  refine enterP tabOk Tryz.func92 15 [0, 1, 2, 6] [.tmp 6] rfl (r := [_]) rfl (h := ?_); intro E hK; simp only [go_sem]
  refine wgo ?_
  exact wretF (@inI.eq_1)
/-- Points within the range. -/
def inL (p : List Pt) : Bool := p.all Pt.inB
theorem coord85 (p : List Pt) (hl : p.length ≤ 9223372036854775807) : PCall Tryz.prog 85 [.sl 2 (p.map Pt.d)] (.bool (inL p)) := by
  refine enterP tabOk Tryz.func85 30 [0, 2, 4, 5, 6, 7, 8, 28] [.tmp 2] rfl (r := [_]) rfl (h := ?_); intro E hK; simp only [go_sem]
  refine wgo ?_
  refine wlp (Run.loopC (ι := { i : Nat // i ≤ p.length ∧ (p.take i).all Pt.inB = true }) (U := fun i => [(7, .d (.int .i64 i.1))]) (O := fun i => []) (K := fun _ => []) (μ := fun i => p.length - i.1) (i0 := ⟨0, by omega, by simp⟩)) ?_
  rintro ⟨i, hi, hp⟩ ih
  by_cases hlt : i < p.length
  · have h1 : (i : Int) < p.length := by omega
    have hget := pt_get hlt
    cases hb : (p.getD i default).inB with
    | true =>
      have hb1 := hb
      simp only [Pt.inB, Bool.and_eq_true, decide_eq_true_eq] at hb1
      have c1 : ¬ (p.getD i default).x < 0 := by omega
      have c2 : ¬ 1000 < (p.getD i default).x := by omega
      have c3 : ¬ (p.getD i default).y < 0 := by omega
      have c4 : ¬ 1000 < (p.getD i default).y := by omega
      simp only [go_sem]
      refine wgoF (And.intro (@h1) (And.intro (@hget) (And.intro (@c1) (And.intro (@c2) (And.intro (@c3) (@c4)))))) ?_
      exact wnxt (ih ⟨i + 1, by omega, all_take hlt hp hb⟩)
    | false =>
      have hf : inL p = false := all_out hlt hb
      have c1 : (((decide ((p.getD i default).x < 0) || decide (1000 < (p.getD i default).x)) || decide ((p.getD i default).y < 0)) || decide (1000 < (p.getD i default).y)) = true := by
        have : ¬ (p.getD i default).inB = true := by rw [hb]; simp
        simp only [Pt.inB, Bool.and_eq_true, decide_eq_true_eq] at this
        simp only [Bool.or_eq_true, decide_eq_true_eq]; omega
      simp only [go_sem]
      refine wgoF (And.intro (@h1) (And.intro (@hget) (@c1))) ?_
      exact wretF (@hf)
  · have h1 : ¬ (i : Int) < p.length := by omega
    have e : p.take i = p := List.take_of_length_le (by omega)
    rw [e] at hp
    have hr : inL p = true := hp
    simp only [go_sem]
    refine wgoF (@h1) ?_
    exact wretF (@hr)
end Go.Proofs.YtojgjdcciojpeaaGreat
set_option linter.unusedSimpArgs false
set_option linter.unusedVariables false
namespace Go.Proofs.YtojgjdcciojpeaaGreat
open Go Go.PS
set_option maxRecDepth 100000
set_option maxHeartbeats 4000000
theorem points94 (p : List Pt) (a b : Int) (hl : p.length ≤ 9223372036854775807) : PCall Tryz.prog 94 [.sl 2 (p.map Pt.d), .int .i64 a, .int .i64 b] (.bool (inL p && inI p.length a b)) := by
  refine enterP tabOk Tryz.func94 35 [0, 1, 2, 6, 7, 11, 29] [.tmp 6] rfl (r := [_]) rfl (h := ?_); intro E hK; simp only [go_sem]
  refine wgo ?_
  refine wlp (Run.loopC (ι := { i : Nat // i ≤ p.length ∧ (p.take i).all Pt.inB = true }) (U := fun i => [(7, .d (.int .i64 i.1))]) (O := fun i => []) (K := fun _ => []) (μ := fun i => p.length - i.1) (i0 := ⟨0, by omega, by simp⟩)) ?_
  rintro ⟨i, hi, hp⟩ ih
  by_cases hlt : i < p.length
  · have h1 : (i : Int) < p.length := by omega
    have hget := pt_get hlt
    have k1 := in92 (p.getD i default).x 0 1000
    have k2 := in92 (p.getD i default).y 0 1000
    have hb1 : (p.getD i default).inB = (inI (p.getD i default).x 0 1000 && inI (p.getD i default).y 0 1000) := by simp [Pt.inB, inI, Bool.and_assoc]
    cases hb : (p.getD i default).inB with
    | true =>
      rw [hb] at hb1
      have hb2 : inI (p.getD i default).x 0 1000 = true ∧ inI (p.getD i default).y 0 1000 = true := by simpa using hb1.symm
      rw [hb2.1] at k1; rw [hb2.2] at k2
      simp only [go_sem]
      refine wgoF (And.intro (@h1) (@hget)) ?_
      refine wcall (k1) ?_
      refine wgoF (And.intro (@h1) (@hget)) ?_
      refine wcall (k2) ?_
      refine wgoF (And.intro (@h1) (@hget)) ?_
      exact wnxt (ih ⟨i + 1, by omega, all_take hlt hp hb⟩)
    | false =>
      have hf : inL p = false := all_out hlt hb
      rw [hb] at hb1
      generalize inI (p.getD i default).x 0 1000 = u at k1 hb1
      generalize inI (p.getD i default).y 0 1000 = v at k2 hb1
      have c1 : (!u || !v) = true := by clear k1 k2; revert hb1; cases u <;> cases v <;> decide
      simp only [go_sem]
      refine wgoF (And.intro (@h1) (@hget)) ?_
      refine wcall (k1) ?_
      refine wgoF (And.intro (@h1) (@hget)) ?_
      refine wscall (k2) ?_
      refine wgoF (And.intro (@h1) (And.intro (@hget) (@c1))) ?_
      exact wretF (@hf)
  · have h1 : ¬ (i : Int) < p.length := by omega
    have e : p.take i = p := List.take_of_length_le (by omega)
    rw [e] at hp
    have hr : inL p = true := hp
    simp only [go_sem]
    refine wgoF (@h1) ?_
    refine wcall (in92 p.length a b) ?_
    refine wgo ?_
    exact wretF (@hr)
/-- An event. -/
structure Ev where
  kind : Int
  keys : List UInt8
  p : List Pt
  text : List UInt8
  n : Int
  l : Int
  deriving DecidableEq, Inhabited
def Ev.d (e : Ev) : D := .agg [.int .i64 e.kind, .str e.keys, .sl 2 (e.p.map Pt.d), .str e.text, .int .i64 e.n, .int .i64 e.l]
def Ev.noK (e : Ev) : Bool := decide (e.keys = [])
def Ev.noP (e : Ev) : Bool := decide ((e.p.length : Int) = 0)
def Ev.noT (e : Ev) : Bool := decide (e.text = [])
def Ev.noN (e : Ev) : Bool := decide (e.n = 0)
def Ev.noL (e : Ev) : Bool := decide (e.l = 0)
def validE (e : Ev) : Bool :=
  if e.kind = 1 then decide ((e.keys.length : Int) = 1) && lets e.keys && e.noP && e.noT && e.noN && e.noL
  else if e.kind = 2 then decide (2 ≤ (e.keys.length : Int)) && decide ((e.keys.length : Int) ≤ 4) && lets e.keys && ris e.keys && e.noP && e.noT && e.noN && e.noL
  else if e.kind = 3 then decide ((e.p.length : Int) = 1) && inL e.p && e.noK && e.noT && e.noN && e.noL
  else if e.kind = 4 then decide (2 ≤ (e.p.length : Int)) && decide ((e.p.length : Int) ≤ 12) && inL e.p && e.noK && e.noT && e.noN && e.noL
  else if e.kind = 5 then decide (1 ≤ (e.text.length : Int)) && decide ((e.text.length : Int) ≤ 20) && lets e.text && e.noK && e.noP && e.noN && e.noL
  else if e.kind = 9 then decide (0 ≤ e.n) && decide (e.n < 40) && decide (1 ≤ e.l) && decide (e.l ≤ 40) && e.noK && e.noP && e.noT
  else if e.kind = 10 then decide (0 ≤ e.n) && decide (e.n < 50) && e.noK && e.noP && e.noT && e.noL
  else if e.kind = 6 ∨ e.kind = 7 ∨ e.kind = 8 ∨ e.kind = 11 ∨ e.kind = 12 then e.noK && e.noP && e.noT && e.noN && e.noL
  else false
attribute [go_sem] Ev.noK Ev.noP Ev.noT Ev.noN Ev.noL
def Ev.lok (e : Ev) : Prop := e.keys.length ≤ 9223372036854775807 ∧ e.p.length ≤ 9223372036854775807 ∧ e.text.length ≤ 9223372036854775807
theorem cast0 : ((0 : Nat) : Int) = 0 := rfl
attribute [go_sem] cast0
theorem len0 {α : Type} (l : List α) : decide ((l.length : Int) = 0) = decide (l = []) := by cases l <;> simp; omega
theorem valid62 (e : Ev) (hl : e.lok) : PCall Tryz.prog 62 [e.d] (.bool (validE e)) := by
  obtain ⟨l1, l2, l3⟩ := hl
  obtain ⟨k, keys, p, text, n, l⟩ := e
  dsimp only at l1 l2 l3
  by_cases h1 : k = 1
  · subst h1
    refine enterP tabOk Tryz.func62 155 [0, 1, 2, 3, 5, 6, 18, 41, 53, 71, 89, 111, 122] [.tmp 2] rfl (r := [_]) rfl (h := ?_); intro E hK; simp only [go_sem]
    refine wgoF (@Ev.d.eq_1) ?_
    refine wscall (letters83 keys) ?_
    refine wgo ?_
    refine wretq ?_
    simp only [validE, go_sem, Bool.and_assoc]
  by_cases h2 : k = 2
  · subst h2
    refine enterP tabOk Tryz.func62 155 [0, 1, 2, 3, 5, 6, 18, 41, 53, 71, 89, 111, 122] [.tmp 2] rfl (r := [_]) rfl (h := ?_); intro E hK; simp only [go_sem]
    refine wgoF (@Ev.d.eq_1) ?_
    refine wscall (letters83 keys) ?_
    refine wgo ?_
    refine wscall (incr84 keys l1) ?_
    refine wgo ?_
    refine wretq ?_
    simp only [validE, go_sem, Bool.and_assoc]
  by_cases h3 : k = 3
  · subst h3
    refine enterP tabOk Tryz.func62 155 [0, 1, 2, 3, 5, 6, 18, 41, 53, 71, 89, 111, 122] [.tmp 2] rfl (r := [_]) rfl (h := ?_); intro E hK; simp only [go_sem]
    refine wgoF (@Ev.d.eq_1) ?_
    refine wscall (coord85 p l2) ?_
    refine wgo ?_
    refine wretq ?_
    simp only [validE, go_sem, Bool.and_assoc]
  by_cases h4 : k = 4
  · subst h4
    refine enterP tabOk Tryz.func62 155 [0, 1, 2, 3, 5, 6, 18, 41, 53, 71, 89, 111, 122] [.tmp 2] rfl (r := [_]) rfl (h := ?_); intro E hK; simp only [go_sem]
    refine wgoF (@Ev.d.eq_1) ?_
    refine wscall (coord85 p l2) ?_
    refine wgo ?_
    refine wretq ?_
    simp only [validE, go_sem, Bool.and_assoc]
  by_cases h5 : k = 5
  · subst h5
    refine enterP tabOk Tryz.func62 155 [0, 1, 2, 3, 5, 6, 18, 41, 53, 71, 89, 111, 122] [.tmp 2] rfl (r := [_]) rfl (h := ?_); intro E hK; simp only [go_sem]
    refine wgoF (@Ev.d.eq_1) ?_
    refine wscall (letters83 text) ?_
    refine wgo ?_
    refine wretq ?_
    simp only [validE, go_sem, Bool.and_assoc]
  by_cases h9 : k = 9
  · subst h9
    refine enterP tabOk Tryz.func62 155 [0, 1, 2, 3, 5, 6, 18, 41, 53, 71, 89, 111, 122] [.tmp 2] rfl (r := [_]) rfl (h := ?_); intro E hK; simp only [go_sem]
    refine wgoF (@Ev.d.eq_1) ?_
    refine wretq ?_
    simp only [validE, go_sem, Bool.and_assoc]
  by_cases h10 : k = 10
  · subst h10
    refine enterP tabOk Tryz.func62 155 [0, 1, 2, 3, 5, 6, 18, 41, 53, 71, 89, 111, 122] [.tmp 2] rfl (r := [_]) rfl (h := ?_); intro E hK; simp only [go_sem]
    refine wgoF (@Ev.d.eq_1) ?_
    refine wretq ?_
    simp only [validE, go_sem, Bool.and_assoc]
  by_cases h6 : k = 6 ∨ k = 7 ∨ k = 8 ∨ k = 11 ∨ k = 12
  · have hr : validE ⟨k, keys, p, text, n, l⟩ = (decide (keys = []) && (decide ((p.length : Int) = 0) && (decide (text = []) && (decide (n = 0) && decide (l = 0))))) := by
      unfold validE; dsimp only
      rw [if_neg h1, if_neg h2, if_neg h3, if_neg h4, if_neg h5, if_neg h9, if_neg h10, if_pos h6]
      simp only [Ev.noK, Ev.noP, Ev.noT, Ev.noN, Ev.noL, Bool.and_assoc]
    rcases h6 with h | h | h | h | h <;> subst h
    all_goals
      refine enterP tabOk Tryz.func62 155 [0, 1, 2, 3, 5, 6, 18, 41, 53, 71, 89, 111, 122] [.tmp 2] rfl (r := [_]) rfl (h := ?_); intro E hK; simp only [go_sem]
      refine wgoF (@Ev.d.eq_1) ?_
      refine wretqF (@Bool.and_assoc) ?_
      rw [hr]
  · have hr : validE ⟨k, keys, p, text, n, l⟩ = false := by
      unfold validE; dsimp only
      rw [if_neg h1, if_neg h2, if_neg h3, if_neg h4, if_neg h5, if_neg h9, if_neg h10, if_neg h6]
    have h6a : ¬ k = 6 := by omega
    have h6b : ¬ k = 7 := by omega
    have h6c : ¬ k = 8 := by omega
    have h6d : ¬ k = 11 := by omega
    have h6e : ¬ k = 12 := by omega
    refine enterP tabOk Tryz.func62 155 [0, 1, 2, 3, 5, 6, 18, 41, 53, 71, 89, 111, 122] [.tmp 2] rfl (r := [_]) rfl (h := ?_); intro E hK; simp only [go_sem]
    refine wgoF (And.intro (@Ev.d.eq_1) (And.intro (@h1) (And.intro (@h2) (And.intro (@h3) (And.intro (@h4) (And.intro (@h5) (And.intro (@h9) (And.intro (@h10) (And.intro (@h6a) (And.intro (@h6b) (And.intro (@h6c) (And.intro (@h6d) (@h6e))))))))))))) ?_
    exact wretF (@hr)
end Go.Proofs.YtojgjdcciojpeaaGreat
namespace Go.PS
open Go Go.RowKit
set_option linter.unusedVariables false
set_option linter.unusedSimpArgs false

/-- What was grown of a token reads as data. -/
def killLeaf (t : Nat) : PV → PV
  | .own sz xs (.tok n) => if n = t then .d (.sl sz xs) else .own sz xs (.tok n)
  | .own sz xs .full => .own sz xs .full
  | .hp i k off => .hp i k off
  | .hrow i s lo len cap => .hrow i s lo len cap
  | .hmap i => .hmap i
  | .d x => .d x
  | .agg cs => .agg cs
  | .tup cs => .tup cs
  | .fn f a b => .fn f a b
  | .any => .any
theorem killLeaf_ok (t : Nat) : LeafOk (killLeaf t) := by
  intro x cs hx h
  cases x <;> simp only [PV.leaf, reduceCtorEq] at hx <;> try (cases h; done)
  rename_i sz xs tk
  cases tk with
  | full => cases h
  | tok n =>
    simp only [killLeaf] at h
    split at h <;> cases h
def delTk (t : Nat) : List (Nat × TS) → List (Nat × TS)
  | [] => []
  | (i, v) :: l => if i = t then delTk t l else (i, v) :: delTk t l
theorem lk_delTk (t : Nat) : ∀ (l : List (Nat × TS)) (i : Nat), lk .never (delTk t l) i = if i = t then .never else lk .never l i
  | [], i => by simp [delTk, lk]
  | (j, v) :: l, i => by
    have ih := lk_delTk t l i
    simp only [delTk]
    by_cases hj : j = t
    · rw [if_pos hj, ih]
      by_cases hi : i = t
      · rw [if_pos hi, if_pos hi]
      · rw [if_neg hi, if_neg hi]; simp only [lk]; rw [if_neg (by omega)]
    · rw [if_neg hj]
      simp only [lk]
      by_cases hij : i = j
      · subst hij; rw [if_pos rfl, if_neg hj, if_pos rfl]
      · rw [if_neg hij, ih, if_neg hij]
def SL.kill (s : SL) (t : Nat) : SL := ⟨mapTm (killLeaf t) s.tm, mapOb (killLeaf t) s.ob, delTk t s.tk⟩
theorem SLe.kill {E : Env} {s : SL} (t : Nat) : SLe E s (s.kill t) := by
  intro γ own a w hC
  let γ' : Gh := ⟨γ.K, γ.m, fun n => if n = t then none else γ.τ n⟩
  have hleaf : ∀ (x : PV) (v : Value), x.leaf = true → Rep γ x v → Rep γ' (killLeaf t x) v := by
    intro x v hx h
    cases h with
    | d h => exact .d h
    | @own sz xs tk v h ht =>
      cases tk with
      | full => exact .own h ht
      | tok n =>
        simp only [killLeaf]
        split
        · exact .d h
        · rename_i hn
          refine .own h ?_
          show (if n = t then none else γ.τ n) = some v
          rw [if_neg hn]; exact ht
    | agg => cases hx
    | tup => cases hx
    | hp h => exact .hp h
    | hrow h h1 h2 => exact .hrow h h1 h2
    | hmap h => exact .hmap h
    | fn => cases hx
    | any => cases hx
  have hw := hC.world
  have htk : ∀ n, (SL.of (s.kill t)).tk n = if n = t then .never else s.of.tk n := fun n => lk_delTk t s.tk n
  refine ⟨γ', own, hC.defers, hC.size, fun i => ?_, ?_⟩
  · change Rep _ (lk .any (mapTm _ s.tm) i) _
    rw [lk_mapTm]
    exact mapv_rep hleaf (hC.tm i)
  · refine ⟨hw.k0, hw.knew, hw.ksub, hw.below, ?_, ?_, hw.inj, ?_, ?_, ?_, hw.pas, ?_⟩
    · intro i o' hio
      have hio' : lk none (mapOb _ s.ob) i = some o' := hio
      rw [lk_mapOb] at hio'
      simp only [Option.map_eq_some_iff] at hio'
      obtain ⟨o1, ho1, rfl⟩ := hio'
      obtain ⟨blk, cs, hm, hok⟩ := hw.obj i o1 ho1
      exact ⟨blk, cs, hm, hok.mapv (killLeaf_ok _) hleaf fun off => hok.free off⟩
    · intro i hio
      have hio' : lk none (mapOb _ s.ob) i = none := hio
      rw [lk_mapOb] at hio'
      simp only [Option.map_eq_none_iff] at hio'
      exact hw.nob i hio'
    · intro n e sz hn
      rw [htk] at hn
      split at hn
      · cases hn
      · rename_i hne
        obtain ⟨v, hv, hok⟩ := hw.tok n e sz hn
        refine ⟨v, by show (if n = t then none else γ.τ n) = some v; rw [if_neg hne]; exact hv, ?_⟩
        cases ho : own n with
        | none => rw [ho] at hok; exact hok
        | some g =>
          rw [ho] at hok
          obtain ⟨m, cap, cur, hok⟩ := hok
          exact ⟨m, cap, cur, hok.keep rfl (fun off h => hok.free off h) fun i s h => hok.noobj i s h⟩
    · intro n n' e e' s1 s2 g hn hn'
      rw [htk] at hn hn'
      split at hn
      · cases hn
      · split at hn'
        · cases hn'
        · exact hw.tinj n n' e e' s1 s2 g hn hn'
    · intro n hn
      show (if n = t then none else γ.τ n) = none
      rw [htk] at hn
      split
      · rfl
      · rename_i hne
        rw [if_neg hne] at hn
        exact hw.ntok n hn
    · intro n e sz v h3 hn hτ ho
      rw [htk] at hn
      split at hn
      · cases hn
      · rename_i hne
        have hτ' : γ.τ n = some v := by
          have : (if n = t then none else γ.τ n) = some v := hτ
          rw [if_neg hne] at this; exact this
        exact hw.tmine n e sz v h3 hn hτ' ho
theorem kill_def (tm ob tk) (t : Nat) : SL.kill ⟨tm, ob, tk⟩ t = ⟨mapTm (killLeaf t) tm, mapOb (killLeaf t) ob, delTk t tk⟩ := rfl
theorem kill_D (t : Nat) (l : List D) : PV.mapv.mapL (killLeaf t) (l.map PV.ofD.PV.ofD1) = l.map PV.ofD.PV.ofD1 := mapL_D (fun _ => rfl) l
theorem kill_rI (t : Nat) (l : List Int) : PV.mapv.mapL (killLeaf t) (rI l) = rI l := by rw [rI_ofD1]; exact kill_D _ _
/-- The token t takes the place of an elder one. -/
theorem Run.retok {P : Program} {E : Env} {fn : Func} {f : FuncId} {r : List D} {k : List Item} {s s1 s' : SL} (t t' : Nat) {e : TypeId} {size : Nat} (hk : s.kill t' = s1) (ht : lk .never s1.tk t = .live e size) (ht' : lk .never s1.tk t' = .never) (hs : s1.ren t t' e size = s')
    (h : Run P E fn f r k s'.of) : Run P E fn f r k s.of := by
  subst hk; subst hs
  exact Run.le ((SLe.kill t').trans (SLe.ren t t' ht ht')) h
theorem dle_self (x : D) : dle x x = True := eq_true (dle_refl x)
attribute [go_sem] dle_self
attribute [go_sem] kill_def killLeaf delTk kill_D kill_rI
end Go.PS
set_option linter.unusedSimpArgs false
set_option linter.unusedVariables false
namespace Go.Proofs.YtojgjdcciojpeaaGreat
open Go Go.PS
set_option maxRecDepth 100000
set_option maxHeartbeats 4000000
structure Ch where
  k : Int
  c : Int
  deriving DecidableEq, Inhabited
def Ch.d (c : Ch) : D := .agg [.int .u8 c.k, .int .i64 c.c]
theorem ch_get {l : List Ch} {i : Nat} (h : i < l.length) : (List.map Ch.d l).getD i .nilp = .agg [.int .u8 (l.getD i default).k, .int .i64 (l.getD i default).c] := by simp [h, Ch.d]
/-- A slot. -/
def slD (s : List Ch) : D := .sl 2 (s.map Ch.d)
def slsD (l : List (List Ch)) : D := .sl 1 (l.map slD)
theorem sl_get {l : List (List Ch)} {i : Nat} (h : i < l.length) : (List.map slD l).getD i .nilp = .sl 2 ((l.getD i []).map Ch.d) := by simp [h, slD]
theorem repL_split {γ : Gh} {a b : List PV} {vs : List Value} (h : RepL γ (a ++ b) vs) : ∃ v1 v2, vs = v1 ++ v2 ∧ RepL γ a v1 ∧ RepL γ b v2 := by
  have hl := h.1
  simp only [List.length_append] at hl
  refine ⟨vs.take a.length, vs.drop a.length, (List.take_append_drop _ _).symm, ⟨by simp; omega, fun i c v hc hv => ?_⟩, ⟨by simp; omega, fun i c v hc hv => ?_⟩⟩
  · have hi := (List.getElem?_eq_some_iff.1 hc).1
    rw [List.getElem?_take_of_lt hi] at hv
    exact h.2 i c v (by rw [List.getElem?_append_left hi]; exact hc) hv
  · rw [List.getElem?_drop] at hv
    exact h.2 (a.length + i) c v (by rw [List.getElem?_append_right (by omega)]; simpa using hc) hv
theorem reOb_list (γ : Gh) : ∀ (els els' : List PV) (cs : List Value), els.length = els'.length → (∀ (i : Nat) (x y : PV), els[i]? = some x → els'[i]? = some y → ∀ vs, RepL γ x.cells vs → RepL γ y.cells vs) → RepL γ (flat els) cs → RepL γ (flat els') cs
  | [], [], cs, _, _, h => h
  | x :: xs, y :: ys, cs, hl, hp, h => by
    rw [show flat (x :: xs) = x.cells ++ flat xs from by simp [flat]] at h
    rw [show flat (y :: ys) = y.cells ++ flat ys from by simp [flat]]
    obtain ⟨v1, v2, rfl, h1, h2⟩ := repL_split h
    exact (hp 0 x y rfl rfl v1 h1).append (reOb_list γ xs ys v2 (by simpa using hl) (fun i a b ha hb => hp (i + 1) a b (by simpa using ha) (by simpa using hb)) h2)
  | [], _ :: _, _, hl, _, _ => by simp at hl
  | _ :: _, [], _, hl, _, _ => by simp at hl
theorem reOb_own (R : List D) (i sz : Nat) (xs : List D) (t : Tok) (γ : Gh) (cs : List Value) (h : RepL γ (flat ((R.map PV.ofD.PV.ofD1).set i (.own sz xs t))) cs) : RepL γ (flat ((R.set i (.sl sz xs)).map PV.ofD.PV.ofD1)) cs := by
  refine reOb_list γ _ _ cs (by simp) (fun j x y hx hy vs hv => ?_) h
  rw [List.map_set] at hy
  by_cases hij : i = j
  · subst hij
    have hi : i < R.length := by have := (List.getElem?_eq_some_iff.1 hx).1; simpa using this
    rw [List.getElem?_set_self (by simpa using hi)] at hx hy
    cases hx; cases hy
    simp only [PV.cells, PV.ofD.PV.ofD1] at hv ⊢
    obtain ⟨v, vs', rfl, h1, h2⟩ := hv.cons_inv
    exact .cons (by cases h1 with | own h ht => exact .d h) h2
  · rw [List.getElem?_set_ne hij] at hx hy
    rw [hx] at hy; cases hy; exact hv
theorem len_own (R : List D) (i sz n : Nat) (xs : List D) (t : Tok) (h : ∀ e ∈ R, e.cells.length = n) (hn : n = 1) : ∀ e ∈ (R.set i (.sl sz xs)).map PV.ofD.PV.ofD1, e.cells.length = n := by
  intro e he
  obtain ⟨d, hd, rfl⟩ := List.mem_map.1 he
  rcases List.mem_or_eq_of_mem_set hd with h1 | rfl
  · have := h d h1
    rw [← this]; cases d <;> simp [PV.ofD.PV.ofD1, PV.cells, D.cells]
  · subst hn; rfl
end Go.Proofs.YtojgjdcciojpeaaGreat
