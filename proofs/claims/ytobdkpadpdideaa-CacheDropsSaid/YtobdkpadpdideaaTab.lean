/-
  A part of the walks of this seat: each theorem says what a function of the program gives. No condition beyond its own premises.
-/
import Derived.Test.YtobdkpadpdideaaPure17
import Derived.Test.YtobdkpadpdideaaChecked
import Derived.KernelRfl
namespace Go.Proofs.Ytobdkpadpdideaa
open Go Go.PS
def tab : List (Nat × TI) := [
  (1, ⟨1, 8, .func, .nilFunc, false⟩),
  (2, ⟨1, 8, .int .i64, .int .i64 0, false⟩),
  (3, ⟨1, 8, .int .i64, .int .i64 0, false⟩),
  (4, ⟨1, 1, .bool, .bool false, false⟩),
  (5, ⟨1, 1, .int .u8, .int .u8 0, false⟩),
  (9, ⟨1, 16, .str, .string ⟨#[]⟩, false⟩),
  (12, ⟨1, 8, .int .u64, .int .u64 0, false⟩),
  (20, ⟨1, 16, .iface, .nilIface, false⟩),
  (21, ⟨1, 4, .int .i32, .int .i32 0, false⟩),
  (22, ⟨1, 24, .slice 31, .slice none 0 0, false⟩),
  (23, ⟨1, 8, .func, .nilFunc, false⟩),
  (24, ⟨1, 24, .slice 9, .slice none 0 0, false⟩),
  (25, ⟨3, 56, .struct [(0, 3), (1, 24), (2, 24)], .agg #[.int .i64 0, .slice none 0 0, .slice none 0 0], true⟩),
  (26, ⟨3, 56, .struct [(0, 3), (1, 24), (2, 24)], .agg #[.int .i64 0, .slice none 0 0, .slice none 0 0], true⟩),
  (27, ⟨2, 32, .struct [(0, 9), (1, 9)], .agg #[.string ⟨#[]⟩, .string ⟨#[]⟩], true⟩),
  (28, ⟨2, 32, .struct [(0, 9), (1, 9)], .agg #[.string ⟨#[]⟩, .string ⟨#[]⟩], true⟩),
  (29, ⟨1, 8, .func, .nilFunc, false⟩),
  (30, ⟨4, 4, .struct [(0, 5), (1, 5), (2, 5), (3, 4)], .agg #[.int .u8 0, .int .u8 0, .int .u8 0, .bool false], true⟩),
  (31, ⟨4, 4, .struct [(0, 5), (1, 5), (2, 5), (3, 4)], .agg #[.int .u8 0, .int .u8 0, .int .u8 0, .bool false], true⟩),
  (32, ⟨5, 80, .struct [(0, 26), (3, 9), (4, 4)], .agg #[.int .i64 0, .slice none 0 0, .slice none 0 0, .string ⟨#[]⟩, .bool false], true⟩),
  (33, ⟨5, 80, .struct [(0, 26), (3, 9), (4, 4)], .agg #[.int .i64 0, .slice none 0 0, .slice none 0 0, .string ⟨#[]⟩, .bool false], true⟩),
  (34, ⟨1, 8, .func, .nilFunc, false⟩),
  (35, ⟨1, 8, .func, .nilFunc, false⟩),
  (36, ⟨1, 8, .func, .nilFunc, false⟩),
  (37, ⟨1, 8, .func, .nilFunc, false⟩),
  (38, ⟨1, 8, .func, .nilFunc, false⟩),
  (39, ⟨1, 8, .func, .nilFunc, false⟩),
  (40, ⟨1, 8, .func, .nilFunc, false⟩),
  (41, ⟨1, 8, .func, .nilFunc, false⟩),
  (42, ⟨1, 8, .func, .nilFunc, false⟩),
  (43, ⟨1, 8, .func, .nilFunc, false⟩),
  (44, ⟨1, 8, .func, .nilFunc, false⟩),
  (45, ⟨1, 24, .slice 28, .slice none 0 0, false⟩),
  (46, ⟨1, 8, .func, .nilFunc, false⟩),
  (47, ⟨1, 8, .func, .nilFunc, false⟩),
  (48, ⟨1, 8, .func, .nilFunc, false⟩),
  (49, ⟨1, 8, .func, .nilFunc, false⟩),
  (50, ⟨1, 8, .func, .nilFunc, false⟩),
  (52, ⟨1, 8, .func, .nilFunc, false⟩),
  (53, ⟨1, 8, .func, .nilFunc, false⟩),
  (54, ⟨1, 8, .func, .nilFunc, false⟩),
  (55, ⟨1, 8, .func, .nilFunc, false⟩),
  (56, ⟨1, 8, .func, .nilFunc, false⟩),
  (57, ⟨1, 8, .func, .nilFunc, false⟩),
  (58, ⟨1, 8, .func, .nilFunc, false⟩),
  (59, ⟨1, 8, .func, .nilFunc, false⟩),
  (60, ⟨1, 24, .slice 24, .slice none 0 0, false⟩),
  (61, ⟨1, 8, .func, .nilFunc, false⟩),
  (67, ⟨1, 8, .func, .nilFunc, false⟩),
  (68, ⟨1, 4, .int .u32, .int .u32 0, false⟩),
  (72, ⟨1, 8, .ptr 5, .pointer none, false⟩)]
def T (t : Nat) : Option TI := lk none (tab.map fun x => (x.1, some x.2)) t
theorem tab_eq : tab.map (fun x => tabOf Try.prog x.1) = tab.map (fun x => some x.2) := by kernel_rfl
@[go_sem] theorem T1 : T 1 = some ⟨1, 8, .func, .nilFunc, false⟩ := rfl
@[go_sem] theorem T2 : T 2 = some ⟨1, 8, .int .i64, .int .i64 0, false⟩ := rfl
@[go_sem] theorem T3 : T 3 = some ⟨1, 8, .int .i64, .int .i64 0, false⟩ := rfl
@[go_sem] theorem T4 : T 4 = some ⟨1, 1, .bool, .bool false, false⟩ := rfl
@[go_sem] theorem T5 : T 5 = some ⟨1, 1, .int .u8, .int .u8 0, false⟩ := rfl
@[go_sem] theorem T9 : T 9 = some ⟨1, 16, .str, .string ⟨#[]⟩, false⟩ := rfl
@[go_sem] theorem T12 : T 12 = some ⟨1, 8, .int .u64, .int .u64 0, false⟩ := rfl
@[go_sem] theorem T20 : T 20 = some ⟨1, 16, .iface, .nilIface, false⟩ := rfl
@[go_sem] theorem T21 : T 21 = some ⟨1, 4, .int .i32, .int .i32 0, false⟩ := rfl
@[go_sem] theorem T22 : T 22 = some ⟨1, 24, .slice 31, .slice none 0 0, false⟩ := rfl
@[go_sem] theorem T23 : T 23 = some ⟨1, 8, .func, .nilFunc, false⟩ := rfl
@[go_sem] theorem T24 : T 24 = some ⟨1, 24, .slice 9, .slice none 0 0, false⟩ := rfl
@[go_sem] theorem T25 : T 25 = some ⟨3, 56, .struct [(0, 3), (1, 24), (2, 24)], .agg #[.int .i64 0, .slice none 0 0, .slice none 0 0], true⟩ := rfl
@[go_sem] theorem T26 : T 26 = some ⟨3, 56, .struct [(0, 3), (1, 24), (2, 24)], .agg #[.int .i64 0, .slice none 0 0, .slice none 0 0], true⟩ := rfl
@[go_sem] theorem T27 : T 27 = some ⟨2, 32, .struct [(0, 9), (1, 9)], .agg #[.string ⟨#[]⟩, .string ⟨#[]⟩], true⟩ := rfl
@[go_sem] theorem T28 : T 28 = some ⟨2, 32, .struct [(0, 9), (1, 9)], .agg #[.string ⟨#[]⟩, .string ⟨#[]⟩], true⟩ := rfl
@[go_sem] theorem T29 : T 29 = some ⟨1, 8, .func, .nilFunc, false⟩ := rfl
@[go_sem] theorem T30 : T 30 = some ⟨4, 4, .struct [(0, 5), (1, 5), (2, 5), (3, 4)], .agg #[.int .u8 0, .int .u8 0, .int .u8 0, .bool false], true⟩ := rfl
@[go_sem] theorem T31 : T 31 = some ⟨4, 4, .struct [(0, 5), (1, 5), (2, 5), (3, 4)], .agg #[.int .u8 0, .int .u8 0, .int .u8 0, .bool false], true⟩ := rfl
@[go_sem] theorem T32 : T 32 = some ⟨5, 80, .struct [(0, 26), (3, 9), (4, 4)], .agg #[.int .i64 0, .slice none 0 0, .slice none 0 0, .string ⟨#[]⟩, .bool false], true⟩ := rfl
@[go_sem] theorem T33 : T 33 = some ⟨5, 80, .struct [(0, 26), (3, 9), (4, 4)], .agg #[.int .i64 0, .slice none 0 0, .slice none 0 0, .string ⟨#[]⟩, .bool false], true⟩ := rfl
@[go_sem] theorem T34 : T 34 = some ⟨1, 8, .func, .nilFunc, false⟩ := rfl
@[go_sem] theorem T35 : T 35 = some ⟨1, 8, .func, .nilFunc, false⟩ := rfl
@[go_sem] theorem T36 : T 36 = some ⟨1, 8, .func, .nilFunc, false⟩ := rfl
@[go_sem] theorem T37 : T 37 = some ⟨1, 8, .func, .nilFunc, false⟩ := rfl
@[go_sem] theorem T38 : T 38 = some ⟨1, 8, .func, .nilFunc, false⟩ := rfl
@[go_sem] theorem T39 : T 39 = some ⟨1, 8, .func, .nilFunc, false⟩ := rfl
@[go_sem] theorem T40 : T 40 = some ⟨1, 8, .func, .nilFunc, false⟩ := rfl
@[go_sem] theorem T41 : T 41 = some ⟨1, 8, .func, .nilFunc, false⟩ := rfl
@[go_sem] theorem T42 : T 42 = some ⟨1, 8, .func, .nilFunc, false⟩ := rfl
@[go_sem] theorem T43 : T 43 = some ⟨1, 8, .func, .nilFunc, false⟩ := rfl
@[go_sem] theorem T44 : T 44 = some ⟨1, 8, .func, .nilFunc, false⟩ := rfl
@[go_sem] theorem T45 : T 45 = some ⟨1, 24, .slice 28, .slice none 0 0, false⟩ := rfl
@[go_sem] theorem T46 : T 46 = some ⟨1, 8, .func, .nilFunc, false⟩ := rfl
@[go_sem] theorem T47 : T 47 = some ⟨1, 8, .func, .nilFunc, false⟩ := rfl
@[go_sem] theorem T48 : T 48 = some ⟨1, 8, .func, .nilFunc, false⟩ := rfl
@[go_sem] theorem T49 : T 49 = some ⟨1, 8, .func, .nilFunc, false⟩ := rfl
@[go_sem] theorem T50 : T 50 = some ⟨1, 8, .func, .nilFunc, false⟩ := rfl
@[go_sem] theorem T52 : T 52 = some ⟨1, 8, .func, .nilFunc, false⟩ := rfl
@[go_sem] theorem T53 : T 53 = some ⟨1, 8, .func, .nilFunc, false⟩ := rfl
@[go_sem] theorem T54 : T 54 = some ⟨1, 8, .func, .nilFunc, false⟩ := rfl
@[go_sem] theorem T55 : T 55 = some ⟨1, 8, .func, .nilFunc, false⟩ := rfl
@[go_sem] theorem T56 : T 56 = some ⟨1, 8, .func, .nilFunc, false⟩ := rfl
@[go_sem] theorem T57 : T 57 = some ⟨1, 8, .func, .nilFunc, false⟩ := rfl
@[go_sem] theorem T58 : T 58 = some ⟨1, 8, .func, .nilFunc, false⟩ := rfl
@[go_sem] theorem T59 : T 59 = some ⟨1, 8, .func, .nilFunc, false⟩ := rfl
@[go_sem] theorem T60 : T 60 = some ⟨1, 24, .slice 24, .slice none 0 0, false⟩ := rfl
@[go_sem] theorem T61 : T 61 = some ⟨1, 8, .func, .nilFunc, false⟩ := rfl
@[go_sem] theorem T67 : T 67 = some ⟨1, 8, .func, .nilFunc, false⟩ := rfl
@[go_sem] theorem T68 : T 68 = some ⟨1, 4, .int .u32, .int .u32 0, false⟩ := rfl
@[go_sem] theorem T72 : T 72 = some ⟨1, 8, .ptr 5, .pointer none, false⟩ := rfl
theorem tabOk : TabOk Try.prog T := by
  intro t ti hT
  have key : ∀ l : List (Nat × TI), lk none (l.map fun x => (x.1, some x.2)) t = some ti → (t, ti) ∈ l := by
    intro l
    induction l with
    | nil => intro h; cases h
    | cons x l ih =>
      intro h
      simp only [List.map_cons, lk] at h
      split at h
      · rename_i e; cases h; subst e; exact List.mem_cons_self
      · exact List.mem_cons_of_mem _ (ih h)
  exact List.map_inj_left.1 tab_eq _ (key tab hT)
end Go.Proofs.Ytobdkpadpdideaa
