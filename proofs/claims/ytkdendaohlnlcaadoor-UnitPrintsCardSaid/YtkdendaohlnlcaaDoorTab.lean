/- The types of the translation, as the theory wants them: they are the program's. No condition. -/
import Derived.Test.YtkdendaohlnlcaaDoorAv13
import Derived.Test.YtkdendaohlnlcaaDoorChecked
import Derived.Eval
namespace Go.Proofs.YtkdendaohlnlcaaDoor.Av

def tab : Tab
  | 1 => some ⟨.func, 1, 8, .nilFunc⟩
  | 2 => some ⟨.int .i64, 1, 8, .int .i64 0⟩
  | 3 => some ⟨.int .i64, 1, 8, .int .i64 0⟩
  | 4 => some ⟨.bool, 1, 1, .bool false⟩
  | 5 => some ⟨.int .u8, 1, 1, .int .u8 0⟩
  | 6 => some ⟨.int .u8, 1, 1, .int .u8 0⟩
  | 7 => some ⟨.struct [(0, 2), (1, 3), (2, 4), (3, 6)], 4, 24, .agg #[.int .i64 0, .int .i64 0, .bool false, .int .u8 0]⟩
  | 8 => some ⟨.struct [(0, 2), (1, 3), (2, 4), (3, 6)], 4, 24, .agg #[.int .i64 0, .int .i64 0, .bool false, .int .u8 0]⟩
  | 9 => some ⟨.string, 1, 16, .string ⟨#[]⟩⟩
  | 10 => some ⟨.string, 1, 16, .string ⟨#[]⟩⟩
  | 11 => some ⟨.string, 1, 16, .string ⟨#[]⟩⟩
  | 12 => some ⟨.int .u64, 1, 8, .int .u64 0⟩
  | 13 => some ⟨.struct [(0, 9), (1, 12)], 2, 24, .agg #[.string ⟨#[]⟩, .int .u64 0]⟩
  | 14 => some ⟨.struct [(0, 9), (1, 12)], 2, 24, .agg #[.string ⟨#[]⟩, .int .u64 0]⟩
  | 15 => some ⟨.pointer 95, 1, 8, .pointer none⟩
  | 16 => some ⟨.pointer 98, 1, 8, .pointer none⟩
  | 17 => some ⟨.pointer 105, 1, 8, .pointer none⟩
  | 18 => some ⟨.struct [(0, 17)], 1, 8, .agg #[.pointer none]⟩
  | 19 => some ⟨.struct [(0, 17)], 1, 8, .agg #[.pointer none]⟩
  | 20 => some ⟨.iface 0, 1, 16, .nilIface⟩
  | 21 => some ⟨.int .i32, 1, 4, .int .i32 0⟩
  | 22 => some ⟨.slice 9, 1, 24, .slice none 0 0⟩
  | 23 => some ⟨.slice 25, 1, 24, .slice none 0 0⟩
  | 24 => some ⟨.struct [(0, 3), (1, 3), (2, 23)], 3, 40, .agg #[.int .i64 0, .int .i64 0, .slice none 0 0]⟩
  | 25 => some ⟨.struct [(0, 3), (1, 3), (2, 23)], 3, 40, .agg #[.int .i64 0, .int .i64 0, .slice none 0 0]⟩
  | 26 => some ⟨.slice 45, 1, 24, .slice none 0 0⟩
  | 27 => some ⟨.struct [(0, 22), (1, 25), (4, 26)], 5, 88, .agg #[.slice none 0 0, .int .i64 0, .int .i64 0, .slice none 0 0, .slice none 0 0]⟩
  | 28 => some ⟨.struct [(0, 22), (1, 25), (4, 26)], 5, 88, .agg #[.slice none 0 0, .int .i64 0, .int .i64 0, .slice none 0 0, .slice none 0 0]⟩
  | 29 => some ⟨.int .i64, 1, 8, .int .i64 0⟩
  | 31 => some ⟨.func, 1, 8, .nilFunc⟩
  | 32 => some ⟨.func, 1, 8, .nilFunc⟩
  | 33 => some ⟨.func, 1, 8, .nilFunc⟩
  | 34 => some ⟨.pointer 37, 1, 8, .pointer none⟩
  | 35 => some ⟨.slice 5, 1, 24, .slice none 0 0⟩
  | 36 => some ⟨.struct [(0, 34), (1, 35)], 2, 32, .agg #[.pointer none, .slice none 0 0]⟩
  | 37 => some ⟨.struct [(0, 34), (1, 35)], 2, 32, .agg #[.pointer none, .slice none 0 0]⟩
  | 38 => some ⟨.iface 1, 1, 16, .nilIface⟩
  | 39 => some ⟨.iface 1, 1, 16, .nilIface⟩
  | 41 => some ⟨.func, 1, 8, .nilFunc⟩
  | 42 => some ⟨.func, 1, 8, .nilFunc⟩
  | 43 => some ⟨.func, 1, 8, .nilFunc⟩
  | 44 => some ⟨.struct [(0, 25), (3, 3), (4, 3), (5, 3), (6, 9)], 7, 80, .agg #[.int .i64 0, .int .i64 0, .slice none 0 0, .int .i64 0, .int .i64 0, .int .i64 0, .string ⟨#[]⟩]⟩
  | 45 => some ⟨.struct [(0, 25), (3, 3), (4, 3), (5, 3), (6, 9)], 7, 80, .agg #[.int .i64 0, .int .i64 0, .slice none 0 0, .int .i64 0, .int .i64 0, .int .i64 0, .string ⟨#[]⟩]⟩
  | 46 => some ⟨.func, 1, 8, .nilFunc⟩
  | 47 => some ⟨.func, 1, 8, .nilFunc⟩
  | 48 => some ⟨.func, 1, 8, .nilFunc⟩
  | 49 => some ⟨.func, 1, 8, .nilFunc⟩
  | 50 => some ⟨.func, 1, 8, .nilFunc⟩
  | 51 => some ⟨.func, 1, 8, .nilFunc⟩
  | 52 => some ⟨.func, 1, 8, .nilFunc⟩
  | 53 => some ⟨.func, 1, 8, .nilFunc⟩
  | 54 => some ⟨.func, 1, 8, .nilFunc⟩
  | 55 => some ⟨.func, 1, 8, .nilFunc⟩
  | 56 => some ⟨.pointer 5, 1, 8, .pointer none⟩
  | 57 => some ⟨.func, 1, 8, .nilFunc⟩
  | 58 => some ⟨.func, 1, 8, .nilFunc⟩
  | 59 => some ⟨.func, 1, 8, .nilFunc⟩
  | 60 => some ⟨.func, 1, 8, .nilFunc⟩
  | 61 => some ⟨.func, 1, 8, .nilFunc⟩
  | 62 => some ⟨.func, 1, 8, .nilFunc⟩
  | 63 => some ⟨.func, 1, 8, .nilFunc⟩
  | 64 => some ⟨.unsafeP, 1, 8, .pointer none⟩
  | 65 => some ⟨.func, 1, 8, .nilFunc⟩
  | 66 => some ⟨.func, 1, 8, .nilFunc⟩
  | 67 => some ⟨.func, 1, 8, .nilFunc⟩
  | 68 => some ⟨.func, 1, 8, .nilFunc⟩
  | 69 => some ⟨.func, 1, 8, .nilFunc⟩
  | 70 => some ⟨.func, 1, 8, .nilFunc⟩
  | 71 => some ⟨.func, 1, 8, .nilFunc⟩
  | 72 => some ⟨.func, 1, 8, .nilFunc⟩
  | 73 => some ⟨.func, 1, 8, .nilFunc⟩
  | 74 => some ⟨.func, 1, 8, .nilFunc⟩
  | 75 => some ⟨.func, 1, 8, .nilFunc⟩
  | 76 => some ⟨.array 24 5, 24, 24, .agg #[.int .u8 0, .int .u8 0, .int .u8 0, .int .u8 0, .int .u8 0, .int .u8 0, .int .u8 0, .int .u8 0, .int .u8 0, .int .u8 0, .int .u8 0, .int .u8 0, .int .u8 0, .int .u8 0, .int .u8 0, .int .u8 0, .int .u8 0, .int .u8 0, .int .u8 0, .int .u8 0, .int .u8 0, .int .u8 0, .int .u8 0, .int .u8 0]⟩
  | 77 => some ⟨.int .u64, 1, 8, .int .u64 0⟩
  | 78 => some ⟨.func, 1, 8, .nilFunc⟩
  | 79 => some ⟨.func, 1, 8, .nilFunc⟩
  | 81 => some ⟨.func, 1, 8, .nilFunc⟩
  | 82 => some ⟨.func, 1, 8, .nilFunc⟩
  | 83 => some ⟨.func, 1, 8, .nilFunc⟩
  | 84 => some ⟨.func, 1, 8, .nilFunc⟩
  | 85 => some ⟨.func, 1, 8, .nilFunc⟩
  | 86 => some ⟨.array 20 77, 20, 160, .agg #[.int .u64 0, .int .u64 0, .int .u64 0, .int .u64 0, .int .u64 0, .int .u64 0, .int .u64 0, .int .u64 0, .int .u64 0, .int .u64 0, .int .u64 0, .int .u64 0, .int .u64 0, .int .u64 0, .int .u64 0, .int .u64 0, .int .u64 0, .int .u64 0, .int .u64 0, .int .u64 0]⟩
  | 87 => some ⟨.int .u32, 1, 4, .int .u32 0⟩
  | 88 => some ⟨.array 65 5, 65, 65, .agg #[.int .u8 0, .int .u8 0, .int .u8 0, .int .u8 0, .int .u8 0, .int .u8 0, .int .u8 0, .int .u8 0, .int .u8 0, .int .u8 0, .int .u8 0, .int .u8 0, .int .u8 0, .int .u8 0, .int .u8 0, .int .u8 0, .int .u8 0, .int .u8 0, .int .u8 0, .int .u8 0, .int .u8 0, .int .u8 0, .int .u8 0, .int .u8 0, .int .u8 0, .int .u8 0, .int .u8 0, .int .u8 0, .int .u8 0, .int .u8 0, .int .u8 0, .int .u8 0, .int .u8 0, .int .u8 0, .int .u8 0, .int .u8 0, .int .u8 0, .int .u8 0, .int .u8 0, .int .u8 0, .int .u8 0, .int .u8 0, .int .u8 0, .int .u8 0, .int .u8 0, .int .u8 0, .int .u8 0, .int .u8 0, .int .u8 0, .int .u8 0, .int .u8 0, .int .u8 0, .int .u8 0, .int .u8 0, .int .u8 0, .int .u8 0, .int .u8 0, .int .u8 0, .int .u8 0, .int .u8 0, .int .u8 0, .int .u8 0, .int .u8 0, .int .u8 0, .int .u8 0]⟩
  | 89 => some ⟨.int .u64, 1, 8, .int .u64 0⟩
  | 90 => some ⟨.func, 1, 8, .nilFunc⟩
  | 91 => some ⟨.func, 1, 8, .nilFunc⟩
  | 92 => some ⟨.array 32 5, 32, 32, .agg #[.int .u8 0, .int .u8 0, .int .u8 0, .int .u8 0, .int .u8 0, .int .u8 0, .int .u8 0, .int .u8 0, .int .u8 0, .int .u8 0, .int .u8 0, .int .u8 0, .int .u8 0, .int .u8 0, .int .u8 0, .int .u8 0, .int .u8 0, .int .u8 0, .int .u8 0, .int .u8 0, .int .u8 0, .int .u8 0, .int .u8 0, .int .u8 0, .int .u8 0, .int .u8 0, .int .u8 0, .int .u8 0, .int .u8 0, .int .u8 0, .int .u8 0, .int .u8 0]⟩
  | 93 => some ⟨.array 64 5, 64, 64, .agg #[.int .u8 0, .int .u8 0, .int .u8 0, .int .u8 0, .int .u8 0, .int .u8 0, .int .u8 0, .int .u8 0, .int .u8 0, .int .u8 0, .int .u8 0, .int .u8 0, .int .u8 0, .int .u8 0, .int .u8 0, .int .u8 0, .int .u8 0, .int .u8 0, .int .u8 0, .int .u8 0, .int .u8 0, .int .u8 0, .int .u8 0, .int .u8 0, .int .u8 0, .int .u8 0, .int .u8 0, .int .u8 0, .int .u8 0, .int .u8 0, .int .u8 0, .int .u8 0, .int .u8 0, .int .u8 0, .int .u8 0, .int .u8 0, .int .u8 0, .int .u8 0, .int .u8 0, .int .u8 0, .int .u8 0, .int .u8 0, .int .u8 0, .int .u8 0, .int .u8 0, .int .u8 0, .int .u8 0, .int .u8 0, .int .u8 0, .int .u8 0, .int .u8 0, .int .u8 0, .int .u8 0, .int .u8 0, .int .u8 0, .int .u8 0, .int .u8 0, .int .u8 0, .int .u8 0, .int .u8 0, .int .u8 0, .int .u8 0, .int .u8 0, .int .u8 0]⟩
  | 94 => some ⟨.struct [(0, 17), (1, 17), (2, 17), (3, 9)], 4, 40, .agg #[.pointer none, .pointer none, .pointer none, .string ⟨#[]⟩]⟩
  | 95 => some ⟨.struct [(0, 17), (1, 17), (2, 17), (3, 9)], 4, 40, .agg #[.pointer none, .pointer none, .pointer none, .string ⟨#[]⟩]⟩
  | 96 => some ⟨.array 0 16, 0, 0, .agg #[]⟩
  | 97 => some ⟨.struct [(0, 96)], 0, 0, .agg #[]⟩
  | 98 => some ⟨.struct [(0, 96)], 0, 0, .agg #[]⟩
  | 99 => some ⟨.int .u8, 1, 1, .int .u8 0⟩
  | 100 => some ⟨.int .u8, 1, 1, .int .u8 0⟩
  | 101 => some ⟨.func, 1, 8, .nilFunc⟩
  | 102 => some ⟨.int .i32, 1, 4, .int .i32 0⟩
  | 103 => some ⟨.int .i32, 1, 4, .int .i32 0⟩
  | 104 => some ⟨.struct [(0, 12), (1, 12), (2, 87), (3, 99), (4, 5), (5, 5), (6, 100), (7, 101), (8, 56), (9, 102), (10, 103)], 11, 48, .agg #[.int .u64 0, .int .u64 0, .int .u32 0, .int .u8 0, .int .u8 0, .int .u8 0, .int .u8 0, .nilFunc, .pointer none, .int .i32 0, .int .i32 0]⟩
  | 105 => some ⟨.struct [(0, 12), (1, 12), (2, 87), (3, 99), (4, 5), (5, 5), (6, 100), (7, 101), (8, 56), (9, 102), (10, 103)], 11, 48, .agg #[.int .u64 0, .int .u64 0, .int .u32 0, .int .u8 0, .int .u8 0, .int .u8 0, .int .u8 0, .nilFunc, .pointer none, .int .i32 0, .int .i32 0]⟩
  | _ => none
@[go_sem] theorem tab_1 : tab 1 = some ⟨.func, 1, 8, .nilFunc⟩ := rfl
@[go_sem] theorem tab_2 : tab 2 = some ⟨.int .i64, 1, 8, .int .i64 0⟩ := rfl
@[go_sem] theorem tab_3 : tab 3 = some ⟨.int .i64, 1, 8, .int .i64 0⟩ := rfl
@[go_sem] theorem tab_4 : tab 4 = some ⟨.bool, 1, 1, .bool false⟩ := rfl
@[go_sem] theorem tab_5 : tab 5 = some ⟨.int .u8, 1, 1, .int .u8 0⟩ := rfl
@[go_sem] theorem tab_6 : tab 6 = some ⟨.int .u8, 1, 1, .int .u8 0⟩ := rfl
@[go_sem] theorem tab_7 : tab 7 = some ⟨.struct [(0, 2), (1, 3), (2, 4), (3, 6)], 4, 24, .agg #[.int .i64 0, .int .i64 0, .bool false, .int .u8 0]⟩ := rfl
@[go_sem] theorem tab_8 : tab 8 = some ⟨.struct [(0, 2), (1, 3), (2, 4), (3, 6)], 4, 24, .agg #[.int .i64 0, .int .i64 0, .bool false, .int .u8 0]⟩ := rfl
@[go_sem] theorem tab_9 : tab 9 = some ⟨.string, 1, 16, .string ⟨#[]⟩⟩ := rfl
@[go_sem] theorem tab_10 : tab 10 = some ⟨.string, 1, 16, .string ⟨#[]⟩⟩ := rfl
@[go_sem] theorem tab_11 : tab 11 = some ⟨.string, 1, 16, .string ⟨#[]⟩⟩ := rfl
@[go_sem] theorem tab_12 : tab 12 = some ⟨.int .u64, 1, 8, .int .u64 0⟩ := rfl
@[go_sem] theorem tab_13 : tab 13 = some ⟨.struct [(0, 9), (1, 12)], 2, 24, .agg #[.string ⟨#[]⟩, .int .u64 0]⟩ := rfl
@[go_sem] theorem tab_14 : tab 14 = some ⟨.struct [(0, 9), (1, 12)], 2, 24, .agg #[.string ⟨#[]⟩, .int .u64 0]⟩ := rfl
@[go_sem] theorem tab_15 : tab 15 = some ⟨.pointer 95, 1, 8, .pointer none⟩ := rfl
@[go_sem] theorem tab_16 : tab 16 = some ⟨.pointer 98, 1, 8, .pointer none⟩ := rfl
@[go_sem] theorem tab_17 : tab 17 = some ⟨.pointer 105, 1, 8, .pointer none⟩ := rfl
@[go_sem] theorem tab_18 : tab 18 = some ⟨.struct [(0, 17)], 1, 8, .agg #[.pointer none]⟩ := rfl
@[go_sem] theorem tab_19 : tab 19 = some ⟨.struct [(0, 17)], 1, 8, .agg #[.pointer none]⟩ := rfl
@[go_sem] theorem tab_20 : tab 20 = some ⟨.iface 0, 1, 16, .nilIface⟩ := rfl
@[go_sem] theorem tab_21 : tab 21 = some ⟨.int .i32, 1, 4, .int .i32 0⟩ := rfl
@[go_sem] theorem tab_22 : tab 22 = some ⟨.slice 9, 1, 24, .slice none 0 0⟩ := rfl
@[go_sem] theorem tab_23 : tab 23 = some ⟨.slice 25, 1, 24, .slice none 0 0⟩ := rfl
@[go_sem] theorem tab_24 : tab 24 = some ⟨.struct [(0, 3), (1, 3), (2, 23)], 3, 40, .agg #[.int .i64 0, .int .i64 0, .slice none 0 0]⟩ := rfl
@[go_sem] theorem tab_25 : tab 25 = some ⟨.struct [(0, 3), (1, 3), (2, 23)], 3, 40, .agg #[.int .i64 0, .int .i64 0, .slice none 0 0]⟩ := rfl
@[go_sem] theorem tab_26 : tab 26 = some ⟨.slice 45, 1, 24, .slice none 0 0⟩ := rfl
@[go_sem] theorem tab_27 : tab 27 = some ⟨.struct [(0, 22), (1, 25), (4, 26)], 5, 88, .agg #[.slice none 0 0, .int .i64 0, .int .i64 0, .slice none 0 0, .slice none 0 0]⟩ := rfl
@[go_sem] theorem tab_28 : tab 28 = some ⟨.struct [(0, 22), (1, 25), (4, 26)], 5, 88, .agg #[.slice none 0 0, .int .i64 0, .int .i64 0, .slice none 0 0, .slice none 0 0]⟩ := rfl
@[go_sem] theorem tab_29 : tab 29 = some ⟨.int .i64, 1, 8, .int .i64 0⟩ := rfl
@[go_sem] theorem tab_31 : tab 31 = some ⟨.func, 1, 8, .nilFunc⟩ := rfl
@[go_sem] theorem tab_32 : tab 32 = some ⟨.func, 1, 8, .nilFunc⟩ := rfl
@[go_sem] theorem tab_33 : tab 33 = some ⟨.func, 1, 8, .nilFunc⟩ := rfl
@[go_sem] theorem tab_34 : tab 34 = some ⟨.pointer 37, 1, 8, .pointer none⟩ := rfl
@[go_sem] theorem tab_35 : tab 35 = some ⟨.slice 5, 1, 24, .slice none 0 0⟩ := rfl
@[go_sem] theorem tab_36 : tab 36 = some ⟨.struct [(0, 34), (1, 35)], 2, 32, .agg #[.pointer none, .slice none 0 0]⟩ := rfl
@[go_sem] theorem tab_37 : tab 37 = some ⟨.struct [(0, 34), (1, 35)], 2, 32, .agg #[.pointer none, .slice none 0 0]⟩ := rfl
@[go_sem] theorem tab_38 : tab 38 = some ⟨.iface 1, 1, 16, .nilIface⟩ := rfl
@[go_sem] theorem tab_39 : tab 39 = some ⟨.iface 1, 1, 16, .nilIface⟩ := rfl
@[go_sem] theorem tab_41 : tab 41 = some ⟨.func, 1, 8, .nilFunc⟩ := rfl
@[go_sem] theorem tab_42 : tab 42 = some ⟨.func, 1, 8, .nilFunc⟩ := rfl
@[go_sem] theorem tab_43 : tab 43 = some ⟨.func, 1, 8, .nilFunc⟩ := rfl
@[go_sem] theorem tab_44 : tab 44 = some ⟨.struct [(0, 25), (3, 3), (4, 3), (5, 3), (6, 9)], 7, 80, .agg #[.int .i64 0, .int .i64 0, .slice none 0 0, .int .i64 0, .int .i64 0, .int .i64 0, .string ⟨#[]⟩]⟩ := rfl
@[go_sem] theorem tab_45 : tab 45 = some ⟨.struct [(0, 25), (3, 3), (4, 3), (5, 3), (6, 9)], 7, 80, .agg #[.int .i64 0, .int .i64 0, .slice none 0 0, .int .i64 0, .int .i64 0, .int .i64 0, .string ⟨#[]⟩]⟩ := rfl
@[go_sem] theorem tab_46 : tab 46 = some ⟨.func, 1, 8, .nilFunc⟩ := rfl
@[go_sem] theorem tab_47 : tab 47 = some ⟨.func, 1, 8, .nilFunc⟩ := rfl
@[go_sem] theorem tab_48 : tab 48 = some ⟨.func, 1, 8, .nilFunc⟩ := rfl
@[go_sem] theorem tab_49 : tab 49 = some ⟨.func, 1, 8, .nilFunc⟩ := rfl
@[go_sem] theorem tab_50 : tab 50 = some ⟨.func, 1, 8, .nilFunc⟩ := rfl
@[go_sem] theorem tab_51 : tab 51 = some ⟨.func, 1, 8, .nilFunc⟩ := rfl
@[go_sem] theorem tab_52 : tab 52 = some ⟨.func, 1, 8, .nilFunc⟩ := rfl
@[go_sem] theorem tab_53 : tab 53 = some ⟨.func, 1, 8, .nilFunc⟩ := rfl
@[go_sem] theorem tab_54 : tab 54 = some ⟨.func, 1, 8, .nilFunc⟩ := rfl
@[go_sem] theorem tab_55 : tab 55 = some ⟨.func, 1, 8, .nilFunc⟩ := rfl
@[go_sem] theorem tab_56 : tab 56 = some ⟨.pointer 5, 1, 8, .pointer none⟩ := rfl
@[go_sem] theorem tab_57 : tab 57 = some ⟨.func, 1, 8, .nilFunc⟩ := rfl
@[go_sem] theorem tab_58 : tab 58 = some ⟨.func, 1, 8, .nilFunc⟩ := rfl
@[go_sem] theorem tab_59 : tab 59 = some ⟨.func, 1, 8, .nilFunc⟩ := rfl
@[go_sem] theorem tab_60 : tab 60 = some ⟨.func, 1, 8, .nilFunc⟩ := rfl
@[go_sem] theorem tab_61 : tab 61 = some ⟨.func, 1, 8, .nilFunc⟩ := rfl
@[go_sem] theorem tab_62 : tab 62 = some ⟨.func, 1, 8, .nilFunc⟩ := rfl
@[go_sem] theorem tab_63 : tab 63 = some ⟨.func, 1, 8, .nilFunc⟩ := rfl
@[go_sem] theorem tab_64 : tab 64 = some ⟨.unsafeP, 1, 8, .pointer none⟩ := rfl
@[go_sem] theorem tab_65 : tab 65 = some ⟨.func, 1, 8, .nilFunc⟩ := rfl
@[go_sem] theorem tab_66 : tab 66 = some ⟨.func, 1, 8, .nilFunc⟩ := rfl
@[go_sem] theorem tab_67 : tab 67 = some ⟨.func, 1, 8, .nilFunc⟩ := rfl
@[go_sem] theorem tab_68 : tab 68 = some ⟨.func, 1, 8, .nilFunc⟩ := rfl
@[go_sem] theorem tab_69 : tab 69 = some ⟨.func, 1, 8, .nilFunc⟩ := rfl
@[go_sem] theorem tab_70 : tab 70 = some ⟨.func, 1, 8, .nilFunc⟩ := rfl
@[go_sem] theorem tab_71 : tab 71 = some ⟨.func, 1, 8, .nilFunc⟩ := rfl
@[go_sem] theorem tab_72 : tab 72 = some ⟨.func, 1, 8, .nilFunc⟩ := rfl
@[go_sem] theorem tab_73 : tab 73 = some ⟨.func, 1, 8, .nilFunc⟩ := rfl
@[go_sem] theorem tab_74 : tab 74 = some ⟨.func, 1, 8, .nilFunc⟩ := rfl
@[go_sem] theorem tab_75 : tab 75 = some ⟨.func, 1, 8, .nilFunc⟩ := rfl
@[go_sem] theorem tab_76 : tab 76 = some ⟨.array 24 5, 24, 24, .agg #[.int .u8 0, .int .u8 0, .int .u8 0, .int .u8 0, .int .u8 0, .int .u8 0, .int .u8 0, .int .u8 0, .int .u8 0, .int .u8 0, .int .u8 0, .int .u8 0, .int .u8 0, .int .u8 0, .int .u8 0, .int .u8 0, .int .u8 0, .int .u8 0, .int .u8 0, .int .u8 0, .int .u8 0, .int .u8 0, .int .u8 0, .int .u8 0]⟩ := rfl
@[go_sem] theorem tab_77 : tab 77 = some ⟨.int .u64, 1, 8, .int .u64 0⟩ := rfl
@[go_sem] theorem tab_78 : tab 78 = some ⟨.func, 1, 8, .nilFunc⟩ := rfl
@[go_sem] theorem tab_79 : tab 79 = some ⟨.func, 1, 8, .nilFunc⟩ := rfl
@[go_sem] theorem tab_81 : tab 81 = some ⟨.func, 1, 8, .nilFunc⟩ := rfl
@[go_sem] theorem tab_82 : tab 82 = some ⟨.func, 1, 8, .nilFunc⟩ := rfl
@[go_sem] theorem tab_83 : tab 83 = some ⟨.func, 1, 8, .nilFunc⟩ := rfl
@[go_sem] theorem tab_84 : tab 84 = some ⟨.func, 1, 8, .nilFunc⟩ := rfl
@[go_sem] theorem tab_85 : tab 85 = some ⟨.func, 1, 8, .nilFunc⟩ := rfl
@[go_sem] theorem tab_86 : tab 86 = some ⟨.array 20 77, 20, 160, .agg #[.int .u64 0, .int .u64 0, .int .u64 0, .int .u64 0, .int .u64 0, .int .u64 0, .int .u64 0, .int .u64 0, .int .u64 0, .int .u64 0, .int .u64 0, .int .u64 0, .int .u64 0, .int .u64 0, .int .u64 0, .int .u64 0, .int .u64 0, .int .u64 0, .int .u64 0, .int .u64 0]⟩ := rfl
@[go_sem] theorem tab_87 : tab 87 = some ⟨.int .u32, 1, 4, .int .u32 0⟩ := rfl
@[go_sem] theorem tab_88 : tab 88 = some ⟨.array 65 5, 65, 65, .agg #[.int .u8 0, .int .u8 0, .int .u8 0, .int .u8 0, .int .u8 0, .int .u8 0, .int .u8 0, .int .u8 0, .int .u8 0, .int .u8 0, .int .u8 0, .int .u8 0, .int .u8 0, .int .u8 0, .int .u8 0, .int .u8 0, .int .u8 0, .int .u8 0, .int .u8 0, .int .u8 0, .int .u8 0, .int .u8 0, .int .u8 0, .int .u8 0, .int .u8 0, .int .u8 0, .int .u8 0, .int .u8 0, .int .u8 0, .int .u8 0, .int .u8 0, .int .u8 0, .int .u8 0, .int .u8 0, .int .u8 0, .int .u8 0, .int .u8 0, .int .u8 0, .int .u8 0, .int .u8 0, .int .u8 0, .int .u8 0, .int .u8 0, .int .u8 0, .int .u8 0, .int .u8 0, .int .u8 0, .int .u8 0, .int .u8 0, .int .u8 0, .int .u8 0, .int .u8 0, .int .u8 0, .int .u8 0, .int .u8 0, .int .u8 0, .int .u8 0, .int .u8 0, .int .u8 0, .int .u8 0, .int .u8 0, .int .u8 0, .int .u8 0, .int .u8 0, .int .u8 0]⟩ := rfl
@[go_sem] theorem tab_89 : tab 89 = some ⟨.int .u64, 1, 8, .int .u64 0⟩ := rfl
@[go_sem] theorem tab_90 : tab 90 = some ⟨.func, 1, 8, .nilFunc⟩ := rfl
@[go_sem] theorem tab_91 : tab 91 = some ⟨.func, 1, 8, .nilFunc⟩ := rfl
@[go_sem] theorem tab_92 : tab 92 = some ⟨.array 32 5, 32, 32, .agg #[.int .u8 0, .int .u8 0, .int .u8 0, .int .u8 0, .int .u8 0, .int .u8 0, .int .u8 0, .int .u8 0, .int .u8 0, .int .u8 0, .int .u8 0, .int .u8 0, .int .u8 0, .int .u8 0, .int .u8 0, .int .u8 0, .int .u8 0, .int .u8 0, .int .u8 0, .int .u8 0, .int .u8 0, .int .u8 0, .int .u8 0, .int .u8 0, .int .u8 0, .int .u8 0, .int .u8 0, .int .u8 0, .int .u8 0, .int .u8 0, .int .u8 0, .int .u8 0]⟩ := rfl
@[go_sem] theorem tab_93 : tab 93 = some ⟨.array 64 5, 64, 64, .agg #[.int .u8 0, .int .u8 0, .int .u8 0, .int .u8 0, .int .u8 0, .int .u8 0, .int .u8 0, .int .u8 0, .int .u8 0, .int .u8 0, .int .u8 0, .int .u8 0, .int .u8 0, .int .u8 0, .int .u8 0, .int .u8 0, .int .u8 0, .int .u8 0, .int .u8 0, .int .u8 0, .int .u8 0, .int .u8 0, .int .u8 0, .int .u8 0, .int .u8 0, .int .u8 0, .int .u8 0, .int .u8 0, .int .u8 0, .int .u8 0, .int .u8 0, .int .u8 0, .int .u8 0, .int .u8 0, .int .u8 0, .int .u8 0, .int .u8 0, .int .u8 0, .int .u8 0, .int .u8 0, .int .u8 0, .int .u8 0, .int .u8 0, .int .u8 0, .int .u8 0, .int .u8 0, .int .u8 0, .int .u8 0, .int .u8 0, .int .u8 0, .int .u8 0, .int .u8 0, .int .u8 0, .int .u8 0, .int .u8 0, .int .u8 0, .int .u8 0, .int .u8 0, .int .u8 0, .int .u8 0, .int .u8 0, .int .u8 0, .int .u8 0, .int .u8 0]⟩ := rfl
@[go_sem] theorem tab_94 : tab 94 = some ⟨.struct [(0, 17), (1, 17), (2, 17), (3, 9)], 4, 40, .agg #[.pointer none, .pointer none, .pointer none, .string ⟨#[]⟩]⟩ := rfl
@[go_sem] theorem tab_95 : tab 95 = some ⟨.struct [(0, 17), (1, 17), (2, 17), (3, 9)], 4, 40, .agg #[.pointer none, .pointer none, .pointer none, .string ⟨#[]⟩]⟩ := rfl
@[go_sem] theorem tab_96 : tab 96 = some ⟨.array 0 16, 0, 0, .agg #[]⟩ := rfl
@[go_sem] theorem tab_97 : tab 97 = some ⟨.struct [(0, 96)], 0, 0, .agg #[]⟩ := rfl
@[go_sem] theorem tab_98 : tab 98 = some ⟨.struct [(0, 96)], 0, 0, .agg #[]⟩ := rfl
@[go_sem] theorem tab_99 : tab 99 = some ⟨.int .u8, 1, 1, .int .u8 0⟩ := rfl
@[go_sem] theorem tab_100 : tab 100 = some ⟨.int .u8, 1, 1, .int .u8 0⟩ := rfl
@[go_sem] theorem tab_101 : tab 101 = some ⟨.func, 1, 8, .nilFunc⟩ := rfl
@[go_sem] theorem tab_102 : tab 102 = some ⟨.int .i32, 1, 4, .int .i32 0⟩ := rfl
@[go_sem] theorem tab_103 : tab 103 = some ⟨.int .i32, 1, 4, .int .i32 0⟩ := rfl
@[go_sem] theorem tab_104 : tab 104 = some ⟨.struct [(0, 12), (1, 12), (2, 87), (3, 99), (4, 5), (5, 5), (6, 100), (7, 101), (8, 56), (9, 102), (10, 103)], 11, 48, .agg #[.int .u64 0, .int .u64 0, .int .u32 0, .int .u8 0, .int .u8 0, .int .u8 0, .int .u8 0, .nilFunc, .pointer none, .int .i32 0, .int .i32 0]⟩ := rfl
@[go_sem] theorem tab_105 : tab 105 = some ⟨.struct [(0, 12), (1, 12), (2, 87), (3, 99), (4, 5), (5, 5), (6, 100), (7, 101), (8, 56), (9, 102), (10, 103)], 11, 48, .agg #[.int .u64 0, .int .u64 0, .int .u32 0, .int .u8 0, .int .u8 0, .int .u8 0, .int .u8 0, .nilFunc, .pointer none, .int .i32 0, .int .i32 0]⟩ := rfl

theorem tabOk : TabOk Tryd.prog tab := by
  intro t ti e
  unfold tab at e
  split at e
  · cases e; exact ⟨_, _, Tryd.type1, Tryd.underlying1, rfl, rfl, rfl, rfl⟩
  · cases e; exact ⟨_, _, Tryd.type2, Tryd.underlying2, rfl, rfl, rfl, rfl⟩
  · cases e; exact ⟨_, _, Tryd.type3, Tryd.underlying3, rfl, rfl, rfl, rfl⟩
  · cases e; exact ⟨_, _, Tryd.type4, Tryd.underlying4, rfl, rfl, rfl, rfl⟩
  · cases e; exact ⟨_, _, Tryd.type5, Tryd.underlying5, rfl, rfl, rfl, rfl⟩
  · cases e; exact ⟨_, _, Tryd.type6, Tryd.underlying6, rfl, rfl, rfl, rfl⟩
  · cases e; exact ⟨_, _, Tryd.type7, Tryd.underlying7, rfl, rfl, rfl, rfl⟩
  · cases e; exact ⟨_, _, Tryd.type8, Tryd.underlying8, rfl, rfl, rfl, rfl⟩
  · cases e; exact ⟨_, _, Tryd.type9, Tryd.underlying9, rfl, rfl, rfl, rfl⟩
  · cases e; exact ⟨_, _, Tryd.type10, Tryd.underlying10, rfl, rfl, rfl, rfl⟩
  · cases e; exact ⟨_, _, Tryd.type11, Tryd.underlying11, rfl, rfl, rfl, rfl⟩
  · cases e; exact ⟨_, _, Tryd.type12, Tryd.underlying12, rfl, rfl, rfl, rfl⟩
  · cases e; exact ⟨_, _, Tryd.type13, Tryd.underlying13, rfl, rfl, rfl, rfl⟩
  · cases e; exact ⟨_, _, Tryd.type14, Tryd.underlying14, rfl, rfl, rfl, rfl⟩
  · cases e; exact ⟨_, _, Tryd.type15, Tryd.underlying15, rfl, rfl, rfl, rfl⟩
  · cases e; exact ⟨_, _, Tryd.type16, Tryd.underlying16, rfl, rfl, rfl, rfl⟩
  · cases e; exact ⟨_, _, Tryd.type17, Tryd.underlying17, rfl, rfl, rfl, rfl⟩
  · cases e; exact ⟨_, _, Tryd.type18, Tryd.underlying18, rfl, rfl, rfl, rfl⟩
  · cases e; exact ⟨_, _, Tryd.type19, Tryd.underlying19, rfl, rfl, rfl, rfl⟩
  · cases e; exact ⟨_, _, Tryd.type20, Tryd.underlying20, rfl, rfl, rfl, rfl⟩
  · cases e; exact ⟨_, _, Tryd.type21, Tryd.underlying21, rfl, rfl, rfl, rfl⟩
  · cases e; exact ⟨_, _, Tryd.type22, Tryd.underlying22, rfl, rfl, rfl, rfl⟩
  · cases e; exact ⟨_, _, Tryd.type23, Tryd.underlying23, rfl, rfl, rfl, rfl⟩
  · cases e; exact ⟨_, _, Tryd.type24, Tryd.underlying24, rfl, rfl, rfl, rfl⟩
  · cases e; exact ⟨_, _, Tryd.type25, Tryd.underlying25, rfl, rfl, rfl, rfl⟩
  · cases e; exact ⟨_, _, Tryd.type26, Tryd.underlying26, rfl, rfl, rfl, rfl⟩
  · cases e; exact ⟨_, _, Tryd.type27, Tryd.underlying27, rfl, rfl, rfl, rfl⟩
  · cases e; exact ⟨_, _, Tryd.type28, Tryd.underlying28, rfl, rfl, rfl, rfl⟩
  · cases e; exact ⟨_, _, Tryd.type29, Tryd.underlying29, rfl, rfl, rfl, rfl⟩
  · cases e; exact ⟨_, _, Tryd.type31, Tryd.underlying31, rfl, rfl, rfl, rfl⟩
  · cases e; exact ⟨_, _, Tryd.type32, Tryd.underlying32, rfl, rfl, rfl, rfl⟩
  · cases e; exact ⟨_, _, Tryd.type33, Tryd.underlying33, rfl, rfl, rfl, rfl⟩
  · cases e; exact ⟨_, _, Tryd.type34, Tryd.underlying34, rfl, rfl, rfl, rfl⟩
  · cases e; exact ⟨_, _, Tryd.type35, Tryd.underlying35, rfl, rfl, rfl, rfl⟩
  · cases e; exact ⟨_, _, Tryd.type36, Tryd.underlying36, rfl, rfl, rfl, rfl⟩
  · cases e; exact ⟨_, _, Tryd.type37, Tryd.underlying37, rfl, rfl, rfl, rfl⟩
  · cases e; exact ⟨_, _, Tryd.type38, Tryd.underlying38, rfl, rfl, rfl, rfl⟩
  · cases e; exact ⟨_, _, Tryd.type39, Tryd.underlying39, rfl, rfl, rfl, rfl⟩
  · cases e; exact ⟨_, _, Tryd.type41, Tryd.underlying41, rfl, rfl, rfl, rfl⟩
  · cases e; exact ⟨_, _, Tryd.type42, Tryd.underlying42, rfl, rfl, rfl, rfl⟩
  · cases e; exact ⟨_, _, Tryd.type43, Tryd.underlying43, rfl, rfl, rfl, rfl⟩
  · cases e; exact ⟨_, _, Tryd.type44, Tryd.underlying44, rfl, rfl, rfl, rfl⟩
  · cases e; exact ⟨_, _, Tryd.type45, Tryd.underlying45, rfl, rfl, rfl, rfl⟩
  · cases e; exact ⟨_, _, Tryd.type46, Tryd.underlying46, rfl, rfl, rfl, rfl⟩
  · cases e; exact ⟨_, _, Tryd.type47, Tryd.underlying47, rfl, rfl, rfl, rfl⟩
  · cases e; exact ⟨_, _, Tryd.type48, Tryd.underlying48, rfl, rfl, rfl, rfl⟩
  · cases e; exact ⟨_, _, Tryd.type49, Tryd.underlying49, rfl, rfl, rfl, rfl⟩
  · cases e; exact ⟨_, _, Tryd.type50, Tryd.underlying50, rfl, rfl, rfl, rfl⟩
  · cases e; exact ⟨_, _, Tryd.type51, Tryd.underlying51, rfl, rfl, rfl, rfl⟩
  · cases e; exact ⟨_, _, Tryd.type52, Tryd.underlying52, rfl, rfl, rfl, rfl⟩
  · cases e; exact ⟨_, _, Tryd.type53, Tryd.underlying53, rfl, rfl, rfl, rfl⟩
  · cases e; exact ⟨_, _, Tryd.type54, Tryd.underlying54, rfl, rfl, rfl, rfl⟩
  · cases e; exact ⟨_, _, Tryd.type55, Tryd.underlying55, rfl, rfl, rfl, rfl⟩
  · cases e; exact ⟨_, _, Tryd.type56, Tryd.underlying56, rfl, rfl, rfl, rfl⟩
  · cases e; exact ⟨_, _, Tryd.type57, Tryd.underlying57, rfl, rfl, rfl, rfl⟩
  · cases e; exact ⟨_, _, Tryd.type58, Tryd.underlying58, rfl, rfl, rfl, rfl⟩
  · cases e; exact ⟨_, _, Tryd.type59, Tryd.underlying59, rfl, rfl, rfl, rfl⟩
  · cases e; exact ⟨_, _, Tryd.type60, Tryd.underlying60, rfl, rfl, rfl, rfl⟩
  · cases e; exact ⟨_, _, Tryd.type61, Tryd.underlying61, rfl, rfl, rfl, rfl⟩
  · cases e; exact ⟨_, _, Tryd.type62, Tryd.underlying62, rfl, rfl, rfl, rfl⟩
  · cases e; exact ⟨_, _, Tryd.type63, Tryd.underlying63, rfl, rfl, rfl, rfl⟩
  · cases e; exact ⟨_, _, Tryd.type64, Tryd.underlying64, rfl, rfl, rfl, rfl⟩
  · cases e; exact ⟨_, _, Tryd.type65, Tryd.underlying65, rfl, rfl, rfl, rfl⟩
  · cases e; exact ⟨_, _, Tryd.type66, Tryd.underlying66, rfl, rfl, rfl, rfl⟩
  · cases e; exact ⟨_, _, Tryd.type67, Tryd.underlying67, rfl, rfl, rfl, rfl⟩
  · cases e; exact ⟨_, _, Tryd.type68, Tryd.underlying68, rfl, rfl, rfl, rfl⟩
  · cases e; exact ⟨_, _, Tryd.type69, Tryd.underlying69, rfl, rfl, rfl, rfl⟩
  · cases e; exact ⟨_, _, Tryd.type70, Tryd.underlying70, rfl, rfl, rfl, rfl⟩
  · cases e; exact ⟨_, _, Tryd.type71, Tryd.underlying71, rfl, rfl, rfl, rfl⟩
  · cases e; exact ⟨_, _, Tryd.type72, Tryd.underlying72, rfl, rfl, rfl, rfl⟩
  · cases e; exact ⟨_, _, Tryd.type73, Tryd.underlying73, rfl, rfl, rfl, rfl⟩
  · cases e; exact ⟨_, _, Tryd.type74, Tryd.underlying74, rfl, rfl, rfl, rfl⟩
  · cases e; exact ⟨_, _, Tryd.type75, Tryd.underlying75, rfl, rfl, rfl, rfl⟩
  · cases e; exact ⟨_, _, Tryd.type76, Tryd.underlying76, rfl, rfl, rfl, rfl⟩
  · cases e; exact ⟨_, _, Tryd.type77, Tryd.underlying77, rfl, rfl, rfl, rfl⟩
  · cases e; exact ⟨_, _, Tryd.type78, Tryd.underlying78, rfl, rfl, rfl, rfl⟩
  · cases e; exact ⟨_, _, Tryd.type79, Tryd.underlying79, rfl, rfl, rfl, rfl⟩
  · cases e; exact ⟨_, _, Tryd.type81, Tryd.underlying81, rfl, rfl, rfl, rfl⟩
  · cases e; exact ⟨_, _, Tryd.type82, Tryd.underlying82, rfl, rfl, rfl, rfl⟩
  · cases e; exact ⟨_, _, Tryd.type83, Tryd.underlying83, rfl, rfl, rfl, rfl⟩
  · cases e; exact ⟨_, _, Tryd.type84, Tryd.underlying84, rfl, rfl, rfl, rfl⟩
  · cases e; exact ⟨_, _, Tryd.type85, Tryd.underlying85, rfl, rfl, rfl, rfl⟩
  · cases e; exact ⟨_, _, Tryd.type86, Tryd.underlying86, rfl, rfl, rfl, rfl⟩
  · cases e; exact ⟨_, _, Tryd.type87, Tryd.underlying87, rfl, rfl, rfl, rfl⟩
  · cases e; exact ⟨_, _, Tryd.type88, Tryd.underlying88, rfl, rfl, rfl, rfl⟩
  · cases e; exact ⟨_, _, Tryd.type89, Tryd.underlying89, rfl, rfl, rfl, rfl⟩
  · cases e; exact ⟨_, _, Tryd.type90, Tryd.underlying90, rfl, rfl, rfl, rfl⟩
  · cases e; exact ⟨_, _, Tryd.type91, Tryd.underlying91, rfl, rfl, rfl, rfl⟩
  · cases e; exact ⟨_, _, Tryd.type92, Tryd.underlying92, rfl, rfl, rfl, rfl⟩
  · cases e; exact ⟨_, _, Tryd.type93, Tryd.underlying93, rfl, rfl, rfl, rfl⟩
  · cases e; exact ⟨_, _, Tryd.type94, Tryd.underlying94, rfl, rfl, rfl, rfl⟩
  · cases e; exact ⟨_, _, Tryd.type95, Tryd.underlying95, rfl, rfl, rfl, rfl⟩
  · cases e; exact ⟨_, _, Tryd.type96, Tryd.underlying96, rfl, rfl, rfl, rfl⟩
  · cases e; exact ⟨_, _, Tryd.type97, Tryd.underlying97, rfl, rfl, rfl, rfl⟩
  · cases e; exact ⟨_, _, Tryd.type98, Tryd.underlying98, rfl, rfl, rfl, rfl⟩
  · cases e; exact ⟨_, _, Tryd.type99, Tryd.underlying99, rfl, rfl, rfl, rfl⟩
  · cases e; exact ⟨_, _, Tryd.type100, Tryd.underlying100, rfl, rfl, rfl, rfl⟩
  · cases e; exact ⟨_, _, Tryd.type101, Tryd.underlying101, rfl, rfl, rfl, rfl⟩
  · cases e; exact ⟨_, _, Tryd.type102, Tryd.underlying102, rfl, rfl, rfl, rfl⟩
  · cases e; exact ⟨_, _, Tryd.type103, Tryd.underlying103, rfl, rfl, rfl, rfl⟩
  · cases e; exact ⟨_, _, Tryd.type104, Tryd.underlying104, rfl, rfl, rfl, rfl⟩
  · cases e; exact ⟨_, _, Tryd.type105, Tryd.underlying105, rfl, rfl, rfl, rfl⟩
  · cases e
theorem mixed : Tryd.prog.follows .mixedOrders = true := Tryd.checked.mixed
end Go.Proofs.YtkdendaohlnlcaaDoor.Av
