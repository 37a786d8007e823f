/- The types of the translation, as the theory wants them: they are the program's. No condition. -/
import Derived.Test.YtkdendaohlnlcaaAv13
import Derived.Test.YtkdendaohlnlcaaChecked
import Derived.Eval
namespace Go.Proofs.Ytkdendaohlnlcaa.Av

def tab : Tab
  | 1 => some ⟨.func, 1, 8, .nilFunc⟩
  | 2 => some ⟨.int .i64, 1, 8, .int .i64 0⟩
  | 3 => some ⟨.int .i64, 1, 8, .int .i64 0⟩
  | 4 => some ⟨.bool, 1, 1, .bool false⟩
  | 5 => some ⟨.int .u8, 1, 1, .int .u8 0⟩
  | 6 => some ⟨.int .u8, 1, 1, .int .u8 0⟩
  | 7 => some ⟨.struct [(0, 2), (1, 3), (2, 4), (3, 6)], 4, 24, .agg #[.int .i64 0, .int .i64 0, .bool false, .int .u8 0]⟩
  | 8 => some ⟨.struct [(0, 2), (1, 3), (2, 4), (3, 6)], 4, 24, .agg #[.int .i64 0, .int .i64 0, .bool false, .int .u8 0]⟩
  | 9 => some ⟨.string, 1, 16, .string ⟨#[]⟩⟩
  | 10 => some ⟨.string, 1, 16, .string ⟨#[]⟩⟩
  | 11 => some ⟨.string, 1, 16, .string ⟨#[]⟩⟩
  | 12 => some ⟨.int .u64, 1, 8, .int .u64 0⟩
  | 13 => some ⟨.struct [(0, 9), (1, 12)], 2, 24, .agg #[.string ⟨#[]⟩, .int .u64 0]⟩
  | 14 => some ⟨.struct [(0, 9), (1, 12)], 2, 24, .agg #[.string ⟨#[]⟩, .int .u64 0]⟩
  | 15 => some ⟨.pointer 54, 1, 8, .pointer none⟩
  | 16 => some ⟨.pointer 57, 1, 8, .pointer none⟩
  | 17 => some ⟨.pointer 67, 1, 8, .pointer none⟩
  | 18 => some ⟨.struct [(0, 17)], 1, 8, .agg #[.pointer none]⟩
  | 19 => some ⟨.struct [(0, 17)], 1, 8, .agg #[.pointer none]⟩
  | 20 => some ⟨.iface 0, 1, 16, .nilIface⟩
  | 21 => some ⟨.int .i32, 1, 4, .int .i32 0⟩
  | 22 => some ⟨.func, 1, 8, .nilFunc⟩
  | 23 => some ⟨.slice 9, 1, 24, .slice none 0 0⟩
  | 24 => some ⟨.slice 26, 1, 24, .slice none 0 0⟩
  | 25 => some ⟨.struct [(0, 3), (1, 3), (2, 24)], 3, 40, .agg #[.int .i64 0, .int .i64 0, .slice none 0 0]⟩
  | 26 => some ⟨.struct [(0, 3), (1, 3), (2, 24)], 3, 40, .agg #[.int .i64 0, .int .i64 0, .slice none 0 0]⟩
  | 27 => some ⟨.slice 37, 1, 24, .slice none 0 0⟩
  | 28 => some ⟨.struct [(0, 23), (1, 26), (4, 27)], 5, 88, .agg #[.slice none 0 0, .int .i64 0, .int .i64 0, .slice none 0 0, .slice none 0 0]⟩
  | 29 => some ⟨.struct [(0, 23), (1, 26), (4, 27)], 5, 88, .agg #[.slice none 0 0, .int .i64 0, .int .i64 0, .slice none 0 0, .slice none 0 0]⟩
  | 30 => some ⟨.int .i64, 1, 8, .int .i64 0⟩
  | 31 => some ⟨.func, 1, 8, .nilFunc⟩
  | 32 => some ⟨.func, 1, 8, .nilFunc⟩
  | 33 => some ⟨.func, 1, 8, .nilFunc⟩
  | 34 => some ⟨.func, 1, 8, .nilFunc⟩
  | 35 => some ⟨.func, 1, 8, .nilFunc⟩
  | 36 => some ⟨.struct [(0, 26), (3, 3), (4, 3), (5, 3), (6, 9)], 7, 80, .agg #[.int .i64 0, .int .i64 0, .slice none 0 0, .int .i64 0, .int .i64 0, .int .i64 0, .string ⟨#[]⟩]⟩
  | 37 => some ⟨.struct [(0, 26), (3, 3), (4, 3), (5, 3), (6, 9)], 7, 80, .agg #[.int .i64 0, .int .i64 0, .slice none 0 0, .int .i64 0, .int .i64 0, .int .i64 0, .string ⟨#[]⟩]⟩
  | 38 => some ⟨.func, 1, 8, .nilFunc⟩
  | 39 => some ⟨.func, 1, 8, .nilFunc⟩
  | 40 => some ⟨.func, 1, 8, .nilFunc⟩
  | 41 => some ⟨.func, 1, 8, .nilFunc⟩
  | 42 => some ⟨.func, 1, 8, .nilFunc⟩
  | 43 => some ⟨.func, 1, 8, .nilFunc⟩
  | 44 => some ⟨.func, 1, 8, .nilFunc⟩
  | 45 => some ⟨.func, 1, 8, .nilFunc⟩
  | 46 => some ⟨.func, 1, 8, .nilFunc⟩
  | 47 => some ⟨.func, 1, 8, .nilFunc⟩
  | 48 => some ⟨.func, 1, 8, .nilFunc⟩
  | 49 => some ⟨.func, 1, 8, .nilFunc⟩
  | 50 => some ⟨.func, 1, 8, .nilFunc⟩
  | 51 => some ⟨.func, 1, 8, .nilFunc⟩
  | 52 => some ⟨.func, 1, 8, .nilFunc⟩
  | 53 => some ⟨.struct [(0, 17), (1, 17), (2, 17), (3, 9)], 4, 40, .agg #[.pointer none, .pointer none, .pointer none, .string ⟨#[]⟩]⟩
  | 54 => some ⟨.struct [(0, 17), (1, 17), (2, 17), (3, 9)], 4, 40, .agg #[.pointer none, .pointer none, .pointer none, .string ⟨#[]⟩]⟩
  | 55 => some ⟨.array 0 16, 0, 0, .agg #[]⟩
  | 56 => some ⟨.struct [(0, 55)], 0, 0, .agg #[]⟩
  | 57 => some ⟨.struct [(0, 55)], 0, 0, .agg #[]⟩
  | 58 => some ⟨.func, 1, 8, .nilFunc⟩
  | 59 => some ⟨.int .u32, 1, 4, .int .u32 0⟩
  | 60 => some ⟨.int .u8, 1, 1, .int .u8 0⟩
  | 61 => some ⟨.int .u8, 1, 1, .int .u8 0⟩
  | 62 => some ⟨.func, 1, 8, .nilFunc⟩
  | 63 => some ⟨.pointer 5, 1, 8, .pointer none⟩
  | 64 => some ⟨.int .i32, 1, 4, .int .i32 0⟩
  | 65 => some ⟨.int .i32, 1, 4, .int .i32 0⟩
  | 66 => some ⟨.struct [(0, 12), (1, 12), (2, 59), (3, 60), (4, 5), (5, 5), (6, 61), (7, 62), (8, 63), (9, 64), (10, 65)], 11, 48, .agg #[.int .u64 0, .int .u64 0, .int .u32 0, .int .u8 0, .int .u8 0, .int .u8 0, .int .u8 0, .nilFunc, .pointer none, .int .i32 0, .int .i32 0]⟩
  | 67 => some ⟨.struct [(0, 12), (1, 12), (2, 59), (3, 60), (4, 5), (5, 5), (6, 61), (7, 62), (8, 63), (9, 64), (10, 65)], 11, 48, .agg #[.int .u64 0, .int .u64 0, .int .u32 0, .int .u8 0, .int .u8 0, .int .u8 0, .int .u8 0, .nilFunc, .pointer none, .int .i32 0, .int .i32 0]⟩
  | _ => none
@[go_sem] theorem tab_1 : tab 1 = some ⟨.func, 1, 8, .nilFunc⟩ := rfl
@[go_sem] theorem tab_2 : tab 2 = some ⟨.int .i64, 1, 8, .int .i64 0⟩ := rfl
@[go_sem] theorem tab_3 : tab 3 = some ⟨.int .i64, 1, 8, .int .i64 0⟩ := rfl
@[go_sem] theorem tab_4 : tab 4 = some ⟨.bool, 1, 1, .bool false⟩ := rfl
@[go_sem] theorem tab_5 : tab 5 = some ⟨.int .u8, 1, 1, .int .u8 0⟩ := rfl
@[go_sem] theorem tab_6 : tab 6 = some ⟨.int .u8, 1, 1, .int .u8 0⟩ := rfl
@[go_sem] theorem tab_7 : tab 7 = some ⟨.struct [(0, 2), (1, 3), (2, 4), (3, 6)], 4, 24, .agg #[.int .i64 0, .int .i64 0, .bool false, .int .u8 0]⟩ := rfl
@[go_sem] theorem tab_8 : tab 8 = some ⟨.struct [(0, 2), (1, 3), (2, 4), (3, 6)], 4, 24, .agg #[.int .i64 0, .int .i64 0, .bool false, .int .u8 0]⟩ := rfl
@[go_sem] theorem tab_9 : tab 9 = some ⟨.string, 1, 16, .string ⟨#[]⟩⟩ := rfl
@[go_sem] theorem tab_10 : tab 10 = some ⟨.string, 1, 16, .string ⟨#[]⟩⟩ := rfl
@[go_sem] theorem tab_11 : tab 11 = some ⟨.string, 1, 16, .string ⟨#[]⟩⟩ := rfl
@[go_sem] theorem tab_12 : tab 12 = some ⟨.int .u64, 1, 8, .int .u64 0⟩ := rfl
@[go_sem] theorem tab_13 : tab 13 = some ⟨.struct [(0, 9), (1, 12)], 2, 24, .agg #[.string ⟨#[]⟩, .int .u64 0]⟩ := rfl
@[go_sem] theorem tab_14 : tab 14 = some ⟨.struct [(0, 9), (1, 12)], 2, 24, .agg #[.string ⟨#[]⟩, .int .u64 0]⟩ := rfl
@[go_sem] theorem tab_15 : tab 15 = some ⟨.pointer 54, 1, 8, .pointer none⟩ := rfl
@[go_sem] theorem tab_16 : tab 16 = some ⟨.pointer 57, 1, 8, .pointer none⟩ := rfl
@[go_sem] theorem tab_17 : tab 17 = some ⟨.pointer 67, 1, 8, .pointer none⟩ := rfl
@[go_sem] theorem tab_18 : tab 18 = some ⟨.struct [(0, 17)], 1, 8, .agg #[.pointer none]⟩ := rfl
@[go_sem] theorem tab_19 : tab 19 = some ⟨.struct [(0, 17)], 1, 8, .agg #[.pointer none]⟩ := rfl
@[go_sem] theorem tab_20 : tab 20 = some ⟨.iface 0, 1, 16, .nilIface⟩ := rfl
@[go_sem] theorem tab_21 : tab 21 = some ⟨.int .i32, 1, 4, .int .i32 0⟩ := rfl
@[go_sem] theorem tab_22 : tab 22 = some ⟨.func, 1, 8, .nilFunc⟩ := rfl
@[go_sem] theorem tab_23 : tab 23 = some ⟨.slice 9, 1, 24, .slice none 0 0⟩ := rfl
@[go_sem] theorem tab_24 : tab 24 = some ⟨.slice 26, 1, 24, .slice none 0 0⟩ := rfl
@[go_sem] theorem tab_25 : tab 25 = some ⟨.struct [(0, 3), (1, 3), (2, 24)], 3, 40, .agg #[.int .i64 0, .int .i64 0, .slice none 0 0]⟩ := rfl
@[go_sem] theorem tab_26 : tab 26 = some ⟨.struct [(0, 3), (1, 3), (2, 24)], 3, 40, .agg #[.int .i64 0, .int .i64 0, .slice none 0 0]⟩ := rfl
@[go_sem] theorem tab_27 : tab 27 = some ⟨.slice 37, 1, 24, .slice none 0 0⟩ := rfl
@[go_sem] theorem tab_28 : tab 28 = some ⟨.struct [(0, 23), (1, 26), (4, 27)], 5, 88, .agg #[.slice none 0 0, .int .i64 0, .int .i64 0, .slice none 0 0, .slice none 0 0]⟩ := rfl
@[go_sem] theorem tab_29 : tab 29 = some ⟨.struct [(0, 23), (1, 26), (4, 27)], 5, 88, .agg #[.slice none 0 0, .int .i64 0, .int .i64 0, .slice none 0 0, .slice none 0 0]⟩ := rfl
@[go_sem] theorem tab_30 : tab 30 = some ⟨.int .i64, 1, 8, .int .i64 0⟩ := rfl
@[go_sem] theorem tab_31 : tab 31 = some ⟨.func, 1, 8, .nilFunc⟩ := rfl
@[go_sem] theorem tab_32 : tab 32 = some ⟨.func, 1, 8, .nilFunc⟩ := rfl
@[go_sem] theorem tab_33 : tab 33 = some ⟨.func, 1, 8, .nilFunc⟩ := rfl
@[go_sem] theorem tab_34 : tab 34 = some ⟨.func, 1, 8, .nilFunc⟩ := rfl
@[go_sem] theorem tab_35 : tab 35 = some ⟨.func, 1, 8, .nilFunc⟩ := rfl
@[go_sem] theorem tab_36 : tab 36 = some ⟨.struct [(0, 26), (3, 3), (4, 3), (5, 3), (6, 9)], 7, 80, .agg #[.int .i64 0, .int .i64 0, .slice none 0 0, .int .i64 0, .int .i64 0, .int .i64 0, .string ⟨#[]⟩]⟩ := rfl
@[go_sem] theorem tab_37 : tab 37 = some ⟨.struct [(0, 26), (3, 3), (4, 3), (5, 3), (6, 9)], 7, 80, .agg #[.int .i64 0, .int .i64 0, .slice none 0 0, .int .i64 0, .int .i64 0, .int .i64 0, .string ⟨#[]⟩]⟩ := rfl
@[go_sem] theorem tab_38 : tab 38 = some ⟨.func, 1, 8, .nilFunc⟩ := rfl
@[go_sem] theorem tab_39 : tab 39 = some ⟨.func, 1, 8, .nilFunc⟩ := rfl
@[go_sem] theorem tab_40 : tab 40 = some ⟨.func, 1, 8, .nilFunc⟩ := rfl
@[go_sem] theorem tab_41 : tab 41 = some ⟨.func, 1, 8, .nilFunc⟩ := rfl
@[go_sem] theorem tab_42 : tab 42 = some ⟨.func, 1, 8, .nilFunc⟩ := rfl
@[go_sem] theorem tab_43 : tab 43 = some ⟨.func, 1, 8, .nilFunc⟩ := rfl
@[go_sem] theorem tab_44 : tab 44 = some ⟨.func, 1, 8, .nilFunc⟩ := rfl
@[go_sem] theorem tab_45 : tab 45 = some ⟨.func, 1, 8, .nilFunc⟩ := rfl
@[go_sem] theorem tab_46 : tab 46 = some ⟨.func, 1, 8, .nilFunc⟩ := rfl
@[go_sem] theorem tab_47 : tab 47 = some ⟨.func, 1, 8, .nilFunc⟩ := rfl
@[go_sem] theorem tab_48 : tab 48 = some ⟨.func, 1, 8, .nilFunc⟩ := rfl
@[go_sem] theorem tab_49 : tab 49 = some ⟨.func, 1, 8, .nilFunc⟩ := rfl
@[go_sem] theorem tab_50 : tab 50 = some ⟨.func, 1, 8, .nilFunc⟩ := rfl
@[go_sem] theorem tab_51 : tab 51 = some ⟨.func, 1, 8, .nilFunc⟩ := rfl
@[go_sem] theorem tab_52 : tab 52 = some ⟨.func, 1, 8, .nilFunc⟩ := rfl
@[go_sem] theorem tab_53 : tab 53 = some ⟨.struct [(0, 17), (1, 17), (2, 17), (3, 9)], 4, 40, .agg #[.pointer none, .pointer none, .pointer none, .string ⟨#[]⟩]⟩ := rfl
@[go_sem] theorem tab_54 : tab 54 = some ⟨.struct [(0, 17), (1, 17), (2, 17), (3, 9)], 4, 40, .agg #[.pointer none, .pointer none, .pointer none, .string ⟨#[]⟩]⟩ := rfl
@[go_sem] theorem tab_55 : tab 55 = some ⟨.array 0 16, 0, 0, .agg #[]⟩ := rfl
@[go_sem] theorem tab_56 : tab 56 = some ⟨.struct [(0, 55)], 0, 0, .agg #[]⟩ := rfl
@[go_sem] theorem tab_57 : tab 57 = some ⟨.struct [(0, 55)], 0, 0, .agg #[]⟩ := rfl
@[go_sem] theorem tab_58 : tab 58 = some ⟨.func, 1, 8, .nilFunc⟩ := rfl
@[go_sem] theorem tab_59 : tab 59 = some ⟨.int .u32, 1, 4, .int .u32 0⟩ := rfl
@[go_sem] theorem tab_60 : tab 60 = some ⟨.int .u8, 1, 1, .int .u8 0⟩ := rfl
@[go_sem] theorem tab_61 : tab 61 = some ⟨.int .u8, 1, 1, .int .u8 0⟩ := rfl
@[go_sem] theorem tab_62 : tab 62 = some ⟨.func, 1, 8, .nilFunc⟩ := rfl
@[go_sem] theorem tab_63 : tab 63 = some ⟨.pointer 5, 1, 8, .pointer none⟩ := rfl
@[go_sem] theorem tab_64 : tab 64 = some ⟨.int .i32, 1, 4, .int .i32 0⟩ := rfl
@[go_sem] theorem tab_65 : tab 65 = some ⟨.int .i32, 1, 4, .int .i32 0⟩ := rfl
@[go_sem] theorem tab_66 : tab 66 = some ⟨.struct [(0, 12), (1, 12), (2, 59), (3, 60), (4, 5), (5, 5), (6, 61), (7, 62), (8, 63), (9, 64), (10, 65)], 11, 48, .agg #[.int .u64 0, .int .u64 0, .int .u32 0, .int .u8 0, .int .u8 0, .int .u8 0, .int .u8 0, .nilFunc, .pointer none, .int .i32 0, .int .i32 0]⟩ := rfl
@[go_sem] theorem tab_67 : tab 67 = some ⟨.struct [(0, 12), (1, 12), (2, 59), (3, 60), (4, 5), (5, 5), (6, 61), (7, 62), (8, 63), (9, 64), (10, 65)], 11, 48, .agg #[.int .u64 0, .int .u64 0, .int .u32 0, .int .u8 0, .int .u8 0, .int .u8 0, .int .u8 0, .nilFunc, .pointer none, .int .i32 0, .int .i32 0]⟩ := rfl

theorem tabOk : TabOk Try.prog tab := by
  intro t ti e
  unfold tab at e
  split at e
  · cases e; exact ⟨_, _, Try.type1, Try.underlying1, rfl, rfl, rfl, rfl⟩
  · cases e; exact ⟨_, _, Try.type2, Try.underlying2, rfl, rfl, rfl, rfl⟩
  · cases e; exact ⟨_, _, Try.type3, Try.underlying3, rfl, rfl, rfl, rfl⟩
  · cases e; exact ⟨_, _, Try.type4, Try.underlying4, rfl, rfl, rfl, rfl⟩
  · cases e; exact ⟨_, _, Try.type5, Try.underlying5, rfl, rfl, rfl, rfl⟩
  · cases e; exact ⟨_, _, Try.type6, Try.underlying6, rfl, rfl, rfl, rfl⟩
  · cases e; exact ⟨_, _, Try.type7, Try.underlying7, rfl, rfl, rfl, rfl⟩
  · cases e; exact ⟨_, _, Try.type8, Try.underlying8, rfl, rfl, rfl, rfl⟩
  · cases e; exact ⟨_, _, Try.type9, Try.underlying9, rfl, rfl, rfl, rfl⟩
  · cases e; exact ⟨_, _, Try.type10, Try.underlying10, rfl, rfl, rfl, rfl⟩
  · cases e; exact ⟨_, _, Try.type11, Try.underlying11, rfl, rfl, rfl, rfl⟩
  · cases e; exact ⟨_, _, Try.type12, Try.underlying12, rfl, rfl, rfl, rfl⟩
  · cases e; exact ⟨_, _, Try.type13, Try.underlying13, rfl, rfl, rfl, rfl⟩
  · cases e; exact ⟨_, _, Try.type14, Try.underlying14, rfl, rfl, rfl, rfl⟩
  · cases e; exact ⟨_, _, Try.type15, Try.underlying15, rfl, rfl, rfl, rfl⟩
  · cases e; exact ⟨_, _, Try.type16, Try.underlying16, rfl, rfl, rfl, rfl⟩
  · cases e; exact ⟨_, _, Try.type17, Try.underlying17, rfl, rfl, rfl, rfl⟩
  · cases e; exact ⟨_, _, Try.type18, Try.underlying18, rfl, rfl, rfl, rfl⟩
  · cases e; exact ⟨_, _, Try.type19, Try.underlying19, rfl, rfl, rfl, rfl⟩
  · cases e; exact ⟨_, _, Try.type20, Try.underlying20, rfl, rfl, rfl, rfl⟩
  · cases e; exact ⟨_, _, Try.type21, Try.underlying21, rfl, rfl, rfl, rfl⟩
  · cases e; exact ⟨_, _, Try.type22, Try.underlying22, rfl, rfl, rfl, rfl⟩
  · cases e; exact ⟨_, _, Try.type23, Try.underlying23, rfl, rfl, rfl, rfl⟩
  · cases e; exact ⟨_, _, Try.type24, Try.underlying24, rfl, rfl, rfl, rfl⟩
  · cases e; exact ⟨_, _, Try.type25, Try.underlying25, rfl, rfl, rfl, rfl⟩
  · cases e; exact ⟨_, _, Try.type26, Try.underlying26, rfl, rfl, rfl, rfl⟩
  · cases e; exact ⟨_, _, Try.type27, Try.underlying27, rfl, rfl, rfl, rfl⟩
  · cases e; exact ⟨_, _, Try.type28, Try.underlying28, rfl, rfl, rfl, rfl⟩
  · cases e; exact ⟨_, _, Try.type29, Try.underlying29, rfl, rfl, rfl, rfl⟩
  · cases e; exact ⟨_, _, Try.type30, Try.underlying30, rfl, rfl, rfl, rfl⟩
  · cases e; exact ⟨_, _, Try.type31, Try.underlying31, rfl, rfl, rfl, rfl⟩
  · cases e; exact ⟨_, _, Try.type32, Try.underlying32, rfl, rfl, rfl, rfl⟩
  · cases e; exact ⟨_, _, Try.type33, Try.underlying33, rfl, rfl, rfl, rfl⟩
  · cases e; exact ⟨_, _, Try.type34, Try.underlying34, rfl, rfl, rfl, rfl⟩
  · cases e; exact ⟨_, _, Try.type35, Try.underlying35, rfl, rfl, rfl, rfl⟩
  · cases e; exact ⟨_, _, Try.type36, Try.underlying36, rfl, rfl, rfl, rfl⟩
  · cases e; exact ⟨_, _, Try.type37, Try.underlying37, rfl, rfl, rfl, rfl⟩
  · cases e; exact ⟨_, _, Try.type38, Try.underlying38, rfl, rfl, rfl, rfl⟩
  · cases e; exact ⟨_, _, Try.type39, Try.underlying39, rfl, rfl, rfl, rfl⟩
  · cases e; exact ⟨_, _, Try.type40, Try.underlying40, rfl, rfl, rfl, rfl⟩
  · cases e; exact ⟨_, _, Try.type41, Try.underlying41, rfl, rfl, rfl, rfl⟩
  · cases e; exact ⟨_, _, Try.type42, Try.underlying42, rfl, rfl, rfl, rfl⟩
  · cases e; exact ⟨_, _, Try.type43, Try.underlying43, rfl, rfl, rfl, rfl⟩
  · cases e; exact ⟨_, _, Try.type44, Try.underlying44, rfl, rfl, rfl, rfl⟩
  · cases e; exact ⟨_, _, Try.type45, Try.underlying45, rfl, rfl, rfl, rfl⟩
  · cases e; exact ⟨_, _, Try.type46, Try.underlying46, rfl, rfl, rfl, rfl⟩
  · cases e; exact ⟨_, _, Try.type47, Try.underlying47, rfl, rfl, rfl, rfl⟩
  · cases e; exact ⟨_, _, Try.type48, Try.underlying48, rfl, rfl, rfl, rfl⟩
  · cases e; exact ⟨_, _, Try.type49, Try.underlying49, rfl, rfl, rfl, rfl⟩
  · cases e; exact ⟨_, _, Try.type50, Try.underlying50, rfl, rfl, rfl, rfl⟩
  · cases e; exact ⟨_, _, Try.type51, Try.underlying51, rfl, rfl, rfl, rfl⟩
  · cases e; exact ⟨_, _, Try.type52, Try.underlying52, rfl, rfl, rfl, rfl⟩
  · cases e; exact ⟨_, _, Try.type53, Try.underlying53, rfl, rfl, rfl, rfl⟩
  · cases e; exact ⟨_, _, Try.type54, Try.underlying54, rfl, rfl, rfl, rfl⟩
  · cases e; exact ⟨_, _, Try.type55, Try.underlying55, rfl, rfl, rfl, rfl⟩
  · cases e; exact ⟨_, _, Try.type56, Try.underlying56, rfl, rfl, rfl, rfl⟩
  · cases e; exact ⟨_, _, Try.type57, Try.underlying57, rfl, rfl, rfl, rfl⟩
  · cases e; exact ⟨_, _, Try.type58, Try.underlying58, rfl, rfl, rfl, rfl⟩
  · cases e; exact ⟨_, _, Try.type59, Try.underlying59, rfl, rfl, rfl, rfl⟩
  · cases e; exact ⟨_, _, Try.type60, Try.underlying60, rfl, rfl, rfl, rfl⟩
  · cases e; exact ⟨_, _, Try.type61, Try.underlying61, rfl, rfl, rfl, rfl⟩
  · cases e; exact ⟨_, _, Try.type62, Try.underlying62, rfl, rfl, rfl, rfl⟩
  · cases e; exact ⟨_, _, Try.type63, Try.underlying63, rfl, rfl, rfl, rfl⟩
  · cases e; exact ⟨_, _, Try.type64, Try.underlying64, rfl, rfl, rfl, rfl⟩
  · cases e; exact ⟨_, _, Try.type65, Try.underlying65, rfl, rfl, rfl, rfl⟩
  · cases e; exact ⟨_, _, Try.type66, Try.underlying66, rfl, rfl, rfl, rfl⟩
  · cases e; exact ⟨_, _, Try.type67, Try.underlying67, rfl, rfl, rfl, rfl⟩
  · cases e
theorem mixed : Try.prog.follows .mixedOrders = true := Try.checked.mixed
end Go.Proofs.Ytkdendaohlnlcaa.Av
