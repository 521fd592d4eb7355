/- The type table, written by program. -/
import Derived.Test.YtakdagfnknmjjaaRows
import Derived.Test.YtakdagfnknmjjaaMore
namespace Go.Proofs.Ytakdagfnknmjjaa
set_option maxRecDepth 100000

instance : OneT Try.prog 1 := ⟨⟨_, rfl, rfl⟩, ⟨_, rfl, rfl⟩⟩
instance : OneT Try.prog 2 := ⟨⟨_, rfl, rfl⟩, ⟨_, rfl, rfl⟩⟩
instance : ZeroT Try.prog 2 [.int .i64 0] := ⟨⟨_, _, rfl, rfl, rfl⟩⟩
instance : OneT Try.prog 3 := ⟨⟨_, rfl, rfl⟩, ⟨_, rfl, rfl⟩⟩
instance : ZeroT Try.prog 3 [.int .i64 0] := ⟨⟨_, _, rfl, rfl, rfl⟩⟩
instance : BoolT Try.prog 4 := ⟨rfl⟩
instance : OneT Try.prog 4 := ⟨⟨_, rfl, rfl⟩, ⟨_, rfl, rfl⟩⟩
instance : ZeroT Try.prog 4 [.bool false] := ⟨⟨_, _, rfl, rfl, rfl⟩⟩
instance : OneT Try.prog 5 := ⟨⟨_, rfl, rfl⟩, ⟨_, rfl, rfl⟩⟩
instance : ZeroT Try.prog 5 [.int .u8 0] := ⟨⟨_, _, rfl, rfl, rfl⟩⟩
instance : OneT Try.prog 6 := ⟨⟨_, rfl, rfl⟩, ⟨_, rfl, rfl⟩⟩
instance : AggT Try.prog 7 4 := ⟨⟨_, rfl, rfl⟩, ⟨_, rfl, rfl⟩⟩
instance : AggT Try.prog 8 4 := ⟨⟨_, rfl, rfl⟩, ⟨_, rfl, rfl⟩⟩
instance : StrT Try.prog 9 := ⟨rfl⟩
instance : OneT Try.prog 9 := ⟨⟨_, rfl, rfl⟩, ⟨_, rfl, rfl⟩⟩
instance : ZeroT Try.prog 9 [.string ByteArray.empty] := ⟨⟨_, _, rfl, rfl, rfl⟩⟩
instance : StrT Try.prog 10 := ⟨rfl⟩
instance : OneT Try.prog 10 := ⟨⟨_, rfl, rfl⟩, ⟨_, rfl, rfl⟩⟩
instance : StrT Try.prog 11 := ⟨rfl⟩
instance : OneT Try.prog 11 := ⟨⟨_, rfl, rfl⟩, ⟨_, rfl, rfl⟩⟩
instance : OneT Try.prog 12 := ⟨⟨_, rfl, rfl⟩, ⟨_, rfl, rfl⟩⟩
instance : ZeroT Try.prog 12 [.int .u64 0] := ⟨⟨_, _, rfl, rfl, rfl⟩⟩
instance : AggT Try.prog 13 2 := ⟨⟨_, rfl, rfl⟩, ⟨_, rfl, rfl⟩⟩
instance : AggT Try.prog 14 2 := ⟨⟨_, rfl, rfl⟩, ⟨_, rfl, rfl⟩⟩
instance : OneT Try.prog 15 := ⟨⟨_, rfl, rfl⟩, ⟨_, rfl, rfl⟩⟩
instance : ZeroT Try.prog 15 [.pointer none] := ⟨⟨_, _, rfl, rfl, rfl⟩⟩
instance : OneT Try.prog 16 := ⟨⟨_, rfl, rfl⟩, ⟨_, rfl, rfl⟩⟩
instance : ZeroT Try.prog 16 [.pointer none] := ⟨⟨_, _, rfl, rfl, rfl⟩⟩
instance : OneT Try.prog 17 := ⟨⟨_, rfl, rfl⟩, ⟨_, rfl, rfl⟩⟩
instance : ZeroT Try.prog 17 [.pointer none] := ⟨⟨_, _, rfl, rfl, rfl⟩⟩
instance : AggT Try.prog 18 1 := ⟨⟨_, rfl, rfl⟩, ⟨_, rfl, rfl⟩⟩
instance : AggT Try.prog 19 1 := ⟨⟨_, rfl, rfl⟩, ⟨_, rfl, rfl⟩⟩
instance : OneT Try.prog 20 := ⟨⟨_, rfl, rfl⟩, ⟨_, rfl, rfl⟩⟩
instance : OneT Try.prog 21 := ⟨⟨_, rfl, rfl⟩, ⟨_, rfl, rfl⟩⟩
instance : ZeroT Try.prog 21 [.int .i32 0] := ⟨⟨_, _, rfl, rfl, rfl⟩⟩
instance : SliceT Try.prog 22 28 3 24 := ⟨rfl, ⟨_, _, rfl, rfl, rfl, rfl, rfl⟩, by decide⟩
instance : OneT Try.prog 22 := ⟨⟨_, rfl, rfl⟩, ⟨_, rfl, rfl⟩⟩
instance : ZeroT Try.prog 22 [.slice none 0 0] := ⟨⟨_, _, rfl, rfl, rfl⟩⟩
instance : OneT Try.prog 23 := ⟨⟨_, rfl, rfl⟩, ⟨_, rfl, rfl⟩⟩
instance : SliceT Try.prog 24 42 2 16 := ⟨rfl, ⟨_, _, rfl, rfl, rfl, rfl, rfl⟩, by decide⟩
instance : OneT Try.prog 24 := ⟨⟨_, rfl, rfl⟩, ⟨_, rfl, rfl⟩⟩
instance : ZeroT Try.prog 24 [.slice none 0 0] := ⟨⟨_, _, rfl, rfl, rfl⟩⟩
instance : AggT Try.prog 25 2 := ⟨⟨_, rfl, rfl⟩, ⟨_, rfl, rfl⟩⟩
instance : FieldT Try.prog 25 0 0 := ⟨⟨_, _, _, rfl, rfl, rfl, rfl, by decide⟩⟩
instance : FieldT Try.prog 25 1 1 := ⟨⟨_, _, _, rfl, rfl, rfl, rfl, by decide⟩⟩
instance : ZeroT Try.prog 25 [.slice none 0 0, .slice none 0 0] := ⟨⟨_, _, rfl, rfl, rfl⟩⟩
instance : StructT Try.prog 25 [(0, 1), (1, 1)] [.slice none 0 0, .slice none 0 0] := ⟨⟨_, rfl, fun w => by simp [show ∀ w, (sizeOf 24).run Try.prog w = .ok 1 w from fun _ => rfl]⟩, inferInstance⟩
instance : AggT Try.prog 26 2 := ⟨⟨_, rfl, rfl⟩, ⟨_, rfl, rfl⟩⟩
instance : FieldT Try.prog 26 0 0 := ⟨⟨_, _, _, rfl, rfl, rfl, rfl, by decide⟩⟩
instance : FieldT Try.prog 26 1 1 := ⟨⟨_, _, _, rfl, rfl, rfl, rfl, by decide⟩⟩
instance : ZeroT Try.prog 26 [.slice none 0 0, .slice none 0 0] := ⟨⟨_, _, rfl, rfl, rfl⟩⟩
instance : StructT Try.prog 26 [(0, 1), (1, 1)] [.slice none 0 0, .slice none 0 0] := ⟨⟨_, rfl, fun w => by simp [show ∀ w, (sizeOf 24).run Try.prog w = .ok 1 w from fun _ => rfl]⟩, inferInstance⟩
instance : AggT Try.prog 27 3 := ⟨⟨_, rfl, rfl⟩, ⟨_, rfl, rfl⟩⟩
instance : FieldT Try.prog 27 0 0 := ⟨⟨_, _, _, rfl, rfl, rfl, rfl, by decide⟩⟩
instance : FieldT Try.prog 27 1 1 := ⟨⟨_, _, _, rfl, rfl, rfl, rfl, by decide⟩⟩
instance : FieldT Try.prog 27 2 2 := ⟨⟨_, _, _, rfl, rfl, rfl, rfl, by decide⟩⟩
instance : ZeroT Try.prog 27 [.int .i64 0, .int .i64 0, .int .i64 0] := ⟨⟨_, _, rfl, rfl, rfl⟩⟩
instance : StructT Try.prog 27 [(0, 1), (1, 1), (2, 1)] [.int .i64 0, .int .i64 0, .int .i64 0] := ⟨⟨_, rfl, fun w => by simp [show ∀ w, (sizeOf 3).run Try.prog w = .ok 1 w from fun _ => rfl]⟩, inferInstance⟩
instance : AggT Try.prog 28 3 := ⟨⟨_, rfl, rfl⟩, ⟨_, rfl, rfl⟩⟩
instance : FieldT Try.prog 28 0 0 := ⟨⟨_, _, _, rfl, rfl, rfl, rfl, by decide⟩⟩
instance : FieldT Try.prog 28 1 1 := ⟨⟨_, _, _, rfl, rfl, rfl, rfl, by decide⟩⟩
instance : FieldT Try.prog 28 2 2 := ⟨⟨_, _, _, rfl, rfl, rfl, rfl, by decide⟩⟩
instance : ZeroT Try.prog 28 [.int .i64 0, .int .i64 0, .int .i64 0] := ⟨⟨_, _, rfl, rfl, rfl⟩⟩
instance : StructT Try.prog 28 [(0, 1), (1, 1), (2, 1)] [.int .i64 0, .int .i64 0, .int .i64 0] := ⟨⟨_, rfl, fun w => by simp [show ∀ w, (sizeOf 3).run Try.prog w = .ok 1 w from fun _ => rfl]⟩, inferInstance⟩
instance : OneT Try.prog 30 := ⟨⟨_, rfl, rfl⟩, ⟨_, rfl, rfl⟩⟩
instance : OneT Try.prog 32 := ⟨⟨_, rfl, rfl⟩, ⟨_, rfl, rfl⟩⟩
instance : OneT Try.prog 34 := ⟨⟨_, rfl, rfl⟩, ⟨_, rfl, rfl⟩⟩
instance : OneT Try.prog 35 := ⟨⟨_, rfl, rfl⟩, ⟨_, rfl, rfl⟩⟩
instance : OneT Try.prog 36 := ⟨⟨_, rfl, rfl⟩, ⟨_, rfl, rfl⟩⟩
instance : OneT Try.prog 38 := ⟨⟨_, rfl, rfl⟩, ⟨_, rfl, rfl⟩⟩
instance : OneT Try.prog 39 := ⟨⟨_, rfl, rfl⟩, ⟨_, rfl, rfl⟩⟩
instance : OneT Try.prog 40 := ⟨⟨_, rfl, rfl⟩, ⟨_, rfl, rfl⟩⟩
instance : AggT Try.prog 41 2 := ⟨⟨_, rfl, rfl⟩, ⟨_, rfl, rfl⟩⟩
instance : FieldT Try.prog 41 0 0 := ⟨⟨_, _, _, rfl, rfl, rfl, rfl, by decide⟩⟩
instance : FieldT Try.prog 41 1 1 := ⟨⟨_, _, _, rfl, rfl, rfl, rfl, by decide⟩⟩
instance : ZeroT Try.prog 41 [.int .i64 0, .int .i64 0] := ⟨⟨_, _, rfl, rfl, rfl⟩⟩
instance : StructT Try.prog 41 [(0, 1), (1, 1)] [.int .i64 0, .int .i64 0] := ⟨⟨_, rfl, fun w => by simp [show ∀ w, (sizeOf 3).run Try.prog w = .ok 1 w from fun _ => rfl]⟩, inferInstance⟩
instance : AggT Try.prog 42 2 := ⟨⟨_, rfl, rfl⟩, ⟨_, rfl, rfl⟩⟩
instance : FieldT Try.prog 42 0 0 := ⟨⟨_, _, _, rfl, rfl, rfl, rfl, by decide⟩⟩
instance : FieldT Try.prog 42 1 1 := ⟨⟨_, _, _, rfl, rfl, rfl, rfl, by decide⟩⟩
instance : ZeroT Try.prog 42 [.int .i64 0, .int .i64 0] := ⟨⟨_, _, rfl, rfl, rfl⟩⟩
instance : StructT Try.prog 42 [(0, 1), (1, 1)] [.int .i64 0, .int .i64 0] := ⟨⟨_, rfl, fun w => by simp [show ∀ w, (sizeOf 3).run Try.prog w = .ok 1 w from fun _ => rfl]⟩, inferInstance⟩
instance : OneT Try.prog 43 := ⟨⟨_, rfl, rfl⟩, ⟨_, rfl, rfl⟩⟩
instance : OneT Try.prog 44 := ⟨⟨_, rfl, rfl⟩, ⟨_, rfl, rfl⟩⟩
instance : OneT Try.prog 45 := ⟨⟨_, rfl, rfl⟩, ⟨_, rfl, rfl⟩⟩
instance : OneT Try.prog 46 := ⟨⟨_, rfl, rfl⟩, ⟨_, rfl, rfl⟩⟩
instance : OneT Try.prog 47 := ⟨⟨_, rfl, rfl⟩, ⟨_, rfl, rfl⟩⟩
instance : OneT Try.prog 48 := ⟨⟨_, rfl, rfl⟩, ⟨_, rfl, rfl⟩⟩
instance : ZeroT Try.prog 48 [.pointer none] := ⟨⟨_, _, rfl, rfl, rfl⟩⟩
instance : OneT Try.prog 49 := ⟨⟨_, rfl, rfl⟩, ⟨_, rfl, rfl⟩⟩
instance : AggT Try.prog 50 2 := ⟨⟨_, rfl, rfl⟩, ⟨_, rfl, rfl⟩⟩
instance : FieldT Try.prog 50 0 0 := ⟨⟨_, _, _, rfl, rfl, rfl, rfl, by decide⟩⟩
instance : ZeroT Try.prog 50 [.slice none 0 0, .slice none 0 0] := ⟨⟨_, _, rfl, rfl, rfl⟩⟩
instance : StructT Try.prog 50 [(0, 2)] [.slice none 0 0, .slice none 0 0] := ⟨⟨_, rfl, fun w => by simp [show ∀ w, (sizeOf 26).run Try.prog w = .ok 2 w from fun _ => rfl]⟩, inferInstance⟩
instance : AggT Try.prog 51 2 := ⟨⟨_, rfl, rfl⟩, ⟨_, rfl, rfl⟩⟩
instance : FieldT Try.prog 51 0 0 := ⟨⟨_, _, _, rfl, rfl, rfl, rfl, by decide⟩⟩
instance : ZeroT Try.prog 51 [.slice none 0 0, .slice none 0 0] := ⟨⟨_, _, rfl, rfl, rfl⟩⟩
instance : StructT Try.prog 51 [(0, 2)] [.slice none 0 0, .slice none 0 0] := ⟨⟨_, rfl, fun w => by simp [show ∀ w, (sizeOf 26).run Try.prog w = .ok 2 w from fun _ => rfl]⟩, inferInstance⟩
instance : OneT Try.prog 52 := ⟨⟨_, rfl, rfl⟩, ⟨_, rfl, rfl⟩⟩
instance : OneT Try.prog 53 := ⟨⟨_, rfl, rfl⟩, ⟨_, rfl, rfl⟩⟩
instance : OneT Try.prog 54 := ⟨⟨_, rfl, rfl⟩, ⟨_, rfl, rfl⟩⟩
instance : OneT Try.prog 55 := ⟨⟨_, rfl, rfl⟩, ⟨_, rfl, rfl⟩⟩
instance : OneT Try.prog 56 := ⟨⟨_, rfl, rfl⟩, ⟨_, rfl, rfl⟩⟩
instance : OneT Try.prog 57 := ⟨⟨_, rfl, rfl⟩, ⟨_, rfl, rfl⟩⟩
instance : OneT Try.prog 58 := ⟨⟨_, rfl, rfl⟩, ⟨_, rfl, rfl⟩⟩
instance : OneT Try.prog 59 := ⟨⟨_, rfl, rfl⟩, ⟨_, rfl, rfl⟩⟩
instance : OneT Try.prog 60 := ⟨⟨_, rfl, rfl⟩, ⟨_, rfl, rfl⟩⟩
instance : OneT Try.prog 61 := ⟨⟨_, rfl, rfl⟩, ⟨_, rfl, rfl⟩⟩
instance : OneT Try.prog 62 := ⟨⟨_, rfl, rfl⟩, ⟨_, rfl, rfl⟩⟩
instance : AggT Try.prog 63 4 := ⟨⟨_, rfl, rfl⟩, ⟨_, rfl, rfl⟩⟩
instance : AggT Try.prog 64 4 := ⟨⟨_, rfl, rfl⟩, ⟨_, rfl, rfl⟩⟩
instance : ArrT Try.prog 65 0 16 1 := ⟨rfl, ⟨_, rfl, rfl⟩⟩
instance : AggT Try.prog 65 0 := ⟨⟨_, rfl, rfl⟩, ⟨_, rfl, rfl⟩⟩
instance : ZeroT Try.prog 65 [] := ⟨⟨_, _, rfl, rfl, rfl⟩⟩
instance : AggT Try.prog 66 0 := ⟨⟨_, rfl, rfl⟩, ⟨_, rfl, rfl⟩⟩
instance : AggT Try.prog 67 0 := ⟨⟨_, rfl, rfl⟩, ⟨_, rfl, rfl⟩⟩
instance : OneT Try.prog 68 := ⟨⟨_, rfl, rfl⟩, ⟨_, rfl, rfl⟩⟩
instance : OneT Try.prog 69 := ⟨⟨_, rfl, rfl⟩, ⟨_, rfl, rfl⟩⟩
instance : ZeroT Try.prog 69 [.int .u32 0] := ⟨⟨_, _, rfl, rfl, rfl⟩⟩
instance : OneT Try.prog 70 := ⟨⟨_, rfl, rfl⟩, ⟨_, rfl, rfl⟩⟩
instance : OneT Try.prog 71 := ⟨⟨_, rfl, rfl⟩, ⟨_, rfl, rfl⟩⟩
instance : OneT Try.prog 72 := ⟨⟨_, rfl, rfl⟩, ⟨_, rfl, rfl⟩⟩
instance : OneT Try.prog 73 := ⟨⟨_, rfl, rfl⟩, ⟨_, rfl, rfl⟩⟩
instance : ZeroT Try.prog 73 [.pointer none] := ⟨⟨_, _, rfl, rfl, rfl⟩⟩
instance : OneT Try.prog 74 := ⟨⟨_, rfl, rfl⟩, ⟨_, rfl, rfl⟩⟩
instance : OneT Try.prog 75 := ⟨⟨_, rfl, rfl⟩, ⟨_, rfl, rfl⟩⟩
instance : AggT Try.prog 76 11 := ⟨⟨_, rfl, rfl⟩, ⟨_, rfl, rfl⟩⟩
instance : FieldT Try.prog 76 0 0 := ⟨⟨_, _, _, rfl, rfl, rfl, rfl, by decide⟩⟩
instance : FieldT Try.prog 76 1 1 := ⟨⟨_, _, _, rfl, rfl, rfl, rfl, by decide⟩⟩
instance : FieldT Try.prog 76 2 2 := ⟨⟨_, _, _, rfl, rfl, rfl, rfl, by decide⟩⟩
instance : FieldT Try.prog 76 3 3 := ⟨⟨_, _, _, rfl, rfl, rfl, rfl, by decide⟩⟩
instance : FieldT Try.prog 76 4 4 := ⟨⟨_, _, _, rfl, rfl, rfl, rfl, by decide⟩⟩
instance : FieldT Try.prog 76 5 5 := ⟨⟨_, _, _, rfl, rfl, rfl, rfl, by decide⟩⟩
instance : FieldT Try.prog 76 6 6 := ⟨⟨_, _, _, rfl, rfl, rfl, rfl, by decide⟩⟩
instance : FieldT Try.prog 76 7 7 := ⟨⟨_, _, _, rfl, rfl, rfl, rfl, by decide⟩⟩
instance : FieldT Try.prog 76 8 8 := ⟨⟨_, _, _, rfl, rfl, rfl, rfl, by decide⟩⟩
instance : FieldT Try.prog 76 9 9 := ⟨⟨_, _, _, rfl, rfl, rfl, rfl, by decide⟩⟩
instance : FieldT Try.prog 76 10 10 := ⟨⟨_, _, _, rfl, rfl, rfl, rfl, by decide⟩⟩
instance : ZeroT Try.prog 76 [.int .u64 0, .int .u64 0, .int .u32 0, .int .u8 0, .int .u8 0, .int .u8 0, .int .u8 0, .nilFunc, .pointer none, .int .i32 0, .int .i32 0] := ⟨⟨_, _, rfl, rfl, rfl⟩⟩
instance : StructT Try.prog 76 [(0, 1), (1, 1), (2, 1), (3, 1), (4, 1), (5, 1), (6, 1), (7, 1), (8, 1), (9, 1), (10, 1)] [.int .u64 0, .int .u64 0, .int .u32 0, .int .u8 0, .int .u8 0, .int .u8 0, .int .u8 0, .nilFunc, .pointer none, .int .i32 0, .int .i32 0] := ⟨⟨_, rfl, fun w => by simp [show ∀ w, (sizeOf 12).run Try.prog w = .ok 1 w from fun _ => rfl, show ∀ w, (sizeOf 5).run Try.prog w = .ok 1 w from fun _ => rfl, show ∀ w, (sizeOf 69).run Try.prog w = .ok 1 w from fun _ => rfl, show ∀ w, (sizeOf 70).run Try.prog w = .ok 1 w from fun _ => rfl, show ∀ w, (sizeOf 71).run Try.prog w = .ok 1 w from fun _ => rfl, show ∀ w, (sizeOf 72).run Try.prog w = .ok 1 w from fun _ => rfl, show ∀ w, (sizeOf 73).run Try.prog w = .ok 1 w from fun _ => rfl, show ∀ w, (sizeOf 74).run Try.prog w = .ok 1 w from fun _ => rfl, show ∀ w, (sizeOf 75).run Try.prog w = .ok 1 w from fun _ => rfl]⟩, inferInstance⟩
instance : AggT Try.prog 77 11 := ⟨⟨_, rfl, rfl⟩, ⟨_, rfl, rfl⟩⟩
instance : OneT Try.prog 78 := ⟨⟨_, rfl, rfl⟩, ⟨_, rfl, rfl⟩⟩
instance : ZeroT Try.prog 78 [.pointer none] := ⟨⟨_, _, rfl, rfl, rfl⟩⟩
end Go.Proofs.Ytakdagfnknmjjaa
