/- The type table, written by program. -/
import Derived.Test.YthfphhplghahjaaRows
import Derived.Test.YthfphhplghahjaaGun
namespace Go.Proofs.Ythfphhplghahjaa
set_option maxRecDepth 100000

instance : OneT Try.prog 1 := ⟨⟨_, rfl, rfl⟩, ⟨_, rfl, rfl⟩⟩
instance : OneT Try.prog 2 := ⟨⟨_, rfl, rfl⟩, ⟨_, rfl, rfl⟩⟩
instance : ZeroT Try.prog 2 [.int .i64 0] := ⟨⟨_, _, rfl, rfl, rfl⟩⟩
instance : OneT Try.prog 3 := ⟨⟨_, rfl, rfl⟩, ⟨_, rfl, rfl⟩⟩
instance : ZeroT Try.prog 3 [.int .i64 0] := ⟨⟨_, _, rfl, rfl, rfl⟩⟩
instance : BoolT Try.prog 4 := ⟨rfl⟩
instance : OneT Try.prog 4 := ⟨⟨_, rfl, rfl⟩, ⟨_, rfl, rfl⟩⟩
instance : ZeroT Try.prog 4 [.bool false] := ⟨⟨_, _, rfl, rfl, rfl⟩⟩
instance : OneT Try.prog 5 := ⟨⟨_, rfl, rfl⟩, ⟨_, rfl, rfl⟩⟩
instance : ZeroT Try.prog 5 [.int .u8 0] := ⟨⟨_, _, rfl, rfl, rfl⟩⟩
instance : OneT Try.prog 6 := ⟨⟨_, rfl, rfl⟩, ⟨_, rfl, rfl⟩⟩
instance : AggT Try.prog 7 4 := ⟨⟨_, rfl, rfl⟩, ⟨_, rfl, rfl⟩⟩
instance : AggT Try.prog 8 4 := ⟨⟨_, rfl, rfl⟩, ⟨_, rfl, rfl⟩⟩
instance : StrT Try.prog 9 := ⟨rfl⟩
instance : OneT Try.prog 9 := ⟨⟨_, rfl, rfl⟩, ⟨_, rfl, rfl⟩⟩
instance : ZeroT Try.prog 9 [.string ByteArray.empty] := ⟨⟨_, _, rfl, rfl, rfl⟩⟩
instance : StrT Try.prog 10 := ⟨rfl⟩
instance : OneT Try.prog 10 := ⟨⟨_, rfl, rfl⟩, ⟨_, rfl, rfl⟩⟩
instance : StrT Try.prog 11 := ⟨rfl⟩
instance : OneT Try.prog 11 := ⟨⟨_, rfl, rfl⟩, ⟨_, rfl, rfl⟩⟩
instance : OneT Try.prog 12 := ⟨⟨_, rfl, rfl⟩, ⟨_, rfl, rfl⟩⟩
instance : ZeroT Try.prog 12 [.int .u64 0] := ⟨⟨_, _, rfl, rfl, rfl⟩⟩
instance : AggT Try.prog 13 2 := ⟨⟨_, rfl, rfl⟩, ⟨_, rfl, rfl⟩⟩
instance : AggT Try.prog 14 2 := ⟨⟨_, rfl, rfl⟩, ⟨_, rfl, rfl⟩⟩
instance : OneT Try.prog 15 := ⟨⟨_, rfl, rfl⟩, ⟨_, rfl, rfl⟩⟩
instance : ZeroT Try.prog 15 [.pointer none] := ⟨⟨_, _, rfl, rfl, rfl⟩⟩
instance : OneT Try.prog 16 := ⟨⟨_, rfl, rfl⟩, ⟨_, rfl, rfl⟩⟩
instance : ZeroT Try.prog 16 [.pointer none] := ⟨⟨_, _, rfl, rfl, rfl⟩⟩
instance : OneT Try.prog 17 := ⟨⟨_, rfl, rfl⟩, ⟨_, rfl, rfl⟩⟩
instance : ZeroT Try.prog 17 [.pointer none] := ⟨⟨_, _, rfl, rfl, rfl⟩⟩
instance : AggT Try.prog 18 1 := ⟨⟨_, rfl, rfl⟩, ⟨_, rfl, rfl⟩⟩
instance : AggT Try.prog 19 1 := ⟨⟨_, rfl, rfl⟩, ⟨_, rfl, rfl⟩⟩
instance : OneT Try.prog 20 := ⟨⟨_, rfl, rfl⟩, ⟨_, rfl, rfl⟩⟩
instance : OneT Try.prog 21 := ⟨⟨_, rfl, rfl⟩, ⟨_, rfl, rfl⟩⟩
instance : ZeroT Try.prog 21 [.int .i32 0] := ⟨⟨_, _, rfl, rfl, rfl⟩⟩
instance : SliceT Try.prog 22 37 2 24 := ⟨rfl, ⟨_, _, rfl, rfl, rfl, rfl, rfl⟩, by decide⟩
instance : OneT Try.prog 22 := ⟨⟨_, rfl, rfl⟩, ⟨_, rfl, rfl⟩⟩
instance : ZeroT Try.prog 22 [.slice none 0 0] := ⟨⟨_, _, rfl, rfl, rfl⟩⟩
instance : AggT Try.prog 23 2 := ⟨⟨_, rfl, rfl⟩, ⟨_, rfl, rfl⟩⟩
instance : FieldT Try.prog 23 0 0 := ⟨⟨_, _, _, rfl, rfl, rfl, rfl, by decide⟩⟩
instance : FieldT Try.prog 23 1 1 := ⟨⟨_, _, _, rfl, rfl, rfl, rfl, by decide⟩⟩
instance : ZeroT Try.prog 23 [.slice none 0 0, .bool false] := ⟨⟨_, _, rfl, rfl, rfl⟩⟩
instance : StructT Try.prog 23 [(0, 1), (1, 1)] [.slice none 0 0, .bool false] := ⟨⟨_, rfl, fun w => by simp [show ∀ w, (sizeOf 22).run Try.prog w = .ok 1 w from fun _ => rfl, show ∀ w, (sizeOf 4).run Try.prog w = .ok 1 w from fun _ => rfl]⟩, inferInstance⟩
instance : AggT Try.prog 24 2 := ⟨⟨_, rfl, rfl⟩, ⟨_, rfl, rfl⟩⟩
instance : FieldT Try.prog 24 0 0 := ⟨⟨_, _, _, rfl, rfl, rfl, rfl, by decide⟩⟩
instance : FieldT Try.prog 24 1 1 := ⟨⟨_, _, _, rfl, rfl, rfl, rfl, by decide⟩⟩
instance : ZeroT Try.prog 24 [.slice none 0 0, .bool false] := ⟨⟨_, _, rfl, rfl, rfl⟩⟩
instance : StructT Try.prog 24 [(0, 1), (1, 1)] [.slice none 0 0, .bool false] := ⟨⟨_, rfl, fun w => by simp [show ∀ w, (sizeOf 22).run Try.prog w = .ok 1 w from fun _ => rfl, show ∀ w, (sizeOf 4).run Try.prog w = .ok 1 w from fun _ => rfl]⟩, inferInstance⟩
instance : OneT Try.prog 25 := ⟨⟨_, rfl, rfl⟩, ⟨_, rfl, rfl⟩⟩
instance : OneT Try.prog 26 := ⟨⟨_, rfl, rfl⟩, ⟨_, rfl, rfl⟩⟩
instance : OneT Try.prog 28 := ⟨⟨_, rfl, rfl⟩, ⟨_, rfl, rfl⟩⟩
instance : OneT Try.prog 29 := ⟨⟨_, rfl, rfl⟩, ⟨_, rfl, rfl⟩⟩
instance : OneT Try.prog 30 := ⟨⟨_, rfl, rfl⟩, ⟨_, rfl, rfl⟩⟩
instance : OneT Try.prog 31 := ⟨⟨_, rfl, rfl⟩, ⟨_, rfl, rfl⟩⟩
instance : OneT Try.prog 32 := ⟨⟨_, rfl, rfl⟩, ⟨_, rfl, rfl⟩⟩
instance : SliceT Try.prog 33 35 2 32 := ⟨rfl, ⟨_, _, rfl, rfl, rfl, rfl, rfl⟩, by decide⟩
instance : OneT Try.prog 33 := ⟨⟨_, rfl, rfl⟩, ⟨_, rfl, rfl⟩⟩
instance : ZeroT Try.prog 33 [.slice none 0 0] := ⟨⟨_, _, rfl, rfl, rfl⟩⟩
instance : AggT Try.prog 34 2 := ⟨⟨_, rfl, rfl⟩, ⟨_, rfl, rfl⟩⟩
instance : FieldT Try.prog 34 0 0 := ⟨⟨_, _, _, rfl, rfl, rfl, rfl, by decide⟩⟩
instance : FieldT Try.prog 34 1 1 := ⟨⟨_, _, _, rfl, rfl, rfl, rfl, by decide⟩⟩
instance : ZeroT Try.prog 34 [.slice none 0 0, .int .i64 0] := ⟨⟨_, _, rfl, rfl, rfl⟩⟩
instance : StructT Try.prog 34 [(0, 1), (1, 1)] [.slice none 0 0, .int .i64 0] := ⟨⟨_, rfl, fun w => by simp [show ∀ w, (sizeOf 22).run Try.prog w = .ok 1 w from fun _ => rfl, show ∀ w, (sizeOf 3).run Try.prog w = .ok 1 w from fun _ => rfl]⟩, inferInstance⟩
instance : AggT Try.prog 35 2 := ⟨⟨_, rfl, rfl⟩, ⟨_, rfl, rfl⟩⟩
instance : FieldT Try.prog 35 0 0 := ⟨⟨_, _, _, rfl, rfl, rfl, rfl, by decide⟩⟩
instance : FieldT Try.prog 35 1 1 := ⟨⟨_, _, _, rfl, rfl, rfl, rfl, by decide⟩⟩
instance : ZeroT Try.prog 35 [.slice none 0 0, .int .i64 0] := ⟨⟨_, _, rfl, rfl, rfl⟩⟩
instance : StructT Try.prog 35 [(0, 1), (1, 1)] [.slice none 0 0, .int .i64 0] := ⟨⟨_, rfl, fun w => by simp [show ∀ w, (sizeOf 22).run Try.prog w = .ok 1 w from fun _ => rfl, show ∀ w, (sizeOf 3).run Try.prog w = .ok 1 w from fun _ => rfl]⟩, inferInstance⟩
instance : AggT Try.prog 36 2 := ⟨⟨_, rfl, rfl⟩, ⟨_, rfl, rfl⟩⟩
instance : FieldT Try.prog 36 0 0 := ⟨⟨_, _, _, rfl, rfl, rfl, rfl, by decide⟩⟩
instance : FieldT Try.prog 36 1 1 := ⟨⟨_, _, _, rfl, rfl, rfl, rfl, by decide⟩⟩
instance : ZeroT Try.prog 36 [.int .i64 0, .string ByteArray.empty] := ⟨⟨_, _, rfl, rfl, rfl⟩⟩
instance : StructT Try.prog 36 [(0, 1), (1, 1)] [.int .i64 0, .string ByteArray.empty] := ⟨⟨_, rfl, fun w => by simp [show ∀ w, (sizeOf 3).run Try.prog w = .ok 1 w from fun _ => rfl, show ∀ w, (sizeOf 9).run Try.prog w = .ok 1 w from fun _ => rfl]⟩, inferInstance⟩
instance : AggT Try.prog 37 2 := ⟨⟨_, rfl, rfl⟩, ⟨_, rfl, rfl⟩⟩
instance : FieldT Try.prog 37 0 0 := ⟨⟨_, _, _, rfl, rfl, rfl, rfl, by decide⟩⟩
instance : FieldT Try.prog 37 1 1 := ⟨⟨_, _, _, rfl, rfl, rfl, rfl, by decide⟩⟩
instance : ZeroT Try.prog 37 [.int .i64 0, .string ByteArray.empty] := ⟨⟨_, _, rfl, rfl, rfl⟩⟩
instance : StructT Try.prog 37 [(0, 1), (1, 1)] [.int .i64 0, .string ByteArray.empty] := ⟨⟨_, rfl, fun w => by simp [show ∀ w, (sizeOf 3).run Try.prog w = .ok 1 w from fun _ => rfl, show ∀ w, (sizeOf 9).run Try.prog w = .ok 1 w from fun _ => rfl]⟩, inferInstance⟩
instance : OneT Try.prog 38 := ⟨⟨_, rfl, rfl⟩, ⟨_, rfl, rfl⟩⟩
instance : OneT Try.prog 39 := ⟨⟨_, rfl, rfl⟩, ⟨_, rfl, rfl⟩⟩
instance : OneT Try.prog 40 := ⟨⟨_, rfl, rfl⟩, ⟨_, rfl, rfl⟩⟩
instance : OneT Try.prog 41 := ⟨⟨_, rfl, rfl⟩, ⟨_, rfl, rfl⟩⟩
instance : OneT Try.prog 42 := ⟨⟨_, rfl, rfl⟩, ⟨_, rfl, rfl⟩⟩
instance : SliceT Try.prog 43 22 1 24 := ⟨rfl, ⟨_, _, rfl, rfl, rfl, rfl, rfl⟩, by decide⟩
instance : OneT Try.prog 43 := ⟨⟨_, rfl, rfl⟩, ⟨_, rfl, rfl⟩⟩
instance : ZeroT Try.prog 43 [.slice none 0 0] := ⟨⟨_, _, rfl, rfl, rfl⟩⟩
instance : OneT Try.prog 44 := ⟨⟨_, rfl, rfl⟩, ⟨_, rfl, rfl⟩⟩
instance : AggT Try.prog 45 4 := ⟨⟨_, rfl, rfl⟩, ⟨_, rfl, rfl⟩⟩
instance : AggT Try.prog 46 4 := ⟨⟨_, rfl, rfl⟩, ⟨_, rfl, rfl⟩⟩
instance : AggT Try.prog 47 0 := ⟨⟨_, rfl, rfl⟩, ⟨_, rfl, rfl⟩⟩
instance : ZeroT Try.prog 47 [] := ⟨⟨_, _, rfl, rfl, rfl⟩⟩
instance : AggT Try.prog 48 0 := ⟨⟨_, rfl, rfl⟩, ⟨_, rfl, rfl⟩⟩
instance : AggT Try.prog 49 0 := ⟨⟨_, rfl, rfl⟩, ⟨_, rfl, rfl⟩⟩
instance : OneT Try.prog 50 := ⟨⟨_, rfl, rfl⟩, ⟨_, rfl, rfl⟩⟩
instance : ZeroT Try.prog 50 [.int .u32 0] := ⟨⟨_, _, rfl, rfl, rfl⟩⟩
instance : OneT Try.prog 51 := ⟨⟨_, rfl, rfl⟩, ⟨_, rfl, rfl⟩⟩
instance : OneT Try.prog 52 := ⟨⟨_, rfl, rfl⟩, ⟨_, rfl, rfl⟩⟩
instance : OneT Try.prog 53 := ⟨⟨_, rfl, rfl⟩, ⟨_, rfl, rfl⟩⟩
instance : OneT Try.prog 54 := ⟨⟨_, rfl, rfl⟩, ⟨_, rfl, rfl⟩⟩
instance : ZeroT Try.prog 54 [.pointer none] := ⟨⟨_, _, rfl, rfl, rfl⟩⟩
instance : OneT Try.prog 55 := ⟨⟨_, rfl, rfl⟩, ⟨_, rfl, rfl⟩⟩
instance : OneT Try.prog 56 := ⟨⟨_, rfl, rfl⟩, ⟨_, rfl, rfl⟩⟩
instance : AggT Try.prog 57 11 := ⟨⟨_, rfl, rfl⟩, ⟨_, rfl, rfl⟩⟩
instance : FieldT Try.prog 57 0 0 := ⟨⟨_, _, _, rfl, rfl, rfl, rfl, by decide⟩⟩
instance : FieldT Try.prog 57 1 1 := ⟨⟨_, _, _, rfl, rfl, rfl, rfl, by decide⟩⟩
instance : FieldT Try.prog 57 2 2 := ⟨⟨_, _, _, rfl, rfl, rfl, rfl, by decide⟩⟩
instance : FieldT Try.prog 57 3 3 := ⟨⟨_, _, _, rfl, rfl, rfl, rfl, by decide⟩⟩
instance : FieldT Try.prog 57 4 4 := ⟨⟨_, _, _, rfl, rfl, rfl, rfl, by decide⟩⟩
instance : FieldT Try.prog 57 5 5 := ⟨⟨_, _, _, rfl, rfl, rfl, rfl, by decide⟩⟩
instance : FieldT Try.prog 57 6 6 := ⟨⟨_, _, _, rfl, rfl, rfl, rfl, by decide⟩⟩
instance : FieldT Try.prog 57 7 7 := ⟨⟨_, _, _, rfl, rfl, rfl, rfl, by decide⟩⟩
instance : FieldT Try.prog 57 8 8 := ⟨⟨_, _, _, rfl, rfl, rfl, rfl, by decide⟩⟩
instance : FieldT Try.prog 57 9 9 := ⟨⟨_, _, _, rfl, rfl, rfl, rfl, by decide⟩⟩
instance : FieldT Try.prog 57 10 10 := ⟨⟨_, _, _, rfl, rfl, rfl, rfl, by decide⟩⟩
instance : ZeroT Try.prog 57 [.int .u64 0, .int .u64 0, .int .u32 0, .int .u8 0, .int .u8 0, .int .u8 0, .int .u8 0, .nilFunc, .pointer none, .int .i32 0, .int .i32 0] := ⟨⟨_, _, rfl, rfl, rfl⟩⟩
instance : StructT Try.prog 57 [(0, 1), (1, 1), (2, 1), (3, 1), (4, 1), (5, 1), (6, 1), (7, 1), (8, 1), (9, 1), (10, 1)] [.int .u64 0, .int .u64 0, .int .u32 0, .int .u8 0, .int .u8 0, .int .u8 0, .int .u8 0, .nilFunc, .pointer none, .int .i32 0, .int .i32 0] := ⟨⟨_, rfl, fun w => by simp [show ∀ w, (sizeOf 12).run Try.prog w = .ok 1 w from fun _ => rfl, show ∀ w, (sizeOf 5).run Try.prog w = .ok 1 w from fun _ => rfl, show ∀ w, (sizeOf 50).run Try.prog w = .ok 1 w from fun _ => rfl, show ∀ w, (sizeOf 51).run Try.prog w = .ok 1 w from fun _ => rfl, show ∀ w, (sizeOf 52).run Try.prog w = .ok 1 w from fun _ => rfl, show ∀ w, (sizeOf 53).run Try.prog w = .ok 1 w from fun _ => rfl, show ∀ w, (sizeOf 54).run Try.prog w = .ok 1 w from fun _ => rfl, show ∀ w, (sizeOf 55).run Try.prog w = .ok 1 w from fun _ => rfl, show ∀ w, (sizeOf 56).run Try.prog w = .ok 1 w from fun _ => rfl]⟩, inferInstance⟩
instance : AggT Try.prog 58 11 := ⟨⟨_, rfl, rfl⟩, ⟨_, rfl, rfl⟩⟩
instance : OneT Try.prog 59 := ⟨⟨_, rfl, rfl⟩, ⟨_, rfl, rfl⟩⟩
instance : ZeroT Try.prog 59 [.pointer none] := ⟨⟨_, _, rfl, rfl, rfl⟩⟩
end Go.Proofs.Ythfphhplghahjaa
