/- The type table, written by program. -/
import Derived.Test.YtjkmllkpjiaceaaRows
import Derived.Test.YtjkmllkpjiaceaaMore
namespace Go.Proofs.Ytjkmllkpjiaceaa
set_option maxRecDepth 100000

instance : OneT Try.prog 1 := ⟨⟨_, rfl, rfl⟩, ⟨_, rfl, rfl⟩⟩
instance : OneT Try.prog 2 := ⟨⟨_, rfl, rfl⟩, ⟨_, rfl, rfl⟩⟩
instance : ZeroT Try.prog 2 [.int .i64 0] := ⟨⟨_, _, rfl, rfl, rfl⟩⟩
instance : OneT Try.prog 3 := ⟨⟨_, rfl, rfl⟩, ⟨_, rfl, rfl⟩⟩
instance : ZeroT Try.prog 3 [.int .i64 0] := ⟨⟨_, _, rfl, rfl, rfl⟩⟩
instance : BoolT Try.prog 4 := ⟨rfl⟩
instance : OneT Try.prog 4 := ⟨⟨_, rfl, rfl⟩, ⟨_, rfl, rfl⟩⟩
instance : ZeroT Try.prog 4 [.bool false] := ⟨⟨_, _, rfl, rfl, rfl⟩⟩
instance : OneT Try.prog 5 := ⟨⟨_, rfl, rfl⟩, ⟨_, rfl, rfl⟩⟩
instance : ZeroT Try.prog 5 [.int .u8 0] := ⟨⟨_, _, rfl, rfl, rfl⟩⟩
instance : OneT Try.prog 6 := ⟨⟨_, rfl, rfl⟩, ⟨_, rfl, rfl⟩⟩
instance : AggT Try.prog 7 4 := ⟨⟨_, rfl, rfl⟩, ⟨_, rfl, rfl⟩⟩
instance : AggT Try.prog 8 4 := ⟨⟨_, rfl, rfl⟩, ⟨_, rfl, rfl⟩⟩
instance : StrT Try.prog 9 := ⟨rfl⟩
instance : OneT Try.prog 9 := ⟨⟨_, rfl, rfl⟩, ⟨_, rfl, rfl⟩⟩
instance : ZeroT Try.prog 9 [.string ByteArray.empty] := ⟨⟨_, _, rfl, rfl, rfl⟩⟩
instance : StrT Try.prog 10 := ⟨rfl⟩
instance : OneT Try.prog 10 := ⟨⟨_, rfl, rfl⟩, ⟨_, rfl, rfl⟩⟩
instance : StrT Try.prog 11 := ⟨rfl⟩
instance : OneT Try.prog 11 := ⟨⟨_, rfl, rfl⟩, ⟨_, rfl, rfl⟩⟩
instance : OneT Try.prog 12 := ⟨⟨_, rfl, rfl⟩, ⟨_, rfl, rfl⟩⟩
instance : ZeroT Try.prog 12 [.int .u64 0] := ⟨⟨_, _, rfl, rfl, rfl⟩⟩
instance : AggT Try.prog 13 2 := ⟨⟨_, rfl, rfl⟩, ⟨_, rfl, rfl⟩⟩
instance : AggT Try.prog 14 2 := ⟨⟨_, rfl, rfl⟩, ⟨_, rfl, rfl⟩⟩
instance : OneT Try.prog 15 := ⟨⟨_, rfl, rfl⟩, ⟨_, rfl, rfl⟩⟩
instance : ZeroT Try.prog 15 [.pointer none] := ⟨⟨_, _, rfl, rfl, rfl⟩⟩
instance : OneT Try.prog 16 := ⟨⟨_, rfl, rfl⟩, ⟨_, rfl, rfl⟩⟩
instance : ZeroT Try.prog 16 [.pointer none] := ⟨⟨_, _, rfl, rfl, rfl⟩⟩
instance : OneT Try.prog 17 := ⟨⟨_, rfl, rfl⟩, ⟨_, rfl, rfl⟩⟩
instance : ZeroT Try.prog 17 [.pointer none] := ⟨⟨_, _, rfl, rfl, rfl⟩⟩
instance : AggT Try.prog 18 1 := ⟨⟨_, rfl, rfl⟩, ⟨_, rfl, rfl⟩⟩
instance : AggT Try.prog 19 1 := ⟨⟨_, rfl, rfl⟩, ⟨_, rfl, rfl⟩⟩
instance : OneT Try.prog 20 := ⟨⟨_, rfl, rfl⟩, ⟨_, rfl, rfl⟩⟩
instance : OneT Try.prog 21 := ⟨⟨_, rfl, rfl⟩, ⟨_, rfl, rfl⟩⟩
instance : ZeroT Try.prog 21 [.int .i32 0] := ⟨⟨_, _, rfl, rfl, rfl⟩⟩
instance : SliceT Try.prog 22 39 2 16 := ⟨rfl, ⟨_, _, rfl, rfl, rfl, rfl, rfl⟩, by decide⟩
instance : OneT Try.prog 22 := ⟨⟨_, rfl, rfl⟩, ⟨_, rfl, rfl⟩⟩
instance : ZeroT Try.prog 22 [.slice none 0 0] := ⟨⟨_, _, rfl, rfl, rfl⟩⟩
instance : AggT Try.prog 23 2 := ⟨⟨_, rfl, rfl⟩, ⟨_, rfl, rfl⟩⟩
instance : FieldT Try.prog 23 0 0 := ⟨⟨_, _, _, rfl, rfl, rfl, rfl, by decide⟩⟩
instance : FieldT Try.prog 23 1 1 := ⟨⟨_, _, _, rfl, rfl, rfl, rfl, by decide⟩⟩
instance : ZeroT Try.prog 23 [.int .i64 0, .slice none 0 0] := ⟨⟨_, _, rfl, rfl, rfl⟩⟩
instance : StructT Try.prog 23 [(0, 1), (1, 1)] [.int .i64 0, .slice none 0 0] := ⟨⟨_, rfl, fun w => by simp [show ∀ w, (sizeOf 22).run Try.prog w = .ok 1 w from fun _ => rfl, show ∀ w, (sizeOf 3).run Try.prog w = .ok 1 w from fun _ => rfl]⟩, inferInstance⟩
instance : AggT Try.prog 24 2 := ⟨⟨_, rfl, rfl⟩, ⟨_, rfl, rfl⟩⟩
instance : FieldT Try.prog 24 0 0 := ⟨⟨_, _, _, rfl, rfl, rfl, rfl, by decide⟩⟩
instance : FieldT Try.prog 24 1 1 := ⟨⟨_, _, _, rfl, rfl, rfl, rfl, by decide⟩⟩
instance : ZeroT Try.prog 24 [.int .i64 0, .slice none 0 0] := ⟨⟨_, _, rfl, rfl, rfl⟩⟩
instance : StructT Try.prog 24 [(0, 1), (1, 1)] [.int .i64 0, .slice none 0 0] := ⟨⟨_, rfl, fun w => by simp [show ∀ w, (sizeOf 22).run Try.prog w = .ok 1 w from fun _ => rfl, show ∀ w, (sizeOf 3).run Try.prog w = .ok 1 w from fun _ => rfl]⟩, inferInstance⟩
instance : OneT Try.prog 25 := ⟨⟨_, rfl, rfl⟩, ⟨_, rfl, rfl⟩⟩
instance : OneT Try.prog 27 := ⟨⟨_, rfl, rfl⟩, ⟨_, rfl, rfl⟩⟩
instance : OneT Try.prog 29 := ⟨⟨_, rfl, rfl⟩, ⟨_, rfl, rfl⟩⟩
instance : SliceT Try.prog 30 3 1 8 := ⟨rfl, ⟨_, _, rfl, rfl, rfl, rfl, rfl⟩, by decide⟩
instance : OneT Try.prog 30 := ⟨⟨_, rfl, rfl⟩, ⟨_, rfl, rfl⟩⟩
instance : ZeroT Try.prog 30 [.slice none 0 0] := ⟨⟨_, _, rfl, rfl, rfl⟩⟩
instance : OneT Try.prog 32 := ⟨⟨_, rfl, rfl⟩, ⟨_, rfl, rfl⟩⟩
instance : OneT Try.prog 33 := ⟨⟨_, rfl, rfl⟩, ⟨_, rfl, rfl⟩⟩
instance : OneT Try.prog 34 := ⟨⟨_, rfl, rfl⟩, ⟨_, rfl, rfl⟩⟩
instance : OneT Try.prog 35 := ⟨⟨_, rfl, rfl⟩, ⟨_, rfl, rfl⟩⟩
instance : OneT Try.prog 36 := ⟨⟨_, rfl, rfl⟩, ⟨_, rfl, rfl⟩⟩
instance : OneT Try.prog 37 := ⟨⟨_, rfl, rfl⟩, ⟨_, rfl, rfl⟩⟩
instance : AggT Try.prog 38 2 := ⟨⟨_, rfl, rfl⟩, ⟨_, rfl, rfl⟩⟩
instance : FieldT Try.prog 38 0 0 := ⟨⟨_, _, _, rfl, rfl, rfl, rfl, by decide⟩⟩
instance : FieldT Try.prog 38 1 1 := ⟨⟨_, _, _, rfl, rfl, rfl, rfl, by decide⟩⟩
instance : ZeroT Try.prog 38 [.int .i64 0, .int .i64 0] := ⟨⟨_, _, rfl, rfl, rfl⟩⟩
instance : StructT Try.prog 38 [(0, 1), (1, 1)] [.int .i64 0, .int .i64 0] := ⟨⟨_, rfl, fun w => by simp [show ∀ w, (sizeOf 3).run Try.prog w = .ok 1 w from fun _ => rfl]⟩, inferInstance⟩
instance : AggT Try.prog 39 2 := ⟨⟨_, rfl, rfl⟩, ⟨_, rfl, rfl⟩⟩
instance : FieldT Try.prog 39 0 0 := ⟨⟨_, _, _, rfl, rfl, rfl, rfl, by decide⟩⟩
instance : FieldT Try.prog 39 1 1 := ⟨⟨_, _, _, rfl, rfl, rfl, rfl, by decide⟩⟩
instance : ZeroT Try.prog 39 [.int .i64 0, .int .i64 0] := ⟨⟨_, _, rfl, rfl, rfl⟩⟩
instance : StructT Try.prog 39 [(0, 1), (1, 1)] [.int .i64 0, .int .i64 0] := ⟨⟨_, rfl, fun w => by simp [show ∀ w, (sizeOf 3).run Try.prog w = .ok 1 w from fun _ => rfl]⟩, inferInstance⟩
instance : OneT Try.prog 40 := ⟨⟨_, rfl, rfl⟩, ⟨_, rfl, rfl⟩⟩
instance : OneT Try.prog 41 := ⟨⟨_, rfl, rfl⟩, ⟨_, rfl, rfl⟩⟩
instance : OneT Try.prog 42 := ⟨⟨_, rfl, rfl⟩, ⟨_, rfl, rfl⟩⟩
instance : OneT Try.prog 43 := ⟨⟨_, rfl, rfl⟩, ⟨_, rfl, rfl⟩⟩
instance : ArrT Try.prog 44 2 22 1 := ⟨rfl, ⟨_, rfl, rfl⟩⟩
instance : AggT Try.prog 44 2 := ⟨⟨_, rfl, rfl⟩, ⟨_, rfl, rfl⟩⟩
instance : ZeroT Try.prog 44 [.slice none 0 0, .slice none 0 0] := ⟨⟨_, _, rfl, rfl, rfl⟩⟩
instance : OneT Try.prog 45 := ⟨⟨_, rfl, rfl⟩, ⟨_, rfl, rfl⟩⟩
instance : OneT Try.prog 46 := ⟨⟨_, rfl, rfl⟩, ⟨_, rfl, rfl⟩⟩
instance : OneT Try.prog 47 := ⟨⟨_, rfl, rfl⟩, ⟨_, rfl, rfl⟩⟩
instance : AggT Try.prog 48 4 := ⟨⟨_, rfl, rfl⟩, ⟨_, rfl, rfl⟩⟩
instance : AggT Try.prog 49 4 := ⟨⟨_, rfl, rfl⟩, ⟨_, rfl, rfl⟩⟩
instance : ArrT Try.prog 50 0 16 1 := ⟨rfl, ⟨_, rfl, rfl⟩⟩
instance : AggT Try.prog 50 0 := ⟨⟨_, rfl, rfl⟩, ⟨_, rfl, rfl⟩⟩
instance : ZeroT Try.prog 50 [] := ⟨⟨_, _, rfl, rfl, rfl⟩⟩
instance : AggT Try.prog 51 0 := ⟨⟨_, rfl, rfl⟩, ⟨_, rfl, rfl⟩⟩
instance : AggT Try.prog 52 0 := ⟨⟨_, rfl, rfl⟩, ⟨_, rfl, rfl⟩⟩
instance : OneT Try.prog 53 := ⟨⟨_, rfl, rfl⟩, ⟨_, rfl, rfl⟩⟩
instance : OneT Try.prog 54 := ⟨⟨_, rfl, rfl⟩, ⟨_, rfl, rfl⟩⟩
instance : ZeroT Try.prog 54 [.int .u32 0] := ⟨⟨_, _, rfl, rfl, rfl⟩⟩
instance : OneT Try.prog 55 := ⟨⟨_, rfl, rfl⟩, ⟨_, rfl, rfl⟩⟩
instance : OneT Try.prog 56 := ⟨⟨_, rfl, rfl⟩, ⟨_, rfl, rfl⟩⟩
instance : OneT Try.prog 57 := ⟨⟨_, rfl, rfl⟩, ⟨_, rfl, rfl⟩⟩
instance : OneT Try.prog 58 := ⟨⟨_, rfl, rfl⟩, ⟨_, rfl, rfl⟩⟩
instance : ZeroT Try.prog 58 [.pointer none] := ⟨⟨_, _, rfl, rfl, rfl⟩⟩
instance : OneT Try.prog 59 := ⟨⟨_, rfl, rfl⟩, ⟨_, rfl, rfl⟩⟩
instance : OneT Try.prog 60 := ⟨⟨_, rfl, rfl⟩, ⟨_, rfl, rfl⟩⟩
instance : AggT Try.prog 61 11 := ⟨⟨_, rfl, rfl⟩, ⟨_, rfl, rfl⟩⟩
instance : FieldT Try.prog 61 0 0 := ⟨⟨_, _, _, rfl, rfl, rfl, rfl, by decide⟩⟩
instance : FieldT Try.prog 61 1 1 := ⟨⟨_, _, _, rfl, rfl, rfl, rfl, by decide⟩⟩
instance : FieldT Try.prog 61 2 2 := ⟨⟨_, _, _, rfl, rfl, rfl, rfl, by decide⟩⟩
instance : FieldT Try.prog 61 3 3 := ⟨⟨_, _, _, rfl, rfl, rfl, rfl, by decide⟩⟩
instance : FieldT Try.prog 61 4 4 := ⟨⟨_, _, _, rfl, rfl, rfl, rfl, by decide⟩⟩
instance : FieldT Try.prog 61 5 5 := ⟨⟨_, _, _, rfl, rfl, rfl, rfl, by decide⟩⟩
instance : FieldT Try.prog 61 6 6 := ⟨⟨_, _, _, rfl, rfl, rfl, rfl, by decide⟩⟩
instance : FieldT Try.prog 61 7 7 := ⟨⟨_, _, _, rfl, rfl, rfl, rfl, by decide⟩⟩
instance : FieldT Try.prog 61 8 8 := ⟨⟨_, _, _, rfl, rfl, rfl, rfl, by decide⟩⟩
instance : FieldT Try.prog 61 9 9 := ⟨⟨_, _, _, rfl, rfl, rfl, rfl, by decide⟩⟩
instance : FieldT Try.prog 61 10 10 := ⟨⟨_, _, _, rfl, rfl, rfl, rfl, by decide⟩⟩
instance : ZeroT Try.prog 61 [.int .u64 0, .int .u64 0, .int .u32 0, .int .u8 0, .int .u8 0, .int .u8 0, .int .u8 0, .nilFunc, .pointer none, .int .i32 0, .int .i32 0] := ⟨⟨_, _, rfl, rfl, rfl⟩⟩
instance : StructT Try.prog 61 [(0, 1), (1, 1), (2, 1), (3, 1), (4, 1), (5, 1), (6, 1), (7, 1), (8, 1), (9, 1), (10, 1)] [.int .u64 0, .int .u64 0, .int .u32 0, .int .u8 0, .int .u8 0, .int .u8 0, .int .u8 0, .nilFunc, .pointer none, .int .i32 0, .int .i32 0] := ⟨⟨_, rfl, fun w => by simp [show ∀ w, (sizeOf 12).run Try.prog w = .ok 1 w from fun _ => rfl, show ∀ w, (sizeOf 5).run Try.prog w = .ok 1 w from fun _ => rfl, show ∀ w, (sizeOf 54).run Try.prog w = .ok 1 w from fun _ => rfl, show ∀ w, (sizeOf 55).run Try.prog w = .ok 1 w from fun _ => rfl, show ∀ w, (sizeOf 56).run Try.prog w = .ok 1 w from fun _ => rfl, show ∀ w, (sizeOf 57).run Try.prog w = .ok 1 w from fun _ => rfl, show ∀ w, (sizeOf 58).run Try.prog w = .ok 1 w from fun _ => rfl, show ∀ w, (sizeOf 59).run Try.prog w = .ok 1 w from fun _ => rfl, show ∀ w, (sizeOf 60).run Try.prog w = .ok 1 w from fun _ => rfl]⟩, inferInstance⟩
instance : AggT Try.prog 62 11 := ⟨⟨_, rfl, rfl⟩, ⟨_, rfl, rfl⟩⟩
instance : OneT Try.prog 63 := ⟨⟨_, rfl, rfl⟩, ⟨_, rfl, rfl⟩⟩
instance : ZeroT Try.prog 63 [.pointer none] := ⟨⟨_, _, rfl, rfl, rfl⟩⟩
end Go.Proofs.Ytjkmllkpjiaceaa
