/- Own framework, walks and plain laws behind the law Tells, part 5. -/
import Derived.Test.YtgapiecbinplfaaGreatC4
import Derived.Test.YtgapiecbinplfaaGreatProg
import Derived.Laws.StructEq
import Derived.KernelRfl
import Derived.Test.YtgapiecbinplfaaGreatRows
import Derived.ProofKit
import Derived.SizedLaws
import Derived.Lib.RowBridge
/- The types and functions of the program of this seat, as the framework sees them. -/
namespace Go.Proofs.YtgapiecbinplfaaGreat
open Go.RowKit

theorem nilv {fz : Fz} {β : List Value} {w : World} : RdA fz β w .nilsl (.slice none 0 0) := by simp only [RdA]
theorem nil_rd {α : Type} {fz : Fz} {w : World} {k : Nat} {R : α → List Value → Prop} : RdSl fz w k R (.slice none 0 0) [] := ⟨none, 0, rfl, Nat.le_refl _, by simp [maxLen], fun h => absurd rfl h⟩
theorem nil_sl {fz : Fz} {w : World} {t : Ty} : ElR fz w (.sl t) [] [.slice none 0 0] := elR_sl.2 nil_rd

theorem tdOk3 : TdOk Tryz.prog 3 ⟨false, 1, [.d .i (0 : Int)], []⟩ where
  isAgg := Tryz.isAgg3
  sizeOf := Tryz.sizeOf3
  zero := ⟨_, Tryz.zeroValue3, fun fz β w => by simp [RdL, RdA, ElR, Value.cells], fun h => by cases h⟩
  one := fun _ => rfl
  len := rfl
  fields := fun h => by cases h
theorem tdOk4 : TdOk Tryz.prog 4 ⟨false, 1, [.d .bool false], []⟩ where
  isAgg := Tryz.isAgg4
  sizeOf := Tryz.sizeOf4
  zero := ⟨_, Tryz.zeroValue4, fun fz β w => by simp [RdL, RdA, ElR, Value.cells], fun h => by cases h⟩
  one := fun _ => rfl
  len := rfl
  fields := fun h => by cases h
theorem tdOk5 : TdOk Tryz.prog 5 ⟨false, 1, [.d (.int .u8) (0 : Int)], []⟩ where
  isAgg := Tryz.isAgg5
  sizeOf := Tryz.sizeOf5
  zero := ⟨_, Tryz.zeroValue5, fun fz β w => by simp [RdL, RdA, ElR, Value.cells], fun h => by cases h⟩
  one := fun _ => rfl
  len := rfl
  fields := fun h => by cases h
theorem tdOk9 : TdOk Tryz.prog 9 ⟨false, 1, [.d .str []], []⟩ where
  isAgg := Tryz.isAgg9
  sizeOf := Tryz.sizeOf9
  zero := ⟨_, Tryz.zeroValue9, fun fz β w => by simp [RdL, RdA, ElR, Value.cells], fun h => by cases h⟩
  one := fun _ => rfl
  len := rfl
  fields := fun h => by cases h
theorem tdOk21 : TdOk Tryz.prog 21 ⟨false, 1, [.d (.int .i32) (0 : Int)], []⟩ where
  isAgg := Tryz.isAgg21
  sizeOf := Tryz.sizeOf21
  zero := ⟨_, Tryz.zeroValue21, fun fz β w => by simp [RdL, RdA, ElR, Value.cells], fun h => by cases h⟩
  one := fun _ => rfl
  len := rfl
  fields := fun h => by cases h
theorem tdOk22 : TdOk Tryz.prog 22 ⟨false, 1, [.nilsl], []⟩ where
  isAgg := Tryz.isAgg22
  sizeOf := Tryz.sizeOf22
  zero := ⟨_, Tryz.zeroValue22, fun fz β w => by simp [RdL, RdA, ElR, Value.cells], fun h => by cases h⟩
  one := fun _ => rfl
  len := rfl
  fields := fun h => by cases h
theorem tdOk23 : TdOk Tryz.prog 23 ⟨false, 1, [.nilsl], []⟩ where
  isAgg := Tryz.isAgg23
  sizeOf := Tryz.sizeOf23
  zero := ⟨_, Tryz.zeroValue23, fun fz β w => by simp [RdL, RdA, ElR, Value.cells], fun h => by cases h⟩
  one := fun _ => rfl
  len := rfl
  fields := fun h => by cases h
theorem tdOk25 : TdOk Tryz.prog 25 ⟨true, 2, [.nilsl, .nilsl], [0, 1]⟩ where
  isAgg := Tryz.isAgg25
  sizeOf := Tryz.sizeOf25
  zero := ⟨_, Tryz.zeroValue25, fun fz β w => by simp [RdL, RdA, ElR, Value.cells], fun _ parts => by kernel_rfl⟩
  one := by simp
  len := rfl
  fields := fun _ => ⟨_, Tryz.underlying25, rfl, by
    intro f hf w
    simp only [List.mem_cons, List.not_mem_nil, or_false] at hf
    rcases hf with rfl | rfl
    · exact ⟨Tryz.sizeOf22 w, Tryz.isAgg22 w⟩
    · exact ⟨Tryz.sizeOf23 w, Tryz.isAgg23 w⟩⟩
theorem tdOk26 : TdOk Tryz.prog 26 ⟨false, 1, [.nilsl], []⟩ where
  isAgg := Tryz.isAgg26
  sizeOf := Tryz.sizeOf26
  zero := ⟨_, Tryz.zeroValue26, fun fz β w => by simp [RdL, RdA, ElR, Value.cells], fun h => by cases h⟩
  one := fun _ => rfl
  len := rfl
  fields := fun h => by cases h
theorem tdOk27 : TdOk Tryz.prog 27 ⟨false, 1, [.nilsl], []⟩ where
  isAgg := Tryz.isAgg27
  sizeOf := Tryz.sizeOf27
  zero := ⟨_, Tryz.zeroValue27, fun fz β w => by simp [RdL, RdA, ElR, Value.cells], fun h => by cases h⟩
  one := fun _ => rfl
  len := rfl
  fields := fun h => by cases h
theorem tdOk30 : TdOk Tryz.prog 30 ⟨false, 1, [.nilsl], []⟩ where
  isAgg := Tryz.isAgg30
  sizeOf := Tryz.sizeOf30
  zero := ⟨_, Tryz.zeroValue30, fun fz β w => by simp [RdL, RdA, ElR, Value.cells], fun h => by cases h⟩
  one := fun _ => rfl
  len := rfl
  fields := fun h => by cases h
theorem tdOk36 : TdOk Tryz.prog 36 ⟨false, 1, [.nilsl], []⟩ where
  isAgg := Tryz.isAgg36
  sizeOf := Tryz.sizeOf36
  zero := ⟨_, Tryz.zeroValue36, fun fz β w => by simp [RdL, RdA, ElR, Value.cells], fun h => by cases h⟩
  one := fun _ => rfl
  len := rfl
  fields := fun h => by cases h
theorem tdOk38 : TdOk Tryz.prog 38 ⟨false, 1, [.nilsl], []⟩ where
  isAgg := Tryz.isAgg38
  sizeOf := Tryz.sizeOf38
  zero := ⟨_, Tryz.zeroValue38, fun fz β w => by simp [RdL, RdA, ElR, Value.cells], fun h => by cases h⟩
  one := fun _ => rfl
  len := rfl
  fields := fun h => by cases h
theorem tdOk44 : TdOk Tryz.prog 44 ⟨false, 1, [.nilsl], []⟩ where
  isAgg := Tryz.isAgg44
  sizeOf := Tryz.sizeOf44
  zero := ⟨_, Tryz.zeroValue44, fun fz β w => by simp [RdL, RdA, ElR, Value.cells], fun h => by cases h⟩
  one := fun _ => rfl
  len := rfl
  fields := fun h => by cases h
theorem tdOk51 : TdOk Tryz.prog 51 ⟨true, 3, [.nilsl, .nilsl, .nilsl], [0, 1, 2]⟩ where
  isAgg := Tryz.isAgg51
  sizeOf := Tryz.sizeOf51
  zero := ⟨_, Tryz.zeroValue51, fun fz β w => by simp [RdL, RdA, ElR, Value.cells], fun _ parts => by kernel_rfl⟩
  one := by simp
  len := rfl
  fields := fun _ => ⟨_, Tryz.underlying51, rfl, by
    intro f hf w
    simp only [List.mem_cons, List.not_mem_nil, or_false] at hf
    rcases hf with rfl | rfl | rfl
    · exact ⟨Tryz.sizeOf36 w, Tryz.isAgg36 w⟩
    · exact ⟨Tryz.sizeOf22 w, Tryz.isAgg22 w⟩
    · exact ⟨Tryz.sizeOf22 w, Tryz.isAgg22 w⟩⟩
theorem tdOk55 : TdOk Tryz.prog 55 ⟨true, 3, [.d .i (0 : Int), .nilsl, .nilsl], [0, 1, 2]⟩ where
  isAgg := Tryz.isAgg55
  sizeOf := Tryz.sizeOf55
  zero := ⟨_, Tryz.zeroValue55, fun fz β w => by simp [RdL, RdA, ElR, Value.cells], fun _ parts => by kernel_rfl⟩
  one := by simp
  len := rfl
  fields := fun _ => ⟨_, Tryz.underlying55, rfl, by
    intro f hf w
    simp only [List.mem_cons, List.not_mem_nil, or_false] at hf
    rcases hf with rfl | rfl | rfl
    · exact ⟨Tryz.sizeOf3 w, Tryz.isAgg3 w⟩
    · exact ⟨Tryz.sizeOf30 w, Tryz.isAgg30 w⟩
    · exact ⟨Tryz.sizeOf30 w, Tryz.isAgg30 w⟩⟩
theorem tdOk61 : TdOk Tryz.prog 61 ⟨false, 1, [.nilsl], []⟩ where
  isAgg := Tryz.isAgg61
  sizeOf := Tryz.sizeOf61
  zero := ⟨_, Tryz.zeroValue61, fun fz β w => by simp [RdL, RdA, ElR, Value.cells], fun h => by cases h⟩
  one := fun _ => rfl
  len := rfl
  fields := fun h => by cases h
theorem tdOk63 : TdOk Tryz.prog 63 ⟨true, 2, [.d .i (0 : Int), .nilsl], [0, 1]⟩ where
  isAgg := Tryz.isAgg63
  sizeOf := Tryz.sizeOf63
  zero := ⟨_, Tryz.zeroValue63, fun fz β w => by simp [RdL, RdA, ElR, Value.cells], fun _ parts => by kernel_rfl⟩
  one := by simp
  len := rfl
  fields := fun _ => ⟨_, Tryz.underlying63, rfl, by
    intro f hf w
    simp only [List.mem_cons, List.not_mem_nil, or_false] at hf
    rcases hf with rfl | rfl
    · exact ⟨Tryz.sizeOf3 w, Tryz.isAgg3 w⟩
    · exact ⟨Tryz.sizeOf36 w, Tryz.isAgg36 w⟩⟩
theorem tdOk77 : TdOk Tryz.prog 77 ⟨true, 2, [.nilsl, .nilsl], [0, 1]⟩ where
  isAgg := Tryz.isAgg77
  sizeOf := Tryz.sizeOf77
  zero := ⟨_, Tryz.zeroValue77, fun fz β w => by simp [RdL, RdA, ElR, Value.cells], fun _ parts => by kernel_rfl⟩
  one := by simp
  len := rfl
  fields := fun _ => ⟨_, Tryz.underlying77, rfl, by
    intro f hf w
    simp only [List.mem_cons, List.not_mem_nil, or_false] at hf
    rcases hf with rfl | rfl
    · exact ⟨Tryz.sizeOf36 w, Tryz.isAgg36 w⟩
    · exact ⟨Tryz.sizeOf22 w, Tryz.isAgg22 w⟩⟩
theorem tdOk81 : TdOk Tryz.prog 81 ⟨false, 1, [.nilfn], []⟩ where
  isAgg := Tryz.isAgg81
  sizeOf := Tryz.sizeOf81
  zero := ⟨_, Tryz.zeroValue81, fun fz β w => by simp [RdL, RdA, ElR, Value.cells], fun h => by cases h⟩
  one := fun _ => rfl
  len := rfl
  fields := fun h => by cases h
theorem tdOk88 : TdOk Tryz.prog 88 ⟨true, 3, [.d .i (0 : Int), .d .str [], .d .i (0 : Int)], [0, 1, 2]⟩ where
  isAgg := Tryz.isAgg88
  sizeOf := Tryz.sizeOf88
  zero := ⟨_, Tryz.zeroValue88, fun fz β w => by simp [RdL, RdA, ElR, Value.cells], fun _ parts => by kernel_rfl⟩
  one := by simp
  len := rfl
  fields := fun _ => ⟨_, Tryz.underlying88, rfl, by
    intro f hf w
    simp only [List.mem_cons, List.not_mem_nil, or_false] at hf
    rcases hf with rfl | rfl | rfl
    · exact ⟨Tryz.sizeOf3 w, Tryz.isAgg3 w⟩
    · exact ⟨Tryz.sizeOf9 w, Tryz.isAgg9 w⟩
    · exact ⟨Tryz.sizeOf3 w, Tryz.isAgg3 w⟩⟩
theorem tdOk92 : TdOk Tryz.prog 92 ⟨false, 1, [.nilfn], []⟩ where
  isAgg := Tryz.isAgg92
  sizeOf := Tryz.sizeOf92
  zero := ⟨_, Tryz.zeroValue92, fun fz β w => by simp [RdL, RdA, ElR, Value.cells], fun h => by cases h⟩
  one := fun _ => rfl
  len := rfl
  fields := fun h => by cases h
theorem tdOk93 : TdOk Tryz.prog 93 ⟨false, 1, [.top], []⟩ where
  isAgg := Tryz.isAgg93
  sizeOf := Tryz.sizeOf93
  zero := ⟨_, Tryz.zeroValue93, fun fz β w => by simp [RdL, RdA, ElR, Value.cells], fun h => by cases h⟩
  one := fun _ => rfl
  len := rfl
  fields := fun h => by cases h
theorem tdOk95 : TdOk Tryz.prog 95 ⟨true, 4, [.nilsl, .top, .d .i (0 : Int), .d .bool false], [0, 1, 2, 3]⟩ where
  isAgg := Tryz.isAgg95
  sizeOf := Tryz.sizeOf95
  zero := ⟨_, Tryz.zeroValue95, fun fz β w => ⟨_, _, rfl, nilv, _, _, rfl, by simp only [RdA], _, _, rfl, by simp only [RdA, ElR], _, _, rfl, by simp only [RdA, ElR], rfl⟩, fun _ parts => by kernel_rfl⟩
  one := by simp
  len := rfl
  fields := fun _ => ⟨_, Tryz.underlying95, rfl, by
    intro f hf w
    simp only [List.mem_cons, List.not_mem_nil, or_false] at hf
    rcases hf with rfl | rfl | rfl | rfl
    · exact ⟨Tryz.sizeOf30 w, Tryz.isAgg30 w⟩
    · exact ⟨Tryz.sizeOf93 w, Tryz.isAgg93 w⟩
    · exact ⟨Tryz.sizeOf3 w, Tryz.isAgg3 w⟩
    · exact ⟨Tryz.sizeOf4 w, Tryz.isAgg4 w⟩⟩
theorem tdOk96 : TdOk Tryz.prog 96 ⟨false, 1, [.nilfn], []⟩ where
  isAgg := Tryz.isAgg96
  sizeOf := Tryz.sizeOf96
  zero := ⟨_, Tryz.zeroValue96, fun fz β w => by simp [RdL, RdA, ElR, Value.cells], fun h => by cases h⟩
  one := fun _ => rfl
  len := rfl
  fields := fun h => by cases h
theorem tdOk101 : TdOk Tryz.prog 101 ⟨false, 1, [.nilfn], []⟩ where
  isAgg := Tryz.isAgg101
  sizeOf := Tryz.sizeOf101
  zero := ⟨_, Tryz.zeroValue101, fun fz β w => by simp [RdL, RdA, ElR, Value.cells], fun h => by cases h⟩
  one := fun _ => rfl
  len := rfl
  fields := fun h => by cases h
theorem tdOk102 : TdOk Tryz.prog 102 ⟨false, 1, [.nilfn], []⟩ where
  isAgg := Tryz.isAgg102
  sizeOf := Tryz.sizeOf102
  zero := ⟨_, Tryz.zeroValue102, fun fz β w => by simp [RdL, RdA, ElR, Value.cells], fun h => by cases h⟩
  one := fun _ => rfl
  len := rfl
  fields := fun h => by cases h
theorem tdOk105 : TdOk Tryz.prog 105 ⟨false, 1, [.nilfn], []⟩ where
  isAgg := Tryz.isAgg105
  sizeOf := Tryz.sizeOf105
  zero := ⟨_, Tryz.zeroValue105, fun fz β w => by simp [RdL, RdA, ElR, Value.cells], fun h => by cases h⟩
  one := fun _ => rfl
  len := rfl
  fields := fun h => by cases h
theorem tdOk106 : TdOk Tryz.prog 106 ⟨false, 1, [.nilfn], []⟩ where
  isAgg := Tryz.isAgg106
  sizeOf := Tryz.sizeOf106
  zero := ⟨_, Tryz.zeroValue106, fun fz β w => by simp [RdL, RdA, ElR, Value.cells], fun h => by cases h⟩
  one := fun _ => rfl
  len := rfl
  fields := fun h => by cases h
theorem tdOk111 : TdOk Tryz.prog 111 ⟨false, 1, [.top], []⟩ where
  isAgg := Tryz.isAgg111
  sizeOf := Tryz.sizeOf111
  zero := ⟨_, Tryz.zeroValue111, fun fz β w => by simp [RdL, RdA, ElR, Value.cells], fun h => by cases h⟩
  one := fun _ => rfl
  len := rfl
  fields := fun h => by cases h
theorem tdOk114 : TdOk Tryz.prog 114 ⟨false, 1, [.nilfn], []⟩ where
  isAgg := Tryz.isAgg114
  sizeOf := Tryz.sizeOf114
  zero := ⟨_, Tryz.zeroValue114, fun fz β w => by simp [RdL, RdA, ElR, Value.cells], fun h => by cases h⟩
  one := fun _ => rfl
  len := rfl
  fields := fun h => by cases h
theorem tdOk119 : TdOk Tryz.prog 119 ⟨false, 1, [.nilfn], []⟩ where
  isAgg := Tryz.isAgg119
  sizeOf := Tryz.sizeOf119
  zero := ⟨_, Tryz.zeroValue119, fun fz β w => by simp [RdL, RdA, ElR, Value.cells], fun h => by cases h⟩
  one := fun _ => rfl
  len := rfl
  fields := fun h => by cases h
theorem tdOk139 : TdOk Tryz.prog 139 ⟨false, 1, [.nilsl], []⟩ where
  isAgg := Tryz.isAgg139
  sizeOf := Tryz.sizeOf139
  zero := ⟨_, Tryz.zeroValue139, fun fz β w => by simp [RdL, RdA, ElR, Value.cells], fun h => by cases h⟩
  one := fun _ => rfl
  len := rfl
  fields := fun h => by cases h
theorem tdOk160 : TdOk Tryz.prog 160 ⟨false, 1, [.nilfn], []⟩ where
  isAgg := Tryz.isAgg160
  sizeOf := Tryz.sizeOf160
  zero := ⟨_, Tryz.zeroValue160, fun fz β w => by simp [RdL, RdA, ElR, Value.cells], fun h => by cases h⟩
  one := fun _ => rfl
  len := rfl
  fields := fun h => by cases h
theorem tdOk185 : TdOk Tryz.prog 185 ⟨true, 2, [.d .i (0 : Int), .nilsl], [0, 1]⟩ where
  isAgg := Tryz.isAgg185
  sizeOf := Tryz.sizeOf185
  zero := ⟨_, Tryz.zeroValue185, fun fz β w => by simp [RdL, RdA, ElR, Value.cells], fun _ parts => by kernel_rfl⟩
  one := by simp
  len := rfl
  fields := fun _ => ⟨_, Tryz.underlying185, rfl, by
    intro f hf w
    simp only [List.mem_cons, List.not_mem_nil, or_false] at hf
    rcases hf with rfl | rfl
    · exact ⟨Tryz.sizeOf3 w, Tryz.isAgg3 w⟩
    · exact ⟨Tryz.sizeOf36 w, Tryz.isAgg36 w⟩⟩
theorem tdOk198 : TdOk Tryz.prog 198 ⟨true, 4, [.nilsl, .nilsl, .nilsl, .nilsl], [0, 1, 2, 3]⟩ where
  isAgg := Tryz.isAgg198
  sizeOf := Tryz.sizeOf198
  zero := ⟨_, Tryz.zeroValue198, fun fz β w => by simp [RdL, RdA, ElR, Value.cells], fun _ parts => by kernel_rfl⟩
  one := by simp
  len := rfl
  fields := fun _ => ⟨_, Tryz.underlying198, rfl, by
    intro f hf w
    simp only [List.mem_cons, List.not_mem_nil, or_false] at hf
    rcases hf with rfl | rfl | rfl | rfl
    · exact ⟨Tryz.sizeOf36 w, Tryz.isAgg36 w⟩
    · exact ⟨Tryz.sizeOf30 w, Tryz.isAgg30 w⟩
    · exact ⟨Tryz.sizeOf30 w, Tryz.isAgg30 w⟩
    · exact ⟨Tryz.sizeOf30 w, Tryz.isAgg30 w⟩⟩
theorem tdOk216 : TdOk Tryz.prog 216 ⟨true, 5, [.nilsl, .nilsl, .nilsl, .nilsl, .nilsl], [0, 1, 2, 3, 4]⟩ where
  isAgg := Tryz.isAgg216
  sizeOf := Tryz.sizeOf216
  zero := ⟨_, Tryz.zeroValue216, fun fz β w => by simp [RdL, RdA, ElR, Value.cells], fun _ parts => by kernel_rfl⟩
  one := by simp
  len := rfl
  fields := fun _ => ⟨_, Tryz.underlying216, rfl, by
    intro f hf w
    simp only [List.mem_cons, List.not_mem_nil, or_false] at hf
    rcases hf with rfl | rfl | rfl | rfl | rfl
    · exact ⟨Tryz.sizeOf26 w, Tryz.isAgg26 w⟩
    · exact ⟨Tryz.sizeOf30 w, Tryz.isAgg30 w⟩
    · exact ⟨Tryz.sizeOf38 w, Tryz.isAgg38 w⟩
    · exact ⟨Tryz.sizeOf30 w, Tryz.isAgg30 w⟩
    · exact ⟨Tryz.sizeOf30 w, Tryz.isAgg30 w⟩⟩

def tdT : TypeId → Option TD
  | 3 => some ⟨false, 1, [.d .i (0 : Int)], []⟩
  | 4 => some ⟨false, 1, [.d .bool false], []⟩
  | 5 => some ⟨false, 1, [.d (.int .u8) (0 : Int)], []⟩
  | 9 => some ⟨false, 1, [.d .str []], []⟩
  | 21 => some ⟨false, 1, [.d (.int .i32) (0 : Int)], []⟩
  | 22 => some ⟨false, 1, [.nilsl], []⟩
  | 23 => some ⟨false, 1, [.nilsl], []⟩
  | 25 => some ⟨true, 2, [.nilsl, .nilsl], [0, 1]⟩
  | 26 => some ⟨false, 1, [.nilsl], []⟩
  | 27 => some ⟨false, 1, [.nilsl], []⟩
  | 30 => some ⟨false, 1, [.nilsl], []⟩
  | 36 => some ⟨false, 1, [.nilsl], []⟩
  | 38 => some ⟨false, 1, [.nilsl], []⟩
  | 44 => some ⟨false, 1, [.nilsl], []⟩
  | 51 => some ⟨true, 3, [.nilsl, .nilsl, .nilsl], [0, 1, 2]⟩
  | 55 => some ⟨true, 3, [.d .i (0 : Int), .nilsl, .nilsl], [0, 1, 2]⟩
  | 61 => some ⟨false, 1, [.nilsl], []⟩
  | 63 => some ⟨true, 2, [.d .i (0 : Int), .nilsl], [0, 1]⟩
  | 77 => some ⟨true, 2, [.nilsl, .nilsl], [0, 1]⟩
  | 81 => some ⟨false, 1, [.nilfn], []⟩
  | 88 => some ⟨true, 3, [.d .i (0 : Int), .d .str [], .d .i (0 : Int)], [0, 1, 2]⟩
  | 92 => some ⟨false, 1, [.nilfn], []⟩
  | 93 => some ⟨false, 1, [.top], []⟩
  | 95 => some ⟨true, 4, [.nilsl, .top, .d .i (0 : Int), .d .bool false], [0, 1, 2, 3]⟩
  | 96 => some ⟨false, 1, [.nilfn], []⟩
  | 101 => some ⟨false, 1, [.nilfn], []⟩
  | 102 => some ⟨false, 1, [.nilfn], []⟩
  | 105 => some ⟨false, 1, [.nilfn], []⟩
  | 106 => some ⟨false, 1, [.nilfn], []⟩
  | 111 => some ⟨false, 1, [.top], []⟩
  | 114 => some ⟨false, 1, [.nilfn], []⟩
  | 119 => some ⟨false, 1, [.nilfn], []⟩
  | 139 => some ⟨false, 1, [.nilsl], []⟩
  | 160 => some ⟨false, 1, [.nilfn], []⟩
  | 185 => some ⟨true, 2, [.d .i (0 : Int), .nilsl], [0, 1]⟩
  | 198 => some ⟨true, 4, [.nilsl, .nilsl, .nilsl, .nilsl], [0, 1, 2, 3]⟩
  | 216 => some ⟨true, 5, [.nilsl, .nilsl, .nilsl, .nilsl, .nilsl], [0, 1, 2, 3, 4]⟩
  | _ => none
theorem tdT_ok : ∀ t d, tdT t = some d → TdOk Tryz.prog t d := by
  intro t d h
  unfold tdT at h
  split at h
  all_goals first | (cases h; done) | skip
  · cases h; exact tdOk3
  · cases h; exact tdOk4
  · cases h; exact tdOk5
  · cases h; exact tdOk9
  · cases h; exact tdOk21
  · cases h; exact tdOk22
  · cases h; exact tdOk23
  · cases h; exact tdOk25
  · cases h; exact tdOk26
  · cases h; exact tdOk27
  · cases h; exact tdOk30
  · cases h; exact tdOk36
  · cases h; exact tdOk38
  · cases h; exact tdOk44
  · cases h; exact tdOk51
  · cases h; exact tdOk55
  · cases h; exact tdOk61
  · cases h; exact tdOk63
  · cases h; exact tdOk77
  · cases h; exact tdOk81
  · cases h; exact tdOk88
  · cases h; exact tdOk92
  · cases h; exact tdOk93
  · cases h; exact tdOk95
  · cases h; exact tdOk96
  · cases h; exact tdOk101
  · cases h; exact tdOk102
  · cases h; exact tdOk105
  · cases h; exact tdOk106
  · cases h; exact tdOk111
  · cases h; exact tdOk114
  · cases h; exact tdOk119
  · cases h; exact tdOk139
  · cases h; exact tdOk160
  · cases h; exact tdOk185
  · cases h; exact tdOk198
  · cases h; exact tdOk216

theorem elOk22 : ElOk Tryz.prog 22 36 .term where
  under := Tryz.underlying22
  info := ⟨Tryz.t36, .slice none 0 0, by kernel_rfl, by kernel_rfl, rfl, by decide, by decide, fun fz w => nil_sl⟩
theorem elOk23 : ElOk Tryz.prog 23 55 .rule where
  under := Tryz.underlying23
  info := ⟨Tryz.t55, .agg #[.int .i64 0, .slice none 0 0, .slice none 0 0], by kernel_rfl, by kernel_rfl, rfl, by decide, by decide, fun fz w => ⟨_, _, rfl, nil_rd, nil_rd⟩⟩
theorem elOk26 : ElOk Tryz.prog 26 4 .bool where
  under := Tryz.underlying26
  info := ⟨Tryz.t4, .bool false, by kernel_rfl, by kernel_rfl, rfl, by decide, by decide, fun fz w => rfl⟩
theorem elOk27 : ElOk Tryz.prog 27 5 (.int .u8) where
  under := Tryz.underlying27
  info := ⟨Tryz.t5, .int .u8 0, by kernel_rfl, by kernel_rfl, rfl, by decide, by decide, fun fz w => rfl⟩
theorem elOk30 : ElOk Tryz.prog 30 3 .i where
  under := Tryz.underlying30
  info := ⟨Tryz.t3, .int .i64 0, by kernel_rfl, by kernel_rfl, rfl, by decide, by decide, fun fz w => rfl⟩
theorem elOk36 : ElOk Tryz.prog 36 88 .cell where
  under := Tryz.underlying36
  info := ⟨Tryz.t88, .agg #[.int .i64 0, .string ⟨#[]⟩, .int .i64 0], by kernel_rfl, by kernel_rfl, rfl, by decide, by decide, fun fz w => rfl⟩
theorem elOk38 : ElOk Tryz.prog 38 30 .ints where
  under := Tryz.underlying38
  info := ⟨Tryz.t30, .slice none 0 0, by kernel_rfl, by kernel_rfl, rfl, by decide, by decide, fun fz w => nil_sl⟩
theorem elOk44 : ElOk Tryz.prog 44 51 .inst where
  under := Tryz.underlying44
  info := ⟨Tryz.t51, .agg #[.slice none 0 0, .slice none 0 0, .slice none 0 0], by kernel_rfl, by kernel_rfl, rfl, by decide, by decide, fun fz w => ⟨_, _, _, rfl, nil_rd, nil_rd, nil_rd⟩⟩
theorem elOk61 : ElOk Tryz.prog 61 77 .table where
  under := Tryz.underlying61
  info := ⟨Tryz.t77, .agg #[.slice none 0 0, .slice none 0 0], by kernel_rfl, by kernel_rfl, rfl, by decide, by decide, fun fz w => ⟨_, _, rfl, nil_rd, nil_rd⟩⟩
theorem elOk139 : ElOk Tryz.prog 139 185 .bind where
  under := Tryz.underlying139
  info := ⟨Tryz.t185, .agg #[.int .i64 0, .slice none 0 0], by kernel_rfl, by kernel_rfl, rfl, by decide, by decide, fun fz w => ⟨_, rfl, nil_rd⟩⟩
theorem elOk233 : ElOk Tryz.prog 233 21 (.int .i32) where
  under := Tryz.underlying233
  info := ⟨Tryz.t21, .int .i32 0, by kernel_rfl, by kernel_rfl, rfl, by decide, by decide, fun fz w => rfl⟩
def elT : TypeId → Option (TypeId × Ty)
  | 22 => some (36, .term)
  | 23 => some (55, .rule)
  | 26 => some (4, .bool)
  | 27 => some (5, (.int .u8))
  | 30 => some (3, .i)
  | 36 => some (88, .cell)
  | 38 => some (30, .ints)
  | 44 => some (51, .inst)
  | 61 => some (77, .table)
  | 139 => some (185, .bind)
  | 233 => some (21, (.int .i32))
  | _ => none
theorem elT_ok : ∀ t e τ, elT t = some (e, τ) → ElOk Tryz.prog t e τ := by
  intro t e τ h
  unfold elT at h
  split at h
  all_goals first | (cases h; done) | skip
  · cases h; exact elOk22
  · cases h; exact elOk23
  · cases h; exact elOk26
  · cases h; exact elOk27
  · cases h; exact elOk30
  · cases h; exact elOk36
  · cases h; exact elOk38
  · cases h; exact elOk44
  · cases h; exact elOk61
  · cases h; exact elOk139
  · cases h; exact elOk233

def ikT : TypeId → Option IntKind
  | 3 => some .i64
  | 5 => some .u8
  | 21 => some .i32
  | 166 => some .u64
  | _ => none
theorem ikT_ok : ∀ t k, ikT t = some k → Tryz.prog.underlying t = some (.int k) := by
  intro t k h
  unfold ikT at h
  split at h
  · cases h; exact Tryz.underlying3
  · cases h; exact Tryz.underlying5
  · cases h; exact Tryz.underlying21
  · cases h; exact Tryz.underlying166
  · cases h
def strT (t : TypeId) : Bool := t == 9
theorem strT_ok : ∀ t, strT t = true → Tryz.prog.underlying t = some .string := by
  intro t h
  have : t = 9 := by simpa [strT] using h
  subst this; exact Tryz.underlying9
def blT (t : TypeId) : Bool := t == 4
theorem blT_ok : ∀ t, blT t = true → Tryz.prog.underlying t = some .bool := by
  intro t h
  have : t = 4 := by simpa [blT] using h
  subst this; exact Tryz.underlying4
def cellT (t : TypeId) : Bool := t == 88
theorem cellT_ok : ∀ t, cellT t = true → ∀ a b : Cell, ∀ (w : World) (x y : Operand), (do eqGuard .eql t x y (.agg (cellVals a).toArray) (.agg (cellVals b).toArray); binOp .eql t (.agg (cellVals a).toArray) (.agg (cellVals b).toArray)).run Tryz.prog w = .ok (.bool (decide (a.kind = b.kind ∧ a.name = b.name ∧ a.n = b.n))) w ∧
    (do eqGuard .neq t x y (.agg (cellVals a).toArray) (.agg (cellVals b).toArray); binOp .neq t (.agg (cellVals a).toArray) (.agg (cellVals b).toArray)).run Tryz.prog w = .ok (.bool (!decide (a.kind = b.kind ∧ a.name = b.name ∧ a.n = b.n))) w := by
  intro t h a b w x y
  have : t = 88 := by simpa [cellT] using h
  subst this
  have hS : Tryz.prog.underlying 88 = some (.struct (Tryz.prog.fieldsOf 88)) := by kernel_rfl
  have hp : Tryz.prog.stoodInHeld 88 = false := by kernel_rfl
  have hg : Tryz.prog.eqGuardType Tryz.prog.depth 88 = false := by kernel_rfl
  have key : (Op.equalIn 10000 88 (.agg (cellVals a).toArray) (.agg (cellVals b).toArray)).run Tryz.prog w = .ok (decide (a.kind = b.kind ∧ a.name = b.name ∧ a.n = b.n)) w := by
    rw [show (10000 : Nat) = 9999 + 1 from rfl, run_equalIn_agg w 9999 88 _ _ hS hp]
    have u3 := Tryz.underlying3
    have u9 := Tryz.underlying9
    have a3 := Tryz.isAgg3
    have a9 := Tryz.isAgg9
    simp only [Program.fieldsOf, Tryz.underlying88]
    by_cases h1 : a.kind = b.kind <;> by_cases h2 : a.name = b.name <;> by_cases h3 : a.n = b.n <;>
      simp [Op.eqFields, part, cellVals, a3, a9, run_equalIn_int _ _ _ _ _ _ _ u3, run_equalIn_string _ _ _ _ _ u9, h1, h2, h3]
  constructor
  · simp only [Sem.run_bind, run_eqGuard_agg w .eql 88 x y _ _ hg, Result.andThen_ok, run_eql_struct, key]
  · simp only [Sem.run_bind, run_eqGuard_agg w .neq 88 x y _ _ hg, Result.andThen_ok, run_neq_struct, key]
def fnT0 : FuncId → Bool
  | 3 => true
  | 4 => true
  | 5 => true
  | 6 => true
  | 7 => true
  | 8 => true
  | 9 => true
  | 10 => true
  | 11 => true
  | 12 => true
  | 13 => true
  | 14 => true
  | 15 => true
  | 16 => true
  | 17 => true
  | 18 => true
  | 19 => true
  | 20 => true
  | 21 => true
  | 22 => true
  | 23 => true
  | 24 => true
  | 25 => true
  | 26 => true
  | _ => false
theorem fnT0_ok : ∀ f, fnT0 f = true → ∀ (args : Array Value) (w : World), (callFunc f args).run Tryz.prog w = .ok (.enter f args) w := by
  intro f h
  unfold fnT0 at h
  split at h
  all_goals first | (cases h; done) | skip
  · exact fun args w => Tryz.call3 args w
  · exact fun args w => Tryz.call4 args w
  · exact fun args w => Tryz.call5 args w
  · exact fun args w => Tryz.call6 args w
  · exact fun args w => Tryz.call7 args w
  · exact fun args w => Tryz.call8 args w
  · exact fun args w => Tryz.call9 args w
  · exact fun args w => Tryz.call10 args w
  · exact fun args w => Tryz.call11 args w
  · exact fun args w => Tryz.call12 args w
  · exact fun args w => Tryz.call13 args w
  · exact fun args w => Tryz.call14 args w
  · exact fun args w => Tryz.call15 args w
  · exact fun args w => Tryz.call16 args w
  · exact fun args w => Tryz.call17 args w
  · exact fun args w => Tryz.call18 args w
  · exact fun args w => Tryz.call19 args w
  · exact fun args w => Tryz.call20 args w
  · exact fun args w => Tryz.call21 args w
  · exact fun args w => Tryz.call22 args w
  · exact fun args w => Tryz.call23 args w
  · exact fun args w => Tryz.call24 args w
  · exact fun args w => Tryz.call25 args w
  · exact fun args w => Tryz.call26 args w
def fnT1 : FuncId → Bool
  | 27 => true
  | 28 => true
  | 29 => true
  | 30 => true
  | 31 => true
  | 32 => true
  | 33 => true
  | 34 => true
  | 35 => true
  | 36 => true
  | 37 => true
  | 38 => true
  | 39 => true
  | 40 => true
  | 41 => true
  | 42 => true
  | 43 => true
  | 44 => true
  | 45 => true
  | 46 => true
  | 47 => true
  | 48 => true
  | 49 => true
  | 50 => true
  | _ => false
theorem fnT1_ok : ∀ f, fnT1 f = true → ∀ (args : Array Value) (w : World), (callFunc f args).run Tryz.prog w = .ok (.enter f args) w := by
  intro f h
  unfold fnT1 at h
  split at h
  all_goals first | (cases h; done) | skip
  · exact fun args w => Tryz.call27 args w
  · exact fun args w => Tryz.call28 args w
  · exact fun args w => Tryz.call29 args w
  · exact fun args w => Tryz.call30 args w
  · exact fun args w => Tryz.call31 args w
  · exact fun args w => Tryz.call32 args w
  · exact fun args w => Tryz.call33 args w
  · exact fun args w => Tryz.call34 args w
  · exact fun args w => Tryz.call35 args w
  · exact fun args w => Tryz.call36 args w
  · exact fun args w => Tryz.call37 args w
  · exact fun args w => Tryz.call38 args w
  · exact fun args w => Tryz.call39 args w
  · exact fun args w => Tryz.call40 args w
  · exact fun args w => Tryz.call41 args w
  · exact fun args w => Tryz.call42 args w
  · exact fun args w => Tryz.call43 args w
  · exact fun args w => Tryz.call44 args w
  · exact fun args w => Tryz.call45 args w
  · exact fun args w => Tryz.call46 args w
  · exact fun args w => Tryz.call47 args w
  · exact fun args w => Tryz.call48 args w
  · exact fun args w => Tryz.call49 args w
  · exact fun args w => Tryz.call50 args w
def fnT2 : FuncId → Bool
  | 51 => true
  | 52 => true
  | 53 => true
  | 54 => true
  | 55 => true
  | 56 => true
  | 57 => true
  | 58 => true
  | 59 => true
  | 60 => true
  | 61 => true
  | 62 => true
  | 63 => true
  | 64 => true
  | 65 => true
  | 66 => true
  | 67 => true
  | 68 => true
  | 69 => true
  | 70 => true
  | 71 => true
  | 72 => true
  | 73 => true
  | 74 => true
  | _ => false
theorem fnT2_ok : ∀ f, fnT2 f = true → ∀ (args : Array Value) (w : World), (callFunc f args).run Tryz.prog w = .ok (.enter f args) w := by
  intro f h
  unfold fnT2 at h
  split at h
  all_goals first | (cases h; done) | skip
  · exact fun args w => Tryz.call51 args w
  · exact fun args w => Tryz.call52 args w
  · exact fun args w => Tryz.call53 args w
  · exact fun args w => Tryz.call54 args w
  · exact fun args w => Tryz.call55 args w
  · exact fun args w => Tryz.call56 args w
  · exact fun args w => Tryz.call57 args w
  · exact fun args w => Tryz.call58 args w
  · exact fun args w => Tryz.call59 args w
  · exact fun args w => Tryz.call60 args w
  · exact fun args w => Tryz.call61 args w
  · exact fun args w => Tryz.call62 args w
  · exact fun args w => Tryz.call63 args w
  · exact fun args w => Tryz.call64 args w
  · exact fun args w => Tryz.call65 args w
  · exact fun args w => Tryz.call66 args w
  · exact fun args w => Tryz.call67 args w
  · exact fun args w => Tryz.call68 args w
  · exact fun args w => Tryz.call69 args w
  · exact fun args w => Tryz.call70 args w
  · exact fun args w => Tryz.call71 args w
  · exact fun args w => Tryz.call72 args w
  · exact fun args w => Tryz.call73 args w
  · exact fun args w => Tryz.call74 args w
def fnT3 : FuncId → Bool
  | 75 => true
  | 76 => true
  | 77 => true
  | 78 => true
  | 79 => true
  | 80 => true
  | 81 => true
  | 82 => true
  | 83 => true
  | 84 => true
  | 85 => true
  | 86 => true
  | 87 => true
  | 88 => true
  | 89 => true
  | 90 => true
  | 91 => true
  | 92 => true
  | 93 => true
  | 94 => true
  | 95 => true
  | 96 => true
  | 97 => true
  | 98 => true
  | _ => false
theorem fnT3_ok : ∀ f, fnT3 f = true → ∀ (args : Array Value) (w : World), (callFunc f args).run Tryz.prog w = .ok (.enter f args) w := by
  intro f h
  unfold fnT3 at h
  split at h
  all_goals first | (cases h; done) | skip
  · exact fun args w => Tryz.call75 args w
  · exact fun args w => Tryz.call76 args w
  · exact fun args w => Tryz.call77 args w
  · exact fun args w => Tryz.call78 args w
  · exact fun args w => Tryz.call79 args w
  · exact fun args w => Tryz.call80 args w
  · exact fun args w => Tryz.call81 args w
  · exact fun args w => Tryz.call82 args w
  · exact fun args w => Tryz.call83 args w
  · exact fun args w => Tryz.call84 args w
  · exact fun args w => Tryz.call85 args w
  · exact fun args w => Tryz.call86 args w
  · exact fun args w => Tryz.call87 args w
  · exact fun args w => Tryz.call88 args w
  · exact fun args w => Tryz.call89 args w
  · exact fun args w => Tryz.call90 args w
  · exact fun args w => Tryz.call91 args w
  · exact fun args w => Tryz.call92 args w
  · exact fun args w => Tryz.call93 args w
  · exact fun args w => Tryz.call94 args w
  · exact fun args w => Tryz.call95 args w
  · exact fun args w => Tryz.call96 args w
  · exact fun args w => Tryz.call97 args w
  · exact fun args w => Tryz.call98 args w
def fnT4 : FuncId → Bool
  | 99 => true
  | 100 => true
  | 101 => true
  | 102 => true
  | 103 => true
  | 104 => true
  | 105 => true
  | 106 => true
  | 107 => true
  | 108 => true
  | 109 => true
  | 110 => true
  | 111 => true
  | 112 => true
  | 113 => true
  | 114 => true
  | 115 => true
  | 116 => true
  | 117 => true
  | 118 => true
  | 119 => true
  | 120 => true
  | 121 => true
  | 122 => true
  | _ => false
theorem fnT4_ok : ∀ f, fnT4 f = true → ∀ (args : Array Value) (w : World), (callFunc f args).run Tryz.prog w = .ok (.enter f args) w := by
  intro f h
  unfold fnT4 at h
  split at h
  all_goals first | (cases h; done) | skip
  · exact fun args w => Tryz.call99 args w
  · exact fun args w => Tryz.call100 args w
  · exact fun args w => Tryz.call101 args w
  · exact fun args w => Tryz.call102 args w
  · exact fun args w => Tryz.call103 args w
  · exact fun args w => Tryz.call104 args w
  · exact fun args w => Tryz.call105 args w
  · exact fun args w => Tryz.call106 args w
  · exact fun args w => Tryz.call107 args w
  · exact fun args w => Tryz.call108 args w
  · exact fun args w => Tryz.call109 args w
  · exact fun args w => Tryz.call110 args w
  · exact fun args w => Tryz.call111 args w
  · exact fun args w => Tryz.call112 args w
  · exact fun args w => Tryz.call113 args w
  · exact fun args w => Tryz.call114 args w
  · exact fun args w => Tryz.call115 args w
  · exact fun args w => Tryz.call116 args w
  · exact fun args w => Tryz.call117 args w
  · exact fun args w => Tryz.call118 args w
  · exact fun args w => Tryz.call119 args w
  · exact fun args w => Tryz.call120 args w
  · exact fun args w => Tryz.call121 args w
  · exact fun args w => Tryz.call122 args w
def fnT5 : FuncId → Bool
  | 123 => true
  | 124 => true
  | 125 => true
  | 126 => true
  | 127 => true
  | 128 => true
  | 129 => true
  | 130 => true
  | 131 => true
  | 132 => true
  | 133 => true
  | 134 => true
  | 135 => true
  | 136 => true
  | 137 => true
  | 138 => true
  | 139 => true
  | 140 => true
  | 141 => true
  | 142 => true
  | 143 => true
  | 144 => true
  | 145 => true
  | 146 => true
  | _ => false
theorem fnT5_ok : ∀ f, fnT5 f = true → ∀ (args : Array Value) (w : World), (callFunc f args).run Tryz.prog w = .ok (.enter f args) w := by
  intro f h
  unfold fnT5 at h
  split at h
  all_goals first | (cases h; done) | skip
  · exact fun args w => Tryz.call123 args w
  · exact fun args w => Tryz.call124 args w
  · exact fun args w => Tryz.call125 args w
  · exact fun args w => Tryz.call126 args w
  · exact fun args w => Tryz.call127 args w
  · exact fun args w => Tryz.call128 args w
  · exact fun args w => Tryz.call129 args w
  · exact fun args w => Tryz.call130 args w
  · exact fun args w => Tryz.call131 args w
  · exact fun args w => Tryz.call132 args w
  · exact fun args w => Tryz.call133 args w
  · exact fun args w => Tryz.call134 args w
  · exact fun args w => Tryz.call135 args w
  · exact fun args w => Tryz.call136 args w
  · exact fun args w => Tryz.call137 args w
  · exact fun args w => Tryz.call138 args w
  · exact fun args w => Tryz.call139 args w
  · exact fun args w => Tryz.call140 args w
  · exact fun args w => Tryz.call141 args w
  · exact fun args w => Tryz.call142 args w
  · exact fun args w => Tryz.call143 args w
  · exact fun args w => Tryz.call144 args w
  · exact fun args w => Tryz.call145 args w
  · exact fun args w => Tryz.call146 args w
def fnT6 : FuncId → Bool
  | 147 => true
  | 148 => true
  | 149 => true
  | 150 => true
  | 151 => true
  | 152 => true
  | 153 => true
  | 154 => true
  | 155 => true
  | 156 => true
  | 157 => true
  | 158 => true
  | 159 => true
  | 160 => true
  | 161 => true
  | 162 => true
  | 163 => true
  | 164 => true
  | 165 => true
  | 166 => true
  | 167 => true
  | 168 => true
  | 169 => true
  | 170 => true
  | _ => false
theorem fnT6_ok : ∀ f, fnT6 f = true → ∀ (args : Array Value) (w : World), (callFunc f args).run Tryz.prog w = .ok (.enter f args) w := by
  intro f h
  unfold fnT6 at h
  split at h
  all_goals first | (cases h; done) | skip
  · exact fun args w => Tryz.call147 args w
  · exact fun args w => Tryz.call148 args w
  · exact fun args w => Tryz.call149 args w
  · exact fun args w => Tryz.call150 args w
  · exact fun args w => Tryz.call151 args w
  · exact fun args w => Tryz.call152 args w
  · exact fun args w => Tryz.call153 args w
  · exact fun args w => Tryz.call154 args w
  · exact fun args w => Tryz.call155 args w
  · exact fun args w => Tryz.call156 args w
  · exact fun args w => Tryz.call157 args w
  · exact fun args w => Tryz.call158 args w
  · exact fun args w => Tryz.call159 args w
  · exact fun args w => Tryz.call160 args w
  · exact fun args w => Tryz.call161 args w
  · exact fun args w => Tryz.call162 args w
  · exact fun args w => Tryz.call163 args w
  · exact fun args w => Tryz.call164 args w
  · exact fun args w => Tryz.call165 args w
  · exact fun args w => Tryz.call166 args w
  · exact fun args w => Tryz.call167 args w
  · exact fun args w => Tryz.call168 args w
  · exact fun args w => Tryz.call169 args w
  · exact fun args w => Tryz.call170 args w
def fnT7 : FuncId → Bool
  | 171 => true
  | 172 => true
  | 173 => true
  | 174 => true
  | 175 => true
  | 176 => true
  | 177 => true
  | 178 => true
  | 179 => true
  | 180 => true
  | 181 => true
  | 182 => true
  | 183 => true
  | 184 => true
  | 185 => true
  | 186 => true
  | 187 => true
  | 188 => true
  | 189 => true
  | 190 => true
  | 191 => true
  | 192 => true
  | 193 => true
  | 194 => true
  | _ => false
theorem fnT7_ok : ∀ f, fnT7 f = true → ∀ (args : Array Value) (w : World), (callFunc f args).run Tryz.prog w = .ok (.enter f args) w := by
  intro f h
  unfold fnT7 at h
  split at h
  all_goals first | (cases h; done) | skip
  · exact fun args w => Tryz.call171 args w
  · exact fun args w => Tryz.call172 args w
  · exact fun args w => Tryz.call173 args w
  · exact fun args w => Tryz.call174 args w
  · exact fun args w => Tryz.call175 args w
  · exact fun args w => Tryz.call176 args w
  · exact fun args w => Tryz.call177 args w
  · exact fun args w => Tryz.call178 args w
  · exact fun args w => Tryz.call179 args w
  · exact fun args w => Tryz.call180 args w
  · exact fun args w => Tryz.call181 args w
  · exact fun args w => Tryz.call182 args w
  · exact fun args w => Tryz.call183 args w
  · exact fun args w => Tryz.call184 args w
  · exact fun args w => Tryz.call185 args w
  · exact fun args w => Tryz.call186 args w
  · exact fun args w => Tryz.call187 args w
  · exact fun args w => Tryz.call188 args w
  · exact fun args w => Tryz.call189 args w
  · exact fun args w => Tryz.call190 args w
  · exact fun args w => Tryz.call191 args w
  · exact fun args w => Tryz.call192 args w
  · exact fun args w => Tryz.call193 args w
  · exact fun args w => Tryz.call194 args w
def fnT8 : FuncId → Bool
  | 195 => true
  | 196 => true
  | 197 => true
  | 198 => true
  | 199 => true
  | 200 => true
  | 201 => true
  | 202 => true
  | 203 => true
  | 204 => true
  | 205 => true
  | 206 => true
  | 207 => true
  | 208 => true
  | 209 => true
  | 210 => true
  | 211 => true
  | 212 => true
  | 213 => true
  | 214 => true
  | 215 => true
  | 216 => true
  | 228 => true
  | 229 => true
  | _ => false
theorem fnT8_ok : ∀ f, fnT8 f = true → ∀ (args : Array Value) (w : World), (callFunc f args).run Tryz.prog w = .ok (.enter f args) w := by
  intro f h
  unfold fnT8 at h
  split at h
  all_goals first | (cases h; done) | skip
  · exact fun args w => Tryz.call195 args w
  · exact fun args w => Tryz.call196 args w
  · exact fun args w => Tryz.call197 args w
  · exact fun args w => Tryz.call198 args w
  · exact fun args w => Tryz.call199 args w
  · exact fun args w => Tryz.call200 args w
  · exact fun args w => Tryz.call201 args w
  · exact fun args w => Tryz.call202 args w
  · exact fun args w => Tryz.call203 args w
  · exact fun args w => Tryz.call204 args w
  · exact fun args w => Tryz.call205 args w
  · exact fun args w => Tryz.call206 args w
  · exact fun args w => Tryz.call207 args w
  · exact fun args w => Tryz.call208 args w
  · exact fun args w => Tryz.call209 args w
  · exact fun args w => Tryz.call210 args w
  · exact fun args w => Tryz.call211 args w
  · exact fun args w => Tryz.call212 args w
  · exact fun args w => Tryz.call213 args w
  · exact fun args w => Tryz.call214 args w
  · exact fun args w => Tryz.call215 args w
  · exact fun args w => Tryz.call216 args w
  · exact fun args w => Tryz.call228 args w
  · exact fun args w => Tryz.call229 args w
def fnT9 : FuncId → Bool
  | 230 => true
  | 231 => true
  | 239 => true
  | 240 => true
  | 258 => true
  | 264 => true
  | 279 => true
  | _ => false
theorem fnT9_ok : ∀ f, fnT9 f = true → ∀ (args : Array Value) (w : World), (callFunc f args).run Tryz.prog w = .ok (.enter f args) w := by
  intro f h
  unfold fnT9 at h
  split at h
  all_goals first | (cases h; done) | skip
  · exact fun args w => Tryz.call230 args w
  · exact fun args w => Tryz.call231 args w
  · exact fun args w => Tryz.call239 args w
  · exact fun args w => Tryz.call240 args w
  · exact fun args w => Tryz.call258 args w
  · exact fun args w => Tryz.call264 args w
  · exact fun args w => Tryz.call279 args w
def fnT (f : FuncId) : Bool := fnT0 f || fnT1 f || fnT2 f || fnT3 f || fnT4 f || fnT5 f || fnT6 f || fnT7 f || fnT8 f || fnT9 f
theorem fnT_ok : ∀ f, fnT f = true → ∀ (args : Array Value) (w : World), (callFunc f args).run Tryz.prog w = .ok (.enter f args) w := by
  intro f h
  simp only [fnT, Bool.or_eq_true] at h
  rcases h with (((((((((h | h) | h) | h) | h) | h) | h) | h) | h) | h)
  · exact fnT0_ok f h
  · exact fnT1_ok f h
  · exact fnT2_ok f h
  · exact fnT3_ok f h
  · exact fnT4_ok f h
  · exact fnT5_ok f h
  · exact fnT6_ok f h
  · exact fnT7_ok f h
  · exact fnT8_ok f h
  · exact fnT9_ok f h

def E : TEnv Tryz.prog where
  td := tdT
  tdok := tdT_ok
  el := elT
  elok := elT_ok
  ik := ikT
  ikok := ikT_ok
  bl := blT
  blok := blT_ok
  str := strT
  strok := strT_ok
  cell := cellT
  cellok := cellT_ok
  fnb := fnT
  fnok := fnT_ok
end Go.Proofs.YtgapiecbinplfaaGreat
/- What a walk unfolds. -/
namespace Go.Proofs.YtgapiecbinplfaaGreat
open Go.RowKit

attribute [simp] inB inC inM inR inS op1x cvOp evK evD runOps runPure stepP purish mkF opTmps tmpsOf Op.operands guardA put1 opKind op1 valOp stOp callOp callArgs look del evA evL evP cAV binA intCmpB intArB froz boundA tdT elT ikT strT blT cellT fnT fnT0 fnT1 fnT2 fnT3 fnT4 fnT5 fnT6 fnT7 fnT8 fnT9 keepF E frame0 thenA blockA avOf Ty.agg Ty.size scop scopL Box.scop Box.live Box.isO ofAV ofCells elems AV.cs frozA snapF snapH snap snapL Box.snap storeC AV.one setRange putCells putH renL ren Box.ren DV.av Ty.cells guardTmp Ty.dflt cutL

/-- A number of a row. -/
def gi (l : List Int) (i : Int) : Int := l.getD i.toNat 0
@[simp] theorem at0_int (k : IntKind) (l : List Int) (i : Int) : (at0 (Ty.int k) l i : Int) = gi l i := rfl
theorem gi_lt {l : List Int} {i : Nat} (h : i < l.length) : gi l (i : Int) = l[i] := by simp [gi, h]

/-- A cell, a term, a rule, an instance of a row. -/
def gc (l : List Cell) (i : Int) : Cell := l.getD i.toNat ⟨0, [], 0⟩
def gt (l : List Term) (i : Int) : Term := l.getD i.toNat []
def gr (l : List Rule) (i : Int) : Rule := l.getD i.toNat ⟨0, [], []⟩
def gin (l : List Inst) (i : Int) : Inst := l.getD i.toNat ⟨[], [], []⟩
@[simp] theorem at0_cell (l : List Cell) (i : Int) : (at0 Ty.cell l i : Cell) = gc l i := rfl
@[simp] theorem at0_term (l : List Term) (i : Int) : (at0 (Ty.sl Ty.cell) l i : Term) = gt l i := rfl
@[simp] theorem at0_rule (l : List Rule) (i : Int) : (at0 Ty.rule l i : Rule) = gr l i := rfl
@[simp] theorem at0_inst (l : List Inst) (i : Int) : (at0 Ty.inst l i : Inst) = gin l i := rfl
theorem gc_lt {l : List Cell} {i : Nat} (h : i < l.length) : gc l (i : Int) = l[i] := by simp [gc, h]
theorem gt_lt {l : List Term} {i : Nat} (h : i < l.length) : gt l (i : Int) = l[i] := by simp [gt, h]
theorem gr_lt {l : List Rule} {i : Nat} (h : i < l.length) : gr l (i : Int) = l[i] := by simp [gr, h]
theorem gin_lt {l : List Inst} {i : Nat} (h : i < l.length) : gin l (i : Int) = l[i] := by simp [gin, h]

/-- A program as a value. -/
def pav (g : Prg) : AV := .agg [.d .terms g.atoms, .d (.sl .rule) g.rules]
attribute [simp] pav

@[simp] theorem range_1 : List.range 1 = [0] := rfl
@[simp] theorem range_2 : List.range 2 = [0, 1] := rfl
@[simp] theorem range_3 : List.range 3 = [0, 1, 2] := rfl
@[simp] theorem range_4 : List.range 4 = [0, 1, 2, 3] := rfl
@[simp] theorem range_5 : List.range 5 = [0, 1, 2, 3, 4] := rfl
@[simp] theorem range_6 : List.range 6 = [0, 1, 2, 3, 4, 5] := rfl
@[simp] theorem range_7 : List.range 7 = [0, 1, 2, 3, 4, 5, 6] := rfl
@[simp] theorem range_8 : List.range 8 = [0, 1, 2, 3, 4, 5, 6, 7] := rfl

end Go.Proofs.YtgapiecbinplfaaGreat
/- The rule for functions that take boxes: closures, and those that are handed closures. -/
namespace Go.Proofs.YtgapiecbinplfaaGreat
open Go.RowKit

variable {P : Program}

theorem ctr_full (E : TEnv P) {f : FuncId} {fn : Func} {c : Code} {n : Nat} {rs : Array ResultVar} (hf : P.funcs[f]? = some fn) (hb : fn.body = some c) {args : List AV} {Hin Hout : List Box} {r : AV} (hN : fn.ntmps = n) (hrs : fn.results = rs) (hargs : args.length ≤ n)
    (m : Nat) (hm : Hin.length = m) (hml : Hout.length = m) (hin : ∀ x ∈ Hin, x.live = true ∧ x.isO = false) (hout : ∀ x ∈ Hout, x.scop m = true ∧ x.live = true) (hsc : scop m r = true)
    (h : Ok P m n c (fun e ρ H => (e = .normal ∨ e = .ret) ∧ resAll E.td m H ρ rs.toList = some r ∧ endH m H m H = Hout ∧ m ≤ H.length) (frame0 0 args) Hin) : Ctr P f args Hin r Hout := by
  subst hm
  refine ctr_of E hf hb hN hargs (fun x hx => (hin x hx).2) hout hml (fun x hx => (hin x hx).1) ?_
  rw [hrs]
  exact ok_mono h fun e ρ H hq => ⟨hq.1, hq.2.1, hq.2.2.1, hq.2.2.2, hsc⟩

attribute [simp] endH frozE resAll resL resA Call.operands fillA capsOf putH

def TakesL (H : List Box) (σ0 : List Nat) : List Nat → List Box → Prop
  | s :: σ, x :: xs => H[s]? = some (x.ren σ0) ∧ x.live = true ∧ x.scop σ0.length = true ∧ TakesL H σ0 σ xs
  | [], [] => True
  | _, _ => False
theorem TakesL.len {H : List Box} {σ0 : List Nat} : ∀ {σ : List Nat} {Hin : List Box}, TakesL H σ0 σ Hin → σ.length = Hin.length
  | [], [], _ => rfl
  | s :: σ, x :: xs, h => by simp [TakesL.len h.2.2.2]
  | [], _ :: _, h => h.elim
  | _ :: _, [], h => h.elim
theorem TakesL.get {H : List Box} {σ0 : List Nat} : ∀ {σ : List Nat} {Hin : List Box}, TakesL H σ0 σ Hin → ∀ (i s : Nat) (x : Box), σ[i]? = some s → Hin[i]? = some x → H[s]? = some (x.ren σ0) ∧ x.live = true ∧ x.scop σ0.length = true
  | s :: σ, x :: xs, h, 0, s', x', h1, h2 => by
    simp at h1 h2; subst h1; subst h2; exact ⟨h.1, h.2.1, h.2.2.1⟩
  | s :: σ, x :: xs, h, i + 1, s', x', h1, h2 => TakesL.get h.2.2.2 i s' x' (by simpa using h1) (by simpa using h2)
  | [], [], h, i, s', x', h1, h2 => by simp at h1
theorem Takes.of {H : List Box} {σ : List Nat} {Hin : List Box} (hn : σ.Nodup) (h : TakesL H σ σ Hin) : Takes H σ Hin := ⟨h.len, hn, h.get⟩

attribute [simp] TakesL

end Go.Proofs.YtgapiecbinplfaaGreat
/- Opening and closing of a law: its arguments read as data; behind the call they read as before. -/
namespace Go.Proofs.YtgapiecbinplfaaGreat
open Go.RowKit Go.ChangeShapes Go.WideShapes Go.ChangeAt

def Ty.parts : Ty → List Ty
  | .cell => [.i, .str, .i]
  | .rule => [.i, .ints, .ints]
  | .inst => [.term, .terms, .terms]
  | .table => [.term, .terms]
  | .bind => [.i, .term]
  | _ => []

/-- The fields of a struct lie one behind the other, a cell each. -/
def fitsS (P : Program) (f : Ty → TypeId → Bool) : List Ty → Nat → List Field → Bool
  | [], _, [] => true
  | τ :: τs, i, fl :: fls => decide (fl.offset = i) && decide (P.cellsOf fl.type = 1) && f τ fl.type && fitsS P f τs (i + 1) fls
  | _, _, _ => false

/-- Does a type of the program lie as a type of data does? -/
def fits (P : Program) : Nat → Ty → TypeId → Bool
  | 0, _, _ => false
  | n + 1, τ, t => match τ with
    | .int k => (match P.underlying t with | some (.int k') => decide (k' = k) | _ => false)
    | .bool => (match P.underlying t with | some .bool => true | _ => false)
    | .str => (match P.underlying t with | some .string => true | _ => false)
    | .sl τ' => (match P.underlying t with | some (.slice e) => decide (P.cellsOf e = τ'.size) && fits P n τ' e | _ => false)
    | τ => (match P.underlying t with | some (.struct fs) => decide (P.cellsOf t = τ.parts.length) && fitsS P (fits P n) τ.parts 0 fs.toList | _ => false)

/-- The names in a datum are no longer than a text may be. -/
def strOk : (t : Ty) → t.den → Prop
  | .str, s => s.length ≤ maxLen
  | .cell, c => c.name.length ≤ maxLen
  | .inst, i => (∀ c ∈ i.head, c.name.length ≤ maxLen) ∧ (∀ u ∈ i.pos, ∀ c ∈ u, c.name.length ≤ maxLen) ∧ (∀ u ∈ i.neg, ∀ c ∈ u, c.name.length ≤ maxLen)
  | .table, i => (∀ c ∈ i.call, c.name.length ≤ maxLen) ∧ (∀ u ∈ i.answers, ∀ c ∈ u, c.name.length ≤ maxLen)
  | .bind, i => ∀ c ∈ i.t, c.name.length ≤ maxLen
  | .sl t, xs => ∀ x ∈ xs, strOk t x
  | _, _ => True

theorem strOk_parts : ∀ {t : Ty} {x : t.den}, (∀ d ∈ t.cells x, strOk d.t d.x) → t.parts ≠ [] → strOk t x := by
  intro t x h hp
  cases t with
  | cell => have := h ⟨.str, x.name⟩ (by simp [Ty.cells]); exact this
  | rule => trivial
  | inst => exact ⟨h ⟨.term, x.head⟩ (by simp [Ty.cells]), h ⟨.terms, x.pos⟩ (by simp [Ty.cells]), h ⟨.terms, x.neg⟩ (by simp [Ty.cells])⟩
  | table => exact ⟨h ⟨.term, x.call⟩ (by simp [Ty.cells]), h ⟨.terms, x.answers⟩ (by simp [Ty.cells])⟩
  | bind => exact h ⟨.term, x.t⟩ (by simp [Ty.cells])
  | _ => exact absurd rfl hp

theorem ofParts : ∀ {t : Ty} {ds : List DV}, t.parts ≠ [] → ds.map (·.t) = t.parts → ∃ x : t.den, t.cells x = ds := by
  intro t ds hp h
  cases t with
  | cell =>
    match ds, h with
    | [⟨t1, a⟩, ⟨t2, b⟩, ⟨t3, c⟩], h =>
      simp only [List.map, Ty.parts, List.cons.injEq, and_true] at h
      obtain ⟨rfl, rfl, rfl⟩ := h
      exact ⟨⟨a, b, c⟩, rfl⟩
  | rule =>
    match ds, h with
    | [⟨t1, a⟩, ⟨t2, b⟩, ⟨t3, c⟩], h =>
      simp only [List.map, Ty.parts, List.cons.injEq, and_true] at h
      obtain ⟨rfl, rfl, rfl⟩ := h
      exact ⟨⟨a, b, c⟩, rfl⟩
  | inst =>
    match ds, h with
    | [⟨t1, a⟩, ⟨t2, b⟩, ⟨t3, c⟩], h =>
      simp only [List.map, Ty.parts, List.cons.injEq, and_true] at h
      obtain ⟨rfl, rfl, rfl⟩ := h
      exact ⟨⟨a, b, c⟩, rfl⟩
  | table =>
    match ds, h with
    | [⟨t1, a⟩, ⟨t2, b⟩], h =>
      simp only [List.map, Ty.parts, List.cons.injEq, and_true] at h
      obtain ⟨rfl, rfl⟩ := h
      exact ⟨⟨a, b⟩, rfl⟩
  | bind =>
    match ds, h with
    | [⟨t1, a⟩, ⟨t2, b⟩], h =>
      simp only [List.map, Ty.parts, List.cons.injEq, and_true] at h
      obtain ⟨rfl, rfl⟩ := h
      exact ⟨⟨a, b⟩, rfl⟩
  | _ => exact absurd rfl hp

theorem choose_list {α : Type} {Q : Nat → α → Prop} : ∀ n, (∀ i, i < n → ∃ x, Q i x) → ∃ xs : List α, xs.length = n ∧ ∀ i (h : i < xs.length), Q i xs[i]
  | 0, _ => ⟨[], rfl, fun i h => absurd h (by simp)⟩
  | n + 1, h => by
    obtain ⟨xs, h1, h2⟩ := choose_list n fun i hi => h i (by omega)
    obtain ⟨x, hx⟩ := h n (by omega)
    refine ⟨xs ++ [x], by simp [h1], fun i hi => ?_⟩
    by_cases hl : i < xs.length
    · rw [List.getElem_append_left hl]; exact h2 i hl
    · have : i = n := by simp at hi; omega
      subst this
      rw [List.getElem_append_right (by omega)]
      simpa [h1] using hx

variable {H : Type} {enc : TypeId × Value → H} {P : Program} {W : World} {spare : Nat → Bool} {held : Bool}

/-- All cells of a world's heap. -/
def fzOf (W : World) : Fz := fun b _ => b < W.heap.size

theorem fields_read {n m : Nat} (ih : ∀ (τ : Ty) (t : TypeId) (cs : List Value) r, fits P n τ t = true → DataW.trod enc P W 0 spare held m t cs = some r → ∃ x : τ.den, ElR (fzOf W) W τ x cs ∧ strOk τ x)
    {cs : List Value} : ∀ (τs : List Ty) (i : Nat) (fls : List Field) xs, fitsS P (fits P n) τs i fls = true → cs.length = i + τs.length →
      (fls.mapM fun f => DataW.trod enc P W 0 spare held m f.type ((cs.drop f.offset).take (P.cellsOf f.type))) = some xs →
      ∃ ds : List DV, ds.map (·.t) = τs ∧ CellsR (fzOf W) W ds (cs.drop i) ∧ ∀ d ∈ ds, strOk d.t d.x
  | [], i, [], xs, _, hl, _ => ⟨[], rfl, by simp at hl; show _ = _; rw [List.drop_of_length_le (by omega)], by simp⟩
  | [], i, _ :: _, xs, h, _, _ => by simp [fitsS] at h
  | _ :: _, i, [], xs, h, _, _ => by simp [fitsS] at h
  | τ :: τs, i, fl :: fls, xs, h, hl, hm => by
    simp only [fitsS, Bool.and_eq_true, decide_eq_true_eq] at h
    obtain ⟨⟨⟨h1, h2⟩, h3⟩, h4⟩ := h
    rw [List.mapM_cons] at hm
    cases hx : DataW.trod enc P W 0 spare held m fl.type ((cs.drop fl.offset).take (P.cellsOf fl.type)) with
    | none => simp [hx] at hm
    | some y =>
      cases hxs : (fls.mapM fun f => DataW.trod enc P W 0 spare held m f.type ((cs.drop f.offset).take (P.cellsOf f.type))) with
      | none => simp [hx, hxs] at hm
      | some ys =>
        obtain ⟨ds, e1, e2, e3⟩ := fields_read ih τs (i + 1) fls ys h4 (by simp at hl; omega) hxs
        rw [h1, h2] at hx
        obtain ⟨x, hr, hs⟩ := ih τ fl.type _ y h3 hx
        have hi : i < cs.length := by simp at hl; omega
        have ed : cs.drop i = cs[i] :: cs.drop (i + 1) := List.drop_eq_getElem_cons hi
        rw [ed] at hr
        simp only [List.take_succ_cons, List.take_zero] at hr
        refine ⟨⟨τ, x⟩ :: ds, by simp [e1], ?_, ?_⟩
        · rw [ed]; exact ⟨_, _, rfl, hr, e2⟩
        · intro d hd
          rcases List.mem_cons.1 hd with rfl | hd
          · exact hs
          · exact e3 d hd

/-- WHAT TRODS READS. -/
theorem trod_reads : ∀ (n m : Nat) (τ : Ty) (t : TypeId) (cs : List Value) r, fits P n τ t = true → DataW.trod enc P W 0 spare held m t cs = some r → ∃ x : τ.den, ElR (fzOf W) W τ x cs ∧ strOk τ x
  | 0, _, _, _, _, _, h, _ => by simp [fits] at h
  | _ + 1, 0, _, _, _, _, _, h => by simp [DataW.trod] at h
  | n + 1, m + 1, τ, t, cs, r, hf, h => by
    have ih := fun τ t cs r => trod_reads n m τ t cs r
    have agg : ∀ fs : Array Field, P.underlying t = some (.struct fs) → τ.parts ≠ [] → P.cellsOf t = τ.parts.length → fitsS P (fits P n) τ.parts 0 fs.toList = true → ∃ x : τ.den, ElR (fzOf W) W τ x cs ∧ strOk τ x := by
      intro fs hu hp hc hfs
      rw [DataW.trod_step] at h
      simp only [DataW.trodStep, hu] at h
      split at h
      · rename_i hl
        cases hm : (fs.toList.mapM fun f => DataW.trod enc P W 0 spare held m f.type ((cs.drop f.offset).take (P.cellsOf f.type))) with
        | none => simp [hm] at h
        | some ys =>
          obtain ⟨ds, e1, e2, e3⟩ := fields_read ih τ.parts 0 fs.toList ys hfs (by omega) hm
          obtain ⟨x, hx⟩ := ofParts hp e1
          refine ⟨x, ElR_cells.2 ?_, strOk_parts ?_ hp⟩
          · rw [hx]; simpa using e2
          · rw [hx]; exact e3
      · cases h
    cases τ with
    | int k =>
      simp only [fits] at hf
      split at hf
      · rename_i k' hu
        simp only [decide_eq_true_eq] at hf
        subst hf
        obtain ⟨x, rfl, _⟩ := DataW.trod_int hu h
        exact ⟨x, rfl, trivial⟩
      · cases hf
    | bool =>
      simp only [fits] at hf
      split at hf
      · rename_i hu
        obtain ⟨x, rfl, _⟩ := DataW.trod_bool hu h
        exact ⟨x, rfl, trivial⟩
      · cases hf
    | str =>
      simp only [fits] at hf
      split at hf
      · rename_i hu
        obtain ⟨x, rfl, _, hs⟩ := DataW.trod_string hu h
        exact ⟨x.data.toList, by show _ = _; simp, by show _ ≤ _; simpa using hs⟩
      · cases hf
    | sl τ' =>
      simp only [fits] at hf
      split at hf
      · rename_i e hu
        simp only [Bool.and_eq_true, decide_eq_true_eq] at hf
        obtain ⟨hc, hf⟩ := hf
        rcases DataW.trod_slice hu h with ⟨rfl, _⟩ | ⟨a, len, cap, elems, rest, n', hn, rfl, _, _, h1, h2, h3, h4, _⟩
        · exact ⟨([] : List τ'.den), ⟨_, rfl, none, 0, rfl, by simp, by simp [maxLen], fun h => absurd rfl h⟩, fun x hx => by cases hx⟩
        · have hnn : n' = m := by omega
          subst hnn
          have hex : ∀ i, i < len → ∃ x : τ'.den, (∃ cs, cs.length = τ'.size ∧ (∀ j, j < τ'.size → W.cell? ((a.add (i * τ'.size)).add j) = cs[j]?) ∧ ElR (fzOf W) W τ' x cs) ∧ strOk τ' x := by
            intro i hi
            have := h4 i hi
            rw [hc] at this
            cases hcs : W.cells? 0 (a.add (i * τ'.size)) τ'.size with
            | none => rw [hcs] at this; simp only [Option.bind_none] at this; have := List.getElem?_eq_none_iff.1 this.symm; omega
            | some cs =>
              rw [hcs] at this
              simp only [Option.bind_some] at this
              rw [List.getElem?_eq_getElem (by omega)] at this
              obtain ⟨x, hx, hs⟩ := ih τ' e cs _ hf this
              obtain ⟨_, k1, k2⟩ := World.cells?_some hcs
              exact ⟨x, ⟨cs, k1, k2, hx⟩, hs⟩
          obtain ⟨xs, e1, e2⟩ := choose_list len hex
          subst e1
          refine ⟨xs, ⟨_, rfl, some a, cap, rfl, h1, h2, fun hne => ?_⟩, fun x hx => ?_⟩
          · have hspot : a.spot = none := by
              have hl : 0 < xs.length := List.length_pos_iff.2 hne
              obtain ⟨⟨cs, k1, k2, _⟩, _⟩ := e2 0 hl
              have hz : 0 < τ'.size := by cases τ' <;> simp [Ty.size]
              have := k2 0 hz
              rw [List.getElem?_eq_getElem (by omega)] at this
              have := World.cell?_spot this
              unfold Addr.add at this
              split at this <;> simp_all
            obtain ⟨b, o, sp⟩ := a
            subst hspot
            refine ⟨b, o, rfl, fun i hi => ?_⟩
            obtain ⟨⟨cs, k1, k2, k3⟩, _⟩ := e2 i hi
            refine ⟨cs, k1, fun j hj => ?_, k3⟩
            have := k2 j (by omega)
            rw [List.getElem?_eq_getElem hj, add_plain, add_plain] at this
            exact ⟨World.block_lt_of_cell? _ _ this, this⟩
          · obtain ⟨i, hi, rfl⟩ := List.mem_iff_getElem.1 hx
            exact (e2 i hi).2
      · cases hf
    | cell =>
      simp only [fits] at hf
      split at hf
      · rename_i fs hu
        simp only [Bool.and_eq_true, decide_eq_true_eq] at hf
        exact agg fs hu (by simp [Ty.parts]) hf.1 hf.2
      · cases hf
    | rule =>
      simp only [fits] at hf
      split at hf
      · rename_i fs hu
        simp only [Bool.and_eq_true, decide_eq_true_eq] at hf
        exact agg fs hu (by simp [Ty.parts]) hf.1 hf.2
      · cases hf
    | inst =>
      simp only [fits] at hf
      split at hf
      · rename_i fs hu
        simp only [Bool.and_eq_true, decide_eq_true_eq] at hf
        exact agg fs hu (by simp [Ty.parts]) hf.1 hf.2
      · cases hf
    | table =>
      simp only [fits] at hf
      split at hf
      · rename_i fs hu
        simp only [Bool.and_eq_true, decide_eq_true_eq] at hf
        exact agg fs hu (by simp [Ty.parts]) hf.1 hf.2
      · cases hf
    | bind =>
      simp only [fits] at hf
      split at hf
      · rename_i fs hu
        simp only [Bool.and_eq_true, decide_eq_true_eq] at hf
        exact agg fs hu (by simp [Ty.parts]) hf.1 hf.2
      · cases hf

/-- The arguments of a law. -/
theorem trod_one {τ : Ty} {t : TypeId} {v : Value} {d : DataW H} {p : List MemPlace} (n : Nat) (hf : fits P n τ t = true) (hv : v.cells.toList = [v]) (h : DataW.Trod enc P W 0 spare held t v d p) :
    ∃ x : τ.den, RdA (fzOf W) [] W (.d τ x) v ∧ strOk τ x := by
  obtain ⟨m, hm⟩ := h
  obtain ⟨x, h1, h2⟩ := trod_reads n m τ t _ _ hf hm
  rw [hv] at h1
  exact ⟨x, by simpa only [RdA] using h1, h2⟩

theorem rdl_of_cells : ∀ (ds : List DV) (vs : List Value), CellsR (fzOf W) W ds vs → RdL (fzOf W) [] W (ds.map fun d => .d d.t d.x) vs
  | [], _, h => by simp only [List.map, RdL]; exact h
  | d :: ds, _, ⟨v, r, e, h1, h2⟩ => by
    simp only [List.map, RdL]
    exact ⟨v, r, e, by simpa only [RdA] using h1, rdl_of_cells ds r h2⟩

theorem trod_agg {τs : List Ty} {t : TypeId} {fs : Array Field} {v : Value} {d : DataW H} {p : List MemPlace} (n : Nat) (hu : P.underlying t = some (.struct fs)) (hc : P.cellsOf t = τs.length) (hf : fitsS P (fits P n) τs 0 fs.toList = true)
    {r : Reach} {b0 : Nat} (hok : Value.okWide P W r b0 t v) (h : DataW.Trod enc P W 0 spare held t v d p) :
    ∃ ds : List DV, ds.map (·.t) = τs ∧ RdA (fzOf W) [] W (.agg (ds.map fun d => .d d.t d.x)) v ∧ ∀ d ∈ ds, strOk d.t d.x := by
  obtain ⟨m, hm⟩ := h
  obtain ⟨cs, rfl, hsz⟩ := okWide_struct hu hok
  cases m with
  | zero => simp [DataW.trod] at hm
  | succ m =>
    rw [DataW.trod_step] at hm
    simp only [DataW.trodStep, hu] at hm
    split at hm
    · rename_i hl
      cases hmm : (fs.toList.mapM fun f => DataW.trod enc P W 0 spare held m f.type (((Value.agg cs).cells.toList.drop f.offset).take (P.cellsOf f.type))) with
      | none => simp [hmm] at hm
      | some ys =>
        obtain ⟨ds, e1, e2, e3⟩ := fields_read (fun τ t cs r => trod_reads n m τ t cs r) τs 0 fs.toList ys hf (by omega) hmm
        refine ⟨ds, e1, ?_, e3⟩
        simp only [RdA]
        exact ⟨cs.toList, by simp, rdl_of_cells ds _ (by simpa [Value.cells] using e2)⟩
    · cases hm

theorem sl_cells {t e : TypeId} {v : Value} {r : Reach} {b0 : Nat} (hu : P.underlying t = some (.slice e)) (hok : Value.okWide P W r b0 t v) : v.cells.toList = [v] := by
  obtain ⟨a, l, c, rfl⟩ := okWide_slice hu hok
  rfl
theorem int_cells {t : TypeId} {k : IntKind} {v : Value} {d : DataW H} {p : List MemPlace} {r : Reach} {b0 : Nat} (hu : P.underlying t = some (.int k)) (hok : Value.okWide P W r b0 t v) (h : DataW.Trod enc P W 0 spare held t v d p) : v.cells.toList = [v] := by
  obtain ⟨x, rfl, _⟩ := open_int hu hok h
  rfl

/-- A call with such arguments returns true and leaves all as it was. -/
theorem law_calls {f : FuncId} {avs : List AV} {args : Array Value} (hc : Ctr P f avs [] (.d .bool true) []) (hr : RdL (fzOf W) [] W avs args.toList) :
    Calls P f args W fun e W' => e = .returned (.bool true) ∧ Below W.heap.size W W' := by
  have := hc (fzOf W) [] W args.toList ⟨rfl, fun i g h => by simp at h, fun i g x h => by simp at h, fun i j gi gj xi xj _ h => by simp at h⟩ (fun b o h => h) hr
  rw [Array.toArray_toList] at this
  refine this.mono fun e W' ⟨v, fz', he, hv, _, ha, _⟩ => ?_
  subst he
  have hv' : v = .bool true := by
    have : ElR fz' W' .bool true [v] := by simpa only [RdA] using hv
    have h2 : [v] = [Value.bool true] := this
    simpa using h2
  subst hv'
  refine ⟨rfl, ha.os, ha.tape, ha.output, ha.size, fun k hk => ha.block k hk ?_⟩
  rintro ⟨i, g, hg, _⟩
  simp at hg

theorem trodAll_below {W W' : World} (hl : laidOutB P = true) (hb : Below W.heap.size W W') : ∀ {ts : List TypeId} {vs : List Value} {ds : List (DataW H)} {ps : List MemPlace},
    (∀ t ∈ ts, P.readableRec t = true ∧ t < P.types.size) → DataW.TrodAll enc P W 0 (fun _ => true) true ts vs ds ps → DataW.TrodAll enc P W' 0 (fun b => decide (b < W.heap.size)) true ts vs ds ps
  | [], [], [], _, _, h => h
  | t :: ts, v :: vs, d :: ds, ps, hr, h => by
    have hlt := h.lt
    obtain ⟨p, q, h1, h2, rfl⟩ := h
    exact ⟨p, q, Below.trod hl (hr t (by simp)).1 (hr t (by simp)).2 h1 hb (fun x hx => hlt x (by simp [hx])), trodAll_below hl hb (fun t ht => hr t (by simp [ht])) h2, rfl⟩
  | [], [], _ :: _, _, _, h => h.elim
  | [], _ :: _, _, _, _, h => by cases h
  | _ :: _, [], _, _, _, h => by cases h
  | _ :: _, _ :: _, [], _, _, h => h.elim

/-- THE END OF A LAW. -/
theorem law_end {s : ChangeSpec} {fn : Func} {f : FuncId} (hl : laidOutB P = true) (hvars : s.vars = []) (hres : fn.resultTypes = #[4]) (hu4 : P.underlying 4 = some .bool) {k : Nat} (hk : fn.params.size = k)
    (hpar : ∀ t ∈ fn.params.toList, P.readableRec t = true ∧ t < P.types.size)
    {args : Array Value} {ds gs : List (DataW H)} {before : List MemPlace} {apart : Bool} (hsp : ∀ ds : List (DataW H), ds.length = k → s.fn H ds = { results := [.lit (.bool true)], args := ds })
    (hW : DataW.Whole enc P fn.params.toList s.vars apart W args.toList ds gs before)
    (hc : Calls P f args W fun e W' => e = .returned (.bool true) ∧ Below W.heap.size W W') :
    Calls P f args W fun e W' => ∃ v, e = .returned v ∧ s.post enc P fn apart true false false W args v W' := by
  have hW' := hW
  obtain ⟨p, q, hA, hV, rfl, _, _⟩ := hW
  rw [hvars] at hV
  obtain ⟨rfl, rfl⟩ := trodVars_none hV
  have hlen : ds.length = k := by
    have : ∀ {ts : List TypeId} {vs : List Value} {ds : List (DataW H)} {ps : List MemPlace}, DataW.TrodAll enc P W 0 (fun _ => true) true ts vs ds ps → ds.length = ts.length := by
      intro ts
      induction ts with
      | nil => intro vs ds ps h; cases vs <;> cases ds <;> first | rfl | exact h.elim
      | cons t ts ih =>
        intro vs ds ps h
        cases vs with
        | nil => cases ds <;> exact h.elim
        | cons v vs => cases ds with
          | nil => exact h.elim
          | cons d ds => obtain ⟨p, q, _, h2, _⟩ := h; simp [ih h2]
    rw [this hA, ← hk]; simp
  refine hc.mono fun e W' ⟨he, hn⟩ => ?_
  subst he
  have hfn := hsp ds hlen
  refine ⟨_, rfl, ds, [], p ++ [], [], p, [], hW', ?_, ?_, ?_, hn.frame _, fun h => by cases h⟩
  · rw [List.append_nil, hfn, hres]
    exact trodAll_mk1 ⟨1, by simp [DataW.trod, Value.cells, hu4]⟩
  · rw [List.append_nil, hfn]
    exact trodAll_below hl hn hpar hA
  · rw [List.append_nil, hfn, hvars]
    rfl

theorem own : ownKnob Tryz.prog.godebug = none := by kernel_rfl
theorem laidOut : laidOutB Tryz.prog = true := by kernel_rfl
end Go.Proofs.YtgapiecbinplfaaGreat
/- What the functions compute: plain definitions. -/
namespace Go.Proofs.YtgapiecbinplfaaGreat
open Go.RowKit

def rRow : List Int → List Int → Int
  | x :: xs, y :: ys => if x = y then rRow xs ys else IntKind.i64.wrap (x - y)
  | xs, ys => IntKind.i64.wrap ((xs.length : Int) - ys.length)

theorem rRow_end : ∀ {xs ys : List Int}, xs.length = 0 ∨ ys.length = 0 → rRow xs ys = IntKind.i64.wrap ((xs.length : Int) - ys.length)
  | [], _, _ => by simp [rRow]
  | _ :: _, [], _ => by simp [rRow]
  | _ :: _, _ :: _, h => by simp at h

instance : DecidableEq Cell := fun a b =>
  if h : a.kind = b.kind ∧ a.name = b.name ∧ a.n = b.n then isTrue (by cases a; cases b; simp at h; obtain ⟨rfl, rfl, rfl⟩ := h; rfl) else isFalse (by rintro rfl; simp at h)
theorem cell_ext {a b : Cell} : (a.kind = b.kind ∧ a.name = b.name ∧ a.n = b.n) ↔ a = b := by
  constructor
  · intro h; cases a; cases b; simp at h; obtain ⟨rfl, rfl, rfl⟩ := h; rfl
  · rintro rfl; simp

/-- All that stand ahead of the end. -/
theorem take_ne {α : Type} {a b : List α} {i : Nat} (ha : i < a.length) (hb : i < b.length) (h : a.take i = b.take i) (hx : a[i] = b[i]) : a.take (i + 1) = b.take (i + 1) := by
  rw [List.take_succ_eq_append_getElem ha, List.take_succ_eq_append_getElem hb, h, hx]
theorem take_end {α : Type} {a b : List α} {i : Nat} (hl : a.length = b.length) (hi : ¬ i < a.length) (h : a.take i = b.take i) : a = b := by
  rw [List.take_of_length_le (by omega), List.take_of_length_le (by omega)] at h; exact h

def cmpI (x y : Int) : Int := if x < y then -1 else if y < x then 1 else 0

def rOrder (a b : Rule) : Int := if a.head ≠ b.head then IntKind.i64.wrap (a.head - b.head) else if rRow a.pos b.pos ≠ 0 then rRow a.pos b.pos else rRow a.neg b.neg

/-- Numbers from 0 to one, rising. -/
def SetOk (l : List Int) (n : Int) (k : Nat) : Prop := ∀ i : Nat, i < k → 0 ≤ gi l i ∧ gi l i < n ∧ (0 < i → gi l ((i : Int) - 1) < gi l i)
instance (l : List Int) (n : Int) (k : Nat) : Decidable (SetOk l n k) := by unfold SetOk; infer_instance
def setOk (l : List Int) (n : Int) : Bool := decide (SetOk l n l.length)

def okB (b : UInt8) : Bool := decide (32 ≤ b.toNat ∧ b.toNat ≤ 126 ∧ b.toNat ≠ 39)
def nameOk (s : List UInt8) : Bool := decide (1 ≤ s.length ∧ s.length ≤ 12) && s.all okB
def cellOk (c : Cell) : Bool :=
  if c.kind = 1 then decide (c.name = [] ∧ 0 ≤ c.n ∧ c.n ≤ 999)
  else if c.kind = 2 then decide (c.name = [] ∧ -2147483647 ≤ c.n ∧ c.n ≤ 2147483647)
  else if c.kind = 3 then nameOk c.name && decide (0 ≤ c.n ∧ c.n ≤ 6)
  else false
def openOf (c : Cell) (o : Int) : Int := o - 1 + (if c.kind = 3 then c.n else 0)
def endR : List Cell → Int → Nat → Int
  | [], _, _ => -1
  | c :: cs, o, k => if cellOk c = false then -1 else if openOf c o = 0 then (k : Int) + 1 else endR cs (openOf c o) (k + 1)
def rightT (t : List Cell) : Bool := decide (1 ≤ t.length ∧ t.length ≤ 200) && decide (endR t 1 0 = t.length)
def atomT (t : List Cell) : Bool := rightT t && decide ((gc t 0).kind = 3)
def varsStep (l : List Int) (c : Cell) : List Int := if c.kind = 1 ∧ ¬ c.n ∈ l then l ++ [c.n] else l
def varsT (t : List Cell) : List Int := t.foldl varsStep []
def groundT (t : List Cell) : Bool := decide ((varsT t).length = 0)

def cellLess (x y : Cell) : Bool := decide (x.kind < y.kind) || (decide (x.kind = y.kind) && (decide (x.n < y.n) || (decide (x.n = y.n) && Op.bytesLess x.name y.name)))
/-- An order of terms: the first cell that differs. -/
def cmpT : List Cell → List Cell → Int
  | x :: xs, y :: ys => if x = y then cmpT xs ys else if cellLess x y = true then -1 else 1
  | _, _ => 0
theorem cmpT_end : ∀ {xs ys : List Cell}, xs.length = 0 ∨ ys.length = 0 → cmpT xs ys = 0
  | [], _, _ => by simp [cmpT]
  | _ :: _, [], _ => by simp [cmpT]
  | _ :: _, _ :: _, h => by simp at h

/-- Names are no longer than any row. -/
def NmOk (t : List Cell) : Prop := ∀ c ∈ t, c.name.length ≤ 9223372036854775807

theorem cellOk_n {c : Cell} (h : cellOk c = true) (hk : c.kind = 3) : 0 ≤ c.n ∧ c.n ≤ 6 := by
  simp [cellOk, hk] at h; exact h.2
theorem rightT_len {t : List Cell} (h : rightT t = true) : 0 < t.length ∧ t.length ≤ 200 := by
  simp [rightT] at h; omega

theorem atomT_len {t : List Cell} (h : atomT t = true) : 0 < t.length ∧ t.length ≤ 200 := by
  simp [atomT] at h; exact rightT_len h.1
theorem vars_len (t : List Cell) (l : List Int) : (t.foldl varsStep l).length ≤ l.length + t.length := by
  induction t generalizing l with
  | nil => simp
  | cons c t ih =>
    simp only [List.foldl_cons, List.length_cons]
    refine Nat.le_trans (ih _) ?_
    unfold varsStep; split <;> simp <;> omega
theorem varsT_len (t : List Cell) : (varsT t).length ≤ t.length := by
  have := vars_len t []; simpa [varsT] using this
theorem varsT_step {t : List Cell} {i : Nat} (h : i < t.length) : varsT (t.take (i + 1)) = varsStep (varsT (t.take i)) (gc t i) := by
  rw [List.take_succ_eq_append_getElem h, varsT, List.foldl_append, gc_lt h]; rfl

/-- Is a program no greater than the statements look at? -/
def SmallP (g : Prg) : Prop := g.atoms.length ≤ 80 ∧ g.rules.length ≤ 200 ∧ (∀ i : Nat, i < g.atoms.length → (gt g.atoms i).length ≤ 200) ∧ ∀ i : Nat, i < g.rules.length → (gr g.rules i).pos.length ≤ 80 ∧ (gr g.rules i).neg.length ≤ 80
instance (g : Prg) : Decidable (SmallP g) := by unfold SmallP; infer_instance
def greatP (g : Prg) : Bool := !decide (SmallP g)

def AtomsOk (l : List Term) (k : Nat) : Prop := ∀ i : Nat, i < k → atomT (gt l i) = true ∧ groundT (gt l i) = true ∧ (0 < i → cmpT (gt l ((i : Int) - 1)) (gt l i) < 0)
instance (l : List Term) (k : Nat) : Decidable (AtomsOk l k) := by unfold AtomsOk; infer_instance
def RulesOk (l : List Rule) (n : Int) (k : Nat) : Prop := ∀ i : Nat, i < k → 0 ≤ (gr l i).head ∧ (gr l i).head < n ∧ setOk (gr l i).pos n = true ∧ setOk (gr l i).neg n = true ∧ (0 < i → rOrder (gr l ((i : Int) - 1)) (gr l i) < 0)
instance (l : List Rule) (n : Int) (k : Nat) : Decidable (RulesOk l n k) := by unfold RulesOk; infer_instance
/-- Is a program right? -/
def rightP (g : Prg) : Bool := decide (AtomsOk g.atoms g.atoms.length) && decide (RulesOk g.rules g.atoms.length g.rules.length)

/-- The rules of an atom. -/
def ofR (l : List Rule) (n : Int) (k : Nat) : List Int := ((List.range k).filter fun i : Nat => decide ((gr l (i : Int)).head = n)).map fun i : Nat => (i : Int)
theorem ofR_step (l : List Rule) (n : Int) (k : Nat) : ofR l n (k + 1) = ofR l n k ++ (if (gr l (k : Int)).head = n then [(k : Int)] else []) := by
  unfold ofR
  rw [List.range_succ, List.filter_append, List.map_append]
  congr 1
  by_cases h : (gr l (k : Int)).head = n <;> simp [h]
theorem ofR_len (l : List Rule) (n : Int) (k : Nat) : (ofR l n k).length ≤ k := by
  unfold ofR; rw [List.length_map]; exact Nat.le_trans (List.length_filter_le _ _) (by simp)

end Go.Proofs.YtgapiecbinplfaaGreat
